/-
  No cell of these rows narrows 'for every input' (looked for: loops, veiled, ifaces, maps, wideKeys, modest, calm, conditions, laid).
  DERIVED. THE GIVEN ROWS OF THIS SEAT. 5 by the template 'for every input the law returns true; each argument reads behind the call as it read before'; 0 by the template 'total and deterministic' (their statements: YtdkmndimmpilaaaTotals.lean).
  GIVEN WITH THE SEED: the statements are not yours to turn. If you find one false, say at which input.
  Laid BY PROGRAM, IN A SANDBOX (cutbox-rows.mjs): the forced cells as the released guide's own fill.sh prints them over the translation 52885d5383affaeb… (all of the seat's roots in one cut). By AI agents, Wed Nov 11 2026. No macro, syntax, notation, axiom, sorry.
-/
import Derived.Test.YtdkmndimmpilaaaChecked
import GoSem.Claim
import GoSem.ClaimJoined
import GoSem.ClaimMapViews
import Derived.JoinedTies
import Derived.KernelRfl
namespace Go.Proofs.Ytdkmndimmpilaaa
/- THE CELL 'sum', in the pinned program and in every row, IS THE sha256 OF THE DUMP (.gsa) THAT YtdkmndimmpilaaaProg.lean LOADS. Nothing in Lean hashes anything: it is a label: what it is worth is what the hold of that sum in a sandbox is worth. -/
noncomputable def Try.pinned : Pinned := { name := "ytdkmndimmpilaaa", sum := "52885d5383affaebb537636e48d50d4803582b6ae1dde9702f07552b519143bc", checked := Try.checked }
namespace Rows
def none {H : Type} : Left H := { results := [], args := [] }

/-- 'mustlaw.SeatSays': WHATEVER THE INPUT: true; the input reads as it did. -/
def seatSaysSpec : ChangeSpec := { name := "seatSays", fn := fun _ => fun
  | [d1, d2, d3] => { results := [.lit (.bool true)], args := [d1, d2, d3] }
  | _ => none }
def seatSaysRow : OpenClaim := { program := "ytdkmndimmpilaaa", sum := "52885d5383affaebb537636e48d50d4803582b6ae1dde9702f07552b519143bc", func := "musterfield/mustlaw.SeatSays", spec := "seatSays", unfollowed := true, recurses := true, apart := false }
def SeatSaysSaid : Prop := seatSaysRow.holds Try.pinned (OpenSpec.ofChange seatSaysSpec)

/-- ITS FALSE NEIGHBOUR: 'it returns false'. Refute it at one input. -/
def seatSaysWrong : ChangeSpec := { name := "seatSays", fn := fun _ => fun
  | [d1, d2, d3] => { results := [.lit (.bool false)], args := [d1, d2, d3] }
  | _ => none }
def SeatSaysWrongFalsely : Prop := seatSaysRow.holds Try.pinned (OpenSpec.ofChange seatSaysWrong)

/-- 'mustlaw.OrderSays': WHATEVER THE INPUT: true; the input reads as it did. -/
def orderSaysSpec : ChangeSpec := { name := "orderSays", fn := fun _ => fun
  | [d1, d2, d3] => { results := [.lit (.bool true)], args := [d1, d2, d3] }
  | _ => none }
def orderSaysRow : OpenClaim := { program := "ytdkmndimmpilaaa", sum := "52885d5383affaebb537636e48d50d4803582b6ae1dde9702f07552b519143bc", func := "musterfield/mustlaw.OrderSays", spec := "orderSays", inPlace := ["internal/abi.NoEscape"], unfollowed := true, recurses := true, apart := false }
def OrderSaysSaid : Prop := orderSaysRow.holds Try.pinned (OpenSpec.ofChange orderSaysSpec)

/-- ITS FALSE NEIGHBOUR: 'it returns false'. Refute it at one input. -/
def orderSaysWrong : ChangeSpec := { name := "orderSays", fn := fun _ => fun
  | [d1, d2, d3] => { results := [.lit (.bool false)], args := [d1, d2, d3] }
  | _ => none }
def OrderSaysWrongFalsely : Prop := orderSaysRow.holds Try.pinned (OpenSpec.ofChange orderSaysWrong)

/-- 'mustlaw.StoryShown': WHATEVER THE INPUT: true; the input reads as it did. -/
def storyShownSpec : ChangeSpec := { name := "storyShown", fn := fun _ => fun
  | [d1, d2, d3, d4, d5] => { results := [.lit (.bool true)], args := [d1, d2, d3, d4, d5] }
  | _ => none }
def storyShownRow : OpenClaim := { program := "ytdkmndimmpilaaa", sum := "52885d5383affaebb537636e48d50d4803582b6ae1dde9702f07552b519143bc", func := "musterfield/mustlaw.StoryShown", spec := "storyShown", unfollowed := true, recurses := true, apart := false }
def StoryShownSaid : Prop := storyShownRow.holds Try.pinned (OpenSpec.ofChange storyShownSpec)

/-- ITS FALSE NEIGHBOUR: 'it returns false'. Refute it at one input. -/
def storyShownWrong : ChangeSpec := { name := "storyShown", fn := fun _ => fun
  | [d1, d2, d3, d4, d5] => { results := [.lit (.bool false)], args := [d1, d2, d3, d4, d5] }
  | _ => none }
def StoryShownWrongFalsely : Prop := storyShownRow.holds Try.pinned (OpenSpec.ofChange storyShownWrong)

/-- 'mustlaw.LinkDoes': WHATEVER THE INPUT: true; the input reads as it did. -/
def linkDoesSpec : ChangeSpec := { name := "linkDoes", fn := fun _ => fun
  | [d1, d2, d3] => { results := [.lit (.bool true)], args := [d1, d2, d3] }
  | _ => none }
def linkDoesRow : OpenClaim := { program := "ytdkmndimmpilaaa", sum := "52885d5383affaebb537636e48d50d4803582b6ae1dde9702f07552b519143bc", func := "musterfield/mustlaw.LinkDoes", spec := "linkDoes", inPlace := ["slices.overlaps[int]"], unfollowed := true, recurses := true, apart := false }
def LinkDoesSaid : Prop := linkDoesRow.holds Try.pinned (OpenSpec.ofChange linkDoesSpec)

/-- ITS FALSE NEIGHBOUR: 'it returns false'. Refute it at one input. -/
def linkDoesWrong : ChangeSpec := { name := "linkDoes", fn := fun _ => fun
  | [d1, d2, d3] => { results := [.lit (.bool false)], args := [d1, d2, d3] }
  | _ => none }
def LinkDoesWrongFalsely : Prop := linkDoesRow.holds Try.pinned (OpenSpec.ofChange linkDoesWrong)

/-- 'mustlaw.LinkPlays': WHATEVER THE INPUT: true; the input reads as it did. -/
def linkPlaysSpec : ChangeSpec := { name := "linkPlays", fn := fun _ => fun
  | [d1, d2] => { results := [.lit (.bool true)], args := [d1, d2] }
  | _ => none }
def linkPlaysRow : OpenClaim := { program := "ytdkmndimmpilaaa", sum := "52885d5383affaebb537636e48d50d4803582b6ae1dde9702f07552b519143bc", func := "musterfield/mustlaw.LinkPlays", spec := "linkPlays", inPlace := ["slices.overlaps[int]"], unfollowed := true, recurses := true, apart := false }
def LinkPlaysSaid : Prop := linkPlaysRow.holds Try.pinned (OpenSpec.ofChange linkPlaysSpec)

/-- ITS FALSE NEIGHBOUR: 'it returns false'. Refute it at one input. -/
def linkPlaysWrong : ChangeSpec := { name := "linkPlays", fn := fun _ => fun
  | [d1, d2] => { results := [.lit (.bool false)], args := [d1, d2] }
  | _ => none }
def LinkPlaysWrongFalsely : Prop := linkPlaysRow.holds Try.pinned (OpenSpec.ofChange linkPlaysWrong)

/- THE SECOND FORM. 'bulk': how many values and letters a reading holds, each counted each time it is reached (what is shared counts as often as it is met; a slice's spare places count too). A statement '..UptoSaid' is the law's where the arguments, and the package variables that the reading takes, are together of bulk at most 1048576: NARROWER than '..Said'. Prove '..Said' where nothing that the law and all that it calls make is longer than what came in: it says more and counts as full. Else prove '..UptoSaid'. A law counts once. -/
mutual
def uptoBulk {H : Type} : DataW H → Nat
  | .lit (.string bytes) => bytes.length + 1
  | .lit _ => 1
  | .nil => 1
  | .ptr d => uptoBulk d + 1
  | .slice elems spare => uptoBulkAll elems + uptoBulkAll spare + 1
  | .agg parts => uptoBulkAll parts + 1
  | .iface _ d => uptoBulk d + 1
  | .map entries => uptoBulkEntries entries + 1
  | .held _ => 1
def uptoBulkAll {H : Type} : List (DataW H) → Nat
  | [] => 0
  | d :: r => uptoBulk d + uptoBulkAll r
def uptoBulkEntries {H : Type} : List (Lit × DataW H) → Nat
  | [] => 0
  | x :: r => uptoBulkEntry x + uptoBulkEntries r
def uptoBulkEntry {H : Type} : Lit × DataW H → Nat
  | (.string bytes, d) => bytes.length + uptoBulk d + 1
  | (_, d) => uptoBulk d + 1
 end
def uptoSmall : (H : Type) → List (DataW H) → Bool := fun _ ds => decide (uptoBulkAll ds ≤ 1048576)
def OpenSpec.upto (s : _root_.Go.ChangeSpec) : _root_.Go.OpenSpec := { _root_.Go.OpenSpec.ofChange s with cond := some uptoSmall }

/-- 'mustlaw.SeatSays', WHERE WHAT IT READS IS OF BULK AT MOST 1048576: true; the input reads as it did. -/
def seatSaysUptoRow : OpenClaim := { program := "ytdkmndimmpilaaa", sum := "52885d5383affaebb537636e48d50d4803582b6ae1dde9702f07552b519143bc", func := "musterfield/mustlaw.SeatSays", spec := "seatSays", unfollowed := true, recurses := true, apart := false, narrowed := true }
def SeatSaysUptoSaid : Prop := seatSaysUptoRow.holds Try.pinned (OpenSpec.upto seatSaysSpec)

/-- 'mustlaw.OrderSays', WHERE WHAT IT READS IS OF BULK AT MOST 1048576: true; the input reads as it did. -/
def orderSaysUptoRow : OpenClaim := { program := "ytdkmndimmpilaaa", sum := "52885d5383affaebb537636e48d50d4803582b6ae1dde9702f07552b519143bc", func := "musterfield/mustlaw.OrderSays", spec := "orderSays", inPlace := ["internal/abi.NoEscape"], unfollowed := true, recurses := true, apart := false, narrowed := true }
def OrderSaysUptoSaid : Prop := orderSaysUptoRow.holds Try.pinned (OpenSpec.upto orderSaysSpec)

/-- 'mustlaw.StoryShown', WHERE WHAT IT READS IS OF BULK AT MOST 1048576: true; the input reads as it did. -/
def storyShownUptoRow : OpenClaim := { program := "ytdkmndimmpilaaa", sum := "52885d5383affaebb537636e48d50d4803582b6ae1dde9702f07552b519143bc", func := "musterfield/mustlaw.StoryShown", spec := "storyShown", unfollowed := true, recurses := true, apart := false, narrowed := true }
def StoryShownUptoSaid : Prop := storyShownUptoRow.holds Try.pinned (OpenSpec.upto storyShownSpec)

/-- 'mustlaw.LinkDoes', WHERE WHAT IT READS IS OF BULK AT MOST 1048576: true; the input reads as it did. -/
def linkDoesUptoRow : OpenClaim := { program := "ytdkmndimmpilaaa", sum := "52885d5383affaebb537636e48d50d4803582b6ae1dde9702f07552b519143bc", func := "musterfield/mustlaw.LinkDoes", spec := "linkDoes", inPlace := ["slices.overlaps[int]"], unfollowed := true, recurses := true, apart := false, narrowed := true }
def LinkDoesUptoSaid : Prop := linkDoesUptoRow.holds Try.pinned (OpenSpec.upto linkDoesSpec)

/-- 'mustlaw.LinkPlays', WHERE WHAT IT READS IS OF BULK AT MOST 1048576: true; the input reads as it did. -/
def linkPlaysUptoRow : OpenClaim := { program := "ytdkmndimmpilaaa", sum := "52885d5383affaebb537636e48d50d4803582b6ae1dde9702f07552b519143bc", func := "musterfield/mustlaw.LinkPlays", spec := "linkPlays", inPlace := ["slices.overlaps[int]"], unfollowed := true, recurses := true, apart := false, narrowed := true }
def LinkPlaysUptoSaid : Prop := linkPlaysUptoRow.holds Try.pinned (OpenSpec.upto linkPlaysSpec)

end Rows
end Go.Proofs.Ytdkmndimmpilaaa
