/-
  No cell of these rows narrows 'for every input' (looked for: loops, veiled, ifaces, maps, wideKeys, modest, calm, conditions, laid).
  DERIVED. THE GIVEN ROWS OF THIS SEAT. 4 by the template 'for every input the law returns true; each argument reads behind the call as it read before'; 0 by the template 'total and deterministic' (their statements: YthiddmncjafklaaGreatTotals.lean).
  GIVEN WITH THE SEED: the statements are not yours to turn. If you find one false, say at which input.
  Laid BY PROGRAM, IN A SANDBOX (cutbox-rows.mjs): the forced cells as the released guide's own fill.sh prints them over the translation fa4ed6b19a58e191… (all of the seat's roots in one cut). By AI agents, Wed Nov 11 2026. No macro, syntax, notation, axiom, sorry.
-/
import Derived.Test.YthiddmncjafklaaGreatChecked
import GoSem.Claim
import GoSem.ClaimJoined
import GoSem.ClaimMapViews
import Derived.JoinedTies
import Derived.KernelRfl
namespace Go.Proofs.YthiddmncjafklaaGreat
/- THE CELL 'sum', in the pinned program and in every row, IS THE sha256 OF THE DUMP (.gsa) THAT YthiddmncjafklaaGreatProg.lean LOADS. Nothing in Lean hashes anything: it is a label: what it is worth is what the hold of that sum in a sandbox is worth. -/
noncomputable def Tryz.pinned : Pinned := { name := "ythiddmncjafklaagreat", sum := "fa4ed6b19a58e191f66c4f96abdae9e9576cedc9a6a91064f102a4ec7ebc7f9e", checked := Tryz.checked }
namespace Rows
def none {H : Type} : Left H := { results := [], args := [] }

/-- 'mustlaw.TickSays': WHATEVER THE INPUT: true; the input reads as it did. -/
def tickSaysSpec : ChangeSpec := { name := "tickSays", fn := fun _ => fun
  | [d1, d2] => { results := [.lit (.bool true)], args := [d1, d2] }
  | _ => none }
def tickSaysRow : OpenClaim := { program := "ythiddmncjafklaagreat", sum := "fa4ed6b19a58e191f66c4f96abdae9e9576cedc9a6a91064f102a4ec7ebc7f9e", func := "musterfield/mustlaw.TickSays", spec := "tickSays", unfollowed := true, recurses := true, plainKeys := false, apart := false }
def TickSaysSaid : Prop := tickSaysRow.holds Tryz.pinned (OpenSpec.ofChange tickSaysSpec)

/-- ITS FALSE NEIGHBOUR: 'it returns false'. Refute it at one input. -/
def tickSaysWrong : ChangeSpec := { name := "tickSays", fn := fun _ => fun
  | [d1, d2] => { results := [.lit (.bool false)], args := [d1, d2] }
  | _ => none }
def TickSaysWrongFalsely : Prop := tickSaysRow.holds Tryz.pinned (OpenSpec.ofChange tickSaysWrong)

/-- 'mustlaw.TickRuns': WHATEVER THE INPUT: true; the input reads as it did. -/
def tickRunsSpec : ChangeSpec := { name := "tickRuns", fn := fun _ => fun
  | [d1, d2] => { results := [.lit (.bool true)], args := [d1, d2] }
  | _ => none }
def tickRunsRow : OpenClaim := { program := "ythiddmncjafklaagreat", sum := "fa4ed6b19a58e191f66c4f96abdae9e9576cedc9a6a91064f102a4ec7ebc7f9e", func := "musterfield/mustlaw.TickRuns", spec := "tickRuns", inPlace := ["internal/abi.NoEscape"], unfollowed := true, recurses := true, plainKeys := false, apart := false }
def TickRunsSaid : Prop := tickRunsRow.holds Tryz.pinned (OpenSpec.ofChange tickRunsSpec)

/-- ITS FALSE NEIGHBOUR: 'it returns false'. Refute it at one input. -/
def tickRunsWrong : ChangeSpec := { name := "tickRuns", fn := fun _ => fun
  | [d1, d2] => { results := [.lit (.bool false)], args := [d1, d2] }
  | _ => none }
def TickRunsWrongFalsely : Prop := tickRunsRow.holds Tryz.pinned (OpenSpec.ofChange tickRunsWrong)

/-- 'mustlaw.StoryAts': WHATEVER THE INPUT: true; the input reads as it did. -/
def storyAtsSpec : ChangeSpec := { name := "storyAts", fn := fun _ => fun
  | [d1, d2, d3] => { results := [.lit (.bool true)], args := [d1, d2, d3] }
  | _ => none }
def storyAtsRow : OpenClaim := { program := "ythiddmncjafklaagreat", sum := "fa4ed6b19a58e191f66c4f96abdae9e9576cedc9a6a91064f102a4ec7ebc7f9e", func := "musterfield/mustlaw.StoryAts", spec := "storyAts", inPlace := ["internal/abi.NoEscape"], unfollowed := true, recurses := true, plainKeys := false, apart := false }
def StoryAtsSaid : Prop := storyAtsRow.holds Tryz.pinned (OpenSpec.ofChange storyAtsSpec)

/-- ITS FALSE NEIGHBOUR: 'it returns false'. Refute it at one input. -/
def storyAtsWrong : ChangeSpec := { name := "storyAts", fn := fun _ => fun
  | [d1, d2, d3] => { results := [.lit (.bool false)], args := [d1, d2, d3] }
  | _ => none }
def StoryAtsWrongFalsely : Prop := storyAtsRow.holds Tryz.pinned (OpenSpec.ofChange storyAtsWrong)

/-- 'mustlaw.HostFollows': WHATEVER THE INPUT: true; the input reads as it did. -/
def hostFollowsSpec : ChangeSpec := { name := "hostFollows", fn := fun _ => fun
  | [d1, d2] => { results := [.lit (.bool true)], args := [d1, d2] }
  | _ => none }
def hostFollowsRow : OpenClaim := { program := "ythiddmncjafklaagreat", sum := "fa4ed6b19a58e191f66c4f96abdae9e9576cedc9a6a91064f102a4ec7ebc7f9e", func := "musterfield/mustlaw.HostFollows", spec := "hostFollows", inPlace := ["internal/abi.NoEscape"], unfollowed := true, recurses := true, plainKeys := false, apart := false }
def HostFollowsSaid : Prop := hostFollowsRow.holds Tryz.pinned (OpenSpec.ofChange hostFollowsSpec)

/-- ITS FALSE NEIGHBOUR: 'it returns false'. Refute it at one input. -/
def hostFollowsWrong : ChangeSpec := { name := "hostFollows", fn := fun _ => fun
  | [d1, d2] => { results := [.lit (.bool false)], args := [d1, d2] }
  | _ => none }
def HostFollowsWrongFalsely : Prop := hostFollowsRow.holds Tryz.pinned (OpenSpec.ofChange hostFollowsWrong)

/- THE SECOND FORM. 'bulk': how many values and letters a reading holds, each counted each time it is reached (what is shared counts as often as it is met; a slice's spare places count too). A statement '..UptoSaid' is the law's where the arguments, and the package variables that the reading takes, are together of bulk at most 1048576: NARROWER than '..Said'. Prove '..Said' where nothing that the law and all that it calls make is longer than what came in: it says more and counts as full. Else prove '..UptoSaid'. A law counts once. -/
mutual
def uptoBulk {H : Type} : DataW H → Nat
  | .lit (.string bytes) => bytes.length + 1
  | .lit _ => 1
  | .nil => 1
  | .ptr d => uptoBulk d + 1
  | .slice elems spare => uptoBulkAll elems + uptoBulkAll spare + 1
  | .agg parts => uptoBulkAll parts + 1
  | .iface _ d => uptoBulk d + 1
  | .map entries => uptoBulkEntries entries + 1
  | .held _ => 1
def uptoBulkAll {H : Type} : List (DataW H) → Nat
  | [] => 0
  | d :: r => uptoBulk d + uptoBulkAll r
def uptoBulkEntries {H : Type} : List (Lit × DataW H) → Nat
  | [] => 0
  | x :: r => uptoBulkEntry x + uptoBulkEntries r
def uptoBulkEntry {H : Type} : Lit × DataW H → Nat
  | (.string bytes, d) => bytes.length + uptoBulk d + 1
  | (_, d) => uptoBulk d + 1
 end
def uptoSmall : (H : Type) → List (DataW H) → Bool := fun _ ds => decide (uptoBulkAll ds ≤ 1048576)
def OpenSpec.upto (s : _root_.Go.ChangeSpec) : _root_.Go.OpenSpec := { _root_.Go.OpenSpec.ofChange s with cond := some uptoSmall }

/-- 'mustlaw.TickSays', WHERE WHAT IT READS IS OF BULK AT MOST 1048576: true; the input reads as it did. -/
def tickSaysUptoRow : OpenClaim := { program := "ythiddmncjafklaagreat", sum := "fa4ed6b19a58e191f66c4f96abdae9e9576cedc9a6a91064f102a4ec7ebc7f9e", func := "musterfield/mustlaw.TickSays", spec := "tickSays", unfollowed := true, recurses := true, plainKeys := false, apart := false, narrowed := true }
def TickSaysUptoSaid : Prop := tickSaysUptoRow.holds Tryz.pinned (OpenSpec.upto tickSaysSpec)

/-- 'mustlaw.TickRuns', WHERE WHAT IT READS IS OF BULK AT MOST 1048576: true; the input reads as it did. -/
def tickRunsUptoRow : OpenClaim := { program := "ythiddmncjafklaagreat", sum := "fa4ed6b19a58e191f66c4f96abdae9e9576cedc9a6a91064f102a4ec7ebc7f9e", func := "musterfield/mustlaw.TickRuns", spec := "tickRuns", inPlace := ["internal/abi.NoEscape"], unfollowed := true, recurses := true, plainKeys := false, apart := false, narrowed := true }
def TickRunsUptoSaid : Prop := tickRunsUptoRow.holds Tryz.pinned (OpenSpec.upto tickRunsSpec)

/-- 'mustlaw.StoryAts', WHERE WHAT IT READS IS OF BULK AT MOST 1048576: true; the input reads as it did. -/
def storyAtsUptoRow : OpenClaim := { program := "ythiddmncjafklaagreat", sum := "fa4ed6b19a58e191f66c4f96abdae9e9576cedc9a6a91064f102a4ec7ebc7f9e", func := "musterfield/mustlaw.StoryAts", spec := "storyAts", inPlace := ["internal/abi.NoEscape"], unfollowed := true, recurses := true, plainKeys := false, apart := false, narrowed := true }
def StoryAtsUptoSaid : Prop := storyAtsUptoRow.holds Tryz.pinned (OpenSpec.upto storyAtsSpec)

/-- 'mustlaw.HostFollows', WHERE WHAT IT READS IS OF BULK AT MOST 1048576: true; the input reads as it did. -/
def hostFollowsUptoRow : OpenClaim := { program := "ythiddmncjafklaagreat", sum := "fa4ed6b19a58e191f66c4f96abdae9e9576cedc9a6a91064f102a4ec7ebc7f9e", func := "musterfield/mustlaw.HostFollows", spec := "hostFollows", inPlace := ["internal/abi.NoEscape"], unfollowed := true, recurses := true, plainKeys := false, apart := false, narrowed := true }
def HostFollowsUptoSaid : Prop := hostFollowsUptoRow.holds Tryz.pinned (OpenSpec.upto hostFollowsSpec)

end Rows
end Go.Proofs.YthiddmncjafklaaGreat
