/-
  No cell of these rows narrows 'for every input' (looked for: loops, veiled, ifaces, maps, wideKeys, modest, calm, conditions, laid).
  DERIVED. THE GIVEN ROWS OF THIS SEAT. 12 by the template 'for every input the law returns true; each argument reads behind the call as it read before'; 0 by the template 'total and deterministic' (their statements: YtibknlfadoeglaaTotals.lean).
  GIVEN WITH THE SEED: the statements are not yours to turn. If you find one false, say at which input.
  Laid BY PROGRAM, IN A SANDBOX (cutbox-rows.mjs): the forced cells as the released guide's own fill.sh prints them over the translation a197ae3691484f25… (all of the seat's roots in one cut). By AI agents, Wed Nov 11 2026. No macro, syntax, notation, axiom, sorry.
-/
import Derived.Test.YtibknlfadoeglaaChecked
import GoSem.Claim
import GoSem.ClaimJoined
import GoSem.ClaimMapViews
import Derived.JoinedTies
import Derived.KernelRfl
namespace Go.Proofs.Ytibknlfadoeglaa
/- THE CELL 'sum', in the pinned program and in every row, IS THE sha256 OF THE DUMP (.gsa) THAT YtibknlfadoeglaaProg.lean LOADS. Nothing in Lean hashes anything: it is a label: what it is worth is what the hold of that sum in a sandbox is worth. -/
noncomputable def Try.pinned : Pinned := { name := "ytibknlfadoeglaa", sum := "a197ae3691484f259dce18ab9b6d63a28db8dcb2c2d21445001f8a38ec54bf2b", checked := Try.checked }
namespace Rows
def none {H : Type} : Left H := { results := [], args := [] }

/-- 'mustlaw.VoteSays': WHATEVER THE INPUT: true; the input reads as it did. -/
def voteSaysSpec : ChangeSpec := { name := "voteSays", fn := fun _ => fun
  | [d1, d2, d3, d4] => { results := [.lit (.bool true)], args := [d1, d2, d3, d4] }
  | _ => none }
def voteSaysRow : OpenClaim := { program := "ytibknlfadoeglaa", sum := "a197ae3691484f259dce18ab9b6d63a28db8dcb2c2d21445001f8a38ec54bf2b", func := "musterfield/mustlaw.VoteSays", spec := "voteSays", unfollowed := true, recurses := true, plainKeys := false, apart := false }
def VoteSaysSaid : Prop := voteSaysRow.holds Try.pinned (OpenSpec.ofChange voteSaysSpec)

/-- ITS FALSE NEIGHBOUR: 'it returns false'. Refute it at one input. -/
def voteSaysWrong : ChangeSpec := { name := "voteSays", fn := fun _ => fun
  | [d1, d2, d3, d4] => { results := [.lit (.bool false)], args := [d1, d2, d3, d4] }
  | _ => none }
def VoteSaysWrongFalsely : Prop := voteSaysRow.holds Try.pinned (OpenSpec.ofChange voteSaysWrong)

/-- 'mustlaw.SightSays': WHATEVER THE INPUT: true; the input reads as it did. -/
def sightSaysSpec : ChangeSpec := { name := "sightSays", fn := fun _ => fun
  | [d1, d2, d3, d4] => { results := [.lit (.bool true)], args := [d1, d2, d3, d4] }
  | _ => none }
def sightSaysRow : OpenClaim := { program := "ytibknlfadoeglaa", sum := "a197ae3691484f259dce18ab9b6d63a28db8dcb2c2d21445001f8a38ec54bf2b", func := "musterfield/mustlaw.SightSays", spec := "sightSays", unfollowed := true, recurses := true, plainKeys := false, apart := false }
def SightSaysSaid : Prop := sightSaysRow.holds Try.pinned (OpenSpec.ofChange sightSaysSpec)

/-- ITS FALSE NEIGHBOUR: 'it returns false'. Refute it at one input. -/
def sightSaysWrong : ChangeSpec := { name := "sightSays", fn := fun _ => fun
  | [d1, d2, d3, d4] => { results := [.lit (.bool false)], args := [d1, d2, d3, d4] }
  | _ => none }
def SightSaysWrongFalsely : Prop := sightSaysRow.holds Try.pinned (OpenSpec.ofChange sightSaysWrong)

/-- 'mustlaw.SeatCloses': WHATEVER THE INPUT: true; the input reads as it did. -/
def seatClosesSpec : ChangeSpec := { name := "seatCloses", fn := fun _ => fun
  | [d1, d2] => { results := [.lit (.bool true)], args := [d1, d2] }
  | _ => none }
def seatClosesRow : OpenClaim := { program := "ytibknlfadoeglaa", sum := "a197ae3691484f259dce18ab9b6d63a28db8dcb2c2d21445001f8a38ec54bf2b", func := "musterfield/mustlaw.SeatCloses", spec := "seatCloses", unfollowed := true, recurses := true, plainKeys := false, apart := false }
def SeatClosesSaid : Prop := seatClosesRow.holds Try.pinned (OpenSpec.ofChange seatClosesSpec)

/-- ITS FALSE NEIGHBOUR: 'it returns false'. Refute it at one input. -/
def seatClosesWrong : ChangeSpec := { name := "seatCloses", fn := fun _ => fun
  | [d1, d2] => { results := [.lit (.bool false)], args := [d1, d2] }
  | _ => none }
def SeatClosesWrongFalsely : Prop := seatClosesRow.holds Try.pinned (OpenSpec.ofChange seatClosesWrong)

/-- 'mustlaw.TreeTrails': WHATEVER THE INPUT: true; the input reads as it did. -/
def treeTrailsSpec : ChangeSpec := { name := "treeTrails", fn := fun _ => fun
  | [d1, d2, d3, d4, d5, d6] => { results := [.lit (.bool true)], args := [d1, d2, d3, d4, d5, d6] }
  | _ => none }
def treeTrailsRow : OpenClaim := { program := "ytibknlfadoeglaa", sum := "a197ae3691484f259dce18ab9b6d63a28db8dcb2c2d21445001f8a38ec54bf2b", func := "musterfield/mustlaw.TreeTrails", spec := "treeTrails", recurses := true, plainKeys := false, apart := false }
def TreeTrailsSaid : Prop := treeTrailsRow.holds Try.pinned (OpenSpec.ofChange treeTrailsSpec)

/-- ITS FALSE NEIGHBOUR: 'it returns false'. Refute it at one input. -/
def treeTrailsWrong : ChangeSpec := { name := "treeTrails", fn := fun _ => fun
  | [d1, d2, d3, d4, d5, d6] => { results := [.lit (.bool false)], args := [d1, d2, d3, d4, d5, d6] }
  | _ => none }
def TreeTrailsWrongFalsely : Prop := treeTrailsRow.holds Try.pinned (OpenSpec.ofChange treeTrailsWrong)

/-- 'mustlaw.SeatSays': WHATEVER THE INPUT: true; the input reads as it did. -/
def seatSaysSpec : ChangeSpec := { name := "seatSays", fn := fun _ => fun
  | [d1, d2, d3] => { results := [.lit (.bool true)], args := [d1, d2, d3] }
  | _ => none }
def seatSaysRow : OpenClaim := { program := "ytibknlfadoeglaa", sum := "a197ae3691484f259dce18ab9b6d63a28db8dcb2c2d21445001f8a38ec54bf2b", func := "musterfield/mustlaw.SeatSays", spec := "seatSays", unfollowed := true, recurses := true, plainKeys := false, apart := false }
def SeatSaysSaid : Prop := seatSaysRow.holds Try.pinned (OpenSpec.ofChange seatSaysSpec)

/-- ITS FALSE NEIGHBOUR: 'it returns false'. Refute it at one input. -/
def seatSaysWrong : ChangeSpec := { name := "seatSays", fn := fun _ => fun
  | [d1, d2, d3] => { results := [.lit (.bool false)], args := [d1, d2, d3] }
  | _ => none }
def SeatSaysWrongFalsely : Prop := seatSaysRow.holds Try.pinned (OpenSpec.ofChange seatSaysWrong)

/-- 'mustlaw.TroopFinds': WHATEVER THE INPUT: true; the input reads as it did. -/
def troopFindsSpec : ChangeSpec := { name := "troopFinds", fn := fun _ => fun
  | [d1, d2, d3, d4] => { results := [.lit (.bool true)], args := [d1, d2, d3, d4] }
  | _ => none }
def troopFindsRow : OpenClaim := { program := "ytibknlfadoeglaa", sum := "a197ae3691484f259dce18ab9b6d63a28db8dcb2c2d21445001f8a38ec54bf2b", func := "musterfield/mustlaw.TroopFinds", spec := "troopFinds", unfollowed := true, recurses := true, plainKeys := false, apart := false }
def TroopFindsSaid : Prop := troopFindsRow.holds Try.pinned (OpenSpec.ofChange troopFindsSpec)

/-- ITS FALSE NEIGHBOUR: 'it returns false'. Refute it at one input. -/
def troopFindsWrong : ChangeSpec := { name := "troopFinds", fn := fun _ => fun
  | [d1, d2, d3, d4] => { results := [.lit (.bool false)], args := [d1, d2, d3, d4] }
  | _ => none }
def TroopFindsWrongFalsely : Prop := troopFindsRow.holds Try.pinned (OpenSpec.ofChange troopFindsWrong)

/-- 'mustlaw.FloodSays': WHATEVER THE INPUT: true; the input reads as it did. -/
def floodSaysSpec : ChangeSpec := { name := "floodSays", fn := fun _ => fun
  | [d1, d2, d3] => { results := [.lit (.bool true)], args := [d1, d2, d3] }
  | _ => none }
def floodSaysRow : OpenClaim := { program := "ytibknlfadoeglaa", sum := "a197ae3691484f259dce18ab9b6d63a28db8dcb2c2d21445001f8a38ec54bf2b", func := "musterfield/mustlaw.FloodSays", spec := "floodSays", unfollowed := true, recurses := true, plainKeys := false, apart := false }
def FloodSaysSaid : Prop := floodSaysRow.holds Try.pinned (OpenSpec.ofChange floodSaysSpec)

/-- ITS FALSE NEIGHBOUR: 'it returns false'. Refute it at one input. -/
def floodSaysWrong : ChangeSpec := { name := "floodSays", fn := fun _ => fun
  | [d1, d2, d3] => { results := [.lit (.bool false)], args := [d1, d2, d3] }
  | _ => none }
def FloodSaysWrongFalsely : Prop := floodSaysRow.holds Try.pinned (OpenSpec.ofChange floodSaysWrong)

/-- 'mustlaw.OrderSplits': WHATEVER THE INPUT: true; the input reads as it did. -/
def orderSplitsSpec : ChangeSpec := { name := "orderSplits", fn := fun _ => fun
  | [d1, d2] => { results := [.lit (.bool true)], args := [d1, d2] }
  | _ => none }
def orderSplitsRow : OpenClaim := { program := "ytibknlfadoeglaa", sum := "a197ae3691484f259dce18ab9b6d63a28db8dcb2c2d21445001f8a38ec54bf2b", func := "musterfield/mustlaw.OrderSplits", spec := "orderSplits", unfollowed := true, recurses := true, plainKeys := false, apart := false }
def OrderSplitsSaid : Prop := orderSplitsRow.holds Try.pinned (OpenSpec.ofChange orderSplitsSpec)

/-- ITS FALSE NEIGHBOUR: 'it returns false'. Refute it at one input. -/
def orderSplitsWrong : ChangeSpec := { name := "orderSplits", fn := fun _ => fun
  | [d1, d2] => { results := [.lit (.bool false)], args := [d1, d2] }
  | _ => none }
def OrderSplitsWrongFalsely : Prop := orderSplitsRow.holds Try.pinned (OpenSpec.ofChange orderSplitsWrong)

/-- 'mustlaw.TroopChecks': WHATEVER THE INPUT: true; the input reads as it did. -/
def troopChecksSpec : ChangeSpec := { name := "troopChecks", fn := fun _ => fun
  | [d1, d2] => { results := [.lit (.bool true)], args := [d1, d2] }
  | _ => none }
def troopChecksRow : OpenClaim := { program := "ytibknlfadoeglaa", sum := "a197ae3691484f259dce18ab9b6d63a28db8dcb2c2d21445001f8a38ec54bf2b", func := "musterfield/mustlaw.TroopChecks", spec := "troopChecks", inPlace := ["internal/abi.NoEscape"], unfollowed := true, recurses := true, plainKeys := false, apart := false }
def TroopChecksSaid : Prop := troopChecksRow.holds Try.pinned (OpenSpec.ofChange troopChecksSpec)

/-- ITS FALSE NEIGHBOUR: 'it returns false'. Refute it at one input. -/
def troopChecksWrong : ChangeSpec := { name := "troopChecks", fn := fun _ => fun
  | [d1, d2] => { results := [.lit (.bool false)], args := [d1, d2] }
  | _ => none }
def TroopChecksWrongFalsely : Prop := troopChecksRow.holds Try.pinned (OpenSpec.ofChange troopChecksWrong)

/-- 'mustlaw.OrderSays': WHATEVER THE INPUT: true; the input reads as it did. -/
def orderSaysSpec : ChangeSpec := { name := "orderSays", fn := fun _ => fun
  | [d1, d2, d3] => { results := [.lit (.bool true)], args := [d1, d2, d3] }
  | _ => none }
def orderSaysRow : OpenClaim := { program := "ytibknlfadoeglaa", sum := "a197ae3691484f259dce18ab9b6d63a28db8dcb2c2d21445001f8a38ec54bf2b", func := "musterfield/mustlaw.OrderSays", spec := "orderSays", inPlace := ["internal/abi.NoEscape"], unfollowed := true, recurses := true, plainKeys := false, apart := false }
def OrderSaysSaid : Prop := orderSaysRow.holds Try.pinned (OpenSpec.ofChange orderSaysSpec)

/-- ITS FALSE NEIGHBOUR: 'it returns false'. Refute it at one input. -/
def orderSaysWrong : ChangeSpec := { name := "orderSays", fn := fun _ => fun
  | [d1, d2, d3] => { results := [.lit (.bool false)], args := [d1, d2, d3] }
  | _ => none }
def OrderSaysWrongFalsely : Prop := orderSaysRow.holds Try.pinned (OpenSpec.ofChange orderSaysWrong)

/-- 'mustlaw.SynodPlays': WHATEVER THE INPUT: true; the input reads as it did. -/
def synodPlaysSpec : ChangeSpec := { name := "synodPlays", fn := fun _ => fun
  | [d1, d2] => { results := [.lit (.bool true)], args := [d1, d2] }
  | _ => none }
def synodPlaysRow : OpenClaim := { program := "ytibknlfadoeglaa", sum := "a197ae3691484f259dce18ab9b6d63a28db8dcb2c2d21445001f8a38ec54bf2b", func := "musterfield/mustlaw.SynodPlays", spec := "synodPlays", inPlace := ["slices.overlaps[musterfield/api.Round]"], unfollowed := true, recurses := true, plainKeys := false, apart := false }
def SynodPlaysSaid : Prop := synodPlaysRow.holds Try.pinned (OpenSpec.ofChange synodPlaysSpec)

/-- ITS FALSE NEIGHBOUR: 'it returns false'. Refute it at one input. -/
def synodPlaysWrong : ChangeSpec := { name := "synodPlays", fn := fun _ => fun
  | [d1, d2] => { results := [.lit (.bool false)], args := [d1, d2] }
  | _ => none }
def SynodPlaysWrongFalsely : Prop := synodPlaysRow.holds Try.pinned (OpenSpec.ofChange synodPlaysWrong)

/-- 'mustlaw.StoryShown': WHATEVER THE INPUT: true; the input reads as it did. -/
def storyShownSpec : ChangeSpec := { name := "storyShown", fn := fun _ => fun
  | [d1, d2, d3, d4, d5] => { results := [.lit (.bool true)], args := [d1, d2, d3, d4, d5] }
  | _ => none }
def storyShownRow : OpenClaim := { program := "ytibknlfadoeglaa", sum := "a197ae3691484f259dce18ab9b6d63a28db8dcb2c2d21445001f8a38ec54bf2b", func := "musterfield/mustlaw.StoryShown", spec := "storyShown", unfollowed := true, recurses := true, plainKeys := false, apart := false }
def StoryShownSaid : Prop := storyShownRow.holds Try.pinned (OpenSpec.ofChange storyShownSpec)

/-- ITS FALSE NEIGHBOUR: 'it returns false'. Refute it at one input. -/
def storyShownWrong : ChangeSpec := { name := "storyShown", fn := fun _ => fun
  | [d1, d2, d3, d4, d5] => { results := [.lit (.bool false)], args := [d1, d2, d3, d4, d5] }
  | _ => none }
def StoryShownWrongFalsely : Prop := storyShownRow.holds Try.pinned (OpenSpec.ofChange storyShownWrong)

/- THE SECOND FORM. 'bulk': how many values and letters a reading holds, each counted each time it is reached (what is shared counts as often as it is met; a slice's spare places count too). A statement '..UptoSaid' is the law's where the arguments, and the package variables that the reading takes, are together of bulk at most 1048576: NARROWER than '..Said'. Prove '..Said' where nothing that the law and all that it calls make is longer than what came in: it says more and counts as full. Else prove '..UptoSaid'. A law counts once. -/
mutual
def uptoBulk {H : Type} : DataW H → Nat
  | .lit (.string bytes) => bytes.length + 1
  | .lit _ => 1
  | .nil => 1
  | .ptr d => uptoBulk d + 1
  | .slice elems spare => uptoBulkAll elems + uptoBulkAll spare + 1
  | .agg parts => uptoBulkAll parts + 1
  | .iface _ d => uptoBulk d + 1
  | .map entries => uptoBulkEntries entries + 1
  | .held _ => 1
def uptoBulkAll {H : Type} : List (DataW H) → Nat
  | [] => 0
  | d :: r => uptoBulk d + uptoBulkAll r
def uptoBulkEntries {H : Type} : List (Lit × DataW H) → Nat
  | [] => 0
  | x :: r => uptoBulkEntry x + uptoBulkEntries r
def uptoBulkEntry {H : Type} : Lit × DataW H → Nat
  | (.string bytes, d) => bytes.length + uptoBulk d + 1
  | (_, d) => uptoBulk d + 1
 end
def uptoSmall : (H : Type) → List (DataW H) → Bool := fun _ ds => decide (uptoBulkAll ds ≤ 1048576)
def OpenSpec.upto (s : _root_.Go.ChangeSpec) : _root_.Go.OpenSpec := { _root_.Go.OpenSpec.ofChange s with cond := some uptoSmall }

/-- 'mustlaw.VoteSays', WHERE WHAT IT READS IS OF BULK AT MOST 1048576: true; the input reads as it did. -/
def voteSaysUptoRow : OpenClaim := { program := "ytibknlfadoeglaa", sum := "a197ae3691484f259dce18ab9b6d63a28db8dcb2c2d21445001f8a38ec54bf2b", func := "musterfield/mustlaw.VoteSays", spec := "voteSays", unfollowed := true, recurses := true, plainKeys := false, apart := false, narrowed := true }
def VoteSaysUptoSaid : Prop := voteSaysUptoRow.holds Try.pinned (OpenSpec.upto voteSaysSpec)

/-- 'mustlaw.SightSays', WHERE WHAT IT READS IS OF BULK AT MOST 1048576: true; the input reads as it did. -/
def sightSaysUptoRow : OpenClaim := { program := "ytibknlfadoeglaa", sum := "a197ae3691484f259dce18ab9b6d63a28db8dcb2c2d21445001f8a38ec54bf2b", func := "musterfield/mustlaw.SightSays", spec := "sightSays", unfollowed := true, recurses := true, plainKeys := false, apart := false, narrowed := true }
def SightSaysUptoSaid : Prop := sightSaysUptoRow.holds Try.pinned (OpenSpec.upto sightSaysSpec)

/-- 'mustlaw.SeatCloses', WHERE WHAT IT READS IS OF BULK AT MOST 1048576: true; the input reads as it did. -/
def seatClosesUptoRow : OpenClaim := { program := "ytibknlfadoeglaa", sum := "a197ae3691484f259dce18ab9b6d63a28db8dcb2c2d21445001f8a38ec54bf2b", func := "musterfield/mustlaw.SeatCloses", spec := "seatCloses", unfollowed := true, recurses := true, plainKeys := false, apart := false, narrowed := true }
def SeatClosesUptoSaid : Prop := seatClosesUptoRow.holds Try.pinned (OpenSpec.upto seatClosesSpec)

/-- 'mustlaw.TreeTrails', WHERE WHAT IT READS IS OF BULK AT MOST 1048576: true; the input reads as it did. -/
def treeTrailsUptoRow : OpenClaim := { program := "ytibknlfadoeglaa", sum := "a197ae3691484f259dce18ab9b6d63a28db8dcb2c2d21445001f8a38ec54bf2b", func := "musterfield/mustlaw.TreeTrails", spec := "treeTrails", recurses := true, plainKeys := false, apart := false, narrowed := true }
def TreeTrailsUptoSaid : Prop := treeTrailsUptoRow.holds Try.pinned (OpenSpec.upto treeTrailsSpec)

/-- 'mustlaw.SeatSays', WHERE WHAT IT READS IS OF BULK AT MOST 1048576: true; the input reads as it did. -/
def seatSaysUptoRow : OpenClaim := { program := "ytibknlfadoeglaa", sum := "a197ae3691484f259dce18ab9b6d63a28db8dcb2c2d21445001f8a38ec54bf2b", func := "musterfield/mustlaw.SeatSays", spec := "seatSays", unfollowed := true, recurses := true, plainKeys := false, apart := false, narrowed := true }
def SeatSaysUptoSaid : Prop := seatSaysUptoRow.holds Try.pinned (OpenSpec.upto seatSaysSpec)

/-- 'mustlaw.TroopFinds', WHERE WHAT IT READS IS OF BULK AT MOST 1048576: true; the input reads as it did. -/
def troopFindsUptoRow : OpenClaim := { program := "ytibknlfadoeglaa", sum := "a197ae3691484f259dce18ab9b6d63a28db8dcb2c2d21445001f8a38ec54bf2b", func := "musterfield/mustlaw.TroopFinds", spec := "troopFinds", unfollowed := true, recurses := true, plainKeys := false, apart := false, narrowed := true }
def TroopFindsUptoSaid : Prop := troopFindsUptoRow.holds Try.pinned (OpenSpec.upto troopFindsSpec)

/-- 'mustlaw.FloodSays', WHERE WHAT IT READS IS OF BULK AT MOST 1048576: true; the input reads as it did. -/
def floodSaysUptoRow : OpenClaim := { program := "ytibknlfadoeglaa", sum := "a197ae3691484f259dce18ab9b6d63a28db8dcb2c2d21445001f8a38ec54bf2b", func := "musterfield/mustlaw.FloodSays", spec := "floodSays", unfollowed := true, recurses := true, plainKeys := false, apart := false, narrowed := true }
def FloodSaysUptoSaid : Prop := floodSaysUptoRow.holds Try.pinned (OpenSpec.upto floodSaysSpec)

/-- 'mustlaw.OrderSplits', WHERE WHAT IT READS IS OF BULK AT MOST 1048576: true; the input reads as it did. -/
def orderSplitsUptoRow : OpenClaim := { program := "ytibknlfadoeglaa", sum := "a197ae3691484f259dce18ab9b6d63a28db8dcb2c2d21445001f8a38ec54bf2b", func := "musterfield/mustlaw.OrderSplits", spec := "orderSplits", unfollowed := true, recurses := true, plainKeys := false, apart := false, narrowed := true }
def OrderSplitsUptoSaid : Prop := orderSplitsUptoRow.holds Try.pinned (OpenSpec.upto orderSplitsSpec)

/-- 'mustlaw.TroopChecks', WHERE WHAT IT READS IS OF BULK AT MOST 1048576: true; the input reads as it did. -/
def troopChecksUptoRow : OpenClaim := { program := "ytibknlfadoeglaa", sum := "a197ae3691484f259dce18ab9b6d63a28db8dcb2c2d21445001f8a38ec54bf2b", func := "musterfield/mustlaw.TroopChecks", spec := "troopChecks", inPlace := ["internal/abi.NoEscape"], unfollowed := true, recurses := true, plainKeys := false, apart := false, narrowed := true }
def TroopChecksUptoSaid : Prop := troopChecksUptoRow.holds Try.pinned (OpenSpec.upto troopChecksSpec)

/-- 'mustlaw.OrderSays', WHERE WHAT IT READS IS OF BULK AT MOST 1048576: true; the input reads as it did. -/
def orderSaysUptoRow : OpenClaim := { program := "ytibknlfadoeglaa", sum := "a197ae3691484f259dce18ab9b6d63a28db8dcb2c2d21445001f8a38ec54bf2b", func := "musterfield/mustlaw.OrderSays", spec := "orderSays", inPlace := ["internal/abi.NoEscape"], unfollowed := true, recurses := true, plainKeys := false, apart := false, narrowed := true }
def OrderSaysUptoSaid : Prop := orderSaysUptoRow.holds Try.pinned (OpenSpec.upto orderSaysSpec)

/-- 'mustlaw.SynodPlays', WHERE WHAT IT READS IS OF BULK AT MOST 1048576: true; the input reads as it did. -/
def synodPlaysUptoRow : OpenClaim := { program := "ytibknlfadoeglaa", sum := "a197ae3691484f259dce18ab9b6d63a28db8dcb2c2d21445001f8a38ec54bf2b", func := "musterfield/mustlaw.SynodPlays", spec := "synodPlays", inPlace := ["slices.overlaps[musterfield/api.Round]"], unfollowed := true, recurses := true, plainKeys := false, apart := false, narrowed := true }
def SynodPlaysUptoSaid : Prop := synodPlaysUptoRow.holds Try.pinned (OpenSpec.upto synodPlaysSpec)

/-- 'mustlaw.StoryShown', WHERE WHAT IT READS IS OF BULK AT MOST 1048576: true; the input reads as it did. -/
def storyShownUptoRow : OpenClaim := { program := "ytibknlfadoeglaa", sum := "a197ae3691484f259dce18ab9b6d63a28db8dcb2c2d21445001f8a38ec54bf2b", func := "musterfield/mustlaw.StoryShown", spec := "storyShown", unfollowed := true, recurses := true, plainKeys := false, apart := false, narrowed := true }
def StoryShownUptoSaid : Prop := storyShownUptoRow.holds Try.pinned (OpenSpec.upto storyShownSpec)

end Rows
end Go.Proofs.Ytibknlfadoeglaa
