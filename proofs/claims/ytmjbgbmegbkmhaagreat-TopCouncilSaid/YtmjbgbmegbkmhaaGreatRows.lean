/-
  No cell of these rows narrows 'for every input' (looked for: loops, veiled, ifaces, maps, wideKeys, modest, calm, conditions, laid).
  DERIVED. THE GIVEN ROWS OF THIS SEAT. 4 by the template 'for every input the law returns true; each argument reads behind the call as it read before'; 0 by the template 'total and deterministic' (their statements: YtmjbgbmegbkmhaaGreatTotals.lean).
  GIVEN WITH THE SEED: the statements are not yours to turn. If you find one false, say at which input.
  Laid BY PROGRAM, IN A SANDBOX (cutbox-rows.mjs): the forced cells as the released guide's own fill.sh prints them over the translation 85a77344c3afdcf1… (all of the seat's roots in one cut). By AI agents, Wed Nov 11 2026. No macro, syntax, notation, axiom, sorry.
-/
import Derived.Test.YtmjbgbmegbkmhaaGreatChecked
import GoSem.Claim
import GoSem.ClaimJoined
import GoSem.ClaimMapViews
import Derived.JoinedTies
import Derived.KernelRfl
namespace Go.Proofs.YtmjbgbmegbkmhaaGreat
/- THE CELL 'sum', in the pinned program and in every row, IS THE sha256 OF THE DUMP (.gsa) THAT YtmjbgbmegbkmhaaGreatProg.lean LOADS. Nothing in Lean hashes anything: it is a label: what it is worth is what the hold of that sum in a sandbox is worth. -/
noncomputable def Tryz.pinned : Pinned := { name := "ytmjbgbmegbkmhaagreat", sum := "85a77344c3afdcf1bc507ada065e5c37e01139023609566afee15969cd7cc465", checked := Tryz.checked }
namespace Rows
def none {H : Type} : Left H := { results := [], args := [] }

/-- 'musttop.TopGone': WHATEVER THE INPUT: true; the input reads as it did. -/
def topGoneSpec : ChangeSpec := { name := "topGone", fn := fun _ => fun
  | [d1, d2, d3] => { results := [.lit (.bool true)], args := [d1, d2, d3] }
  | _ => none }
def topGoneRow : OpenClaim := { program := "ytmjbgbmegbkmhaagreat", sum := "85a77344c3afdcf1bc507ada065e5c37e01139023609566afee15969cd7cc465", func := "musterfield/musttop.TopGone", spec := "topGone", inPlace := ["internal/abi.NoEscape"], unfollowed := true, recurses := true, plainKeys := false, apart := false }
def TopGoneSaid : Prop := topGoneRow.holds Tryz.pinned (OpenSpec.ofChange topGoneSpec)

/-- ITS FALSE NEIGHBOUR: 'it returns false'. Refute it at one input. -/
def topGoneWrong : ChangeSpec := { name := "topGone", fn := fun _ => fun
  | [d1, d2, d3] => { results := [.lit (.bool false)], args := [d1, d2, d3] }
  | _ => none }
def TopGoneWrongFalsely : Prop := topGoneRow.holds Tryz.pinned (OpenSpec.ofChange topGoneWrong)

/-- 'musttop.TopMist': WHATEVER THE INPUT: true; the input reads as it did. -/
def topMistSpec : ChangeSpec := { name := "topMist", fn := fun _ => fun
  | [d1, d2] => { results := [.lit (.bool true)], args := [d1, d2] }
  | _ => none }
def topMistRow : OpenClaim := { program := "ytmjbgbmegbkmhaagreat", sum := "85a77344c3afdcf1bc507ada065e5c37e01139023609566afee15969cd7cc465", func := "musterfield/musttop.TopMist", spec := "topMist", inPlace := ["internal/abi.NoEscape"], unfollowed := true, recurses := true, plainKeys := false, apart := false }
def TopMistSaid : Prop := topMistRow.holds Tryz.pinned (OpenSpec.ofChange topMistSpec)

/-- ITS FALSE NEIGHBOUR: 'it returns false'. Refute it at one input. -/
def topMistWrong : ChangeSpec := { name := "topMist", fn := fun _ => fun
  | [d1, d2] => { results := [.lit (.bool false)], args := [d1, d2] }
  | _ => none }
def TopMistWrongFalsely : Prop := topMistRow.holds Tryz.pinned (OpenSpec.ofChange topMistWrong)

/-- 'musttop.TopCouncil': WHATEVER THE INPUT: true; the input reads as it did. -/
def topCouncilSpec : ChangeSpec := { name := "topCouncil", fn := fun _ => fun
  | [d1, d2, d3, d4] => { results := [.lit (.bool true)], args := [d1, d2, d3, d4] }
  | _ => none }
def topCouncilRow : OpenClaim := { program := "ytmjbgbmegbkmhaagreat", sum := "85a77344c3afdcf1bc507ada065e5c37e01139023609566afee15969cd7cc465", func := "musterfield/musttop.TopCouncil", spec := "topCouncil", inPlace := ["slices.overlaps[musterfield/api.Round]", "internal/abi.NoEscape"], unfollowed := true, recurses := true, plainKeys := false, apart := false }
def TopCouncilSaid : Prop := topCouncilRow.holds Tryz.pinned (OpenSpec.ofChange topCouncilSpec)

/-- ITS FALSE NEIGHBOUR: 'it returns false'. Refute it at one input. -/
def topCouncilWrong : ChangeSpec := { name := "topCouncil", fn := fun _ => fun
  | [d1, d2, d3, d4] => { results := [.lit (.bool false)], args := [d1, d2, d3, d4] }
  | _ => none }
def TopCouncilWrongFalsely : Prop := topCouncilRow.holds Tryz.pinned (OpenSpec.ofChange topCouncilWrong)

/-- 'musttop.TopWire': WHATEVER THE INPUT: true; the input reads as it did. -/
def topWireSpec : ChangeSpec := { name := "topWire", fn := fun _ => fun
  | [d1, d2, d3, d4, d5] => { results := [.lit (.bool true)], args := [d1, d2, d3, d4, d5] }
  | _ => none }
def topWireRow : OpenClaim := { program := "ytmjbgbmegbkmhaagreat", sum := "85a77344c3afdcf1bc507ada065e5c37e01139023609566afee15969cd7cc465", func := "musterfield/musttop.TopWire", spec := "topWire", inPlace := ["internal/abi.NoEscape", "slices.overlaps[int]"], unfollowed := true, recurses := true, plainKeys := false, apart := false }
def TopWireSaid : Prop := topWireRow.holds Tryz.pinned (OpenSpec.ofChange topWireSpec)

/-- ITS FALSE NEIGHBOUR: 'it returns false'. Refute it at one input. -/
def topWireWrong : ChangeSpec := { name := "topWire", fn := fun _ => fun
  | [d1, d2, d3, d4, d5] => { results := [.lit (.bool false)], args := [d1, d2, d3, d4, d5] }
  | _ => none }
def TopWireWrongFalsely : Prop := topWireRow.holds Tryz.pinned (OpenSpec.ofChange topWireWrong)

/- THE SECOND FORM. 'bulk': how many values and letters a reading holds, each counted each time it is reached (what is shared counts as often as it is met; a slice's spare places count too). A statement '..UptoSaid' is the law's where the arguments, and the package variables that the reading takes, are together of bulk at most 1048576: NARROWER than '..Said'. Prove '..Said' where nothing that the law and all that it calls make is longer than what came in: it says more and counts as full. Else prove '..UptoSaid'. A law counts once. -/
mutual
def uptoBulk {H : Type} : DataW H → Nat
  | .lit (.string bytes) => bytes.length + 1
  | .lit _ => 1
  | .nil => 1
  | .ptr d => uptoBulk d + 1
  | .slice elems spare => uptoBulkAll elems + uptoBulkAll spare + 1
  | .agg parts => uptoBulkAll parts + 1
  | .iface _ d => uptoBulk d + 1
  | .map entries => uptoBulkEntries entries + 1
  | .held _ => 1
def uptoBulkAll {H : Type} : List (DataW H) → Nat
  | [] => 0
  | d :: r => uptoBulk d + uptoBulkAll r
def uptoBulkEntries {H : Type} : List (Lit × DataW H) → Nat
  | [] => 0
  | x :: r => uptoBulkEntry x + uptoBulkEntries r
def uptoBulkEntry {H : Type} : Lit × DataW H → Nat
  | (.string bytes, d) => bytes.length + uptoBulk d + 1
  | (_, d) => uptoBulk d + 1
 end
def uptoSmall : (H : Type) → List (DataW H) → Bool := fun _ ds => decide (uptoBulkAll ds ≤ 1048576)
def OpenSpec.upto (s : _root_.Go.ChangeSpec) : _root_.Go.OpenSpec := { _root_.Go.OpenSpec.ofChange s with cond := some uptoSmall }

/-- 'musttop.TopGone', WHERE WHAT IT READS IS OF BULK AT MOST 1048576: true; the input reads as it did. -/
def topGoneUptoRow : OpenClaim := { program := "ytmjbgbmegbkmhaagreat", sum := "85a77344c3afdcf1bc507ada065e5c37e01139023609566afee15969cd7cc465", func := "musterfield/musttop.TopGone", spec := "topGone", inPlace := ["internal/abi.NoEscape"], unfollowed := true, recurses := true, plainKeys := false, apart := false, narrowed := true }
def TopGoneUptoSaid : Prop := topGoneUptoRow.holds Tryz.pinned (OpenSpec.upto topGoneSpec)

/-- 'musttop.TopMist', WHERE WHAT IT READS IS OF BULK AT MOST 1048576: true; the input reads as it did. -/
def topMistUptoRow : OpenClaim := { program := "ytmjbgbmegbkmhaagreat", sum := "85a77344c3afdcf1bc507ada065e5c37e01139023609566afee15969cd7cc465", func := "musterfield/musttop.TopMist", spec := "topMist", inPlace := ["internal/abi.NoEscape"], unfollowed := true, recurses := true, plainKeys := false, apart := false, narrowed := true }
def TopMistUptoSaid : Prop := topMistUptoRow.holds Tryz.pinned (OpenSpec.upto topMistSpec)

/-- 'musttop.TopCouncil', WHERE WHAT IT READS IS OF BULK AT MOST 1048576: true; the input reads as it did. -/
def topCouncilUptoRow : OpenClaim := { program := "ytmjbgbmegbkmhaagreat", sum := "85a77344c3afdcf1bc507ada065e5c37e01139023609566afee15969cd7cc465", func := "musterfield/musttop.TopCouncil", spec := "topCouncil", inPlace := ["slices.overlaps[musterfield/api.Round]", "internal/abi.NoEscape"], unfollowed := true, recurses := true, plainKeys := false, apart := false, narrowed := true }
def TopCouncilUptoSaid : Prop := topCouncilUptoRow.holds Tryz.pinned (OpenSpec.upto topCouncilSpec)

/-- 'musttop.TopWire', WHERE WHAT IT READS IS OF BULK AT MOST 1048576: true; the input reads as it did. -/
def topWireUptoRow : OpenClaim := { program := "ytmjbgbmegbkmhaagreat", sum := "85a77344c3afdcf1bc507ada065e5c37e01139023609566afee15969cd7cc465", func := "musterfield/musttop.TopWire", spec := "topWire", inPlace := ["internal/abi.NoEscape", "slices.overlaps[int]"], unfollowed := true, recurses := true, plainKeys := false, apart := false, narrowed := true }
def TopWireUptoSaid : Prop := topWireUptoRow.holds Tryz.pinned (OpenSpec.upto topWireSpec)

end Rows
end Go.Proofs.YtmjbgbmegbkmhaaGreat
