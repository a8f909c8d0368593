/- TreeRoots: whatever is handed in, Leaf, Pair, Root and Grows answer what the reference says. No condition. -/
import Derived.Test.YtemogefcbemjfaaTreeH
import Derived.Test.YtemogefcbemjfaaEqU
import Derived.Test.YtemogefcbemjfaaEqQ
import Derived.Test.YtemogefcbemjfaaRows
import Derived.Test.YtemogefcbemjfaaChecked
namespace Go.Proofs.Ytemogefcbemjfaa
open Go.RowKit Go.ChangeShapes Go.WideShapes Go.ChangeAt
set_option linter.unusedVariables false
namespace treeRoots
set_option maxRecDepth 100000 in
theorem opStrs (w : World) : Opens Try.prog 97 1 w SL.enc (SLok w w.heap.size 1 16 eStr (fun s => s.size ≤ 140737488351232)) := Opens.slice Try.underlying97 (by kernel_rfl) (by decide) (by kernel_rfl) (Opens.str Try.underlying9)
def rootR (xs : List ByteArray) : Nat × Int := if 256 < xs.length then (0, 2) else (rt pairN (xs.map leafN), 0)
set_option maxRecDepth 20000 in
set_option maxHeartbeats 1000000 in
theorem rootE_any (a : Option Addr) (c B : Nat) (xs : List ByteArray) (w : World) (hl : xs.length ≤ c) (hc : c ≤ maxLen) (hE : Els w B a 1 eStr xs) (hall : ∀ s ∈ xs, s.size ≤ 140737488351232) :
    Calls Try.prog 73 #[.slice a xs.length c] w fun e w' => e = .returned (.tuple #[.int .u64 (rootR xs).1, .int .i64 (rootR xs).2]) ∧ Below w.heap.size w w' := by
  by_cases h256 : 256 < xs.length
  · rw [show rootR xs = (0, 2) from if_pos h256]
    unfold maxLen at hc
    go_enter Try.func73, Try.ntmps73
    go_wp2_with fail
    go_returns
    exact ⟨rfl, Below.refl _ _⟩
  · rw [show rootR xs = (rt pairN (xs.map leafN), 0) from if_neg h256]
    have R := PLift.up (root_any 256 a c B xs w (by omega) (by omega) hl hc hE hall)
    unfold maxLen at hc
    clear hE hall
    go_enter Try.func73, Try.ntmps73
    go_wp2_with fail
    refine R.down.mono ?_
    rintro e w1 ⟨rfl, nq, rfl⟩
    go_wp2_with fail
    go_returns
    exact ⟨rfl, (Below.refl _ _).drewn _⟩
end treeRoots
end Go.Proofs.Ytemogefcbemjfaa
