/- The reference's Between. -/
import Derived.Test.YtibknlfadoeglaaBase
namespace Go.Proofs.Ytibknlfadoeglaa
set_option linter.all false
open Go.RowKit
set_option maxHeartbeats 400000 in
theorem between_z (n a b : Int) (w : World) :
    Calls Try.prog 16 #[.int .i64 n, .int .i64 a, .int .i64 b] w fun e w' => e = .returned (.bool (decide (a ≤ n) && decide (n ≤ b))) ∧ w = w' := by
  go_enter Try.func16, Try.ntmps16
  go_wp2
  all_goals (go_returns; refine ⟨?_, rfl⟩)
  all_goals (congr 2; first | (simp; omega) | (simp; done) | skip)
end Go.Proofs.Ytibknlfadoeglaa
