/- Lemmas for the proof of hostFollows.proved. -/
import Derived.Test.YthiddmncjafklaaGreatRows
import Derived.Test.YthiddmncjafklaaGreatChecked
import Derived.KernelRfl
import Derived.OpenShut
import Derived.ChangeOld
import Derived.ProofKit
namespace Go.Proofs.YthiddmncjafklaaGreat
set_option linter.all false
open Go.RowKit
namespace hostFollows
set_option maxRecDepth 100000
theorem facts : joinedFacts Tryz.pinned.checked.prog 6 Tryz.f6 Rows.hostFollowsSpec Rows.hostFollowsRow = true := by kernel_rfl
end hostFollows
end Go.Proofs.YthiddmncjafklaaGreat
