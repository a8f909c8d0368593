/- Lemmas for the proof of tickRuns.proved. -/
import Derived.Test.YthiddmncjafklaaGreatRows
import Derived.Test.YthiddmncjafklaaGreatChecked
import Derived.KernelRfl
import Derived.OpenShut
import Derived.ChangeOld
import Derived.ProofKit
namespace Go.Proofs.YthiddmncjafklaaGreat
set_option linter.all false
open Go.RowKit
namespace tickRuns
set_option maxRecDepth 100000
theorem facts : joinedFacts Tryz.pinned.checked.prog 4 Tryz.f4 Rows.tickRunsSpec Rows.tickRunsRow = true := by kernel_rfl
end tickRuns
end Go.Proofs.YthiddmncjafklaaGreat
