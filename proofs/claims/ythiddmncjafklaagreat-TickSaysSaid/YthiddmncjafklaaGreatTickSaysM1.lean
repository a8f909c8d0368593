/- Lemmas for the proof of tickSays.proved. -/
import Derived.Test.YthiddmncjafklaaGreatRows
import Derived.Test.YthiddmncjafklaaGreatChecked
import Derived.KernelRfl
import Derived.OpenShut
import Derived.ChangeOld
import Derived.ProofKit
namespace Go.Proofs.YthiddmncjafklaaGreat
set_option linter.all false
open Go.RowKit
namespace tickSays
set_option maxRecDepth 100000
theorem facts : joinedFacts Tryz.pinned.checked.prog 3 Tryz.f3 Rows.tickSaysSpec Rows.tickSaysRow = true := by kernel_rfl
end tickSays
end Go.Proofs.YthiddmncjafklaaGreat
