/- Lemmas for the proof of mistSays.proved. -/
import Derived.Test.YtehcnnodkhcgfaaRows
import Derived.Test.YtehcnnodkhcgfaaChecked
import Derived.KernelRfl
import Derived.OpenShut
import Derived.ChangeOld
import Derived.ProofKit
namespace Go.Proofs.Ytehcnnodkhcgfaa
set_option linter.all false
open Go.RowKit
namespace mistSays
set_option maxRecDepth 100000
theorem facts : joinedFacts Try.pinned.checked.prog 10 Try.f10 Rows.mistSaysSpec Rows.mistSaysRow = true := by kernel_rfl
end mistSays
end Go.Proofs.Ytehcnnodkhcgfaa
