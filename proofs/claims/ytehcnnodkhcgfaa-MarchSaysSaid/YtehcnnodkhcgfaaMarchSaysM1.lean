/- Lemmas for the proof of marchSays.proved. -/
import Derived.Test.YtehcnnodkhcgfaaRows
import Derived.Test.YtehcnnodkhcgfaaChecked
import Derived.KernelRfl
import Derived.OpenShut
import Derived.ChangeOld
import Derived.ProofKit
namespace Go.Proofs.Ytehcnnodkhcgfaa
set_option linter.all false
open Go.RowKit
namespace marchSays
set_option maxRecDepth 100000
theorem facts : joinedFacts Try.pinned.checked.prog 12 Try.f12 Rows.marchSaysSpec Rows.marchSaysRow = true := by kernel_rfl
end marchSays
end Go.Proofs.Ytehcnnodkhcgfaa
