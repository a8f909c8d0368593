/- Lemmas for the proof of storyAts.proved. -/
import Derived.Test.YthiddmncjafklaaGreatRows
import Derived.Test.YthiddmncjafklaaGreatChecked
import Derived.KernelRfl
import Derived.OpenShut
import Derived.ChangeOld
import Derived.ProofKit
namespace Go.Proofs.YthiddmncjafklaaGreat
set_option linter.all false
open Go.RowKit
namespace storyAts
set_option maxRecDepth 100000
theorem facts : joinedFacts Tryz.pinned.checked.prog 5 Tryz.f5 Rows.storyAtsSpec Rows.storyAtsRow = true := by kernel_rfl
end storyAts
end Go.Proofs.YthiddmncjafklaaGreat
