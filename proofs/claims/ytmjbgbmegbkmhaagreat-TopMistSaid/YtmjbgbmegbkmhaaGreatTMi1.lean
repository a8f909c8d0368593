/- Lemmas for the proof of topMist.proved. -/
import Derived.Test.YtmjbgbmegbkmhaaGreatRows
import Derived.Test.YtmjbgbmegbkmhaaGreatChecked
import Derived.KernelRfl
import Derived.OpenShut
import Derived.ChangeOld
import Derived.ProofKit
namespace Go.Proofs.YtmjbgbmegbkmhaaGreat
set_option linter.all false
open Go.RowKit
namespace topMist
set_option maxRecDepth 100000
theorem facts:joinedFacts Tryz.pinned.checked.prog 4 Tryz.f4 Rows.topMistSpec Rows.topMistRow=true:=by kernel_rfl
end topMist
end Go.Proofs.YtmjbgbmegbkmhaaGreat
