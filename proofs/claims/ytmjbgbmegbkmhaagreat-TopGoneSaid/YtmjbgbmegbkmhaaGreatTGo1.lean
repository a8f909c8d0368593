/- Lemmas for the proof of topGone.proved. -/
import Derived.Test.YtmjbgbmegbkmhaaGreatRows
import Derived.Test.YtmjbgbmegbkmhaaGreatChecked
import Derived.KernelRfl
import Derived.OpenShut
import Derived.ChangeOld
import Derived.ProofKit
namespace Go.Proofs.YtmjbgbmegbkmhaaGreat
set_option linter.all false
open Go.RowKit
namespace topGone
set_option maxRecDepth 100000
theorem facts:joinedFacts Tryz.pinned.checked.prog 3 Tryz.f3 Rows.topGoneSpec Rows.topGoneRow=true:=by kernel_rfl
end topGone
end Go.Proofs.YtmjbgbmegbkmhaaGreat
