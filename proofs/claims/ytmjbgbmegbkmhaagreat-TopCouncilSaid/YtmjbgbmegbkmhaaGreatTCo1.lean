/- Lemmas for the proof of topCouncil.proved. -/
import Derived.Test.YtmjbgbmegbkmhaaGreatRows
import Derived.Test.YtmjbgbmegbkmhaaGreatChecked
import Derived.KernelRfl
import Derived.OpenShut
import Derived.ChangeOld
import Derived.ProofKit
namespace Go.Proofs.YtmjbgbmegbkmhaaGreat
set_option linter.all false
open Go.RowKit
namespace topCouncil
set_option maxRecDepth 100000
theorem facts:joinedFacts Tryz.pinned.checked.prog 5 Tryz.f5 Rows.topCouncilSpec Rows.topCouncilRow=true:=by kernel_rfl
end topCouncil
end Go.Proofs.YtmjbgbmegbkmhaaGreat
