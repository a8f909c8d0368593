/- Lemmas for the proof of topWire.proved. -/
import Derived.Test.YtmjbgbmegbkmhaaGreatRows
import Derived.Test.YtmjbgbmegbkmhaaGreatChecked
import Derived.KernelRfl
import Derived.OpenShut
import Derived.ChangeOld
import Derived.ProofKit
namespace Go.Proofs.YtmjbgbmegbkmhaaGreat
set_option linter.all false
open Go.RowKit
namespace topWire
set_option maxRecDepth 100000
theorem facts:joinedFacts Tryz.pinned.checked.prog 6 Tryz.f6 Rows.topWireSpec Rows.topWireRow=true:=by kernel_rfl
end topWire
end Go.Proofs.YtmjbgbmegbkmhaaGreat
