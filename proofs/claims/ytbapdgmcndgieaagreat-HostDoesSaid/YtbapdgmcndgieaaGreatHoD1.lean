/- Lemmas for the proof of hostDoes.proved. -/
import Derived.Test.YtbapdgmcndgieaaGreatRows
import Derived.Test.YtbapdgmcndgieaaGreatChecked
import Derived.KernelRfl
import Derived.OpenShut
import Derived.ChangeOld
import Derived.ProofKit
namespace Go.Proofs.YtbapdgmcndgieaaGreat
set_option linter.all false
open Go.RowKit
namespace hostDoes
set_option maxRecDepth 100000
theorem facts:joinedFacts Tryz.pinned.checked.prog 3 Tryz.f3 Rows.hostDoesSpec Rows.hostDoesRow=true:=by kernel_rfl
end hostDoes
end Go.Proofs.YtbapdgmcndgieaaGreat
