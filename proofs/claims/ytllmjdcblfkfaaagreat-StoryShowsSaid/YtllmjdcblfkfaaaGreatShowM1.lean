/- Lemmas for the proof of storyShows.proved. -/
import Derived.Test.YtllmjdcblfkfaaaGreatRows
import Derived.Test.YtllmjdcblfkfaaaGreatChecked
import Derived.KernelRfl
import Derived.OpenShut
import Derived.ChangeOld
import Derived.ProofKit
namespace Go.Proofs.YtllmjdcblfkfaaaGreat
set_option linter.all false
open Go.RowKit
namespace storyShows
set_option maxRecDepth 100000
theorem facts : joinedFacts Tryz.pinned.checked.prog 3 Tryz.f3 Rows.storyShowsSpec Rows.storyShowsRow = true := by kernel_rfl
end storyShows
end Go.Proofs.YtllmjdcblfkfaaaGreat
