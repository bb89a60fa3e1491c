/- Lines, part JF5: the closed facts of the row of linesShows. -/
import Derived.Test.YtjfmbeinhhdapaaGreatDoorPDtC5
import Derived.Test.YtjfmbeinhhdapaaGreatDoorPDtP
namespace Go.Proofs.YtjfmbeinhhdapaaGreatDoor
open Go
theorem joined5 : joinedFacts Tryz.prog 5 Tryz.f5 Rows.linesShowsSpec Rows.linesShowsRow = true := by
  unfold joinedFacts
  rw [Go.Dd.clo_inPlace clo5, Go.Dd.clo_recurses (Go.Dd.clo_unfollowed clo5), Go.Dd.clo_unfollowed clo5, Go.Dd.clo_named clo5, pLaid, pRowed, pKeys, pHeard]
  kernel_rfl
end Go.Proofs.YtjfmbeinhhdapaaGreatDoor
