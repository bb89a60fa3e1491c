/- Lines, part JF4: the closed facts of the row of linesLong. -/
import Derived.Test.YtjfmbeinhhdapaaGreatDoorPBtC4
import Derived.Test.YtjfmbeinhhdapaaGreatDoorPBtP
namespace Go.Proofs.YtjfmbeinhhdapaaGreatDoor
open Go
theorem joined4 : joinedFacts Tryz.prog 4 Tryz.f4 Rows.linesLongSpec Rows.linesLongRow = true := by
  unfold joinedFacts
  rw [Go.Dd.clo_inPlace clo4, Go.Dd.clo_recurses (Go.Dd.clo_unfollowed clo4), Go.Dd.clo_unfollowed clo4, Go.Dd.clo_named clo4, pLaid, pRowed, pKeys, pHeard]
  kernel_rfl
end Go.Proofs.YtjfmbeinhhdapaaGreatDoor
