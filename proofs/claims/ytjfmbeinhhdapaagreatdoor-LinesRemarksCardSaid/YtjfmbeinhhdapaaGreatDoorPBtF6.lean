/- Lines, part JF6: the closed facts of the row of linesRemarks. -/
import Derived.Test.YtjfmbeinhhdapaaGreatDoorPBtC6
import Derived.Test.YtjfmbeinhhdapaaGreatDoorPBtP
namespace Go.Proofs.YtjfmbeinhhdapaaGreatDoor
open Go
theorem joined6 : joinedFacts Tryz.prog 6 Tryz.f6 Rows.linesRemarksSpec Rows.linesRemarksRow = true := by
  unfold joinedFacts
  rw [Go.Dd.clo_inPlace clo6, Go.Dd.clo_recurses (Go.Dd.clo_unfollowed clo6), Go.Dd.clo_unfollowed clo6, Go.Dd.clo_named clo6, pLaid, pRowed, pKeys, pHeard]
  kernel_rfl
end Go.Proofs.YtjfmbeinhhdapaaGreatDoor
