/- Lines, part JF3: the closed facts of the row of linesParses. -/
import Derived.Test.YtjfmbeinhhdapaaGreatDoorPBtC3
import Derived.Test.YtjfmbeinhhdapaaGreatDoorPBtP
namespace Go.Proofs.YtjfmbeinhhdapaaGreatDoor
open Go
theorem joined3 : joinedFacts Tryz.prog 3 Tryz.f3 Rows.linesParsesSpec Rows.linesParsesRow = true := by
  unfold joinedFacts
  rw [Go.Dd.clo_inPlace clo3, Go.Dd.clo_recurses (Go.Dd.clo_unfollowed clo3), Go.Dd.clo_unfollowed clo3, Go.Dd.clo_named clo3, pLaid, pRowed, pKeys, pHeard]
  kernel_rfl
end Go.Proofs.YtjfmbeinhhdapaaGreatDoor
