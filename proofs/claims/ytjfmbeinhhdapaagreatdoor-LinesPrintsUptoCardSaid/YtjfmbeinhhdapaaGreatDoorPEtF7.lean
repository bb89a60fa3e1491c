/- Lines, part JF7: the closed facts of the row of linesPrintsUpto. -/
import Derived.Test.YtjfmbeinhhdapaaGreatDoorPEtC7
import Derived.Test.YtjfmbeinhhdapaaGreatDoorPEtP
namespace Go.Proofs.YtjfmbeinhhdapaaGreatDoor
open Go
theorem joined7 : joinedFacts Tryz.prog 7 Tryz.f7 (Rows.OpenSpec.upto Rows.linesPrintsSpec).bare Rows.linesPrintsUptoRow = true := by
  unfold joinedFacts
  rw [Go.Dd.clo_inPlace clo7, Go.Dd.clo_recurses (Go.Dd.clo_unfollowed clo7), Go.Dd.clo_unfollowed clo7, Go.Dd.clo_named clo7, pLaid, pRowed, pKeys, pHeard]
  kernel_rfl
end Go.Proofs.YtjfmbeinhhdapaaGreatDoor
