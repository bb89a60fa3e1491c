/- Lines, part JF3: the closed facts of the row of interpEnsures. -/
import Derived.Test.YtfakmddlgjngnaaGreatDoorIAtC4
import Derived.Test.YtfakmddlgjngnaaGreatDoorIAtP
namespace Go.Proofs.YtfakmddlgjngnaaGreatDoor
open Go
theorem joined4 : joinedFacts Tryz.prog 4 Tryz.f4 Rows.interpEnsuresSpec Rows.interpEnsuresRow = true := by
  unfold joinedFacts
  rw [Go.Dd.clo_inPlace clo4, Go.Dd.clo_recurses (Go.Dd.clo_unfollowed clo4), Go.Dd.clo_unfollowed clo4, Go.Dd.clo_named clo4, pLaid, pRowed, pKeys, pHeard]
  kernel_rfl
end Go.Proofs.YtfakmddlgjngnaaGreatDoor
