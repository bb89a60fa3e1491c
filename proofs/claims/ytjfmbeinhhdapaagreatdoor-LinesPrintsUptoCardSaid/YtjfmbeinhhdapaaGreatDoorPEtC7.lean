/- Lines, part JC7: what linesPrintsUpto comes to. -/
import Derived.Test.YtjfmbeinhhdapaaGreatDoorPEtLO
namespace Go.Proofs.YtjfmbeinhhdapaaGreatDoor
open Go
theorem clo7 : Go.Dd.cloF Tryz.prog (Tryz.prog.closure 7) = (Rows.linesPrintsUptoRow.inPlace, true, Rows.linesPrintsUptoRow.named) := Go.Dd.closure_via Tryz.prog 7 20000 (Go.Dd.cloF Tryz.prog) _ (by kernel_rfl)
end Go.Proofs.YtjfmbeinhhdapaaGreatDoor
