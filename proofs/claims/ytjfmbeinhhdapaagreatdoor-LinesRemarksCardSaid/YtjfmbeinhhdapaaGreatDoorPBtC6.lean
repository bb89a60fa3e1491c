/- Lines, part JC6: what linesRemarks comes to. -/
import Derived.Test.YtjfmbeinhhdapaaGreatDoorPBtLO
namespace Go.Proofs.YtjfmbeinhhdapaaGreatDoor
open Go
theorem clo6 : Go.Dd.cloF Tryz.prog (Tryz.prog.closure 6) = (Rows.linesRemarksRow.inPlace, true, Rows.linesRemarksRow.named) := Go.Dd.closure_via Tryz.prog 6 20000 (Go.Dd.cloF Tryz.prog) _ (by kernel_rfl)
end Go.Proofs.YtjfmbeinhhdapaaGreatDoor
