/- Lines, part JC5: what linesShows comes to. -/
import Derived.Test.YtjfmbeinhhdapaaGreatDoorPDtLO
namespace Go.Proofs.YtjfmbeinhhdapaaGreatDoor
open Go
theorem clo5 : Go.Dd.cloF Tryz.prog (Tryz.prog.closure 5) = (Rows.linesShowsRow.inPlace, true, Rows.linesShowsRow.named) := Go.Dd.closure_via Tryz.prog 5 20000 (Go.Dd.cloF Tryz.prog) _ (by kernel_rfl)
end Go.Proofs.YtjfmbeinhhdapaaGreatDoor
