/- Lines, part JC3: what linesParses comes to. -/
import Derived.Test.YtjfmbeinhhdapaaGreatDoorPBtLO
namespace Go.Proofs.YtjfmbeinhhdapaaGreatDoor
open Go
theorem clo3 : Go.Dd.cloF Tryz.prog (Tryz.prog.closure 3) = (Rows.linesParsesRow.inPlace, true, Rows.linesParsesRow.named) := Go.Dd.closure_via Tryz.prog 3 20000 (Go.Dd.cloF Tryz.prog) _ (by kernel_rfl)
end Go.Proofs.YtjfmbeinhhdapaaGreatDoor
