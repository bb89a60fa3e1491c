/- Lines, part JC4: what linesLong comes to. -/
import Derived.Test.YtjfmbeinhhdapaaGreatDoorPBtLO
namespace Go.Proofs.YtjfmbeinhhdapaaGreatDoor
open Go
theorem clo4 : Go.Dd.cloF Tryz.prog (Tryz.prog.closure 4) = (Rows.linesLongRow.inPlace, true, Rows.linesLongRow.named) := Go.Dd.closure_via Tryz.prog 4 20000 (Go.Dd.cloF Tryz.prog) _ (by kernel_rfl)
end Go.Proofs.YtjfmbeinhhdapaaGreatDoor
