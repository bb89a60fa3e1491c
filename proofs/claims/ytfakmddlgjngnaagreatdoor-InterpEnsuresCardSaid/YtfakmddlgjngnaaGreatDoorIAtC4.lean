/- Lines, part JC4: what interpEnsures comes to. -/
import Derived.Test.YtfakmddlgjngnaaGreatDoorIAtLO
namespace Go.Proofs.YtfakmddlgjngnaaGreatDoor
open Go
theorem clo4 : Go.Dd.cloF Tryz.prog (Tryz.prog.closure 4) = (Rows.interpEnsuresRow.inPlace, true, Rows.interpEnsuresRow.named) := Go.Dd.closure_via Tryz.prog 4 20000 (Go.Dd.cloF Tryz.prog) _ (by kernel_rfl)
end Go.Proofs.YtfakmddlgjngnaaGreatDoor
