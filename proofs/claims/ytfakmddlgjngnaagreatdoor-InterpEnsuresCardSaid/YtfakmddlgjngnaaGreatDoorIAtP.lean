/- Lines, part JP: closed facts of the program that each row asks. -/
import Derived.Test.YtfakmddlgjngnaaGreatDoorIAtLO
import Derived.JoinedOf
namespace Go.Proofs.YtfakmddlgjngnaaGreatDoor
open Go
theorem pLaid : laidOutB Tryz.prog = true := by kernel_rfl
theorem pRowed : mapsRowed Tryz.prog = true := by kernel_rfl
theorem pKeys : Tryz.prog.plainKeys = true := by kernel_rfl
theorem pHeard : Tryz.prog.stopsHeard = true := by kernel_rfl
end Go.Proofs.YtfakmddlgjngnaaGreatDoor
