/- Lines, part JP: closed facts of the program that each row asks. -/
import Derived.Test.YtjfmbeinhhdapaaGreatDoorPEtLO
import Derived.JoinedOf
namespace Go.Proofs.YtjfmbeinhhdapaaGreatDoor
open Go
theorem pLaid : laidOutB Tryz.prog = true := by kernel_rfl
theorem pRowed : mapsRowed Tryz.prog = true := by kernel_rfl
theorem pKeys : Tryz.prog.plainKeys = false := by kernel_rfl
theorem pHeard : Tryz.prog.stopsHeard = true := by kernel_rfl
end Go.Proofs.YtjfmbeinhhdapaaGreatDoor
