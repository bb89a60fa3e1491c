/- Lines, part JL: closed facts of the program that each card asks. -/
import Derived.Test.YtfakmddlgjngnaaGreatDoorRows
import Derived.SevenTiedAt
namespace Go.Proofs.YtfakmddlgjngnaaGreatDoor
open Go
theorem pLooks : false = Tryz.prog.looks [] := by kernel_rfl
theorem pPlain : ([3, 4].all fun u => !Tryz.prog.wantsStandIn u) = true := by kernel_rfl
theorem pMain : Tryz.prog.mainIs = some (true, "d8897b90254764dc82d3f586c56767f6ac90df73c92a62e604fc4d3b94a1a579".toList) := by kernel_rfl
theorem pWants {t : TypeId} (h : t ∈ [3, 4]) : Tryz.prog.wantsStandIn t = false := by simpa using List.all_eq_true.1 pPlain t h
end Go.Proofs.YtfakmddlgjngnaaGreatDoor
