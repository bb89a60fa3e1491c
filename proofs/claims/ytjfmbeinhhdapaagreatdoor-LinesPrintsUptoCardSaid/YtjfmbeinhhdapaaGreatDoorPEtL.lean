/- Lines, part JL: closed facts of the program that each card asks. -/
import Derived.Test.YtjfmbeinhhdapaaGreatDoorRows
import Derived.SevenTiedAt
namespace Go.Proofs.YtjfmbeinhhdapaaGreatDoor
open Go
theorem pLooks : true = Tryz.prog.looks [] := by kernel_rfl
theorem pPlain : ([9, 3, 32, 22].all fun u => !Tryz.prog.wantsStandIn u) = true := by kernel_rfl
theorem pMain : Tryz.prog.mainIs = some (true, "02820d94b491d53b168e7dea868416746a53553cd31a3ff8709cc2ef223cba14".toList) := by kernel_rfl
theorem pWants {t : TypeId} (h : t ∈ [9, 3, 32, 22]) : Tryz.prog.wantsStandIn t = false := by simpa using List.all_eq_true.1 pPlain t h
end Go.Proofs.YtjfmbeinhhdapaaGreatDoor
