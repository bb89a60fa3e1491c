/- The ties of this seat's listed variables, fact by fact: part 3. -/
import Derived.Test.YtjfmbeinhhdapaaGreatDoorPEtI
namespace Go.Proofs.YtjfmbeinhhdapaaGreatDoor
open Go
theorem tiA9 : ∀ os tape, (DataW.laidRun Tryz.prog (varsWorld Tryz.prog 400 (varsId Tryz.prog) os tape).memory 8 (tiA.map (·.1))).map (fun x => decide x.2.Nodup && laidRowsB Tryz.prog (varsWorld Tryz.prog 400 (varsId Tryz.prog) os tape).memory x.2) = some true := fun _ _ => by kernel_rfl
end Go.Proofs.YtjfmbeinhhdapaaGreatDoor
