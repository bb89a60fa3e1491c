/- The ties of this seat's listed variables, fact by fact: part 2. -/
import Derived.Test.YtjfmbeinhhdapaaGreatDoorPEtI
namespace Go.Proofs.YtjfmbeinhhdapaaGreatDoor
open Go
theorem tiA8 : ∀ os tape, (DataW.laidRun Tryz.prog (varsWorld Tryz.prog 400 (varsId Tryz.prog) os tape).memory 8 (tiA.map (·.1))).map (·.1) = some tiA := fun _ _ => by kernel_rfl
end Go.Proofs.YtjfmbeinhhdapaaGreatDoor
