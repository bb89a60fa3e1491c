/- The ties of this seat's listed variables in their second order, fact by fact: part 1. -/
import Derived.Test.YtjfmbeinhhdapaaGreatDoorPEtI
namespace Go.Proofs.YtjfmbeinhhdapaaGreatDoor
open Go
theorem tiA7 : ∀ os tape, varsDone Tryz.prog 400 (varsId Tryz.prog) os tape = true := fun _ _ => by kernel_rfl

end Go.Proofs.YtjfmbeinhhdapaaGreatDoor
