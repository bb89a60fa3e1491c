/- A part of the proof: HC3: each text has a comment of its own. -/
import Derived.Test.YtfakmddlgjngnaaGreatDoorIA3
set_option linter.unusedVariables false
set_option linter.unusedSimpArgs false
set_option linter.constructorNameAsVariable false
set_option maxRecDepth 100000
noncomputable section
namespace Go.Dd
theorem eVw : mT (pB 60 5 (iM 21113 (oW 30000 3553 486 69 [6802,1096,6,24,42,60,78,96,114,132,150,168,186,204,222,240,258,276] [(118,7096),(127,0),(145,0)] 60))) (lW 65) 24295 (oW 30000 3878 519 73 [7640,1096,6,24,42,60,78,96,114,132,150,168,186,204,222,240,258,276] [(127,0),(145,0)] 65) = true:=by kernel_rfl
theorem eVf : mT (pB 65 5 (iM 24295 (oW 30000 3878 519 73 [7640,1096,6,24,42,60,78,96,114,132,150,168,186,204,222,240,258,276] [(127,0),(145,0)] 65))) (lW 70) 25368 (oW 30000 4096 552 77 [8104,1096,6,24,42,60,78,96,114,132,150,168,186,204,222,240,258,276] [(127,8182),(145,0)] 70) = true:=by kernel_rfl
theorem eWo : mT (pB 70 5 (iM 25368 (oW 30000 4096 552 77 [8104,1096,6,24,42,60,78,96,114,132,150,168,186,204,222,240,258,276] [(127,8182),(145,0)] 70))) (lW 75) 26855 (oW 30000 4321 583 80 [8370,1096,6,24,42,60,78,96,114,132,150,168,186,204,222,240,258,276] [] 75) = true:=by kernel_rfl
end Go.Dd

end
