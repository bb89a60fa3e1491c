/- A part of the proof: HC3: each text has a comment of its own. -/
import Derived.Test.YtjfmbeinhhdapaaGreatDoorPE3
set_option linter.unusedVariables false
set_option linter.unusedSimpArgs false
set_option linter.constructorNameAsVariable false
set_option maxRecDepth 100000
noncomputable section
namespace Go.Dd
theorem dSn : nE (pF 60 5 (jI 21113 (pC 30000 3553 486 69 [6802,1096,6,24,42,60,78,96,114,132,150,168,186,204,222,240,258,276] [(118,7096),(127,0),(145,0)] 60))) (lU 65) 24295 (pC 30000 3878 519 73 [7640,1096,6,24,42,60,78,96,114,132,150,168,186,204,222,240,258,276] [(127,0),(145,0)] 65) = true:=by kernel_rfl
theorem dQz : nE (pF 65 5 (jI 24295 (pC 30000 3878 519 73 [7640,1096,6,24,42,60,78,96,114,132,150,168,186,204,222,240,258,276] [(127,0),(145,0)] 65))) (lU 70) 25368 (pC 30000 4096 552 77 [8104,1096,6,24,42,60,78,96,114,132,150,168,186,204,222,240,258,276] [(127,8182),(145,0)] 70) = true:=by kernel_rfl
theorem dSh : nE (pF 70 5 (jI 25368 (pC 30000 4096 552 77 [8104,1096,6,24,42,60,78,96,114,132,150,168,186,204,222,240,258,276] [(127,8182),(145,0)] 70))) (lU 75) 26855 (pC 30000 4321 583 80 [8370,1096,6,24,42,60,78,96,114,132,150,168,186,204,222,240,258,276] [] 75) = true:=by kernel_rfl
end Go.Dd

end
