/- A part of the proof: TBB3: each text has a comment of its own. -/
import Derived.Test.YtdpdcbdfgfeoeaaGreatTb10
set_option linter.unusedVariables false
set_option linter.unusedSimpArgs false
set_option linter.constructorNameAsVariable false
set_option maxRecDepth 100000
namespace Go.Dd
theorem eDc : dA (gW 5 50555 55 16333 cGq) (.t [iD 60]) (50555+17506) (hR cAe 50555) = true := by kernel_rfl
theorem eGn : dA (gW 5 50555 60 17506 cAe) (.t [iD 65]) (50555+20237) (hR cBw 50555) = true := by kernel_rfl
theorem dWx : dA (gW 5 50555 65 20237 cBw) (.t [iD 70]) (50555+21079) (hR cMo 50555) = true := by kernel_rfl
theorem eDi : dA (gW 5 50555 70 21079 cMo) (.t [iD 75]) (50555+22255) (hR iG 50555) = true := by kernel_rfl
end Go.Dd

