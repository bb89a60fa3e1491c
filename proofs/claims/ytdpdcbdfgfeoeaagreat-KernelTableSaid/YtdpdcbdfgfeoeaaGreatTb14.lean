/- A part of the proof: TBA3: each text has a comment of its own. -/
import Derived.Test.YtdpdcbdfgfeoeaaGreatTb10
set_option linter.unusedVariables false
set_option linter.unusedSimpArgs false
set_option linter.constructorNameAsVariable false
set_option maxRecDepth 100000
namespace Go.Dd
theorem dYq : dA (gW 5 26855 55 16333 cGq) (.t [iD 60]) (26855+17506) (hR cAe 26855) = true := by kernel_rfl
theorem dVu : dA (gW 5 26855 60 17506 cAe) (.t [iD 65]) (26855+20237) (hR cBw 26855) = true := by kernel_rfl
theorem eBz : dA (gW 5 26855 65 20237 cBw) (.t [iD 70]) (26855+21079) (hR cMo 26855) = true := by kernel_rfl
theorem eCz : dA (gW 5 26855 70 21079 cMo) (.t [iD 75]) (26855+22255) (hR iG 26855) = true := by kernel_rfl
end Go.Dd

