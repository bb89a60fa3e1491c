/- A part of the proof: TBA2: each text has a comment of its own. -/
import Derived.Test.YtdpdcbdfgfeoeaaGreatTb10
set_option linter.unusedVariables false
set_option linter.unusedSimpArgs false
set_option linter.constructorNameAsVariable false
set_option maxRecDepth 100000
namespace Go.Dd
theorem eEs : dA (gW 5 26855 45 10267 bPu) (.t [iD 50]) (26855+14229) (hR cId 26855) = true := by kernel_rfl
theorem eBx : dA (gW 5 26855 50 14229 cId) (.t [iD 55]) (26855+16333) (hR cGq 26855) = true := by kernel_rfl
end Go.Dd

