/- A part of the proof: TBB2: each text has a comment of its own. -/
import Derived.Test.YtdpdcbdfgfeoeaaGreatTb10
set_option linter.unusedVariables false
set_option linter.unusedSimpArgs false
set_option linter.constructorNameAsVariable false
set_option maxRecDepth 100000
namespace Go.Dd
theorem dZt : dA (gW 5 50555 45 10267 bPu) (.t [iD 50]) (50555+14229) (hR cId 50555) = true := by kernel_rfl
theorem dWv : dA (gW 5 50555 50 14229 cId) (.t [iD 55]) (50555+16333) (hR cGq 50555) = true := by kernel_rfl
end Go.Dd

