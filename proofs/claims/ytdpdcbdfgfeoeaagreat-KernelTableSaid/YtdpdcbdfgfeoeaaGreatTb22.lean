/- A part of the proof: TBM2: each text has a comment of its own. -/
import Derived.Test.YtdpdcbdfgfeoeaaGreatTb10
set_option linter.unusedVariables false
set_option linter.unusedSimpArgs false
set_option linter.constructorNameAsVariable false
set_option maxRecDepth 100000
namespace Go.Dd
theorem tm6 : dA (nU 1 50555 6 25762) (.t [iD 7]) (50555+29143) (hR iG 50555) = true := by kernel_rfl
end Go.Dd

