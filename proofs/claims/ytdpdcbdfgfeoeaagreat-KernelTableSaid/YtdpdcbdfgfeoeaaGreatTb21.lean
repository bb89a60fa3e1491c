/- A part of the proof: TBM1: each text has a comment of its own. -/
import Derived.Test.YtdpdcbdfgfeoeaaGreatTb10
set_option linter.unusedVariables false
set_option linter.unusedSimpArgs false
set_option linter.constructorNameAsVariable false
set_option maxRecDepth 100000
namespace Go.Dd
theorem tm4 : dA (nU 1 50555 4 24248) (.t [iD 5]) (50555+25005) (hR iG 50555) = true := by kernel_rfl
theorem tm5 : dA (nU 1 50555 5 25005) (.t [iD 6]) (50555+25762) (hR iG 50555) = true := by kernel_rfl
end Go.Dd

