/- A part of the proof: TBM0: each text has a comment of its own. -/
import Derived.Test.YtdpdcbdfgfeoeaaGreatTb10
set_option linter.unusedVariables false
set_option linter.unusedSimpArgs false
set_option linter.constructorNameAsVariable false
set_option maxRecDepth 100000
namespace Go.Dd
theorem tm0 : dA (nU 1 50555 0 22255) (.t [iD 1]) (50555+23930) (hR iG 50555) = true := by kernel_rfl
theorem tm1 : dA (nU 1 50555 1 23930) (.t [iD 2]) (50555+24248) (hR iG 50555) = true := by kernel_rfl
theorem tm2 : dA (nU 1 50555 2 24248) (.t [iD 3]) (50555+24248) (hR iG 50555) = true := by kernel_rfl
theorem tm3 : dA (nU 1 50555 3 24248) (.t [iD 4]) (50555+24248) (hR iG 50555) = true := by kernel_rfl
end Go.Dd

