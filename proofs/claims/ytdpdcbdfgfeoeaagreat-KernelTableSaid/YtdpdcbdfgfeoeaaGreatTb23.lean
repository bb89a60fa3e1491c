/- A part of the proof: TBM3: each text has a comment of its own. -/
import Derived.Test.YtdpdcbdfgfeoeaaGreatTb10
set_option linter.unusedVariables false
set_option linter.unusedSimpArgs false
set_option linter.constructorNameAsVariable false
set_option maxRecDepth 100000
namespace Go.Dd
theorem tm7 : dA (nU 1 50555 7 29143) (.t [iD 8]) (50555+29143) (hR iG 50555) = true := by kernel_rfl
theorem tm8 : dA (nU 1 50555 8 29143) (.t [iD 9]) (50555+29143) (hR iG 50555) = true := by kernel_rfl
theorem tm9 : dA (nU 1 50555 9 29143) (.t [iD 10]) (50555+30003) (hR iG 50555) = true := by kernel_rfl
theorem eHb : dA (nU 1 50555 10 30003) (.t [iD 11]) (50555+30634) (hR iG 50555) = true := by kernel_rfl
theorem eMd : dA (nU 1 50555 11 30634) (.t [iD 12]) (50555+30762) (hR iG 50555) = true := by kernel_rfl
end Go.Dd

