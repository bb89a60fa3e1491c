/- A part of the proof: TBM4: each text has a comment of its own. -/
import Derived.Test.YtdpdcbdfgfeoeaaGreatTb10
set_option linter.unusedVariables false
set_option linter.unusedSimpArgs false
set_option linter.constructorNameAsVariable false
set_option maxRecDepth 100000
namespace Go.Dd
theorem eId : dA (nU 1 50555 12 30762) (.t [iD 13]) (50555+32188) (hR iG 50555) = true := by kernel_rfl
theorem eJi : dA (nU 1 50555 13 32188) (.t [iD 14]) (50555+33111) (hR iG 50555) = true := by kernel_rfl
theorem eHt : dA (nU 1 50555 14 33111) (.t [iD 15]) (50555+33111) (hR iG 50555) = true := by kernel_rfl
theorem eGu : dA (nU 1 50555 15 33111) (.t [iD 16]) (50555+33283) (hR iG 50555) = true := by kernel_rfl
theorem eGq : dA (pS (b40 (.p (aM 7) 0) (.p (aM 50555) 0)) 883 sL (iD 16) (dB (50555+33283) (hR iG 50555))) (.b true) (50555+33283) [] = true := by kernel_rfl
end Go.Dd

