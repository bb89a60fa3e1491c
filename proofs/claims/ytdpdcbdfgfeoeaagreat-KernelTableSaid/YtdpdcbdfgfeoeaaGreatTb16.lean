/- A part of the proof: TBB1: each text has a comment of its own. -/
import Derived.Test.YtdpdcbdfgfeoeaaGreatTb10
set_option linter.unusedVariables false
set_option linter.unusedSimpArgs false
set_option linter.constructorNameAsVariable false
set_option maxRecDepth 100000
namespace Go.Dd
theorem eAy : dA (gW 5 50555 25 5023 bTn) (.t [iD 30]) (50555+5981) (hR cEx 50555) = true := by kernel_rfl
theorem eCs : dA (gW 5 50555 30 5981 cEx) (.t [iD 35]) (50555+7105) (hR bRe 50555) = true := by kernel_rfl
theorem eCg : dA (gW 5 50555 35 7105 bRe) (.t [iD 40]) (50555+8765) (hR cBc 50555) = true := by kernel_rfl
theorem eEi : dA (gW 5 50555 40 8765 cBc) (.t [iD 45]) (50555+10267) (hR bPu 50555) = true := by kernel_rfl
end Go.Dd

