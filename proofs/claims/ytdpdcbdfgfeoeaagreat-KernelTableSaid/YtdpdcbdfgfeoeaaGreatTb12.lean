/- A part of the proof: TBA1: each text has a comment of its own. -/
import Derived.Test.YtdpdcbdfgfeoeaaGreatTb10
set_option linter.unusedVariables false
set_option linter.unusedSimpArgs false
set_option linter.constructorNameAsVariable false
set_option maxRecDepth 100000
namespace Go.Dd
theorem eCm : dA (gW 5 26855 25 5023 bTn) (.t [iD 30]) (26855+5981) (hR cEx 26855) = true := by kernel_rfl
theorem eFv : dA (gW 5 26855 30 5981 cEx) (.t [iD 35]) (26855+7105) (hR bRe 26855) = true := by kernel_rfl
theorem eBd : dA (gW 5 26855 35 7105 bRe) (.t [iD 40]) (26855+8765) (hR cBc 26855) = true := by kernel_rfl
theorem eAm : dA (gW 5 26855 40 8765 cBc) (.t [iD 45]) (26855+10267) (hR bPu 26855) = true := by kernel_rfl
end Go.Dd

