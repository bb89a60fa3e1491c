/- A part of the proof: TB5: each text has a comment of its own. -/
import Derived.Test.YtdpdcbdfgfeoeaaGreatTb10
set_option linter.unusedVariables false
set_option linter.unusedSimpArgs false
set_option linter.constructorNameAsVariable false
set_option maxRecDepth 100000
namespace Go.Dd
theorem eFh : dA (eD 900 36 [.p (aM 7) 0, .p (aM 26855) 0] (dB (26855+22255) (hR iG 26855))) (.b true) 50555 HLN = true := by kernel_rfl
end Go.Dd

