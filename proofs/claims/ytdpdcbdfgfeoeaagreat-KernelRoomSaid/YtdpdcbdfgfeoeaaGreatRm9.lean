/- A part of the proof: HC4: each text has a comment of its own. -/
import Derived.Test.YtdpdcbdfgfeoeaaGreatRm4
set_option linter.unusedVariables false
set_option linter.unusedSimpArgs false
set_option linter.constructorNameAsVariable false
set_option maxRecDepth 100000
namespace Go.Dd
open Go.Proofs
theorem heB : lK cUn (kL 0) 432 (gA 553 84 18 [1076, 1096, 6, 24, 42, 60, 78, 96, 114, 132, 150, 168, 186, 204, 222, 240, 258, 276] [(10, 0), (19, 0), (46, 0), (55, 0), (64, 0), (91, 0), (100, 0), (109, 0), (118, 0), (127, 0), (145, 0)] 0) = true := by kernel_rfl
end Go.Dd

