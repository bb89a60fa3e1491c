/- A part of the proof: TBB0: each text has a comment of its own. -/
import Derived.Test.YtdpdcbdfgfeoeaaGreatTb10
set_option linter.unusedVariables false
set_option linter.unusedSimpArgs false
set_option linter.constructorNameAsVariable false
set_option maxRecDepth 100000
namespace Go.Dd
theorem eHm : dA (gW 5 50555 0 129 cR0) (.t [iD 5]) (50555+1298) (hR cR5 50555) = true := by kernel_rfl
theorem eIo : dA (gW 5 50555 5 1298 cR5) (.t [iD 10]) (50555+2394) (hR bTx 50555) = true := by kernel_rfl
theorem dWu : dA (gW 5 50555 10 2394 bTx) (.t [iD 15]) (50555+3254) (hR cLk 50555) = true := by kernel_rfl
theorem dWp : dA (gW 5 50555 15 3254 cLk) (.t [iD 20]) (50555+3934) (hR bRj 50555) = true := by kernel_rfl
theorem dZu : dA (gW 5 50555 20 3934 bRj) (.t [iD 25]) (50555+5023) (hR bTn 50555) = true := by kernel_rfl
end Go.Dd

