/- A part of the proof: TBA0: each text has a comment of its own. -/
import Derived.Test.YtdpdcbdfgfeoeaaGreatTb10
set_option linter.unusedVariables false
set_option linter.unusedSimpArgs false
set_option linter.constructorNameAsVariable false
set_option maxRecDepth 100000
namespace Go.Dd
theorem eJy : dA (gW 5 26855 0 129 cR0) (.t [iD 5]) (26855+1298) (hR cR5 26855) = true := by kernel_rfl
theorem eMa : dA (gW 5 26855 5 1298 cR5) (.t [iD 10]) (26855+2394) (hR bTx 26855) = true := by kernel_rfl
theorem eBs : dA (gW 5 26855 10 2394 bTx) (.t [iD 15]) (26855+3254) (hR cLk 26855) = true := by kernel_rfl
theorem eAv : dA (gW 5 26855 15 3254 cLk) (.t [iD 20]) (26855+3934) (hR bRj 26855) = true := by kernel_rfl
theorem eBt : dA (gW 5 26855 20 3934 bRj) (.t [iD 25]) (26855+5023) (hR bTn 26855) = true := by kernel_rfl
end Go.Dd

