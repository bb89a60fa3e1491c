/- A part of the proof: E0 E1: each text has a comment of its own. -/
import Derived.Test.YtfakmddlgjngnaaGreatDoorIA9
set_option linter.unusedVariables false
set_option linter.unusedSimpArgs false
set_option linter.constructorNameAsVariable false
set_option maxRecDepth 100000
noncomputable section
namespace Go.Dd
open Go.Proofs
theorem aAx : jU 7 (aL 0) (bC false 0) = true:=by kernel_rfl
theorem eSi : dQ 7 (bC false 0):=dF aAx
theorem aDc : jU 7 (aL 0) (bC false 1) = true:=by kernel_rfl
theorem eLq : dQ 7 (bC false 1):=dF aDc
theorem aAw : jU 7 (aL 0) (bC false 2) = true:=by kernel_rfl
theorem eOu : dQ 7 (bC false 2):=dF aAw
theorem aEg : jU 7 (aL 0) (bC false 3) = true:=by kernel_rfl
theorem eNd : dQ 7 (bC false 3):=dF aEg
theorem aDe : jU 7 (aL 0) (bC false 4) = true:=by kernel_rfl
theorem eOn : dQ 7 (bC false 4):=dF aDe
theorem zN : jU 7 (aL 0) (bC false 5) = true:=by kernel_rfl
theorem eLo : dQ 7 (bC false 5):=dF zN
end Go.Dd

namespace Go.Dd
open Go.Proofs
theorem aEi : jU 7 (aL 0) (bC false 6) = true:=by kernel_rfl
theorem eVa : dQ 7 (bC false 6):=dF aEi
theorem aAn : jU 7 (aL 0) (bC false 7) = true:=by kernel_rfl
theorem eLu : dQ 7 (bC false 7):=dF aAn
end Go.Dd

end
