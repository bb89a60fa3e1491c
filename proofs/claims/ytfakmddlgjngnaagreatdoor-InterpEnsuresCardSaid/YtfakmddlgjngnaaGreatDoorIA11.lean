/- A part of the proof: E2 E3: each text has a comment of its own. -/
import Derived.Test.YtfakmddlgjngnaaGreatDoorIA9
set_option linter.unusedVariables false
set_option linter.unusedSimpArgs false
set_option linter.constructorNameAsVariable false
set_option maxRecDepth 100000
noncomputable section
namespace Go.Dd
open Go.Proofs
theorem aEs : jU 7 (aL 0) (bC true 0) = true:=by kernel_rfl
theorem eUf : dQ 7 (bC true 0):=dF aEs
theorem aEv : jU 7 (aL 0) (bC true 1) = true:=by kernel_rfl
theorem eLk : dQ 7 (bC true 1):=dF aEv
theorem aFd : jU 7 (aL 0) (bC true 2) = true:=by kernel_rfl
theorem eIi : dQ 7 (bC true 2):=dF aFd
theorem aEk : jU 7 (aL 0) (bC true 3) = true:=by kernel_rfl
theorem eTf : dQ 7 (bC true 3):=dF aEk
theorem aEt : jU 7 (aL 0) (bC true 4) = true:=by kernel_rfl
theorem eMq : dQ 7 (bC true 4):=dF aEt
theorem aEx : jU 7 (aL 0) (bC true 5) = true:=by kernel_rfl
theorem eSy : dQ 7 (bC true 5):=dF aEx
end Go.Dd

namespace Go.Dd
open Go.Proofs
theorem aEo : jU 7 (aL 0) (bC true 6) = true:=by kernel_rfl
theorem eKw : dQ 7 (bC true 6):=dF aEo
theorem aEq : jU 7 (aL 0) (bC true 7) = true:=by kernel_rfl
theorem eNe : dQ 7 (bC true 7):=dF aEq
end Go.Dd

end
