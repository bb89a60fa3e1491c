/- A part of the proof: FOT: each text has a comment of its own. -/
import Derived.Test.YtkdndgecldkiiaaGreatPl13
set_option linter.unusedVariables false
set_option linter.unusedSimpArgs false
set_option linter.constructorNameAsVariable false
set_option maxRecDepth 100000
namespace Go.Dd
open Go.Proofs
theorem eAd (x : Int) : eF (dV true x) 2 0 = true := by kernel_rfl
theorem eAm (x : Int) : eF (dV true x) 2 2 = true := by kernel_rfl
theorem eGz (x : Int) : eF (dV true x) 2 4 = true := by kernel_rfl
theorem eBp (x : Int) : eF (dV true x) 2 6 = true := by kernel_rfl
theorem dYz (x : Int) : eF (dV true x) 2 8 = true := by kernel_rfl
theorem dPq (x : Int) : eF (dV true x) 2 10 = true := by kernel_rfl
theorem dOw (x : Int) : eF (dV true x) 2 12 = true := by kernel_rfl
theorem dKq (x : Int) : eF (dV true x) 2 14 = true := by kernel_rfl
theorem dWg (x : Int) : eF (dV true x) 2 16 = true := by kernel_rfl
theorem dLz (x : Int) : eF (dV true x) 2 18 = true := by kernel_rfl
theorem dTd (x : Int) : eF (dV true x) 2 20 = true := by kernel_rfl
theorem dTo (x : Int) : eF (dV true x) 2 22 = true := by kernel_rfl
theorem dQi (x : Int) : eF (dV true x) 2 24 = true := by kernel_rfl
theorem dLf (x : Int) : eF (dV true x) 2 26 = true := by kernel_rfl
theorem dNa (x : Int) : eF (dV true x) 2 28 = true := by kernel_rfl
theorem dVq (x : Int) : eF (dV true x) 2 30 = true := by kernel_rfl
theorem dLn (x : Int) : eF (dV true x) 2 32 = true := by kernel_rfl
theorem dQw (x : Int) : eF (dV true x) 2 34 = true := by kernel_rfl
theorem dJd (x : Int) : eF (dV true x) 2 36 = true := by kernel_rfl
theorem dPr (x : Int) : eF (dV true x) 2 38 = true := by kernel_rfl
theorem eOj (x : Int) (k : Nat) (hk : k < 40) : dV true x k = true := by
 rcases Nat.lt_or_ge k 2 with q0 | q0
 ·exact bQ (eAd x) k (by omega) (by omega)
 rcases Nat.lt_or_ge k 4 with q2 | q2
 ·exact bQ (eAm x) k (by omega) (by omega)
 rcases Nat.lt_or_ge k 6 with q4 | q4
 ·exact bQ (eGz x) k (by omega) (by omega)
 rcases Nat.lt_or_ge k 8 with q6 | q6
 ·exact bQ (eBp x) k (by omega) (by omega)
 rcases Nat.lt_or_ge k 10 with q8 | q8
 ·exact bQ (dYz x) k (by omega) (by omega)
 rcases Nat.lt_or_ge k 12 with q10 | q10
 ·exact bQ (dPq x) k (by omega) (by omega)
 rcases Nat.lt_or_ge k 14 with q12 | q12
 ·exact bQ (dOw x) k (by omega) (by omega)
 rcases Nat.lt_or_ge k 16 with q14 | q14
 ·exact bQ (dKq x) k (by omega) (by omega)
 rcases Nat.lt_or_ge k 18 with q16 | q16
 ·exact bQ (dWg x) k (by omega) (by omega)
 rcases Nat.lt_or_ge k 20 with q18 | q18
 ·exact bQ (dLz x) k (by omega) (by omega)
 rcases Nat.lt_or_ge k 22 with q20 | q20
 ·exact bQ (dTd x) k (by omega) (by omega)
 rcases Nat.lt_or_ge k 24 with q22 | q22
 ·exact bQ (dTo x) k (by omega) (by omega)
 rcases Nat.lt_or_ge k 26 with q24 | q24
 ·exact bQ (dQi x) k (by omega) (by omega)
 rcases Nat.lt_or_ge k 28 with q26 | q26
 ·exact bQ (dLf x) k (by omega) (by omega)
 rcases Nat.lt_or_ge k 30 with q28 | q28
 ·exact bQ (dNa x) k (by omega) (by omega)
 rcases Nat.lt_or_ge k 32 with q30 | q30
 ·exact bQ (dVq x) k (by omega) (by omega)
 rcases Nat.lt_or_ge k 34 with q32 | q32
 ·exact bQ (dLn x) k (by omega) (by omega)
 rcases Nat.lt_or_ge k 36 with q34 | q34
 ·exact bQ (dQw x) k (by omega) (by omega)
 rcases Nat.lt_or_ge k 38 with q36 | q36
 ·exact bQ (dJd x) k (by omega) (by omega)
 exact bQ (dPr x) k (by omega) (by omega)
end Go.Dd

