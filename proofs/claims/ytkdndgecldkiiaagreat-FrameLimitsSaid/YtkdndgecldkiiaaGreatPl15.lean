/- A part of the proof: FOF FP: each text has a comment of its own. -/
import Derived.Test.YtkdndgecldkiiaaGreatPl14
set_option linter.unusedVariables false
set_option linter.unusedSimpArgs false
set_option linter.constructorNameAsVariable false
set_option maxRecDepth 100000
namespace Go.Dd
open Go.Proofs
theorem eCm (x : Int) : eF (dV false x) 2 0 = true := by kernel_rfl
theorem dZc (x : Int) : eF (dV false x) 2 2 = true := by kernel_rfl
theorem eIw (x : Int) : eF (dV false x) 2 4 = true := by kernel_rfl
theorem eCk (x : Int) : eF (dV false x) 2 6 = true := by kernel_rfl
theorem eHx (x : Int) : eF (dV false x) 2 8 = true := by kernel_rfl
theorem dNr (x : Int) : eF (dV false x) 2 10 = true := by kernel_rfl
theorem dQq (x : Int) : eF (dV false x) 2 12 = true := by kernel_rfl
theorem dIz (x : Int) : eF (dV false x) 2 14 = true := by kernel_rfl
theorem dKd (x : Int) : eF (dV false x) 2 16 = true := by kernel_rfl
theorem dRp (x : Int) : eF (dV false x) 2 18 = true := by kernel_rfl
theorem dIy (x : Int) : eF (dV false x) 2 20 = true := by kernel_rfl
theorem dSw (x : Int) : eF (dV false x) 2 22 = true := by kernel_rfl
theorem dQe (x : Int) : eF (dV false x) 2 24 = true := by kernel_rfl
theorem dPs (x : Int) : eF (dV false x) 2 26 = true := by kernel_rfl
theorem dKc (x : Int) : eF (dV false x) 2 28 = true := by kernel_rfl
theorem dSp (x : Int) : eF (dV false x) 2 30 = true := by kernel_rfl
theorem dVr (x : Int) : eF (dV false x) 2 32 = true := by kernel_rfl
theorem dSt (x : Int) : eF (dV false x) 2 34 = true := by kernel_rfl
theorem dQt (x : Int) : eF (dV false x) 2 36 = true := by kernel_rfl
theorem dTf (x : Int) : eF (dV false x) 2 38 = true := by kernel_rfl
theorem eNl (x : Int) (k : Nat) (hk : k < 40) : dV false x k = true := by
 rcases Nat.lt_or_ge k 2 with q0 | q0
 ·exact bQ (eCm x) k (by omega) (by omega)
 rcases Nat.lt_or_ge k 4 with q2 | q2
 ·exact bQ (dZc x) k (by omega) (by omega)
 rcases Nat.lt_or_ge k 6 with q4 | q4
 ·exact bQ (eIw x) k (by omega) (by omega)
 rcases Nat.lt_or_ge k 8 with q6 | q6
 ·exact bQ (eCk x) k (by omega) (by omega)
 rcases Nat.lt_or_ge k 10 with q8 | q8
 ·exact bQ (eHx x) k (by omega) (by omega)
 rcases Nat.lt_or_ge k 12 with q10 | q10
 ·exact bQ (dNr x) k (by omega) (by omega)
 rcases Nat.lt_or_ge k 14 with q12 | q12
 ·exact bQ (dQq x) k (by omega) (by omega)
 rcases Nat.lt_or_ge k 16 with q14 | q14
 ·exact bQ (dIz x) k (by omega) (by omega)
 rcases Nat.lt_or_ge k 18 with q16 | q16
 ·exact bQ (dKd x) k (by omega) (by omega)
 rcases Nat.lt_or_ge k 20 with q18 | q18
 ·exact bQ (dRp x) k (by omega) (by omega)
 rcases Nat.lt_or_ge k 22 with q20 | q20
 ·exact bQ (dIy x) k (by omega) (by omega)
 rcases Nat.lt_or_ge k 24 with q22 | q22
 ·exact bQ (dSw x) k (by omega) (by omega)
 rcases Nat.lt_or_ge k 26 with q24 | q24
 ·exact bQ (dQe x) k (by omega) (by omega)
 rcases Nat.lt_or_ge k 28 with q26 | q26
 ·exact bQ (dPs x) k (by omega) (by omega)
 rcases Nat.lt_or_ge k 30 with q28 | q28
 ·exact bQ (dKc x) k (by omega) (by omega)
 rcases Nat.lt_or_ge k 32 with q30 | q30
 ·exact bQ (dSp x) k (by omega) (by omega)
 rcases Nat.lt_or_ge k 34 with q32 | q32
 ·exact bQ (dVr x) k (by omega) (by omega)
 rcases Nat.lt_or_ge k 36 with q34 | q34
 ·exact bQ (dSt x) k (by omega) (by omega)
 rcases Nat.lt_or_ge k 38 with q36 | q36
 ·exact bQ (dQt x) k (by omega) (by omega)
 exact bQ (dTf x) k (by omega) (by omega)
end Go.Dd

namespace Go.Dd
open Go.Proofs
def pkF (n : Int) : Nat := (if n < 0 then -(n + 1) else n).toNat % 40
theorem aSx (n : Int) : pkF n < 40 := Nat.mod_lt _ (by decide)
theorem dEr (a b : Int) (h : Hp) (hb : b ≠ 0) : aF .rem (.i .i64 a) (.i .i64 b) h = some (.i .i64 (a.tmod b), h) := by
 simp only [aF, if_true, gN, if_neg hb]
theorem bDk (R : RT) (m : Nat) {a : Int} (ha : 0 ≤ a) (h : Hp) : aBu R m (iD a) (.i .i64 (Int.ofNat 40)) h = some (.i .i64 (Int.ofNat (a.toNat % 40)), h) := by
 unfold aBu
 rw [iD, dEr a (Int.ofNat 40) h (by decide), bI]
 have : a.tmod (Int.ofNat 40) = Int.ofNat (a.toNat % 40) := by
  obtain ⟨k, rfl⟩ := Int.eq_ofNat_of_zero_le ha
  rfl
 rw [this]
theorem dKk {n : Int} (hn : -9223372036854775808 ≤ n ∧ n ≤ 9223372036854775807) (m : Nat) (h : Hp) : jW (m + 1) 20 [iD n, .i .i64 (Int.ofNat 40)] h = some (.i .i64 (Int.ofNat (pkF n)), h) := by
 rw [shS 20 rfl, dHl]
 simp only [g0, g1]
 show aRd (jW m) m _ _ h = _
 unfold aRd
 have z : (Int.ofNat 0 : Int) = 0 := rfl
 unfold pkF
 by_cases c : n < 0
 ·rw [if_pos c]
  have d : decide (n < Int.ofNat 0) = true := decide_eq_true c
  have ng : ∀ k, eO .neg (.i .i64 (n + Int.ofNat 1)) k = some (.i .i64 (-(n + 1)), k) := fun k => by
   show some (DV.i .i64 (IntKind.i64.wrap (0 - (n + Int.ofNat 1))), k) = _
   rw [jX _ (show -9223372036854775808 ≤ 0 - (n + Int.ofNat 1) ∧ 0 - (n + Int.ofNat 1) ≤ 9223372036854775807 by rw [show (Int.ofNat 1 : Int) = 1 from rfl]; omega)]
   rw [show (0 - (n + Int.ofNat 1) : Int) = -(n + 1) by simp]
  simp only [iD, fW, d, bI, fM, oI n _ _ (show -9223372036854775808 ≤ n + Int.ofNat 1 ∧ n + Int.ofNat 1 ≤ 9223372036854775807 by rw [show (Int.ofNat 1 : Int) = 1 from rfl]; omega), ng]
  exact bDk (jW m) m (by omega) h
 ·rw [if_neg c]
  have d : decide (n < Int.ofNat 0) = false := decide_eq_false c
  simp only [iD, fW, d, bI, eP]
  exact bDk (jW m) m (by omega) h
theorem aSb {g : FuncId} (h1 : Nat.beq g 23 = false) (h2 : Nat.beq g 16 = false) (args : List DV) (h : Hp) : kJ g args h = jW 900 g args h := by
 unfold kJ
 rw [h1, cond_false, bHn, h2, cond_false]
theorem bQo {n : Int} (hn : -9223372036854775808 ≤ n ∧ n ≤ 9223372036854775807) (h : Hp) : kJ 20 [iD n, .i .i64 (Int.ofNat 40)] h = some (.i .i64 (Int.ofNat (pkF n)), h) :=
 (aSb rfl rfl _ _).trans (dKk hn 899 h)
theorem dWf (k : Nat) (hk : k < 40) (h : Hp) : kJ 20 [.i .i64 (Int.ofNat k), .i .i64 (Int.ofNat 40)] h = some (.i .i64 (Int.ofNat k), h) := by
 have := bQo (n := Int.ofNat k) ⟨by show -9223372036854775808 ≤ (k : Int); omega, by show (k : Int) ≤ 9223372036854775807; omega⟩ h
 rw [show pkF (Int.ofNat k) = k from by
  unfold pkF
  rw [if_neg (by simp)]
  exact Nat.mod_eq_of_lt hk] at this
 exact this
theorem bPn {n : Int} (hn : -9223372036854775808 ≤ n ∧ n ≤ 9223372036854775807) (m : Nat) : ∀ (j : Nat) (p l i : DV) (h : Hp), mO kJ m j (iD n) p l i h = mO kJ m j (.i .i64 (Int.ofNat (pkF n))) p l i h
 | 0, _, _, _, _ => rfl
 | j + 1, p, l, i, h => by
  show rX kJ m (mO kJ m j) _ _ _ _ h = rX kJ m (mO kJ m j) _ _ _ _ h
  unfold rX
  simp only [bQo hn, dWf _ (aSx n), bI, bPn hn m j]
theorem eGm {n : Int} (hn : -9223372036854775808 ≤ n ∧ n ≤ 9223372036854775807) (p : DV) (h : Hp) : tF kJ 900 (iD n) p h = tF kJ 900 (.i .i64 (Int.ofNat (pkF n))) p h := bPn hn 900 900 p .l0 (.i .i64 (Int.ofNat 0)) h
theorem eAc (x n : Int) : s4 kJ 900 (iD x) (iD n) hS = bOv kJ 900 (iD x) (iD n) (.p (bC 26857) 0) (.b (bN x MB.pl)) hB := by kernel_rfl
theorem bLs {x n : Int} (hn : -9223372036854775808 ≤ n ∧ n ≤ 9223372036854775807) : ∃ k, aE CF kJ 900 4 [iD x, iD n] hS = some (.b true, k) := by
 rw [eKh]
 simp only [g0, g1]
 rw [eAc, eBh, aSb rfl rfl, dBw, bI]
 generalize hb : bN x MB.pl = b
 rw [eAv, aSb rfl rfl, cRs b x hb, bI, dXp, eGm hn]
 have h : dV b x (pkF n) = true := by
  cases b
  ·exact eNl x _ (aSx n)
  ·exact eOj x _ (aSx n)
 unfold dV at h
 cases hr : tF kJ 900 (.i .i64 (Int.ofNat (pkF n))) (.p (bC 26857) 0) (H2 b x) with
 | none => rw [hr] at h; cases h
 | some p =>
  obtain ⟨v, k⟩ := p
  rw [hr] at h
  cases v <;> (try (cases h; done))
  rename_i b
  change b = true at h
  subst h
  exact ⟨k, rfl⟩
end Go.Dd

