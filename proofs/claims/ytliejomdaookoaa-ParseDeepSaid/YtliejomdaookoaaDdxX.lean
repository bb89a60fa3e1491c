/- Dd, part X: ParseDeep runs to true in Dd, whatever its arguments. -/
import Derived.Test.YtliejomdaookoaaDdxW
set_option linter.unusedVariables false
set_option linter.unusedSimpArgs false
set_option maxRecDepth 100000
namespace Go.Dd
open Go.Proofs

theorem wrap64 (n : Int) (h1 : -9223372036854775808 ≤ n) (h2 : n ≤ 9223372036854775807) : IntKind.i64.wrap n = n := by
  unfold IntKind.wrap
  simp [IntKind.bits, IntKind.signed, IntKind.min, IntKind.max]
  omega

theorem enter3 (x0 x1 : DV) (h : Hp) : shD 900 3 [x0, x1] h = s3 (shD 899) 899 x0 x1 h := by kernel_rfl

theorem s3a2_true (a0 : Int) (m : Int) (hm : 0 ≤ m) : ∃ h1, s3a2 (shD 899) 899 (.i .i64 a0) (.i .i64 m) h00 = some (.b true, h1) := by
  obtain ⟨k, rfl⟩ := Int.eq_ofNat_of_zero_le hm
  have e1 : pInt .rem (.i .i64 (k : Int)) (.i .i64 (Int.ofNat 60)) h00 = some (.i .i64 (Int.ofNat (k % 60)), h00) := by
    simp [pInt, intBin]
    rfl
  have hlt : k % 60 < 60 := Nat.mod_lt _ (by decide)
  have e2 : s3a2 (shD 899) 899 (.i .i64 a0) (.i .i64 (k : Int)) h00 = s3a5 (shD 899) 899 (.i .i64 a0) (.i .i64 (Int.ofNat (k % 60))) (.s [40]) (.s [41]) h00 := by
    unfold s3a2
    rw [e1]
    rfl
  rw [e2]
  by_cases h : a0 = 1
  · subst h
    have e3 : s3a5 (shD 899) 899 (.i .i64 1) (.i .i64 (Int.ofNat (k % 60))) (.s [40]) (.s [41]) h00 = s3a6 (shD 899) 899 (.i .i64 (Int.ofNat (k % 60))) (.s [91]) (.s [93]) h00 := rfl
    rw [e3]
    exact val_b (pd1 _ hlt)
  · have e4 : pInt .eql (.i .i64 a0) (.i .i64 (Int.ofNat 1)) h00 = some (.b false, h00) := by
      simp [pInt, intBin, h]
    have e3 : s3a5 (shD 899) 899 (.i .i64 a0) (.i .i64 (Int.ofNat (k % 60))) (.s [40]) (.s [41]) h00 = s3a6 (shD 899) 899 (.i .i64 (Int.ofNat (k % 60))) (.s [40]) (.s [41]) h00 := by
      unfold s3a5
      rw [e4]
      rfl
    rw [e3]
    exact val_b (pd0 _ hlt)

theorem run3 (a0 a1 : Int) (h1 : -9223372036854775808 ≤ a1) (h2 : a1 ≤ 9223372036854775807) : ∃ h', shD 900 3 [.i .i64 a0, .i .i64 a1] h00 = some (.b true, h') := by
  rw [enter3]
  show ∃ h', s3a1 (shD 899) 899 (.i .i64 a0) (.i .i64 a1) h00 = some (.b true, h')
  unfold s3a1
  by_cases h : a1 < 0
  · have e1 : pInt .lss (.i .i64 a1) (.i .i64 (Int.ofNat 0)) h00 = some (.b true, h00) := by
      simp [pInt, intBin, h]
    have e2 : pInt .add (.i .i64 a1) (.i .i64 (Int.ofNat 1)) h00 = some (.i .i64 (a1 + 1), h00) := by
      have := wrap64 (a1 + 1) (by omega) (by omega)
      simp [pInt, intBin, this]
    have e3 : pUn .neg (.i .i64 (a1 + 1)) h00 = some (.i .i64 (0 - (a1 + 1)), h00) := by
      have := wrap64 (0 - (a1 + 1)) (by omega) (by omega)
      simp only [pUn, this]
    rw [e1]
    show ∃ h', bnd (pInt .add (.i .i64 a1) (.i .i64 (Int.ofNat 1)) h00) (fun v52 h52 => bnd (pUn .neg v52 h52) fun v53 h53 => s3a2 (shD 899) 899 (.i .i64 a0) v53 h53) = some (.b true, h')
    rw [e2]
    show ∃ h', bnd (pUn .neg (.i .i64 (a1 + 1)) h00) (fun v53 h53 => s3a2 (shD 899) 899 (.i .i64 a0) v53 h53) = some (.b true, h')
    rw [e3]
    exact s3a2_true a0 _ (by omega)
  · have e1 : pInt .lss (.i .i64 a1) (.i .i64 (Int.ofNat 0)) h00 = some (.b false, h00) := by
      simp [pInt, intBin]; omega
    rw [e1]
    exact s3a2_true a0 a1 (by omega)

end Go.Dd
