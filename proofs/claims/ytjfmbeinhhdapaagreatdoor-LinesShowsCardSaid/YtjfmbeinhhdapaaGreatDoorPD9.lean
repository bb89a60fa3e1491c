/- A part of the proof: DG RN ON OF GZ LB LC OQ LS OX R12 RX W6 XW LD LE LF LI LJ LK: each text has a comment of its own. -/
import Derived.Test.YtjfmbeinhhdapaaGreatDoorPD8
import Derived.Tactics
import Derived.Tactics2
import Derived.Defers
import Derived.Laws.Pointers
import Derived.Laws.LoneSync
import Derived.RegionTactic
import Derived.RegionCalls
import Derived.ChangeAlike
import Derived.Laws.NewBlocks
import Derived.Lib.Bytealg
import Derived.Test.YtjfmbeinhhdapaaGreatDoorRows
import Derived.Test.YtjfmbeinhhdapaaGreatDoorCards
import Derived.WalkKit
import Derived.ProofKit
import Derived.OpenShut
import Derived.Carry
import Derived.Lib.LaidU8
import Derived.Lay
import Derived.LaidOnce
import Derived.SevenTiedAt
import Derived.ChangeMaps5
import Derived.Test.YtjfmbeinhhdapaaGreatDoorPDtT
set_option linter.unusedVariables false
set_option linter.unusedSimpArgs false
set_option linter.constructorNameAsVariable false
set_option maxRecDepth 100000
namespace Go.Dd
open Go.Proofs
theorem fO (f n : Nat) (acc : List Nat) : gP (f + 1) n acc = if 10 ≤ n then gP f (n / 10) ((48 + n % 10) :: acc) else (48 + n) :: acc := by
 show (bif Nat.ble 10 n then gP f (Nat.div n 10) (Nat.add 48 (Nat.mod n 10) :: acc) else Nat.add 48 n :: acc) = _
 by_cases h : 10 ≤ n
 ·rw [Nat.ble_eq_true_of_le h, if_pos h]
  rfl
 ·rw [if_neg h]
  cases e : Nat.ble 10 n with
  | true => exact absurd (Nat.le_of_ble_eq_true e) h
  | false => rfl
theorem aBw : ∀ (f n : Nat) (acc : List Nat), n < 10 ^ (f + 1) → gP (f + 1) n acc = gP (f + 2) n acc
 | 0, n, acc, h => by
  rw [fO, fO, if_neg (by omega), if_neg (by omega)]
 | f + 1, n, acc, h => by
  rw [fO, fO (f + 2)]
  by_cases hn : 10 ≤ n
  ·rw [if_pos hn, if_pos hn]
   exact aBw f _ _ (by rw [Nat.pow_succ] at h; omega)
  ·rw [if_neg hn, if_neg hn]
theorem xN : ∀ (f n : Nat) (acc : List Nat), gP f n acc = gP f n [] ++ acc ∨ f = 0
 | 0, n, acc => .inr rfl
 | f + 1, n, acc => by
  left
  rw [fO, fO f n []]
  by_cases hn : 10 ≤ n
  ·rw [if_pos hn, if_pos hn]
   rcases xN f (n / 10) ((48 + n % 10) :: acc) with h1 | h1
   ·rcases xN f (n / 10) [48 + n % 10] with h2 | h2
    ·rw [h1, h2]; simp
    ·subst h2; simp [gP]
   ·subst h1; simp [gP]
  ·rw [if_neg hn, if_neg hn]; rfl
def dg (n : Nat) : List Nat := gP 20 n []
theorem lJ {n : Nat} (h : n < 10) : dg n = [48 + n] := by
 unfold dg
 rw [fO, if_neg (by omega)]
theorem aFp {n : Nat} (h : 10 ≤ n) (h2 : n < 10 ^ 20) : dg n = dg (n / 10) ++ [48 + n % 10] := by
 unfold dg
 rw [fO, if_pos h]
 rcases xN 19 (n / 10) [48 + n % 10] with h1 | h1
 ·rw [h1]
  congr 1
  exact aBw 18 _ _ (by omega)
 ·omega
theorem qJ : ∀ (f n : Nat) (acc : List Nat), (gP f n acc).length ≤ f + acc.length
 | 0, n, acc => by simp [gP]
 | f + 1, n, acc => by
  rw [fO]
  split
  ·have := qJ f (n / 10) ((48 + n % 10) :: acc)
   simp at this
   omega
  ·simp; omega
theorem bMc (n : Nat) : (dg n).length ≤ 20 := by
 have := qJ 20 n []
 simpa [dg] using this
theorem kV (n : Int) : (cD n).length ≤ 21 := by
 cases n with
 | ofNat n => have := qJ 20 n []; simp [cD] at this ⊢; omega
 | negSucc n => have := qJ 20 (n + 1) []; simp [cD] at this ⊢; omega
theorem aCv (a : Nat) : ∀ (s : Bs) (x : Nat), mB a (s ++ [x]) = 10 * mB a s + (x - 48)
 | [], x => rfl
 | y :: s, x => by
  show mB (10 * a + (y - 48)) (s ++ [x]) = _
  rw [aCv _ s x]
  rfl
theorem dig_iff {x : Nat} : aPi x = true ↔ 48 ≤ x ∧ x ≤ 57 := by
 unfold aPi
 simp
def bGr (s : Bs) : Prop := s ≠ [] ∧ (∀ x ∈ s, aPi x = true) ∧ (s.length > 1 → s.head? ≠ some 48)
theorem cHy : ∀ {s : Bs}, bGr s → s.head? ≠ some 48 → 0 < mB 0 s := by
 intro s hc h0
 obtain ⟨h1, h2, h3⟩ := hc
 have mono : ∀ (s : Bs) (a : Nat), a ≤ mB a s := by
  intro s
  induction s with
  | nil => intro a; exact Nat.le_refl _
  | cons x s ih => intro a; exact Nat.le_trans (by omega) (ih (10 * a + (x - 48)))
 cases s with
 | nil => exact absurd rfl h1
 | cons x s =>
  have hx := dig_iff.1 (h2 x (by simp))
  have : x ≠ 48 := fun e => h0 (by rw [e]; rfl)
  have := mono s (10 * 0 + (x - 48))
  show 0 < mB (10 * 0 + (x - 48)) s
  omega
theorem bOs : ∀ (n : Nat) (s : Bs), s.length = n → n ≤ 9 → bGr s → dg (mB 0 s) = s ∧ mB 0 s < 10 ^ n
 | n, s, hn, h9, hc => by
  rcases List.eq_nil_or_concat s with rfl | ⟨t, x, rfl⟩
  ·exact absurd rfl hc.1
  ·simp only [List.concat_eq_append] at *
   rw [List.length_append] at hn
   simp only [List.length_cons, List.length_nil] at hn
   obtain ⟨n, rfl⟩ : ∃ j, n = j + 1 := ⟨n - 1, by omega⟩
   have hx := dig_iff.1 (hc.2.1 x (by simp))
   rw [aCv]
   by_cases ht : t = []
   ·subst ht
    have hn0 : n = 0 := by simp at hn; omega
    subst hn0
    show dg (10 * 0 + (x - 48)) = [x] ∧ 10 * 0 + (x - 48) < 10 ^ 1
    rw [lJ (by omega)]
    refine ⟨?_, by omega⟩
    congr 1
    omega
   ·have hh : t.head? ≠ some 48 := by
     have := hc.2.2 (by
      cases t with
      | nil => exact absurd rfl ht
      | cons a b => simp)
     cases t with
     | nil => exact absurd rfl ht
     | cons a b => simpa using this
    have hct : bGr t := ⟨ht, fun y hy => hc.2.1 y (by simp [hy]), fun _ => hh⟩
    obtain ⟨e1, e2⟩ := bOs n t (by omega) (by omega) hct
    have hp := cHy hct hh
    have h20 : 10 ^ (n + 1) ≤ 10 ^ 9 := Nat.pow_le_pow_right (by omega) (by omega)
    rw [Nat.pow_succ] at h20 ⊢
    refine ⟨?_, by omega⟩
    rw [aFp (by omega) (by omega), show (10 * mB 0 t + (x - 48)) / 10 = mB 0 t by omega, e1, show (10 * mB 0 t + (x - 48)) % 10 = x - 48 by omega]
    congr 2
    omega
termination_by n => n
theorem bRt : ∀ (f n : Nat), n < 10 ^ f → n < 10 ^ 20 → bGr (dg n) ∧ mB 0 (dg n) = n ∧ (0 < n → (dg n).head? ≠ some 48)
 | 0, n, h, _ => by
  have : n = 0 := by simp at h; omega
  subst this
  rw [lJ (by omega)]
  exact ⟨⟨by simp, fun x hx => by simp at hx; subst hx; rfl, by simp⟩, rfl, fun h => by omega⟩
 | f + 1, n, h, h20 => by
  by_cases h10 : n < 10
  ·rw [lJ h10]
   refine ⟨⟨by simp, fun x hx => by simp at hx; subst hx; exact dig_iff.2 ⟨by omega, by omega⟩, by simp⟩, ?_, fun h0 => by simp; omega⟩
   show 10 * 0 + (48 + n - 48) = n
   omega
  ·rw [aFp (by omega) h20]
   obtain ⟨⟨c1, c2, c3⟩, e, hd⟩ := bRt f (n / 10) (by rw [Nat.pow_succ] at h; omega) (by omega)
   have hd' := hd (by omega)
   have hhead : (dg (n / 10) ++ [48 + n % 10]).head? ≠ some 48 := by
    cases hh : dg (n / 10) with
    | nil => exact absurd hh c1
    | cons a b => rw [hh] at hd'; simpa using hd'
   refine ⟨⟨by simp, fun x hx => ?_, fun _ => hhead⟩, ?_, fun _ => hhead⟩
   ·rw [List.mem_append] at hx
    rcases hx with hx | hx
    ·exact c2 x hx
    ·simp at hx; subst hx; exact dig_iff.2 ⟨by omega, by omega⟩
   ·rw [aCv, e]
    omega
theorem cFu {s : Bs} {k : Nat} (h : jW s = some k) : bGr s ∧ s.length ≤ 9 ∧ k = mB 0 s := by
 unfold jW at h
 split at h
 ·cases h
 ·rename_i c
  simp only [not_or] at c
  obtain ⟨c1, c2, c3, c4⟩ := c
  refine ⟨⟨fun e => by rw [e] at c1; simp at c1, fun x hx => ?_, fun hl e => c3 ⟨hl, e⟩⟩, by omega, by simpa using h.symm⟩
  have : s.all aPi = true := by simpa using c4
  exact List.all_eq_true.1 this x hx
theorem cNl {s : Bs} (h : bGr s) (hl : s.length ≤ 9) : jW s = some (mB 0 s) := by
 unfold jW
 rw [if_neg]
 obtain ⟨c1, c2, c3⟩ := h
 rintro (q | q | q | q)
 ·exact c1 (by simpa using q)
 ·omega
 ·exact c3 q.1 q.2
 ·have : s.all aPi = true := List.all_eq_true.2 c2
  rw [this] at q
  cases q
end Go.Dd

namespace Go.Dd
open Go.Proofs Go.Lib Go.RowKit
theorem aMl (s : List UInt8) : (s.map (·.toNat)).map UInt8.ofNat = s := by
 rw [List.map_map]
 conv => rhs; rw [← List.map_id s]
 apply List.map_congr_left
 intro x _
 simp
theorem cTp (G : Gd) : fV Tryz.prog G 124 oI := by
 intro args h v h1 hr ρ w args' H hargs
 unfold oI at hr
 split at hr <;> (try (cases hr; done))
 rename_i s
 cases hc : Nat.ble s.length 4000000000 with
 | false => rw [hc] at hr; cases hr
 | true =>
 rw [hc] at hr
 have hs' := Nat.le_of_ble_eq_true hc
 simp only [cond_true] at hr
 obtain ⟨a⟩ := args'
 cases hargs with
 | cons _ x' l1 l1' hx hxs =>
 cases hxs
 cases hx with
 | s _ bs hbs =>
 subst hbs
 have e1 : bs.size ≤ 4000000000 := by rw [List.length_map, Array.length_toList] at hs'; exact hs'
 rw [aMl] at hr
 obtain ⟨_, ⟨e6, h6, k6⟩, e7, h7, k7⟩ := G.ok w H.gl
 refine CallFn.of Tryz.f124 (by kernel_rfl) (by kernel_rfl) ?_
 match hat : Lib.atoiAll bs.data.toList with
 | .ok n =>
  rw [hat] at hr
  simp only [aV, bI] at hr
  obtain ⟨rfl, rfl⟩ := hr
  refine (Tryz.strconv_Atoi_ok bs (by omega) n hat w).mono ?_
  rintro e w' ⟨rfl, hw⟩
  have hbel : Below w.heap.size w w' := by
   rcases hw with rfl | ⟨t, rfl⟩
   ·exact Below.refl _ _
   ·exact ⟨rfl, rfl, rfl, by rw [Lib.bytesWorld_size]; omega, fun i hi => Lib.bytesWorld_at_old w _ t i hi⟩
  exact ⟨ρ, _, rfl, Ex.refl _ _, .t _ _ (.cons _ _ _ _ (.i _ _) (.cons _ _ _ _ .n0 .nil)), H.later hbel, Kp.later H hbel⟩
 | Lib.NumEnd.syntax =>
  rw [hat] at hr
  simp only [aV, bI] at hr
  obtain ⟨rfl, rfl⟩ := hr
  refine (Tryz.strconv_Atoi_syntax bs (by omega) hat e6 w h6 k6).mono ?_
  rintro e w' ⟨N, rfl, _, _, hbel⟩
  exact ⟨ρ, _, rfl, Ex.refl _ _, .t _ _ (.cons _ _ _ _ (.i _ _) (.cons _ _ _ _ (.c _ _ _ (.u _)) .nil)), H.later hbel, Kp.later H hbel⟩
 | .range =>
  rw [hat] at hr
  simp only [aV, bI] at hr
  obtain ⟨rfl, rfl⟩ := hr
  refine (Tryz.strconv_Atoi_range bs (by omega) hat e7 w h7 k7).mono ?_
  rintro e w' ⟨N, rfl, _, _, hbel⟩
  exact ⟨ρ, _, rfl, Ex.refl _ _, .t _ _ (.cons _ _ _ _ (.i _ _) (.cons _ _ _ _ (.c _ _ _ (.u _)) .nil)), H.later hbel, Kp.later H hbel⟩
theorem cHw (G : Gd) (g : FuncId) (F : List DV → Hp → aG) (h : CFn.I g = some F) : fV CFn.P G g F := by
 unfold CFn at h
 dsimp only at h
 cases h47 : Nat.beq g 124 with
 | true =>
  rw [h47] at h
  cases Nat.eq_of_beq_eq_true h47
  simp only [cond_true, aV] at h
  subst h
  exact cTp G
 | false =>
  rw [h47] at h
  cases h66 : Nat.beq g 24 with
  | true =>
   rw [h66] at h
   cases Nat.eq_of_beq_eq_true h66
   simp only [cond_false, cond_true, aV] at h
   subst h
   exact bAw G
  | false => rw [h66] at h; cases h
theorem bBc : ∀ (s : Bs) (a j : Nat), (∀ x ∈ s, aPi x = true) → a < 10 ^ j → j + s.length ≤ 9 → Lib.parseUint10 a (s.map UInt8.ofNat) = .ok (mB a s)
 | [], a, j, _, _, _ => rfl
 | x :: s, a, j, hd, ha, hj => by
  have hx := dig_iff.1 (hd x (by simp))
  have e : (UInt8.ofNat x).toNat = x := by simp; omega
  have p : 10 ^ j ≤ 10 ^ 9 := Nat.pow_le_pow_right (by omega) (by simp at hj; omega)
  simp only [List.map_cons, Lib.parseUint10, e]
  rw [if_pos ⟨hx.1, hx.2⟩, if_neg (by omega), if_neg (by omega)]
  have := bBc s (a * 10 + (x - 48)) (j + 1) (fun y hy => hd y (by simp [hy])) (by rw [Nat.pow_succ]; omega) (by simp at hj; omega)
  rw [this, Nat.mul_comm a 10]
  rfl
theorem lH {s : Bs} {k : Nat} (h : jW s = some k) : Lib.atoiAll (s.map UInt8.ofNat) = .ok (k : Int) ∧ cD (k : Int) = s ∧ s.length ≤ 9 := by
 obtain ⟨hc, hl, rfl⟩ := cFu h
 obtain ⟨e1, e2⟩ := bOs s.length s rfl hl hc
 refine ⟨?_, e1, hl⟩
 have hu := bBc s 0 0 hc.2.1 (by simp) (by omega)
 cases s with
 | nil => exact absurd rfl hc.1
 | cons x s =>
  have hx := dig_iff.1 (hc.2.1 x (by simp))
  have e : (UInt8.ofNat x).toNat = x := by simp; omega
  have p : 10 ^ (x :: s).length ≤ 10 ^ 9 := Nat.pow_le_pow_right (by omega) hl
  simp only [List.map_cons, Lib.atoiAll, e] at hu ⊢
  rw [if_neg (show ¬ (x = 43 ∨ x = 45) by omega)]
  have pm : Lib.parseMag (UInt8.ofNat x :: s.map UInt8.ofNat) = .ok (mB 0 (x :: s)) := by
   unfold Lib.parseMag
   rw [if_neg (by simp)]
   exact hu
  rw [pm]
  simp only
  have n45 : ¬ x = 45 := by omega
  rw [if_neg (by omega), if_neg (by omega), if_neg n45]
theorem aTd (n : Nat) {s : Bs} (hs : s.length ≤ 4000000000) (h : Hp) : lL CFn (n + 1) 74 [.s s] h = some (.t [.i .i64 (match jW s with
  | some k => Int.ofNat k
  | none => aEc s), .b (jW s).isSome], h) := by
 have e0 : lL CFn (n + 1) 74 [.s s] h = s74 (lL CFn n) n (.s s) h := dTo (lL CFn n) n [.s s] h
 rw [e0]
 unfold s74
 have bl := Nat.ble_eq_true_of_le hs
 have bndS' : ∀ (v : DV) (h : Hp) (k : DV → Hp → aG), bnd (some (v, h)) k = k v h := fun _ _ _ => rfl
 have x0 : ∀ (a b : DV) (h : Hp), aC 0 (.t [a, b]) h = some (a, h) := fun _ _ _ => rfl
 have x1 : ∀ (a b : DV) (h : Hp), aC 1 (.t [a, b]) h = some (b, h) := fun _ _ _ => rfl
 have gt : ∀ (r : aG) (h : Hp), gD (.b true) true r h = r := fun _ _ => rfl
 have gf : ∀ (r : aG) (h : Hp), gD (.b false) true r h = some (aR, h) := fun _ _ => rfl
 have pt : ∀ (x y : DV) (h : Hp), aN (.b true) x y h = some (x, h) := fun _ _ _ => rfl
 have pf : ∀ (x y : DV) (h : Hp), aN (.b false) x y h = some (y, h) := fun _ _ _ => rfl
 match hat : Lib.atoiAll (s.map UInt8.ofNat) with
 | Lib.NumEnd.syntax =>
  have hno : jW s = none := by
   cases hk : jW s with
   | none => rfl
   | some k => rw [(lH hk).1] at hat; cases hat
  have hv : aEc s = 0 := by unfold aEc; rw [hat]
  have ha : oI [.s s] h = some (.t [.i .i64 0, .c 343 .u], h) := by simp only [oI, bl, cond_true, hat]
  have en : ∀ h, aDq .eql true (.c 343 .u) .n0 h = some (.b false, h) := fun _ => rfl
  simp only [ha, bndS', x0, x1, en, gf, pf, hno, hv, Option.isSome_none]
 | .range =>
  have hno : jW s = none := by
   cases hk : jW s with
   | none => rfl
   | some k => rw [(lH hk).1] at hat; cases hat
  have hv : aEc s = Lib.atoiSat (s.map UInt8.ofNat) := by unfold aEc; rw [hat]
  have ha : oI [.s s] h = some (.t [.i .i64 (Lib.atoiSat (s.map UInt8.ofNat)), .c 343 .u], h) := by simp only [oI, bl, cond_true, hat]
  have en : ∀ h, aDq .eql true (.c 343 .u) .n0 h = some (.b false, h) := fun _ => rfl
  simp only [ha, bndS', x0, x1, en, gf, pf, hno, hv, Option.isSome_none]
 | .ok v =>
  have hv : aEc s = v := by unfold aEc; rw [hat]
  have ha : oI [.s s] h = some (.t [.i .i64 v, .n0], h) := by simp only [oI, bl, cond_true, hat]
  have en : ∀ h, aDq .eql true .n0 .n0 h = some (.b true, h) := fun _ => rfl
  have ln : ∀ h, cJ (.s s) h = some (.i .i64 (Int.ofNat s.length), h) := fun _ => rfl
  have le : ∀ (a b : Int) h, aD .leq (.i .i64 a) (.i .i64 b) h = some (.b (decide (a ≤ b)), h) := fun a b h => by simp only [aD, if_true, fB]
  have ge : ∀ (a b : Int) h, aD .geq (.i .i64 a) (.i .i64 b) h = some (.b (decide (a ≥ b)), h) := fun a b h => by simp only [aD, if_true, fB]
  have val : (match jW s with
   | some k => Int.ofNat k
   | none => aEc s) = v := by
   cases hk : jW s with
   | none => exact hv
   | some k =>
    have := (lH hk).1
    rw [hat] at this
    cases this
    rfl
  rw [val]
  simp only [ha, bndS', x0, x1, en, gt, ln, le, pt]
  by_cases c1 : s.length ≤ 9
  case neg =>
   have d1 : decide (Int.ofNat s.length ≤ Int.ofNat 9) = false := decide_eq_false (by show ¬ (s.length : Int) ≤ ((9 : Nat) : Int); omega)
   have hno : (jW s).isSome = false := by
    cases hk : jW s with
    | none => rfl
    | some k => exact absurd (lH hk).2.2 c1
   simp only [d1, gf, bndS', pf, hno]
  have d1 : decide (Int.ofNat s.length ≤ Int.ofNat 9) = true := decide_eq_true (by show (s.length : Int) ≤ ((9 : Nat) : Int); omega)
  have rng : -9223372036854775808 ≤ v ∧ v ≤ 9223372036854775807 := by
   have key : ∀ (l : List UInt8) (v : Int), Lib.atoiAll l = .ok v → -9223372036854775808 ≤ v ∧ v ≤ 9223372036854775807 := by
    intro l v h
    cases l with
    | nil => cases h
    | cons c r =>
     simp only [Lib.atoiAll] at h
     split at h <;> (try (cases h; done))
     split at h <;> (try (cases h; done))
     split at h <;> (try (cases h; done))
     rename_i u _ q1 q2
     cases h
     split <;> (rename_i q3; simp [q3] at q1 q2; omega)
   exact key _ _ hat
  have it : ∀ h, jT [.i .i64 v] h = some (.s (cD v), h) := fun h => by simp [jT, rng.1, rng.2]
  have eqs : ∀ h, bW .eql (.s (cD v)) (.s s) h = some (.b (tM (cD v) s), h) := fun _ => rfl
  simp only [d1, gt, bndS', it, eqs, pt]
  have eqd : ∀ a b : List Nat, tM a b = true ↔ a = b := by
   intro a
   induction a with
   | nil => intro b; cases b <;> simp [tM]
   | cons x a ih => intro b; cases b with
    | nil => simp [tM]
    | cons y b =>
     simp only [tM, Bool.and_eq_true, ih, List.cons.injEq]
     constructor
     ·rintro ⟨p, q⟩; exact ⟨Nat.eq_of_beq_eq_true p, q⟩
     ·rintro ⟨rfl, q⟩; exact ⟨Nat.beq_refl _, q⟩
  cases c2 : tM (cD v) s with
  | false =>
   have hno : (jW s).isSome = false := by
    cases hk : jW s with
    | none => rfl
    | some k =>
     obtain ⟨q1, q2, q3⟩ := lH hk
     rw [hat] at q1
     cases q1
     rw [(eqd _ _).2 q2] at c2
     cases c2
   simp only [gf, bndS', pf, hno]
  | true =>
   have hs2 := (eqd _ _).1 c2
   simp only [gt, bndS', ge, pt]
   congr 4
   cases v with
   | ofNat n =>
    have d2 : decide (Int.ofNat n ≥ Int.ofNat 0) = true := decide_eq_true (by show ((0 : Nat) : Int) ≤ (n : Int); omega)
    rw [d2]
    have hn20 : n < 10 ^ 20 := by have := rng.2; simp at this; omega
    have hcan := bRt 20 n hn20 hn20
    have hdg : dg n = s := hs2
    rw [hdg] at hcan
    rw [cNl hcan.1 c1]
    rfl
   | negSucc n =>
    have d2 : decide (Int.negSucc n ≥ Int.ofNat 0) = false := rfl
    rw [d2]
    cases hk : jW s with
    | none => rfl
    | some k =>
     obtain ⟨q1, _, _⟩ := lH hk
     rw [hat] at q1
     cases q1
theorem bIz (G : Gd) : fV CF1.P G 74 kE := by
 intro args h v h1 hr
 refine aCr (C := CFn) Try_ok cHw 60 G 74 args h v h1 ?_
 unfold kE at hr
 split at hr <;> (try (cases hr; done))
 rename_i s
 cases hc : Nat.ble s.length 4000000000 with
 | false => rw [hc] at hr; cases hr
 | true =>
 rw [hc] at hr
 have hs' := Nat.le_of_ble_eq_true hc
 simp only [cond_true] at hr
 rw [aTd 59 hs']
 cases hk : jW s with
 | none => rw [hk] at hr; exact hr
 | some k => rw [hk] at hr; exact hr
end Go.Dd

namespace Go.Proofs.Onc
theorem disable (w : World) : (callFunc 320 #[]).run Tryz.prog w = .ok (.value (.tuple #[])) w := run_call_mark0 Tryz.func320 (by kernel_rfl) (by kernel_rfl) (by kernel_rfl) .disable (by kernel_rfl) w
theorem enable (w : World) : (callFunc 322 #[]).run Tryz.prog w = .ok (.value (.tuple #[])) w := run_call_mark0 Tryz.func322 (by kernel_rfl) (by kernel_rfl) (by kernel_rfl) .enable (by kernel_rfl) w
theorem acquire (a : Addr) (w : World) : (callFunc 323 #[.pointer (some a)]).run Tryz.prog w = .ok (.value (.tuple #[])) w := run_call_marked Tryz.func323 (by kernel_rfl) (by kernel_rfl) (by kernel_rfl) .acquire (by kernel_rfl) a w
theorem releaseMerge (a : Addr) (w : World) : (callFunc 325 #[.pointer (some a)]).run Tryz.prog w = .ok (.value (.tuple #[])) w := run_call_marked Tryz.func325 (by kernel_rfl) (by kernel_rfl) (by kernel_rfl) .releaseMerge (by kernel_rfl) a w
set_option maxRecDepth 100000 in
set_option maxHeartbeats 1600000 in
theorem zY (a : Addr) (x : Value) (u : FrameMode) (w : World) (hc : w.cell? a = some x) (hz : w.frozen? a = false) :
  CallsD Tryz.prog 189 #[.pointer (some a), .bool true] u w fun e u' w' => u' = u ∧ (e = .returned (.tuple #[]) ∧ w' = w.drew.setCell a (.int .u32 1)) := by
 have hc' : w.drew.cell? a = some x := by go_simp
 have hz' : w.drew.frozen? a = false := by go_simp
 have hst := run_call_store (P := Tryz.prog) Tryz.func265 (by kernel_rfl) (by kernel_rfl) (by kernel_rfl) (by kernel_rfl) (k := .u32) (y := 1) hc' hz'
 go_enter_d Tryz.func189, Tryz.ntmps189
 go_wp2
 go_region_calls
 all_goals (go_end0; exact ⟨rfl, rfl⟩)
set_option maxRecDepth 100000 in
set_option maxHeartbeats 1600000 in
theorem tO (a : Addr) (u : FrameMode) (w : World) (hc : w.cell? a = some (.int .i32 1)) (hz : w.frozen? a = false) :
  CallsD Tryz.prog 188 #[.pointer (some a)] u w fun e u' w' => u' = u ∧ (e = .returned (.tuple #[]) ∧ w' = w.setCell a (.int .i32 0)) := by
 have hd := disable
 have he := enable
 have hr := releaseMerge
 have hadd := run_call_add (P := Tryz.prog) Tryz.func326 (by kernel_rfl) (by kernel_rfl) (by kernel_rfl) .i32 (by kernel_rfl) (y := -1) (s := 0) hc hz (by simp [go_sem]; rfl)
 have hcv := run_convert_to_unsafe (P := Tryz.prog) (src := 394) (dst := 166) Tryz.underlying394 Tryz.underlying166 (by kernel_rfl) hc
 go_enter_d Tryz.func188, Tryz.ntmps188
 go_wp2
 go_end0
 go_wp2
 go_end0
 exact ⟨rfl, rfl⟩
set_option maxRecDepth 100000 in
set_option maxHeartbeats 1600000 in
theorem bFu (a : Addr) (w : World) (hc : w.cell? a = some (.int .i32 0)) (hz : w.frozen? a = false) :
  Calls Tryz.prog 187 #[.pointer (some a)] w fun e w' => e = .returned (.tuple #[]) ∧ w' = w.setCell a (.int .i32 1) := by
 have hd := disable
 have he := enable
 have ha := acquire
 have hcas := run_call_cas_hit (P := Tryz.prog) Tryz.func321 (by kernel_rfl) (by kernel_rfl) (by kernel_rfl) .i32 (by kernel_rfl) (y := 1) hc hz
 have hc' : (w.setCell a (.int .i32 1)).cell? a = some (.int .i32 1) := World.cell?_setCell_same w a _ hc
 have hcv := run_convert_to_unsafe (P := Tryz.prog) (src := 394) (dst := 166) Tryz.underlying394 Tryz.underlying166 (by kernel_rfl) hc'
 go_enter Tryz.func187, Tryz.ntmps187
 go_wp2
 first | go_end0 | (simp only [Exit.inBlock, Exit.then]; refine bodyPost_ret (results_none rfl _ _ _) rfl ?_) | refine bodyPost_ret (results_none rfl _ _ _) rfl ?_
 go_wp2
 go_end0
 exact ⟨rfl, rfl⟩
structure Held (b off : Nat) (w : World) : Prop where
 done : ∃ x, w.cell? ⟨b, off, none⟩ = some x
 lock : w.cell? ⟨b, off + 1, none⟩ = some (.int .i32 1)
 f0 : w.frozen? ⟨b, off, none⟩ = false
 f1 : w.frozen? ⟨b, off + 1, none⟩ = false
set_option maxRecDepth 100000 in
set_option maxHeartbeats 1600000 in
theorem bNu (b off : Nat) (pv : Value) (w : World) (R : World → Prop)
  (h0 : w.cell? ⟨b, off, none⟩ = some (.int .u32 0)) (h1 : w.cell? ⟨b, off + 1, none⟩ = some (.int .i32 0)) (f1 : w.frozen? ⟨b, off + 1, none⟩ = false)
  (hcall : Calls Tryz.prog 67 #[pv] (w.setCell ⟨b, off + 1, none⟩ (.int .i32 1)) fun e w' => e = .returned (.tuple #[]) ∧ R w' ∧ Held b off w') :
  Calls Tryz.prog 117 #[.pointer (some ⟨b, off, none⟩), .func (.func 67) #[pv] #[]] w fun e w' => e = .returned (.tuple #[]) ∧
   ∃ w2, R w2 ∧ w' = (w2.drew.setCell ⟨b, off, none⟩ (.int .u32 1)).setCell ⟨b, off + 1, none⟩ (.int .i32 0) := by
 have hl := run_call_load (P := Tryz.prog) Tryz.func186 (by kernel_rfl) (by kernel_rfl) (by kernel_rfl) .u32 (by kernel_rfl) (w := w.setCell ⟨b, off + 1, none⟩ (.int .i32 1)) (a := ⟨b, off, none⟩) (x := 0) ((World.cell?_setCell_other _ ⟨b, off + 1, none⟩ ⟨b, off, none⟩ _ (by simp)).trans h0)
 have hnot : ∀ (x : Bool) (w : World), (Op.unary .not (.bool x)).run Tryz.prog w = .ok (.bool (!x)) w := fun _ _ => rfl
 go_enter_defers Tryz.func117, Tryz.ntmps117
 go_wp2_with (first | (go_at_call 187; refine (bFu ⟨b, off + 1, none⟩ _ (by go_simp) (by go_simp)).mono ?_; rintro e w' ⟨rfl, rfl⟩) | (go_at_call 116; go_in) | (go_at_call 67; refine hcall.mono ?_; rintro e w2 ⟨rfl, hR, hH⟩))
 refine leaves_cons (f := 189) (args := #[.pointer (some ⟨b, off, none⟩), .bool true]) (by simp) (by simp [go_sem]) ?_
 obtain ⟨x, hx⟩ := hH.done
 refine (zY ⟨b, off, none⟩ x .returning _ hx hH.f0).mono ?_
 rintro e u' w'' ⟨rfl, rfl, rfl⟩
 refine leaves_cons (f := 188) (args := #[.pointer (some ⟨b, off + 1, none⟩)]) (by simp [settle]) (by simp [go_sem]) ?_
 refine (tO ⟨b, off + 1, none⟩ _ _ ?_ ?_).mono ?_
 ·refine (World.cell?_setCell_other _ ⟨b, off, none⟩ ⟨b, off + 1, none⟩ _ (by simp)).trans ?_
  rw [World.cell?_drew]
  exact hH.lock
 ·simp [hH.f1]
 rintro e u' w'' ⟨rfl, rfl, rfl⟩
 simp [Leaves, settle, results, Tryz.results117]
 exact ⟨w2, hR, rfl⟩
set_option maxRecDepth 100000 in
set_option maxHeartbeats 1600000 in
theorem do_first (b off : Nat) (pv : Value) (w : World) (R : World → Prop)
  (h0 : w.cell? ⟨b, off, none⟩ = some (.int .u32 0)) (h1 : w.cell? ⟨b, off + 1, none⟩ = some (.int .i32 0)) (f1 : w.frozen? ⟨b, off + 1, none⟩ = false)
  (hcall : Calls Tryz.prog 67 #[pv] (w.setCell ⟨b, off + 1, none⟩ (.int .i32 1)) fun e w' => e = .returned (.tuple #[]) ∧ R w' ∧ Held b off w') :
  Calls Tryz.prog 66 #[.pointer (some ⟨b, off, none⟩), .func (.func 67) #[pv] #[]] w fun e w' => e = .returned (.tuple #[]) ∧
   ∃ w2, R w2 ∧ w' = (w2.drew.setCell ⟨b, off, none⟩ (.int .u32 1)).setCell ⟨b, off + 1, none⟩ (.int .i32 0) := by
 have hl := run_call_load (P := Tryz.prog) Tryz.func186 (by kernel_rfl) (by kernel_rfl) (by kernel_rfl) .u32 (by kernel_rfl) h0
 have hnot : ∀ (x : Bool) (w : World), (Op.unary .not (.bool x)).run Tryz.prog w = .ok (.bool (!x)) w := fun _ _ => rfl
 go_enter Tryz.func66, Tryz.ntmps66
 go_wp2_with (first | (go_at_call 116; go_in) | (go_at_call 117; refine (bNu b off pv _ R h0 h1 f1 hcall).mono ?_; rintro e w' ⟨rfl, w2, hR, rfl⟩))
 go_end0
 exact ⟨rfl, w2, hR, rfl⟩
end Go.Proofs.Onc

namespace Go.Dd
open Go.Proofs
theorem sQ {G : Gd} {ρ : Ren} {h : Hp} {w : World} (H : HR G ρ h w) {b : Pos} {o : Nat} {v : DV} {h0 : Hp} {L : Loc} (hL : ρ b = some L) (e : aA (.p b o) h = some (v, h0)) :
  h0 = h ∧ v.one = true ∧ (∃ k l, h.bl.get b = some (.row k l) ∧ l[o]? = some v) ∧ ∃ v', w.cell? (dZ L o) = some v' ∧ VR ρ v v' := by
 unfold aA at e
 simp only at e
 split at e <;> (try (cases e; done))
 rename_i u hc
 simp only [aV, bI] at e
 obtain ⟨rfl, rfl⟩ := e
 unfold cellD rowOf at hc
 split at hc <;> (try (cases hc; done))
 rename_i l hl
 split at hl <;> (try (cases hl; done))
 rename_i k l0 hb
 cases hl
 split at hc <;> (try (cases hc; done))
 rename_i u0 hi
 split at hc <;> (try (cases hc; done))
 rename_i ho
 cases hc
 exact ⟨rfl, ho, ⟨k, l, hb, hi⟩, H.cell b k l L o _ hb hL hi ho⟩
theorem iE {P : Program} {G : Gd} {ρ : Ren} {h h1 : Hp} {w : World} (H : HR G ρ h w) {b : Pos} {o : Nat} {x v : DV} {x' : Value} {L : Loc} (hL : ρ b = some L) (hx : VR ρ x x') (hc : eA x = some [x]) (ho : x.one = true)
  (e : aI 1 (.p b o) x h = some (v, h1)) :
  (∃ y, w.cell? (dZ L o) = some y) ∧ w.frozen? (dZ L o) = false ∧ HR G ρ h1 (w.setCell (dZ L o) x') ∧ Kp G w (w.setCell (dZ L o) x') := by
 unfold aI at e
 simp only [hc] at e
 split at e <;> (try (cases e; done))
 split at e <;> (try (cases e; done))
 rename_i h' hs
 simp only [aV, bI] at e
 obtain ⟨_, rfl⟩ := e
 have hs0 := hs
 unfold cV at hs0
 split at hs0 <;> (try (cases hs0; done))
 rename_i k l hb
 split at hs0 <;> (try (cases hs0; done))
 rename_i hk
 split at hs0 <;> (try (cases hs0; done))
 rename_i l' hp
 obtain ⟨p1, p2, p3, p4, p5⟩ := jL o l [x] l' hp
 obtain ⟨_, x0, q1, q2⟩ := p4 0 x rfl
 rw [Nat.add_zero] at q1
 have hcl : Claims ρ h b (dZ L o) := ⟨k, l, L, hb, hL, .inl ⟨o, x0, q1, q2, rfl⟩⟩
 have hro : ¬ isRo h b := by
  rintro ⟨l0, h0⟩
  rw [hb] at h0
  cases h0
  cases hk
 obtain ⟨y, hy⟩ := H.lt_cell hcl
 have hf := (H.free b _ hcl hro).1
 have hone : aSg x' = true := (VRs.cons _ _ _ _ hx VRs.nil : VRs ρ [x] [x']).mem_one (fun v hv => by simp at hv; subst hv; exact ho) x' (by simp)
 obtain ⟨w', s1, s2, s3⟩ := fL (P := P) H hs hL (.cons _ _ _ _ hx .nil)
 have : w' = w.setCell (dZ L o) x' := by
  have hr := oA (P := P) hy hf hone
  have e0 : (dZ L o).add 0 = dZ L o := by rw [fP]; rfl
  simp only [storeCells, Sem.run_bind, e0, hr, Result.andThen_ok, Sem.run_pure] at s1
  cases s1
  rfl
 subst this
 exact ⟨⟨y, hy⟩, hf, s2, s3⟩
theorem aTr {k : IntKind} {n : Int} {v : DV} (h : isI k n v = true) : v = .i k n := by
 unfold isI at h
 split at h
 ·simp only [Bool.and_eq_true, decide_eq_true_eq] at h
  obtain ⟨rfl, rfl⟩ := h
  rfl
 ·cases h
theorem cOu (G : Gd) : fV Tryz.prog G 66 aBz := by
 intro args h v h1 hr ρ w args' H hargs
 unfold aBz at hr
 split at hr <;> (try (cases hr; done))
 rename_i r x
 obtain ⟨d, g0, a1, hr⟩ := cQ hr
 obtain ⟨m, g1, a2, hr⟩ := cQ hr
 obtain ⟨a3, hr⟩ := kQ hr
 obtain ⟨_, h2, a4, hr⟩ := cQ hr
 obtain ⟨u, h3, a5, hr⟩ := cQ hr
 obtain ⟨m3, g3, a6, hr⟩ := cQ hr
 obtain ⟨a7, hr⟩ := kQ hr
 split at hr <;> (try (cases hr; done))
 obtain ⟨_, h4, a8, hr⟩ := cQ hr
 obtain ⟨_, h5, a9, hr⟩ := cQ hr
 simp only [aV, bI] at hr
 obtain ⟨rfl, rfl⟩ := hr
 rw [Bool.and_eq_true] at a3
 have e1 := aTr a3.1
 have e2 := aTr a3.2
 have e3 := aTr a7
 subst e1 e2 e3
 obtain ⟨a⟩ := args'
 cases hargs with
 | cons _ x1 l1 l1' hx1 hxs =>
 cases hxs with
 | cons _ x2 l2 l2' hx2 hxs2 =>
 cases hxs2
 cases hx1 with
 | p _ _ L hL =>
 cases hx2 with
 | f _ _ _ fx fy hfx hfy =>
 obtain ⟨fx⟩ := fx
 obtain ⟨fy⟩ := fy
 cases hfy
 cases hfx with
 | cons _ x' l3 l3' hx hxs3 =>
 cases hxs3
 obtain ⟨rfl, _, _, d', b1, b2⟩ := sQ H hL a1
 obtain ⟨rfl, _, _, m', b3, b4⟩ := sQ H hL a2
 cases b2
 cases b4
 have e0 : dZ L 0 = ⟨L.bl, L.of, none⟩ := by
  unfold dZ at *
  simp only [if_true] at b1 ⊢
  cases hs : L.spot with
  | none => rfl
  | some s =>
   rw [hs] at b1
   unfold World.cell? at b1
   split at b1 <;> simp at b1
 have e1 : dZ L 1 = ⟨L.bl, L.of + 1, none⟩ := by simp [dZ]
 rw [e0] at b1
 rw [e1] at b3
 obtain ⟨_, c1, H2, K2⟩ := iE (P := Tryz.prog) H hL (.i .i32 1) rfl rfl a4
 rw [e1] at c1 H2 K2
 refine .inl ⟨?_, ?_⟩
 ·have hn : ¬ Tryz.f66.name = "runtime.NumGoroutine" := by simpa using Try_ok.names 66 Tryz.f66 Tryz.func66
  have hbn : Tryz.f66.body ≠ none := by intro e; have : Tryz.f66.body.isSome = true := by kernel_rfl
                                        rw [e] at this; cases this
  unfold callFunc
  simp [show Tryz.prog.funcs[66]? = some Tryz.f66 from Tryz.func66, hn, hbn]
 have hcall : Calls Tryz.prog 67 #[x'] (w.setCell ⟨L.bl, L.of + 1, none⟩ (.int .i32 1)) fun e w' => e = .returned (.tuple #[]) ∧ (∃ ρ', Ex G ρ ρ' ∧ HR G ρ' h3 w' ∧ Kp G (w.setCell ⟨L.bl, L.of + 1, none⟩ (.int .i32 1)) w') ∧ Onc.Held L.bl L.of w' := by
  rcases KC0.fns G 67 [x] h2 _ h3 a5 ρ _ #[x'] H2 (.cons _ _ _ _ hx .nil) with ⟨_, hc⟩ | ⟨ρ', w', v', hc, _⟩
  ·refine hc.mono ?_
   rintro e w' ⟨ρ', v', rfl, h6, h7, h8, h9⟩
   have e6 : v' = .tuple #[] := by
    cases h7 with
    | t _ y hy =>
     obtain ⟨y⟩ := y
     cases hy
     rfl
   subst e6
   have hL' : ρ' r = some L := h6.ext _ _ hL
   obtain ⟨_, _, _, m'', b5, b6⟩ := sQ h8 hL' a6
   cases b6
   obtain ⟨b7, b8, _, _⟩ := iE (P := Tryz.prog) h8 hL' (.i .u32 1) rfl rfl a8
   rw [e1] at b5
   rw [e0] at b7 b8
   refine ⟨rfl, ⟨ρ', h6, h8, h9⟩, ⟨b7, b5, b8, ?_⟩⟩
   obtain ⟨_, _, h10, _⟩ := iE (P := Tryz.prog) h8 hL' (.i .u32 1) rfl rfl a8
   have := (iE (P := Tryz.prog) h10 hL' (.i .i32 0) rfl rfl a9).2.1
   rw [e0, e1] at this
   simpa using this
  ·exfalso
   have hn : ¬ Tryz.f67.name = "runtime.NumGoroutine" := by simpa using Try_ok.names 67 Tryz.f67 Tryz.func67
   have hbn : Tryz.f67.body ≠ none := by intro e; have : Tryz.f67.body.isSome = true := by kernel_rfl
                                         rw [e] at this; cases this
   unfold callFunc at hc
   simp [show CF0.P.funcs[67]? = some Tryz.f67 from Tryz.func67, hn, hbn] at hc
 have goal := Onc.do_first L.bl L.of x' w _ b1 b3 c1 hcall
 rw [e0]
 refine goal.mono ?_
 rintro e w' ⟨rfl, w2, ⟨ρ', h6, h8, h9⟩, rfl⟩
 have hL' : ρ' r = some L := h6.ext _ _ hL
 obtain ⟨_, _, h10, h11⟩ := iE (P := Tryz.prog) h8.drew hL' (.i .u32 1) rfl rfl a8
 obtain ⟨_, _, h12, h13⟩ := iE (P := Tryz.prog) h10 hL' (.i .i32 0) rfl rfl a9
 rw [e0] at h10 h11 h12 h13
 rw [e1] at h12 h13
 exact ⟨ρ', _, rfl, h6, .t [] #[] .nil, h12, K2.trans (h9.drew.trans (h11.trans h13))⟩
end Go.Dd

namespace Go.Dd
open Go.Proofs
structure Lo (lo : Nat) (h h' : Hp) : Prop where
 next : h.next.toNat ≤ h'.next.toNat
 get : ∀ p : Pos, p.toNat < lo → h'.bl.get p = h.bl.get p
theorem Lo.trans {lo : Nat} {a b c : Hp} (u : Lo lo a b) (v : Lo lo b c) : Lo lo a c := ⟨Nat.le_trans u.next v.next, fun p h => (v.get p h).trans (u.get p h)⟩
end Go.Dd

namespace Go.Dd
open Go.Proofs
theorem wK (s : List Nat) (h : Hp) : cJ (.s s) h = some (.i .i64 (Int.ofNat s.length), h) := rfl
theorem aQl {s : List Nat} {i c : Nat} (hi : s[i]? = some c) (h : Hp) : bY (.s s) (.i .i64 (Int.ofNat i)) h = some (.i .u8 (Int.ofNat c), h) := by
 show (if (0 : Int) ≤ Int.ofNat i then (match s[(Int.ofNat i).toNat]? with
  | some c => some (DV.i .u8 (c : Int), h)
  | none => none) else none) = _
 rw [if_pos (show (0 : Int) ≤ Int.ofNat i from Int.natCast_nonneg i), show (Int.ofNat i).toNat = i from rfl, hi]
 rfl
theorem eAf {s : List Nat} {a b : Nat} (hab : a ≤ b) (hb : b ≤ s.length) (h : Hp) : cP (.s s) (some (.i .i64 (Int.ofNat a))) (some (.i .i64 (Int.ofNat b))) h = some (.s ((s.take b).drop a), h) := by
 have h1 : hiD (some (.i .i64 (Int.ofNat b))) s.length s.length = some b := by
  simp only [hiD, fS]
  rw [if_pos (by show (0 : Int) ≤ (b : Int) ∧ (b : Int) ≤ (s.length : Int); omega)]
  rfl
 have h2 : loD (some (.i .i64 (Int.ofNat a))) b = some a := by
  simp only [loD, fS]
  rw [if_pos (by show (0 : Int) ≤ (a : Int) ∧ (a : Int) ≤ (b : Int); omega)]
  rfl
 simp only [cP, h1, h2]
section
variable {rec : RT} {n : Nat} {s : List Nat} {c : Nat}
end
end Go.Dd

namespace Go.Dd
open Go.Proofs
theorem dXn (a b : Nat) (h : Hp) (hr : a * b < 4611686018427387904) : aD .mul (.i .i64 (Int.ofNat a)) (.i .i64 (Int.ofNat b)) h = some (.i .i64 (Int.ofNat (a * b)), h) := by
 simp only [aD, if_true, fB]
 rw [show (Int.ofNat a * Int.ofNat b : Int) = Int.ofNat (a * b) from rfl, jE _ (show -9223372036854775808 ≤ Int.ofNat (a * b) ∧ Int.ofNat (a * b) ≤ 9223372036854775807 by show -9223372036854775808 ≤ ((a * b : Nat) : Int) ∧ ((a * b : Nat) : Int) ≤ 9223372036854775807; omega)]
section
variable {rec : RT} {n : Nat} {s : List Nat}
end
end Go.Dd

namespace Go.Dd
open Go.Proofs
abbrev bD (c : Nat) : DV := .i .u8 (Int.ofNat c)
def spB (x : Nat) : Bool := Nat.beq x 10 || (Nat.beq x 34 || Nat.beq x 92)
def gK : Bs → Nat
 | [] => 0
 | x :: t => (if spB x then 1 else 0) + gK t
def nU (x : Nat) : Bs := if x = 10 then [92, 110] else if x = 34 ∨ x = 92 then [92, x] else [x]
theorem fF (x : Nat) (t : Bs) : bO (x :: t) = nU x ++ bO t := by
 have e : bO (x :: t) = if x = 10 then 92 :: 110 :: bO t else if x = 34 ∨ x = 92 then 92 :: x :: bO t else x :: bO t := rfl
 rw [e]
 unfold nU
 by_cases h1 : x = 10
 ·rw [if_pos h1, if_pos h1]; rfl
 ·rw [if_neg h1, if_neg h1]
  by_cases h2 : x = 34 ∨ x = 92
  ·rw [if_pos h2, if_pos h2]; rfl
  ·rw [if_neg h2, if_neg h2]; rfl
theorem wW : ∀ (a b : Bs), bO (a ++ b) = bO a ++ bO b
 | [], b => rfl
 | x :: a, b => by rw [List.cons_append, fF, fF, wW a b, List.append_assoc]
theorem cDj (x : Nat) : bO [x] = nU x := by rw [fF]; simp [bO]
theorem spB_ff {x : Nat} : spB x = false ↔ ¬ x = 10 ∧ ¬ x = 34 ∧ ¬ x = 92 := by
 unfold spB
 simp [lD]
theorem bQx (x : Nat) : (nU x).length = 1 + (if spB x then 1 else 0) := by
 unfold nU
 cases h : spB x with
 | false =>
  obtain ⟨h1, h2, h3⟩ := spB_ff.1 h
  simp [h1, h2, h3]
 | true =>
  by_cases h1 : x = 10
  ·simp [h1]
  ·have h2 : x = 34 ∨ x = 92 := by
    unfold spB at h
    simpa [h1, lD] using h
   simp [h1, h2]
theorem iU : ∀ s : Bs, (bO s).length = s.length + gK s
 | [] => rfl
 | x :: t => by
  rw [fF, List.length_append, bQx, iU t]
  simp only [gK, List.length_cons]
  omega
theorem xV : ∀ {s : Bs}, gK s = 0 → bO s = s
 | [], _ => rfl
 | x :: t, h => by
  simp only [gK] at h
  have hx : spB x = false := by
   cases e : spB x with
   | false => rfl
   | true => rw [e] at h; simp at h
  obtain ⟨h1, h2, h3⟩ := spB_ff.1 hx
  rw [fF, xV (s := t) (by omega)]
  simp [nU, h1, h2, h3]
theorem aWu : ∀ (a b : Bs), gK (a ++ b) = gK a + gK b
 | [], b => by simp [gK]
 | x :: a, b => by
  rw [List.cons_append]
  simp only [gK, aWu a b]
  omega
theorem bDt : ∀ s : Bs, gB 92 s + gB 34 s + gB 10 s = gK s
 | [] => rfl
 | x :: t => by
  have ih := bDt t
  by_cases h1 : x = 10
  ·subst h1; simp [gB, gK, spB, lD]; omega
  ·by_cases h2 : x = 34
   ·subst h2; simp [gB, gK, spB, lD]; omega
   ·by_cases h3 : x = 92
    ·subst h3; simp [gB, gK, spB, lD]; omega
    ·simp [gB, gK, spB, lD, h1, h2, h3]; omega
theorem bCz : ∀ {s : Bs}, (∀ c ∈ s, c < 256) → ∀ c ∈ bO s, c < 256
 | [], _, c, h => by cases h
 | x :: t, hs, c, h => by
  rw [fF, List.mem_append] at h
  rcases h with h | h
  ·have hx := hs x (by simp)
   unfold nU at h
   split at h
   ·simp at h; omega
   ·split at h
    ·simp at h; rcases h with h | h <;> omega
    ·simp at h; omega
  ·exact bCz (fun d hd => hs d (by simp [hd])) c h
theorem aYw : ∀ (a : List DV) (l vs : List DV), fT a.length (a ++ l) vs = (jY l vs).map (a ++ ·)
 | [], l, vs => by
  simp only [List.length_nil, List.nil_append]
  show jY l vs = _
  cases jY l vs <;> rfl
 | x :: a, l, vs => by
  simp only [List.length_cons, List.cons_append]
  show (fT a.length (a ++ l) vs).map (x :: ·) = _
  rw [aYw a l vs]
  cases jY l vs <;> rfl
theorem sI : ∀ {l : Bs}, (∀ c ∈ l, c < 256) → pO (l.map bD) = some l
 | [], _ => rfl
 | x :: l, h => by
  show (if x < 256 then (pO (l.map bD)).map (x :: ·) else none) = _
  rw [if_pos (h x (by simp)), sI (fun c hc => h c (by simp [hc]))]
  rfl
theorem aWi (l : Bs) : ∀ v ∈ l.map bD, v.one = true := fun v hv => by
 simp only [List.mem_map] at hv
 obtain ⟨c, _, rfl⟩ := hv
 rfl
section
variable {rec : RT} {n : Nat} {s : Bs} {b b1 b2 b3 bT : Pos}
def rep (b1 b2 b3 : Pos) (x : Nat) : DV := if x = 10 then .l b1 0 2 2 else if x = 34 then .l b2 0 2 2 else if x = 92 then .l b3 0 2 2 else .l0
def rW (b1 b2 b3 bT : Pos) : List DV := (List.range 256).map (rep b1 b2 b3) ++ [.l bT 0 3 3]
structure Rp (h : Hp) (b b1 b2 b3 bT : Pos) : Prop where
 row : h.bl.get b = some (.row .ex (rW b1 b2 b3 bT))
 tr : ∃ k, h.bl.get bT = some (.row k [.s [92], .s [34], .s [10]])
 r1 : h.bl.get b1 = some (.row (.gr 1) [bD 92, bD 110])
 r2 : h.bl.get b2 = some (.row (.gr 1) [bD 92, bD 34])
 r3 : h.bl.get b3 = some (.row (.gr 1) [bD 92, bD 92])
 lo : b.toNat < h.next.toNat ∧ b1.toNat < h.next.toNat ∧ b2.toNat < h.next.toNat ∧ b3.toNat < h.next.toNat ∧ bT.toNat < h.next.toNat
variable {h : Hp}
theorem cKn (x : Nat) : (rep b1 b2 b3 x).one = true := by
 unfold rep
 split
 ·rfl
 ·split
  ·rfl
  ·split <;> rfl
theorem Rp.rep (R : Rp h b b1 b2 b3 bT) {x : Nat} (hx : x < 256) : aA (.p b x) h = some (rep b1 b2 b3 x, h) := by
 have e : (rW b1 b2 b3 bT)[x]? = some (Dd.rep b1 b2 b3 x) := by
  unfold rW
  rw [List.getElem?_append_left (by simpa using hx), List.getElem?_map, List.getElem?_range hx]
  rfl
 simp only [aA, cellD, rowOf, R.row, e, cKn, if_true]
theorem Rp.tab (R : Rp h b b1 b2 b3 bT) : aA (.p b 256) h = some (.l bT 0 3 3, h) := by
 have e : (rW b1 b2 b3 bT)[256]? = some (.l bT 0 3 3) := by
  unfold rW
  rw [List.getElem?_append_right (by simp)]
  simp
 simp only [aA, cellD, rowOf, R.row, e]
 rfl
theorem bXb (x : Nat) (hx : x < 256) (h : Hp) : eB 256 1 (.p b 0) (bD x) h = some (.p b x, h) := by
 unfold eB
 simp only
 rw [if_pos (by show (0 : Int) ≤ (x : Int) ∧ (x : Int) < ((256 : Nat) : Int); omega)]
 show some (DV.p b (0 + (x : Int).toNat * 1), h) = _
 simp
theorem aVp (b : Pos) (o : Nat) (h : Hp) : aY (.p b o) h = some (.p b o, h) := rfl
theorem aUo (b : Pos) (o k : Nat) (h : Hp) : aB k (.p b o) h = some (.p b (o + k), h) := rfl
theorem cVx (b : Pos) (o l c : Nat) (h : Hp) : pEq (.slice 5) false (.l b o l c) .l0 h = some (.b true, h) := rfl
theorem cWr (h : Hp) : pEq (.slice 5) false .l0 .l0 h = some (.b false, h) := rfl
theorem aHb (b : Pos) (o l c : Nat) (h : Hp) : bV (.l b o l c) h = some (.i .i64 (Int.ofNat l), h) := rfl
theorem cVo (h : Hp) : aD .sub (.i .i64 (Int.ofNat 2)) (.i .i64 (Int.ofNat 1)) h = some (.i .i64 (Int.ofNat 1), h) := rfl
theorem aBl (x : Nat) : (spB x = false ∧ rep b1 b2 b3 x = .l0 ∧ nU x = [x]) ∨ (spB x = true ∧ ∃ q y, rep b1 b2 b3 x = .l q 0 2 2 ∧ nU x = [92, y] ∧ y < 256 ∧ ((q = b1 ∧ y = 110) ∨ (q = b2 ∧ y = 34) ∨ (q = b3 ∧ y = 92))) := by
 by_cases h1 : x = 10
 ·subst h1
  exact .inr ⟨rfl, b1, 110, rfl, rfl, by decide, .inl ⟨rfl, rfl⟩⟩
 ·by_cases h2 : x = 34
  ·subst h2
   exact .inr ⟨rfl, b2, 34, rfl, rfl, by decide, .inr (.inl ⟨rfl, rfl⟩)⟩
  ·by_cases h3 : x = 92
   ·subst h3
    exact .inr ⟨rfl, b3, 92, rfl, rfl, by decide, .inr (.inr ⟨rfl, rfl⟩)⟩
   ·exact .inl ⟨spB_ff.2 ⟨h1, h2, h3⟩, by simp [rep, h1, h2, h3], by simp [nU, h1, h2, h3]⟩
theorem Rp.src (R : Rp h b b1 b2 b3 bT) {q : Pos} {y : Nat} (hq : (q = b1 ∧ y = 110) ∨ (q = b2 ∧ y = 34) ∨ (q = b3 ∧ y = 92)) : h.bl.get q = some (.row (.gr 1) [bD 92, bD y]) ∧ q.toNat < h.next.toNat := by
 rcases hq with ⟨rfl, rfl⟩ | ⟨rfl, rfl⟩ | ⟨rfl, rfl⟩
 ·exact ⟨R.r1, R.lo.2.1⟩
 ·exact ⟨R.r2, R.lo.2.2.1⟩
 ·exact ⟨R.r3, R.lo.2.2.2.1⟩
theorem Rp.set (R : Rp h b b1 b2 b3 bT) {pb : Pos} {o : Ob} (hb : b ≠ pb) (h1 : b1 ≠ pb) (h2 : b2 ≠ pb) (h3 : b3 ≠ pb) (hT : bT ≠ pb) : Rp ⟨h.next, Tr.set o pb h.bl⟩ b b1 b2 b3 bT where
 row := by rw [← R.row]; exact eCl _ _ _ _ hb
 tr := by obtain ⟨k, hk⟩ := R.tr; exact ⟨k, by rw [← hk]; exact eCl _ _ _ _ hT⟩
 r1 := by rw [← R.r1]; exact eCl _ _ _ _ h1
 r2 := by rw [← R.r2]; exact eCl _ _ _ _ h2
 r3 := by rw [← R.r3]; exact eCl _ _ _ _ h3
 lo := R.lo
def fQ (A : Bs) (N : Nat) : List DV := A.map bD ++ List.replicate (N - A.length) (bD 0)
theorem bMw {A vs : Bs} {N : Nat} (h : A.length + vs.length ≤ N) : fT A.length (fQ A N) (vs.map bD) = some (fQ (A ++ vs) N) := by
 unfold fQ
 have e := aYw (A.map bD) (List.replicate (N - A.length) (bD 0)) (vs.map bD)
 rw [List.length_map] at e
 rw [e]
 have key : ∀ (vs : Bs) (m : Nat), vs.length ≤ m → jY (List.replicate m (bD 0)) (vs.map bD) = some (vs.map bD ++ List.replicate (m - vs.length) (bD 0)) := by
  intro vs
  induction vs with
  | nil => intro m _; cases m <;> rfl
  | cons x vs ih =>
   intro m hm
   obtain ⟨m, rfl⟩ : ∃ j, m = j + 1 := ⟨m - 1, by simp at hm; omega⟩
   show (if (bD 0).one && (bD x).one then (jY (List.replicate m (bD 0)) (vs.map bD)).map (bD x :: ·) else none) = _
   have e1 : ((bD 0).one && (bD x).one) = true := rfl
   rw [if_pos e1, ih m (by simp at hm; omega)]
   simp
 rw [key vs _ (by omega)]
 simp [Nat.sub_sub]
theorem wY {A vs : Bs} {N : Nat} {pb : Pos} {h : Hp} (hg : h.bl.get pb = some (.row .ex (fQ A N))) (hN : A.length + vs.length ≤ N) :
  cV pb A.length (vs.map bD) h = some ⟨h.next, Tr.set (.row .ex (fQ (A ++ vs) N)) pb h.bl⟩ := by
 unfold cV
 simp only [hg]
 rw [bMw hN]
 rfl
theorem bQu (hs : s.length < 1000000) (hb : ∀ c ∈ s, c < 256) (pb : Pos) (N : Nat) (hN : N = (bO s).length) (n1 : b ≠ pb) (n2 : b1 ≠ pb) (n3 : b2 ≠ pb) (n4 : b3 ≠ pb) (n5 : bT ≠ pb) :
  ∀ (k i m : Nat) (h : Hp), i + k = s.length → k < m → Rp h b b1 b2 b3 bT → h.bl.get pb = some (.row .ex (fQ (bO (s.take i)) N)) →
  ∃ h', jU rec n m (.p b 0) (.s s) (.l pb 0 N N) (.i .i64 (Int.ofNat (bO (s.take i)).length)) (.i .i64 (Int.ofNat i)) h = some (.s (bO s), h') := by
 have hql := iU s
 have hsp : gK s ≤ s.length := by
  clear hs hb hN hql
  induction s with
  | nil => simp [gK]
  | cons x t ih => simp only [gK, List.length_cons]; split <;> omega
 intro k
 induction k with
 | zero =>
  intro i m h hi hm R hg
  obtain ⟨m, rfl⟩ : ∃ j, m = j + 1 := ⟨m - 1, by omega⟩
  have hil : i = s.length := by omega
  subst hil
  have l1 : decide (Int.ofNat s.length < Int.ofNat s.length) = false := decide_eq_false (Int.lt_irrefl _)
  refine ⟨h, ?_⟩
  show kP rec n (jU rec n m) _ _ _ _ _ h = _
  unfold kP dC
  rw [List.take_length] at hg
  have hrow : fQ (bO s) N = (bO s).map bD := by unfold fQ; rw [hN]; simp
  rw [hrow] at hg
  have hc : cellsAt pb 0 N h = some ((bO s).map bD) := by
   unfold cellsAt rowOf
   simp only [hg, List.drop_zero]
   have := mW ((bO s).map bD) (aWi _)
   rw [List.length_map, ← hN] at this
   exact this
  simp only [wK, aU, dV, l1, dK, dI, hc, sI (bCz hb)]
 | succ k ih =>
  intro i m h hi hm R hg
  obtain ⟨m, rfl⟩ : ∃ j, m = j + 1 := ⟨m - 1, by omega⟩
  have hlt : i < s.length := by omega
  obtain ⟨x, hx⟩ : ∃ x, s[i]? = some x := ⟨s[i], List.getElem?_eq_getElem hlt⟩
  have hxb : x < 256 := hb x (List.mem_of_getElem? hx)
  have l1 : decide (Int.ofNat i < Int.ofNat s.length) = true := decide_eq_true (by show (i : Int) < (s.length : Int); omega)
  have ht : s.take (i + 1) = s.take i ++ [x] := by rw [List.take_add_one, hx]; rfl
  have hq : bO (s.take (i + 1)) = bO (s.take i) ++ nU x := by rw [ht, wW, cDj]
  have hle : (bO (s.take i)).length + (nU x).length ≤ N := by
   have e : bO s = bO (s.take (i + 1)) ++ bO (s.drop (i + 1)) := by rw [← wW, List.take_append_drop]
   rw [hN, e, hq]
   simp only [List.length_append]
   omega
  show ∃ h', kP rec n (jU rec n m) _ _ _ _ _ h = _
  unfold kP uR
  rcases aBl (b1 := b1) (b2 := b2) (b3 := b3) x with ⟨c1, c2, c3⟩ | ⟨c1, q, y, c2, c3, c4, c5⟩
  ·rw [c3] at hle hq
   have hle' : (bO (s.take i)).length < N := by
    have : (bO (s.take i)).length + 1 ≤ N := hle
    omega
   have hst := wY (vs := [x]) hg (by simpa using hle)
   obtain ⟨h', hh⟩ := ih (i + 1) m ⟨h.next, Tr.set (.row .ex (fQ (bO (s.take i) ++ [x]) N)) pb h.bl⟩ (by omega) (by omega) (R.set n1 n2 n3 n4 n5) (by rw [hq]; exact eCm _ _ _)
   refine ⟨h', ?_⟩
   rw [hq] at hh
   have e1 : aE 1 (.l pb 0 N N) (.i .i64 (Int.ofNat (bO (s.take i)).length)) h = some (.p pb (bO (s.take i)).length, h) := by
    unfold aE
    simp only
    rw [if_pos (by show (0 : Int) ≤ ((bO (s.take i)).length : Int) ∧ ((bO (s.take i)).length : Int) < (N : Int); omega)]
    show some (DV.p pb (0 + ((bO (s.take i)).length : Int).toNat * 1), h) = _
    simp
   have e2 : aI 1 (.p pb (bO (s.take i)).length) (bD x) h = some (aR, ⟨h.next, Tr.set (.row .ex (fQ (bO (s.take i) ++ [x]) N)) pb h.bl⟩) := by
    unfold aI
    simp only [eA]
    rw [if_pos (show [bD x].length = 1 from rfl), show ([DV.i .u8 (Int.ofNat x)] : List DV) = [x].map bD from rfl, hst]
   have e3 : (bO (s.take i)).length + 1 = (bO (s.take i) ++ [x]).length := by simp
   simp only [wK, aU, dV, l1, cX, aQl hx, aVp, aUo, Nat.add_zero, bXb x hxb, R.rep hxb, c2, cWr, dK, e1, e2, dD (bO (s.take i)).length 1 _ (by omega)]
   unfold nH
   simp only [dD i 1 _ (show i + 1 < _ by omega), aU]
   rw [e3]
   exact hh
  ·rw [c3] at hle hq
   have hle' : (bO (s.take i)).length + 2 ≤ N := by simpa using hle
   have hst := wY (vs := [92, y]) hg (by simpa using hle)
   obtain ⟨h', hh⟩ := ih (i + 1) m ⟨h.next, Tr.set (.row .ex (fQ (bO (s.take i) ++ [92, y]) N)) pb h.bl⟩ (by omega) (by omega) (R.set n1 n2 n3 n4 n5) (by rw [hq]; exact eCm _ _ _)
   refine ⟨h', ?_⟩
   rw [hq] at hh
   obtain ⟨d1, d2⟩ := R.src c5
   have hne : N ≠ (bO (s.take i)).length := by omega
   have e1 : cS 1 (.l pb 0 N N) (some (.i .i64 (Int.ofNat (bO (s.take i)).length))) none h = some (.l pb (bO (s.take i)).length (N - (bO (s.take i)).length) (N - (bO (s.take i)).length), h) := by
    have q1 : hiD none N N = some N := by simp [hiD]
    have q2 : loD (some (.i .i64 (Int.ofNat (bO (s.take i)).length))) N = some (bO (s.take i)).length := by
     simp only [loD, fS]
     rw [if_pos (by show (0 : Int) ≤ ((bO (s.take i)).length : Int) ∧ ((bO (s.take i)).length : Int) ≤ (N : Int); omega)]
     rfl
    simp only [cS, q1, q2, hg, if_neg hne, Nat.zero_add, Nat.mul_one]
   have e2 : mC 1 (.l q 0 2 2) h = some (2, [bD 92, bD y]) := by
    simp only [mC, cellsAt, rowOf, d1]
    rfl
   have e3 : qI 1 (.l pb (bO (s.take i)).length (N - (bO (s.take i)).length) (N - (bO (s.take i)).length)) (.l q 0 2 2) h = some (.i .i64 (Int.ofNat 2), ⟨h.next, Tr.set (.row .ex (fQ (bO (s.take i) ++ [92, y]) N)) pb h.bl⟩) := by
    unfold qI
    simp only [e2]
    rw [if_pos (by omega), show ([DV.i .u8 (Int.ofNat 92), DV.i .u8 (Int.ofNat y)] : List DV) = [92, y].map bD from rfl, hst]
    rfl
   have e4 : (bO (s.take i)).length + 2 = (bO (s.take i) ++ [92, y]).length := by simp
   simp only [wK, aU, dV, l1, cX, aQl hx, aVp, aUo, Nat.add_zero, bXb x hxb, R.rep hxb, c2, cVx, e1, e3, dD (bO (s.take i)).length 2 _ (by omega)]
   unfold nH
   simp only [dD i 1 _ (show i + 1 < _ by omega), aU]
   rw [e4]
   exact hh
theorem aMv (hs : s.length < 1000000) (hb : ∀ c ∈ s, c < 256) (hn : s.length < n) {h : Hp} (R : Rp h b b1 b2 b3 bT) (any : Bool) (ha : any = decide (gK s ≠ 0)) :
  ∃ h', bC rec n (.p b 0) (.s s) (.i .i64 (Int.ofNat (s.length + gK s))) (.b any) h = some (.s (bO s), h') := by
 unfold bC
 have hsp : gK s ≤ s.length := by
  clear hs hb hn ha
  induction s with
  | nil => simp [gK]
  | cons x t ih => simp only [gK, List.length_cons]; split <;> omega
 by_cases c : gK s = 0
 ·have e : any = false := by rw [ha]; simp [c]
  refine ⟨h, ?_⟩
  rw [e, xV c]
  simp only [show ∀ h, hZ .not (.b false) h = some (.b true, h) from fun _ => rfl, aU, cX]
 ·have e : any = true := by rw [ha]; simp [c]
  rw [e]
  simp only [show ∀ h, hZ .not (.b true) h = some (.b false, h) from fun _ => rfl, aU, dK]
  unfold zC
  have hm : bN 1 1 [(.i .u8 (Int.ofNat 0))] (.i .i64 (Int.ofNat (s.length + gK s))) (.i .i64 (Int.ofNat (s.length + gK s))) h = some (.l h.next 0 (s.length + gK s) (s.length + gK s), ⟨h.next.succ, Tr.set (.row .ex (List.replicate (s.length + gK s) (bD 0))) h.next h.bl⟩) := by
   unfold bN
   simp only
   rw [if_pos (by
    show (0 : Int) ≤ ((s.length + gK s : Nat) : Int) ∧ ((s.length + gK s : Nat) : Int) ≤ ((s.length + gK s : Nat) : Int) ∧ ((s.length + gK s : Nat) : Int).toNat * 1 ≤ 2 ^ 30 ∧ ((s.length + gK s : Nat) : Int).toNat * 1 ≤ 2 ^ 24 ∧ ((s.length + gK s : Nat) : Int) < 2 ^ 32
    omega)]
   show some (DV.l h.next 0 ((s.length + gK s : Nat) : Int).toNat ((s.length + gK s : Nat) : Int).toNat, Hp.mk h.next.succ (Tr.set (.row .ex (List.replicate ((s.length + gK s : Nat) : Int).toNat [bD 0]).flatten) h.next h.bl)) = _
   rw [Int.toNat_natCast]
   simp
  simp only [hm, aU]
  have ns := eCp h.next
  have ne : ∀ {p : Pos}, p.toNat < h.next.toNat → p ≠ h.next := fun hp e => by subst e; omega
  have R0 := R.set (o := .row .ex (List.replicate (s.length + gK s) (bD 0))) (ne R.lo.1) (ne R.lo.2.1) (ne R.lo.2.2.1) (ne R.lo.2.2.2.1) (ne R.lo.2.2.2.2)
  have R' : Rp ⟨h.next.succ, Tr.set (.row .ex (List.replicate (s.length + gK s) (bD 0))) h.next h.bl⟩ b b1 b2 b3 bT := ⟨R0.row, R0.tr, R0.r1, R0.r2, R0.r3, by
   obtain ⟨l1, l2, l3, l4, l5⟩ := R.lo
   show _ < h.next.succ.toNat ∧ _ < h.next.succ.toNat ∧ _ < h.next.succ.toNat ∧ _ < h.next.succ.toNat ∧ _ < h.next.succ.toNat
   omega⟩
  obtain ⟨h', hh⟩ := bQu (rec := rec) (n := n) hs hb h.next (s.length + gK s) (iU s).symm (ne R.lo.1) (ne R.lo.2.1) (ne R.lo.2.2.1) (ne R.lo.2.2.2.1) (ne R.lo.2.2.2.2) s.length 0 n _ (by omega) hn R'
   (by show (Tr.set _ h.next h.bl).get h.next = _
       rw [eCm]
       simp [fQ, bO])
  exact ⟨h', hh⟩
theorem bHh (hs : s.length < 1000000) (hb : ∀ c ∈ s, c < 256) (hn : s.length < n) {h : Hp} (R : Rp h b b1 b2 b3 bT) : ∀ (k i m : Nat) (any : Bool), i + k = s.length → k < m → any = decide (gK (s.take i) ≠ 0) →
  ∃ h', jN rec n m (.p b 0) (.s s) (.i .i64 (Int.ofNat (s.length + gK (s.take i)))) (.b any) (.i .i64 (Int.ofNat i)) h = some (.s (bO s), h') := by
 have hsp : ∀ s : Bs, gK s ≤ s.length := by
  intro s
  induction s with
  | nil => simp [gK]
  | cons x t ih => simp only [gK, List.length_cons]; split <;> omega
 intro k
 induction k with
 | zero =>
  intro i m any hi hm ha
  obtain ⟨m, rfl⟩ : ∃ j, m = j + 1 := ⟨m - 1, by omega⟩
  have hil : i = s.length := by omega
  subst hil
  have l1 : decide (Int.ofNat s.length < Int.ofNat s.length) = false := decide_eq_false (Int.lt_irrefl _)
  rw [List.take_length] at ha ⊢
  obtain ⟨h', hh⟩ := aMv (rec := rec) hs hb hn R any ha
  refine ⟨h', ?_⟩
  show kU rec n (jN rec n m) _ _ _ _ _ h = _
  unfold kU
  simp only [wK, aU, dV, l1, dK]
  exact hh
 | succ k ih =>
  intro i m any hi hm ha
  obtain ⟨m, rfl⟩ : ∃ j, m = j + 1 := ⟨m - 1, by omega⟩
  have hlt : i < s.length := by omega
  obtain ⟨x, hx⟩ : ∃ x, s[i]? = some x := ⟨s[i], List.getElem?_eq_getElem hlt⟩
  have hxb : x < 256 := hb x (List.mem_of_getElem? hx)
  have l1 : decide (Int.ofNat i < Int.ofNat s.length) = true := decide_eq_true (by show (i : Int) < (s.length : Int); omega)
  have ht : gK (s.take (i + 1)) = gK (s.take i) + (if spB x then 1 else 0) := by
   rw [List.take_add_one, hx]
   show gK (s.take i ++ [x]) = _
   rw [aWu]
   simp [gK]
  have hsl := hsp (s.take i)
  have htl : (s.take i).length ≤ i := by rw [List.length_take]; omega
  show ∃ h', kU rec n (jN rec n m) _ _ _ _ _ h = _
  unfold kU tV
  rcases aBl (b1 := b1) (b2 := b2) (b3 := b3) x with ⟨c1, c2, c3⟩ | ⟨c1, q, y, c2, c3, c4, c5⟩
  ·rw [c1] at ht
   simp only [Bool.false_eq_true, if_false, Nat.add_zero] at ht
   obtain ⟨h', hh⟩ := ih (i + 1) m any (by omega) (by omega) (by rw [ht]; exact ha)
   rw [ht] at hh
   refine ⟨h', ?_⟩
   simp only [wK, aU, dV, l1, cX, aQl hx, aVp, aUo, Nat.add_zero, bXb x hxb, R.rep hxb, c2, cWr, dK]
   unfold nL
   simp only [dD i 1 _ (show i + 1 < _ by omega), aU]
   exact hh
  ·rw [c1] at ht
   simp only [if_true] at ht
   obtain ⟨h', hh⟩ := ih (i + 1) m true (by omega) (by omega) (by rw [ht]; simp)
   rw [ht, ← Nat.add_assoc] at hh
   refine ⟨h', ?_⟩
   simp only [wK, aU, dV, l1, cX, aQl hx, aVp, aUo, Nat.add_zero, bXb x hxb, R.rep hxb, c2, cVx, aHb, cVo, dD (s.length + gK (s.take i)) 1 _ (by omega)]
   unfold nL
   simp only [dD i 1 _ (show i + 1 < _ by omega), aU]
   exact hh
theorem wT {kk : xK} {c : Nat} {q : Pos} {y : Nat} (hs : s.length < 1000000) (hc : c < 256) {h : Hp} (R : Rp h b b1 b2 b3 bT) (i sz : Nat) (hi : i < 3) (hT : ∃ k l, h.bl.get bT = some (.row k l) ∧ l[i]? = some (.s [c])) (hrep : rep b1 b2 b3 c = .l q 0 2 2) (hsz : sz + gB c s < 100000000) (any : Bool) :
  nP rec n kk (.p b 0) (.s s) (.i .i64 (Int.ofNat sz)) (.b any) (.l bT 0 3 3) (.i .i64 (Int.ofNat 3)) (.i .i64 (Int.ofNat i)) h =
   kk (.p b 0) (.s s) (.i .i64 (Int.ofNat (sz + gB c s))) (.b (any || decide (gB c s ≠ 0))) (.l bT 0 3 3) (.i .i64 (Int.ofNat 3)) (.i .i64 (Int.ofNat (i + 1))) h := by
 obtain ⟨k, l, hg, hl⟩ := hT
 have e1 : aE 1 (.l bT 0 3 3) (.i .i64 (Int.ofNat i)) h = some (.p bT i, h) := by
  unfold aE
  simp only
  rw [if_pos (by show (0 : Int) ≤ (i : Int) ∧ (i : Int) < ((3 : Nat) : Int); omega)]
  show some (DV.p bT (0 + (i : Int).toNat * 1), h) = _
  simp
 have e2 : aA (.p bT i) h = some (.s [c], h) := by
  simp only [aA, cellD, rowOf, hg, hl]
  rfl
 have hcb : Nat.blt c 256 = true := by
  rw [show Nat.blt c 256 = Nat.ble (c + 1) 256 from rfl]
  exact Nat.ble_eq_true_of_le hc
 have hsb : Nat.ble s.length 4000000000 = true := Nat.ble_eq_true_of_le (by omega)
 have e3 : rY [.s s, .s [c]] h = some (.i .i64 (Int.ofNat (gB c s)), h) := by
  simp only [rY, hcb, hsb, cond_true]
 unfold nP
 simp only [e1, aU, e2, e3, aAy]
 by_cases hz : gB c s = 0
 ·have l1 : (Int.ofNat (gB c s) != Int.ofNat 0) = false := by rw [hz]; rfl
  simp only [l1, dK]
  unfold nD
  simp only [dD i 1 _ (show i + 1 < _ by omega), aU, hz, Nat.add_zero, ne_eq, not_true, decide_false, Bool.or_false]
 ·have l1 : (Int.ofNat (gB c s) != Int.ofNat 0) = true := by
   rw [bne_iff_ne]
   intro e
   exact hz (Int.ofNat.inj e)
  have e4 : aD .mul (.i .i64 (Int.ofNat (gB c s))) (.i .i64 (Int.ofNat 1)) h = some (.i .i64 (Int.ofNat (gB c s)), h) := by
   have := dXn (gB c s) 1 h (by omega)
   rwa [Nat.mul_one] at this
  simp only [l1, cX, show bY (.s [c]) (.i .i64 (Int.ofNat 0)) h = some (bD c, h) from rfl, aU, aVp, aUo, Nat.add_zero, bXb c hc, R.rep hc, hrep, aHb, cVo, e4, dD sz (gB c s) h (by omega)]
  unfold nD
  simp only [dD i 1 _ (show i + 1 < _ by omega), aU, hz, ne_eq, not_false_eq_true, decide_true, Bool.or_true]
theorem aHd (c : Nat) : ∀ s : Bs, gB c s ≤ s.length
 | [] => Nat.le_refl _
 | x :: t => by
  have := aHd c t
  unfold gB
  cases Nat.beq x c <;> simp <;> omega
theorem cUa (hs : s.length < 1000000) (hb : ∀ c ∈ s, c < 256) (hn : s.length + 10 < n) {h : Hp} (R : Rp h b b1 b2 b3 bT) : ∃ h', s582 rec n (.p b 0) (.s s) h = some (.s (bO s), h') := by
 unfold s582 aGk aCt aJt
 simp only [wK, aU, aVp, aUo, Nat.zero_add, R.tab, aHb, show ∀ h, aD .mul (.i .i64 (Int.ofNat 3)) (.i .i64 (Int.ofNat 8)) h = some (.i .i64 (Int.ofNat 24), h) from fun _ => rfl, bKy]
 unfold uS
 by_cases c : 24 ≤ s.length
 ·have l1 : decide (Int.ofNat 24 ≤ Int.ofNat s.length) = true := decide_eq_true (by show ((24 : Nat) : Int) ≤ (s.length : Int); omega)
  simp only [l1, cX]
  unfold aFm
  simp only [aU, aVp, aUo, Nat.zero_add, R.tab, aHb]
  obtain ⟨n, rfl⟩ : ∃ j, n = j + 1 + 1 + 1 + 1 := ⟨n - 4, by omega⟩
  obtain ⟨kT, hT⟩ := R.tr
  have q1 := aHd 92 s
  have q2 := aHd 34 s
  have q3 := aHd 10 s
  have qs := bDt s
  have lt : ∀ i, i < 3 → decide (Int.ofNat i < Int.ofNat 3) = true := fun i hi => decide_eq_true (by show (i : Int) < ((3 : Nat) : Int); omega)
  have l33 : decide (Int.ofNat 3 < Int.ofNat 3) = false := rfl
  have step : ∀ (m i sz : Nat) (any : Bool), i < 3 → gR rec (n + 1 + 1 + 1 + 1) (m + 1) (.p b 0) (.s s) (.i .i64 (Int.ofNat sz)) (.b any) (.l bT 0 3 3) (.i .i64 (Int.ofNat 3)) (.i .i64 (Int.ofNat i)) h = nP rec (n + 1 + 1 + 1 + 1) (gR rec (n + 1 + 1 + 1 + 1) m) (.p b 0) (.s s) (.i .i64 (Int.ofNat sz)) (.b any) (.l bT 0 3 3) (.i .i64 (Int.ofNat 3)) (.i .i64 (Int.ofNat i)) h := by
   intro m i sz any hi
   show kZ rec _ (gR rec _ m) _ _ _ _ _ _ _ h = _
   unfold kZ qP
   simp only [dV, lt i hi, aU, cX]
  have last : ∀ (m sz : Nat) (any : Bool), gR rec (n + 1 + 1 + 1 + 1) (m + 1) (.p b 0) (.s s) (.i .i64 (Int.ofNat sz)) (.b any) (.l bT 0 3 3) (.i .i64 (Int.ofNat 3)) (.i .i64 (Int.ofNat 3)) h = bC rec (n + 1 + 1 + 1 + 1) (.p b 0) (.s s) (.i .i64 (Int.ofNat sz)) (.b any) h := by
   intro m sz any
   show kZ rec _ (gR rec _ m) _ _ _ _ _ _ _ h = _
   unfold kZ qP
   simp only [dV, l33, aU, dK]
  unfold vB aKc
  rw [step _ 0 _ _ (by omega), wT (c := 92) (q := b3) (y := 92) hs (by omega) R 0 _ (by omega) ⟨kT, _, hT, rfl⟩ rfl (by omega),
   step _ 1 _ _ (by omega), wT (c := 34) (q := b2) (y := 34) hs (by omega) R 1 _ (by omega) ⟨kT, _, hT, rfl⟩ rfl (by omega),
   step _ 2 _ _ (by omega), wT (c := 10) (q := b1) (y := 110) hs (by omega) R 2 _ (by omega) ⟨kT, _, hT, rfl⟩ rfl (by omega), last]
  rw [show s.length + gB 92 s + gB 34 s + gB 10 s = s.length + gK s by omega]
  exact aMv hs hb (by omega) R _ (by
   rw [← qs]
   by_cases z1 : gB 92 s = 0
   ·by_cases z2 : gB 34 s = 0
    ·by_cases z3 : gB 10 s = 0
     ·simp [z1, z2, z3]
     ·simp [z1, z2, z3]
    ·simp [z1, z2]
   ·simp [z1])
 ·have l1 : decide (Int.ofNat 24 ≤ Int.ofNat s.length) = false := decide_eq_false (by show ¬ ((24 : Nat) : Int) ≤ (s.length : Int); omega)
  simp only [l1, dK]
  obtain ⟨h', hh⟩ := bHh (rec := rec) hs hb (by omega : s.length < n) R s.length 0 n false (by omega) (by omega) (by simp [gK])
  exact ⟨h', hh⟩
end
end Go.Dd

namespace Go.Dd
open Go.Proofs
theorem cUk (a b : Bs) : tM a b = decide (a = b) := by
 rw [Bool.eq_iff_iff, nI, decide_eq_true_eq]
theorem cJb (a b : Bs) (h : Hp) : bW .eql (.s a) (.s b) h = some (.b (decide (a = b)), h) := by
 show some (DV.b (tM a b), h) = _
 rw [cUk]
theorem dL (a b : Bs) (h : Hp) (hl : a.length + b.length < 4611686018427387904) : bW .add (.s a) (.s b) h = some (.s (a ++ b), h) := by
 have e : ¬ ((a.length + b.length : Nat) : Int) > IntKind.i64.max := by
  have : IntKind.i64.max = 9223372036854775807 := by decide
  rw [this]
  omega
 simp only [bW, aPc, if_neg e]
theorem dLj (cs : List DV) (h : Hp) : cH (.a cs) h = some (.p h.next 0, ⟨h.next.succ, Tr.set (.row .ex cs) h.next h.bl⟩) := rfl
theorem cNf (b : Pos) (o k : Nat) (h : Hp) : aB k (.p b o) h = some (.p b (o + k), h) := rfl
theorem ldC {b : Pos} {k : Kind} {row : List DV} {o : Nat} {v : DV} {h : Hp} (hg : h.bl.get b = some (.row k row)) (hv : row[o]? = some v) (ho : v.one = true) : aA (.p b o) h = some (v, h) := by
 simp only [aA, cellD, rowOf, hg, hv, ho, if_true]
theorem Lo.new (o : Ob) (h : Hp) : Lo h.next.toNat h ⟨h.next.succ, Tr.set o h.next h.bl⟩ := ⟨by rw [eCp]; exact Nat.le_succ _, fun p hp => eCl _ _ _ _ (fun e => by subst e; exact Nat.lt_irrefl _ hp)⟩
theorem Lo.set {lo : Nat} {h : Hp} (o : Ob) {b : Pos} (hb : lo ≤ b.toNat) : Lo lo h ⟨h.next, Tr.set o b h.bl⟩ := ⟨Nat.le_refl _, fun p hp => eCl _ _ _ _ (fun e => by subst e; omega)⟩
theorem Lo.mono {lo lo' : Nat} {a b : Hp} (u : Lo lo a b) (h : lo' ≤ lo) : Lo lo' a b := ⟨u.next, fun p hp => u.get p (Nat.lt_of_lt_of_le hp h)⟩
section
variable {rec : RT} {n : Nat}
theorem cXg (c : Bool) (x y : aG) : aT (.b c) x y = if c = true then x else y := by cases c <;> rfl
theorem gDt (c : Bool) (r : aG) (h : Hp) : gD (.b c) true r h = if c = true then r else some (aR, h) := by cases c <;> rfl
end
end Go.Dd

namespace Go.Dd
open Go.Proofs Go.RowKit
theorem cGn (G : Gd) (g : FuncId) (F : List DV → Hp → aG) (h : CFq.I g = some F) : fV CFq.P G g F := by
 unfold CFq at h
 dsimp only at h
 cases h47 : Nat.beq g 47 with
 | true =>
  rw [h47] at h
  cases Nat.eq_of_beq_eq_true h47
  simp only [cond_true, aV] at h
  subst h
  exact cCz G
 | false =>
  rw [h47] at h
  cases h66 : Nat.beq g 66 with
  | true =>
   rw [h66] at h
   cases Nat.eq_of_beq_eq_true h66
   simp only [cond_false, cond_true, aV] at h
   subst h
   exact cOu G
  | false => rw [h66] at h; cases h
theorem aYb (r : aG) (f g : DV → Hp → aG) : bnd (bnd r f) g = bnd r fun v h => bnd (f v h) g := by
 cases r <;> rfl
noncomputable def preQ : aG :=
 bnd (aP [(.s []), (.s []), (.s []), (.s []), (.s []), (.s [])] 6 [(0, 1, (.s [10])), (1, 1, (.s [92, 110])), (2, 1, (.s [34])), (3, 1, (.s [92, 34])), (4, 1, (.s [92])), (5, 1, (.s [92, 92]))] ⟨cO 1, .e⟩) fun v1 h1 =>
 bnd (s42 (lL CFq 199998) 199998 v1 h1) fun v2 h2 =>
 bnd (aY v2 h2) fun w1 h1 =>
 bnd (aB 0 w1 h1) fun w2 h2 =>
 bnd (aBz [w2, (.f 67 [v2] [])] h2) fun w3 h3 =>
 bnd (aY v2 h3) fun w4 h4 =>
 bnd (aB 3 w4 h4) fun w5 h5 =>
 aA w5 h5
noncomputable def bYd (r : aG) (p : Pos) : Option Ob := match r with
 | some (_, h) => h.bl.get p
 | none => none
noncomputable def eBu (r : aG) : DV := match r with
 | some (v, _) => v
 | none => .u
noncomputable def dZw (r : aG) : Pos := match r with
 | some (_, h) => h.next
 | none => cO 1
theorem bWz : preQ.isSome = true := by kernel_rfl
theorem cNm : eBu preQ = .c 258 (.p (cO 5) 0) := by kernel_rfl
theorem cTo : dZw preQ = cO 15 := by kernel_rfl
theorem cLa : bYd preQ (cO 5) = some (.row .ex (rW (cO 14) (cO 11) (cO 8) (cO 4))) := by kernel_rfl
theorem cMm : bYd preQ (cO 4) = some (.row .ex [.s [92], .s [34], .s [10]]) := by kernel_rfl
theorem dBw : bYd preQ (cO 14) = some (.row (.gr 1) [bD 92, bD 110]) := by kernel_rfl
theorem dKe : bYd preQ (cO 11) = some (.row (.gr 1) [bD 92, bD 34]) := by kernel_rfl
theorem dEk : bYd preQ (cO 8) = some (.row (.gr 1) [bD 92, bD 92]) := by kernel_rfl
theorem dIf : ∃ h, preQ = some (.c 258 (.p (cO 5) 0), h) ∧ Rp h (cO 5) (cO 14) (cO 11) (cO 8) (cO 4) := by
 have e0 := bWz
 have e1 := cNm
 have e2 := cTo
 have e3 := cLa
 have e4 := cMm
 have e5 := dBw
 have e6 := dKe
 have e7 := dEk
 cases h : preQ with
 | none => rw [h] at e0; cases e0
 | some p =>
  obtain ⟨v, g⟩ := p
  rw [h] at e1 e2 e3 e4 e5 e6 e7
  change v = _ at e1
  change g.next = _ at e2
  subst e1
  refine ⟨g, rfl, e3, ⟨_, e4⟩, e5, e6, e7, ?_⟩
  rw [e2]
  refine ⟨?_, ?_, ?_, ?_, ?_⟩ <;> decide +kernel
theorem cZn : cAz CFq.P 258 "Replace" = some 582 := by kernel_rfl
theorem dLk : CFq.I 582 = none := by kernel_rfl
theorem bKx : ∀ s : Bs, gK s ≤ s.length
 | [] => by simp [gK]
 | x :: t => by
  have := bKx t
  simp only [gK, List.length_cons]
  split <;> omega
theorem aUd {s : Bs} (hs : s.length ≤ 100000) (hb : ∀ c ∈ s, c < 256) : ∃ g, lL CFq 200000 25 [.s s] ⟨cO 1, .e⟩ = some (.s (34 :: (bO s ++ [34])), g) := by
 obtain ⟨h, e, R⟩ := dIf
 obtain ⟨g, q⟩ := cUa (rec := lL CFq 199997) (n := 199997) (by omega) hb (by omega) R
 refine ⟨g, ?_⟩
 have e25 : lL CFq 200000 25 [.s s] ⟨cO 1, .e⟩ = s25 (lL CFq 199999) 199999 (.s s) ⟨cO 1, .e⟩ := dPn (lL CFq 199999) 199999 [.s s] ⟨cO 1, .e⟩
 have e42 : ∀ (v : DV) (h : Hp), lL CFq 199999 42 [v] h = s42 (lL CFq 199998) 199998 v h := fun v h => dPu (lL CFq 199998) 199998 [v] h
 have e43 : ∀ (v w : DV) (h : Hp), lL CFq 199999 43 [v, w] h = s43 (lL CFq 199998) 199998 v w h := fun v w h => dQd (lL CFq 199998) 199998 [v, w] h
 have e582 : ∀ (v w : DV) (h : Hp), lL CFq 199998 582 [v, w] h = s582 (lL CFq 199997) 199997 v w h := fun v w h => dAc (lL CFq 199997) 199997 [v, w] h
 rw [e25]
 have inv : ∀ h, aUk CFq (lL CFq 199998) (.c 258 (.p (cO 5) 0)) "Replace" [.s s] h = lL CFq 199998 582 [.p (cO 5) 0, .s s] h := by
  intro h
  unfold aUk
  simp only [cZn]
  unfold gX cA
  simp only [dLk]
  rfl
 unfold s25
 simp only [e42, e43]
 unfold s43
 have split : ∀ k : DV → Hp → aG, bnd preQ k = (bnd (aP [(.s []), (.s []), (.s []), (.s []), (.s []), (.s [])] 6 [(0, 1, (.s [10])), (1, 1, (.s [92, 110])), (2, 1, (.s [34])), (3, 1, (.s [92, 34])), (4, 1, (.s [92])), (5, 1, (.s [92, 92]))] ⟨cO 1, .e⟩) fun v1 h1 =>
   bnd (s42 (lL CFq 199998) 199998 v1 h1) fun v2 h2 =>
   bnd (aY v2 h2) fun w1 h1 =>
   bnd (aB 0 w1 h1) fun w2 h2 =>
   bnd (aBz [w2, (.f 67 [v2] [])] h2) fun w3 h3 =>
   bnd (aY v2 h3) fun w4 h4 =>
   bnd (aB 3 w4 h4) fun w5 h5 =>
   bnd (aA w5 h5) k) := by
  intro k
  unfold preQ
  simp only [aYb]
 have key := split (fun w6 h6 => bnd (bnd (aUk CFq (lL CFq 199998) w6 "Replace" [.s s] h6) fun w7 h7 => some (w7, h7)) fun v3 h3 => bnd (bW .add (.s [34]) v3 h3) fun v4 h4 => bnd (bW .add v4 (.s [34]) h4) fun v5 h5 => some (v5, h5))
 simp only [aYb] at key ⊢
 refine key.symm.trans ?_
 rw [e, aU, inv, e582, q, aU, aU]
 have q1 := iU s
 have sle := bKx s
 have a1 : bW .add (.s [34]) (.s (bO s)) g = some (.s ([34] ++ bO s), g) := dL _ _ _ (by simp; omega)
 have a2 : bW .add (.s ([34] ++ bO s)) (.s [34]) g = some (.s ([34] ++ bO s ++ [34]), g) := dL _ _ _ (by simp; omega)
 rw [a1, aU, a2, aU]
 simp
theorem bIt (G : Gd) : fV CF1.P G 25 iO := by
 intro args h v h1 hr ρ w args' H hargs
 unfold iO at hr
 split at hr <;> (try (cases hr; done))
 rename_i s
 cases hc : Nat.ble s.length 100000 with
 | false => rw [hc] at hr; cases hr
 | true =>
 rw [hc] at hr
 simp only [cond_true, aV, bI] at hr
 obtain ⟨rfl, rfl⟩ := hr
 have hs := Nat.le_of_ble_eq_true hc
 obtain ⟨a⟩ := args'
 cases hargs with
 | cons _ x' l1 l1' hx hxs =>
 cases hxs
 cases hx with
 | s _ bs hbs =>
 have hb : ∀ c ∈ s, c < 256 := fun c hc => by
  rw [← hbs] at hc
  simp only [List.mem_map] at hc
  obtain ⟨u, _, rfl⟩ := hc
  exact u.toNat_lt
 obtain ⟨g, hg⟩ := aUd hs hb
 refine .inl ⟨xU Tryz.func25 (by kernel_rfl) _ _, ?_⟩
 refine (aCi (F := lL CFq 200000 25) (fun G => aCr (C := CFq) Try_ok cGn 200000 G 25) hg Tryz.f25 Tryz.func25 (by kernel_rfl) w (G.ok w H.gl) #[.string bs] (.cons _ _ _ _ (.s _ bs hbs) .nil)).mono ?_
 rintro e w' ⟨ρ', v', rfl, hv, _, hbel, _⟩
 cases hv with
 | s _ bs' hbs' => exact ⟨ρ, _, rfl, Ex.refl _ _, .s _ bs' hbs', H.later hbel, Kp.later H hbel⟩
end Go.Dd

namespace Go.Dd
open Go.Proofs Go.Lib Go.RowKit
theorem aMe (c : Nat) (hc : c < 256) : ∀ (l : List UInt8) (i : Nat), aLx c (l.map (·.toNat)) i = if indexByte l c.toUInt8 = -1 then -1 else indexByte l c.toUInt8 + i
 | [], i => rfl
 | b :: l, i => by
  have hb : Nat.beq b.toNat c = (b == c.toUInt8) := by
   rw [Bool.eq_iff_iff]
   constructor
   ·intro h
    have := Nat.eq_of_beq_eq_true h
    simp [← this]
   ·intro h
    have h2 : b = c.toUInt8 := by simpa using h
    rw [h2]
    have : (c.toUInt8).toNat = c := by simp [Nat.toUInt8]; omega
    rw [this]; simp
  show (bif Nat.beq b.toNat c then Int.ofNat i else aLx c (l.map (·.toNat)) (i + 1)) = _
  rw [hb]
  unfold indexByte
  cases h : (b == c.toUInt8) with
  | true => simp
  | false =>
   have ih := aMe c hc l (i + 1)
   have hge := indexByte_ge l c.toUInt8
   simp only [cond_false, Bool.false_eq_true, if_false]
   rw [ih]
   by_cases h1 : indexByte l c.toUInt8 = -1
   ·simp [h1]
   ·simp only [h1, if_false, beq_iff_eq]
    rw [if_neg (by omega)]
    omega
theorem dGm (G : Gd) : fV Tryz.prog G 68 aOq := by
 intro args h v h1 hr ρ w args' H hargs
 unfold aOq at hr
 split at hr <;> (try (cases hr; done))
 rename_i l c
 cases hc : Nat.blt c 256 with
 | false => rw [hc] at hr; cases hr
 | true =>
  rw [hc] at hr
  have hc' : c < 256 := by simpa using hc
  simp only [cond_true, aV, bI] at hr
  obtain ⟨rfl, rfl⟩ := hr
  obtain ⟨a⟩ := args'
  cases hargs with
  | cons x x' l1 l1' hx hxs =>
  cases hxs with
  | cons y y' l2 l2' hy hys =>
  cases hys
  cases hx with
  | s l bs hbs =>
  cases hy with
  | i k n =>
  refine .inr ⟨ρ, w, .int .i64 (indexByte bs.data.toList c.toUInt8), ?_, Ex.refl _ _, ?_, H, Kp.refl _ _⟩
  ·rw [run_callFunc_extern (fn := Tryz.f68) (e := Extern.BytealgIndexByte.indexByte) (by kernel_rfl) (by kernel_rfl) (by kernel_rfl) (by kernel_rfl) (by kernel_rfl)]
   rw [run_indexByteString bs (Int.ofNat c) w]
   rfl
  ·have e := aMe c hc' bs.data.toList 0
   rw [hbs] at e
   have e2 : aLx c l 0 = indexByte bs.data.toList c.toUInt8 := by
    rw [e]
    split
    ·rename_i h; exact h.symm
    ·simp
   rw [e2]
   exact .i _ _
theorem aGw (G : Gd) (g : FuncId) (F : List DV → Hp → aG) (h : CF1.I g = some F) : fV CF1.P G g F := by
 change oY g = some F at h
 unfold oY at h
 cases h1 : Nat.beq g 68 with
 | true => rw [h1] at h; cases h; cases Nat.eq_of_beq_eq_true h1; exact dGm G
 | false =>
 cases h2 : Nat.beq g 351 with
 | true => rw [h1, h2] at h; cases h; cases Nat.eq_of_beq_eq_true h2; exact dCp G
 | false =>
 cases h3 : Nat.beq g 24 with
 | true => rw [h1, h2, h3] at h; cases h; cases Nat.eq_of_beq_eq_true h3; exact bAw G
 | false =>
 cases h4 : Nat.beq g 235 with
 | true => rw [h1, h2, h3, h4] at h; cases h; cases Nat.eq_of_beq_eq_true h4; exact cLu G
 | false =>
 cases h5 : Nat.beq g 23 with
 | true => rw [h1, h2, h3, h4, h5] at h; cases h; cases Nat.eq_of_beq_eq_true h5; exact cMi G
 | false =>
 cases h6 : Nat.beq g 32 with
 | true => rw [h1, h2, h3, h4, h5, h6] at h; cases h; cases Nat.eq_of_beq_eq_true h6; exact bVv G
 | false =>
 cases h7 : Nat.beq g 33 with
 | true => rw [h1, h2, h3, h4, h5, h6, h7] at h; cases h; cases Nat.eq_of_beq_eq_true h7; exact dGa G
 | false =>
 cases h8 : Nat.beq g 74 with
 | true => rw [h1, h2, h3, h4, h5, h6, h7, h8] at h; cases h; cases Nat.eq_of_beq_eq_true h8; exact bIz G
 | false =>
 cases h9 : Nat.beq g 25 with
 | true => rw [h1, h2, h3, h4, h5, h6, h7, h8, h9] at h; cases h; cases Nat.eq_of_beq_eq_true h9; exact bIt G
 | false =>
 rw [h1, h2, h3, h4, h5, h6, h7, h8, h9] at h
 cases h
theorem aTn (n : Nat) (G : Gd) (f : FuncId) : fV Tryz.prog G f (fI CF1 n f) := cCc (C := CF1) Try_ok aGw dAm dFr n G f
end Go.Dd

namespace Go.Dd
open Go.Proofs
noncomputable def nR : RT := fun g args h => bif Nat.beq g 11 then (match args with
 | [] => some (.b true, h)
 | _ => none) else kS 20000000 g args h
theorem cVc {g : FuncId} (hg : Nat.beq g 11 = false) (args : List DV) (h : Hp) : nR g args h = kS 20000000 g args h := by
 unfold nR
 rw [hg, cond_false]
theorem eBa (h : Hp) : nR 11 [] h = some (.b true, h) := by
 unfold nR
 rw [show Nat.beq 11 11 = true from rfl, cond_true]
end Go.Dd

namespace Go.Dd
open Go.Proofs Go.RowKit
theorem bXa {f : FuncId} {args : List DV} {F : List DV → Hp → aG} {v : DV} {g1 : Hp} (hF : ∀ G, fV Tryz.prog G f F) (hr : F args hS = some (v, g1)) (fn : Func) (hf : Tryz.prog.funcs[f]? = some fn) (hb : fn.body.isSome = true)
  (w : World) (W : Facts w) (args' : Array Value) (hargs : VRs (fun _ => none) args args'.toList) :
  Calls Tryz.prog f args' w fun e w' => ∃ ρ' v', e = .returned v' ∧ VR ρ' v v' ∧ HR (gdS w W 1024) ρ' g1 w' ∧ Below w.heap.size w w' ∧ ∀ b L, ρ' b = some L → 1024 ≤ b.toNat := by
 have hp : (cO 1).toNat = 1024 := by kernel_rfl
 have H : HR (gdS w W 1024) (fun _ => none) hS w := HR.empty w W 1024 (cO 1) (by rw [hp]; exact Nat.le_refl _)
 rcases hF (gdS w W 1024) args hS v g1 hr _ w args' H hargs with ⟨_, h⟩ | ⟨ρ', w', v', h, _⟩
 ·refine h.mono ?_
  rintro e w' ⟨ρ', v', h1, h2, h3, h4, h5⟩
  exact ⟨ρ', v', h1, h3, h4, h5.low, fun b L hL => (h2.new b L hL).resolve_left (fun e => by cases e)⟩
 ·exfalso
  have hn : ¬ fn.name = "runtime.NumGoroutine" := by simpa using Try_ok.names f fn hf
  have hbn : fn.body ≠ none := by intro e; rw [e] at hb; cases hb
  unfold callFunc at h
  simp [hf, hn, hbn] at h
theorem bHk {f : FuncId} {F : List DV → Hp → aG} {r : Bool} {h1 : Hp} (hF : ∀ G, fV Tryz.prog G f F) {p : Pos} (hr : F [] ⟨p, .e⟩ = some (.b r, h1)) (fn : Func) (hf : Tryz.prog.funcs[f]? = some fn) (hb : fn.body.isSome = true) (G : Gd) :
  fV Tryz.prog G f (fun args h => match args with
   | [] => some (.b r, h)
   | _ => none) := by
 intro args h v h2 he ρ w args' H hargs
 cases args with
 | cons _ _ => cases he
 | nil =>
  simp only [aV, bI] at he
  obtain ⟨rfl, rfl⟩ := he
  have e0 : args' = #[] := by
   obtain ⟨a⟩ := args'
   cases hargs
   rfl
  subst e0
  refine .inl ⟨xU hf hb _ _, ?_⟩
  refine (aCi hF hr fn hf hb w (G.ok w H.gl) #[] .nil).mono ?_
  rintro e w' ⟨ρ', v', rfl, hv, _, hbel, _⟩
  cases hv
  exact ⟨ρ, _, rfl, Ex.refl _ _, .b _, H.later hbel, Kp.later H hbel⟩
theorem Sim.tf {a b c : Hp} (h : Sim true a b) (k : Sim false b c) : Sim false a c := ⟨k.next.trans h.next, fun p o hp => by
 obtain ⟨o', h1, h2⟩ := h.get p o hp
 rw [kD h2] at h1
 exact k.get p o h1⟩
theorem aBk (o : Ob) : wC true o o := by cases o <;> simp [wC]
theorem eEq : Sim false hS hS := ⟨rfl, fun b o hb => by cases b <;> cases hb⟩
theorem aXx (g : FuncId) (F : List DV → Hp → aG) (hg : CF.I g = some F) (n : Nat) (args : List DV) : SimP false (F args) (cA CF1 (fI CF1 (n + 12)) g args) := by
 have hcall : cA CF1 (fI CF1 (n + 12)) g args = fun h => match oY g with
  | some F => F args h
  | none => fI CF1 (n + 12) g args h := rfl
 rw [hcall]
 rcases zU hg with h1 | ⟨h1, h2⟩
 ·rw [h1]; exact aIa h1 args
 ·rw [h1]; exact aNs g F h2 n args
theorem bTn {g : FuncId} (hg : CF.I g = none) : CF1.I g = none := (aMx hg).1
theorem aPp : ∃ g', fI CF1 912 55 [.i .i64 (.ofNat 30000)] hS = some (.t [.p (cO 7) 0, .i .i64 (.ofNat 0)], g') ∧ Sim false hN g' := by
 obtain ⟨g, h1, h2⟩ := dGr
 rw [wL] at h1
 obtain ⟨g', h3, h4⟩ := aPy 900 55 [.i .i64 (.ofNat 30000)] hS hS eEq _ _ h1
 exact ⟨g', h3, h2.tf h4⟩
section known
variable {g1 : Hp} {HL : List (Pos × Ob)} {nx0 : Nat}
noncomputable def exL (g1 : Hp) (l : List (Pos × Ob)) : List (Pos × Ob) := l.map fun x => (x.1, (g1.bl.get x.1).getD x.2)
theorem aMs (l : List (Pos × Ob)) (t : Tr Ob) (b : Pos) : (gU l t).get b = match (gU l .e).get b with
  | some o => some o
  | none => t.get b := by
 induction l with
 | nil => rw [show gU [] t = t from rfl, show gU [] .e = .e from rfl, Tr.get_e]
 | cons x l ih =>
  show (Tr.set x.2 x.1 (gU l t)).get b = match (Tr.set x.2 x.1 (gU l .e)).get b with
   | some o => some o
   | none => t.get b
  by_cases e : b = x.1
  ·rw [e, eCm, eCm]
  ·rw [eCl _ _ _ _ e, eCl _ _ _ _ e]
   exact ih
theorem bPu (l : List (Pos × Ob)) (b : Pos) (o : Ob) (h : (gU l .e).get b = some o) : (b, o) ∈ l := by
 induction l with
 | nil => rw [show gU [] .e = .e from rfl, Tr.get_e] at h; cases h
 | cons x l ih =>
  change (Tr.set x.2 x.1 (gU l .e)).get b = some o at h
  by_cases e : b = x.1
  ·rw [e, eCm] at h
   cases h
   rw [e]
   exact List.mem_cons_self
  ·rw [eCl _ _ _ _ e] at h
   exact List.mem_cons_of_mem _ (ih h)
theorem nE (g1 : Hp) (l : List (Pos × Ob)) (b : Pos) : (gU (exL g1 l) .e).get b = ((gU l .e).get b).map fun o => (g1.bl.get b).getD o := by
 induction l with
 | nil => rw [show exL g1 [] = [] from rfl, show gU [] .e = .e from rfl, Tr.get_e]; rfl
 | cons x l ih =>
  show (Tr.set ((g1.bl.get x.1).getD x.2) x.1 (gU (exL g1 l) .e)).get b = ((Tr.set x.2 x.1 (gU l .e)).get b).map _
  by_cases e : b = x.1
  ·rw [e, eCm, eCm]
   rfl
  ·rw [eCl _ _ _ _ e, eCl _ _ _ _ e]
   exact ih
theorem aKq (S : Sim false (iS nx0 HL) g1) {b : Pos} {o : Ob} (h : (gU HL .e).get b = some o) : ∃ o', g1.bl.get b = some o' ∧ wC false o o' ∧ (gU (exL g1 HL) .e).get b = some o' := by
 obtain ⟨o', h1, h2⟩ := S.get b o h
 refine ⟨o', h1, h2, ?_⟩
 rw [nE, h, h1]
 rfl
noncomputable def aOg (o : Ob) : Bool := match o with
 | .row .ex _ => true
 | .mp _ => true
 | .big _ _ => true
 | .mi _ => true
 | _ => false
noncomputable def cQv (l : List (Pos × Ob)) : Bool := List.rec (motive := fun _ => Bool) true (fun x _ ih => aOg x.2 && ih) l
theorem aNt : ∀ {l : List (Pos × Ob)}, cQv l = true → ∀ x ∈ l, aOg x.2 = true
 | [], _, x, h => by cases h
 | y :: l, hl, x, h => by
  change (aOg y.2 && cQv l) = true at hl
  simp only [Bool.and_eq_true] at hl
  simp only [List.mem_cons] at h
  rcases h with rfl | h
  ·exact hl.1
  ·exact aNt hl.2 x h
theorem bHr {o o' : Ob} (hk : aOg o = true) (h : wC false o o') : o'.sg = true ∨ ∃ l, o' = .row .ex l := by
 unfold aOg at hk
 split at hk
 ·have : o' = _ := h
  exact .inr ⟨_, this⟩
 ·have : o' = _ := h
  rw [this]
  exact .inl rfl
 ·exact .inr ⟨_, h⟩
 ·obtain ⟨es, h1, _⟩ := h
  rw [h1]
  exact .inl rfl
 ·cases hk
noncomputable def xC (p : List DV → Bool) (v0 : DV) (nx0 : Nat) (HL : List (Pos × Ob)) (g1 : Hp) (args : List DV) (h : Hp) : aG :=
 bif p args && mI h.next (cO 1) then some (v0, ⟨cO nx0, gU (exL g1 HL) h.bl⟩) else none
theorem bFj (S1 : Sim false (iS nx0 HL) g1) (p : List DV → Bool) (v0 : DV) (args : List DV) : SimP false (aRa p v0 nx0 HL args) (xC p v0 nx0 HL g1 args) := by
 intro h h' S
 unfold aRa xC
 rw [S.next]
 cases (p args && mI h.next (cO 1)) with
 | false => exact SimR.none _
 | true =>
  intro v k e
  simp only [cond_true, aV, bI] at e
  obtain ⟨rfl, rfl⟩ := e
  refine ⟨⟨cO nx0, gU (exL g1 HL) h'.bl⟩, rfl, rfl, fun b o ho => ?_⟩
  change (gU HL h.bl).get b = some o at ho
  show ∃ o', (gU (exL g1 HL) h'.bl).get b = some o' ∧ wC false o o'
  rw [aMs] at ho ⊢
  cases hb : (gU HL .e).get b with
  | some o1 =>
   rw [hb] at ho
   cases ho
   obtain ⟨o', _, h2, h3⟩ := aKq S1 hb
   exact ⟨o', by rw [h3], h2⟩
  | none =>
   rw [hb] at ho
   rw [nE, hb]
   exact S.get b o ho
theorem bUi {f : FuncId} {F : List DV → Hp → aG} (hF : ∀ G, fV Tryz.prog G f F) {args0 : List DV} {v0 : DV} (hr0 : F args0 hS = some (v0, g1)) (S1 : Sim false (iS nx0 HL) g1) (hk : cQv HL = true) (hnx0 : 1024 ≤ (cO nx0).toNat)
  (fn : Func) (hf : Tryz.prog.funcs[f]? = some fn) (hb : fn.body.isSome = true) {p : List DV → Bool} (hp : ∀ args, p args = true → args = args0) (h0 : ∀ ρ l, VRs ρ args0 l → VRs (fun _ => none) args0 l) (G : Gd) : fV Tryz.prog G f (xC p v0 nx0 HL g1) := by
 intro args h v h1 hr ρ w args' H hargs
 unfold xC at hr
 cases hc : (p args && mI h.next (cO 1)) with
 | false => rw [hc] at hr; cases hr
 | true =>
  rw [hc] at hr
  simp only [cond_true, aV, bI] at hr
  obtain ⟨rfl, rfl⟩ := hr
  simp only [Bool.and_eq_true] at hc
  have ha := hp _ hc.1
  subst ha
  have hnx := lY _ _ hc.2
  have hp1 : (cO 1).toNat = 1024 := by kernel_rfl
  refine .inl ⟨xU hf hb _ _, ?_⟩
  refine (bXa hF hr0 fn hf hb w (G.ok w H.gl) args' (h0 _ _ hargs)).mono ?_
  rintro e w' ⟨ρ2, v', rfl, hv, H2, hbel, hlow⟩
  have S2 : Sim true ⟨g1.next, gU (exL g1 HL) .e⟩ g1 := ⟨rfl, fun b o ho => by
   change (gU (exL g1 HL) .e).get b = some o at ho
   rw [nE] at ho
   cases hb : (gU HL .e).get b with
   | none => rw [hb] at ho; cases ho
   | some o1 =>
    obtain ⟨o', q1, _, q3⟩ := aKq S1 hb
    rw [nE] at q3
    rw [q3] at ho
    cases ho
    exact ⟨_, q1, aBk _⟩⟩
  have hgn : g1.next = cO nx0 := S1.next
  have H3 := HR.sub S2 H2
  obtain ⟨j1, j2, j3⟩ := H.join (J := gU (exL g1 HL) h.bl) hbel H3 rfl (fun b L hL => by rw [hnx, hp1]; exact hlow b L hL) (fun b o ho => by
    change (gU (exL g1 HL) .e).get b = some o at ho
    rw [nE] at ho
    cases hb : (gU HL .e).get b with
    | none => rw [hb] at ho; cases ho
    | some o1 =>
     obtain ⟨o', q1, q2, q3⟩ := aKq S1 hb
     rw [nE] at q3
     rw [q3] at ho
     cases ho
     exact bHr (aNt hk _ (bPu _ _ _ hb)) q2) (by
    show h.next.toNat ≤ g1.next.toNat
    rw [hnx, hgn, hp1]
    exact hnx0) (fun b => by
    rw [aMs]
    cases hb : (gU (exL g1 HL) .e).get b with
    | none => cases h.bl.get b <;> rfl
    | some o =>
     cases hh : h.bl.get b with
     | none => rfl
     | some o1 =>
      exfalso
      obtain ⟨L, hL⟩ := H.dom b o1 hh
      have q1 := H.lt b L hL
      obtain ⟨L2, hL2⟩ := H3.dom b o hb
      have q2 := hlow b L2 hL2
      rw [hnx, hp1] at q1
      omega)
  rw [hgn] at j1
  exact ⟨kY ρ ρ2, v', rfl, j2, hv.mono j3, j1, Kp.later H hbel⟩
end known
noncomputable def gN1 : Hp := Classical.choose aPp
theorem cNj : fI CF1 912 55 [.i .i64 (.ofNat 30000)] hS = some (.t [.p (cO 7) 0, .i .i64 (.ofNat 0)], gN1) := (Classical.choose_spec aPp).1
theorem aXu : Sim false hN gN1 := (Classical.choose_spec aPp).2
theorem bHa : cQv HLN = true := by kernel_rfl
noncomputable def bJx : List DV → Hp → aG := xC bBf (.t [.p (cO 7) 0, .i .i64 (.ofNat 0)]) 26855 HLN gN1
theorem bSk (args : List DV) : SimP false (dAa args) (bJx args) := bFj aXu _ _ _
theorem cDh (args : List DV) (h : bBf args = true) : args = [.i .i64 (.ofNat 30000)] := by
 unfold bBf at h
 split at h
 ·rw [Nat.eq_of_beq_eq_true h]
 ·cases h
theorem cNn {k : IntKind} {n : Int} (ρ : Ren) (l : List Value) (h : VRs ρ [.i k n] l) : VRs (fun _ => none) [.i k n] l := by
 cases h with
 | cons _ _ _ _ q1 q2 =>
  cases q1
  cases q2
  exact .cons _ _ _ _ (.i _ _) .nil
theorem cDw (G : Gd) : fV Tryz.prog G 55 bJx :=
 bUi (fun G => aTn 912 G 55) cNj aXu bHa (by rw [show (cO 26855).toNat = 27878 from by kernel_rfl]; decide) Tryz.f55 Tryz.func55 (by kernel_rfl) cDh cNn G
noncomputable def zR : RT := fun g => bif Nat.beq g 55 then bJx else fI CF1 912 g
theorem bTz : OkC CF1 zR := by
 refine ⟨aGw, fun G g => ?_⟩
 unfold zR
 cases hg : Nat.beq g 55 with
 | true => cases Nat.eq_of_beq_eq_true hg; exact cDw G
 | false => exact aTn 912 G g
theorem cJf (n : Nat) (g : FuncId) (args : List DV) (h : Hp) : aNp n g args h = bif Nat.beq g 55 then dAa args h else kS n g args h := rfl
theorem cPl (g : FuncId) (args : List DV) : SimP false (aNp 900 g args) (zR g args) := by
 intro h h' S
 rw [cJf]
 unfold zR
 cases hg : Nat.beq g 55 with
 | false =>
  rw [cond_false, cond_false, wL]
  exact aPy 900 g args h h' S
 | true => exact bSk args h h' S
section nest
variable {r2 r1 : RT}
structure Two (N : Nat) (r2 r1 : RT) : Prop where
 ok : OkC CF1 r1
 sim : ∀ g args, SimP false (r2 g args) (r1 g args)
 own : ∀ (g : FuncId) (F : List DV → Hp → aG), CF1.I g = none → CF.I g = some F → ∀ args, r1 g args = fI CF1 (N + 12) g args
theorem Two.call {N : Nat} (T : Two N r2 r1) (g : FuncId) (args : List DV) : SimP false (cA CF r2 g args) (cA CF1 r1 g args) := by
 cases hg : CF.I g with
 | none => rw [aCk hg, aCk (bTn hg)]; exact T.sim g args
 | some F =>
  have e : cA CF r2 g args = F args := by funext k; unfold cA; rw [hg]
  rw [e]
  cases h1 : CF1.I g with
  | some F1 =>
   have e1 : cA CF1 r1 g args = cA CF1 (fI CF1 (N + 12)) g args := by funext k; unfold cA; rw [h1]
   rw [e1]
   exact aXx g F hg N args
  | none =>
   have e1 : cA CF1 r1 g args = cA CF1 (fI CF1 (N + 12)) g args := by funext k; unfold cA; rw [h1]; exact congrFun (T.own g F h1 hg args) k
   rw [e1]
   exact aXx g F hg N args
noncomputable def tG (f : FuncId) (r2 : RT) : RT := fun g args h => bif Nat.beq g f then aF CF r2 900 f args h else r2 g args h
noncomputable def aBv (f : FuncId) (r1 : RT) : RT := fun g => bif Nat.beq g f then aF CF1 r1 912 f else r1 g
theorem Two.nest {N : Nat} (T : Two N r2 r1) (f : FuncId) (hf : CF.I f = none) : Two N (tG f r2) (aBv f r1) where
 ok := by
  refine ⟨T.ok.own, fun G g => ?_⟩
  unfold aBv
  cases hg : Nat.beq g f with
  | true => cases Nat.eq_of_beq_eq_true hg; exact qM T.ok Try_ok 912 f
  | false => exact T.ok.fns G g
 sim g args := by
  intro h h' S
  unfold tG aBv
  cases hg : Nat.beq g f with
  | true => exact mT (P := Tryz.prog) (I2 := CF.I) (I1 := CF1.I) (fun g args => T.call g args) 900 12 f args h h' S
  | false => exact T.sim g args h h' S
 own g F h1 h2 args := by
  unfold aBv
  cases hg : Nat.beq g f with
  | true => cases Nat.eq_of_beq_eq_true hg; rw [hf] at h2; cases h2
  | false => exact T.own g F h1 h2 args
end nest
theorem twoN : Two 900 (aNp 900) zR where
 ok := bTz
 sim := cPl
 own g F h1 h2 args := by
  unfold zR
  cases h10 : Nat.beq g 55 with
  | true =>
   cases Nat.eq_of_beq_eq_true h10
   exact absurd h2 (by show ¬ CF.I 55 = some F; exact fun e => by cases e)
  | false => rfl
noncomputable def aNi : RT := tG 22 (tG 36 (aNp 900))
noncomputable def cUy : RT := aBv 22 (aBv 36 zR)
theorem dUh : CF.I 36 = none := by kernel_rfl
theorem dNq : CF.I 22 = none := by kernel_rfl
theorem twoA : Two 900 aNi cUy := (twoN.nest 36 dUh).nest 22 dNq
theorem cTg : aIn = tG 36 (aNp 900) := by
 funext g args h
 unfold aIn tG
 cases hg : Nat.beq g 36 with
 | true => rw [cond_true, cond_true, cVh]
 | false => rw [cond_false, cond_false]
theorem cFg : aOi = aNi := by
 funext g args h
 unfold aOi aNi
 rw [cTg]
 generalize tG 36 (aNp 900) = r
 unfold tG
 cases hg : Nat.beq g 22 with
 | true => rw [cond_true, cond_true, cXa]
 | false => rw [cond_false, cond_false]
noncomputable def pLv : Pos := dHg 24 998
theorem bQr : ∃ g, aF CF1 cUy 912 11 [] ⟨pLv, .e⟩ = some (.b true, g) := by
 have hl : okB (s11 aOi 900 ⟨pLv, .e⟩) = true := dKg
 cases hr : s11 aOi 900 ⟨pLv, .e⟩ with
 | none => rw [hr] at hl; cases hl
 | some p =>
  rw [hr] at hl
  obtain ⟨v, k⟩ := p
  cases v <;> (try (cases hl; done))
  rename_i b
  change b = true at hl
  subst hl
  have e : s11 aNi 900 ⟨pLv, .e⟩ = some (.b true, k) := by rw [← cFg]; exact hr
  obtain ⟨g, h1, _⟩ := mT (P := Tryz.prog) (I2 := CF.I) (I1 := CF1.I) twoA.call 900 12 11 [] ⟨pLv, .e⟩ ⟨pLv, .e⟩ ⟨rfl, fun b o hb => by cases b <;> cases hb⟩ _ _ ((cXv aNi 900 [] ⟨pLv, .e⟩).trans e)
  exact ⟨g, h1⟩
noncomputable def aMd : RT := fun g => bif Nat.beq g 11 then (fun args h => match args with
 | [] => some (.b true, h)
 | _ => none) else fI CF1 20000012 g
theorem aOh : OkC CF1 aMd := by
 refine ⟨aGw, fun G g => ?_⟩
 unfold aMd
 cases hg : Nat.beq g 11 with
 | true =>
  cases Nat.eq_of_beq_eq_true hg
  obtain ⟨k, hk⟩ := bQr
  exact bHk (fun G => qM twoA.ok Try_ok 912 11) hk Tryz.f11 Tryz.func11 (by kernel_rfl) G
 | false => exact aTn 20000012 G g
theorem twoX : Two 20000000 nR aMd where
 ok := aOh
 sim g args := by
  intro h h' S
  unfold nR aMd
  cases hg : Nat.beq g 11 with
  | true =>
   rw [cond_true, cond_true]
   cases args with
   | nil => exact SimR.some S _
   | cons a l => exact SimR.none _
  | false =>
   rw [cond_false, cond_false, wL]
   exact aPy 20000000 g args h h' S
 own g F h1 h2 args := by
  unfold aMd
  cases hg : Nat.beq g 11 with
  | true =>
   cases Nat.eq_of_beq_eq_true hg
   exact absurd h2 (by show ¬ CF.I 11 = some F; exact fun e => by cases e)
  | false => rfl
structure Ro (w : World) (ρ : Ren) (h : Hp) : Prop where
 dom : ∀ b o, h.bl.get b = some o → ∃ L, ρ b = some L
 lt : ∀ b L, ρ b = some L → b.toNat < h.next.toNat
 row : ∀ b o, h.bl.get b = some o → ∃ l, o = .row .ro l
 cell : ∀ b l L i v, h.bl.get b = some (.row .ro l) → ρ b = some L → l[i]? = some v → ∃ v', w.cell? (dZ L i) = some v' ∧ VR ρ v v'
 sp : ∀ b o L, h.bl.get b = some o → ρ b = some L → L.sp = 0
theorem Ro.isRo {w : World} {ρ : Ren} {h : Hp} (R : Ro w ρ h) {b : Pos} {a : Addr} (c : Claims ρ h b a) : isRo h b := by
 obtain ⟨k, l, L, h1, h2, _⟩ := c
 obtain ⟨l', e⟩ := R.row b _ h1
 exact ⟨l', by rw [h1, e]⟩
theorem Ro.hr {w : World} {ρ : Ren} {h : Hp} (R : Ro w ρ h) (W : Facts w) : HR (gdS w W 0) ρ h w where
 gl := fun _ _ => rfl
 sz := ⟨Nat.le_refl _, fun _ hh => hh.elim⟩
 nx := Nat.zero_le _
 ro := fun b a c _ => by
  obtain ⟨k, l, L, h1, h2, h3⟩ := c
  obtain ⟨l', e⟩ := R.row b _ h1
  cases e
  rcases h3 with ⟨i, v, h4, h5, rfl⟩ | ⟨es, j, h4, _⟩
  ·obtain ⟨v', h6, _⟩ := R.cell b _ L i v h1 h2 h4
   exact dW h6
  ·cases h4
 dom := R.dom
 lt := R.lt
 cell := fun b k l L i v h1 h2 h3 h4 => by
  obtain ⟨l', e⟩ := R.row b _ h1
  cases e
  exact R.cell b _ L i v h1 h2 h3
 spare := fun b l L es j h1 => by
  obtain ⟨l', e⟩ := R.row b _ h1
  cases e
 free := fun b a c hn => absurd (R.isRo c) hn
 inj := fun b b' a c c' hn => absurd (R.isRo c) hn
 ex := fun b l L h1 h2 => by
  rcases h1 with h1 | h1
  ·exact R.sp b _ L h1 h2
  ·exact R.sp b _ L h1 h2
 grone := fun b es l i v h1 => by
  obtain ⟨l', e⟩ := R.row b _ h1
  cases e
 itr := fun b o L hs h1 _ => by
  obtain ⟨l', rfl⟩ := R.row b _ h1
  cases hs
 itj := fun b o b' o' L L' hs hs' h1 _ _ _ _ => by
  obtain ⟨l', rfl⟩ := R.row b _ h1
  cases hs
theorem Ro.none (w : World) (p : Pos) : Ro w (fun _ => none) ⟨p, .e⟩ where
 dom := fun b o h => by cases b <;> cases h
 lt := fun b L h => by cases h
 row := fun b o h => by cases b <;> cases h
 cell := fun b l L i v h => by cases b <;> cases h
 sp := fun b o L h => by cases b <;> cases h
theorem Ro.sim {w : World} {ρ : Ren} {h : Hp} (R : Ro w ρ h) : Sim false h h := ⟨rfl, fun b o e => by
 obtain ⟨l, rfl⟩ := R.row b o e
 exact ⟨_, e, rfl⟩⟩
theorem dGk {f : FuncId} {args : List DV} {h0 : Hp} {ρ : Ren} (hr : ∃ k, aF CF nR 20000000 f args h0 = some (.b true, k)) (fn : Func) (hf : Tryz.prog.funcs[f]? = some fn) (hb : fn.body.isSome = true)
  (w : World) (W : Facts w) (R : Ro w ρ h0) (args' : Array Value) (hargs : VRs ρ args args'.toList) :
  Calls Tryz.prog f args' w fun e w' => e = .returned (.bool true) ∧ Below w.heap.size w w' := by
 obtain ⟨k, hk⟩ := hr
 obtain ⟨g, h1, _⟩ := mT (P := Tryz.prog) (I2 := CF.I) (I1 := CF1.I) twoX.call 20000000 12 f args h0 h0 R.sim _ _ hk
 have H := R.hr W
 rcases qM aOh Try_ok 20000012 f args h0 _ g h1 _ w args' H hargs with ⟨_, h⟩ | ⟨ρ', w', v', h, _⟩
 ·refine h.mono ?_
  rintro e w' ⟨ρ', v', rfl, h2, h3, h4, h5⟩
  cases h3
  exact ⟨rfl, h5.low⟩
 ·exfalso
  have hn : ¬ fn.name = "runtime.NumGoroutine" := by simpa using Try_ok.names f fn hf
  have hbn : fn.body ≠ none := by intro e; rw [e] at hb; cases hb
  unfold callFunc at h
  simp [show CF1.P.funcs[f]? = some fn from hf, hn, hbn] at h
theorem dJz {f : FuncId} {args : List DV} (hr : ∃ k, aF CF nR 20000000 f args hS = some (.b true, k)) (fn : Func) (hf : Tryz.prog.funcs[f]? = some fn) (hb : fn.body.isSome = true)
  (w : World) (W : Facts w) (args' : Array Value) (hargs : VRs (fun _ => none) args args'.toList) :
  Calls Tryz.prog f args' w fun e w' => e = .returned (.bool true) ∧ Below w.heap.size w w' := dGk hr fn hf hb w W (Ro.none w _) args' hargs
end Go.Dd

namespace Go.Dd
open Go.Proofs Go.RowKit
abbrev dSa : List (String × DataW Unit) := YtjfmbeinhhdapaaGreatDoor.Rows.linesShowsRow.laid
theorem cAi : (YtjfmbeinhhdapaaGreatDoor.Rows.laid_internal_strconv_uint64pow10 : DataW Unit) = Lib.tabData .u64 Lib.pow10Tab := by kernel_rfl
theorem bZg {H : Type} {enc : TypeId × Value → H} {P : Program} {w : World} {base : Nat} {sp : Nat → Bool} {held : Bool} {fuel : Nat} {t : TypeId} {ms : Array (String × TypeId)} {cs : List Value} {name : String} {d : DataW H} {p : List MemPlace}
  (ht : P.underlying t = some (.interface ms)) (h : DataW.trod enc P w base sp held fuel t cs = some (.iface name d, p)) : ∃ u v, cs = [.iface u v] := by
 cases fuel with
 | zero => simp [DataW.trod] at h
 | succ n =>
  unfold DataW.trod at h
  rw [ht] at h
  split at h <;> simp_all
theorem bQk {W : World} {n name : String} {d : DataW Unit} {g : Nat} {t : TypeId} {ms : Array (String × TypeId)} (e1 : Tryz.prog.globalNamed n = some g) (e2 : (Tryz.prog.globals[g]?).map (·.type) = some t) (e3 : Tryz.prog.underlying t = some (.interface ms))
  (h : Lib.VarReads Tryz.prog W n (.iface name d)) : cEl W g := by
 obtain ⟨g', t', cs, fuel, p, hg, ht, hv, hd⟩ := h
 obtain rfl := Option.some.inj (e1.symm.trans hg)
 obtain rfl := Option.some.inj (e2.symm.trans ht)
 obtain ⟨u, v, he⟩ := bZg e3 hd
 unfold World.var? at hv
 rw [e1] at hv
 simp only [Option.bind_some] at hv
 split at hv
 ·rename_i cs' t' z' hh
  obtain rfl := Option.some.inj hv
  refine ⟨.iface u v, ?_, .inr ⟨u, v, rfl⟩⟩
  have e5 : cs' = #[Value.iface u v] := Array.ext' he
  subst e5
  simp [World.cell?, hh]
 ·cases hv
theorem dDo {W : World} (h : Lib.VarReads Tryz.prog W "internal/strconv.uint64pow10" YtjfmbeinhhdapaaGreatDoor.Rows.laid_internal_strconv_uint64pow10) : ∃ t z, W.heap[1]? = some (.cells (Lib.pow10Tab.map fun z => Value.int .u64 z).toArray t z) := by
 obtain ⟨g, t, cs, fuel, p, hg, ht, hv, hd⟩ := h
 have e1 : Tryz.prog.globalNamed "internal/strconv.uint64pow10" = some 1 := by kernel_rfl
 obtain rfl := Option.some.inj (e1.symm.trans hg)
 have e2 : (Tryz.prog.globals[1]?).map (·.type) = some 242 := by kernel_rfl
 obtain rfl := Option.some.inj (e2.symm.trans ht)
 rw [cAi] at hd
 have hc := Lib.cells_of_tab Tryz.underlying242 Tryz.underlying170 (by kernel_rfl) (by kernel_rfl) hd
 unfold World.var? at hv
 rw [e1] at hv
 simp only [Option.bind_some] at hv
 split at hv
 ·rename_i cs' t' z' hh
  obtain rfl := Option.some.inj hv
  refine ⟨t', z', ?_⟩
  rw [hh]
  congr 2
  rw [← hc]
 ·cases hv
theorem bQv {L : List (String × DataW Unit)} {W : World} (hL : laidMet Tryz.prog L W) (hs : W.ShapedOpen Tryz.prog)
  (h1 : ("internal/strconv.uint64pow10", YtjfmbeinhhdapaaGreatDoor.Rows.laid_internal_strconv_uint64pow10) ∈ L) (h2 : ("strconv.ErrSyntax", YtjfmbeinhhdapaaGreatDoor.Rows.laid_strconv_ErrSyntax) ∈ L) (h3 : ("strconv.ErrRange", YtjfmbeinhhdapaaGreatDoor.Rows.laid_strconv_ErrRange) ∈ L) : Facts W :=
 ⟨⟨Tryz.laysM143.s1_3 W hs, dDo (Lib.laidMet.reads hL h1)⟩, bQk (by kernel_rfl) (by kernel_rfl) Tryz.underlying71 (Lib.laidMet.reads hL h2), bQk (by kernel_rfl) (by kernel_rfl) Tryz.underlying71 (Lib.laidMet.reads hL h3)⟩
theorem cKj {W : World} (hL : laidMet Tryz.prog dSa W) (hs : W.ShapedOpen Tryz.prog) : Facts W :=
 bQv hL hs (.head _) (.tail _ (.tail _ (.tail _ (.tail _ (.tail _ (.head _)))))) (.tail _ (.tail _ (.tail _ (.tail _ (.tail _ (.tail _ (.head _)))))))
theorem aLk {H : Type} {enc : TypeId × Value → H} {a : Assume} {C : Checked} {os : Os} {f : FuncId} {fn : Func} {s : ChangeSpec} {conds : List PathCond} {apart fresh handsOn again : Bool} {X : World → Array Value → Prop}
  (hX : ∀ (w w' : World) (args : Array Value), w.heap = w'.heap → X w args → X w' args)
  (own : ownKnob C.prog.godebug = none) (started : os.Started) (noInit : C.prog.inits.idxOf? f = none) (hfn : C.prog.funcs[f]? = some fn)
  (witness : ∃ (w : World) (tape : Tape) (i : Input), w.os = os ∧ (w.forCall tape i).Shaped C.prog ∧ i.vars = [] ∧ Input.okWide C.prog (w.forCall tape i) .any w.heap.size f i ∧
   ((s.pre enc C.prog fn conds apart (w.forCall tape i).memory i.args ∧ X (w.forCall tape i).memory i.args) ∧ sizedMet enc C.prog fn (OpenSpec.ofChange s) apart (w.forCall tape i).memory i.args) ∧ a.holds C.prog (lone (Frame.enter C.prog f i.args .normal) [] (w.forCall tape i)))
  (contract : ∀ (W : World) (base : Nat) (args : Array Value) (ds gs : List (DataW H)) (before : List MemPlace),
   (∀ (j : Nat) t v, fn.params[j]? = some t → args[j]? = some v → Value.okWide C.prog W .any base t v) →
   DataW.Whole enc C.prog fn.params.toList s.vars apart W args.toList ds gs before →
   X W args → W.ShapedOpen C.prog →
   Calls C.prog f args W fun e W' => ∃ v, e = .returned v ∧ s.post enc C.prog fn apart fresh handsOn again W args v W') :
  ReturnsInHanded a C os f .any (fun w args => (s.pre enc C.prog fn conds apart w args ∧ X w args) ∧ sizedMet enc C.prog fn (OpenSpec.ofChange s) apart w args) (s.post enc C.prog fn apart fresh handsOn again) := by
 refine returnsInHanded_of_calls own started noInit witness ?_
 intro w tape i _ hsh _ hok hpre hholds
 obtain ⟨_, _, _, fn', hfn', _, _, _, _, hval⟩ := hok
 have e : fn' = fn := Option.some.inj (hfn'.symm.trans hfn)
 subst e
 obtain ⟨⟨⟨ds, gs, before, hw, hc⟩, hx⟩, hz⟩ := hpre
 have hw' := DataW.Whole.of_heap (w' := w.forCall tape i) (by rfl) hw
 refine (contract (w.forCall tape i) w.heap.size i.args ds gs before hval hw' (hX _ _ _ (by rfl) hx) hsh).mono fun e W' ⟨v, he, hp⟩ => ?_
 subst he
 exact ChangeSpec.post_blind hp
theorem own : ownKnob Tryz.prog.godebug = none := by kernel_rfl
theorem bRp {P : Program} {W : World} {base : Nat} {t : TypeId} {v : Value} {fs : Array Field} (ht : P.underlying t = some (.struct fs)) (h : Value.okWide P W .any base t v) : ∃ cs, v = .agg cs := by
 unfold Value.okWide at h
 rw [ht] at h
 obtain ⟨cs, e, _⟩ := h
 exact ⟨cs, e⟩
end Go.Dd

namespace Go.Dd
open Go.Proofs
section
variable {n : Nat} {s : Bs} {x5 : DV} {p2 p4 : Pos} {h : Hp}
theorem bGp (r : aG) : cnd true r = r := rfl
theorem dQx (a b : Nat) (h : Hp) : aD .lss (.i .i64 (Int.ofNat a)) (.i .i64 (Int.ofNat b)) h = some (.b (decide (a < b)), h) := by
 rw [dV]
 by_cases q : a < b
 ·rw [decide_eq_true (show Int.ofNat a < Int.ofNat b from by show (a : Int) < (b : Int); omega), decide_eq_true q]
 ·rw [decide_eq_false (show ¬ Int.ofNat a < Int.ofNat b from by show ¬ (a : Int) < (b : Int); omega), decide_eq_false q]
theorem eAj (a b : Nat) : (Int.ofNat a == Int.ofNat b) = decide (a = b) := by
 by_cases q : a = b
 ·subst q; simp
 ·rw [decide_eq_false q]
  exact beq_eq_false_iff_ne.2 (fun e => q (Int.ofNat.inj e))
end
end Go.Dd

namespace Go.Dd
open Go.Proofs
section
variable {n : Nat}
end
end Go.Dd

namespace Go.Dd
open Go.Proofs
theorem aWf {a b : Nat} (h : a ≤ b) : Nat.ble a b = true := Nat.ble_eq_true_of_le h
section
variable {n : Nat} {r : Bs} {h : Hp}
end
end Go.Dd

namespace Go.Dd
open Go.Proofs
section
variable {n : Nat} {s : Bs} {h : Hp}
end
end Go.Dd

namespace Go.Dd
open Go.Proofs
theorem dQw {s : Bs} {b : Nat} (hb : b ≤ s.length) (h : Hp) : cP (.s s) none (some (.i .i64 (Int.ofNat b))) h = some (.s (s.take b), h) := by
 have h1 : hiD (some (.i .i64 (Int.ofNat b))) s.length s.length = some b := by
  simp only [hiD, fS]
  rw [if_pos (by show (0 : Int) ≤ (b : Int) ∧ (b : Int) ≤ (s.length : Int); omega)]
  rfl
 have h2 : loD none b = some 0 := rfl
 simp only [cP, h1, h2, List.drop_zero]
theorem cUr {s : Bs} {i x : Nat} (hx : s[i]? = some x) (h : Hp) : cP (.s s) (some (.i .i64 (Int.ofNat i))) (some (.i .i64 (Int.ofNat (i + 1)))) h = some (.s [x], h) := by
 have hlt : i < s.length := by
  rcases Nat.lt_or_ge i s.length with h | h
  ·exact h
  ·rw [List.getElem?_eq_none h] at hx; cases hx
 rw [eAf (by omega) (by omega)]
 congr 2
 rw [List.take_add_one, hx, List.drop_append_of_le_length (by rw [List.length_take]; omega), List.drop_of_length_le (by rw [List.length_take]; omega)]
 rfl
end Go.Dd

namespace Go.Dd
open Go.Proofs
theorem bTa {b : Pos} {k : Kind} {l : Bs} {h : Hp} {N : Nat} (hN : N = l.length) (hl : ∀ c ∈ l, c < 256) (hg : h.bl.get b = some (.row k (l.map bD))) : dI (.l b 0 N N) h = some (.s l, h) := by
 have hc : cellsAt b 0 N h = some (l.map bD) := by
  unfold cellsAt rowOf
  simp only [hg, List.drop_zero]
  have := mW (l.map bD) (aWi _)
  rw [List.length_map, ← hN] at this
  exact this
 simp only [dI, hc, sI hl]
section
variable {h : Hp}
end
end Go.Dd

