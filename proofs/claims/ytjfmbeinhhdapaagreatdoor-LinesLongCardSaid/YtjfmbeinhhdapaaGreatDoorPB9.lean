/- A part of the proof: DG RN ON OF GZ LB LC OQ LS OX R12 RX W6 XW LD LE LF LI LJ LK: each text has a comment of its own. -/
import Derived.Test.YtjfmbeinhhdapaaGreatDoorPB8
import Derived.Tactics
import Derived.Tactics2
import Derived.Defers
import Derived.Laws.Pointers
import Derived.Laws.LoneSync
import Derived.RegionTactic
import Derived.RegionCalls
import Derived.ChangeAlike
import Derived.Laws.NewBlocks
import Derived.Lib.Bytealg
import Derived.Test.YtjfmbeinhhdapaaGreatDoorRows
import Derived.Test.YtjfmbeinhhdapaaGreatDoorCards
import Derived.WalkKit
import Derived.ProofKit
import Derived.OpenShut
import Derived.Carry
import Derived.Lib.LaidU8
import Derived.Lay
import Derived.LaidOnce
import Derived.SevenTiedAt
import Derived.ChangeMaps5
import Derived.Test.YtjfmbeinhhdapaaGreatDoorPBtT
set_option linter.unusedVariables false
set_option linter.unusedSimpArgs false
set_option linter.constructorNameAsVariable false
set_option maxRecDepth 100000
namespace Go.Dd
open Go.Proofs
theorem fW (f n : Nat) (acc : List Nat) : iC (f + 1) n acc = if 10 ≤ n then iC f (n / 10) ((48 + n % 10) :: acc) else (48 + n) :: acc := by
 show (bif Nat.ble 10 n then iC f (Nat.div n 10) (Nat.add 48 (Nat.mod n 10) :: acc) else Nat.add 48 n :: acc) = _
 by_cases h : 10 ≤ n
 ·rw [Nat.ble_eq_true_of_le h, if_pos h]
  rfl
 ·rw [if_neg h]
  cases e : Nat.ble 10 n with
  | true => exact absurd (Nat.le_of_ble_eq_true e) h
  | false => rfl
theorem aCo : ∀ (f n : Nat) (acc : List Nat), n < 10 ^ (f + 1) → iC (f + 1) n acc = iC (f + 2) n acc
 | 0, n, acc, h => by
  rw [fW, fW, if_neg (by omega), if_neg (by omega)]
 | f + 1, n, acc, h => by
  rw [fW, fW (f + 2)]
  by_cases hn : 10 ≤ n
  ·rw [if_pos hn, if_pos hn]
   exact aCo f _ _ (by rw [Nat.pow_succ] at h; omega)
  ·rw [if_neg hn, if_neg hn]
theorem zD : ∀ (f n : Nat) (acc : List Nat), iC f n acc = iC f n [] ++ acc ∨ f = 0
 | 0, n, acc => .inr rfl
 | f + 1, n, acc => by
  left
  rw [fW, fW f n []]
  by_cases hn : 10 ≤ n
  ·rw [if_pos hn, if_pos hn]
   rcases zD f (n / 10) ((48 + n % 10) :: acc) with h1 | h1
   ·rcases zD f (n / 10) [48 + n % 10] with h2 | h2
    ·rw [h1, h2]; simp
    ·subst h2; simp [iC]
   ·subst h1; simp [iC]
  ·rw [if_neg hn, if_neg hn]; rfl
def dg (n : Nat) : List Nat := iC 20 n []
theorem lV {n : Nat} (h : n < 10) : dg n = [48 + n] := by
 unfold dg
 rw [fW, if_neg (by omega)]
theorem aEk {n : Nat} (h : 10 ≤ n) (h2 : n < 10 ^ 20) : dg n = dg (n / 10) ++ [48 + n % 10] := by
 unfold dg
 rw [fW, if_pos h]
 rcases zD 19 (n / 10) [48 + n % 10] with h1 | h1
 ·rw [h1]
  congr 1
  exact aCo 18 _ _ (by omega)
 ·omega
theorem rX : ∀ (f n : Nat) (acc : List Nat), (iC f n acc).length ≤ f + acc.length
 | 0, n, acc => by simp [iC]
 | f + 1, n, acc => by
  rw [fW]
  split
  ·have := rX f (n / 10) ((48 + n % 10) :: acc)
   simp at this
   omega
  ·simp; omega
theorem bOu (n : Nat) : (dg n).length ≤ 20 := by
 have := rX 20 n []
 simpa [dg] using this
theorem lU (n : Int) : (cE n).length ≤ 21 := by
 cases n with
 | ofNat n => have := rX 20 n []; simp [cE] at this ⊢; omega
 | negSucc n => have := rX 20 (n + 1) []; simp [cE] at this ⊢; omega
theorem aGb (a : Nat) : ∀ (s : Bs) (x : Nat), mF a (s ++ [x]) = 10 * mF a s + (x - 48)
 | [], x => rfl
 | y :: s, x => by
  show mF (10 * a + (y - 48)) (s ++ [x]) = _
  rw [aGb _ s x]
  rfl
theorem dig_iff {x : Nat} : nN x = true ↔ 48 ≤ x ∧ x ≤ 57 := by
 unfold nN
 simp
def bFw (s : Bs) : Prop := s ≠ [] ∧ (∀ x ∈ s, nN x = true) ∧ (s.length > 1 → s.head? ≠ some 48)
theorem cMb : ∀ {s : Bs}, bFw s → s.head? ≠ some 48 → 0 < mF 0 s := by
 intro s hc h0
 obtain ⟨h1, h2, h3⟩ := hc
 have mono : ∀ (s : Bs) (a : Nat), a ≤ mF a s := by
  intro s
  induction s with
  | nil => intro a; exact Nat.le_refl _
  | cons x s ih => intro a; exact Nat.le_trans (by omega) (ih (10 * a + (x - 48)))
 cases s with
 | nil => exact absurd rfl h1
 | cons x s =>
  have hx := dig_iff.1 (h2 x (by simp))
  have : x ≠ 48 := fun e => h0 (by rw [e]; rfl)
  have := mono s (10 * 0 + (x - 48))
  show 0 < mF (10 * 0 + (x - 48)) s
  omega
theorem bSs : ∀ (n : Nat) (s : Bs), s.length = n → n ≤ 9 → bFw s → dg (mF 0 s) = s ∧ mF 0 s < 10 ^ n
 | n, s, hn, h9, hc => by
  rcases List.eq_nil_or_concat s with rfl | ⟨t, x, rfl⟩
  ·exact absurd rfl hc.1
  ·simp only [List.concat_eq_append] at *
   rw [List.length_append] at hn
   simp only [List.length_cons, List.length_nil] at hn
   obtain ⟨n, rfl⟩ : ∃ j, n = j + 1 := ⟨n - 1, by omega⟩
   have hx := dig_iff.1 (hc.2.1 x (by simp))
   rw [aGb]
   by_cases ht : t = []
   ·subst ht
    have hn0 : n = 0 := by simp at hn; omega
    subst hn0
    show dg (10 * 0 + (x - 48)) = [x] ∧ 10 * 0 + (x - 48) < 10 ^ 1
    rw [lV (by omega)]
    refine ⟨?_, by omega⟩
    congr 1
    omega
   ·have hh : t.head? ≠ some 48 := by
     have := hc.2.2 (by
      cases t with
      | nil => exact absurd rfl ht
      | cons a b => simp)
     cases t with
     | nil => exact absurd rfl ht
     | cons a b => simpa using this
    have hct : bFw t := ⟨ht, fun y hy => hc.2.1 y (by simp [hy]), fun _ => hh⟩
    obtain ⟨e1, e2⟩ := bSs n t (by omega) (by omega) hct
    have hp := cMb hct hh
    have h20 : 10 ^ (n + 1) ≤ 10 ^ 9 := Nat.pow_le_pow_right (by omega) (by omega)
    rw [Nat.pow_succ] at h20 ⊢
    refine ⟨?_, by omega⟩
    rw [aEk (by omega) (by omega), show (10 * mF 0 t + (x - 48)) / 10 = mF 0 t by omega, e1, show (10 * mF 0 t + (x - 48)) % 10 = x - 48 by omega]
    congr 2
    omega
termination_by n => n
theorem bPk : ∀ (f n : Nat), n < 10 ^ f → n < 10 ^ 20 → bFw (dg n) ∧ mF 0 (dg n) = n ∧ (0 < n → (dg n).head? ≠ some 48)
 | 0, n, h, _ => by
  have : n = 0 := by simp at h; omega
  subst this
  rw [lV (by omega)]
  exact ⟨⟨by simp, fun x hx => by simp at hx; subst hx; rfl, by simp⟩, rfl, fun h => by omega⟩
 | f + 1, n, h, h20 => by
  by_cases h10 : n < 10
  ·rw [lV h10]
   refine ⟨⟨by simp, fun x hx => by simp at hx; subst hx; exact dig_iff.2 ⟨by omega, by omega⟩, by simp⟩, ?_, fun h0 => by simp; omega⟩
   show 10 * 0 + (48 + n - 48) = n
   omega
  ·rw [aEk (by omega) h20]
   obtain ⟨⟨c1, c2, c3⟩, e, hd⟩ := bPk f (n / 10) (by rw [Nat.pow_succ] at h; omega) (by omega)
   have hd' := hd (by omega)
   have hhead : (dg (n / 10) ++ [48 + n % 10]).head? ≠ some 48 := by
    cases hh : dg (n / 10) with
    | nil => exact absurd hh c1
    | cons a b => rw [hh] at hd'; simpa using hd'
   refine ⟨⟨by simp, fun x hx => ?_, fun _ => hhead⟩, ?_, fun _ => hhead⟩
   ·rw [List.mem_append] at hx
    rcases hx with hx | hx
    ·exact c2 x hx
    ·simp at hx; subst hx; exact dig_iff.2 ⟨by omega, by omega⟩
   ·rw [aGb, e]
    omega
theorem cJb {s : Bs} {k : Nat} (h : eO s = some k) : bFw s ∧ s.length ≤ 9 ∧ k = mF 0 s := by
 unfold eO at h
 split at h
 ·cases h
 ·rename_i c
  simp only [not_or] at c
  obtain ⟨c1, c2, c3, c4⟩ := c
  refine ⟨⟨fun e => by rw [e] at c1; simp at c1, fun x hx => ?_, fun hl e => c3 ⟨hl, e⟩⟩, by omega, by simpa using h.symm⟩
  have : s.all nN = true := by simpa using c4
  exact List.all_eq_true.1 this x hx
theorem bZj {s : Bs} (h : bFw s) (hl : s.length ≤ 9) : eO s = some (mF 0 s) := by
 unfold eO
 rw [if_neg]
 obtain ⟨c1, c2, c3⟩ := h
 rintro (q | q | q | q)
 ·exact c1 (by simpa using q)
 ·omega
 ·exact c3 q.1 q.2
 ·have : s.all nN = true := List.all_eq_true.2 c2
  rw [this] at q
  cases q
end Go.Dd

namespace Go.Dd
open Go.Proofs Go.Lib Go.RowKit
theorem aLq (s : List UInt8) : (s.map (·.toNat)).map UInt8.ofNat = s := by
 rw [List.map_map]
 conv => rhs; rw [← List.map_id s]
 apply List.map_congr_left
 intro x _
 simp
theorem cEl (G : Gd) : gF Tryz.prog G 124 pL := by
 intro args h v h1 hr ρ w args' H hargs
 unfold pL at hr
 split at hr <;> (try (cases hr; done))
 rename_i s
 cases hc : Nat.ble s.length 4000000000 with
 | false => rw [hc] at hr; cases hr
 | true =>
 rw [hc] at hr
 have hs' := Nat.le_of_ble_eq_true hc
 simp only [cond_true] at hr
 obtain ⟨a⟩ := args'
 cases hargs with
 | cons _ x' l1 l1' hx hxs =>
 cases hxs
 cases hx with
 | s _ bs hbs =>
 subst hbs
 have e1 : bs.size ≤ 4000000000 := by rw [List.length_map, Array.length_toList] at hs'; exact hs'
 rw [aLq] at hr
 obtain ⟨_, ⟨e6, h6, k6⟩, e7, h7, k7⟩ := G.ok w H.gl
 refine CallFn.of Tryz.f124 (by kernel_rfl) (by kernel_rfl) ?_
 match hat : Lib.atoiAll bs.data.toList with
 | .ok n =>
  rw [hat] at hr
  simp only [aT, bF] at hr
  obtain ⟨rfl, rfl⟩ := hr
  refine (Tryz.strconv_Atoi_ok bs (by omega) n hat w).mono ?_
  rintro e w' ⟨rfl, hw⟩
  have hbel : Below w.heap.size w w' := by
   rcases hw with rfl | ⟨t, rfl⟩
   ·exact Below.refl _ _
   ·exact ⟨rfl, rfl, rfl, by rw [Lib.bytesWorld_size]; omega, fun i hi => Lib.bytesWorld_at_old w _ t i hi⟩
  exact ⟨ρ, _, rfl, Ex.refl _ _, .t _ _ (.cons _ _ _ _ (.i _ _) (.cons _ _ _ _ .n0 .nil)), H.later hbel, Kp.later H hbel⟩
 | Lib.NumEnd.syntax =>
  rw [hat] at hr
  simp only [aT, bF] at hr
  obtain ⟨rfl, rfl⟩ := hr
  refine (Tryz.strconv_Atoi_syntax bs (by omega) hat e6 w h6 k6).mono ?_
  rintro e w' ⟨N, rfl, _, _, hbel⟩
  exact ⟨ρ, _, rfl, Ex.refl _ _, .t _ _ (.cons _ _ _ _ (.i _ _) (.cons _ _ _ _ (.c _ _ _ (.u _)) .nil)), H.later hbel, Kp.later H hbel⟩
 | .range =>
  rw [hat] at hr
  simp only [aT, bF] at hr
  obtain ⟨rfl, rfl⟩ := hr
  refine (Tryz.strconv_Atoi_range bs (by omega) hat e7 w h7 k7).mono ?_
  rintro e w' ⟨N, rfl, _, _, hbel⟩
  exact ⟨ρ, _, rfl, Ex.refl _ _, .t _ _ (.cons _ _ _ _ (.i _ _) (.cons _ _ _ _ (.c _ _ _ (.u _)) .nil)), H.later hbel, Kp.later H hbel⟩
theorem cBw (G : Gd) (g : FuncId) (F : List DV → Hp → aG) (h : CFn.I g = some F) : gF CFn.P G g F := by
 unfold CFn at h
 dsimp only at h
 cases h47 : Nat.beq g 124 with
 | true =>
  rw [h47] at h
  cases Nat.eq_of_beq_eq_true h47
  simp only [cond_true, aT] at h
  subst h
  exact cEl G
 | false =>
  rw [h47] at h
  cases h66 : Nat.beq g 24 with
  | true =>
   rw [h66] at h
   cases Nat.eq_of_beq_eq_true h66
   simp only [cond_false, cond_true, aT] at h
   subst h
   exact aUy G
  | false => rw [h66] at h; cases h
theorem aXx : ∀ (s : Bs) (a j : Nat), (∀ x ∈ s, nN x = true) → a < 10 ^ j → j + s.length ≤ 9 → Lib.parseUint10 a (s.map UInt8.ofNat) = .ok (mF a s)
 | [], a, j, _, _, _ => rfl
 | x :: s, a, j, hd, ha, hj => by
  have hx := dig_iff.1 (hd x (by simp))
  have e : (UInt8.ofNat x).toNat = x := by simp; omega
  have p : 10 ^ j ≤ 10 ^ 9 := Nat.pow_le_pow_right (by omega) (by simp at hj; omega)
  simp only [List.map_cons, Lib.parseUint10, e]
  rw [if_pos ⟨hx.1, hx.2⟩, if_neg (by omega), if_neg (by omega)]
  have := aXx s (a * 10 + (x - 48)) (j + 1) (fun y hy => hd y (by simp [hy])) (by rw [Nat.pow_succ]; omega) (by simp at hj; omega)
  rw [this, Nat.mul_comm a 10]
  rfl
theorem lX {s : Bs} {k : Nat} (h : eO s = some k) : Lib.atoiAll (s.map UInt8.ofNat) = .ok (k : Int) ∧ cE (k : Int) = s ∧ s.length ≤ 9 := by
 obtain ⟨hc, hl, rfl⟩ := cJb h
 obtain ⟨e1, e2⟩ := bSs s.length s rfl hl hc
 refine ⟨?_, e1, hl⟩
 have hu := aXx s 0 0 hc.2.1 (by simp) (by omega)
 cases s with
 | nil => exact absurd rfl hc.1
 | cons x s =>
  have hx := dig_iff.1 (hc.2.1 x (by simp))
  have e : (UInt8.ofNat x).toNat = x := by simp; omega
  have p : 10 ^ (x :: s).length ≤ 10 ^ 9 := Nat.pow_le_pow_right (by omega) hl
  simp only [List.map_cons, Lib.atoiAll, e] at hu ⊢
  rw [if_neg (show ¬ (x = 43 ∨ x = 45) by omega)]
  have pm : Lib.parseMag (UInt8.ofNat x :: s.map UInt8.ofNat) = .ok (mF 0 (x :: s)) := by
   unfold Lib.parseMag
   rw [if_neg (by simp)]
   exact hu
  rw [pm]
  simp only
  have n45 : ¬ x = 45 := by omega
  rw [if_neg (by omega), if_neg (by omega), if_neg n45]
theorem aUp (n : Nat) {s : Bs} (hs : s.length ≤ 4000000000) (h : Hp) : mZ CFn (n + 1) 74 [.s s] h = some (.t [.i .i64 (match eO s with
  | some k => Int.ofNat k
  | none => aBw s), .b (eO s).isSome], h) := by
 have e0 : mZ CFn (n + 1) 74 [.s s] h = s74 (mZ CFn n) n (.s s) h := dIi (mZ CFn n) n [.s s] h
 rw [e0]
 unfold s74
 have bl := Nat.ble_eq_true_of_le hs
 have bndS' : ∀ (v : DV) (h : Hp) (k : DV → Hp → aG), bnd (some (v, h)) k = k v h := fun _ _ _ => rfl
 have x0 : ∀ (a b : DV) (h : Hp), aC 0 (.t [a, b]) h = some (a, h) := fun _ _ _ => rfl
 have x1 : ∀ (a b : DV) (h : Hp), aC 1 (.t [a, b]) h = some (b, h) := fun _ _ _ => rfl
 have gt : ∀ (r : aG) (h : Hp), gD (.b true) true r h = r := fun _ _ => rfl
 have gf : ∀ (r : aG) (h : Hp), gD (.b false) true r h = some (aR, h) := fun _ _ => rfl
 have pt : ∀ (x y : DV) (h : Hp), aP (.b true) x y h = some (x, h) := fun _ _ _ => rfl
 have pf : ∀ (x y : DV) (h : Hp), aP (.b false) x y h = some (y, h) := fun _ _ _ => rfl
 match hat : Lib.atoiAll (s.map UInt8.ofNat) with
 | Lib.NumEnd.syntax =>
  have hno : eO s = none := by
   cases hk : eO s with
   | none => rfl
   | some k => rw [(lX hk).1] at hat; cases hat
  have hv : aBw s = 0 := by unfold aBw; rw [hat]
  have ha : pL [.s s] h = some (.t [.i .i64 0, .c 343 .u], h) := by simp only [pL, bl, cond_true, hat]
  have en : ∀ h, aJg .eql true (.c 343 .u) .n0 h = some (.b false, h) := fun _ => rfl
  simp only [ha, bndS', x0, x1, en, gf, pf, hno, hv, Option.isSome_none]
 | .range =>
  have hno : eO s = none := by
   cases hk : eO s with
   | none => rfl
   | some k => rw [(lX hk).1] at hat; cases hat
  have hv : aBw s = Lib.atoiSat (s.map UInt8.ofNat) := by unfold aBw; rw [hat]
  have ha : pL [.s s] h = some (.t [.i .i64 (Lib.atoiSat (s.map UInt8.ofNat)), .c 343 .u], h) := by simp only [pL, bl, cond_true, hat]
  have en : ∀ h, aJg .eql true (.c 343 .u) .n0 h = some (.b false, h) := fun _ => rfl
  simp only [ha, bndS', x0, x1, en, gf, pf, hno, hv, Option.isSome_none]
 | .ok v =>
  have hv : aBw s = v := by unfold aBw; rw [hat]
  have ha : pL [.s s] h = some (.t [.i .i64 v, .n0], h) := by simp only [pL, bl, cond_true, hat]
  have en : ∀ h, aJg .eql true .n0 .n0 h = some (.b true, h) := fun _ => rfl
  have ln : ∀ h, cO (.s s) h = some (.i .i64 (Int.ofNat s.length), h) := fun _ => rfl
  have le : ∀ (a b : Int) h, aD .leq (.i .i64 a) (.i .i64 b) h = some (.b (decide (a ≤ b)), h) := fun a b h => by simp only [aD, if_true, eV]
  have ge : ∀ (a b : Int) h, aD .geq (.i .i64 a) (.i .i64 b) h = some (.b (decide (a ≥ b)), h) := fun a b h => by simp only [aD, if_true, eV]
  have val : (match eO s with
   | some k => Int.ofNat k
   | none => aBw s) = v := by
   cases hk : eO s with
   | none => exact hv
   | some k =>
    have := (lX hk).1
    rw [hat] at this
    cases this
    rfl
  rw [val]
  simp only [ha, bndS', x0, x1, en, gt, ln, le, pt]
  by_cases c1 : s.length ≤ 9
  case neg =>
   have d1 : decide (Int.ofNat s.length ≤ Int.ofNat 9) = false := decide_eq_false (by show ¬ (s.length : Int) ≤ ((9 : Nat) : Int); omega)
   have hno : (eO s).isSome = false := by
    cases hk : eO s with
    | none => rfl
    | some k => exact absurd (lX hk).2.2 c1
   simp only [d1, gf, bndS', pf, hno]
  have d1 : decide (Int.ofNat s.length ≤ Int.ofNat 9) = true := decide_eq_true (by show (s.length : Int) ≤ ((9 : Nat) : Int); omega)
  have rng : -9223372036854775808 ≤ v ∧ v ≤ 9223372036854775807 := by
   have key : ∀ (l : List UInt8) (v : Int), Lib.atoiAll l = .ok v → -9223372036854775808 ≤ v ∧ v ≤ 9223372036854775807 := by
    intro l v h
    cases l with
    | nil => cases h
    | cons c r =>
     simp only [Lib.atoiAll] at h
     split at h <;> (try (cases h; done))
     split at h <;> (try (cases h; done))
     split at h <;> (try (cases h; done))
     rename_i u _ q1 q2
     cases h
     split <;> (rename_i q3; simp [q3] at q1 q2; omega)
   exact key _ _ hat
  have it : ∀ h, kR [.i .i64 v] h = some (.s (cE v), h) := fun h => by simp [kR, rng.1, rng.2]
  have eqs : ∀ h, cM .eql (.s (cE v)) (.s s) h = some (.b (tD (cE v) s), h) := fun _ => rfl
  simp only [d1, gt, bndS', it, eqs, pt]
  have eqd : ∀ a b : List Nat, tD a b = true ↔ a = b := by
   intro a
   induction a with
   | nil => intro b; cases b <;> simp [tD]
   | cons x a ih => intro b; cases b with
    | nil => simp [tD]
    | cons y b =>
     simp only [tD, Bool.and_eq_true, ih, List.cons.injEq]
     constructor
     ·rintro ⟨p, q⟩; exact ⟨Nat.eq_of_beq_eq_true p, q⟩
     ·rintro ⟨rfl, q⟩; exact ⟨Nat.beq_refl _, q⟩
  cases c2 : tD (cE v) s with
  | false =>
   have hno : (eO s).isSome = false := by
    cases hk : eO s with
    | none => rfl
    | some k =>
     obtain ⟨q1, q2, q3⟩ := lX hk
     rw [hat] at q1
     cases q1
     rw [(eqd _ _).2 q2] at c2
     cases c2
   simp only [gf, bndS', pf, hno]
  | true =>
   have hs2 := (eqd _ _).1 c2
   simp only [gt, bndS', ge, pt]
   congr 4
   cases v with
   | ofNat n =>
    have d2 : decide (Int.ofNat n ≥ Int.ofNat 0) = true := decide_eq_true (by show ((0 : Nat) : Int) ≤ (n : Int); omega)
    rw [d2]
    have hn20 : n < 10 ^ 20 := by have := rng.2; simp at this; omega
    have hcan := bPk 20 n hn20 hn20
    have hdg : dg n = s := hs2
    rw [hdg] at hcan
    rw [bZj hcan.1 c1]
    rfl
   | negSucc n =>
    have d2 : decide (Int.negSucc n ≥ Int.ofNat 0) = false := rfl
    rw [d2]
    cases hk : eO s with
    | none => rfl
    | some k =>
     obtain ⟨q1, _, _⟩ := lX hk
     rw [hat] at q1
     cases q1
theorem bFf (G : Gd) : gF CF1.P G 74 gK := by
 intro args h v h1 hr
 refine aGy (C := CFn) Try_ok cBw 60 G 74 args h v h1 ?_
 unfold gK at hr
 split at hr <;> (try (cases hr; done))
 rename_i s
 cases hc : Nat.ble s.length 4000000000 with
 | false => rw [hc] at hr; cases hr
 | true =>
 rw [hc] at hr
 have hs' := Nat.le_of_ble_eq_true hc
 simp only [cond_true] at hr
 rw [aUp 59 hs']
 cases hk : eO s with
 | none => rw [hk] at hr; exact hr
 | some k => rw [hk] at hr; exact hr
end Go.Dd

namespace Go.Proofs.Onc
theorem disable (w : World) : (callFunc 320 #[]).run Tryz.prog w = .ok (.value (.tuple #[])) w := run_call_mark0 Tryz.func320 (by kernel_rfl) (by kernel_rfl) (by kernel_rfl) .disable (by kernel_rfl) w
theorem enable (w : World) : (callFunc 322 #[]).run Tryz.prog w = .ok (.value (.tuple #[])) w := run_call_mark0 Tryz.func322 (by kernel_rfl) (by kernel_rfl) (by kernel_rfl) .enable (by kernel_rfl) w
theorem acquire (a : Addr) (w : World) : (callFunc 323 #[.pointer (some a)]).run Tryz.prog w = .ok (.value (.tuple #[])) w := run_call_marked Tryz.func323 (by kernel_rfl) (by kernel_rfl) (by kernel_rfl) .acquire (by kernel_rfl) a w
theorem releaseMerge (a : Addr) (w : World) : (callFunc 325 #[.pointer (some a)]).run Tryz.prog w = .ok (.value (.tuple #[])) w := run_call_marked Tryz.func325 (by kernel_rfl) (by kernel_rfl) (by kernel_rfl) .releaseMerge (by kernel_rfl) a w
set_option maxRecDepth 100000 in
set_option maxHeartbeats 1600000 in
theorem store_deferred (a : Addr) (x : Value) (u : FrameMode) (w : World) (hc : w.cell? a = some x) (hz : w.frozen? a = false) :
   CallsD Tryz.prog 189 #[.pointer (some a), .bool true] u w fun e u' w' => u' = u ∧ (e = .returned (.tuple #[]) ∧ w' = w.drew.setCell a (.int .u32 1)) := by
 have hc' : w.drew.cell? a = some x := by go_simp
 have hz' : w.drew.frozen? a = false := by go_simp
 have hst := run_call_store (P := Tryz.prog) Tryz.func265 (by kernel_rfl) (by kernel_rfl) (by kernel_rfl) (by kernel_rfl) (k := .u32) (y := 1) hc' hz'
 go_enter_d Tryz.func189, Tryz.ntmps189
 go_wp2
 go_region_calls
 all_goals (go_end0; exact ⟨rfl, rfl⟩)
set_option maxRecDepth 100000 in
set_option maxHeartbeats 1600000 in
theorem unlock_deferred (a : Addr) (u : FrameMode) (w : World) (hc : w.cell? a = some (.int .i32 1)) (hz : w.frozen? a = false) :
   CallsD Tryz.prog 188 #[.pointer (some a)] u w fun e u' w' => u' = u ∧ (e = .returned (.tuple #[]) ∧ w' = w.setCell a (.int .i32 0)) := by
 have hd := disable
 have he := enable
 have hr := releaseMerge
 have hadd := run_call_add (P := Tryz.prog) Tryz.func326 (by kernel_rfl) (by kernel_rfl) (by kernel_rfl) .i32 (by kernel_rfl) (y := -1) (s := 0) hc hz (by simp [go_sem]; rfl)
 have hcv := run_convert_to_unsafe (P := Tryz.prog) (src := 394) (dst := 166) Tryz.underlying394 Tryz.underlying166 (by kernel_rfl) hc
 go_enter_d Tryz.func188, Tryz.ntmps188
 go_wp2
 go_end0
 go_wp2
 go_end0
 exact ⟨rfl, rfl⟩
set_option maxRecDepth 100000 in
set_option maxHeartbeats 1600000 in
theorem lock_free (a : Addr) (w : World) (hc : w.cell? a = some (.int .i32 0)) (hz : w.frozen? a = false) :
   Calls Tryz.prog 187 #[.pointer (some a)] w fun e w' => e = .returned (.tuple #[]) ∧ w' = w.setCell a (.int .i32 1) := by
 have hd := disable
 have he := enable
 have ha := acquire
 have hcas := run_call_cas_hit (P := Tryz.prog) Tryz.func321 (by kernel_rfl) (by kernel_rfl) (by kernel_rfl) .i32 (by kernel_rfl) (y := 1) hc hz
 have hc' : (w.setCell a (.int .i32 1)).cell? a = some (.int .i32 1) := World.cell?_setCell_same w a _ hc
 have hcv := run_convert_to_unsafe (P := Tryz.prog) (src := 394) (dst := 166) Tryz.underlying394 Tryz.underlying166 (by kernel_rfl) hc'
 go_enter Tryz.func187, Tryz.ntmps187
 go_wp2
 first | go_end0 | (simp only [Exit.inBlock, Exit.then]; refine bodyPost_ret (results_none rfl _ _ _) rfl ?_) | refine bodyPost_ret (results_none rfl _ _ _) rfl ?_
 go_wp2
 go_end0
 exact ⟨rfl, rfl⟩
structure Held (b off : Nat) (w : World) : Prop where
 done : ∃ x, w.cell? ⟨b, off, none⟩ = some x
 lock : w.cell? ⟨b, off + 1, none⟩ = some (.int .i32 1)
 f0 : w.frozen? ⟨b, off, none⟩ = false
 f1 : w.frozen? ⟨b, off + 1, none⟩ = false
set_option maxRecDepth 100000 in
set_option maxHeartbeats 1600000 in
theorem slow_any (b off : Nat) (pv : Value) (w : World) (R : World → Prop)
   (h0 : w.cell? ⟨b, off, none⟩ = some (.int .u32 0)) (h1 : w.cell? ⟨b, off + 1, none⟩ = some (.int .i32 0)) (f1 : w.frozen? ⟨b, off + 1, none⟩ = false)
   (hcall : Calls Tryz.prog 67 #[pv] (w.setCell ⟨b, off + 1, none⟩ (.int .i32 1)) fun e w' => e = .returned (.tuple #[]) ∧ R w' ∧ Held b off w') :
   Calls Tryz.prog 117 #[.pointer (some ⟨b, off, none⟩), .func (.func 67) #[pv] #[]] w fun e w' => e = .returned (.tuple #[]) ∧
     ∃ w2, R w2 ∧ w' = (w2.drew.setCell ⟨b, off, none⟩ (.int .u32 1)).setCell ⟨b, off + 1, none⟩ (.int .i32 0) := by
 have hl := run_call_load (P := Tryz.prog) Tryz.func186 (by kernel_rfl) (by kernel_rfl) (by kernel_rfl) .u32 (by kernel_rfl) (w := w.setCell ⟨b, off + 1, none⟩ (.int .i32 1)) (a := ⟨b, off, none⟩) (x := 0) ((World.cell?_setCell_other _ ⟨b, off + 1, none⟩ ⟨b, off, none⟩ _ (by simp)).trans h0)
 have hnot : ∀ (x : Bool) (w : World), (Op.unary .not (.bool x)).run Tryz.prog w = .ok (.bool (!x)) w := fun _ _ => rfl
 go_enter_defers Tryz.func117, Tryz.ntmps117
 go_wp2_with (first | (go_at_call 187; refine (lock_free ⟨b, off + 1, none⟩ _ (by go_simp) (by go_simp)).mono ?_; rintro e w' ⟨rfl, rfl⟩) | (go_at_call 116; go_in) | (go_at_call 67; refine hcall.mono ?_; rintro e w2 ⟨rfl, hR, hH⟩))
 refine leaves_cons (f := 189) (args := #[.pointer (some ⟨b, off, none⟩), .bool true]) (by simp) (by simp [go_sem]) ?_
 obtain ⟨x, hx⟩ := hH.done
 refine (store_deferred ⟨b, off, none⟩ x .returning _ hx hH.f0).mono ?_
 rintro e u' w'' ⟨rfl, rfl, rfl⟩
 refine leaves_cons (f := 188) (args := #[.pointer (some ⟨b, off + 1, none⟩)]) (by simp [settle]) (by simp [go_sem]) ?_
 refine (unlock_deferred ⟨b, off + 1, none⟩ _ _ ?_ ?_).mono ?_
 · refine (World.cell?_setCell_other _ ⟨b, off, none⟩ ⟨b, off + 1, none⟩ _ (by simp)).trans ?_
   rw [World.cell?_drew]
   exact hH.lock
 · simp [hH.f1]
 rintro e u' w'' ⟨rfl, rfl, rfl⟩
 simp [Leaves, settle, results, Tryz.results117]
 exact ⟨w2, hR, rfl⟩
set_option maxRecDepth 100000 in
set_option maxHeartbeats 1600000 in
theorem do_first (b off : Nat) (pv : Value) (w : World) (R : World → Prop)
   (h0 : w.cell? ⟨b, off, none⟩ = some (.int .u32 0)) (h1 : w.cell? ⟨b, off + 1, none⟩ = some (.int .i32 0)) (f1 : w.frozen? ⟨b, off + 1, none⟩ = false)
   (hcall : Calls Tryz.prog 67 #[pv] (w.setCell ⟨b, off + 1, none⟩ (.int .i32 1)) fun e w' => e = .returned (.tuple #[]) ∧ R w' ∧ Held b off w') :
   Calls Tryz.prog 66 #[.pointer (some ⟨b, off, none⟩), .func (.func 67) #[pv] #[]] w fun e w' => e = .returned (.tuple #[]) ∧
     ∃ w2, R w2 ∧ w' = (w2.drew.setCell ⟨b, off, none⟩ (.int .u32 1)).setCell ⟨b, off + 1, none⟩ (.int .i32 0) := by
 have hl := run_call_load (P := Tryz.prog) Tryz.func186 (by kernel_rfl) (by kernel_rfl) (by kernel_rfl) .u32 (by kernel_rfl) h0
 have hnot : ∀ (x : Bool) (w : World), (Op.unary .not (.bool x)).run Tryz.prog w = .ok (.bool (!x)) w := fun _ _ => rfl
 go_enter Tryz.func66, Tryz.ntmps66
 go_wp2_with (first | (go_at_call 116; go_in) | (go_at_call 117; refine (slow_any b off pv _ R h0 h1 f1 hcall).mono ?_; rintro e w' ⟨rfl, w2, hR, rfl⟩))
 go_end0
 exact ⟨rfl, w2, hR, rfl⟩
end Go.Proofs.Onc

namespace Go.Dd
open Go.Proofs
theorem uE {G : Gd} {ρ : Ren} {h : Hp} {w : World} (H : HR G ρ h w) {b : Pos} {o : Nat} {v : DV} {h0 : Hp} {L : Loc} (hL : ρ b = some L) (e : aA (.p b o) h = some (v, h0)) :
  h0 = h ∧ v.one = true ∧ (∃ k l, h.bl.get b = some (.row k l) ∧ l[o]? = some v) ∧ ∃ v', w.cell? (eF L o) = some v' ∧ VR ρ v v' := by
 unfold aA at e
 simp only at e
 split at e <;> (try (cases e; done))
 rename_i u hc
 simp only [aT, bF] at e
 obtain ⟨rfl, rfl⟩ := e
 unfold cellD rowOf at hc
 split at hc <;> (try (cases hc; done))
 rename_i l hl
 split at hl <;> (try (cases hl; done))
 rename_i k l0 hb
 cases hl
 split at hc <;> (try (cases hc; done))
 rename_i u0 hi
 split at hc <;> (try (cases hc; done))
 rename_i ho
 cases hc
 exact ⟨rfl, ho, ⟨k, l, hb, hi⟩, H.cell b k l L o _ hb hL hi ho⟩
theorem iO {P : Program} {G : Gd} {ρ : Ren} {h h1 : Hp} {w : World} (H : HR G ρ h w) {b : Pos} {o : Nat} {x v : DV} {x' : Value} {L : Loc} (hL : ρ b = some L) (hx : VR ρ x x') (hc : dD x = some [x]) (ho : x.one = true)
  (e : aH 1 (.p b o) x h = some (v, h1)) :
  (∃ y, w.cell? (eF L o) = some y) ∧ w.frozen? (eF L o) = false ∧ HR G ρ h1 (w.setCell (eF L o) x') ∧ Kp G w (w.setCell (eF L o) x') := by
 unfold aH at e
 simp only [hc] at e
 split at e <;> (try (cases e; done))
 split at e <;> (try (cases e; done))
 rename_i h' hs
 simp only [aT, bF] at e
 obtain ⟨_, rfl⟩ := e
 have hs0 := hs
 unfold cP at hs0
 split at hs0 <;> (try (cases hs0; done))
 rename_i k l hb
 split at hs0 <;> (try (cases hs0; done))
 rename_i hk
 split at hs0 <;> (try (cases hs0; done))
 rename_i l' hp
 obtain ⟨p1, p2, p3, p4, p5⟩ := kJ o l [x] l' hp
 obtain ⟨_, x0, q1, q2⟩ := p4 0 x rfl
 rw [Nat.add_zero] at q1
 have hcl : Claims ρ h b (eF L o) := ⟨k, l, L, hb, hL, .inl ⟨o, x0, q1, q2, rfl⟩⟩
 have hro : ¬ isRo h b := by
  rintro ⟨l0, h0⟩
  rw [hb] at h0
  cases h0
  cases hk
 obtain ⟨y, hy⟩ := H.lt_cell hcl
 have hf := (H.free b _ hcl hro).1
 have hone : aQg x' = true := (VRs.cons _ _ _ _ hx VRs.nil : VRs ρ [x] [x']).mem_one (fun v hv => by simp at hv; subst hv; exact ho) x' (by simp)
 obtain ⟨w', s1, s2, s3⟩ := fS (P := P) H hs hL (.cons _ _ _ _ hx .nil)
 have : w' = w.setCell (eF L o) x' := by
  have hr := pN (P := P) hy hf hone
  have e0 : (eF L o).add 0 = eF L o := by rw [fX]; rfl
  simp only [storeCells, Sem.run_bind, e0, hr, Result.andThen_ok, Sem.run_pure] at s1
  cases s1
  rfl
 subst this
 exact ⟨⟨y, hy⟩, hf, s2, s3⟩
theorem aPx {k : IntKind} {n : Int} {v : DV} (h : isI k n v = true) : v = .i k n := by
 unfold isI at h
 split at h
 ·simp only [Bool.and_eq_true, decide_eq_true_eq] at h
  obtain ⟨rfl, rfl⟩ := h
  rfl
 ·cases h
theorem cDp (G : Gd) : gF Tryz.prog G 66 aDf := by
 intro args h v h1 hr ρ w args' H hargs
 unfold aDf at hr
 split at hr <;> (try (cases hr; done))
 rename_i r x
 obtain ⟨d, g0, a1, hr⟩ := cY hr
 obtain ⟨m, g1, a2, hr⟩ := cY hr
 obtain ⟨a3, hr⟩ := lW hr
 obtain ⟨_, h2, a4, hr⟩ := cY hr
 obtain ⟨u, h3, a5, hr⟩ := cY hr
 obtain ⟨m3, g3, a6, hr⟩ := cY hr
 obtain ⟨a7, hr⟩ := lW hr
 split at hr <;> (try (cases hr; done))
 obtain ⟨_, h4, a8, hr⟩ := cY hr
 obtain ⟨_, h5, a9, hr⟩ := cY hr
 simp only [aT, bF] at hr
 obtain ⟨rfl, rfl⟩ := hr
 rw [Bool.and_eq_true] at a3
 have e1 := aPx a3.1
 have e2 := aPx a3.2
 have e3 := aPx a7
 subst e1 e2 e3
 obtain ⟨a⟩ := args'
 cases hargs with
 | cons _ x1 l1 l1' hx1 hxs =>
 cases hxs with
 | cons _ x2 l2 l2' hx2 hxs2 =>
 cases hxs2
 cases hx1 with
 | p _ _ L hL =>
 cases hx2 with
 | f _ _ _ fx fy hfx hfy =>
 obtain ⟨fx⟩ := fx
 obtain ⟨fy⟩ := fy
 cases hfy
 cases hfx with
 | cons _ x' l3 l3' hx hxs3 =>
 cases hxs3
 obtain ⟨rfl, _, _, d', b1, b2⟩ := uE H hL a1
 obtain ⟨rfl, _, _, m', b3, b4⟩ := uE H hL a2
 cases b2
 cases b4
 have e0 : eF L 0 = ⟨L.bl, L.of, none⟩ := by
  unfold eF at *
  simp only [if_true] at b1 ⊢
  cases hs : L.spot with
  | none => rfl
  | some s =>
   rw [hs] at b1
   unfold World.cell? at b1
   split at b1 <;> simp at b1
 have e1 : eF L 1 = ⟨L.bl, L.of + 1, none⟩ := by simp [eF]
 rw [e0] at b1
 rw [e1] at b3
 obtain ⟨_, c1, H2, K2⟩ := iO (P := Tryz.prog) H hL (.i .i32 1) rfl rfl a4
 rw [e1] at c1 H2 K2
 refine .inl ⟨?_, ?_⟩
 ·have hn : ¬ Tryz.f66.name = "runtime.NumGoroutine" := by simpa using Try_ok.names 66 Tryz.f66 Tryz.func66
  have hbn : Tryz.f66.body ≠ none := by intro e; have : Tryz.f66.body.isSome = true := by kernel_rfl
                                        rw [e] at this; cases this
  unfold callFunc
  simp [show Tryz.prog.funcs[66]? = some Tryz.f66 from Tryz.func66, hn, hbn]
 have hcall : Calls Tryz.prog 67 #[x'] (w.setCell ⟨L.bl, L.of + 1, none⟩ (.int .i32 1)) fun e w' => e = .returned (.tuple #[]) ∧ (∃ ρ', Ex G ρ ρ' ∧ HR G ρ' h3 w' ∧ Kp G (w.setCell ⟨L.bl, L.of + 1, none⟩ (.int .i32 1)) w') ∧ Onc.Held L.bl L.of w' := by
  rcases KC0.fns G 67 [x] h2 _ h3 a5 ρ _ #[x'] H2 (.cons _ _ _ _ hx .nil) with ⟨_, hc⟩ | ⟨ρ', w', v', hc, _⟩
  ·refine hc.mono ?_
   rintro e w' ⟨ρ', v', rfl, h6, h7, h8, h9⟩
   have e6 : v' = .tuple #[] := by
    cases h7 with
    | t _ y hy =>
     obtain ⟨y⟩ := y
     cases hy
     rfl
   subst e6
   have hL' : ρ' r = some L := h6.ext _ _ hL
   obtain ⟨_, _, _, m'', b5, b6⟩ := uE h8 hL' a6
   cases b6
   obtain ⟨b7, b8, _, _⟩ := iO (P := Tryz.prog) h8 hL' (.i .u32 1) rfl rfl a8
   rw [e1] at b5
   rw [e0] at b7 b8
   refine ⟨rfl, ⟨ρ', h6, h8, h9⟩, ⟨b7, b5, b8, ?_⟩⟩
   obtain ⟨_, _, h10, _⟩ := iO (P := Tryz.prog) h8 hL' (.i .u32 1) rfl rfl a8
   have := (iO (P := Tryz.prog) h10 hL' (.i .i32 0) rfl rfl a9).2.1
   rw [e0, e1] at this
   simpa using this
  ·exfalso
   have hn : ¬ Tryz.f67.name = "runtime.NumGoroutine" := by simpa using Try_ok.names 67 Tryz.f67 Tryz.func67
   have hbn : Tryz.f67.body ≠ none := by intro e; have : Tryz.f67.body.isSome = true := by kernel_rfl
                                         rw [e] at this; cases this
   unfold callFunc at hc
   simp [show CF0.P.funcs[67]? = some Tryz.f67 from Tryz.func67, hn, hbn] at hc
 have goal := Onc.do_first L.bl L.of x' w _ b1 b3 c1 hcall
 rw [e0]
 refine goal.mono ?_
 rintro e w' ⟨rfl, w2, ⟨ρ', h6, h8, h9⟩, rfl⟩
 have hL' : ρ' r = some L := h6.ext _ _ hL
 obtain ⟨_, _, h10, h11⟩ := iO (P := Tryz.prog) h8.drew hL' (.i .u32 1) rfl rfl a8
 obtain ⟨_, _, h12, h13⟩ := iO (P := Tryz.prog) h10 hL' (.i .i32 0) rfl rfl a9
 rw [e0] at h10 h11 h12 h13
 rw [e1] at h12 h13
 exact ⟨ρ', _, rfl, h6, .t [] #[] .nil, h12, K2.trans (h9.drew.trans (h11.trans h13))⟩
end Go.Dd

namespace Go.Dd
open Go.Proofs
structure Lo (lo : Nat) (h h' : Hp) : Prop where
 next : h.next.toNat ≤ h'.next.toNat
 get : ∀ p : Pos, p.toNat < lo → h'.bl.get p = h.bl.get p
theorem Lo.refl (lo : Nat) (h : Hp) : Lo lo h h := ⟨Nat.le_refl _, fun _ _ => rfl⟩
theorem Lo.trans {lo : Nat} {a b c : Hp} (u : Lo lo a b) (v : Lo lo b c) : Lo lo a c := ⟨Nat.le_trans u.next v.next, fun p h => (v.get p h).trans (u.get p h)⟩
theorem yW : ∀ l : List DV, (∀ v ∈ l, v.one = true) → kN l.length l = some l := kP
def GrS (x : DV) (l : List DV) (lo : Nat) (h : Hp) : Prop := (x = .l0 ∧ l = []) ∨ ∃ b, x = .l b 0 l.length l.length ∧ h.bl.get b = some (.row (.gr 1) l) ∧ lo ≤ b.toNat ∧ b.toNat < h.next.toNat
theorem GrS.app {x : DV} {l : List DV} {lo : Nat} {h : Hp} (S : GrS x l lo h) (hlo : lo ≤ h.next.toNat) (hl : ∀ v ∈ l, v.one = true) {z v : DV} (hz : dD v = some [v]) (hv : v.one = true) {bytes : Nat} (hb : (l.length + 1) * bytes ≤ mE) :
  ∃ y g, aN [z] 1 [(0, 1, v)] h = some (y, g) ∧ ∃ x' h', bK 1 bytes x y g = some (x', h') ∧ GrS x' (l ++ [v]) lo h' ∧ Lo lo h h' := by
 refine ⟨.l h.next 0 1 1, ⟨h.next.succ, Tr.set (.row .ex [v]) h.next h.bl⟩, ?_, ?_⟩
 ·simp [aN, jQ, hz]
 ·have src : kW 1 (.l h.next 0 1 1) ⟨h.next.succ, Tr.set (.row .ex [v]) h.next h.bl⟩ = some (1, [v]) := by
   have : cellsAt h.next 0 (1 * 1) ⟨h.next.succ, Tr.set (.row .ex [v]) h.next h.bl⟩ = some [v] := by
    simp [cellsAt, rowOf, dQg, kN, hv]
   simp only [kW, this]
  have ns := dQh h.next
  have ns2 := dQh h.next.succ
  rcases S with ⟨rfl, rfl⟩ | ⟨b, rfl, hbg, h1, h2⟩
  ·refine ⟨.l h.next.succ 0 1 1, ⟨h.next.succ.succ, Tr.set (.row (.gr 1) [v]) h.next.succ (Tr.set (.row .ex [v]) h.next h.bl)⟩, ?_, ?_, ?_⟩
   ·unfold bK
    rw [src]
    dsimp only
    rw [if_neg (by simp), if_pos (by simpa using hb)]
   ·exact .inr ⟨h.next.succ, rfl, dQg _ _ _, by omega, by show _ < h.next.succ.succ.toNat; omega⟩
   ·refine ⟨by show _ ≤ h.next.succ.succ.toNat; omega, fun p hp => ?_⟩
    show (Tr.set _ h.next.succ (Tr.set _ h.next h.bl)).get p = _
    rw [dQf _ _ _ _ (fun e => by subst e; omega), dQf _ _ _ _ (fun e => by subst e; omega)]
  ·have hne : b ≠ h.next := fun e => by subst e; omega
   have hget : (Tr.set (.row .ex [v]) h.next h.bl).get b = some (.row (.gr 1) l) := by rw [dQf _ _ _ _ hne]; exact hbg
   have hcells : cellsAt b 0 (l.length * 1) ⟨h.next.succ, Tr.set (.row .ex [v]) h.next h.bl⟩ = some l := by
    simp only [cellsAt, rowOf, hget, List.drop_zero, Nat.mul_one]
    exact yW l hl
   refine ⟨.l h.next.succ 0 (l.length + 1) (l.length + 1), ⟨h.next.succ.succ, Tr.set (.row (.gr 1) (l ++ [v])) h.next.succ (Tr.set (.row .sp (bS 0 l)) b (Tr.set (.row .ex [v]) h.next h.bl))⟩, ?_, ?_, ?_⟩
   ·unfold bK
    rw [src]
    dsimp only
    rw [if_neg (by omega), hget, hcells]
    dsimp only
    rw [if_pos hb, if_pos (by simp)]
   ·exact .inr ⟨h.next.succ, by simp, dQg _ _ _, by omega, by show _ < h.next.succ.succ.toNat; omega⟩
   ·refine ⟨by show _ ≤ h.next.succ.succ.toNat; omega, fun p hp => ?_⟩
    show (Tr.set _ h.next.succ (Tr.set _ b (Tr.set _ h.next h.bl))).get p = _
    rw [dQf _ _ _ _ (fun e => by subst e; omega), dQf _ _ _ _ (fun e => by subst e; omega), dQf _ _ _ _ (fun e => by subst e; omega)]
def GrZ (sz : Nat) (x : DV) (n : Nat) (cells : List DV) (lo : Nat) (h : Hp) : Prop :=
 cells.length = n * sz ∧ (∀ v ∈ cells, v.one = true) ∧ ((x = .l0 ∧ n = 0) ∨ ∃ b, x = .l b 0 n n ∧ h.bl.get b = some (.row (.gr sz) cells) ∧ lo ≤ b.toNat ∧ b.toNat < h.next.toNat)
theorem GrZ.nil (sz lo : Nat) (h : Hp) : GrZ sz .l0 0 [] lo h := ⟨by simp, by simp, .inl ⟨rfl, rfl⟩⟩
theorem GrZ.appV {sz n lo : Nat} {x : DV} {cells : List DV} {h : Hp} (S : GrZ sz x n cells lo h) (hlo : lo ≤ h.next.toNat) {zeros c : List DV} {cv : DV} (hsz : 0 < sz) (fd : jQ zeros [(0, sz, cv)] = some c) (hc : c.length = sz) (ho : ∀ v ∈ c, v.one = true) {bytes : Nat} (hb : (n + 1) * bytes ≤ mE) :
  ∃ y g, aN zeros 1 [(0, sz, cv)] h = some (y, g) ∧ ∃ x' h', bK sz bytes x y g = some (x', h') ∧ GrZ sz x' (n + 1) (cells ++ c) lo h' ∧ Lo lo h h' ∧
   (∀ p : Pos, p.toNat < h.next.toNat → (∀ m, x ≠ .l p 0 m m) → h'.bl.get p = h.bl.get p) ∧ ∀ p m, x' = .l p 0 m m → h.next.toNat ≤ p.toNat := by
 obtain ⟨s1, s2, S⟩ := S
 have l' : (cells ++ c).length = (n + 1) * sz := by rw [List.length_append, s1, hc, Nat.add_mul, Nat.one_mul]
 have o' : ∀ v ∈ cells ++ c, v.one = true := fun v hv => by
  rcases List.mem_append.1 hv with hv | hv
  ·exact s2 v hv
  ·exact ho v hv
 refine ⟨.l h.next 0 1 1, ⟨h.next.succ, Tr.set (.row .ex c) h.next h.bl⟩, ?_, ?_⟩
 ·simp only [aN, fd]
 ·have src : kW sz (.l h.next 0 1 1) ⟨h.next.succ, Tr.set (.row .ex c) h.next h.bl⟩ = some (1, c) := by
   have : cellsAt h.next 0 (1 * sz) ⟨h.next.succ, Tr.set (.row .ex c) h.next h.bl⟩ = some c := by
    simp only [cellsAt, rowOf, dQg, List.drop_zero, Nat.one_mul]
    rw [← hc]
    exact yW c ho
   simp only [kW, this]
  have ns := dQh h.next
  have ns2 := dQh h.next.succ
  rcases S with ⟨rfl, rfl⟩ | ⟨b, rfl, hbg, h1, h2⟩
  ·have hn : cells = [] := by simpa using s1
   subst hn
   refine ⟨.l h.next.succ 0 1 1, ⟨h.next.succ.succ, Tr.set (.row (.gr sz) c) h.next.succ (Tr.set (.row .ex c) h.next h.bl)⟩, ?_, ⟨l', o', ?_⟩, ?_, fun p hp _ => ?_, fun p m e => by cases e; omega⟩
   ·unfold bK
    rw [src]
    dsimp only
    rw [if_neg (by simp), if_pos (by simpa using hb)]
   ·exact .inr ⟨h.next.succ, rfl, dQg _ _ _, by omega, by show _ < h.next.succ.succ.toNat; omega⟩
   ·refine ⟨by show _ ≤ h.next.succ.succ.toNat; omega, fun p hp => ?_⟩
    show (Tr.set _ h.next.succ (Tr.set _ h.next h.bl)).get p = _
    rw [dQf _ _ _ _ (fun e => by subst e; omega), dQf _ _ _ _ (fun e => by subst e; omega)]
   ·show (Tr.set _ h.next.succ (Tr.set _ h.next h.bl)).get p = _
    rw [dQf _ _ _ _ (fun e => by subst e; omega), dQf _ _ _ _ (fun e => by subst e; omega)]
  ·have hne : b ≠ h.next := fun e => by subst e; omega
   have hget : (Tr.set (.row .ex c) h.next h.bl).get b = some (.row (.gr sz) cells) := by rw [dQf _ _ _ _ hne]; exact hbg
   have hcells : cellsAt b 0 (n * sz) ⟨h.next.succ, Tr.set (.row .ex c) h.next h.bl⟩ = some cells := by
    simp only [cellsAt, rowOf, hget, List.drop_zero]
    rw [← s1]
    exact yW cells s2
   refine ⟨.l h.next.succ 0 (n + 1) (n + 1), ⟨h.next.succ.succ, Tr.set (.row (.gr sz) (cells ++ c)) h.next.succ (Tr.set (.row .sp (bS 0 cells)) b (Tr.set (.row .ex c) h.next h.bl))⟩, ?_, ⟨l', o', ?_⟩, ?_, fun p hp hx => ?_, fun p m e => by cases e; omega⟩
   ·unfold bK
    rw [src]
    dsimp only
    rw [if_neg (by omega), hget, hcells]
    dsimp only
    rw [if_pos hb, if_pos ⟨rfl, by rw [s1, Nat.zero_add]⟩]
   ·exact .inr ⟨h.next.succ, rfl, dQg _ _ _, by omega, by show _ < h.next.succ.succ.toNat; omega⟩
   ·refine ⟨by show _ ≤ h.next.succ.succ.toNat; omega, fun p hp => ?_⟩
    show (Tr.set _ h.next.succ (Tr.set _ b (Tr.set _ h.next h.bl))).get p = _
    rw [dQf _ _ _ _ (fun e => by subst e; omega), dQf _ _ _ _ (fun e => by subst e; omega), dQf _ _ _ _ (fun e => by subst e; omega)]
   ·show (Tr.set _ h.next.succ (Tr.set _ b (Tr.set _ h.next h.bl))).get p = _
    rw [dQf _ _ _ _ (fun e => by subst e; omega), dQf _ _ _ _ (fun e => by subst e; exact hx n rfl), dQf _ _ _ _ (fun e => by subst e; omega)]
end Go.Dd

namespace Go.Dd
open Go.Proofs
theorem aDn {c : Nat} : ∀ {a : Bs}, c ∉ a → bM c a = [a]
 | [], _ => rfl
 | x :: a, h => by
  have hx : x ≠ c := fun e => h (by simp [e])
  rw [bM, if_neg hx, aDn (fun e => h (by simp [e]))]
theorem fA (s : List Nat) (h : Hp) : cO (.s s) h = some (.i .i64 (Int.ofNat s.length), h) := rfl
theorem nE {s : List Nat} {i c : Nat} (hi : s[i]? = some c) (h : Hp) : bY (.s s) (.i .i64 (Int.ofNat i)) h = some (.i .u8 (Int.ofNat c), h) := by
 show (if (0 : Int) ≤ Int.ofNat i then (match s[(Int.ofNat i).toNat]? with
  | some c => some (DV.i .u8 (c : Int), h)
  | none => none) else none) = _
 rw [if_pos (show (0 : Int) ≤ Int.ofNat i from Int.natCast_nonneg i), show (Int.ofNat i).toNat = i from rfl, hi]
 rfl
theorem cTn {s : List Nat} {a b : Nat} (hab : a ≤ b) (hb : b ≤ s.length) (h : Hp) : cN (.s s) (some (.i .i64 (Int.ofNat a))) (some (.i .i64 (Int.ofNat b))) h = some (.s ((s.take b).drop a), h) := by
 have h1 : hiD (some (.i .i64 (Int.ofNat b))) s.length s.length = some b := by
  simp only [hiD, fM]
  rw [if_pos (by show (0 : Int) ≤ (b : Int) ∧ (b : Int) ≤ (s.length : Int); omega)]
  rfl
 have h2 : loD (some (.i .i64 (Int.ofNat a))) b = some a := by
  simp only [loD, fM]
  rw [if_pos (by show (0 : Int) ≤ (a : Int) ∧ (a : Int) ≤ (b : Int); omega)]
  rfl
 simp only [cN, h1, h2]
section
variable {rec : RT} {n : Nat} {s : List Nat} {c : Nat}
theorem aTf (hs : s.length < 1000000000) (lo : Nat) : ∀ (k i frm m : Nat) (out : List Bs) (x5 : DV) (h : Hp), i + k = s.length → frm ≤ i → k + 1 < m → c ∉ (s.take i).drop frm → out.length ≤ i → GrS x5 (out.map DV.s) lo h → lo ≤ h.next.toNat →
  ∃ x' h', mW rec n m (.s s) (.i .u8 (Int.ofNat c)) x5 (.i .i64 (Int.ofNat frm)) (.i .i64 (Int.ofNat i)) h = some (x', h') ∧ GrS x' ((out ++ bM c ((s.take i).drop frm ++ s.drop i)).map DV.s) lo h' ∧ Lo lo h h' := by
 have add1 : ∀ (j : Nat) (h : Hp), j ≤ s.length → aD .add (.i .i64 (Int.ofNat j)) (.i .i64 (Int.ofNat 1)) h = some (.i .i64 (Int.ofNat (j + 1)), h) := fun j h hj => bH j 1 h (by omega)
 intro k
 induction k with
 | zero =>
  intro i frm m out x5 h hi hf hm hc ho G hlo
  obtain ⟨m, rfl⟩ : ∃ j, m = j + 1 + 1 := ⟨m - 2, by omega⟩
  have hil : i = s.length := by omega
  subst hil
  have le1 : decide (Int.ofNat s.length ≤ Int.ofNat s.length) = true := decide_eq_true (Int.le_refl _)
  have le2 : decide (Int.ofNat (s.length + 1) ≤ Int.ofNat s.length) = false := decide_eq_false (by show ¬ ((s.length + 1 : Nat) : Int) ≤ (s.length : Int); omega)
  have eq1 : (Int.ofNat s.length == Int.ofNat s.length) = true := by simp
  obtain ⟨y, g, b1, x', h', b2, G', L'⟩ := GrS.app G hlo (fun v hv => by simp only [List.mem_map] at hv; obtain ⟨a, _, rfl⟩ := hv; rfl) (z := .s []) (v := .s ((s.take s.length).drop frm)) rfl rfl (bytes := 16) (by rw [List.length_map]; unfold mE; omega)
  refine ⟨x', h', ?_, ?_, L'⟩
  ·show lL rec n (mW rec n (m + 1)) _ _ _ _ _ h = _
   unfold lL
   simp only [fA, aJ, uN, le1, aZ]
   unfold zZ
   simp only [fA, aJ, dT, eq1, dP, bQ, aZ, cTn hf (Nat.le_refl _), b1, b2, add1 _ _ (Nat.le_refl _)]
   unfold pG
   simp only [add1 _ _ (Nat.le_refl _), aJ]
   show lL rec n (mW rec n m) _ _ _ _ _ h' = _
   unfold lL
   simp only [fA, aJ, uN, le2, bO]
   rfl
  ·rw [List.drop_length, List.append_nil, aDn hc, List.map_append]
   exact G'
 | succ k ih =>
  intro i frm m out x5 h hi hf hm hc ho G hlo
  obtain ⟨m, rfl⟩ : ∃ j, m = j + 1 := ⟨m - 1, by omega⟩
  have hlt : i < s.length := by omega
  obtain ⟨x, hx⟩ : ∃ x, s[i]? = some x := ⟨s[i], List.getElem?_eq_getElem hlt⟩
  have le1 : decide (Int.ofNat i ≤ Int.ofNat s.length) = true := decide_eq_true (by show (i : Int) ≤ (s.length : Int); omega)
  have eq1 : (Int.ofNat i == Int.ofNat s.length) = false := by
   rw [beq_eq_false_iff_ne]
   intro e
   have := Int.ofNat.inj e
   omega
  have hd : s.drop i = x :: s.drop (i + 1) := by
   rw [List.drop_eq_getElem_cons hlt]
   congr 1
   have := List.getElem?_eq_getElem hlt
   rw [hx] at this
   exact (Option.some.inj this).symm
  have ht : s.take (i + 1) = s.take i ++ [x] := by
   rw [List.take_add_one, hx]; rfl
  have htl : (s.take i).length = i := by rw [List.length_take]; omega
  by_cases e : x = c
  ·have eq2 : (Int.ofNat x == Int.ofNat c) = true := by rw [e]; simp
   obtain ⟨y, g, b1, x', h', b2, G', L'⟩ := GrS.app G hlo (fun v hv => by simp only [List.mem_map] at hv; obtain ⟨a, _, rfl⟩ := hv; rfl) (z := .s []) (v := .s ((s.take i).drop frm)) rfl rfl (bytes := 16) (by rw [List.length_map]; unfold mE; omega)
   have G2 : GrS x' ((out ++ [(s.take i).drop frm]).map DV.s) lo h' := by rw [List.map_append]; exact G'
   have hnil : (s.take (i + 1)).drop (i + 1) = [] := List.drop_of_length_le (by rw [List.length_take]; omega)
   obtain ⟨x2, h2, r1, r2, r3⟩ := ih (i + 1) (i + 1) m (out ++ [(s.take i).drop frm]) x' h' (by omega) (Nat.le_refl _) (by omega) (by rw [hnil]; simp) (by simp; omega) G2 (Nat.le_trans hlo L'.next)
   refine ⟨x2, h2, ?_, ?_, L'.trans r3⟩
   ·rw [← r1]
    show lL rec n (mW rec n m) _ _ _ _ _ h = _
    unfold lL
    simp only [fA, aJ, uN, le1, aZ]
    unfold zZ
    simp only [fA, aJ, dT, eq1, eZ, nE hx, eq2, bU, aZ, cTn hf (Nat.le_of_lt hlt), b1, b2, add1 _ _ (Nat.le_of_lt hlt)]
    unfold pG
    simp only [add1 _ _ (Nat.le_of_lt hlt), aJ]
   ·rw [hnil, List.nil_append] at r2
    rw [hd, e, rW hc]
    simpa using r2
  ·have eq2 : (Int.ofNat x == Int.ofNat c) = false := by
    rw [beq_eq_false_iff_ne]
    intro q
    exact e (Int.ofNat.inj q)
   have hacc : (s.take (i + 1)).drop frm = (s.take i).drop frm ++ [x] := by
    rw [ht, List.drop_append_of_le_length (by omega)]
   obtain ⟨x2, h2, r1, r2, r3⟩ := ih (i + 1) frm m out x5 h (by omega) (by omega) (by omega) (by rw [hacc]; simp only [List.mem_append, List.mem_singleton, not_or]; exact ⟨hc, fun q => e q.symm⟩) (by omega) G hlo
   refine ⟨x2, h2, ?_, ?_, r3⟩
   ·rw [← r1]
    show lL rec n (mW rec n m) _ _ _ _ _ h = _
    unfold lL
    simp only [fA, aJ, uN, le1, aZ]
    unfold zZ
    simp only [fA, aJ, dT, eq1, eZ, nE hx, eq2, bU, bO]
    unfold pG
    simp only [add1 _ _ (Nat.le_of_lt hlt), aJ]
   ·rw [hacc] at r2
    rw [hd]
    simpa using r2
theorem aCm (hs : s.length < 1000000000) (hn : s.length + 1 < n) (h : Hp) : ∃ x' h', s19 rec n (.s s) (.i .u8 (Int.ofNat c)) h = some (x', h') ∧ GrS x' ((bM c s).map DV.s) h.next.toNat h' ∧ Lo h.next.toNat h h' := by
 obtain ⟨x', h', r1, r2, r3⟩ := aTf (rec := rec) (n := n) (c := c) hs h.next.toNat s.length 0 0 n [] .l0 h (by omega) (Nat.le_refl _) hn (by simp) (Nat.le_refl _) (.inl ⟨rfl, rfl⟩) (Nat.le_refl _)
 exact ⟨x', h', r1, by simpa using r2, r3⟩
end
end Go.Dd

namespace Go.Dd
open Go.Proofs
def aEo (s : Bs) : Int := match eO s with
 | some k => Int.ofNat k
 | none => Int.negSucc 0
theorem dAm (a b : Nat) (h : Hp) (hr : a * b < 4611686018427387904) : aD .mul (.i .i64 (Int.ofNat a)) (.i .i64 (Int.ofNat b)) h = some (.i .i64 (Int.ofNat (a * b)), h) := by
 simp only [aD, if_true, eV]
 rw [show (Int.ofNat a * Int.ofNat b : Int) = Int.ofNat (a * b) from rfl, jA _ (show -9223372036854775808 ≤ Int.ofNat (a * b) ∧ Int.ofNat (a * b) ≤ 9223372036854775807 by show -9223372036854775808 ≤ ((a * b : Nat) : Int) ∧ ((a * b : Nat) : Int) ≤ 9223372036854775807; omega)]
theorem dDn (x : Nat) (h1 : 48 ≤ x) (h2 : x ≤ 57) (h : Hp) : aD .sub (.i .u8 (Int.ofNat x)) (.i .u8 (Int.ofNat 48)) h = some (.i .u8 (Int.ofNat (x - 48)), h) := by
 have : x = 48 ∨ x = 49 ∨ x = 50 ∨ x = 51 ∨ x = 52 ∨ x = 53 ∨ x = 54 ∨ x = 55 ∨ x = 56 ∨ x = 57 := by omega
 rcases this with rfl | rfl | rfl | rfl | rfl | rfl | rfl | rfl | rfl | rfl <;> rfl
theorem dHm (x : Nat) (h2 : x ≤ 9) (h : Hp) : dR .i64 (.i .u8 (Int.ofNat x)) h = some (.i .i64 (Int.ofNat x), h) := by
 have : x = 0 ∨ x = 1 ∨ x = 2 ∨ x = 3 ∨ x = 4 ∨ x = 5 ∨ x = 6 ∨ x = 7 ∨ x = 8 ∨ x = 9 := by omega
 rcases this with rfl | rfl | rfl | rfl | rfl | rfl | rfl | rfl | rfl | rfl <;> rfl
section
variable {rec : RT} {n : Nat} {s : List Nat}
theorem bQq (hs : s.length ≤ 9) : ∀ (k i m a : Nat) (h : Hp), i + k = s.length → k < m → a < 10 ^ i →
  qT rec n m (.s s) (.i .i64 (Int.ofNat a)) (.i .i64 (Int.ofNat i)) h = some (.i .i64 (if (s.drop i).all nN then Int.ofNat (mF a (s.drop i)) else Int.negSucc 0), h) := by
 intro k
 induction k with
 | zero =>
  intro i m a h hi hm ha
  obtain ⟨m, rfl⟩ : ∃ j, m = j + 1 := ⟨m - 1, by omega⟩
  have hil : i = s.length := by omega
  subst hil
  have l1 : decide (Int.ofNat s.length < Int.ofNat s.length) = false := decide_eq_false (Int.lt_irrefl _)
  show uD rec n (qT rec n m) _ _ _ h = _
  unfold uD
  simp only [fA, aJ, cH, l1, bO, List.drop_length]
  rfl
 | succ k ih =>
  intro i m a h hi hm ha
  obtain ⟨m, rfl⟩ : ∃ j, m = j + 1 := ⟨m - 1, by omega⟩
  have hlt : i < s.length := by omega
  obtain ⟨x, hx⟩ : ∃ x, s[i]? = some x := ⟨s[i], List.getElem?_eq_getElem hlt⟩
  have hd : s.drop i = x :: s.drop (i + 1) := by
   rw [List.drop_eq_getElem_cons hlt]
   congr 1
   have := List.getElem?_eq_getElem hlt
   rw [hx] at this
   exact (Option.some.inj this).symm
  have l1 : decide (Int.ofNat i < Int.ofNat s.length) = true := decide_eq_true (by show (i : Int) < (s.length : Int); omega)
  show uD rec n (qT rec n m) _ _ _ h = _
  unfold uD
  rw [hd, List.all_cons]
  by_cases c1 : x < 48
  ·have l2 : decide (Int.ofNat x < Int.ofNat 48) = true := decide_eq_true (by show (x : Int) < 48; omega)
   have d1 : nN x = false := by unfold nN; simp only [aFw]; simp; omega
   simp only [fA, aJ, cH, l1, aZ, nE hx, l2, dP, bQ, d1, Bool.false_and, Bool.false_eq_true, if_false]
  ·have l2 : decide (Int.ofNat x < Int.ofNat 48) = false := decide_eq_false (by show ¬ (x : Int) < 48; omega)
   by_cases c2 : x > 57
   ·have l3 : decide (Int.ofNat x > Int.ofNat 57) = true := decide_eq_true (by show (57 : Int) < (x : Int); omega)
    have d1 : nN x = false := by unfold nN; simp only [aFw]; simp; omega
    simp only [fA, aJ, cH, l1, aZ, nE hx, l2, eZ, eX, l3, bU, d1, Bool.false_and, Bool.false_eq_true, if_false]
   ·have l3 : decide (Int.ofNat x > Int.ofNat 57) = false := decide_eq_false (by show ¬ (57 : Int) < (x : Int); omega)
    have d1 : nN x = true := by unfold nN; simp; omega
    have p9 : 10 ^ (i + 1) ≤ 10 ^ 9 := Nat.pow_le_pow_right (by omega) (by omega)
    have pw : 10 ^ (i + 1) = 10 * 10 ^ i := by rw [Nat.pow_succ, Nat.mul_comm]
    have ih' := ih (i + 1) m (10 * a + (x - 48)) h (by omega) (by omega) (by omega)
    simp only [fA, aJ, cH, l1, aZ, nE hx, l2, eZ, eX, l3, bU, bO, dAm 10 a h (by omega), dDn x (by omega) (by omega), dHm (x - 48) (by omega), bH (10 * a) (x - 48) h (by omega), bH i 1 h (by omega), d1, Bool.true_and]
    exact ih'
theorem cBl (hn : 10 < n) (h : Hp) : s35 rec n (.s s) h = some (.i .i64 (aEo s), h) := by
 unfold s35 bAv aEo eO
 by_cases c1 : s.length < 1
 ·have l1 : decide (Int.ofNat s.length < Int.ofNat 1) = true := decide_eq_true (by show (s.length : Int) < 1; omega)
  simp only [fA, aJ, cH, l1, dP, vP, bQ, aZ]
  rw [if_pos (.inl c1)]
 have l1 : decide (Int.ofNat s.length < Int.ofNat 1) = false := decide_eq_false (by show ¬ (s.length : Int) < 1; omega)
 by_cases c2 : s.length > 9
 ·have l2 : decide (Int.ofNat s.length > Int.ofNat 9) = true := decide_eq_true (by show (9 : Int) < (s.length : Int); omega)
  simp only [fA, aJ, cH, l1, eZ, eX, l2, bU, dP, vP, bQ, aZ]
  rw [if_pos (.inr (.inl c2))]
 have l2 : decide (Int.ofNat s.length > Int.ofNat 9) = false := decide_eq_false (by show ¬ (9 : Int) < (s.length : Int); omega)
 obtain ⟨x, t, rfl⟩ : ∃ x t, s = x :: t := by
  cases s with
  | nil => simp at c1
  | cons x t => exact ⟨x, t, rfl⟩
 have hx : (x :: t)[0]? = some x := rfl
 have zero : (Int.ofNat 0 : Int) = 0 := rfl
 have loop : aVh rec n (.s (x :: t)) h = some (.i .i64 (if (x :: t).all nN then Int.ofNat (mF 0 (x :: t)) else Int.negSucc 0), h) := bQq (rec := rec) (n := n) (s := x :: t) (by omega) (x :: t).length 0 n 0 h (by omega) (by omega) (by simp)
 have nine : (x :: t).length ≤ 9 := by omega
 have one : ¬ (x :: t).length < 1 := c1
 have more : ¬ (x :: t).length > 9 := c2
 have h0 : (x :: t).head? = some x := rfl
 by_cases c3 : (x :: t).length > 1
 ·have l3 : decide (Int.ofNat (x :: t).length > Int.ofNat 1) = true := decide_eq_true (by show (1 : Int) < ((x :: t).length : Int); omega)
  by_cases c4 : x = 48
  ·have e4 : (Int.ofNat x == Int.ofNat 48) = true := by rw [c4]; rfl
   simp only [fA, aJ, cH, l1, eZ, eX, l2, bU, l3, qL, nE hx, dT, e4, bQ, aZ]
   rw [if_pos (.inr (.inr (.inl ⟨c3, by rw [h0, c4]⟩)))]
  ·have e4 : (Int.ofNat x == Int.ofNat 48) = false := by rw [beq_eq_false_iff_ne]; intro q; exact c4 (Int.ofNat.inj q)
   simp only [fA, aJ, cH, l1, eZ, eX, l2, bU, l3, qL, nE hx, dT, e4, bQ, bO, loop]
   cases hb : (x :: t).all nN with
   | true =>
    have no : ¬ ((x :: t).length < 1 ∨ (x :: t).length > 9 ∨ (x :: t).length > 1 ∧ (x :: t).head? = some 48 ∨ true = false) := by
     rintro (q | q | q | q)
     ·exact one q
     ·exact more q
     ·exact c4 (Option.some.inj q.2)
     ·cases q
    rw [if_pos rfl, if_neg no]
   | false =>
    rw [if_neg (show ¬ (false = true) by decide), if_pos (.inr (.inr (.inr rfl)))]
 ·have l3 : decide (Int.ofNat (x :: t).length > Int.ofNat 1) = false := decide_eq_false (by show ¬ (1 : Int) < ((x :: t).length : Int); omega)
  have gt_f : ∀ (r : aG) (h : Hp), gD (.b false) true r h = some (aR, h) := fun r h => rfl
  simp only [fA, aJ, cH, l1, eZ, eX, l2, bU, l3, gt_f, vP, bO, loop]
  cases hb : (x :: t).all nN with
  | true =>
   have no : ¬ ((x :: t).length < 1 ∨ (x :: t).length > 9 ∨ (x :: t).length > 1 ∧ (x :: t).head? = some 48 ∨ true = false) := by
    rintro (q | q | q | q)
    ·exact one q
    ·exact more q
    ·exact c3 q.1
    ·cases q
   rw [if_pos rfl, if_neg no]
  | false =>
   rw [if_neg (show ¬ (false = true) by decide), if_pos (.inr (.inr (.inr rfl)))]
end
end Go.Dd

namespace Go.Dd
open Go.Proofs
abbrev bD (c : Nat) : DV := .i .u8 (Int.ofNat c)
def spB (x : Nat) : Bool := Nat.beq x 10 || (Nat.beq x 34 || Nat.beq x 92)
def gX : Bs → Nat
 | [] => 0
 | x :: t => (if spB x then 1 else 0) + gX t
def oZ (x : Nat) : Bs := if x = 10 then [92, 110] else if x = 34 ∨ x = 92 then [92, x] else [x]
theorem fI (x : Nat) (t : Bs) : bP (x :: t) = oZ x ++ bP t := by
 have e : bP (x :: t) = if x = 10 then 92 :: 110 :: bP t else if x = 34 ∨ x = 92 then 92 :: x :: bP t else x :: bP t := rfl
 rw [e]
 unfold oZ
 by_cases h1 : x = 10
 ·rw [if_pos h1, if_pos h1]; rfl
 ·rw [if_neg h1, if_neg h1]
  by_cases h2 : x = 34 ∨ x = 92
  ·rw [if_pos h2, if_pos h2]; rfl
  ·rw [if_neg h2, if_neg h2]; rfl
theorem aBq : ∀ (a b : Bs), bP (a ++ b) = bP a ++ bP b
 | [], b => rfl
 | x :: a, b => by rw [List.cons_append, fI, fI, aBq a b, List.append_assoc]
theorem bKl (x : Nat) : bP [x] = oZ x := by rw [fI]; simp [bP]
theorem spB_ff {x : Nat} : spB x = false ↔ ¬ x = 10 ∧ ¬ x = 34 ∧ ¬ x = 92 := by
 unfold spB
 simp [mH]
theorem bOc (x : Nat) : (oZ x).length = 1 + (if spB x then 1 else 0) := by
 unfold oZ
 cases h : spB x with
 | false =>
  obtain ⟨h1, h2, h3⟩ := spB_ff.1 h
  simp [h1, h2, h3]
 | true =>
  by_cases h1 : x = 10
  ·simp [h1]
  ·have h2 : x = 34 ∨ x = 92 := by
    unfold spB at h
    simpa [h1, mH] using h
   simp [h1, h2]
theorem jE : ∀ s : Bs, (bP s).length = s.length + gX s
 | [] => rfl
 | x :: t => by
  rw [fI, List.length_append, bOc, jE t]
  simp only [gX, List.length_cons]
  omega
theorem aAd : ∀ {s : Bs}, gX s = 0 → bP s = s
 | [], _ => rfl
 | x :: t, h => by
  simp only [gX] at h
  have hx : spB x = false := by
   cases e : spB x with
   | false => rfl
   | true => rw [e] at h; simp at h
  obtain ⟨h1, h2, h3⟩ := spB_ff.1 hx
  rw [fI, aAd (s := t) (by omega)]
  simp [oZ, h1, h2, h3]
theorem bAf : ∀ (a b : Bs), gX (a ++ b) = gX a + gX b
 | [], b => by simp [gX]
 | x :: a, b => by
  rw [List.cons_append]
  simp only [gX, bAf a b]
  omega
theorem aZd : ∀ s : Bs, gP 92 s + gP 34 s + gP 10 s = gX s
 | [] => rfl
 | x :: t => by
  have ih := aZd t
  by_cases h1 : x = 10
  ·subst h1; simp [gP, gX, spB, mH]; omega
  ·by_cases h2 : x = 34
   ·subst h2; simp [gP, gX, spB, mH]; omega
   ·by_cases h3 : x = 92
    ·subst h3; simp [gP, gX, spB, mH]; omega
    ·simp [gP, gX, spB, mH, h1, h2, h3]; omega
theorem aYo : ∀ {s : Bs}, (∀ c ∈ s, c < 256) → ∀ c ∈ bP s, c < 256
 | [], _, c, h => by cases h
 | x :: t, hs, c, h => by
  rw [fI, List.mem_append] at h
  rcases h with h | h
  ·have hx := hs x (by simp)
   unfold oZ at h
   split at h
   ·simp at h; omega
   ·split at h
    ·simp at h; rcases h with h | h <;> omega
    ·simp at h; omega
  ·exact aYo (fun d hd => hs d (by simp [hd])) c h
theorem aUz : ∀ (a : List DV) (l vs : List DV), fT a.length (a ++ l) vs = (jY l vs).map (a ++ ·)
 | [], l, vs => by
  simp only [List.length_nil, List.nil_append]
  show jY l vs = _
  cases jY l vs <;> rfl
 | x :: a, l, vs => by
  simp only [List.length_cons, List.cons_append]
  show (fT a.length (a ++ l) vs).map (x :: ·) = _
  rw [aUz a l vs]
  cases jY l vs <;> rfl
theorem uL : ∀ {l : Bs}, (∀ c ∈ l, c < 256) → qX (l.map bD) = some l
 | [], _ => rfl
 | x :: l, h => by
  show (if x < 256 then (qX (l.map bD)).map (x :: ·) else none) = _
  rw [if_pos (h x (by simp)), uL (fun c hc => h c (by simp [hc]))]
  rfl
theorem bBj (l : Bs) : ∀ v ∈ l.map bD, v.one = true := fun v hv => by
 simp only [List.mem_map] at hv
 obtain ⟨c, _, rfl⟩ := hv
 rfl
section
variable {rec : RT} {n : Nat} {s : Bs} {b b1 b2 b3 bT : Pos}
def rep (b1 b2 b3 : Pos) (x : Nat) : DV := if x = 10 then .l b1 0 2 2 else if x = 34 then .l b2 0 2 2 else if x = 92 then .l b3 0 2 2 else .l0
def uS (b1 b2 b3 bT : Pos) : List DV := (List.range 256).map (rep b1 b2 b3) ++ [.l bT 0 3 3]
structure Rp (h : Hp) (b b1 b2 b3 bT : Pos) : Prop where
 row : h.bl.get b = some (.row .ex (uS b1 b2 b3 bT))
 tr : ∃ k, h.bl.get bT = some (.row k [.s [92], .s [34], .s [10]])
 r1 : h.bl.get b1 = some (.row (.gr 1) [bD 92, bD 110])
 r2 : h.bl.get b2 = some (.row (.gr 1) [bD 92, bD 34])
 r3 : h.bl.get b3 = some (.row (.gr 1) [bD 92, bD 92])
 lo : b.toNat < h.next.toNat ∧ b1.toNat < h.next.toNat ∧ b2.toNat < h.next.toNat ∧ b3.toNat < h.next.toNat ∧ bT.toNat < h.next.toNat
variable {h : Hp}
theorem cIx (x : Nat) : (rep b1 b2 b3 x).one = true := by
 unfold rep
 split
 ·rfl
 ·split
  ·rfl
  ·split <;> rfl
theorem Rp.rep (R : Rp h b b1 b2 b3 bT) {x : Nat} (hx : x < 256) : aA (.p b x) h = some (rep b1 b2 b3 x, h) := by
 have e : (uS b1 b2 b3 bT)[x]? = some (Dd.rep b1 b2 b3 x) := by
  unfold uS
  rw [List.getElem?_append_left (by simpa using hx), List.getElem?_map, List.getElem?_range hx]
  rfl
 simp only [aA, cellD, rowOf, R.row, e, cIx, if_true]
theorem Rp.tab (R : Rp h b b1 b2 b3 bT) : aA (.p b 256) h = some (.l bT 0 3 3, h) := by
 have e : (uS b1 b2 b3 bT)[256]? = some (.l bT 0 3 3) := by
  unfold uS
  rw [List.getElem?_append_right (by simp)]
  simp
 simp only [aA, cellD, rowOf, R.row, e]
 rfl
theorem bXr (x : Nat) (hx : x < 256) (h : Hp) : eH 256 1 (.p b 0) (bD x) h = some (.p b x, h) := by
 unfold eH
 simp only
 rw [if_pos (by show (0 : Int) ≤ (x : Int) ∧ (x : Int) < ((256 : Nat) : Int); omega)]
 show some (DV.p b (0 + (x : Int).toNat * 1), h) = _
 simp
theorem aSo (b : Pos) (o : Nat) (h : Hp) : aY (.p b o) h = some (.p b o, h) := rfl
theorem aTy (b : Pos) (o k : Nat) (h : Hp) : aB k (.p b o) h = some (.p b (o + k), h) := rfl
theorem cOy (b : Pos) (o l c : Nat) (h : Hp) : pEq (.slice 5) false (.l b o l c) .l0 h = some (.b true, h) := rfl
theorem cMy (h : Hp) : pEq (.slice 5) false .l0 .l0 h = some (.b false, h) := rfl
theorem sR (b : Pos) (o l c : Nat) (h : Hp) : cQ (.l b o l c) h = some (.i .i64 (Int.ofNat l), h) := rfl
theorem cNl (h : Hp) : aD .sub (.i .i64 (Int.ofNat 2)) (.i .i64 (Int.ofNat 1)) h = some (.i .i64 (Int.ofNat 1), h) := rfl
theorem aDd (x : Nat) : (spB x = false ∧ rep b1 b2 b3 x = .l0 ∧ oZ x = [x]) ∨ (spB x = true ∧ ∃ q y, rep b1 b2 b3 x = .l q 0 2 2 ∧ oZ x = [92, y] ∧ y < 256 ∧ ((q = b1 ∧ y = 110) ∨ (q = b2 ∧ y = 34) ∨ (q = b3 ∧ y = 92))) := by
 by_cases h1 : x = 10
 ·subst h1
  exact .inr ⟨rfl, b1, 110, rfl, rfl, by decide, .inl ⟨rfl, rfl⟩⟩
 ·by_cases h2 : x = 34
  ·subst h2
   exact .inr ⟨rfl, b2, 34, rfl, rfl, by decide, .inr (.inl ⟨rfl, rfl⟩)⟩
  ·by_cases h3 : x = 92
   ·subst h3
    exact .inr ⟨rfl, b3, 92, rfl, rfl, by decide, .inr (.inr ⟨rfl, rfl⟩)⟩
   ·exact .inl ⟨spB_ff.2 ⟨h1, h2, h3⟩, by simp [rep, h1, h2, h3], by simp [oZ, h1, h2, h3]⟩
theorem Rp.src (R : Rp h b b1 b2 b3 bT) {q : Pos} {y : Nat} (hq : (q = b1 ∧ y = 110) ∨ (q = b2 ∧ y = 34) ∨ (q = b3 ∧ y = 92)) : h.bl.get q = some (.row (.gr 1) [bD 92, bD y]) ∧ q.toNat < h.next.toNat := by
 rcases hq with ⟨rfl, rfl⟩ | ⟨rfl, rfl⟩ | ⟨rfl, rfl⟩
 ·exact ⟨R.r1, R.lo.2.1⟩
 ·exact ⟨R.r2, R.lo.2.2.1⟩
 ·exact ⟨R.r3, R.lo.2.2.2.1⟩
theorem Rp.set (R : Rp h b b1 b2 b3 bT) {pb : Pos} {o : Ob} (hb : b ≠ pb) (h1 : b1 ≠ pb) (h2 : b2 ≠ pb) (h3 : b3 ≠ pb) (hT : bT ≠ pb) : Rp ⟨h.next, Tr.set o pb h.bl⟩ b b1 b2 b3 bT where
 row := by rw [← R.row]; exact dQf _ _ _ _ hb
 tr := by obtain ⟨k, hk⟩ := R.tr; exact ⟨k, by rw [← hk]; exact dQf _ _ _ _ hT⟩
 r1 := by rw [← R.r1]; exact dQf _ _ _ _ h1
 r2 := by rw [← R.r2]; exact dQf _ _ _ _ h2
 r3 := by rw [← R.r3]; exact dQf _ _ _ _ h3
 lo := R.lo
def dX (A : Bs) (N : Nat) : List DV := A.map bD ++ List.replicate (N - A.length) (bD 0)
theorem bKz {A vs : Bs} {N : Nat} (h : A.length + vs.length ≤ N) : fT A.length (dX A N) (vs.map bD) = some (dX (A ++ vs) N) := by
 unfold dX
 have e := aUz (A.map bD) (List.replicate (N - A.length) (bD 0)) (vs.map bD)
 rw [List.length_map] at e
 rw [e]
 have key : ∀ (vs : Bs) (m : Nat), vs.length ≤ m → jY (List.replicate m (bD 0)) (vs.map bD) = some (vs.map bD ++ List.replicate (m - vs.length) (bD 0)) := by
  intro vs
  induction vs with
  | nil => intro m _; cases m <;> rfl
  | cons x vs ih =>
   intro m hm
   obtain ⟨m, rfl⟩ : ∃ j, m = j + 1 := ⟨m - 1, by simp at hm; omega⟩
   show (if (bD 0).one && (bD x).one then (jY (List.replicate m (bD 0)) (vs.map bD)).map (bD x :: ·) else none) = _
   have e1 : ((bD 0).one && (bD x).one) = true := rfl
   rw [if_pos e1, ih m (by simp at hm; omega)]
   simp
 rw [key vs _ (by omega)]
 simp [Nat.sub_sub]
theorem qC {A vs : Bs} {N : Nat} {pb : Pos} {h : Hp} (hg : h.bl.get pb = some (.row .ex (dX A N))) (hN : A.length + vs.length ≤ N) :
  cP pb A.length (vs.map bD) h = some ⟨h.next, Tr.set (.row .ex (dX (A ++ vs) N)) pb h.bl⟩ := by
 unfold cP
 simp only [hg]
 rw [bKz hN]
 rfl
theorem bKf (hs : s.length < 1000000) (hb : ∀ c ∈ s, c < 256) (pb : Pos) (N : Nat) (hN : N = (bP s).length) (n1 : b ≠ pb) (n2 : b1 ≠ pb) (n3 : b2 ≠ pb) (n4 : b3 ≠ pb) (n5 : bT ≠ pb) :
  ∀ (k i m : Nat) (h : Hp), i + k = s.length → k < m → Rp h b b1 b2 b3 bT → h.bl.get pb = some (.row .ex (dX (bP (s.take i)) N)) →
  ∃ h', kB rec n m (.p b 0) (.s s) (.l pb 0 N N) (.i .i64 (Int.ofNat (bP (s.take i)).length)) (.i .i64 (Int.ofNat i)) h = some (.s (bP s), h') := by
 have hql := jE s
 have hsp : gX s ≤ s.length := by
  clear hs hb hN hql
  induction s with
  | nil => simp [gX]
  | cons x t ih => simp only [gX, List.length_cons]; split <;> omega
 intro k
 induction k with
 | zero =>
  intro i m h hi hm R hg
  obtain ⟨m, rfl⟩ : ∃ j, m = j + 1 := ⟨m - 1, by omega⟩
  have hil : i = s.length := by omega
  subst hil
  have l1 : decide (Int.ofNat s.length < Int.ofNat s.length) = false := decide_eq_false (Int.lt_irrefl _)
  refine ⟨h, ?_⟩
  show lR rec n (kB rec n m) _ _ _ _ _ h = _
  unfold lR dK
  rw [List.take_length] at hg
  have hrow : dX (bP s) N = (bP s).map bD := by unfold dX; rw [hN]; simp
  rw [hrow] at hg
  have hc : cellsAt pb 0 N h = some ((bP s).map bD) := by
   unfold cellsAt rowOf
   simp only [hg, List.drop_zero]
   have := kP ((bP s).map bD) (bBj _)
   rw [List.length_map, ← hN] at this
   exact this
  simp only [fA, aJ, cH, l1, bO, eY, hc, uL (aYo hb)]
 | succ k ih =>
  intro i m h hi hm R hg
  obtain ⟨m, rfl⟩ : ∃ j, m = j + 1 := ⟨m - 1, by omega⟩
  have hlt : i < s.length := by omega
  obtain ⟨x, hx⟩ : ∃ x, s[i]? = some x := ⟨s[i], List.getElem?_eq_getElem hlt⟩
  have hxb : x < 256 := hb x (List.mem_of_getElem? hx)
  have l1 : decide (Int.ofNat i < Int.ofNat s.length) = true := decide_eq_true (by show (i : Int) < (s.length : Int); omega)
  have ht : s.take (i + 1) = s.take i ++ [x] := by rw [List.take_add_one, hx]; rfl
  have hq : bP (s.take (i + 1)) = bP (s.take i) ++ oZ x := by rw [ht, aBq, bKl]
  have hle : (bP (s.take i)).length + (oZ x).length ≤ N := by
   have e : bP s = bP (s.take (i + 1)) ++ bP (s.drop (i + 1)) := by rw [← aBq, List.take_append_drop]
   rw [hN, e, hq]
   simp only [List.length_append]
   omega
  show ∃ h', lR rec n (kB rec n m) _ _ _ _ _ h = _
  unfold lR wQ
  rcases aDd (b1 := b1) (b2 := b2) (b3 := b3) x with ⟨c1, c2, c3⟩ | ⟨c1, q, y, c2, c3, c4, c5⟩
  ·rw [c3] at hle hq
   have hle' : (bP (s.take i)).length < N := by
    have : (bP (s.take i)).length + 1 ≤ N := hle
    omega
   have hst := qC (vs := [x]) hg (by simpa using hle)
   obtain ⟨h', hh⟩ := ih (i + 1) m ⟨h.next, Tr.set (.row .ex (dX (bP (s.take i) ++ [x]) N)) pb h.bl⟩ (by omega) (by omega) (R.set n1 n2 n3 n4 n5) (by rw [hq]; exact dQg _ _ _)
   refine ⟨h', ?_⟩
   rw [hq] at hh
   have e1 : aE 1 (.l pb 0 N N) (.i .i64 (Int.ofNat (bP (s.take i)).length)) h = some (.p pb (bP (s.take i)).length, h) := by
    unfold aE
    simp only
    rw [if_pos (by show (0 : Int) ≤ ((bP (s.take i)).length : Int) ∧ ((bP (s.take i)).length : Int) < (N : Int); omega)]
    show some (DV.p pb (0 + ((bP (s.take i)).length : Int).toNat * 1), h) = _
    simp
   have e2 : aH 1 (.p pb (bP (s.take i)).length) (bD x) h = some (aR, ⟨h.next, Tr.set (.row .ex (dX (bP (s.take i) ++ [x]) N)) pb h.bl⟩) := by
    unfold aH
    simp only [dD]
    rw [if_pos (show [bD x].length = 1 from rfl), show ([DV.i .u8 (Int.ofNat x)] : List DV) = [x].map bD from rfl, hst]
   have e3 : (bP (s.take i)).length + 1 = (bP (s.take i) ++ [x]).length := by simp
   simp only [fA, aJ, cH, l1, aZ, nE hx, aSo, aTy, Nat.add_zero, bXr x hxb, R.rep hxb, c2, cMy, bO, e1, e2, bH (bP (s.take i)).length 1 _ (by omega)]
   unfold oQ
   simp only [bH i 1 _ (show i + 1 < _ by omega), aJ]
   rw [e3]
   exact hh
  ·rw [c3] at hle hq
   have hle' : (bP (s.take i)).length + 2 ≤ N := by simpa using hle
   have hst := qC (vs := [92, y]) hg (by simpa using hle)
   obtain ⟨h', hh⟩ := ih (i + 1) m ⟨h.next, Tr.set (.row .ex (dX (bP (s.take i) ++ [92, y]) N)) pb h.bl⟩ (by omega) (by omega) (R.set n1 n2 n3 n4 n5) (by rw [hq]; exact dQg _ _ _)
   refine ⟨h', ?_⟩
   rw [hq] at hh
   obtain ⟨d1, d2⟩ := R.src c5
   have hne : N ≠ (bP (s.take i)).length := by omega
   have e1 : dN 1 (.l pb 0 N N) (some (.i .i64 (Int.ofNat (bP (s.take i)).length))) none h = some (.l pb (bP (s.take i)).length (N - (bP (s.take i)).length) (N - (bP (s.take i)).length), h) := by
    have q1 : hiD none N N = some N := by simp [hiD]
    have q2 : loD (some (.i .i64 (Int.ofNat (bP (s.take i)).length))) N = some (bP (s.take i)).length := by
     simp only [loD, fM]
     rw [if_pos (by show (0 : Int) ≤ ((bP (s.take i)).length : Int) ∧ ((bP (s.take i)).length : Int) ≤ (N : Int); omega)]
     rfl
    simp only [dN, q1, q2, hg, if_neg hne, Nat.zero_add, Nat.mul_one]
   have e2 : kW 1 (.l q 0 2 2) h = some (2, [bD 92, bD y]) := by
    simp only [kW, cellsAt, rowOf, d1]
    rfl
   have e3 : rB 1 (.l pb (bP (s.take i)).length (N - (bP (s.take i)).length) (N - (bP (s.take i)).length)) (.l q 0 2 2) h = some (.i .i64 (Int.ofNat 2), ⟨h.next, Tr.set (.row .ex (dX (bP (s.take i) ++ [92, y]) N)) pb h.bl⟩) := by
    unfold rB
    simp only [e2]
    rw [if_pos (by omega), show ([DV.i .u8 (Int.ofNat 92), DV.i .u8 (Int.ofNat y)] : List DV) = [92, y].map bD from rfl, hst]
    rfl
   have e4 : (bP (s.take i)).length + 2 = (bP (s.take i) ++ [92, y]).length := by simp
   simp only [fA, aJ, cH, l1, aZ, nE hx, aSo, aTy, Nat.add_zero, bXr x hxb, R.rep hxb, c2, cOy, e1, e3, bH (bP (s.take i)).length 2 _ (by omega)]
   unfold oQ
   simp only [bH i 1 _ (show i + 1 < _ by omega), aJ]
   rw [e4]
   exact hh
theorem aOi (hs : s.length < 1000000) (hb : ∀ c ∈ s, c < 256) (hn : s.length < n) {h : Hp} (R : Rp h b b1 b2 b3 bT) (any : Bool) (ha : any = decide (gX s ≠ 0)) :
  ∃ h', bB rec n (.p b 0) (.s s) (.i .i64 (Int.ofNat (s.length + gX s))) (.b any) h = some (.s (bP s), h') := by
 unfold bB
 have hsp : gX s ≤ s.length := by
  clear hs hb hn ha
  induction s with
  | nil => simp [gX]
  | cons x t ih => simp only [gX, List.length_cons]; split <;> omega
 by_cases c : gX s = 0
 ·have e : any = false := by rw [ha]; simp [c]
  refine ⟨h, ?_⟩
  rw [e, aAd c]
  simp only [show ∀ h, jK .not (.b false) h = some (.b true, h) from fun _ => rfl, aJ, aZ]
 ·have e : any = true := by rw [ha]; simp [c]
  rw [e]
  simp only [show ∀ h, jK .not (.b true) h = some (.b false, h) from fun _ => rfl, aJ, bO]
  unfold zU
  have hm : bR 1 1 [(.i .u8 (Int.ofNat 0))] (.i .i64 (Int.ofNat (s.length + gX s))) (.i .i64 (Int.ofNat (s.length + gX s))) h = some (.l h.next 0 (s.length + gX s) (s.length + gX s), ⟨h.next.succ, Tr.set (.row .ex (List.replicate (s.length + gX s) (bD 0))) h.next h.bl⟩) := by
   unfold bR
   simp only
   rw [if_pos (by
    show (0 : Int) ≤ ((s.length + gX s : Nat) : Int) ∧ ((s.length + gX s : Nat) : Int) ≤ ((s.length + gX s : Nat) : Int) ∧ ((s.length + gX s : Nat) : Int).toNat * 1 ≤ 2 ^ 30 ∧ ((s.length + gX s : Nat) : Int).toNat * 1 ≤ 2 ^ 24 ∧ ((s.length + gX s : Nat) : Int) < 2 ^ 32
    omega)]
   show some (DV.l h.next 0 ((s.length + gX s : Nat) : Int).toNat ((s.length + gX s : Nat) : Int).toNat, Hp.mk h.next.succ (Tr.set (.row .ex (List.replicate ((s.length + gX s : Nat) : Int).toNat [bD 0]).flatten) h.next h.bl)) = _
   rw [Int.toNat_natCast]
   simp
  simp only [hm, aJ]
  have ns := dQh h.next
  have ne : ∀ {p : Pos}, p.toNat < h.next.toNat → p ≠ h.next := fun hp e => by subst e; omega
  have R0 := R.set (o := .row .ex (List.replicate (s.length + gX s) (bD 0))) (ne R.lo.1) (ne R.lo.2.1) (ne R.lo.2.2.1) (ne R.lo.2.2.2.1) (ne R.lo.2.2.2.2)
  have R' : Rp ⟨h.next.succ, Tr.set (.row .ex (List.replicate (s.length + gX s) (bD 0))) h.next h.bl⟩ b b1 b2 b3 bT := ⟨R0.row, R0.tr, R0.r1, R0.r2, R0.r3, by
   obtain ⟨l1, l2, l3, l4, l5⟩ := R.lo
   show _ < h.next.succ.toNat ∧ _ < h.next.succ.toNat ∧ _ < h.next.succ.toNat ∧ _ < h.next.succ.toNat ∧ _ < h.next.succ.toNat
   omega⟩
  obtain ⟨h', hh⟩ := bKf (rec := rec) (n := n) hs hb h.next (s.length + gX s) (jE s).symm (ne R.lo.1) (ne R.lo.2.1) (ne R.lo.2.2.1) (ne R.lo.2.2.2.1) (ne R.lo.2.2.2.2) s.length 0 n _ (by omega) hn R'
   (by show (Tr.set _ h.next h.bl).get h.next = _
       rw [dQg]
       simp [dX, bP])
  exact ⟨h', hh⟩
theorem bFq (hs : s.length < 1000000) (hb : ∀ c ∈ s, c < 256) (hn : s.length < n) {h : Hp} (R : Rp h b b1 b2 b3 bT) : ∀ (k i m : Nat) (any : Bool), i + k = s.length → k < m → any = decide (gX (s.take i) ≠ 0) →
  ∃ h', kU rec n m (.p b 0) (.s s) (.i .i64 (Int.ofNat (s.length + gX (s.take i)))) (.b any) (.i .i64 (Int.ofNat i)) h = some (.s (bP s), h') := by
 have hsp : ∀ s : Bs, gX s ≤ s.length := by
  intro s
  induction s with
  | nil => simp [gX]
  | cons x t ih => simp only [gX, List.length_cons]; split <;> omega
 intro k
 induction k with
 | zero =>
  intro i m any hi hm ha
  obtain ⟨m, rfl⟩ : ∃ j, m = j + 1 := ⟨m - 1, by omega⟩
  have hil : i = s.length := by omega
  subst hil
  have l1 : decide (Int.ofNat s.length < Int.ofNat s.length) = false := decide_eq_false (Int.lt_irrefl _)
  rw [List.take_length] at ha ⊢
  obtain ⟨h', hh⟩ := aOi (rec := rec) hs hb hn R any ha
  refine ⟨h', ?_⟩
  show lT rec n (kU rec n m) _ _ _ _ _ h = _
  unfold lT
  simp only [fA, aJ, cH, l1, bO]
  exact hh
 | succ k ih =>
  intro i m any hi hm ha
  obtain ⟨m, rfl⟩ : ∃ j, m = j + 1 := ⟨m - 1, by omega⟩
  have hlt : i < s.length := by omega
  obtain ⟨x, hx⟩ : ∃ x, s[i]? = some x := ⟨s[i], List.getElem?_eq_getElem hlt⟩
  have hxb : x < 256 := hb x (List.mem_of_getElem? hx)
  have l1 : decide (Int.ofNat i < Int.ofNat s.length) = true := decide_eq_true (by show (i : Int) < (s.length : Int); omega)
  have ht : gX (s.take (i + 1)) = gX (s.take i) + (if spB x then 1 else 0) := by
   rw [List.take_add_one, hx]
   show gX (s.take i ++ [x]) = _
   rw [bAf]
   simp [gX]
  have hsl := hsp (s.take i)
  have htl : (s.take i).length ≤ i := by rw [List.length_take]; omega
  show ∃ h', lT rec n (kU rec n m) _ _ _ _ _ h = _
  unfold lT wL
  rcases aDd (b1 := b1) (b2 := b2) (b3 := b3) x with ⟨c1, c2, c3⟩ | ⟨c1, q, y, c2, c3, c4, c5⟩
  ·rw [c1] at ht
   simp only [Bool.false_eq_true, if_false, Nat.add_zero] at ht
   obtain ⟨h', hh⟩ := ih (i + 1) m any (by omega) (by omega) (by rw [ht]; exact ha)
   rw [ht] at hh
   refine ⟨h', ?_⟩
   simp only [fA, aJ, cH, l1, aZ, nE hx, aSo, aTy, Nat.add_zero, bXr x hxb, R.rep hxb, c2, cMy, bO]
   unfold oP
   simp only [bH i 1 _ (show i + 1 < _ by omega), aJ]
   exact hh
  ·rw [c1] at ht
   simp only [if_true] at ht
   obtain ⟨h', hh⟩ := ih (i + 1) m true (by omega) (by omega) (by rw [ht]; simp)
   rw [ht, ← Nat.add_assoc] at hh
   refine ⟨h', ?_⟩
   simp only [fA, aJ, cH, l1, aZ, nE hx, aSo, aTy, Nat.add_zero, bXr x hxb, R.rep hxb, c2, cOy, sR, cNl, bH (s.length + gX (s.take i)) 1 _ (by omega)]
   unfold oP
   simp only [bH i 1 _ (show i + 1 < _ by omega), aJ]
   exact hh
theorem aAr {kk : TT7} {c : Nat} {q : Pos} {y : Nat} (hs : s.length < 1000000) (hc : c < 256) {h : Hp} (R : Rp h b b1 b2 b3 bT) (i sz : Nat) (hi : i < 3) (hT : ∃ k l, h.bl.get bT = some (.row k l) ∧ l[i]? = some (.s [c])) (hrep : rep b1 b2 b3 c = .l q 0 2 2) (hsz : sz + gP c s < 100000000) (any : Bool) :
  oH rec n kk (.p b 0) (.s s) (.i .i64 (Int.ofNat sz)) (.b any) (.l bT 0 3 3) (.i .i64 (Int.ofNat 3)) (.i .i64 (Int.ofNat i)) h =
   kk (.p b 0) (.s s) (.i .i64 (Int.ofNat (sz + gP c s))) (.b (any || decide (gP c s ≠ 0))) (.l bT 0 3 3) (.i .i64 (Int.ofNat 3)) (.i .i64 (Int.ofNat (i + 1))) h := by
 obtain ⟨k, l, hg, hl⟩ := hT
 have e1 : aE 1 (.l bT 0 3 3) (.i .i64 (Int.ofNat i)) h = some (.p bT i, h) := by
  unfold aE
  simp only
  rw [if_pos (by show (0 : Int) ≤ (i : Int) ∧ (i : Int) < ((3 : Nat) : Int); omega)]
  show some (DV.p bT (0 + (i : Int).toNat * 1), h) = _
  simp
 have e2 : aA (.p bT i) h = some (.s [c], h) := by
  simp only [aA, cellD, rowOf, hg, hl]
  rfl
 have hcb : Nat.blt c 256 = true := by
  rw [show Nat.blt c 256 = Nat.ble (c + 1) 256 from rfl]
  exact Nat.ble_eq_true_of_le hc
 have hsb : Nat.ble s.length 4000000000 = true := Nat.ble_eq_true_of_le (by omega)
 have e3 : tC [.s s, .s [c]] h = some (.i .i64 (Int.ofNat (gP c s)), h) := by
  simp only [tC, hcb, hsb, cond_true]
 unfold oH
 simp only [e1, aJ, e2, e3, kH]
 by_cases hz : gP c s = 0
 ·have l1 : (Int.ofNat (gP c s) != Int.ofNat 0) = false := by rw [hz]; rfl
  simp only [l1, bO]
  unfold oG
  simp only [bH i 1 _ (show i + 1 < _ by omega), aJ, hz, Nat.add_zero, ne_eq, not_true, decide_false, Bool.or_false]
 ·have l1 : (Int.ofNat (gP c s) != Int.ofNat 0) = true := by
   rw [bne_iff_ne]
   intro e
   exact hz (Int.ofNat.inj e)
  have e4 : aD .mul (.i .i64 (Int.ofNat (gP c s))) (.i .i64 (Int.ofNat 1)) h = some (.i .i64 (Int.ofNat (gP c s)), h) := by
   have := dAm (gP c s) 1 h (by omega)
   rwa [Nat.mul_one] at this
  simp only [l1, aZ, show bY (.s [c]) (.i .i64 (Int.ofNat 0)) h = some (bD c, h) from rfl, aJ, aSo, aTy, Nat.add_zero, bXr c hc, R.rep hc, hrep, sR, cNl, e4, bH sz (gP c s) h (by omega)]
  unfold oG
  simp only [bH i 1 _ (show i + 1 < _ by omega), aJ, hz, ne_eq, not_false_eq_true, decide_true, Bool.or_true]
theorem aLc (c : Nat) : ∀ s : Bs, gP c s ≤ s.length
 | [] => Nat.le_refl _
 | x :: t => by
  have := aLc c t
  unfold gP
  cases Nat.beq x c <;> simp <;> omega
theorem cAk (hs : s.length < 1000000) (hb : ∀ c ∈ s, c < 256) (hn : s.length + 10 < n) {h : Hp} (R : Rp h b b1 b2 b3 bT) : ∃ h', s582 rec n (.p b 0) (.s s) h = some (.s (bP s), h') := by
 unfold s582 aKf aGz aHb
 simp only [fA, aJ, aSo, aTy, Nat.zero_add, R.tab, sR, show ∀ h, aD .mul (.i .i64 (Int.ofNat 3)) (.i .i64 (Int.ofNat 8)) h = some (.i .i64 (Int.ofNat 24), h) from fun _ => rfl, uN]
 unfold wM
 by_cases c : 24 ≤ s.length
 ·have l1 : decide (Int.ofNat 24 ≤ Int.ofNat s.length) = true := decide_eq_true (by show ((24 : Nat) : Int) ≤ (s.length : Int); omega)
  simp only [l1, aZ]
  unfold aHz
  simp only [aJ, aSo, aTy, Nat.zero_add, R.tab, sR]
  obtain ⟨n, rfl⟩ : ∃ j, n = j + 1 + 1 + 1 + 1 := ⟨n - 4, by omega⟩
  obtain ⟨kT, hT⟩ := R.tr
  have q1 := aLc 92 s
  have q2 := aLc 34 s
  have q3 := aLc 10 s
  have qs := aZd s
  have lt : ∀ i, i < 3 → decide (Int.ofNat i < Int.ofNat 3) = true := fun i hi => decide_eq_true (by show (i : Int) < ((3 : Nat) : Int); omega)
  have l33 : decide (Int.ofNat 3 < Int.ofNat 3) = false := rfl
  have step : ∀ (m i sz : Nat) (any : Bool), i < 3 → iA rec (n + 1 + 1 + 1 + 1) (m + 1) (.p b 0) (.s s) (.i .i64 (Int.ofNat sz)) (.b any) (.l bT 0 3 3) (.i .i64 (Int.ofNat 3)) (.i .i64 (Int.ofNat i)) h = oH rec (n + 1 + 1 + 1 + 1) (iA rec (n + 1 + 1 + 1 + 1) m) (.p b 0) (.s s) (.i .i64 (Int.ofNat sz)) (.b any) (.l bT 0 3 3) (.i .i64 (Int.ofNat 3)) (.i .i64 (Int.ofNat i)) h := by
   intro m i sz any hi
   show mA rec _ (iA rec _ m) _ _ _ _ _ _ _ h = _
   unfold mA rT
   simp only [cH, lt i hi, aJ, aZ]
  have last : ∀ (m sz : Nat) (any : Bool), iA rec (n + 1 + 1 + 1 + 1) (m + 1) (.p b 0) (.s s) (.i .i64 (Int.ofNat sz)) (.b any) (.l bT 0 3 3) (.i .i64 (Int.ofNat 3)) (.i .i64 (Int.ofNat 3)) h = bB rec (n + 1 + 1 + 1 + 1) (.p b 0) (.s s) (.i .i64 (Int.ofNat sz)) (.b any) h := by
   intro m sz any
   show mA rec _ (iA rec _ m) _ _ _ _ _ _ _ h = _
   unfold mA rT
   simp only [cH, l33, aJ, bO]
  unfold wR aJd
  rw [step _ 0 _ _ (by omega), aAr (c := 92) (q := b3) (y := 92) hs (by omega) R 0 _ (by omega) ⟨kT, _, hT, rfl⟩ rfl (by omega),
   step _ 1 _ _ (by omega), aAr (c := 34) (q := b2) (y := 34) hs (by omega) R 1 _ (by omega) ⟨kT, _, hT, rfl⟩ rfl (by omega),
   step _ 2 _ _ (by omega), aAr (c := 10) (q := b1) (y := 110) hs (by omega) R 2 _ (by omega) ⟨kT, _, hT, rfl⟩ rfl (by omega), last]
  rw [show s.length + gP 92 s + gP 34 s + gP 10 s = s.length + gX s by omega]
  exact aOi hs hb (by omega) R _ (by
   rw [← qs]
   by_cases z1 : gP 92 s = 0
   ·by_cases z2 : gP 34 s = 0
    ·by_cases z3 : gP 10 s = 0
     ·simp [z1, z2, z3]
     ·simp [z1, z2, z3]
    ·simp [z1, z2]
   ·simp [z1])
 ·have l1 : decide (Int.ofNat 24 ≤ Int.ofNat s.length) = false := decide_eq_false (by show ¬ ((24 : Nat) : Int) ≤ (s.length : Int); omega)
  simp only [l1, bO]
  obtain ⟨h', hh⟩ := bFq (rec := rec) hs hb (by omega : s.length < n) R s.length 0 n false (by omega) (by omega) (by simp [gX])
  exact ⟨h', hh⟩
end
end Go.Dd

namespace Go.Dd
open Go.Proofs
theorem aKq (a b : Bs) : tD a b = decide (a = b) := by
 rw [Bool.eq_iff_iff, mU, decide_eq_true_eq]
theorem fZ (a b : Bs) (h : Hp) : cM .eql (.s a) (.s b) h = some (.b (decide (a = b)), h) := by
 show some (DV.b (tD a b), h) = _
 rw [aKq]
theorem sI (a b : Bs) (h : Hp) : cM .neq (.s a) (.s b) h = some (.b (!decide (a = b)), h) := by
 show some (DV.b (!tD a b), h) = _
 rw [aKq]
theorem cX (a b : Bs) (h : Hp) (hl : a.length + b.length < 4611686018427387904) : cM .add (.s a) (.s b) h = some (.s (a ++ b), h) := by
 have e : ¬ ((a.length + b.length : Nat) : Int) > IntKind.i64.max := by
  have : IntKind.i64.max = 9223372036854775807 := by decide
  rw [this]
  omega
 simp only [cM, aRo, if_neg e]
def TxS (v : DV) (l : List Bs) (h : Hp) : Prop := ((v = .l0 ∨ v = .le) ∧ l = []) ∨ ∃ b o cap k row, v = .l b o l.length cap ∧ h.bl.get b = some (.row k row) ∧ (∀ j, j < l.length → row[o + j]? = (l[j]?).map DV.s) ∧ b.toNat < h.next.toNat ∧ l.length ≤ cap
theorem TxS.stay {v : DV} {l : List Bs} {h h' : Hp} (T : TxS v l h) (L : Lo h.next.toNat h h') : TxS v l h' := by
 rcases T with T | ⟨b, o, cap, k, row, e1, e2, e3, e4⟩
 ·exact .inl T
 ·exact .inr ⟨b, o, cap, k, row, e1, by rw [L.get b e4.1]; exact e2, e3, Nat.lt_of_lt_of_le e4.1 L.next, e4.2⟩
theorem TxS.stay' {v : DV} {l : List Bs} {h h' : Hp} (T : TxS v l h) (hn : h.next.toNat ≤ h'.next.toNat) (hg : ∀ b o len cap, v = .l b o len cap → h'.bl.get b = h.bl.get b) : TxS v l h' := by
 rcases T with T | ⟨b, o, cap, k, row, e1, e2, e3, e4⟩
 ·exact .inl T
 ·exact .inr ⟨b, o, cap, k, row, e1, by rw [hg b o _ cap e1]; exact e2, e3, Nat.lt_of_lt_of_le e4.1 hn, e4.2⟩
theorem TxS.one {v : DV} {l : List Bs} {h : Hp} (T : TxS v l h) : v.one = true := by
 rcases T with ⟨rfl | rfl, _⟩ | ⟨b, o, cap, k, row, rfl, _⟩ <;> rfl
theorem TxS.cells {v : DV} {l : List Bs} {h : Hp} (T : TxS v l h) : dD v = some [v] := by
 rcases T with ⟨rfl | rfl, _⟩ | ⟨b, o, cap, k, row, rfl, _⟩ <;> rfl
theorem TxS.len {v : DV} {l : List Bs} {h : Hp} (T : TxS v l h) (g : Hp) : cQ v g = some (.i .i64 (Int.ofNat l.length), g) := by
 rcases T with ⟨rfl | rfl, rfl⟩ | ⟨b, o, cap, k, row, rfl, _⟩ <;> rfl
theorem TxS.at {v : DV} {l : List Bs} {h : Hp} (T : TxS v l h) {i : Nat} {t : Bs} (hi : l[i]? = some t) : ∃ p, (∀ g, aE 1 v (.i .i64 (Int.ofNat i)) g = some (p, g)) ∧ aA p h = some (.s t, h) := by
 have hlt : i < l.length := by
  rcases Nat.lt_or_ge i l.length with h | h
  ·exact h
  ·rw [List.getElem?_eq_none h] at hi; cases hi
 rcases T with ⟨_, rfl⟩ | ⟨b, o, cap, k, row, rfl, e2, e3, e4⟩
 ·simp at hlt
 ·refine ⟨.p b (o + i), fun g => ?_, ?_⟩
  ·unfold aE
   simp only
   rw [if_pos (by show (0 : Int) ≤ (i : Int) ∧ (i : Int) < (l.length : Int); omega)]
   show some (DV.p b (o + (i : Int).toNat * 1), g) = _
   simp
  ·have := e3 i hlt
   rw [hi] at this
   simp only [aA, cellD, rowOf, e2, this, Option.map_some, DV.one, if_true]
theorem TxS.drop {v : DV} {l : List Bs} {h : Hp} (T : TxS v l h) {i : Nat} (hi : i ≤ l.length) : ∃ v', dN 1 v (some (.i .i64 (Int.ofNat i))) none h = some (v', h) ∧ TxS v' (l.drop i) h := by
 rcases T with ⟨hv, rfl⟩ | ⟨b, o, cap, k, row, rfl, e2, e3, e4, e5⟩
 ·have : i = 0 := by simpa using hi
  subst this
  rcases hv with rfl | rfl
  ·exact ⟨.l0, rfl, .inl ⟨.inl rfl, rfl⟩⟩
  ·exact ⟨.le, rfl, .inl ⟨.inr rfl, rfl⟩⟩
 ·have q1 : hiD none l.length cap = some l.length := by simp [hiD, e5]
  have q2 : loD (some (.i .i64 (Int.ofNat i))) l.length = some i := by
   simp only [loD, fM]
   rw [if_pos (by show (0 : Int) ≤ (i : Int) ∧ (i : Int) ≤ (l.length : Int); omega)]
   rfl
  have main : ∀ o', (o' = o + i ∨ i = l.length) → TxS (.l b o' (l.length - i) (cap - i)) (l.drop i) h := fun o' ho => .inr ⟨b, o', cap - i, k, row, by rw [List.length_drop], e2, fun j hj => by
   rw [List.length_drop] at hj
   rcases ho with rfl | ho
   ·rw [List.getElem?_drop, ← e3 (i + j) (by omega)]
    congr 1
    omega
   ·omega, e4, by rw [List.length_drop]; omega⟩
  have gr : ∀ (c : Prop) [Decidable c], (c → i = l.length) → ∃ v', (if c then some (DV.le, h) else some (DV.l b (o + i * 1) (l.length - i) (cap - i), h)) = some (v', h) ∧ TxS v' (l.drop i) h := by
   intro c _ hc
   by_cases q : c
   ·rw [if_pos q]
    refine ⟨_, rfl, .inl ⟨.inr rfl, ?_⟩⟩
    rw [hc q, List.drop_length]
   ·rw [if_neg q, Nat.mul_one]
    exact ⟨_, rfl, main _ (.inl rfl)⟩
  have eq : cap = i → i = l.length := fun h => by omega
  cases k with
  | ro =>
   refine ⟨_, by simp only [dN, q1, q2, e2]; rfl, ?_⟩
   by_cases q : cap = i
   ·rw [if_pos q]; exact main _ (.inr (eq q))
   ·rw [if_neg q, Nat.mul_one]; exact main _ (.inl rfl)
  | ex =>
   refine ⟨_, by simp only [dN, q1, q2, e2]; rfl, ?_⟩
   by_cases q : cap = i
   ·rw [if_pos q]; exact main _ (.inr (eq q))
   ·rw [if_neg q, Nat.mul_one]; exact main _ (.inl rfl)
  | gr es =>
   have := gr (cap = i) eq
   simpa only [dN, q1, q2, e2] using this
  | sp =>
   have := gr (cap = i) eq
   simpa only [dN, q1, q2, e2] using this
theorem GrS.txs {v : DV} {l : List Bs} {lo : Nat} {h : Hp} (G : GrS v (l.map DV.s) lo h) : TxS v l h := by
 rcases G with ⟨rfl, e⟩ | ⟨b, rfl, e2, e3, e4⟩
 ·exact .inl ⟨.inl rfl, by simpa using e⟩
 ·exact .inr ⟨b, 0, l.length, _, _, by simp, e2, fun j _ => by simp, e4, Nat.le_refl _⟩
def StC (ca : List DV) (st : Stp) (h : Hp) : Prop := ∃ v, ca = [.i .i64 st.op, .s st.nm, .s st.sup, v, .s st.tx, .i .i64 st.n] ∧ TxS v st.names h
theorem StC.stay {ca : List DV} {st : Stp} {h h' : Hp} (T : StC ca st h) (L : Lo h.next.toNat h h') : StC ca st h' := by
 obtain ⟨v, e, t⟩ := T
 exact ⟨v, e, t.stay L⟩
theorem StC.len {ca : List DV} {st : Stp} {h : Hp} (T : StC ca st h) : ca.length = 6 := by
 obtain ⟨v, rfl, _⟩ := T; rfl
theorem StC.one {ca : List DV} {st : Stp} {h : Hp} (T : StC ca st h) : ∀ v ∈ ca, v.one = true := by
 obtain ⟨v, rfl, t⟩ := T
 intro u hu
 simp only [List.mem_cons, List.not_mem_nil, or_false] at hu
 rcases hu with rfl | rfl | rfl | rfl | rfl | rfl <;> first | rfl | exact t.one
theorem cHh (cs : List DV) (h : Hp) : dB (.a cs) h = some (.p h.next 0, ⟨h.next.succ, Tr.set (.row .ex cs) h.next h.bl⟩) := rfl
theorem aDv (cs : List DV) (h : Hp) : cJ cs h = some (.p h.next 0, ⟨h.next.succ, Tr.set (.row .ex cs) h.next h.bl⟩) := rfl
theorem qP (b : Pos) (o k : Nat) (h : Hp) : aB k (.p b o) h = some (.p b (o + k), h) := rfl
theorem qZ {b : Pos} {k : Kind} {row : List DV} {o : Nat} {v : DV} {h : Hp} (hg : h.bl.get b = some (.row k row)) (hv : row[o]? = some v) (ho : v.one = true) : aA (.p b o) h = some (v, h) := by
 simp only [aA, cellD, rowOf, hg, hv, ho, if_true]
theorem ld6 {b : Pos} {k : Kind} {row : List DV} {h : Hp} (hg : h.bl.get b = some (.row k row)) (hl : row.length = 6) (ho : ∀ v ∈ row, v.one = true) : aK 6 (.p b 0) h = some (.a row, h) := by
 have := kP row ho
 rw [hl] at this
 simp only [aK, cellsAt, rowOf, hg, List.drop_zero, this]
theorem aOo : ∀ (l vs : List DV), l.length = vs.length → (∀ v ∈ l, v.one = true) → (∀ v ∈ vs, v.one = true) → jY l vs = some vs
 | [], [], _, _, _ => rfl
 | x :: l, v :: vs, h, h1, h2 => by
  show (if x.one && v.one then (jY l vs).map (v :: ·) else none) = _
  have e := aOo l vs (by simpa using h) (fun z hz => h1 z (by simp [hz])) (fun z hz => h2 z (by simp [hz]))
  rw [h1 x (by simp), h2 v (by simp), e]
  rfl
theorem st6 {b : Pos} {row ca : List DV} {h : Hp} (hg : h.bl.get b = some (.row .ex row)) (hl : row.length = 6) (ho : ∀ v ∈ row, v.one = true) (hc : ca.length = 6) (h1 : ∀ v ∈ ca, v.one = true) :
  aH 6 (.p b 0) (.a ca) h = some (aR, ⟨h.next, Tr.set (.row .ex ca) b h.bl⟩) := by
 have : fT 0 row ca = some ca := aOo row ca (by rw [hl, hc]) ho h1
 simp only [aH, dD, hc, if_true, cP, hg, this, Kind.writable]
theorem Lo.new (o : Ob) (h : Hp) : Lo h.next.toNat h ⟨h.next.succ, Tr.set o h.next h.bl⟩ := ⟨by rw [dQh]; exact Nat.le_succ _, fun p hp => dQf _ _ _ _ (fun e => by subst e; exact Nat.lt_irrefl _ hp)⟩
theorem Lo.set {lo : Nat} {h : Hp} (o : Ob) {b : Pos} (hb : lo ≤ b.toNat) : Lo lo h ⟨h.next, Tr.set o b h.bl⟩ := ⟨Nat.le_refl _, fun p hp => dQf _ _ _ _ (fun e => by subst e; omega)⟩
theorem Lo.mono {lo lo' : Nat} {a b : Hp} (u : Lo lo a b) (h : lo' ≤ lo) : Lo lo' a b := ⟨u.next, fun p hp => u.get p (Nat.lt_of_lt_of_le hp h)⟩
section
variable {rec : RT} {n : Nat}
theorem aGa {a b : Nat} : (Int.ofNat a != Int.ofNat b) = !decide (a = b) := by
 by_cases h : a = b
 ·subst h; simp
 ·have : Int.ofNat a ≠ Int.ofNat b := fun e => h (Int.ofNat.inj e)
  rw [decide_eq_false h]
  exact bne_iff_ne.2 this
theorem nbI (a b : Int) : (a != b) = !decide (a = b) := by
 by_cases h : a = b
 ·subst h; simp
 ·simp [h]
theorem iD (c : Bool) (x y : aG) : aX (.b c) x y = if c = true then x else y := by cases c <;> rfl
theorem gDt (c : Bool) (r : aG) (h : Hp) : gD (.b c) true r h = if c = true then r else some (aR, h) := by cases c <;> rfl
theorem aRa {p q : Pos} {ra rb : List DV} {va vb : DV} {la lb : List Bs} {h : Hp} (hp : h.bl.get p = some (.row .ex ra)) (hq : h.bl.get q = some (.row .ex rb)) (e1 : ra[3]? = some va) (e2 : rb[3]? = some vb) (Ta : TxS va la h) (Tb : TxS vb lb h) (hl : la.length = lb.length) (hlen : la.length < 1000000000) :
  ∀ (k i m : Nat), i + k = la.length → k < m → nQ rec n m (.p p 0) (.p q 0) (.i .i64 (Int.ofNat i)) h = some (.b (decide (la.drop i = lb.drop i)), h) := by
 intro k
 induction k with
 | zero =>
  intro i m hi hm
  obtain ⟨m, rfl⟩ : ∃ j, m = j + 1 := ⟨m - 1, by omega⟩
  have l1 : decide (Int.ofNat i < Int.ofNat la.length) = false := decide_eq_false (by show ¬ (i : Int) < (la.length : Int); omega)
  show tN rec n (nQ rec n m) _ _ _ h = _
  unfold tN gS
  simp only [qP, Nat.zero_add, aJ, qZ hp e1 Ta.one, Ta.len, cH, l1, bO]
  rw [List.drop_of_length_le (by omega), List.drop_of_length_le (by omega)]
  simp
 | succ k ih =>
  intro i m hi hm
  obtain ⟨m, rfl⟩ : ∃ j, m = j + 1 := ⟨m - 1, by omega⟩
  have hia : i < la.length := by omega
  have hib : i < lb.length := by omega
  have l1 : decide (Int.ofNat i < Int.ofNat la.length) = true := decide_eq_true (by show (i : Int) < (la.length : Int); omega)
  obtain ⟨pa, a1, a2⟩ := Ta.at (List.getElem?_eq_getElem hia)
  obtain ⟨pb, b1, b2⟩ := Tb.at (List.getElem?_eq_getElem hib)
  show tN rec n (nQ rec n m) _ _ _ h = _
  unfold tN
  simp only [qP, Nat.zero_add, aJ, qZ hp e1 Ta.one, Ta.len, cH, l1, aZ, a1, a2, qZ hq e2 Tb.one, b1, b2, sI]
  rw [List.drop_eq_getElem_cons hia, List.drop_eq_getElem_cons hib]
  by_cases e : la[i] = lb[i]
  ·simp only [e, decide_true, Bool.not_true, bO, bH i 1 h (by omega), aJ]
   rw [ih (i + 1) m (by omega) (by omega)]
   simp only [List.cons.injEq, true_and]
  ·simp only [List.cons.injEq, e, false_and, decide_false, Bool.not_false, aZ]
theorem bNx {ca cb : List DV} {a b : Stp} {h : Hp} (A : StC ca a h) (B : StC cb b h) (hlen : a.names.length < 1000000000) (hn : a.names.length < n) :
  ∃ h', s21 rec n (.a ca) (.a cb) h = some (.b (decide (a = b)), h') ∧ Lo h.next.toNat h h' := by
 obtain ⟨va, rfl, Ta⟩ := A
 obtain ⟨vb, rfl, Tb⟩ := B
 have ns := dQh h.next
 have ne : h.next ≠ h.next.succ := fun e => by have := congrArg Pos.toNat e; omega
 let ra : List DV := [.i .i64 a.op, .s a.nm, .s a.sup, va, .s a.tx, .i .i64 a.n]
 let rb : List DV := [.i .i64 b.op, .s b.nm, .s b.sup, vb, .s b.tx, .i .i64 b.n]
 let h1 : Hp := ⟨h.next.succ, Tr.set (.row .ex ra) h.next h.bl⟩
 let h2 : Hp := ⟨h.next.succ.succ, Tr.set (.row .ex rb) h.next.succ h1.bl⟩
 have L : Lo h.next.toNat h h2 := (Lo.new (.row .ex ra) h).trans ((Lo.new (.row .ex rb) h1).mono (show h.next.toNat ≤ h.next.succ.toNat by omega))
 have hp : h2.bl.get h.next = some (.row .ex ra) := by
  show (Tr.set _ h.next.succ (Tr.set _ h.next h.bl)).get h.next = _
  rw [dQf _ _ _ _ ne, dQg]
 have hq : h2.bl.get h.next.succ = some (.row .ex rb) := dQg _ _ _
 refine ⟨h2, ?_, L⟩
 have Ta' := Ta.stay L
 have Tb' := Tb.stay L
 unfold s21 aDa
 simp only [cHh, aJ]
 show bnd (aB 0 (.p h.next 0) h2) _ = _
 have a0 : aA (.p h.next 0) h2 = some (.i .i64 a.op, h2) := qZ hp rfl rfl
 have a1 : aA (.p h.next 1) h2 = some (.s a.nm, h2) := qZ hp rfl rfl
 have a2 : aA (.p h.next 2) h2 = some (.s a.sup, h2) := qZ hp rfl rfl
 have a3 : aA (.p h.next 3) h2 = some (va, h2) := qZ hp rfl Ta.one
 have a4 : aA (.p h.next 4) h2 = some (.s a.tx, h2) := qZ hp rfl rfl
 have a5 : aA (.p h.next 5) h2 = some (.i .i64 a.n, h2) := qZ hp rfl rfl
 have b0 : aA (.p h.next.succ 0) h2 = some (.i .i64 b.op, h2) := qZ hq rfl rfl
 have b1 : aA (.p h.next.succ 1) h2 = some (.s b.nm, h2) := qZ hq rfl rfl
 have b2 : aA (.p h.next.succ 2) h2 = some (.s b.sup, h2) := qZ hq rfl rfl
 have b3 : aA (.p h.next.succ 3) h2 = some (vb, h2) := qZ hq rfl Tb.one
 have b4 : aA (.p h.next.succ 4) h2 = some (.s b.tx, h2) := qZ hq rfl rfl
 have b5 : aA (.p h.next.succ 5) h2 = some (.i .i64 b.n, h2) := qZ hq rfl rfl
 simp only [qP, Nat.zero_add, aJ, a0, b0, kH, nbI]
 by_cases c0 : a.op = b.op
 case neg =>
  have : a ≠ b := fun e => c0 (by rw [e])
  simp only [c0, decide_false, Bool.not_false, dP, aJ, bQ, aZ, this]
 simp only [c0, decide_true, Bool.not_true, eZ, qP, Nat.zero_add, aJ, a1, b1, sI, bU]
 by_cases c1 : a.nm = b.nm
 case neg =>
  have : a ≠ b := fun e => c1 (by rw [e])
  simp only [c1, decide_false, Bool.not_false, dP, aJ, bQ, aZ, this]
 simp only [c1, decide_true, Bool.not_true, eZ, qP, Nat.zero_add, aJ, a2, b2, sI, bU]
 by_cases c2 : a.sup = b.sup
 case neg =>
  have : a ≠ b := fun e => c2 (by rw [e])
  simp only [c2, decide_false, Bool.not_false, dP, aJ, bQ, aZ, this]
 simp only [c2, decide_true, Bool.not_true, eZ, qP, Nat.zero_add, aJ, a4, b4, sI, bU]
 by_cases c3 : a.tx = b.tx
 case neg =>
  have : a ≠ b := fun e => c3 (by rw [e])
  simp only [c3, decide_false, Bool.not_false, dP, aJ, bQ, aZ, this]
 simp only [c3, decide_true, Bool.not_true, eZ, qP, Nat.zero_add, aJ, a5, b5, kH, nbI, bU]
 by_cases c4 : a.n = b.n
 case neg =>
  have : a ≠ b := fun e => c4 (by rw [e])
  simp only [c4, decide_false, Bool.not_false, dP, aJ, bQ, aZ, this]
 simp only [c4, decide_true, Bool.not_true, eZ, qP, Nat.zero_add, aJ, a3, b3, Ta.len, Tb.len, kH, aGa, bU]
 by_cases c5 : a.names.length = b.names.length
 case neg =>
  have : a ≠ b := fun e => c5 (by rw [e])
  simp only [c5, decide_false, Bool.not_false, aZ, this]
 simp only [c5, decide_true, Bool.not_true, bO]
 have lp := aRa (rec := rec) (n := n) hp hq rfl rfl Ta' Tb' c5 hlen a.names.length 0 n (by omega) hn
 show nQ rec n n (.p h.next 0) (.p h.next.succ 0) (.i .i64 (Int.ofNat 0)) h2 = _
 rw [lp]
 have : (decide (List.drop 0 a.names = List.drop 0 b.names)) = decide (a = b) := by
  rw [List.drop_zero, List.drop_zero]
  obtain ⟨o1, n1, s1, m1, t1, k1⟩ := a
  obtain ⟨o2, n2, s2, m2, t2, k2⟩ := b
  simp only at c0 c1 c2 c3 c4
  subst c0 c1 c2 c3 c4
  simp
 rw [this]
end
end Go.Dd

namespace Go.Dd
open Go.Proofs Go.RowKit
theorem cHe (G : Gd) (g : FuncId) (F : List DV → Hp → aG) (h : CFq.I g = some F) : gF CFq.P G g F := by
 unfold CFq at h
 dsimp only at h
 cases h47 : Nat.beq g 47 with
 | true =>
  rw [h47] at h
  cases Nat.eq_of_beq_eq_true h47
  simp only [cond_true, aT] at h
  subst h
  exact bQe G
 | false =>
  rw [h47] at h
  cases h66 : Nat.beq g 66 with
  | true =>
   rw [h66] at h
   cases Nat.eq_of_beq_eq_true h66
   simp only [cond_false, cond_true, aT] at h
   subst h
   exact cDp G
  | false => rw [h66] at h; cases h
theorem aXt (r : aG) (f g : DV → Hp → aG) : bnd (bnd r f) g = bnd r fun v h => bnd (f v h) g := by
 cases r <;> rfl
noncomputable def preQ : aG :=
 bnd (aN [(.s []), (.s []), (.s []), (.s []), (.s []), (.s [])] 6 [(0, 1, (.s [10])), (1, 1, (.s [92, 110])), (2, 1, (.s [34])), (3, 1, (.s [92, 34])), (4, 1, (.s [92])), (5, 1, (.s [92, 92]))] ⟨cV 1, .e⟩) fun v1 h1 =>
 bnd (s42 (mZ CFq 199998) 199998 v1 h1) fun v2 h2 =>
 bnd (aY v2 h2) fun w1 h1 =>
 bnd (aB 0 w1 h1) fun w2 h2 =>
 bnd (aDf [w2, (.f 67 [v2] [])] h2) fun w3 h3 =>
 bnd (aY v2 h3) fun w4 h4 =>
 bnd (aB 3 w4 h4) fun w5 h5 =>
 aA w5 h5
noncomputable def bPe (r : aG) (p : Pos) : Option Ob := match r with
 | some (_, h) => h.bl.get p
 | none => none
noncomputable def dQc (r : aG) : DV := match r with
 | some (v, _) => v
 | none => .u
noncomputable def dLf (r : aG) : Pos := match r with
 | some (_, h) => h.next
 | none => cV 1
theorem bQr : preQ.isSome = true := by kernel_rfl
theorem cFx : dQc preQ = .c 258 (.p (cV 5) 0) := by kernel_rfl
theorem cGo : dLf preQ = cV 15 := by kernel_rfl
theorem cEz : bPe preQ (cV 5) = some (.row .ex (uS (cV 14) (cV 11) (cV 8) (cV 4))) := by kernel_rfl
theorem cEb : bPe preQ (cV 4) = some (.row .ex [.s [92], .s [34], .s [10]]) := by kernel_rfl
theorem cTb : bPe preQ (cV 14) = some (.row (.gr 1) [bD 92, bD 110]) := by kernel_rfl
theorem dBb : bPe preQ (cV 11) = some (.row (.gr 1) [bD 92, bD 34]) := by kernel_rfl
theorem cZu : bPe preQ (cV 8) = some (.row (.gr 1) [bD 92, bD 92]) := by kernel_rfl
theorem cTy : ∃ h, preQ = some (.c 258 (.p (cV 5) 0), h) ∧ Rp h (cV 5) (cV 14) (cV 11) (cV 8) (cV 4) := by
 have e0 := bQr
 have e1 := cFx
 have e2 := cGo
 have e3 := cEz
 have e4 := cEb
 have e5 := cTb
 have e6 := dBb
 have e7 := cZu
 cases h : preQ with
 | none => rw [h] at e0; cases e0
 | some p =>
  obtain ⟨v, g⟩ := p
  rw [h] at e1 e2 e3 e4 e5 e6 e7
  change v = _ at e1
  change g.next = _ at e2
  subst e1
  refine ⟨g, rfl, e3, ⟨_, e4⟩, e5, e6, e7, ?_⟩
  rw [e2]
  refine ⟨?_, ?_, ?_, ?_, ?_⟩ <;> decide +kernel
theorem cVi : bPj CFq.P 258 "Replace" = some 582 := by kernel_rfl
theorem cZh : CFq.I 582 = none := by kernel_rfl
theorem bIm : ∀ s : Bs, gX s ≤ s.length
 | [] => by simp [gX]
 | x :: t => by
  have := bIm t
  simp only [gX, List.length_cons]
  split <;> omega
theorem aOy {s : Bs} (hs : s.length ≤ 100000) (hb : ∀ c ∈ s, c < 256) : ∃ g, mZ CFq 200000 25 [.s s] ⟨cV 1, .e⟩ = some (.s (34 :: (bP s ++ [34])), g) := by
 obtain ⟨h, e, R⟩ := cTy
 obtain ⟨g, q⟩ := cAk (rec := mZ CFq 199997) (n := 199997) (by omega) hb (by omega) R
 refine ⟨g, ?_⟩
 have e25 : mZ CFq 200000 25 [.s s] ⟨cV 1, .e⟩ = s25 (mZ CFq 199999) 199999 (.s s) ⟨cV 1, .e⟩ := dDm (mZ CFq 199999) 199999 [.s s] ⟨cV 1, .e⟩
 have e42 : ∀ (v : DV) (h : Hp), mZ CFq 199999 42 [v] h = s42 (mZ CFq 199998) 199998 v h := fun v h => dGz (mZ CFq 199998) 199998 [v] h
 have e43 : ∀ (v w : DV) (h : Hp), mZ CFq 199999 43 [v, w] h = s43 (mZ CFq 199998) 199998 v w h := fun v w h => dIl (mZ CFq 199998) 199998 [v, w] h
 have e582 : ∀ (v w : DV) (h : Hp), mZ CFq 199998 582 [v, w] h = s582 (mZ CFq 199997) 199997 v w h := fun v w h => cRx (mZ CFq 199997) 199997 [v, w] h
 rw [e25]
 have inv : ∀ h, aUj CFq (mZ CFq 199998) (.c 258 (.p (cV 5) 0)) "Replace" [.s s] h = mZ CFq 199998 582 [.p (cV 5) 0, .s s] h := by
  intro h
  unfold aUj
  simp only [cVi]
  unfold jF cA
  simp only [cZh]
  rfl
 unfold s25
 simp only [e42, e43]
 unfold s43
 have split : ∀ k : DV → Hp → aG, bnd preQ k = (bnd (aN [(.s []), (.s []), (.s []), (.s []), (.s []), (.s [])] 6 [(0, 1, (.s [10])), (1, 1, (.s [92, 110])), (2, 1, (.s [34])), (3, 1, (.s [92, 34])), (4, 1, (.s [92])), (5, 1, (.s [92, 92]))] ⟨cV 1, .e⟩) fun v1 h1 =>
   bnd (s42 (mZ CFq 199998) 199998 v1 h1) fun v2 h2 =>
   bnd (aY v2 h2) fun w1 h1 =>
   bnd (aB 0 w1 h1) fun w2 h2 =>
   bnd (aDf [w2, (.f 67 [v2] [])] h2) fun w3 h3 =>
   bnd (aY v2 h3) fun w4 h4 =>
   bnd (aB 3 w4 h4) fun w5 h5 =>
   bnd (aA w5 h5) k) := by
  intro k
  unfold preQ
  simp only [aXt]
 have key := split (fun w6 h6 => bnd (bnd (aUj CFq (mZ CFq 199998) w6 "Replace" [.s s] h6) fun w7 h7 => some (w7, h7)) fun v3 h3 => bnd (cM .add (.s [34]) v3 h3) fun v4 h4 => bnd (cM .add v4 (.s [34]) h4) fun v5 h5 => some (v5, h5))
 simp only [aXt] at key ⊢
 refine key.symm.trans ?_
 rw [e, aJ, inv, e582, q, aJ, aJ]
 have q1 := jE s
 have sle := bIm s
 have a1 : cM .add (.s [34]) (.s (bP s)) g = some (.s ([34] ++ bP s), g) := cX _ _ _ (by simp; omega)
 have a2 : cM .add (.s ([34] ++ bP s)) (.s [34]) g = some (.s ([34] ++ bP s ++ [34]), g) := cX _ _ _ (by simp; omega)
 rw [a1, aJ, a2, aJ]
 simp
theorem bDi (G : Gd) : gF CF1.P G 25 iZ := by
 intro args h v h1 hr ρ w args' H hargs
 unfold iZ at hr
 split at hr <;> (try (cases hr; done))
 rename_i s
 cases hc : Nat.ble s.length 100000 with
 | false => rw [hc] at hr; cases hr
 | true =>
 rw [hc] at hr
 simp only [cond_true, aT, bF] at hr
 obtain ⟨rfl, rfl⟩ := hr
 have hs := Nat.le_of_ble_eq_true hc
 obtain ⟨a⟩ := args'
 cases hargs with
 | cons _ x' l1 l1' hx hxs =>
 cases hxs
 cases hx with
 | s _ bs hbs =>
 have hb : ∀ c ∈ s, c < 256 := fun c hc => by
  rw [← hbs] at hc
  simp only [List.mem_map] at hc
  obtain ⟨u, _, rfl⟩ := hc
  exact u.toNat_lt
 obtain ⟨g, hg⟩ := aOy hs hb
 refine .inl ⟨zX Tryz.func25 (by kernel_rfl) _ _, ?_⟩
 refine (aCq (F := mZ CFq 200000 25) (fun G => aGy (C := CFq) Try_ok cHe 200000 G 25) hg Tryz.f25 Tryz.func25 (by kernel_rfl) w (G.ok w H.gl) #[.string bs] (.cons _ _ _ _ (.s _ bs hbs) .nil)).mono ?_
 rintro e w' ⟨ρ', v', rfl, hv, _, hbel, _⟩
 cases hv with
 | s _ bs' hbs' => exact ⟨ρ, _, rfl, Ex.refl _ _, .s _ bs' hbs', H.later hbel, Kp.later H hbel⟩
end Go.Dd

namespace Go.Dd
open Go.Proofs Go.Lib Go.RowKit
theorem aNs (c : Nat) (hc : c < 256) : ∀ (l : List UInt8) (i : Nat), aLw c (l.map (·.toNat)) i = if indexByte l c.toUInt8 = -1 then -1 else indexByte l c.toUInt8 + i
 | [], i => rfl
 | b :: l, i => by
  have hb : Nat.beq b.toNat c = (b == c.toUInt8) := by
   rw [Bool.eq_iff_iff]
   constructor
   ·intro h
    have := Nat.eq_of_beq_eq_true h
    simp [← this]
   ·intro h
    have h2 : b = c.toUInt8 := by simpa using h
    rw [h2]
    have : (c.toUInt8).toNat = c := by simp [Nat.toUInt8]; omega
    rw [this]; simp
  show (bif Nat.beq b.toNat c then Int.ofNat i else aLw c (l.map (·.toNat)) (i + 1)) = _
  rw [hb]
  unfold indexByte
  cases h : (b == c.toUInt8) with
  | true => simp
  | false =>
   have ih := aNs c hc l (i + 1)
   have hge := indexByte_ge l c.toUInt8
   simp only [cond_false, Bool.false_eq_true, if_false]
   rw [ih]
   by_cases h1 : indexByte l c.toUInt8 = -1
   ·simp [h1]
   ·simp only [h1, if_false, beq_iff_eq]
    rw [if_neg (by omega)]
    omega
theorem cZm (G : Gd) : gF Tryz.prog G 68 aOt := by
 intro args h v h1 hr ρ w args' H hargs
 unfold aOt at hr
 split at hr <;> (try (cases hr; done))
 rename_i l c
 cases hc : Nat.blt c 256 with
 | false => rw [hc] at hr; cases hr
 | true =>
  rw [hc] at hr
  have hc' : c < 256 := by simpa using hc
  simp only [cond_true, aT, bF] at hr
  obtain ⟨rfl, rfl⟩ := hr
  obtain ⟨a⟩ := args'
  cases hargs with
  | cons x x' l1 l1' hx hxs =>
  cases hxs with
  | cons y y' l2 l2' hy hys =>
  cases hys
  cases hx with
  | s l bs hbs =>
  cases hy with
  | i k n =>
  refine .inr ⟨ρ, w, .int .i64 (indexByte bs.data.toList c.toUInt8), ?_, Ex.refl _ _, ?_, H, Kp.refl _ _⟩
  ·rw [run_callFunc_extern (fn := Tryz.f68) (e := Extern.BytealgIndexByte.indexByte) (by kernel_rfl) (by kernel_rfl) (by kernel_rfl) (by kernel_rfl) (by kernel_rfl)]
   rw [run_indexByteString bs (Int.ofNat c) w]
   rfl
  ·have e := aNs c hc' bs.data.toList 0
   rw [hbs] at e
   have e2 : aLw c l 0 = indexByte bs.data.toList c.toUInt8 := by
    rw [e]
    split
    ·rename_i h; exact h.symm
    ·simp
   rw [e2]
   exact .i _ _
theorem aIn (G : Gd) (g : FuncId) (F : List DV → Hp → aG) (h : CF1.I g = some F) : gF CF1.P G g F := by
 change qN g = some F at h
 unfold qN at h
 cases h1 : Nat.beq g 68 with
 | true => rw [h1] at h; cases h; cases Nat.eq_of_beq_eq_true h1; exact cZm G
 | false =>
 cases h2 : Nat.beq g 351 with
 | true => rw [h1, h2] at h; cases h; cases Nat.eq_of_beq_eq_true h2; exact cZg G
 | false =>
 cases h3 : Nat.beq g 24 with
 | true => rw [h1, h2, h3] at h; cases h; cases Nat.eq_of_beq_eq_true h3; exact aUy G
 | false =>
 cases h4 : Nat.beq g 235 with
 | true => rw [h1, h2, h3, h4] at h; cases h; cases Nat.eq_of_beq_eq_true h4; exact cEu G
 | false =>
 cases h5 : Nat.beq g 23 with
 | true => rw [h1, h2, h3, h4, h5] at h; cases h; cases Nat.eq_of_beq_eq_true h5; exact cCb G
 | false =>
 cases h6 : Nat.beq g 32 with
 | true => rw [h1, h2, h3, h4, h5, h6] at h; cases h; cases Nat.eq_of_beq_eq_true h6; exact bVt G
 | false =>
 cases h7 : Nat.beq g 33 with
 | true => rw [h1, h2, h3, h4, h5, h6, h7] at h; cases h; cases Nat.eq_of_beq_eq_true h7; exact cYl G
 | false =>
 cases h8 : Nat.beq g 74 with
 | true => rw [h1, h2, h3, h4, h5, h6, h7, h8] at h; cases h; cases Nat.eq_of_beq_eq_true h8; exact bFf G
 | false =>
 cases h9 : Nat.beq g 25 with
 | true => rw [h1, h2, h3, h4, h5, h6, h7, h8, h9] at h; cases h; cases Nat.eq_of_beq_eq_true h9; exact bDi G
 | false =>
 rw [h1, h2, h3, h4, h5, h6, h7, h8, h9] at h
 cases h
theorem aQa (n : Nat) (G : Gd) (f : FuncId) : gF Tryz.prog G f (fP CF1 n f) := bSn (C := CF1) Try_ok aIn cYm cUn n G f
end Go.Dd

namespace Go.Dd
open Go.Proofs
noncomputable def dF : RT := fun g args h => bif Nat.beq g 11 then (match args with
 | [] => some (.b true, h)
 | _ => none) else dA 20000000 g args h
theorem aOq {g : FuncId} (hg : Nat.beq g 11 = false) (args : List DV) (h : Hp) : dF g args h = dA 20000000 g args h := by
 unfold dF
 rw [hg, cond_false]
theorem cGy (h : Hp) : dF 11 [] h = some (.b true, h) := by
 unfold dF
 rw [show Nat.beq 11 11 = true from rfl, cond_true]
end Go.Dd

namespace Go.Dd
open Go.Proofs Go.RowKit
theorem bKa {f : FuncId} {args : List DV} {F : List DV → Hp → aG} {v : DV} {g1 : Hp} (hF : ∀ G, gF Tryz.prog G f F) (hr : F args hS = some (v, g1)) (fn : Func) (hf : Tryz.prog.funcs[f]? = some fn) (hb : fn.body.isSome = true)
  (w : World) (W : Facts w) (args' : Array Value) (hargs : VRs (fun _ => none) args args'.toList) :
  Calls Tryz.prog f args' w fun e w' => ∃ ρ' v', e = .returned v' ∧ VR ρ' v v' ∧ HR (gdS w W 1024) ρ' g1 w' ∧ Below w.heap.size w w' ∧ ∀ b L, ρ' b = some L → 1024 ≤ b.toNat := by
 have hp : (cV 1).toNat = 1024 := by kernel_rfl
 have H : HR (gdS w W 1024) (fun _ => none) hS w := HR.empty w W 1024 (cV 1) (by rw [hp]; exact Nat.le_refl _)
 rcases hF (gdS w W 1024) args hS v g1 hr _ w args' H hargs with ⟨_, h⟩ | ⟨ρ', w', v', h, _⟩
 ·refine h.mono ?_
  rintro e w' ⟨ρ', v', h1, h2, h3, h4, h5⟩
  exact ⟨ρ', v', h1, h3, h4, h5.low, fun b L hL => (h2.new b L hL).resolve_left (fun e => by cases e)⟩
 ·exfalso
  have hn : ¬ fn.name = "runtime.NumGoroutine" := by simpa using Try_ok.names f fn hf
  have hbn : fn.body ≠ none := by intro e; rw [e] at hb; cases hb
  unfold callFunc at h
  simp [hf, hn, hbn] at h
theorem bCx {f : FuncId} {F : List DV → Hp → aG} {r : Bool} {h1 : Hp} (hF : ∀ G, gF Tryz.prog G f F) {p : Pos} (hr : F [] ⟨p, .e⟩ = some (.b r, h1)) (fn : Func) (hf : Tryz.prog.funcs[f]? = some fn) (hb : fn.body.isSome = true) (G : Gd) :
  gF Tryz.prog G f (fun args h => match args with
   | [] => some (.b r, h)
   | _ => none) := by
 intro args h v h2 he ρ w args' H hargs
 cases args with
 | cons _ _ => cases he
 | nil =>
  simp only [aT, bF] at he
  obtain ⟨rfl, rfl⟩ := he
  have e0 : args' = #[] := by
   obtain ⟨a⟩ := args'
   cases hargs
   rfl
  subst e0
  refine .inl ⟨zX hf hb _ _, ?_⟩
  refine (aCq hF hr fn hf hb w (G.ok w H.gl) #[] .nil).mono ?_
  rintro e w' ⟨ρ', v', rfl, hv, _, hbel, _⟩
  cases hv
  exact ⟨ρ, _, rfl, Ex.refl _ _, .b _, H.later hbel, Kp.later H hbel⟩
theorem Sim.tf {a b c : Hp} (h : Sim true a b) (k : Sim false b c) : Sim false a c := ⟨k.next.trans h.next, fun p o hp => by
 obtain ⟨o', h1, h2⟩ := h.get p o hp
 rw [kY h2] at h1
 exact k.get p o h1⟩
theorem aCd (o : Ob) : wN true o o := by cases o <;> simp [wN]
theorem dSk : Sim false hS hS := ⟨rfl, fun b o hb => by cases b <;> cases hb⟩
theorem aVw (g : FuncId) (F : List DV → Hp → aG) (hg : CF.I g = some F) (n : Nat) (args : List DV) : SimP false (F args) (cA CF1 (fP CF1 (n + 12)) g args) := by
 have hcall : cA CF1 (fP CF1 (n + 12)) g args = fun h => match qN g with
  | some F => F args h
  | none => fP CF1 (n + 12) g args h := rfl
 rw [hcall]
 rcases aAj hg with h1 | ⟨h1, h2⟩
 ·rw [h1]; exact aEj h1 args
 ·rw [h1]; exact aLu g F h2 n args
theorem bIe {g : FuncId} (hg : CF.I g = none) : CF1.I g = none := (aLm hg).1
theorem aOu : ∃ g', fP CF1 912 55 [.i .i64 (.ofNat 30000)] hS = some (.t [.p (cV 7) 0, .i .i64 (.ofNat 0)], g') ∧ Sim false hN g' := by
 obtain ⟨g, h1, h2⟩ := cTh
 rw [aAm] at h1
 obtain ⟨g', h3, h4⟩ := aRz 900 55 [.i .i64 (.ofNat 30000)] hS hS dSk _ _ h1
 exact ⟨g', h3, h2.tf h4⟩
section known
variable {g1 : Hp} {HL : List (Pos × Ob)} {nx0 : Nat}
noncomputable def exL (g1 : Hp) (l : List (Pos × Ob)) : List (Pos × Ob) := l.map fun x => (x.1, (g1.bl.get x.1).getD x.2)
theorem aNf (l : List (Pos × Ob)) (t : Tr Ob) (b : Pos) : (iK l t).get b = match (iK l .e).get b with
  | some o => some o
  | none => t.get b := by
 induction l with
 | nil => rw [show iK [] t = t from rfl, show iK [] .e = .e from rfl, Tr.get_e]
 | cons x l ih =>
  show (Tr.set x.2 x.1 (iK l t)).get b = match (Tr.set x.2 x.1 (iK l .e)).get b with
   | some o => some o
   | none => t.get b
  by_cases e : b = x.1
  ·rw [e, dQg, dQg]
  ·rw [dQf _ _ _ _ e, dQf _ _ _ _ e]
   exact ih
theorem bJi (l : List (Pos × Ob)) (b : Pos) (o : Ob) (h : (iK l .e).get b = some o) : (b, o) ∈ l := by
 induction l with
 | nil => rw [show iK [] .e = .e from rfl, Tr.get_e] at h; cases h
 | cons x l ih =>
  change (Tr.set x.2 x.1 (iK l .e)).get b = some o at h
  by_cases e : b = x.1
  ·rw [e, dQg] at h
   cases h
   rw [e]
   exact List.mem_cons_self
  ·rw [dQf _ _ _ _ e] at h
   exact List.mem_cons_of_mem _ (ih h)
theorem oR (g1 : Hp) (l : List (Pos × Ob)) (b : Pos) : (iK (exL g1 l) .e).get b = ((iK l .e).get b).map fun o => (g1.bl.get b).getD o := by
 induction l with
 | nil => rw [show exL g1 [] = [] from rfl, show iK [] .e = .e from rfl, Tr.get_e]; rfl
 | cons x l ih =>
  show (Tr.set ((g1.bl.get x.1).getD x.2) x.1 (iK (exL g1 l) .e)).get b = ((Tr.set x.2 x.1 (iK l .e)).get b).map _
  by_cases e : b = x.1
  ·rw [e, dQg, dQg]
   rfl
  ·rw [dQf _ _ _ _ e, dQf _ _ _ _ e]
   exact ih
theorem aFm (S : Sim false (jH nx0 HL) g1) {b : Pos} {o : Ob} (h : (iK HL .e).get b = some o) : ∃ o', g1.bl.get b = some o' ∧ wN false o o' ∧ (iK (exL g1 HL) .e).get b = some o' := by
 obtain ⟨o', h1, h2⟩ := S.get b o h
 refine ⟨o', h1, h2, ?_⟩
 rw [oR, h, h1]
 rfl
noncomputable def aNx (o : Ob) : Bool := match o with
 | .row .ex _ => true
 | .mp _ => true
 | .big _ _ => true
 | .mi _ => true
 | _ => false
noncomputable def cKc (l : List (Pos × Ob)) : Bool := List.rec (motive := fun _ => Bool) true (fun x _ ih => aNx x.2 && ih) l
theorem aOs : ∀ {l : List (Pos × Ob)}, cKc l = true → ∀ x ∈ l, aNx x.2 = true
 | [], _, x, h => by cases h
 | y :: l, hl, x, h => by
  change (aNx y.2 && cKc l) = true at hl
  simp only [Bool.and_eq_true] at hl
  simp only [List.mem_cons] at h
  rcases h with rfl | h
  ·exact hl.1
  ·exact aOs hl.2 x h
theorem bCt {o o' : Ob} (hk : aNx o = true) (h : wN false o o') : o'.sg = true ∨ ∃ l, o' = .row .ex l := by
 unfold aNx at hk
 split at hk
 ·have : o' = _ := h
  exact .inr ⟨_, this⟩
 ·have : o' = _ := h
  rw [this]
  exact .inl rfl
 ·exact .inr ⟨_, h⟩
 ·obtain ⟨es, h1, _⟩ := h
  rw [h1]
  exact .inl rfl
 ·cases hk
noncomputable def zK (p : List DV → Bool) (v0 : DV) (nx0 : Nat) (HL : List (Pos × Ob)) (g1 : Hp) (args : List DV) (h : Hp) : aG :=
 bif p args && nY h.next (cV 1) then some (v0, ⟨cV nx0, iK (exL g1 HL) h.bl⟩) else none
theorem bEf (S1 : Sim false (jH nx0 HL) g1) (p : List DV → Bool) (v0 : DV) (args : List DV) : SimP false (aPq p v0 nx0 HL args) (zK p v0 nx0 HL g1 args) := by
 intro h h' S
 unfold aPq zK
 rw [S.next]
 cases (p args && nY h.next (cV 1)) with
 | false => exact SimR.none _
 | true =>
  intro v k e
  simp only [cond_true, aT, bF] at e
  obtain ⟨rfl, rfl⟩ := e
  refine ⟨⟨cV nx0, iK (exL g1 HL) h'.bl⟩, rfl, rfl, fun b o ho => ?_⟩
  change (iK HL h.bl).get b = some o at ho
  show ∃ o', (iK (exL g1 HL) h'.bl).get b = some o' ∧ wN false o o'
  rw [aNf] at ho ⊢
  cases hb : (iK HL .e).get b with
  | some o1 =>
   rw [hb] at ho
   cases ho
   obtain ⟨o', _, h2, h3⟩ := aFm S1 hb
   exact ⟨o', by rw [h3], h2⟩
  | none =>
   rw [hb] at ho
   rw [oR, hb]
   exact S.get b o ho
theorem bKw {f : FuncId} {F : List DV → Hp → aG} (hF : ∀ G, gF Tryz.prog G f F) {args0 : List DV} {v0 : DV} (hr0 : F args0 hS = some (v0, g1)) (S1 : Sim false (jH nx0 HL) g1) (hk : cKc HL = true) (hnx0 : 1024 ≤ (cV nx0).toNat)
  (fn : Func) (hf : Tryz.prog.funcs[f]? = some fn) (hb : fn.body.isSome = true) {p : List DV → Bool} (hp : ∀ args, p args = true → args = args0) (h0 : ∀ ρ l, VRs ρ args0 l → VRs (fun _ => none) args0 l) (G : Gd) : gF Tryz.prog G f (zK p v0 nx0 HL g1) := by
 intro args h v h1 hr ρ w args' H hargs
 unfold zK at hr
 cases hc : (p args && nY h.next (cV 1)) with
 | false => rw [hc] at hr; cases hr
 | true =>
  rw [hc] at hr
  simp only [cond_true, aT, bF] at hr
  obtain ⟨rfl, rfl⟩ := hr
  simp only [Bool.and_eq_true] at hc
  have ha := hp _ hc.1
  subst ha
  have hnx := mP _ _ hc.2
  have hp1 : (cV 1).toNat = 1024 := by kernel_rfl
  refine .inl ⟨zX hf hb _ _, ?_⟩
  refine (bKa hF hr0 fn hf hb w (G.ok w H.gl) args' (h0 _ _ hargs)).mono ?_
  rintro e w' ⟨ρ2, v', rfl, hv, H2, hbel, hlow⟩
  have S2 : Sim true ⟨g1.next, iK (exL g1 HL) .e⟩ g1 := ⟨rfl, fun b o ho => by
   change (iK (exL g1 HL) .e).get b = some o at ho
   rw [oR] at ho
   cases hb : (iK HL .e).get b with
   | none => rw [hb] at ho; cases ho
   | some o1 =>
    obtain ⟨o', q1, _, q3⟩ := aFm S1 hb
    rw [oR] at q3
    rw [q3] at ho
    cases ho
    exact ⟨_, q1, aCd _⟩⟩
  have hgn : g1.next = cV nx0 := S1.next
  have H3 := HR.sub S2 H2
  obtain ⟨j1, j2, j3⟩ := H.join (J := iK (exL g1 HL) h.bl) hbel H3 rfl (fun b L hL => by rw [hnx, hp1]; exact hlow b L hL) (fun b o ho => by
    change (iK (exL g1 HL) .e).get b = some o at ho
    rw [oR] at ho
    cases hb : (iK HL .e).get b with
    | none => rw [hb] at ho; cases ho
    | some o1 =>
     obtain ⟨o', q1, q2, q3⟩ := aFm S1 hb
     rw [oR] at q3
     rw [q3] at ho
     cases ho
     exact bCt (aOs hk _ (bJi _ _ _ hb)) q2) (by
    show h.next.toNat ≤ g1.next.toNat
    rw [hnx, hgn, hp1]
    exact hnx0) (fun b => by
    rw [aNf]
    cases hb : (iK (exL g1 HL) .e).get b with
    | none => cases h.bl.get b <;> rfl
    | some o =>
     cases hh : h.bl.get b with
     | none => rfl
     | some o1 =>
      exfalso
      obtain ⟨L, hL⟩ := H.dom b o1 hh
      have q1 := H.lt b L hL
      obtain ⟨L2, hL2⟩ := H3.dom b o hb
      have q2 := hlow b L2 hL2
      rw [hnx, hp1] at q1
      omega)
  rw [hgn] at j1
  exact ⟨mD ρ ρ2, v', rfl, j2, hv.mono j3, j1, Kp.later H hbel⟩
end known
noncomputable def gN1 : Hp := Classical.choose aOu
theorem cIb : fP CF1 912 55 [.i .i64 (.ofNat 30000)] hS = some (.t [.p (cV 7) 0, .i .i64 (.ofNat 0)], gN1) := (Classical.choose_spec aOu).1
theorem aVy : Sim false hN gN1 := (Classical.choose_spec aOu).2
theorem bDg : cKc HLN = true := by kernel_rfl
noncomputable def bVu : List DV → Hp → aG := zK bAq (.t [.p (cV 7) 0, .i .i64 (.ofNat 0)]) 26855 HLN gN1
theorem bVr (args : List DV) : SimP false (cSe args) (bVu args) := bEf aVy _ _ _
theorem bMh (args : List DV) (h : bAq args = true) : args = [.i .i64 (.ofNat 30000)] := by
 unfold bAq at h
 split at h
 ·rw [Nat.eq_of_beq_eq_true h]
 ·cases h
theorem cDv {k : IntKind} {n : Int} (ρ : Ren) (l : List Value) (h : VRs ρ [.i k n] l) : VRs (fun _ => none) [.i k n] l := by
 cases h with
 | cons _ _ _ _ q1 q2 =>
  cases q1
  cases q2
  exact .cons _ _ _ _ (.i _ _) .nil
theorem bHv (G : Gd) : gF Tryz.prog G 55 bVu :=
 bKw (fun G => aQa 912 G 55) cIb aVy bDg (by rw [show (cV 26855).toNat = 27878 from by kernel_rfl]; decide) Tryz.f55 Tryz.func55 (by kernel_rfl) bMh cDv G
noncomputable def aAx : RT := fun g => bif Nat.beq g 55 then bVu else fP CF1 912 g
theorem bNd : OkC CF1 aAx := by
 refine ⟨aIn, fun G g => ?_⟩
 unfold aAx
 cases hg : Nat.beq g 55 with
 | true => cases Nat.eq_of_beq_eq_true hg; exact bHv G
 | false => exact aQa 912 G g
theorem cEe (n : Nat) (g : FuncId) (args : List DV) (h : Hp) : aOn n g args h = bif Nat.beq g 55 then cSe args h else dA n g args h := rfl
theorem cJv (g : FuncId) (args : List DV) : SimP false (aOn 900 g args) (aAx g args) := by
 intro h h' S
 rw [cEe]
 unfold aAx
 cases hg : Nat.beq g 55 with
 | false =>
  rw [cond_false, cond_false, aAm]
  exact aRz 900 g args h h' S
 | true => exact bVr args h h' S
section nest
variable {r2 r1 : RT}
structure Two (N : Nat) (r2 r1 : RT) : Prop where
 ok : OkC CF1 r1
 sim : ∀ g args, SimP false (r2 g args) (r1 g args)
 own : ∀ (g : FuncId) (F : List DV → Hp → aG), CF1.I g = none → CF.I g = some F → ∀ args, r1 g args = fP CF1 (N + 12) g args
theorem Two.call {N : Nat} (T : Two N r2 r1) (g : FuncId) (args : List DV) : SimP false (cA CF r2 g args) (cA CF1 r1 g args) := by
 cases hg : CF.I g with
 | none => rw [aCt hg, aCt (bIe hg)]; exact T.sim g args
 | some F =>
  have e : cA CF r2 g args = F args := by funext k; unfold cA; rw [hg]
  rw [e]
  cases h1 : CF1.I g with
  | some F1 =>
   have e1 : cA CF1 r1 g args = cA CF1 (fP CF1 (N + 12)) g args := by funext k; unfold cA; rw [h1]
   rw [e1]
   exact aVw g F hg N args
  | none =>
   have e1 : cA CF1 r1 g args = cA CF1 (fP CF1 (N + 12)) g args := by funext k; unfold cA; rw [h1]; exact congrFun (T.own g F h1 hg args) k
   rw [e1]
   exact aVw g F hg N args
noncomputable def uV (f : FuncId) (r2 : RT) : RT := fun g args h => bif Nat.beq g f then aF CF r2 900 f args h else r2 g args h
noncomputable def aDb (f : FuncId) (r1 : RT) : RT := fun g => bif Nat.beq g f then aF CF1 r1 912 f else r1 g
theorem Two.nest {N : Nat} (T : Two N r2 r1) (f : FuncId) (hf : CF.I f = none) : Two N (uV f r2) (aDb f r1) where
 ok := by
  refine ⟨T.ok.own, fun G g => ?_⟩
  unfold aDb
  cases hg : Nat.beq g f with
  | true => cases Nat.eq_of_beq_eq_true hg; exact rF T.ok Try_ok 912 f
  | false => exact T.ok.fns G g
 sim g args := by
  intro h h' S
  unfold uV aDb
  cases hg : Nat.beq g f with
  | true => exact oF (P := Tryz.prog) (I2 := CF.I) (I1 := CF1.I) (fun g args => T.call g args) 900 12 f args h h' S
  | false => exact T.sim g args h h' S
 own g F h1 h2 args := by
  unfold aDb
  cases hg : Nat.beq g f with
  | true => cases Nat.eq_of_beq_eq_true hg; rw [hf] at h2; cases h2
  | false => exact T.own g F h1 h2 args
end nest
theorem twoN : Two 900 (aOn 900) aAx where
 ok := bNd
 sim := cJv
 own g F h1 h2 args := by
  unfold aAx
  cases h10 : Nat.beq g 55 with
  | true =>
   cases Nat.eq_of_beq_eq_true h10
   exact absurd h2 (by show ¬ CF.I 55 = some F; exact fun e => by cases e)
  | false => rfl
noncomputable def aLj : RT := uV 22 (uV 36 (aOn 900))
noncomputable def cNt : RT := aDb 22 (aDb 36 aAx)
theorem dDu : CF.I 36 = none := by kernel_rfl
theorem dDo : CF.I 22 = none := by kernel_rfl
theorem twoA : Two 900 aLj cNt := (twoN.nest 36 dDu).nest 22 dDo
theorem cKx : aEb = uV 36 (aOn 900) := by
 funext g args h
 unfold aEb uV
 cases hg : Nat.beq g 36 with
 | true => rw [cond_true, cond_true, cMu]
 | false => rw [cond_false, cond_false]
theorem cBf : aLv = aLj := by
 funext g args h
 unfold aLv aLj
 rw [cKx]
 generalize uV 36 (aOn 900) = r
 unfold uV
 cases hg : Nat.beq g 22 with
 | true => rw [cond_true, cond_true, cPj]
 | false => rw [cond_false, cond_false]
noncomputable def pLv : Pos := cWj 24 998
theorem bSg : ∃ g, aF CF1 cNt 912 11 [] ⟨pLv, .e⟩ = some (.b true, g) := by
 have hl : okB (s11 aLv 900 ⟨pLv, .e⟩) = true := cWv
 cases hr : s11 aLv 900 ⟨pLv, .e⟩ with
 | none => rw [hr] at hl; cases hl
 | some p =>
  rw [hr] at hl
  obtain ⟨v, k⟩ := p
  cases v <;> (try (cases hl; done))
  rename_i b
  change b = true at hl
  subst hl
  have e : s11 aLj 900 ⟨pLv, .e⟩ = some (.b true, k) := by rw [← cBf]; exact hr
  obtain ⟨g, h1, _⟩ := oF (P := Tryz.prog) (I2 := CF.I) (I1 := CF1.I) twoA.call 900 12 11 [] ⟨pLv, .e⟩ ⟨pLv, .e⟩ ⟨rfl, fun b o hb => by cases b <;> cases hb⟩ _ _ ((cNk aLj 900 [] ⟨pLv, .e⟩).trans e)
  exact ⟨g, h1⟩
noncomputable def aNc : RT := fun g => bif Nat.beq g 11 then (fun args h => match args with
 | [] => some (.b true, h)
 | _ => none) else fP CF1 20000012 g
theorem aNu : OkC CF1 aNc := by
 refine ⟨aIn, fun G g => ?_⟩
 unfold aNc
 cases hg : Nat.beq g 11 with
 | true =>
  cases Nat.eq_of_beq_eq_true hg
  obtain ⟨k, hk⟩ := bSg
  exact bCx (fun G => rF twoA.ok Try_ok 912 11) hk Tryz.f11 Tryz.func11 (by kernel_rfl) G
 | false => exact aQa 20000012 G g
theorem twoX : Two 20000000 dF aNc where
 ok := aNu
 sim g args := by
  intro h h' S
  unfold dF aNc
  cases hg : Nat.beq g 11 with
  | true =>
   rw [cond_true, cond_true]
   cases args with
   | nil => exact SimR.some S _
   | cons a l => exact SimR.none _
  | false =>
   rw [cond_false, cond_false, aAm]
   exact aRz 20000000 g args h h' S
 own g F h1 h2 args := by
  unfold aNc
  cases hg : Nat.beq g 11 with
  | true =>
   cases Nat.eq_of_beq_eq_true hg
   exact absurd h2 (by show ¬ CF.I 11 = some F; exact fun e => by cases e)
  | false => rfl
structure Ro (w : World) (ρ : Ren) (h : Hp) : Prop where
 dom : ∀ b o, h.bl.get b = some o → ∃ L, ρ b = some L
 lt : ∀ b L, ρ b = some L → b.toNat < h.next.toNat
 row : ∀ b o, h.bl.get b = some o → ∃ l, o = .row .ro l
 cell : ∀ b l L i v, h.bl.get b = some (.row .ro l) → ρ b = some L → l[i]? = some v → ∃ v', w.cell? (eF L i) = some v' ∧ VR ρ v v'
 sp : ∀ b o L, h.bl.get b = some o → ρ b = some L → L.sp = 0
theorem Ro.isRo {w : World} {ρ : Ren} {h : Hp} (R : Ro w ρ h) {b : Pos} {a : Addr} (c : Claims ρ h b a) : isRo h b := by
 obtain ⟨k, l, L, h1, h2, _⟩ := c
 obtain ⟨l', e⟩ := R.row b _ h1
 exact ⟨l', by rw [h1, e]⟩
theorem Ro.hr {w : World} {ρ : Ren} {h : Hp} (R : Ro w ρ h) (W : Facts w) : HR (gdS w W 0) ρ h w where
 gl := fun _ _ => rfl
 sz := ⟨Nat.le_refl _, fun _ hh => hh.elim⟩
 nx := Nat.zero_le _
 ro := fun b a c _ => by
  obtain ⟨k, l, L, h1, h2, h3⟩ := c
  obtain ⟨l', e⟩ := R.row b _ h1
  cases e
  rcases h3 with ⟨i, v, h4, h5, rfl⟩ | ⟨es, j, h4, _⟩
  ·obtain ⟨v', h6, _⟩ := R.cell b _ L i v h1 h2 h4
   exact eE h6
  ·cases h4
 dom := R.dom
 lt := R.lt
 cell := fun b k l L i v h1 h2 h3 h4 => by
  obtain ⟨l', e⟩ := R.row b _ h1
  cases e
  exact R.cell b _ L i v h1 h2 h3
 spare := fun b l L es j h1 => by
  obtain ⟨l', e⟩ := R.row b _ h1
  cases e
 free := fun b a c hn => absurd (R.isRo c) hn
 inj := fun b b' a c c' hn => absurd (R.isRo c) hn
 ex := fun b l L h1 h2 => by
  rcases h1 with h1 | h1
  ·exact R.sp b _ L h1 h2
  ·exact R.sp b _ L h1 h2
 grone := fun b es l i v h1 => by
  obtain ⟨l', e⟩ := R.row b _ h1
  cases e
 itr := fun b o L hs h1 _ => by
  obtain ⟨l', rfl⟩ := R.row b _ h1
  cases hs
 itj := fun b o b' o' L L' hs hs' h1 _ _ _ _ => by
  obtain ⟨l', rfl⟩ := R.row b _ h1
  cases hs
theorem Ro.none (w : World) (p : Pos) : Ro w (fun _ => none) ⟨p, .e⟩ where
 dom := fun b o h => by cases b <;> cases h
 lt := fun b L h => by cases h
 row := fun b o h => by cases b <;> cases h
 cell := fun b l L i v h => by cases b <;> cases h
 sp := fun b o L h => by cases b <;> cases h
theorem Ro.sim {w : World} {ρ : Ren} {h : Hp} (R : Ro w ρ h) : Sim false h h := ⟨rfl, fun b o e => by
 obtain ⟨l, rfl⟩ := R.row b o e
 exact ⟨_, e, rfl⟩⟩
theorem cTm {f : FuncId} {args : List DV} {h0 : Hp} {ρ : Ren} (hr : ∃ k, aF CF dF 20000000 f args h0 = some (.b true, k)) (fn : Func) (hf : Tryz.prog.funcs[f]? = some fn) (hb : fn.body.isSome = true)
  (w : World) (W : Facts w) (R : Ro w ρ h0) (args' : Array Value) (hargs : VRs ρ args args'.toList) :
  Calls Tryz.prog f args' w fun e w' => e = .returned (.bool true) ∧ Below w.heap.size w w' := by
 obtain ⟨k, hk⟩ := hr
 obtain ⟨g, h1, _⟩ := oF (P := Tryz.prog) (I2 := CF.I) (I1 := CF1.I) twoX.call 20000000 12 f args h0 h0 R.sim _ _ hk
 have H := R.hr W
 rcases rF aNu Try_ok 20000012 f args h0 _ g h1 _ w args' H hargs with ⟨_, h⟩ | ⟨ρ', w', v', h, _⟩
 ·refine h.mono ?_
  rintro e w' ⟨ρ', v', rfl, h2, h3, h4, h5⟩
  cases h3
  exact ⟨rfl, h5.low⟩
 ·exfalso
  have hn : ¬ fn.name = "runtime.NumGoroutine" := by simpa using Try_ok.names f fn hf
  have hbn : fn.body ≠ none := by intro e; rw [e] at hb; cases hb
  unfold callFunc at h
  simp [show CF1.P.funcs[f]? = some fn from hf, hn, hbn] at h
theorem aKo {f : FuncId} {args : List DV} (hr : ∃ k, aF CF dF 20000000 f args hS = some (.b true, k)) (fn : Func) (hf : Tryz.prog.funcs[f]? = some fn) (hb : fn.body.isSome = true)
  (w : World) (W : Facts w) (args' : Array Value) (hargs : VRs (fun _ => none) args args'.toList) :
  Calls Tryz.prog f args' w fun e w' => e = .returned (.bool true) ∧ Below w.heap.size w w' := cTm hr fn hf hb w W (Ro.none w _) args' hargs
end Go.Dd

namespace Go.Dd
open Go.Proofs Go.RowKit
abbrev dEl : List (String × DataW Unit) := YtjfmbeinhhdapaaGreatDoor.Rows.linesParsesRow.laid
abbrev dJg : List (String × DataW Unit) := YtjfmbeinhhdapaaGreatDoor.Rows.linesShowsRow.laid
theorem bHm : (YtjfmbeinhhdapaaGreatDoor.Rows.laid_internal_strconv_uint64pow10 : DataW Unit) = Lib.tabData .u64 Lib.pow10Tab := by kernel_rfl
theorem bQk {H : Type} {enc : TypeId × Value → H} {P : Program} {w : World} {base : Nat} {sp : Nat → Bool} {held : Bool} {fuel : Nat} {t : TypeId} {ms : Array (String × TypeId)} {cs : List Value} {name : String} {d : DataW H} {p : List MemPlace}
  (ht : P.underlying t = some (.interface ms)) (h : DataW.trod enc P w base sp held fuel t cs = some (.iface name d, p)) : ∃ u v, cs = [.iface u v] := by
 cases fuel with
 | zero => simp [DataW.trod] at h
 | succ n =>
  unfold DataW.trod at h
  rw [ht] at h
  split at h <;> simp_all
theorem bYc {W : World} {n name : String} {d : DataW Unit} {g : Nat} {t : TypeId} {ms : Array (String × TypeId)} (e1 : Tryz.prog.globalNamed n = some g) (e2 : (Tryz.prog.globals[g]?).map (·.type) = some t) (e3 : Tryz.prog.underlying t = some (.interface ms))
  (h : Lib.VarReads Tryz.prog W n (.iface name d)) : bNy W g := by
 obtain ⟨g', t', cs, fuel, p, hg, ht, hv, hd⟩ := h
 obtain rfl := Option.some.inj (e1.symm.trans hg)
 obtain rfl := Option.some.inj (e2.symm.trans ht)
 obtain ⟨u, v, he⟩ := bQk e3 hd
 unfold World.var? at hv
 rw [e1] at hv
 simp only [Option.bind_some] at hv
 split at hv
 ·rename_i cs' t' z' hh
  obtain rfl := Option.some.inj hv
  refine ⟨.iface u v, ?_, .inr ⟨u, v, rfl⟩⟩
  have e5 : cs' = #[Value.iface u v] := Array.ext' he
  subst e5
  simp [World.cell?, hh]
 ·cases hv
theorem cTk {W : World} (h : Lib.VarReads Tryz.prog W "internal/strconv.uint64pow10" YtjfmbeinhhdapaaGreatDoor.Rows.laid_internal_strconv_uint64pow10) : ∃ t z, W.heap[1]? = some (.cells (Lib.pow10Tab.map fun z => Value.int .u64 z).toArray t z) := by
 obtain ⟨g, t, cs, fuel, p, hg, ht, hv, hd⟩ := h
 have e1 : Tryz.prog.globalNamed "internal/strconv.uint64pow10" = some 1 := by kernel_rfl
 obtain rfl := Option.some.inj (e1.symm.trans hg)
 have e2 : (Tryz.prog.globals[1]?).map (·.type) = some 242 := by kernel_rfl
 obtain rfl := Option.some.inj (e2.symm.trans ht)
 rw [bHm] at hd
 have hc := Lib.cells_of_tab Tryz.underlying242 Tryz.underlying170 (by kernel_rfl) (by kernel_rfl) hd
 unfold World.var? at hv
 rw [e1] at hv
 simp only [Option.bind_some] at hv
 split at hv
 ·rename_i cs' t' z' hh
  obtain rfl := Option.some.inj hv
  refine ⟨t', z', ?_⟩
  rw [hh]
  congr 2
  rw [← hc]
 ·cases hv
theorem aNk {L : List (String × DataW Unit)} {W : World} (hL : laidMet Tryz.prog L W) (hs : W.ShapedOpen Tryz.prog)
  (h1 : ("internal/strconv.uint64pow10", YtjfmbeinhhdapaaGreatDoor.Rows.laid_internal_strconv_uint64pow10) ∈ L) (h2 : ("strconv.ErrSyntax", YtjfmbeinhhdapaaGreatDoor.Rows.laid_strconv_ErrSyntax) ∈ L) (h3 : ("strconv.ErrRange", YtjfmbeinhhdapaaGreatDoor.Rows.laid_strconv_ErrRange) ∈ L) : Facts W :=
 ⟨⟨Tryz.laysM143.s1_3 W hs, cTk (Lib.laidMet.reads hL h1)⟩, bYc (by kernel_rfl) (by kernel_rfl) Tryz.underlying71 (Lib.laidMet.reads hL h2), bYc (by kernel_rfl) (by kernel_rfl) Tryz.underlying71 (Lib.laidMet.reads hL h3)⟩
theorem aFd {W : World} (hL : laidMet Tryz.prog dEl W) (hs : W.ShapedOpen Tryz.prog) : Facts W :=
 aNk hL hs (.tail _ (.tail _ (.tail _ (.tail _ (.head _))))) (.tail _ (.tail _ (.head _))) (.tail _ (.tail _ (.tail _ (.head _))))
theorem cGr {W : World} (hL : laidMet Tryz.prog dJg W) (hs : W.ShapedOpen Tryz.prog) : Facts W :=
 aNk hL hs (.head _) (.tail _ (.tail _ (.tail _ (.tail _ (.tail _ (.head _)))))) (.tail _ (.tail _ (.tail _ (.tail _ (.tail _ (.tail _ (.head _)))))))
theorem jX {H : Type} {enc : TypeId × Value → H} {a : Assume} {C : Checked} {os : Os} {f : FuncId} {fn : Func} {s : ChangeSpec} {conds : List PathCond} {apart fresh handsOn again : Bool} {X : World → Array Value → Prop}
  (hX : ∀ (w w' : World) (args : Array Value), w.heap = w'.heap → X w args → X w' args)
  (own : ownKnob C.prog.godebug = none) (started : os.Started) (noInit : C.prog.inits.idxOf? f = none) (hfn : C.prog.funcs[f]? = some fn)
  (witness : ∃ (w : World) (tape : Tape) (i : Input), w.os = os ∧ (w.forCall tape i).Shaped C.prog ∧ i.vars = [] ∧ Input.okWide C.prog (w.forCall tape i) .any w.heap.size f i ∧
   ((s.pre enc C.prog fn conds apart (w.forCall tape i).memory i.args ∧ X (w.forCall tape i).memory i.args) ∧ sizedMet enc C.prog fn (OpenSpec.ofChange s) apart (w.forCall tape i).memory i.args) ∧ a.holds C.prog (lone (Frame.enter C.prog f i.args .normal) [] (w.forCall tape i)))
  (contract : ∀ (W : World) (base : Nat) (args : Array Value) (ds gs : List (DataW H)) (before : List MemPlace),
   (∀ (j : Nat) t v, fn.params[j]? = some t → args[j]? = some v → Value.okWide C.prog W .any base t v) →
   DataW.Whole enc C.prog fn.params.toList s.vars apart W args.toList ds gs before →
   X W args → W.ShapedOpen C.prog →
   Calls C.prog f args W fun e W' => ∃ v, e = .returned v ∧ s.post enc C.prog fn apart fresh handsOn again W args v W') :
  ReturnsInHanded a C os f .any (fun w args => (s.pre enc C.prog fn conds apart w args ∧ X w args) ∧ sizedMet enc C.prog fn (OpenSpec.ofChange s) apart w args) (s.post enc C.prog fn apart fresh handsOn again) := by
 refine returnsInHanded_of_calls own started noInit witness ?_
 intro w tape i _ hsh _ hok hpre hholds
 obtain ⟨_, _, _, fn', hfn', _, _, _, _, hval⟩ := hok
 have e : fn' = fn := Option.some.inj (hfn'.symm.trans hfn)
 subst e
 obtain ⟨⟨⟨ds, gs, before, hw, hc⟩, hx⟩, hz⟩ := hpre
 have hw' := DataW.Whole.of_heap (w' := w.forCall tape i) (by rfl) hw
 refine (contract (w.forCall tape i) w.heap.size i.args ds gs before hval hw' (hX _ _ _ (by rfl) hx) hsh).mono fun e W' ⟨v, he, hp⟩ => ?_
 subst he
 exact ChangeSpec.post_blind hp
theorem own : ownKnob Tryz.prog.godebug = none := by kernel_rfl
theorem bUy {P : Program} {W : World} {base : Nat} {t : TypeId} {v : Value} {fs : Array Field} (ht : P.underlying t = some (.struct fs)) (h : Value.okWide P W .any base t v) : ∃ cs, v = .agg cs := by
 unfold Value.okWide at h
 rw [ht] at h
 obtain ⟨cs, e, _⟩ := h
 exact ⟨cs, e⟩
end Go.Dd

namespace Go.Dd
open Go.Proofs
theorem dFh (n : Nat) (x y : DV) (h : Hp) : dA (n + 1) 19 [x, y] h = s19 (dA n) n x y h := (cS 19 rfl n [x, y] h).trans (cMt (dA n) n [x, y] h)
theorem dNi (n : Nat) (x : DV) (h : Hp) : dA (n + 1) 20 [x] h = s20 (dA n) n x h := (cS 20 rfl n [x] h).trans (cOw (dA n) n [x] h)
theorem dLo (n : Nat) (x : DV) (h : Hp) : dA (n + 1) 35 [x] h = s35 (dA n) n x h := (cS 35 rfl n [x] h).trans (cNw (dA n) n [x] h)
theorem bCa {s a b : Bs} {l : List Bs} (h : bM 32 s = a :: b :: l) (hl : l ≠ []) : ∃ t, s = a ++ 32 :: (b ++ 32 :: t) := by
 cases e : fK 32 s with
 | none => rw [kA e] at h; cases h
 | some p =>
  obtain ⟨a', r⟩ := p
  rw [mI e] at h
  injection h with h1 h2
  subst h1
  cases e2 : fK 32 r with
  | none =>
   rw [kA e2] at h2
   injection h2 with _ h3
   exact absurd h3.symm hl
  | some q =>
   obtain ⟨b', t⟩ := q
   rw [mI e2] at h2
   injection h2 with h3 h4
   subst h3
   exact ⟨t, by rw [iV e, iV e2]⟩
theorem jZ (c : Nat) : ∀ s : Bs, (bM c s).length ≤ s.length + 1
 | [] => by simp [bM]
 | x :: t => by
  have ih := jZ c t
  unfold bM
  split
  ·simp; omega
  ·split <;> simp_all <;> omega
theorem fY {c : Nat} : ∀ {s : Bs}, ∀ t ∈ bM c s, t.length ≤ s.length
 | [], t, h => by simp [bM] at h; simp [h]
 | x :: s, t, h => by
  unfold bM at h
  split at h
  ·simp only [List.mem_cons] at h
   rcases h with rfl | h
   ·simp
   ·have := fY t h; simp; omega
  ·split at h
   ·simp only [List.mem_cons, List.not_mem_nil, or_false] at h; subst h; simp
   ·rename_i l r e
    simp only [List.mem_cons] at h
    rcases h with rfl | h
    ·have := fY (c := c) (s := s) l (by rw [e]; simp); simp; omega
    ·have := fY (c := c) (s := s) t (by rw [e]; simp [h]); simp; omega
theorem cPu {s : Bs} {a : Nat} (ha : a ≤ s.length) (h : Hp) : cN (.s s) (some (.i .i64 (Int.ofNat a))) none h = some (.s (s.drop a), h) := by
 have h1 : hiD none s.length s.length = some s.length := by simp [hiD]
 have h2 : loD (some (.i .i64 (Int.ofNat a))) s.length = some a := by
  simp only [loD, fM]
  rw [if_pos (by show (0 : Int) ≤ (a : Int) ∧ (a : Int) ≤ (s.length : Int); omega)]
  rfl
 simp only [cN, h1, h2, List.take_length]
abbrev Z6 : List DV := [.i .i64 (Int.ofNat 0), .s [], .s [], .l0, .s [], .i .i64 (Int.ofNat 0)]
theorem cU : ∀ v ∈ Z6, v.one = true := by decide +kernel
theorem dDh (h : Hp) : StC Z6 (st0 0) h := ⟨.l0, rfl, .inl ⟨.inl rfl, rfl⟩⟩
def aHg (o : Option Stp) : Bool × Stp := match o with
 | some st => (true, st)
 | none => (false, st0 0)
section
variable {n : Nat} {s : Bs} {x5 : DV} {p2 p4 : Pos} {h : Hp}
structure SD (s : Bs) (w : List Bs) (x5 : DV) (p2 p4 : Pos) (h : Hp) : Prop where
 wd : TxS x5 w h
 r2 : h.bl.get p2 = some (.row .ex Z6)
 r4 : h.bl.get p4 = some (.row .ex Z6)
 ne : p2 ≠ p4
 no2 : ∀ b o l c, x5 = .l b o l c → b ≠ p2 ∧ b ≠ p4
def NmLo (lo : Nat) (ca : List DV) : Prop := ∀ b o l c, ca[3]? = some (DV.l b o l c) → lo ≤ b.toNat
theorem cW (lo : Nat) (op n : Int) (a b t : Bs) : NmLo lo [DV.i .i64 op, .s a, .s b, .l0, .s t, .i .i64 n] := fun b o l c e => by cases e
def aEi (lo : Nat) (h : Hp) (r : aG) (o : Option Stp) : Prop := ∃ ca h', r = some (.t [.a ca, .b (aHg o).1], h') ∧ StC ca (aHg o).2 h' ∧ Lo lo h h' ∧ NmLo lo ca
theorem aOd (r : aG) : cnd true r = r := rfl
theorem fin {lo : Nat} {o : Option Stp} {g : Hp} {ca row : List DV} (h2 : g.bl.get p2 = some (.row .ex row)) (hl : row.length = 6) (ho : ∀ v ∈ row, v.one = true) (hlo : lo ≤ p2.toNat) (C : ∀ h', h'.next = g.next → (∀ b, b ≠ p2 → h'.bl.get b = g.bl.get b) → StC ca (aHg o).2 h') (b : Bool) (hb : b = (aHg o).1) (hc : ca.length = 6) (h1 : ∀ v ∈ ca, v.one = true) (hN : NmLo lo ca) :
  aEi lo g (bnd (aH 6 (.p p2 0) (.a ca) g) fun _ g1 => bnd (aK 6 (.p p2 0) g1) fun v _ => some (.t [v, .b b], g1)) o := by
 subst hb
 refine ⟨ca, ⟨g.next, Tr.set (.row .ex ca) p2 g.bl⟩, ?_, C _ rfl fun b hb => dQf _ _ _ _ hb, Lo.set _ hlo, hN⟩
 have hg : (⟨g.next, Tr.set (.row .ex ca) p2 g.bl⟩ : Hp).bl.get p2 = some (.row .ex ca) := dQg _ _ _
 rw [st6 h2 hl ho hc h1, aJ, ld6 hg hc h1, aJ]
theorem iB (lo : Nat) (r2 : h.bl.get p2 = some (.row .ex Z6)) (r4 : h.bl.get p4 = some (.row .ex Z6)) (hlo : lo ≤ p2.toNat) :
  aEi lo h (bnd (aK 6 (.p p4 0) h) fun v g => bnd (aH 6 (.p p2 0) v g) fun _ g1 => bnd (aK 6 (.p p2 0) g1) fun v _ => some (.t [v, .b false], g1)) none := by
 rw [ld6 r4 rfl cU, aJ]
 exact fin r2 rfl cU hlo (fun h' _ _ => dDh h') false (by rfl) (by rfl) cU (cW _ _ _ _ _ _)
theorem aOv {rec : RT} {w : List Bs} (T : TxS x5 w h) (hl : w.length < 1000000000) : ∀ (k i m : Nat) (e : Bool), i + k = w.length → k < m →
  mM rec n m (.s s) (.p p2 0) (.p p4 0) x5 (.b e) (.i .i64 (Int.ofNat i)) h = gB rec n (.s s) (.p p2 0) (.p p4 0) x5 (.b (e || decide ([] ∈ w.drop i))) h := by
 intro k
 induction k with
 | zero =>
  intro i m e hi hm
  obtain ⟨m, rfl⟩ : ∃ j, m = j + 1 := ⟨m - 1, by omega⟩
  have l1 : decide (Int.ofNat i < Int.ofNat w.length) = false := decide_eq_false (by show ¬ (i : Int) < (w.length : Int); omega)
  show oJ rec n (mM rec n m) _ _ _ _ _ _ h = _
  unfold oJ
  simp only [T.len, aJ, cH, l1, bO]
  rw [List.drop_of_length_le (by omega)]
  simp
 | succ k ih =>
  intro i m e hi hm
  obtain ⟨m, rfl⟩ : ∃ j, m = j + 1 := ⟨m - 1, by omega⟩
  have hia : i < w.length := by omega
  have l1 : decide (Int.ofNat i < Int.ofNat w.length) = true := decide_eq_true (by show (i : Int) < (w.length : Int); omega)
  obtain ⟨pa, a1, a2⟩ := T.at (List.getElem?_eq_getElem hia)
  show oJ rec n (mM rec n m) _ _ _ _ _ _ h = _
  unfold oJ
  have hd : w.drop i = w[i] :: w.drop (i + 1) := List.drop_eq_getElem_cons hia
  cases e with
  | true =>
   simp only [T.len, aJ, cH, l1, aZ, dP, bQ, bH i 1 h (by omega)]
   rw [ih (i + 1) m true (by omega) (by omega)]
   simp
  | false =>
   simp only [T.len, aJ, cH, l1, aZ, eZ, a1, a2, fZ, bU, bH i 1 h (by omega)]
   rw [ih (i + 1) m _ (by omega) (by omega), hd]
   congr 2
   rw [Bool.false_or, Bool.eq_iff_iff, Bool.or_eq_true, decide_eq_true_eq, decide_eq_true_eq, decide_eq_true_eq, List.mem_cons, @eq_comm _ w[i] []]
theorem TxS.off {v : DV} {l : List Bs} {h h' : Hp} (T : TxS v l h) (hn : h'.next = h.next) {p : Pos} (hv : ∀ b o l c, v = .l b o l c → b ≠ p) (hg : ∀ b, b ≠ p → h'.bl.get b = h.bl.get b) : TxS v l h' :=
 T.stay' (by rw [hn]; exact Nat.le_refl _) fun b o len cap e => hg b (hv b o len cap e)
theorem aDk {v v' : DV} {x hi : Option DV} {g g' : Hp} (e : dN 1 v x hi g = some (v', g')) {b' : Pos} {o' l' c' : Nat} (hv : v' = .l b' o' l' c') : ∃ o l c, v = .l b' o l c := by
 subst hv
 unfold dN at e
 split at e <;> (try (cases e; done))
 ·rename_i b o len cap
  split at e <;> (try (cases e; done))
  split at e <;> (try (cases e; done))
  split at e <;> (try (cases e; done))
  ·simp only [aT, bF, DV.l.injEq] at e
   exact ⟨o, len, cap, by rw [e.1.1]⟩
  ·simp only [aT, bF, DV.l.injEq] at e
   exact ⟨o, len, cap, by rw [e.1.1]⟩
  ·split at e
   ·cases e
   ·simp only [aT, bF, DV.l.injEq] at e
    exact ⟨o, len, cap, by rw [e.1.1]⟩
 ·split at e <;> (try (cases e; done))
  split at e <;> (try (cases e; done))
 ·split at e <;> (try (cases e; done))
  split at e <;> (try (cases e; done))
 ·split at e <;> (try (cases e; done))
  split at e <;> (try (cases e; done))
theorem aNv (a : Bs) : decide (aEo a < Int.ofNat 0) = (eO a).isNone := by
 unfold aEo
 cases eO a with
 | none => rfl
 | some k => show decide ((k : Int) < 0) = false; exact decide_eq_false (by omega)
theorem kX (a b : Nat) (h : Hp) : aD .lss (.i .i64 (Int.ofNat a)) (.i .i64 (Int.ofNat b)) h = some (.b (decide (a < b)), h) := by
 rw [cH]
 by_cases q : a < b
 ·rw [decide_eq_true (show Int.ofNat a < Int.ofNat b from by show (a : Int) < (b : Int); omega), decide_eq_true q]
 ·rw [decide_eq_false (show ¬ Int.ofNat a < Int.ofNat b from by show ¬ (a : Int) < (b : Int); omega), decide_eq_false q]
theorem cLw (a b : Nat) (h : Hp) : aD .neq (.i .i64 (Int.ofNat a)) (.i .i64 (Int.ofNat b)) h = some (.b (!decide (a = b)), h) := by rw [kH, aGa]
theorem cTo (a b : Nat) : (Int.ofNat a == Int.ofNat b) = decide (a = b) := by
 by_cases q : a = b
 ·subst q; simp
 ·rw [decide_eq_false q]
  exact beq_eq_false_iff_ne.2 (fun e => q (Int.ofNat.inj e))
theorem cKm (a b : Nat) (h : Hp) : aD .eql (.i .i64 (Int.ofNat a)) (.i .i64 (Int.ofNat b)) h = some (.b (decide (a = b)), h) := by
 rw [dT, cTo]
theorem dHi {v : DV} (hv : dD v = some [v]) (op : Int) (a b : Bs) (h : Hp) : bL Z6 [(0, 1, (.i .i64 op)), (1, 1, .s a), (2, 1, .s b), (3, 1, v)] h = some (.a [.i .i64 op, .s a, .s b, v, .s [], .i .i64 (Int.ofNat 0)], h) := by
 have c1 : ∀ k z, dD (.i k z) = some [.i k z] := fun _ _ => rfl
 have c2 : ∀ z, dD (.s z) = some [.s z] := fun _ => rfl
 simp [bL, jQ, c1, c2, hv]
theorem bZf (op : Int) (a t : Bs) (h : Hp) : bL Z6 [(0, 1, (.i .i64 op)), (1, 1, .s a), (4, 1, .s t)] h = some (.a [.i .i64 op, .s a, .s [], .l0, .s t, .i .i64 (Int.ofNat 0)], h) := rfl
theorem bHt (op k : Int) (t : Bs) (h : Hp) : bL Z6 [(0, 1, (.i .i64 op)), (5, 1, (.i .i64 k)), (4, 1, .s t)] h = some (.a [.i .i64 op, .s [], .s [], .l0, .s t, .i .i64 k], h) := rfl
theorem cZd (op k : Int) (h : Hp) : bL Z6 [(0, 1, (.i .i64 op)), (5, 1, (.i .i64 k))] h = some (.a [.i .i64 op, .s [], .s [], .l0, .s [], .i .i64 k], h) := rfl
theorem dG (op n : Int) (a b t : Bs) : ∀ v ∈ [DV.i .i64 op, .s a, .s b, .l0, .s t, .i .i64 n], v.one = true := fun v hv => by
 simp only [List.mem_cons, List.not_mem_nil, or_false] at hv
 rcases hv with rfl | rfl | rfl | rfl | rfl | rfl <;> rfl
theorem aDm {x : DV} (hx : x.one = true) (op n : Int) (a b t : Bs) : ∀ v ∈ [DV.i .i64 op, .s a, .s b, x, .s t, .i .i64 n], v.one = true := fun v hv => by
 simp only [List.mem_cons, List.not_mem_nil, or_false] at hv
 rcases hv with rfl | rfl | rfl | rfl | rfl | rfl <;> first | rfl | exact hx
theorem hU (op n : Int) (a b t : Bs) (h : Hp) : StC [DV.i .i64 op, .s a, .s b, .l0, .s t, .i .i64 n] ⟨op, a, b, [], t, n⟩ h := ⟨.l0, rfl, .inl ⟨.inl rfl, rfl⟩⟩
theorem bTj {w : List Bs} (D : SD s w x5 p2 p4 h) (hw : w = bM 32 s) (h1 : w.length ≠ 1) (hs : s.length < 100000000) (hn : s.length + 20 < n) (lo : Nat) (hlo : lo ≤ p2.toNat) (hlo4 : lo ≤ p4.toNat) (hlo5 : ∀ b o l c, x5 = .l b o l c → lo ≤ b.toNat) :
  aEi lo h (gB (dA n) n (.s s) (.p p2 0) (.p p4 0) x5 (.b (decide ([] ∈ w.drop 1))) h) (gL s) := by
 obtain ⟨n, rfl⟩ : ∃ j, n = j + 1 := ⟨n - 1, by omega⟩
 have hwn : w ≠ [] := by rw [hw]; exact oL 32 s
 obtain ⟨w0, r, rfl⟩ : ∃ a r, w = a :: r := by
  cases w with
  | nil => exact absurd rfl hwn
  | cons a r => exact ⟨a, r, rfl⟩
 obtain ⟨w1, r, rfl⟩ : ∃ a q, r = a :: q := by
  cases r with
  | nil => simp at h1
  | cons a q => exact ⟨a, q, rfl⟩
 have hlen : (w0 :: w1 :: r).length ≤ s.length + 1 := by rw [hw]; exact jZ 32 s
 have T := D.wd
 obtain ⟨q0, i0, d0⟩ := T.at (i := 0) rfl
 obtain ⟨q1, i1, d1⟩ := T.at (i := 1) rfl
 have r2' : h.bl.get p2 = some (.row .ex Z6) := D.r2
 have num1 : ∀ g, dA (n + 1) 35 [.s w1] g = some (.i .i64 (aEo w1), g) := fun g => by rw [dLo]; exact cBl (by omega) g
 have len3 : (w0 :: w1 :: r).length = r.length + 2 := by simp
 unfold gB aWh bAz
 simp only [i0, d0, aJ, fZ]
 have hD : gL s = gL s := rfl
 conv at hD => rhs; unfold gL
 simp only [← hw, List.getD_cons_zero, List.getD_cons_succ, List.drop_succ_cons, List.drop_zero] at hD
 rw [if_neg h1] at hD
 rw [hD]
 clear hD
 by_cases c1 : w0 = oC
 ·have e1 : decide (w0 = [99, 108, 97, 115, 115]) = true := decide_eq_true c1
  rw [if_pos c1]
  simp only [e1, aZ, T.len, aJ, kX, List.length_cons]
  by_cases c2 : r.length + 1 + 1 < 3
  ·rw [if_pos (.inl c2)]
   simp only [c2, decide_true, dP, aJ, bQ, aZ]
   exact iB lo D.r2 D.r4 hlo
  ·simp only [c2, decide_false, eZ, aJ, bU, iD, List.drop_succ_cons, List.drop_zero, decide_eq_true_eq, false_or]
   by_cases c3 : [] ∈ w1 :: r
   ·rw [if_pos c3, if_pos c3]
    exact iB lo D.r2 D.r4 hlo
   ·rw [if_neg c3, if_neg c3]
    obtain ⟨w2, r, rfl⟩ : ∃ a q, r = a :: q := by
     cases r with
     | nil => simp at c2
     | cons a q => exact ⟨a, q, rfl⟩
    obtain ⟨q2, i2, d2⟩ := T.at (i := 2) rfl
    obtain ⟨v, b1, b2⟩ := T.drop (i := 3) (by simp)
    have hrow := fun b' o' l' c' e => aDk b1 (b' := b') (o' := o') (l' := l') (c' := c') e
    simp only [i1, d1, i2, d2, aJ, b1, dHi b2.cells]
    refine fin (o := some ⟨1, w1, w2, r, [], 0⟩) (ca := [.i .i64 1, .s w1, .s w2, v, .s [], .i .i64 0]) D.r2 rfl cU hlo (fun h' hn' hg => ⟨v, rfl, ?_⟩) true (by rfl) (by rfl) (aDm b2.one _ _ _ _ _) (fun b o l c e => by
     obtain ⟨o2, l2, c2', e2⟩ := hrow b o l c (Option.some.inj e)
     exact hlo5 b o2 l2 c2' e2)
    exact b2.off hn' (p := p2) (fun b o l c e => by
     obtain ⟨o2, l2, c2', e2⟩ := hrow b o l c e
     exact (D.no2 b o2 l2 c2' e2).1) hg
 have e1 : decide (w0 = [99, 108, 97, 115, 115]) = false := decide_eq_false c1
 rw [if_neg c1]
 simp only [e1, bO]
 unfold aQj aEc
 simp only [fZ, aJ]
 by_cases c2 : w0 = fO
 ·have e2 : decide (w0 = [109, 101, 116, 104, 111, 100]) = true := decide_eq_true c2
  rw [if_pos c2]
  simp only [e2, aZ, T.len, aJ, kX, List.length_cons]
  by_cases c3 : r.length + 1 + 1 < 3
  ·rw [if_pos (.inl c3)]
   simp only [c3, decide_true, dP, vP, aJ, bQ, aZ]
   exact iB lo D.r2 D.r4 hlo
  ·simp only [c3, decide_false, eZ, aJ, i1, d1, fZ, bU, iD, decide_eq_true_eq, false_or]
   by_cases c4 : w1 = []
   ·rw [if_pos c4, if_pos c4]
    exact iB lo D.r2 D.r4 hlo
   ·rw [if_neg c4, if_neg c4]
    obtain ⟨t, ht⟩ := bCa hw.symm (by intro e; rw [e] at c3; simp at c3)
    have hb : 7 + w1.length + 1 ≤ s.length := by rw [ht, c2]; simp [fO]; omega
    simp only [fA, aJ, bH 7 w1.length h (by omega), bH (7 + w1.length) 1 h (by omega), cPu hb, bZf]
    exact fin (o := some _) D.r2 rfl cU hlo (fun h' _ _ => hU _ _ _ _ _ _) true (by rfl) (by rfl) (dG _ _ _ _ _) (cW _ _ _ _ _ _)
 have e2 : decide (w0 = [109, 101, 116, 104, 111, 100]) = false := decide_eq_false c2
 rw [if_neg c2]
 simp only [e2, bO]
 unfold aOz aFf
 simp only [fZ, aJ]
 by_cases c3 : w0 = wDo
 ·have e3 : decide (w0 = [100, 111]) = true := decide_eq_true c3
  rw [if_pos c3]
  simp only [e3, aZ, T.len, aJ, kX, List.length_cons]
  by_cases c4 : r.length + 1 + 1 < 3
  ·rw [if_pos c4]
   simp only [c4, decide_true, dP, vP, aJ, bQ, aZ]
   exact iB lo D.r2 D.r4 hlo
  ·rw [if_neg c4]
   simp only [c4, decide_false, eZ, aJ, i1, d1, num1, cH, aNv, bU, iD]
   cases hk : eO w1 with
   | none =>
    simp only [Option.isNone_none, if_true]
    exact iB lo D.r2 D.r4 hlo
   | some k =>
    have hI : aEo w1 = Int.ofNat k := by unfold aEo; rw [hk]
    obtain ⟨t, ht⟩ := bCa hw.symm (by intro e; rw [e] at c4; simp at c4)
    have hb : 3 + w1.length + 1 ≤ s.length := by rw [ht, c3]; simp [wDo]; omega
    have sw : ∀ g, bI (some (DV.s w1, g)) (.s w1) = true := fun g => by simp [bI, DV.beq, mU]
    simp only [Option.isNone_some, Bool.false_eq_true, if_false, d1, sw, Bool.and_self, Bool.and_true, Bool.true_and]
    simp only [aOd, fA, aJ, bH 3 w1.length h (by omega), bH (3 + w1.length) 1 h (by omega), cPu hb, bHt, hI]
    exact fin (o := some ⟨3, [], [], [], s.drop (3 + w1.length + 1), Int.ofNat k⟩) (ca := [.i .i64 3, .s [], .s [], .l0, .s (s.drop (3 + w1.length + 1)), .i .i64 (Int.ofNat k)]) D.r2 rfl cU hlo (fun h' _ _ => hU _ _ _ _ _ _) true (by rfl) (by rfl) (dG _ _ _ _ _) (cW _ _ _ _ _ _)
 have e3 : decide (w0 = [100, 111]) = false := decide_eq_false c3
 rw [if_neg c3]
 simp only [e3, bO]
 unfold aPg
 simp only [fZ, aJ]
 have tier : ∀ b : Bool, b = true → (w0 = lB ∨ w0 = nJ) → aEi lo h (pV (dA (n + 1)) (n + 1) (.p p2 0) (.p p4 0) x5 (.b (decide ([] ∈ w1 :: r))) (.s w0) (.b b) h)
   (if r.length + 1 + 1 ≠ 3 ∨ [] ∈ w1 :: r then none else some ⟨4, w1, [], [], (w0 :: w1 :: r).getD 2 [], if w0 = lB then 1 else 0⟩) := by
  intro b hb hf
  subst hb
  unfold pV aRk
  simp only [aZ, T.len, aJ, cLw, List.length_cons]
  by_cases c4 : r.length + 1 + 1 = 3
  ·simp only [c4, decide_true, Bool.not_true, eZ, aJ, bU, iD, decide_eq_true_eq, ne_eq, not_true, false_or]
   by_cases c5 : [] ∈ w1 :: r
   ·rw [if_pos c5, if_pos c5]
    exact iB lo D.r2 D.r4 hlo
   ·rw [if_neg c5, if_neg c5]
    obtain ⟨w2, r, rfl⟩ : ∃ a q, r = a :: q := by
     cases r with
     | nil => simp at c4
     | cons a q => exact ⟨a, q, rfl⟩
    obtain ⟨q2, i2, d2⟩ := T.at (i := 2) rfl
    unfold xS
    simp only [i1, d1, i2, d2, aJ, bZf]
    rw [st6 D.r4 rfl cU rfl (dG _ _ _ _ _), aJ]
    have g4 : (⟨h.next, Tr.set (.row .ex [.i .i64 (Int.ofNat 4), .s w1, .s [], .l0, .s w2, .i .i64 (Int.ofNat 0)]) p4 h.bl⟩ : Hp).bl.get p4 = _ := dQg _ _ _
    have g2 : (⟨h.next, Tr.set (.row .ex [.i .i64 (Int.ofNat 4), .s w1, .s [], .l0, .s w2, .i .i64 (Int.ofNat 0)]) p4 h.bl⟩ : Hp).bl.get p2 = some (.row .ex Z6) := by
     rw [← D.r2]; exact dQf _ _ _ _ D.ne
    have T' : TxS x5 (w0 :: w1 :: w2 :: r) ⟨h.next, Tr.set (.row .ex [.i .i64 (Int.ofNat 4), .s w1, .s [], .l0, .s w2, .i .i64 (Int.ofNat 0)]) p4 h.bl⟩ := T.off rfl (p := p4) (fun b o l c e => (D.no2 b o l c e).2) (fun b hb => dQf _ _ _ _ hb)
    generalize hg : (⟨h.next, Tr.set (.row .ex [.i .i64 (Int.ofNat 4), .s w1, .s [], .l0, .s w2, .i .i64 (Int.ofNat 0)]) p4 h.bl⟩ : Hp) = g at g4 g2 T'
    have Lg : Lo lo h g := by rw [← hg]; exact Lo.set _ hlo4
    obtain ⟨q0', i0', d0'⟩ := T'.at (i := 0) rfl
    unfold tV
    simp only [i0', d0', aJ, fZ, List.getD_cons_succ, List.getD_cons_zero]
    by_cases c6 : w0 = lB
    ·have e6 : decide (w0 = [102, 97, 115, 116]) = true := decide_eq_true c6
     rw [if_pos c6]
     simp only [e6, aZ, qP, Nat.zero_add, aJ]
     have sto : aH 1 (.p p4 5) (.i .i64 (Int.ofNat 1)) g = some (aR, ⟨g.next, Tr.set (.row .ex [.i .i64 (Int.ofNat 4), .s w1, .s [], .l0, .s w2, .i .i64 (Int.ofNat 1)]) p4 g.bl⟩) := by
      simp only [aH, dD, cP, g4]
      rfl
     rw [sto, aJ]
     unfold tB
     rw [ld6 (dQg _ _ _) rfl (dG _ _ _ _ _), aJ]
     obtain ⟨ca, h', k1, k2, k3, k4⟩ := fin (lo := lo) (p2 := p2) (o := some ⟨4, w1, [], [], w2, 1⟩) (g := ⟨g.next, Tr.set (.row .ex [.i .i64 (Int.ofNat 4), .s w1, .s [], .l0, .s w2, .i .i64 (Int.ofNat 1)]) p4 g.bl⟩) (ca := [.i .i64 (Int.ofNat 4), .s w1, .s [], .l0, .s w2, .i .i64 (Int.ofNat 1)])
      (by rw [dQf _ _ _ _ D.ne]; exact g2) rfl cU hlo (fun h' _ _ => hU _ _ _ _ _ _) true (by rfl) (by rfl) (dG _ _ _ _ _) (cW _ _ _ _ _ _)
     exact ⟨ca, h', k1, k2, Lg.trans ((Lo.set _ hlo4).trans k3), k4⟩
    ·have e6 : decide (w0 = [102, 97, 115, 116]) = false := decide_eq_false c6
     rw [if_neg c6]
     simp only [e6, bO]
     unfold tB
     rw [ld6 g4 rfl (dG _ _ _ _ _), aJ]
     obtain ⟨ca, h', k1, k2, k3, k4⟩ := fin (lo := lo) (p2 := p2) (o := some ⟨4, w1, [], [], w2, 0⟩) (g := g) (ca := [.i .i64 (Int.ofNat 4), .s w1, .s [], .l0, .s w2, .i .i64 (Int.ofNat 0)]) g2 rfl cU hlo (fun h' _ _ => hU _ _ _ _ _ _) true (by rfl) (by rfl) (dG _ _ _ _ _) (cW _ _ _ _ _ _)
     exact ⟨ca, h', k1, k2, Lg.trans k3, k4⟩
  ·simp only [c4, decide_false, Bool.not_false, dP, aJ, bQ, aZ, ne_eq, not_false_eq_true, true_or, if_true]
   exact iB lo D.r2 D.r4 hlo
 by_cases c4 : w0 = lB
 ·have e4 : decide (w0 = [102, 97, 115, 116]) = true := decide_eq_true c4
  rw [if_pos (.inl c4)]
  simp only [e4, aZ]
  exact tier true rfl (.inl c4)
 have e4 : decide (w0 = [102, 97, 115, 116]) = false := decide_eq_false c4
 simp only [e4, bO]
 by_cases c5 : w0 = nJ
 ·have e5 : decide (w0 = [115, 108, 111, 119]) = true := decide_eq_true c5
  rw [if_pos (.inr c5)]
  simp only [e5]
  exact tier true rfl (.inr c5)
 have e5 : decide (w0 = [115, 108, 111, 119]) = false := decide_eq_false c5
 rw [if_neg (show ¬ (w0 = lB ∨ w0 = nJ) from fun q => q.elim c4 c5)]
 simp only [e5]
 unfold pV
 simp only [bO, fZ, aJ]
 by_cases c6 : w0 = nZ
 ·have e6 : decide (w0 = [101, 118, 101, 114, 121]) = true := decide_eq_true c6
  rw [if_pos c6]
  simp only [e6, aZ, T.len, aJ, cLw, List.length_cons]
  by_cases c7 : r.length + 1 + 1 = 2
  ·simp only [c7, decide_true, Bool.not_true, eZ, aJ, i1, d1, num1, cH, aNv, bU, iD, ne_eq, not_true, if_false]
   cases hk : eO w1 with
   | none =>
    simp only [Option.isNone_none, if_true]
    exact iB lo D.r2 D.r4 hlo
   | some k =>
    have hI : aEo w1 = Int.ofNat k := by unfold aEo; rw [hk]
    simp only [Option.isNone_some, Bool.false_eq_true, if_false, cZd, aJ, hI]
    exact fin (o := some _) D.r2 rfl cU hlo (fun h' _ _ => hU _ _ _ _ _ _) true (by rfl) (by rfl) (dG _ _ _ _ _) (cW _ _ _ _ _ _)
  ·simp only [c7, decide_false, Bool.not_false, dP, vP, aJ, bQ, aZ, ne_eq, not_false_eq_true, if_true]
   exact iB lo D.r2 D.r4 hlo
 ·have e6 : decide (w0 = [101, 118, 101, 114, 121]) = false := decide_eq_false c6
  rw [if_neg c6]
  simp only [e6, bO]
  unfold bG
  exact iB lo D.r2 D.r4 hlo
theorem cCw (r2 : h.bl.get p2 = some (.row .ex Z6)) (r4 : h.bl.get p4 = some (.row .ex Z6)) (ne : p2 ≠ p4) (lo : Nat) (hlo : lo ≤ p2.toNat) (hlo4 : lo ≤ p4.toNat) {rec : RT} :
  aEi lo h (aEh rec n (.s s) (.p p2 0) (.p p4 0) h) (if s = kM then some (st0 5) else if s = pS then some (st0 6) else if s = qD then some (st0 7) else none) := by
 have tail : ∀ (k : Int) (g : Hp) (o : Option Stp), g.bl.get p4 = some (.row .ex [.i .i64 k, .s [], .s [], .l0, .s [], .i .i64 (Int.ofNat 0)]) → g.bl.get p2 = some (.row .ex Z6) → Lo lo h g → aHg o = (!decide (k = 0), ⟨k, [], [], [], [], 0⟩) → aEi lo h (mY rec n (.p p2 0) (.p p4 0) g) o := by
  intro k g o g4 g2 L ho
  unfold mY
  have e0 : aA (.p p4 0) g = some (.i .i64 k, g) := qZ g4 rfl rfl
  have one := dG k (Int.ofNat 0) [] [] []
  rw [ld6 g4 rfl one, aJ, qP, aJ, e0, aJ, kH, nbI, aJ, st6 g2 rfl cU rfl one, aJ]
  have e1 : aA (.p p4 (0 + 0)) ⟨g.next, Tr.set (.row .ex [.i .i64 k, .s [], .s [], .l0, .s [], .i .i64 (Int.ofNat 0)]) p2 g.bl⟩ = some (.i .i64 k, ⟨g.next, Tr.set (.row .ex [.i .i64 k, .s [], .s [], .l0, .s [], .i .i64 (Int.ofNat 0)]) p2 g.bl⟩) :=
   qZ (by show (Tr.set _ p2 g.bl).get p4 = _; rw [dQf _ _ _ _ (Ne.symm ne)]; exact g4) rfl rfl
  have e2 : bI (aA (.p p4 (0 + 0)) ⟨g.next, Tr.set (.row .ex [.i .i64 k, .s [], .s [], .l0, .s [], .i .i64 (Int.ofNat 0)]) p2 g.bl⟩) (.i .i64 k) = true := by
   rw [e1]
   simp [bI, DV.beq]
  simp only [e2, Bool.true_and, Bool.and_true, aOd]
  rw [ld6 (dQg _ _ _) rfl one, aJ]
  refine ⟨[.i .i64 k, .s [], .s [], .l0, .s [], .i .i64 (Int.ofNat 0)], ⟨g.next, Tr.set (.row .ex [.i .i64 k, .s [], .s [], .l0, .s [], .i .i64 (Int.ofNat 0)]) p2 g.bl⟩, ?_, ?_, L.trans (Lo.set _ hlo), cW _ _ _ _ _ _⟩
  ·rw [ho]; rfl
  ·rw [ho]; exact hU k 0 [] [] [] _
 have set : ∀ k : Nat, aH 1 (.p p4 0) (.i .i64 (Int.ofNat k)) h = some (aR, ⟨h.next, Tr.set (.row .ex [.i .i64 (Int.ofNat k), .s [], .s [], .l0, .s [], .i .i64 (Int.ofNat 0)]) p4 h.bl⟩) := by
  intro k
  simp only [aH, dD, cP, r4]
  rfl
 unfold aEh
 simp only [fZ, aJ, iD, qP, Nat.add_zero, set, decide_eq_true_eq]
 have go : ∀ (k : Nat) (o : Option Stp), aHg o = (!decide ((k : Int) = 0), ⟨k, [], [], [], [], 0⟩) → aEi lo h (mY rec n (.p p2 0) (.p p4 0) ⟨h.next, Tr.set (.row .ex [.i .i64 (Int.ofNat k), .s [], .s [], .l0, .s [], .i .i64 (Int.ofNat 0)]) p4 h.bl⟩) o := fun k o ho =>
  tail (Int.ofNat k) _ o (dQg _ _ _) (by rw [← r2]; exact dQf _ _ _ _ ne) (Lo.set _ hlo4) ho
 by_cases c1 : s = kM
 ·rw [if_pos c1, if_pos (show s = [99, 111, 108, 108, 101, 99, 116] from c1)]
  exact go 5 _ rfl
 rw [if_neg c1, if_neg (show ¬ s = [99, 111, 108, 108, 101, 99, 116] from c1)]
 by_cases c2 : s = pS
 ·rw [if_pos c2, if_pos (show s = [102, 108, 117, 115, 104] from c2)]
  exact go 6 _ rfl
 rw [if_neg c2, if_neg (show ¬ s = [102, 108, 117, 115, 104] from c2)]
 by_cases c3 : s = qD
 ·rw [if_pos c3, if_pos (show s = [105, 109, 97, 103, 101] from c3)]
  exact go 7 _ rfl
 rw [if_neg c3, if_neg (show ¬ s = [105, 109, 97, 103, 101] from c3)]
 exact tail 0 h none r4 r2 (Lo.refl _ _) rfl
theorem bWd (hs : s.length < 100000000) (hn : s.length + 30 < n) (h : Hp) : aEi h.next.toNat h (dA n 20 [.s s] h) (gL s) := by
 obtain ⟨n, rfl⟩ : ∃ j, n = j + 1 + 1 := ⟨n - 2, by omega⟩
 rw [dNi]
 unfold s20 yH aDe
 simp only [aDv, aJ]
 have n1 := dQh h.next
 have n2 := dQh h.next.succ
 have ne : h.next ≠ h.next.succ := fun e => by have := congrArg Pos.toNat e; omega
 generalize hg : (⟨h.next.succ.succ, Tr.set (.row .ex Z6) h.next.succ (Tr.set (.row .ex Z6) h.next h.bl)⟩ : Hp) = g
 have gn : g.next = h.next.succ.succ := by rw [← hg]
 have g4 : g.bl.get h.next.succ = some (.row .ex Z6) := by rw [← hg]; exact dQg _ _ _
 have g2 : g.bl.get h.next = some (.row .ex Z6) := by
  rw [← hg]
  show (Tr.set _ h.next.succ (Tr.set _ h.next h.bl)).get h.next = _
  rw [dQf _ _ _ _ ne, dQg]
 have Lg : Lo h.next.toNat h g := by
  rw [← hg]
  exact (Lo.new (.row .ex Z6) h).trans ((Lo.new (.row .ex Z6) ⟨h.next.succ, Tr.set (.row .ex Z6) h.next h.bl⟩).mono (show h.next.toNat ≤ h.next.succ.toNat by omega))
 obtain ⟨x5, g', e1, e2, e3⟩ := aCm (rec := dA n) (n := n) (s := s) (c := 32) (by omega) (by omega) g
 rw [dFh, e1, aJ]
 have T := e2.txs
 have hlen := jZ 32 s
 have up : aEi h.next.toNat g' (aLl (dA (n + 1)) (n + 1) (.s s) (.p h.next 0) (.p h.next.succ 0) x5 g') (gL s) := by
  have k2 : g'.bl.get h.next = some (.row .ex Z6) := by rw [e3.get _ (by rw [gn]; omega)]; exact g2
  have k4 : g'.bl.get h.next.succ = some (.row .ex Z6) := by rw [e3.get _ (by rw [gn]; omega)]; exact g4
  have hn' := e3.next
  rw [gn] at hn'
  unfold aLl aHy
  simp only [T.len, aJ, cKm, iD, decide_eq_true_eq]
  by_cases c : (bM 32 s).length = 1
  ·rw [if_pos c]
   have : gL s = (if s = kM then some (st0 5) else if s = pS then some (st0 6) else if s = qD then some (st0 7) else none) := by
    unfold gL
    simp only [c, if_true]
   rw [this]
   exact cCw k2 k4 ne h.next.toNat (Nat.le_refl _) (by omega)
  ·rw [if_neg c]
   unfold nD bAr aJp aRp
   have hne := oL 32 s
   have hl0 : (bM 32 s).length ≠ 0 := fun e => hne (List.eq_nil_of_length_eq_zero e)
   rw [aOv T (by omega) ((bM 32 s).length - 1) 1 (n + 1) false (by omega) (by omega)]
   rw [Bool.false_or]
   exact bTj ⟨T, k2, k4, ne, fun b o l c e => by
    rcases e2 with ⟨rfl, _⟩ | ⟨b', rfl, _, e5, _⟩
    ·cases e
    ·cases e
     rw [gn] at e5
     exact ⟨fun q => by rw [q] at e5; omega, fun q => by rw [q] at e5; omega⟩⟩ rfl c hs (by omega) h.next.toNat (Nat.le_refl _) (by omega) (fun b o l c e => by
    rcases e2 with ⟨rfl, _⟩ | ⟨b', rfl, _, e5, _⟩
    ·cases e
    ·cases e
     rw [gn] at e5
     omega)
 obtain ⟨ca, h', u1, u2, u3, u4⟩ := up
 exact ⟨ca, h', u1, u2, Lg.trans ((e3.mono (by rw [gn]; omega)).trans u3), u4⟩
end
end Go.Dd

namespace Go.Dd
open Go.Proofs
theorem sh9 (n : Nat) (x : DV) (h : Hp) : dA (n + 1) 9 [x] h = s9 (dA n) n x h := (cS 9 rfl n [x] h).trans (dFi (dA n) n [x] h)
theorem dKk (n : Nat) (x y : DV) (h : Hp) : dA (n + 1) 10 [x, y] h = s10 (dA n) n x y h := (cS 10 rfl n [x, y] h).trans (cPn (dA n) n [x, y] h)
theorem dOa (n : Nat) (x y : DV) (h : Hp) : dA (n + 1) 21 [x, y] h = s21 (dA n) n x y h := (cS 21 rfl n [x, y] h).trans (cMw (dA n) n [x, y] h)
def aHo (cells : List DV) (j : Nat) : List DV := (cells.drop (j * 6)).take 6
def yV (ca : List DV) (x : DV) : Prop := ∀ b o l c, ca[3]? = some (DV.l b o l c) → ∀ m, x ≠ .l b 0 m m
def StS (x : DV) (l : List Stp) (lo : Nat) (h : Hp) : Prop := ∃ cells, GrZ 6 x l.length cells lo h ∧ ∀ j st, l[j]? = some st → StC (aHo cells j) st h ∧ yV (aHo cells j) x
theorem StS.nil (lo : Nat) (h : Hp) : StS .l0 [] lo h := ⟨[], GrZ.nil 6 lo h, fun j st e => by simp at e⟩
theorem GrZ.stay {sz n lo : Nat} {x : DV} {cells : List DV} {h h' : Hp} (S : GrZ sz x n cells lo h) (L : Lo h.next.toNat h h') : GrZ sz x n cells lo h' := by
 obtain ⟨a, b, c⟩ := S
 refine ⟨a, b, ?_⟩
 rcases c with c | ⟨p, e1, e2, e3, e4⟩
 ·exact .inl c
 ·exact .inr ⟨p, e1, by rw [L.get p e4]; exact e2, e3, Nat.lt_of_lt_of_le e4 L.next⟩
theorem StS.stay {x : DV} {l : List Stp} {lo : Nat} {h h' : Hp} (S : StS x l lo h) (L : Lo h.next.toNat h h') : StS x l lo h' := by
 obtain ⟨cells, G, C⟩ := S
 exact ⟨cells, G.stay L, fun j st e => ⟨(C j st e).1.stay L, (C j st e).2⟩⟩
theorem StS.len {x : DV} {l : List Stp} {lo : Nat} {h : Hp} (S : StS x l lo h) (g : Hp) : cQ x g = some (.i .i64 (Int.ofNat l.length), g) := by
 obtain ⟨cells, ⟨_, _, G⟩, _⟩ := S
 rcases G with ⟨rfl, e⟩ | ⟨p, rfl, _⟩
 ·rw [e]; rfl
 ·rfl
theorem bGz {cells c : List DV} {n j : Nat} (hl : cells.length = n * 6) (hj : j < n) : aHo (cells ++ c) j = aHo cells j := by
 unfold aHo
 rw [List.drop_append_of_le_length (by omega), List.take_append_of_le_length (by rw [List.length_drop]; omega)]
theorem bGh {cells c : List DV} {n : Nat} (hl : cells.length = n * 6) (hc : c.length = 6) : aHo (cells ++ c) n = c := by
 unfold aHo
 rw [← hl, List.drop_left, ← hc, List.take_length]
theorem xT : ∀ (n : Nat) (l : List DV), n ≤ l.length → (∀ v ∈ l.take n, v.one = true) → kN n l = some (l.take n)
 | 0, l, _, _ => by simp [kN]
 | n + 1, [], h, _ => by simp at h
 | n + 1, x :: l, h, ho => by
  show (if x.one then (kN n l).map (x :: ·) else none) = _
  rw [if_pos (ho x (by simp)), xT n l (by simpa using h) (fun v hv => ho v (by simp [hv]))]
  rfl
theorem StS.at {x : DV} {l : List Stp} {lo : Nat} {h : Hp} (S : StS x l lo h) {i : Nat} {st : Stp} (hi : l[i]? = some st) : ∃ p ca, (∀ g, aE 6 x (.i .i64 (Int.ofNat i)) g = some (p, g)) ∧ aK 6 p h = some (.a ca, h) ∧ StC ca st h := by
 have hlt : i < l.length := by
  rcases Nat.lt_or_ge i l.length with h | h
  ·exact h
  ·rw [List.getElem?_eq_none h] at hi; cases hi
 obtain ⟨cells, ⟨c1, c2, G⟩, C⟩ := S
 have C' := (C i st hi).1
 rcases G with ⟨rfl, e⟩ | ⟨b, rfl, e2, e3, e4⟩
 ·omega
 ·refine ⟨.p b (i * 6), aHo cells i, fun g => ?_, ?_, C'⟩
  ·unfold aE
   simp only
   rw [if_pos (by show (0 : Int) ≤ (i : Int) ∧ (i : Int) < (l.length : Int); omega)]
   show some (DV.p b (0 + (i : Int).toNat * 6), g) = _
   simp
  ·have ht : kN 6 (cells.drop (i * 6)) = some (aHo cells i) := xT 6 _ (by rw [List.length_drop, c1]; omega) C'.one
   simp only [aK, cellsAt, rowOf, e2, ht]
theorem StS.app {x : DV} {l : List Stp} {lo : Nat} {h : Hp} (S : StS x l lo h) (hlo : lo ≤ h.next.toNat) {ca : List DV} {st : Stp} (A : StC ca st h) (hN : yV ca x) (hl : l.length < 1000000) :
  ∃ y g, aN Z6 1 [(0, 6, .a ca)] h = some (y, g) ∧ ∃ x' h', bK 6 88 x y g = some (x', h') ∧ StS x' (l ++ [st]) lo h' ∧ Lo lo h h' := by
 obtain ⟨cells, G, C⟩ := S
 have fd : jQ Z6 [(0, 6, .a ca)] = some ca := by
  have hc := A.len
  simp only [jQ, dD]
  rw [if_pos ⟨hc, by decide⟩]
  simp
 obtain ⟨y, g, e1, x', h', e2, e3, e4, e5, e6⟩ := G.appV hlo (by omega) fd A.len A.one (bytes := 88) (by unfold mE; omega)
 refine ⟨y, g, e1, x', h', e2, ⟨cells ++ ca, by rw [List.length_append]; exact e3, fun j st' hj => ?_⟩, e4⟩
 have fresh : ∀ (ca' : List DV) (st' : Stp), StC ca' st' h → yV ca' x → StC ca' st' h' ∧ yV ca' x' := by
  intro ca' st' A' N'
  obtain ⟨v, rfl, T⟩ := A'
  constructor
  ·refine ⟨v, rfl, T.stay' e4.next fun b o len cap ev => ?_⟩
   have hb : b.toNat < h.next.toNat := by
    rcases T with ⟨q | q, _⟩ | ⟨b', o', cap', k, row, q, _, _, q4, _⟩
    ·rw [q] at ev; cases ev
    ·rw [q] at ev; cases ev
    ·rw [q] at ev; cases ev; exact q4
   exact e5 b hb (fun m => N' b o len cap (by rw [ev]; rfl) m)
  ·intro b o len cap ev m e
   have hb : b.toNat < h.next.toNat := by
    have ev' : v = .l b o len cap := Option.some.inj ev
    rcases T with ⟨q | q, _⟩ | ⟨b', o', cap', k, row, q, _, _, q4, _⟩
    ·rw [q] at ev'; cases ev'
    ·rw [q] at ev'; cases ev'
    ·rw [q] at ev'; cases ev'; exact q4
   have := e6 b m e
   omega
 by_cases q : j < l.length
 ·rw [List.getElem?_append_left q] at hj
  rw [bGz G.1 q]
  exact fresh _ _ (C j st' hj).1 (C j st' hj).2
 ·have : j = l.length := by
   rcases Nat.lt_or_ge j (l ++ [st]).length with h | h
   ·simp at h; omega
   ·rw [List.getElem?_eq_none h] at hj; cases hj
  subst this
  rw [List.getElem?_append_right (Nat.le_refl _)] at hj
  simp only [Nat.sub_self, List.getElem?_cons_zero, aT] at hj
  subst hj
  rw [bGh G.1 A.len]
  exact fresh _ _ A hN
theorem nL : ∀ (ls : List Bs) (i : Nat) (out : List Stp), out.length ≤ 60 → (bZ i out ls).1.length ≤ 60
 | [], i, out, h => h
 | l :: r, i, out, h => by
  unfold bZ
  split
  ·exact nL r _ _ h
  ·split
   ·simp
   ·split
    ·simp
    ·exact nL r _ _ (by rw [List.length_append]; simp; omega)
theorem StS.below {x : DV} {l : List Stp} {lo : Nat} {h : Hp} (S : StS x l lo h) {b : Pos} {m : Nat} (e : x = .l b 0 m m) : b.toNat < h.next.toNat := by
 obtain ⟨cells, ⟨_, _, G⟩, _⟩ := S
 rcases G with ⟨rfl, _⟩ | ⟨p, rfl, _, _, e4⟩
 ·cases e
 ·cases e; exact e4
theorem NmLo.off {lo : Nat} {ca : List DV} {x : DV} (N : NmLo lo ca) (hx : ∀ b m, x = .l b 0 m m → b.toNat < lo) : yV ca x := fun b o l c e m q => by
 have := N b o l c e
 have := hx b m q
 omega
theorem aOc (b : Bool) (h : Hp) : jK .not (.b b) h = some (.b (!b), h) := rfl
section
variable {n : Nat}
theorem bOz {ls : List Bs} {x6 : DV} {h0 : Hp} (T : TxS x6 ls h0) (hl : ls.length < 1000000) (hb : ∀ t ∈ ls, t.length < 100000000 ∧ t.length + 40 < n) (lo : Nat) (hlo : h0.next.toNat ≤ lo) :
  ∀ (k i m : Nat) (out : List Stp) (x5 : DV) (h : Hp), i + k = ls.length → k < m → out.length ≤ 60 → StS x5 out lo h → lo ≤ h.next.toNat → Lo lo h0 h →
  ∃ x h', vD (dA n) n m x5 x6 (.i .i64 (Int.ofNat i)) h = some (.t [x, .i .i64 (Int.ofNat (bZ i out (ls.drop i)).2.1), .i .i64 (Int.ofNat (bZ i out (ls.drop i)).2.2)], h') ∧ StS x (bZ i out (ls.drop i)).1 lo h' ∧ Lo lo h h' := by
 intro k
 induction k with
 | zero =>
  intro i m out x5 h hi hm ho S hn L
  obtain ⟨m, rfl⟩ : ∃ j, m = j + 1 := ⟨m - 1, by omega⟩
  have T' := T.stay (L.mono hlo)
  rw [List.drop_of_length_le (by omega)]
  refine ⟨x5, h, ?_, S, Lo.refl _ _⟩
  show aDc (dA n) n (vD (dA n) n m) _ _ _ h = _
  unfold aDc iE
  simp only [T'.len, aJ, kX, show ¬ i < ls.length by omega, decide_false, bO]
  rfl
 | succ k ih =>
  intro i m out x5 h hi hm ho S hn L
  obtain ⟨m, rfl⟩ : ∃ j, m = j + 1 := ⟨m - 1, by omega⟩
  have T' := T.stay (L.mono hlo)
  have hia : i < ls.length := by omega
  obtain ⟨p, a1, a2⟩ := T'.at (List.getElem?_eq_getElem hia)
  have hd : ls.drop i = ls[i] :: ls.drop (i + 1) := List.drop_eq_getElem_cons hia
  obtain ⟨b1, b2⟩ := hb ls[i] (List.getElem_mem hia)
  have ih' := fun out x5 h => ih (i + 1) m out x5 h (by omega) (by omega)
  generalize ls[i] = t at a2 hd b1 b2
  generalize ls.drop (i + 1) = r at hd ih'
  rw [hd]
  have skip : (t = [] ∨ t.head? = some 34) → ∃ x h', aBy (dA n) n (vD (dA n) n m) x5 x6 (.i .i64 (Int.ofNat i)) h = some (.t [x, .i .i64 (Int.ofNat (bZ i out (t :: r)).2.1), .i .i64 (Int.ofNat (bZ i out (t :: r)).2.2)], h') ∧ StS x (bZ i out (t :: r)).1 lo h' ∧ Lo lo h h' := by
   intro hs
   have e : bZ i out (t :: r) = bZ (i + 1) out r := by rw [bZ, if_pos hs]
   rw [e]
   unfold aBy
   simp only [bH i 1 _ (show i + 1 < _ by omega), aJ]
   exact ih' out x5 h ho S hn L
  show ∃ x h', aDc (dA n) n (vD (dA n) n m) _ _ _ h = _ ∧ _
  unfold aDc bJn
  simp only [T'.len, aJ, kX, hia, decide_true, aZ, a1, a2, fA, cKm]
  cases t with
  | nil =>
   simp only [List.length_nil, decide_true, dP, vP, aJ, bQ, aZ]
   exact skip (.inl rfl)
  | cons c t =>
  simp only [List.length_cons, Nat.add_one_ne_zero, decide_false, eZ, aJ, a1, a2, show (Int.ofNat 0 : Int) = Int.ofNat 0 from rfl, nE (s := c :: t) (i := 0) (c := c) rfl, dT, bU]
  by_cases c34 : c = 34
  ·have e : (Int.ofNat c == Int.ofNat 34) = true := by rw [c34]; rfl
   simp only [e, aZ]
   exact skip (.inr (by rw [c34]; rfl))
  have e : (Int.ofNat c == Int.ofNat 34) = false := by
   rw [beq_eq_false_iff_ne]
   intro q
   exact c34 (Int.ofNat.inj q)
  have hs : ¬ ((c :: t) = [] ∨ (c :: t).head? = some 34) := by
   rintro (q | q)
   ·cases q
   ·exact c34 (Option.some.inj q)
  obtain ⟨ca, g, u1, C, L1, N⟩ := bWd (s := c :: t) b1 (by omega : (c :: t).length + 30 < n) h
  have hN : yV ca x5 := N.off (fun b m q => S.below q)
  simp only [e, bO, u1, aJ, oV, oY, aDv]
  have g1 : (⟨g.next.succ, Tr.set (.row .ex Z6) g.next g.bl⟩ : Hp).bl.get g.next = some (.row .ex Z6) := dQg _ _ _
  have l1 := Lo.new (.row .ex Z6) g
  have l2 : Lo g.next.toNat (⟨g.next.succ, Tr.set (.row .ex Z6) g.next g.bl⟩ : Hp) ⟨g.next.succ, Tr.set (.row .ex ca) g.next (Tr.set (.row .ex Z6) g.next g.bl)⟩ := Lo.set (h := ⟨g.next.succ, Tr.set (.row .ex Z6) g.next g.bl⟩) _ (Nat.le_refl _)
  rw [st6 g1 rfl cU C.len C.one, aJ, aOc, aJ]
  generalize hk : (⟨g.next.succ, Tr.set (.row .ex ca) g.next (Tr.set (.row .ex Z6) g.next g.bl)⟩ : Hp) = q at l2
  have Lq : Lo h.next.toNat h q := L1.trans ((l1.trans l2).mono L1.next)
  have Llo : Lo lo h q := Lq.mono hn
  have nq : lo ≤ q.next.toNat := Nat.le_trans hn Lq.next
  have C' : StC ca (aHg (gL (c :: t))).2 q := C.stay (l1.trans l2)
  have gq : q.bl.get g.next = some (.row .ex ca) := by rw [← hk]; exact dQg _ _ _
  have S' : StS x5 out lo q := S.stay Lq
  rw [bZ, if_neg hs, bFz]
  cases hst : gL (c :: t) with
  | none =>
   rw [hst] at C'
   simp only [aHg, Bool.not_false, aZ, bH i 1 _ (show i + 1 < _ by omega), aJ]
   exact ⟨.l0, q, rfl, StS.nil _ _, Llo⟩
  | some st =>
   rw [hst] at C'
   simp only [aHg, Bool.not_true, bO, S'.len, aJ, cKm, iD, decide_eq_true_eq]
   by_cases c60 : out.length = 60
   ·rw [if_pos c60, if_pos c60]
    simp only [bH i 1 _ (show i + 1 < _ by omega), aJ]
    exact ⟨.l0, q, rfl, StS.nil _ _, Llo⟩
   ·rw [if_neg c60, if_neg c60]
    obtain ⟨y, g2, v1, x', h2, v2, v3, v4⟩ := S'.app nq C' hN (by omega)
    rw [ld6 gq C.len C.one, aJ, v1, aJ, v2, aJ]
    unfold aBy
    simp only [bH i 1 _ (show i + 1 < _ by omega), aJ]
    obtain ⟨x, h3, w1, w2, w3⟩ := ih' (out ++ [st]) x' h2 (by rw [List.length_append]; simp; omega) v3 (Nat.le_trans nq v4.next) (L.trans (Llo.trans v4))
    exact ⟨x, h3, w1, w2, Llo.trans (v4.trans w3)⟩
theorem bHc {s : Bs} (hs : s.length < 900000) (hn : s.length + 60 < n) (h : Hp) :
  ∃ x h', dA n 9 [.s s] h = some (.t [x, .i .i64 (Int.ofNat (cZ s).2.1), .i .i64 (Int.ofNat (cZ s).2.2)], h') ∧ StS x (cZ s).1 h.next.toNat h' ∧ Lo h.next.toNat h h' := by
 obtain ⟨n, rfl⟩ : ∃ j, n = j + 1 + 1 := ⟨n - 2, by omega⟩
 rw [sh9]
 unfold s9 bYq
 simp only [fA, aJ, eX]
 unfold cZ
 by_cases c : s.length > 20000
 ·rw [if_pos c, decide_eq_true (show Int.ofNat s.length > Int.ofNat 20000 from by show ((20000 : Nat) : Int) < (s.length : Int); omega), aZ]
  exact ⟨.l0, h, rfl, StS.nil _ _, Lo.refl _ _⟩
 ·rw [if_neg c, decide_eq_false (show ¬ Int.ofNat s.length > Int.ofNat 20000 from by show ¬ ((20000 : Nat) : Int) < (s.length : Int); omega), bO]
  unfold cJe bYp cHy cKn cZc
  obtain ⟨x6, g, e1, e2, e3⟩ := aCm (rec := dA n) (n := n) (s := s) (c := 10) (by omega) (by omega) h
  rw [dFh, e1, aJ]
  have hlen := jZ 10 s
  have hmem : ∀ t ∈ bM 10 s, t.length ≤ s.length := fY
  obtain ⟨x, h', w1, w2, w3⟩ := bOz (n := n + 1) e2.txs (by omega) (fun t ht => by have := hmem t ht; exact ⟨by omega, by omega⟩) g.next.toNat (Nat.le_refl _) (bM 10 s).length 0 (n + 1) [] .l0 g (by omega) (by omega) (by simp) (StS.nil _ _) (Nat.le_refl _) (Lo.refl _ _)
  rw [List.drop_zero] at w1 w2
  have w2' : StS x (bZ 0 [] (bM 10 s)).1 h.next.toNat h' := by
   obtain ⟨cells, ⟨q1, q2, q3⟩, q4⟩ := w2
   refine ⟨cells, ⟨q1, q2, ?_⟩, q4⟩
   rcases q3 with q3 | ⟨b, k1, k2, k3, k4⟩
   ·exact .inl q3
   ·exact .inr ⟨b, k1, k2, Nat.le_trans e3.next k3, k4⟩
  exact ⟨x, h', w1, w2', e3.trans (w3.mono e3.next)⟩
theorem bEj {la lb : List Stp} {xa xb : DV} {lo1 lo2 : Nat} {h0 : Hp} (A : StS xa la lo1 h0) (B : StS xb lb lo2 h0) (hl : la.length = lb.length) (hlen : la.length < 1000000) (hnm : ∀ st ∈ la, st.names.length < 900000 ∧ st.names.length + 2 < n) :
  ∀ (k i m : Nat) (h : Hp), i + k = la.length → k < m → Lo h0.next.toNat h0 h → ∃ h', qG (dA (n + 1)) (n + 1) m xa xb (.i .i64 (Int.ofNat i)) h = some (.b (decide (la.drop i = lb.drop i)), h') ∧ Lo h0.next.toNat h0 h' := by
 intro k
 induction k with
 | zero =>
  intro i m h hi hm L
  obtain ⟨m, rfl⟩ : ∃ j, m = j + 1 := ⟨m - 1, by omega⟩
  have A' := A.stay L
  refine ⟨h, ?_, L⟩
  show uQ (dA (n + 1)) (n + 1) (qG (dA (n + 1)) (n + 1) m) _ _ _ h = _
  unfold uQ gT
  simp only [A'.len, aJ, kX, show ¬ i < la.length by omega, decide_false, bO]
  rw [List.drop_of_length_le (by omega), List.drop_of_length_le (by omega)]
  simp
 | succ k ih =>
  intro i m h hi hm L
  obtain ⟨m, rfl⟩ : ∃ j, m = j + 1 := ⟨m - 1, by omega⟩
  have A' := A.stay L
  have B' := B.stay L
  have hia : i < la.length := by omega
  have hib : i < lb.length := by omega
  obtain ⟨pa, ca, a1, a2, a3⟩ := A'.at (List.getElem?_eq_getElem hia)
  obtain ⟨pb, cb, b1, b2, b3⟩ := B'.at (List.getElem?_eq_getElem hib)
  obtain ⟨n1, n2⟩ := hnm la[i] (List.getElem_mem hia)
  obtain ⟨g, e1, e2⟩ := bNx (rec := dA n) (n := n) a3 b3 (by omega) (by omega)
  show ∃ h', uQ (dA (n + 1)) (n + 1) (qG (dA (n + 1)) (n + 1) m) _ _ _ h = _ ∧ _
  unfold uQ
  simp only [A'.len, aJ, kX, hia, decide_true, aZ, a1, a2, b1, b2, dOa, e1, aOc, iD]
  rw [List.drop_eq_getElem_cons hia, List.drop_eq_getElem_cons hib]
  have Lg : Lo h0.next.toNat h0 g := L.trans (e2.mono L.next)
  by_cases q : la[i] = lb[i]
  ·simp only [q, decide_true, Bool.not_true, Bool.false_eq_true, if_false, bH i 1 _ (show i + 1 < _ by omega), aJ]
   obtain ⟨h', w1, w2⟩ := ih (i + 1) m g (by omega) (by omega) Lg
   refine ⟨h', ?_, w2⟩
   rw [w1]
   simp only [List.cons.injEq, true_and, if_true]
  ·simp only [q, decide_false, Bool.not_false, if_true]
   refine ⟨g, ?_, Lg⟩
   simp only [List.cons.injEq, q, false_and, decide_false]
theorem cDu {la lb : List Stp} {xa xb : DV} {lo1 lo2 : Nat} {h : Hp} (A : StS xa la lo1 h) (B : StS xb lb lo2 h) (hlen : la.length < 1000000) (hn : la.length + 2 < n) (hnm : ∀ st ∈ la, st.names.length < 900000 ∧ st.names.length + 4 < n) :
  ∃ h', dA n 10 [xa, xb] h = some (.b (decide (la = lb)), h') ∧ Lo h.next.toNat h h' := by
 obtain ⟨n, rfl⟩ : ∃ j, n = j + 1 + 1 := ⟨n - 2, by omega⟩
 rw [dKk]
 unfold s10 aWi
 simp only [A.len, B.len, aJ, cLw, iD]
 by_cases q : la.length = lb.length
 ·simp only [q, decide_true, Bool.not_true, Bool.false_eq_true, if_false]
  unfold aZe bCk bPg
  obtain ⟨h', w1, w2⟩ := bEj (n := n) A B q hlen (fun st hst => ⟨(hnm st hst).1, by have := (hnm st hst).2; omega⟩) la.length 0 (n + 1) h (by omega) (by omega) (Lo.refl _ _)
  rw [List.drop_zero, List.drop_zero] at w1
  exact ⟨h', w1, w2⟩
 ·have : la ≠ lb := fun e => q (by rw [e])
  simp only [q, decide_false, Bool.not_false, if_true, this]
  exact ⟨h, rfl, Lo.refl _ _⟩
end
end Go.Dd

namespace Go.Dd
open Go.Proofs
theorem dKo (n : Nat) (x y : DV) (h : Hp) : dA (n + 1) 17 [x, y] h = s17 (dA n) n x y h := (cS 17 rfl n [x, y] h).trans (cPe (dA n) n [x, y] h)
theorem dPg (n : Nat) (x : DV) (h : Hp) : dA (n + 1) 18 [x] h = s18 (dA n) n x h := (cS 18 rfl n [x] h).trans (cOe (dA n) n [x] h)
theorem dLe (n : Nat) (h : Hp) : dA (n + 1) 34 [] h = s34 (dA n) n h := (cS 34 rfl n [] h).trans (cOu (dA n) n [] h)
theorem dNb (n : Nat) (x : DV) (h : Hp) : dA (n + 1) 50 [x] h = s50 (dA n) n x h := (cS 50 rfl n [x] h).trans (cPi (dA n) n [x] h)
theorem dOv (n : Nat) (x : DV) (h : Hp) : dA (n + 1) 51 [x] h = s51 (dA n) n x h := (cS 51 rfl n [x] h).trans (cNb (dA n) n [x] h)
theorem dMr (n : Nat) (x : DV) (h : Hp) : dA (n + 1) 52 [x] h = s52 (dA n) n x h := (cS 52 rfl n [x] h).trans (cOf (dA n) n [x] h)
theorem dMy (n : Nat) (x : DV) (h : Hp) : dA (n + 1) 53 [x] h = s53 (dA n) n x h := (cS 53 rfl n [x] h).trans (cOj (dA n) n [x] h)
theorem dNm (n : Nat) (x : DV) (h : Hp) : dA (n + 1) 54 [x] h = s54 (dA n) n x h := (cS 54 rfl n [x] h).trans (cPr (dA n) n [x] h)
theorem dMh (n : Nat) (x y : DV) (h : Hp) : dA (n + 1) 75 [x, y] h = s75 (dA n) n x y h := (cS 75 rfl n [x, y] h).trans (cOp (dA n) n [x, y] h)
theorem dNp (n : Nat) (x : DV) (h : Hp) : dA (n + 1) 73 [x] h = s73 (dA n) n x h := (cS 73 rfl n [x] h).trans (cNe (dA n) n [x] h)
theorem dBz (n : Nat) (x y : DV) (h : Hp) : dA (n + 1) 123 [x, y] h = s123 (dA n) n x y h := (cS 123 rfl n [x, y] h).trans (bKy (dA n) n [x, y] h)
theorem dFf (n : Nat) (x y : DV) (h : Hp) : dA (n + 1) 193 [x, y] h = s193 (dA n) n x y h := (cS 193 rfl n [x, y] h).trans (bQx (dA n) n [x, y] h)
theorem rM {a b : Nat} (h : a ≤ b) : Nat.ble a b = true := Nat.ble_eq_true_of_le h
theorem bXo {a b : Nat} (h : a < b) : Nat.blt a b = true := Nat.ble_eq_true_of_le h
theorem yU (n : Nat) {c : Nat} (hc : c < 256) {s : Bs} (hs : s.length ≤ 4000000000) (h : Hp) :
  dA (n + 1) 17 [.s s, .s [c]] h = some (.l h.next 0 (bM c s).length (bM c s).length, ⟨h.next.succ, Tr.set (.row .ex ((bM c s).map DV.s)) h.next h.bl⟩) := by
 rw [dKo]
 unfold s17
 have e : mV [.s s, .s [c], (.i .i64 (Int.ofNat 0)), (.i .i64 (Int.negSucc 0))] h = some (.l h.next 0 (bM c s).length (bM c s).length, ⟨h.next.succ, Tr.set (.row .ex ((bM c s).map DV.s)) h.next h.bl⟩) := by
  simp only [mV, bXo hc, rM hs, cond_true]
 rw [e, aJ]
theorem sS {c : Nat} {s : Bs} {h : Hp} : TxS (.l h.next 0 (bM c s).length (bM c s).length) (bM c s) ⟨h.next.succ, Tr.set (.row .ex ((bM c s).map DV.s)) h.next h.bl⟩ :=
 .inr ⟨h.next, 0, _, .ex, _, rfl, dQg _ _ _, fun j _ => by simp, by show h.next.toNat < h.next.succ.toNat; rw [dQh]; omega, Nat.le_refl _⟩
theorem aTb {rec : RT} {n : Nat} {x : DV} {l : List Bs} {h : Hp} (T : TxS x l h) (hl : l.length < 1000000000) (t : Bs) : ∀ (k i m : Nat), i + k = l.length → k < m →
  ∃ r : Int, mL rec n m x (.s t) (.i .i64 (Int.ofNat l.length)) (.i .i64 (Int.ofNat i)) h = some (.i .i64 r, h) ∧ decide (r ≥ Int.ofNat 0) = decide (t ∈ l.drop i) := by
 intro k
 induction k with
 | zero =>
  intro i m hi hm
  obtain ⟨m, rfl⟩ : ∃ j, m = j + 1 := ⟨m - 1, by omega⟩
  refine ⟨Int.negSucc 0, ?_, ?_⟩
  ·show oO rec n (mL rec n m) _ _ _ _ h = _
   unfold oO eU
   simp only [kX, show ¬ i < l.length by omega, decide_false, aJ, bO]
  ·rw [List.drop_of_length_le (by omega)]; simp
 | succ k ih =>
  intro i m hi hm
  obtain ⟨m, rfl⟩ : ∃ j, m = j + 1 := ⟨m - 1, by omega⟩
  have hia : i < l.length := by omega
  obtain ⟨p, a1, a2⟩ := T.at (List.getElem?_eq_getElem hia)
  obtain ⟨r, w1, w2⟩ := ih (i + 1) m (by omega) (by omega)
  rw [List.drop_eq_getElem_cons hia]
  show ∃ r : Int, oO rec n (mL rec n m) _ _ _ _ h = _ ∧ _
  unfold oO
  simp only [kX, hia, decide_true, aJ, aZ, a1, a2, fZ, iD, decide_eq_true_eq]
  by_cases q : t = l[i]
  ·rw [if_pos q]
   refine ⟨Int.ofNat i, rfl, ?_⟩
   rw [← q]
   have : Int.ofNat i ≥ Int.ofNat 0 := by show ((0 : Nat) : Int) ≤ (i : Int); omega
   simp [this]
  ·rw [if_neg q]
   simp only [bH i 1 _ (show i + 1 < _ by omega), aJ]
   refine ⟨r, w1, ?_⟩
   rw [w2]
   simp only [List.mem_cons, q, false_or]
theorem aNr {n : Nat} {x : DV} {l : List Bs} {h : Hp} (T : TxS x l h) (hl : l.length + 5 < n) (hl2 : l.length < 1000000000) : dA n 73 [x] h = some (.b (!decide ([] ∈ l)), h) := by
 obtain ⟨n, rfl⟩ : ∃ j, n = j + 1 + 1 + 1 := ⟨n - 3, by omega⟩
 obtain ⟨r, w1, w2⟩ := aTb (rec := dA n) (n := n) T hl2 [] l.length 0 n (by omega) (by omega)
 rw [List.drop_zero] at w2
 rw [dNp]
 unfold s73
 rw [dBz]
 unfold s123
 rw [dFf]
 unfold s193 aKj aIb aTw
 simp only [T.len, aJ]
 rw [w1]
 simp only [aJ, nT, w2, aOc]
def OutP (lo : Nat) (h : Hp) (r : aG) (o : Option Stp) : Prop := ∃ ca h', r = some (.t [.a ca, .b o.isSome], h') ∧ ca.length = 6 ∧ (∀ v ∈ ca, v.one = true) ∧ (∀ st, o = some st → StC ca st h') ∧ Lo lo h h' ∧ NmLo lo ca
theorem OutP.up {lo lo' : Nat} {h g : Hp} {r : aG} {o : Option Stp} (O : OutP lo g r o) (L : Lo lo' h g) (hl : lo' ≤ lo) : OutP lo' h r o := by
 obtain ⟨ca, h', e1, e2, e3, e4, e5, e6⟩ := O
 exact ⟨ca, h', e1, e2, e3, e4, L.trans (e5.mono hl), fun b o l c e => Nat.le_trans hl (e6 b o l c e)⟩
theorem qY {lo : Nat} {o : Option Stp} {p : Pos} {g : Hp} {ca row : List DV} (h2 : g.bl.get p = some (.row .ex row)) (hl : row.length = 6) (ho : ∀ v ∈ row, v.one = true) (hlo : lo ≤ p.toNat)
  (C : ∀ st, o = some st → ∀ h', h'.next = g.next → (∀ b, b ≠ p → h'.bl.get b = g.bl.get b) → StC ca st h') (b : Bool) (hb : b = o.isSome) (hc : ca.length = 6) (h1 : ∀ v ∈ ca, v.one = true) (hN : NmLo lo ca) :
  OutP lo g (bnd (aH 6 (.p p 0) (.a ca) g) fun _ g1 => bnd (aK 6 (.p p 0) g1) fun v _ => some (.t [v, .b b], g1)) o := by
 subst hb
 refine ⟨ca, ⟨g.next, Tr.set (.row .ex ca) p g.bl⟩, ?_, hc, h1, fun st e => C st e _ rfl fun b hb => dQf _ _ _ _ hb, Lo.set _ hlo, hN⟩
 have hg : (⟨g.next, Tr.set (.row .ex ca) p g.bl⟩ : Hp).bl.get p = some (.row .ex ca) := dQg _ _ _
 rw [st6 h2 hl ho hc h1, aJ, ld6 hg hc h1, aJ]
theorem cWx (h : Hp) : bL Z6 [] h = some (.a Z6, h) := rfl
theorem jN (a b c : DV) (h : Hp) : aC 0 (.t [a, b, c]) h = some (a, h) := rfl
theorem jO (a b c : DV) (h : Hp) : aC 1 (.t [a, b, c]) h = some (b, h) := rfl
theorem jM (a b c : DV) (h : Hp) : aC 2 (.t [a, b, c]) h = some (c, h) := rfl
theorem sB {s a r : Bs} (hs : s.length ≤ 4000000000) (e : fK 32 s = some (a, r)) (h : Hp) : uG [.s s, .s [32]] h = some (.t [.s a, .s r, .b true], h) := by
 simp only [uG, bXo (show 32 < 256 by omega), rM hs, cond_true, e]
theorem rP {s : Bs} (hs : s.length ≤ 4000000000) (e : fK 32 s = none) (h : Hp) : uG [.s s, .s [32]] h = some (.t [.s s, .s [], .b false], h) := by
 simp only [uG, bXo (show 32 < 256 by omega), rM hs, cond_true, e]
theorem nM {s : Bs} (hs : s.length ≤ 4000000000) {k : Nat} (e : eO s = some k) (h : Hp) : gK [.s s] h = some (.t [.i .i64 (Int.ofNat k), .b true], h) := by
 simp only [gK, rM hs, cond_true, e]
theorem nW {s : Bs} (hs : s.length ≤ 4000000000) (e : eO s = none) (h : Hp) : gK [.s s] h = some (.t [.i .i64 (aBw s), .b false], h) := by
 simp only [gK, rM hs, cond_true, e]
section
variable {n : Nat} {r : Bs} {h : Hp}
theorem dBd : ∀ {w : List Bs}, ¬ w.length < 2 → ∃ a b q, w = a :: b :: q
 | a :: b :: q, _ => ⟨a, b, q, rfl⟩
 | [], c => by simp at c
 | [a], c => by simp at c
theorem cRp : ∀ {w : List Bs}, w.length = 2 → ∃ a b, w = [a, b]
 | [a, b], _ => ⟨a, b, rfl⟩
 | [], c => by simp at c
 | [a], c => by simp at c
 | a :: b :: d :: q, c => by simp at c
noncomputable abbrev hZ (h : Hp) : Hp := ⟨h.next.succ, Tr.set (.row .ex Z6) h.next h.bl⟩
theorem jL (h : Hp) : (hZ h).bl.get h.next = some (.row .ex Z6) := dQg _ _ _
theorem bEo (hr : r.length ≤ 4000000000) (h : Hp) : OutP h.next.toNat h (dA (n + 1) 51 [.s r] h) (match fK 32 r with
  | some (a, b) => if a = [] then none else some ⟨2, a, [], [], b, 0⟩
  | none => none) := by
 rw [dOv]
 unfold s51
 rw [aDv, aJ]
 refine OutP.up (g := hZ h) (lo := h.next.toNat) ?_ (Lo.new _ h) (Nat.le_refl _)
 cases hc : fK 32 r with
 | none =>
  simp only [rP hr hc, aJ, jN, jO, jM, bZf, gDt, Bool.false_eq_true, if_false, bU]
  exact qY (jL h) rfl cU (Nat.le_refl _) (fun st e => by cases e) false rfl rfl (dG _ _ _ _ _) (cW _ _ _ _ _ _)
 | some p =>
  obtain ⟨a, b⟩ := p
  simp only [sB hr hc, aJ, jN, jO, jM, bZf, qL, sI, bQ]
  refine qY (jL h) rfl cU (Nat.le_refl _) (fun st e h' _ _ => ?_) _ ?_ rfl (dG _ _ _ _ _) (cW _ _ _ _ _ _)
  ·split at e
   ·cases e
   ·cases e; exact hU _ _ _ _ _ _
  ·by_cases q : a = []
   ·rw [if_pos q]; simp [q]
   ·rw [if_neg q]; simp [q]
theorem dIr (hr : r.length ≤ 4000000000) (h : Hp) : OutP h.next.toNat h (dA (n + 1) 52 [.s r] h) (match fK 32 r with
  | some (a, b) => (match eO a with
   | some k => some ⟨3, [], [], [], b, k⟩
   | none => none)
  | none => none) := by
 rw [dMr]
 unfold s52
 rw [aDv, aJ]
 refine OutP.up (g := hZ h) (lo := h.next.toNat) ?_ (Lo.new _ h) (Nat.le_refl _)
 cases hc : fK 32 r with
 | none =>
  cases hk : eO r with
  | none =>
   simp only [rP hr hc, aJ, jN, jO, jM, nW hr hk, oV, oY, bHt, gDt, Bool.false_eq_true, if_false, bU]
   exact qY (jL h) rfl cU (Nat.le_refl _) (fun st e => by cases e) false rfl rfl (dG _ _ _ _ _) (cW _ _ _ _ _ _)
  | some k =>
   simp only [rP hr hc, aJ, jN, jO, jM, nM hr hk, oV, oY, bHt, gDt, Bool.false_eq_true, if_false, bU]
   exact qY (jL h) rfl cU (Nat.le_refl _) (fun st e => by cases e) false rfl rfl (dG _ _ _ _ _) (cW _ _ _ _ _ _)
 | some p =>
  obtain ⟨a, b⟩ := p
  have ha : a.length ≤ 4000000000 := by
   have := iV hc
   rw [this] at hr
   simp at hr
   omega
  show OutP _ _ _ (match eO a with
   | some k => some ⟨3, [], [], [], b, k⟩
   | none => none)
  cases hk : eO a with
  | none =>
   simp only [sB hr hc, aJ, jN, jO, jM, nW ha hk, oV, oY, bHt, qL, bQ]
   exact qY (jL h) rfl cU (Nat.le_refl _) (fun st e => by cases e) false rfl rfl (dG _ _ _ _ _) (cW _ _ _ _ _ _)
  | some k =>
   simp only [sB hr hc, aJ, jN, jO, jM, nM ha hk, oV, oY, bHt, qL, bQ]
   exact qY (jL h) rfl cU (Nat.le_refl _) (fun st e h' _ _ => by cases e; exact hU _ _ _ _ _ _) true rfl rfl (dG _ _ _ _ _) (cW _ _ _ _ _ _)
theorem bUz (hr : r.length ≤ 4000000000) (h : Hp) : OutP h.next.toNat h (dA (n + 1) 54 [.s r] h) (match eO r with
  | some k => some ⟨8, [], [], [], [], k⟩
  | none => none) := by
 rw [dNm]
 unfold s54
 rw [aDv, aJ]
 refine OutP.up (g := hZ h) (lo := h.next.toNat) ?_ (Lo.new _ h) (Nat.le_refl _)
 cases hk : eO r with
 | none =>
  simp only [nW hr hk, aJ, oV, oY, cZd]
  exact qY (jL h) rfl cU (Nat.le_refl _) (fun st e => by cases e) false rfl rfl (dG _ _ _ _ _) (cW _ _ _ _ _ _)
 | some k =>
  simp only [nM hr hk, aJ, oV, oY, cZd]
  exact qY (jL h) rfl cU (Nat.le_refl _) (fun st e h' _ _ => by cases e; exact hU _ _ _ _ _ _) true rfl rfl (dG _ _ _ _ _) (cW _ _ _ _ _ _)
noncomputable abbrev hS2 (r : Bs) (h : Hp) : Hp := ⟨h.next.succ.succ, Tr.set (.row .ex ((bM 32 r).map DV.s)) h.next.succ (hZ h).bl⟩
theorem wD (r : Bs) (h : Hp) : (hS2 r h).bl.get h.next = some (.row .ex Z6) := by
 show (Tr.set _ h.next.succ (hZ h).bl).get h.next = _
 rw [dQf _ _ _ _ (fun e => by have := congrArg Pos.toNat e; rw [dQh] at this; omega)]
 exact jL h
theorem aSg (r : Bs) (h : Hp) : Lo h.next.toNat h (hS2 r h) := (Lo.new (.row .ex Z6) h).trans ((Lo.new (.row .ex ((bM 32 r).map DV.s)) (hZ h)).mono (by show h.next.toNat ≤ h.next.succ.toNat; rw [dQh]; omega))
theorem bOx (hr : r.length < 100000000) (hn : r.length + 20 < n) (h : Hp) : OutP h.next.toNat h (dA n 50 [.s r] h) (if (bM 32 r).length < 2 ∨ [] ∈ bM 32 r then none else some ⟨1, (bM 32 r).getD 0 [], (bM 32 r).getD 1 [], (bM 32 r).drop 2, [], 0⟩) := by
 obtain ⟨n, rfl⟩ : ∃ j, n = j + 1 + 1 := ⟨n - 2, by omega⟩
 rw [dNb]
 unfold s50
 rw [aDv, aJ, yU n (by omega) (by omega), aJ]
 refine OutP.up (g := hS2 r h) (lo := h.next.toNat) ?_ (aSg r h) (Nat.le_refl _)
 have T : TxS (.l h.next.succ 0 (bM 32 r).length (bM 32 r).length) (bM 32 r) (hS2 r h) := sS (h := hZ h)
 have hlen := jZ 32 r
 have W := aNr (n := n + 1) T (by omega) (by omega)
 have nx := dQh h.next
 show OutP h.next.toNat (hS2 r h) (bnd (cQ (.l h.next.succ 0 (bM 32 r).length (bM 32 r).length) (hS2 r h)) _) _
 generalize hw : bM 32 r = w at T W hlen
 simp only [T.len, aJ, kX]
 have bad : OutP h.next.toNat (hS2 r h) (bnd (bL Z6 [] (hS2 r h)) fun v9 h9 => bnd (aH 6 (.p h.next 0) v9 h9) fun _ h10 => bnd (aK 6 (.p h.next 0) h10) fun v11 _ => some (.t [v11, (.b false)], h10)) none := by
  rw [cWx, aJ]
  exact qY (wD r h) rfl cU (Nat.le_refl _) (fun st e => by cases e) false rfl rfl cU (cW _ _ _ _ _ _)
 by_cases c : w.length < 2
 ·rw [if_pos (.inl c)]
  simp only [c, decide_true, dP, vP, aJ, bQ, aZ]
  exact bad
 ·simp only [c, decide_false, eZ, aJ, W, aOc, Bool.not_not, bU, iD, decide_eq_true_eq, false_or]
  by_cases c2 : [] ∈ w
  ·rw [if_pos c2, if_pos c2]
   exact bad
  ·rw [if_neg c2, if_neg c2]
   obtain ⟨w0, w1, q, rfl⟩ := dBd c
   obtain ⟨q0, i0, d0⟩ := T.at (i := 0) rfl
   obtain ⟨q1, i1, d1⟩ := T.at (i := 1) rfl
   obtain ⟨v, b1, b2⟩ := T.drop (i := 2) (by simp)
   have hrow := fun b' o' l' c' e => aDk b1 (b' := b') (o' := o') (l' := l') (c' := c') e
   simp only [i0, d0, i1, d1, b1, aJ, dHi b2.cells]
   refine qY (wD r h) rfl cU (Nat.le_refl _) (fun st e h' hn' hg => ?_) true rfl rfl (aDm b2.one _ _ _ _ _) (fun b o l c e => ?_)
   ·cases e
    exact ⟨v, rfl, b2.off hn' (p := h.next) (fun b o l c e => by
     obtain ⟨o2, l2, c2', e2⟩ := hrow b o l c e
     cases e2
     intro q
     have := congrArg Pos.toNat q
     omega) hg⟩
   ·obtain ⟨o2, l2, c2', e2⟩ := hrow b o l c (Option.some.inj e)
    cases e2
    omega
theorem bCo (hr : r.length < 100000000) (hn : r.length + 20 < n) (h : Hp) {p : Pos} {k : Kind} {x : Int} (hp : h.bl.get p = some (.row k [.i .i64 x])) (hlt : p.toNat < h.next.toNat) : OutP h.next.toNat h (dA n 75 [.s r, .p p 0] h) (if (bM 32 r).length ≠ 2 ∨ [] ∈ bM 32 r then none else some ⟨4, (bM 32 r).getD 0 [], [], [], (bM 32 r).getD 1 [], x⟩) := by
 obtain ⟨n, rfl⟩ : ∃ j, n = j + 1 + 1 := ⟨n - 2, by omega⟩
 rw [dMh]
 unfold s75
 rw [aDv, aJ, yU n (by omega) (by omega), aJ]
 refine OutP.up (g := hS2 r h) (lo := h.next.toNat) ?_ (aSg r h) (Nat.le_refl _)
 have T : TxS (.l h.next.succ 0 (bM 32 r).length (bM 32 r).length) (bM 32 r) (hS2 r h) := sS (h := hZ h)
 have hp' : (hS2 r h).bl.get p = some (.row k [.i .i64 x]) := by rw [(aSg r h).get p hlt]; exact hp
 have hlen := jZ 32 r
 have W := aNr (n := n + 1) T (by omega) (by omega)
 show OutP h.next.toNat (hS2 r h) (bnd (cQ (.l h.next.succ 0 (bM 32 r).length (bM 32 r).length) (hS2 r h)) _) _
 generalize hw : bM 32 r = w at T W hlen
 simp only [T.len, aJ, cLw]
 have bad : OutP h.next.toNat (hS2 r h) (bnd (bL Z6 [] (hS2 r h)) fun v9 h9 => bnd (aH 6 (.p h.next 0) v9 h9) fun _ h10 => bnd (aK 6 (.p h.next 0) h10) fun v11 _ => some (.t [v11, (.b false)], h10)) none := by
  rw [cWx, aJ]
  exact qY (wD r h) rfl cU (Nat.le_refl _) (fun st e => by cases e) false rfl rfl cU (cW _ _ _ _ _ _)
 by_cases c : w.length = 2
 ·have ec : decide (w.length = 2) = true := decide_eq_true c
  simp only [ec, Bool.not_true, eZ, aJ, W, aOc, Bool.not_not, bU, iD, decide_eq_true_eq]
  by_cases c2 : [] ∈ w
  ·rw [if_pos c2, if_pos (.inr c2)]
   exact bad
  ·rw [if_neg c2, if_neg (fun q => q.elim (fun q => q c) c2)]
   obtain ⟨w0, w1, rfl⟩ := cRp c
   obtain ⟨q0, i0, d0⟩ := T.at (i := 0) rfl
   obtain ⟨q1, i1, d1⟩ := T.at (i := 1) rfl
   have e4 : ∀ g, bL Z6 [(0, 1, (.i .i64 (Int.ofNat 4))), (1, 1, .s w0), (4, 1, .s w1), (5, 1, (.i .i64 x))] g = some (.a [.i .i64 (Int.ofNat 4), .s w0, .s [], .l0, .s w1, .i .i64 x], g) := fun g => rfl
   simp only [i0, d0, i1, d1, aJ, qZ hp' (show [DV.i .i64 x][0]? = some (.i .i64 x) from rfl) rfl, e4]
   exact qY (wD r h) rfl cU (Nat.le_refl _) (fun st e h' _ _ => by cases e; exact hU _ _ _ _ _ _) true rfl rfl (dG _ _ _ _ _) (cW _ _ _ _ _ _)
 ·rw [if_pos (.inl c)]
  simp only [c, decide_false, Bool.not_false, dP, vP, aJ, bQ, aZ]
  exact bad
def rdM (b1 b2 : Pos) : List (DV × DV) := [(.s oC, .f 50 [] []), (.s fO, .f 51 [] []), (.s wDo, .f 52 [] []), (.s lB, .f 75 [] [.p b1 0]), (.s nJ, .f 75 [] [.p b2 0]), (.s nZ, .f 54 [] [])]
theorem oS {b : Pos} {es : List (DV × DV)} {g : Hp} (hg : g.bl.get b = some (.mp es)) (k : Bs) (v : DV) (hf : fL .string (.s k) es = some none) (hp : sG .string (.s k) v es = es ++ [(.s k, v)]) :
  dQ .string (.m b) (.s k) v g = some (aR, ⟨g.next, Tr.set (.mp (es ++ [(.s k, v)])) b g.bl⟩) := by
 simp only [dQ, hg, hf, hp]
theorem aUd (h : Hp) : ∃ h', dA (n + 2) 34 [] h = some (.m h.next, h') ∧ h'.bl.get h.next = some (.mp (rdM h.next.succ h.next.succ.succ)) ∧ h'.bl.get h.next.succ = some (.row .ex [.i .i64 (Int.ofNat 1)]) ∧ h'.bl.get h.next.succ.succ = some (.row .ex [.i .i64 (Int.ofNat 0)]) ∧ h'.next = h.next.succ.succ.succ ∧ Lo h.next.toNat h h' := by
 have n1 := dQh h.next
 have n2 := dQh h.next.succ
 have n3 := dQh h.next.succ.succ
 have ne1 : h.next ≠ h.next.succ := fun e => by have := congrArg Pos.toNat e; omega
 have ne2 : h.next ≠ h.next.succ.succ := fun e => by have := congrArg Pos.toNat e; omega
 have ne3 : h.next.succ ≠ h.next.succ.succ := fun e => by have := congrArg Pos.toNat e; omega
 rw [show n + 2 = n + 1 + 1 from rfl, dLe]
 unfold s34
 have m0 : dU h = some (.m h.next, ⟨h.next.succ, Tr.set (.mp []) h.next h.bl⟩) := rfl
 rw [m0, aJ]
 have box : ∀ (x : DV) (g : Hp), dD x = some [x] → dA (n + 1) 53 [x] g = some (.f 75 [] [.p g.next 0], ⟨g.next.succ, Tr.set (.row .ex [x]) g.next g.bl⟩) := by
  intro x g hx
  rw [dMy]
  unfold s53
  have : dB x g = some (.p g.next 0, ⟨g.next.succ, Tr.set (.row .ex [x]) g.next g.bl⟩) := by simp only [dB, hx, cJ]
  rw [this, aJ]
 have gt : ∀ (o : Ob) (t : Tr Ob), (Tr.set o h.next t).get h.next = some o := fun o t => dQg _ _ _
 rw [oS (es := []) (gt _ _) _ _ rfl rfl, aJ]
 rw [oS (gt _ _) _ _ rfl rfl, aJ]
 rw [oS (gt _ _) _ _ rfl rfl, aJ]
 rw [box _ _ rfl, aJ]
 rw [oS (b := h.next) (by show (Tr.set _ h.next.succ _).get h.next = _; rw [dQf _ _ _ _ ne1]; exact gt _ _) _ _ rfl rfl, aJ]
 rw [box _ _ rfl, aJ]
 rw [oS (b := h.next) (by show (Tr.set _ h.next.succ.succ _).get h.next = _; rw [dQf _ _ _ _ ne2]; exact gt _ _) _ _ rfl rfl, aJ]
 rw [oS (gt _ _) _ _ rfl rfl, aJ]
 refine ⟨_, rfl, gt _ _, ?_, ?_, rfl, ⟨?_, fun p hp => ?_⟩⟩
 ·show (Tr.set _ h.next (Tr.set _ h.next (Tr.set _ h.next.succ.succ (Tr.set _ h.next (Tr.set _ h.next.succ _))))).get h.next.succ = _
  rw [dQf _ _ _ _ (Ne.symm ne1), dQf _ _ _ _ (Ne.symm ne1), dQf _ _ _ _ ne3, dQf _ _ _ _ (Ne.symm ne1), dQg]
 ·show (Tr.set _ h.next (Tr.set _ h.next (Tr.set _ h.next.succ.succ _))).get h.next.succ.succ = _
  rw [dQf _ _ _ _ (Ne.symm ne2), dQf _ _ _ _ (Ne.symm ne2), dQg]
 ·show h.next.toNat ≤ h.next.succ.succ.succ.toNat
  omega
 ·have a1 : p ≠ h.next := fun e => by subst e; omega
  have a2 : p ≠ h.next.succ := fun e => by subst e; omega
  have a3 : p ≠ h.next.succ.succ := fun e => by subst e; omega
  show (Tr.set _ h.next (Tr.set _ h.next (Tr.set _ h.next.succ.succ (Tr.set _ h.next (Tr.set _ h.next.succ (Tr.set _ h.next (Tr.set _ h.next (Tr.set _ h.next (Tr.set _ h.next _))))))))).get p = _
  rw [dQf _ _ _ _ a1, dQf _ _ _ _ a1, dQf _ _ _ _ a3, dQf _ _ _ _ a1, dQf _ _ _ _ a2, dQf _ _ _ _ a1, dQf _ _ _ _ a1, dQf _ _ _ _ a1, dQf _ _ _ _ a1]
def rdF (b1 b2 : Pos) (w : Bs) : Option DV := if w = oC then some (.f 50 [] []) else if w = fO then some (.f 51 [] []) else if w = wDo then some (.f 52 [] []) else if w = lB then some (.f 75 [] [.p b1 0]) else if w = nJ then some (.f 75 [] [.p b2 0]) else if w = nZ then some (.f 54 [] []) else none
theorem cLv (b1 b2 : Pos) (w : Bs) : fL .string (.s w) (rdM b1 b2) = some (rdF b1 b2 w) := by
 have key : ∀ a : Bs, tH .string (.s w) (.s a) = some (decide (w = a)) := fun a => by
  show some (tD w a) = _
  rw [aKq]
 unfold rdM rdF
 simp only [fL, key]
 by_cases c1 : w = oC
 ·simp only [decide_eq_true c1, if_pos c1]
 by_cases c2 : w = fO
 ·simp only [decide_eq_false c1, if_neg c1, decide_eq_true c2, if_pos c2]
 by_cases c3 : w = wDo
 ·simp only [decide_eq_false c1, if_neg c1, decide_eq_false c2, if_neg c2, decide_eq_true c3, if_pos c3]
 by_cases c4 : w = lB
 ·simp only [decide_eq_false c1, if_neg c1, decide_eq_false c2, if_neg c2, decide_eq_false c3, if_neg c3, decide_eq_true c4, if_pos c4]
 by_cases c5 : w = nJ
 ·simp only [decide_eq_false c1, if_neg c1, decide_eq_false c2, if_neg c2, decide_eq_false c3, if_neg c3, decide_eq_false c4, if_neg c4, decide_eq_true c5, if_pos c5]
 by_cases c6 : w = nZ
 ·simp only [decide_eq_false c1, if_neg c1, decide_eq_false c2, if_neg c2, decide_eq_false c3, if_neg c3, decide_eq_false c4, if_neg c4, decide_eq_false c5, if_neg c5, decide_eq_true c6, if_pos c6]
 simp only [decide_eq_false c1, if_neg c1, decide_eq_false c2, if_neg c2, decide_eq_false c3, if_neg c3, decide_eq_false c4, if_neg c4, decide_eq_false c5, if_neg c5, decide_eq_false c6, if_neg c6]
end
end Go.Dd

namespace Go.Dd
open Go.Proofs
theorem dGp : CF.I 50 = none := by kernel_rfl
theorem dEa : CF.I 51 = none := by kernel_rfl
theorem dCj : CF.I 52 = none := by kernel_rfl
theorem dJm : CF.I 54 = none := by kernel_rfl
theorem cPl : CF.I 75 = none := by kernel_rfl
theorem aDq {g : FuncId} (hg : CF.I g = none) (rec : RT) (first cap args : List DV) (h : Hp) : jF CF rec (.f g first cap) args h = rec g (first ++ args ++ cap) h := by
 unfold jF cA
 simp only [hg]
theorem sh8 (n : Nat) (x : DV) (h : Hp) : dA (n + 1) 8 [x] h = s8 (dA n) n x h := (cS 8 rfl n [x] h).trans (dHb (dA n) n [x] h)
section
variable {n : Nat} {s : Bs} {h : Hp}
theorem bGw {lo : Nat} {g : Hp} {p : Pos} {row : List DV} {r : aG} {o : Option Stp} (O : OutP g.next.toNat g r o) (hp : g.bl.get p = some (.row .ex row)) (hl : row.length = 6) (ho : ∀ v ∈ row, v.one = true) (hlt : p.toNat < g.next.toNat) (hlo : lo ≤ p.toNat) :
  OutP lo g (bnd r fun v29 h29 => bnd (aC 0 v29 h29) fun v30 h30 => bnd (aC 1 v29 h30) fun v31 h31 => bnd (aH 6 (.p p 0) v30 h31) fun _ h32 => bnd (aK 6 (.p p 0) h32) fun v33 _ => some (.t [v33, v31], h32)) o := by
 obtain ⟨ca, g', e1, e2, e3, e4, e5, e6⟩ := O
 have hp' : g'.bl.get p = some (.row .ex row) := by rw [e5.get p hlt]; exact hp
 rw [e1, aJ, oV, aJ, oY, aJ]
 have fn := qY (lo := lo) (o := o) (p := p) (g := g') (ca := ca) hp' hl ho hlo (fun st e h' hn hg => by
  obtain ⟨v, rfl, T⟩ := e4 st e
  refine ⟨v, rfl, T.off hn (p := p) (fun b o l c ev q => ?_) hg⟩
  have := e6 b o l c (by rw [ev]; rfl)
  rw [q] at this
  omega) _ rfl e2 e3 (fun b o l c e => Nat.le_trans (by omega) (e6 b o l c e))
 exact OutP.up fn (e5.mono (by omega)) (Nat.le_refl _)
theorem cFi (hs : s.length < 100000000) (hn : s.length + 60 < n) (h : Hp) : OutP h.next.toNat h (dA n 18 [.s s] h) (jU s) := by
 obtain ⟨n, rfl⟩ : ∃ j, n = j + 1 + 1 + 1 := ⟨n - 3, by omega⟩
 rw [dPg]
 unfold s18
 rw [aDv, aJ]
 refine OutP.up (g := hZ h) (lo := h.next.toNat) ?_ (Lo.new _ h) (Nat.le_refl _)
 have word : ∀ k : Nat, OutP h.next.toNat (hZ h) (bnd (bL Z6 [(0, 1, (.i .i64 (Int.ofNat k)))] (hZ h)) fun v3 h3 => bnd (aH 6 (.p h.next 0) v3 h3) fun _ h4 => bnd (aK 6 (.p h.next 0) h4) fun v5 _ => some (.t [v5, (.b true)], h4)) (some (st0 k)) := by
  intro k
  rw [show bL Z6 [(0, 1, (.i .i64 (Int.ofNat k)))] (hZ h) = some (.a [.i .i64 (Int.ofNat k), .s [], .s [], .l0, .s [], .i .i64 (Int.ofNat 0)], hZ h) from rfl, aJ]
  exact qY (jL h) rfl cU (Nat.le_refl _) (fun st e h' _ _ => by cases e; exact hU _ _ _ _ _ _) true rfl rfl (dG _ _ _ _ _) (cW _ _ _ _ _ _)
 unfold jU
 simp only [fZ, aJ, iD, decide_eq_true_eq]
 by_cases c1 : s = kM
 ·rw [if_pos c1, if_pos (show s = [99, 111, 108, 108, 101, 99, 116] from c1)]
  exact word 5
 rw [if_neg c1, if_neg (show ¬ s = [99, 111, 108, 108, 101, 99, 116] from c1)]
 by_cases c2 : s = pS
 ·rw [if_pos c2, if_pos (show s = [102, 108, 117, 115, 104] from c2)]
  exact word 6
 rw [if_neg c2, if_neg (show ¬ s = [102, 108, 117, 115, 104] from c2)]
 by_cases c3 : s = qD
 ·rw [if_pos c3, if_pos (show s = [105, 109, 97, 103, 101] from c3)]
  exact word 7
 rw [if_neg c3, if_neg (show ¬ s = [105, 109, 97, 103, 101] from c3)]
 clear word
 obtain ⟨g, r1, r2, r3, r4, r5, r6⟩ := aUd (n := n) (hZ h)
 have nz : (hZ h).next = h.next.succ := rfl
 rw [nz] at r2 r3 r4 r5 r6
 have k1 := dQh h.next
 have k2 := dQh h.next.succ
 have k3 := dQh h.next.succ.succ
 have k4 := dQh h.next.succ.succ.succ
 have gp : g.bl.get h.next = some (.row .ex Z6) := by rw [r6.get h.next (by omega)]; exact jL h
 have Lg : Lo h.next.toNat (hZ h) g := r6.mono (by omega)
 have hpl : h.next.toNat < g.next.toNat := by rw [r5]; omega
 have bad : OutP h.next.toNat g (bnd (bL Z6 [] g) fun v26 h26 => bnd (aH 6 (.p h.next 0) v26 h26) fun _ h27 => bnd (aK 6 (.p h.next 0) h27) fun v28 _ => some (.t [v28, (.b false)], h27)) none := by
  rw [cWx, aJ]
  exact qY gp rfl cU (Nat.le_refl _) (fun st e => by cases e) false rfl rfl cU (cW _ _ _ _ _ _)
 have look : ∀ w : Bs, eD .string .f0 true (.m h.next.succ) (.s w) g = some (.t [(rdF h.next.succ.succ h.next.succ.succ.succ w).getD .f0, .b (rdF h.next.succ.succ h.next.succ.succ.succ w).isSome], g) := by
  intro w
  have en : iI (.m h.next.succ) g = some (rdM h.next.succ.succ h.next.succ.succ.succ) := by simp only [iI, r2]
  simp only [eD, en, cLv]
  cases rdF h.next.succ.succ h.next.succ.succ.succ w <;> rfl
 cases hc : fK 32 s with
 | none =>
  simp only [rP (show s.length ≤ 4000000000 by omega) hc, aJ, jN, jO, jM]
  rw [r1, aJ, look, aJ]
  simp only [oV, oY, aJ, aOc, Bool.not_false, dP, vP, bQ, aZ, if_true]
  exact OutP.up bad Lg (Nat.le_refl _)
 | some p =>
  obtain ⟨w, r⟩ := p
  have hcut := iV hc
  have hrl : r.length < s.length := by rw [hcut]; simp; omega
  simp only [sB (show s.length ≤ 4000000000 by omega) hc, aJ, jN, jO, jM]
  rw [r1, aJ, look, aJ]
  simp only [oV, oY, aJ, aOc, Bool.not_true, eZ, bU]
  refine OutP.up (lo := h.next.toNat) ?_ Lg (Nat.le_refl _)
  unfold rdF wV
  by_cases w1 : w = oC
  ·simp only [if_pos w1, Option.isSome_some, Option.getD_some, Bool.not_true, Bool.false_eq_true, if_false]
   rw [aDq dGp]
   exact bGw (bOx (by omega) (by omega) g) gp rfl cU hpl (Nat.le_refl _)
  simp only [if_neg w1]
  by_cases w2 : w = fO
  ·simp only [if_pos w2, Option.isSome_some, Option.getD_some, Bool.not_true, Bool.false_eq_true, if_false]
   rw [aDq dEa]
   exact bGw (bEo (n := n + 1) (by omega) g) gp rfl cU hpl (Nat.le_refl _)
  simp only [if_neg w2]
  by_cases w3 : w = wDo
  ·simp only [if_pos w3, Option.isSome_some, Option.getD_some, Bool.not_true, Bool.false_eq_true, if_false]
   rw [aDq dCj]
   exact bGw (dIr (n := n + 1) (by omega) g) gp rfl cU hpl (Nat.le_refl _)
  simp only [if_neg w3]
  by_cases w4 : w = lB
  ·simp only [if_pos w4, Option.isSome_some, Option.getD_some, Bool.not_true, Bool.false_eq_true, if_false]
   rw [aDq cPl]
   exact bGw (bCo (by omega) (by omega) g r3 (by rw [r5]; omega)) gp rfl cU hpl (Nat.le_refl _)
  simp only [if_neg w4]
  by_cases w5 : w = nJ
  ·simp only [if_pos w5, Option.isSome_some, Option.getD_some, Bool.not_true, Bool.false_eq_true, if_false]
   rw [aDq cPl]
   exact bGw (bCo (by omega) (by omega) g r4 (by rw [r5]; omega)) gp rfl cU hpl (Nat.le_refl _)
  simp only [if_neg w5]
  by_cases w6 : w = nZ
  ·simp only [if_pos w6, Option.isSome_some, Option.getD_some, Bool.not_true, Bool.false_eq_true, if_false]
   rw [aDq dJm]
   exact bGw (bUz (n := n + 1) (by omega) g) gp rfl cU hpl (Nat.le_refl _)
  simp only [if_neg w6, Option.isSome_none, Bool.not_false, if_true]
  exact bad
theorem bJo {ls : List Bs} {x14 : DV} {h0 : Hp} (T : TxS x14 ls h0) (hl : ls.length < 1000000) (hb : ∀ t ∈ ls, t.length < 100000000 ∧ t.length + 80 < n) (lo : Nat) (hlo : h0.next.toNat ≤ lo) :
  ∀ (k i m : Nat) (out : List Stp) (x5 : DV) (h : Hp), i + k = ls.length → k < m → out.length ≤ 60 → StS x5 out lo h → lo ≤ h.next.toNat → Lo lo h0 h →
  ∃ x h', vI (dA n) n m x5 x14 (.i .i64 (Int.ofNat ls.length)) (.i .i64 (Int.ofNat i)) h = some (.t [x, .i .i64 (Int.ofNat (bZ i out (ls.drop i)).2.1), .i .i64 (Int.ofNat (bZ i out (ls.drop i)).2.2)], h') ∧ StS x (bZ i out (ls.drop i)).1 lo h' ∧ Lo lo h h' := by
 intro k
 induction k with
 | zero =>
  intro i m out x5 h hi hm ho S hn L
  obtain ⟨m, rfl⟩ : ∃ j, m = j + 1 := ⟨m - 1, by omega⟩
  rw [List.drop_of_length_le (by omega)]
  refine ⟨x5, h, ?_, S, Lo.refl _ _⟩
  show aDg (dA n) n (vI (dA n) n m) _ _ _ _ h = _
  unfold aDg bHs gC
  simp only [aJ, kX, show ¬ i < ls.length by omega, decide_false, bO]
  rfl
 | succ k ih =>
  intro i m out x5 h hi hm ho S hn L
  obtain ⟨m, rfl⟩ : ∃ j, m = j + 1 := ⟨m - 1, by omega⟩
  have T' := T.stay (L.mono hlo)
  have hia : i < ls.length := by omega
  obtain ⟨p, a1, a2⟩ := T'.at (List.getElem?_eq_getElem hia)
  have hd : ls.drop i = ls[i] :: ls.drop (i + 1) := List.drop_eq_getElem_cons hia
  obtain ⟨b1, b2⟩ := hb ls[i] (List.getElem_mem hia)
  have ih' := fun out x5 h => ih (i + 1) m out x5 h (by omega) (by omega)
  generalize ls[i] = t at a2 hd b1 b2
  generalize ls.drop (i + 1) = r at hd ih'
  rw [hd]
  have skip : (t = [] ∨ t.head? = some 34) → ∃ x h', aCg (dA n) n (vI (dA n) n m) x5 x14 (.i .i64 (Int.ofNat ls.length)) (.i .i64 (Int.ofNat i)) h = some (.t [x, .i .i64 (Int.ofNat (bZ i out (t :: r)).2.1), .i .i64 (Int.ofNat (bZ i out (t :: r)).2.2)], h') ∧ StS x (bZ i out (t :: r)).1 lo h' ∧ Lo lo h h' := by
   intro hs
   have e : bZ i out (t :: r) = bZ (i + 1) out r := by rw [bZ, if_pos hs]
   rw [e]
   unfold aCg
   simp only [bH i 1 _ (show i + 1 < _ by omega), aJ]
   exact ih' out x5 h ho S hn L
  show ∃ x h', aDg (dA n) n (vI (dA n) n m) _ _ _ _ h = _ ∧ _
  unfold aDg bHs bIg
  simp only [aJ, kX, hia, decide_true, aZ, a1, a2, fZ]
  cases t with
  | nil =>
   simp only [decide_true, dP, vP, aJ, bQ, aZ]
   exact skip (.inl rfl)
  | cons c t =>
  have e0 : decide ((c :: t) = ([] : Bs)) = false := by simp
  simp only [e0, eZ, aJ, nE (s := c :: t) (i := 0) (c := c) rfl, dT, bU]
  by_cases c34 : c = 34
  ·have e : (Int.ofNat c == Int.ofNat 34) = true := by rw [c34]; rfl
   simp only [e, aZ]
   exact skip (.inr (by rw [c34]; rfl))
  have e : (Int.ofNat c == Int.ofNat 34) = false := by
   rw [beq_eq_false_iff_ne]
   intro q
   exact c34 (Int.ofNat.inj q)
  have hs : ¬ ((c :: t) = [] ∨ (c :: t).head? = some 34) := by
   rintro (q | q)
   ·cases q
   ·exact c34 (Option.some.inj q)
  obtain ⟨ca, g, u1, u2, u3, C, L1, N⟩ := cFi (s := c :: t) b1 (by omega : (c :: t).length + 60 < n) h
  have hN : yV ca x5 := N.off (fun b m q => S.below q)
  simp only [e, bO, u1, aJ, oV, oY, aDv]
  have g1 : (hZ g).bl.get g.next = some (.row .ex Z6) := jL g
  have l1 := Lo.new (.row .ex Z6) g
  have l2 : Lo g.next.toNat (hZ g) ⟨g.next.succ, Tr.set (.row .ex ca) g.next (Tr.set (.row .ex Z6) g.next g.bl)⟩ := Lo.set (h := hZ g) _ (Nat.le_refl _)
  rw [st6 g1 rfl cU u2 u3, aJ, aOc, aJ]
  generalize hk : (⟨g.next.succ, Tr.set (.row .ex ca) g.next (Tr.set (.row .ex Z6) g.next g.bl)⟩ : Hp) = q at l2
  have Lq : Lo h.next.toNat h q := L1.trans ((l1.trans l2).mono L1.next)
  have Llo : Lo lo h q := Lq.mono hn
  have nq : lo ≤ q.next.toNat := Nat.le_trans hn Lq.next
  have gq : q.bl.get g.next = some (.row .ex ca) := by rw [← hk]; exact dQg _ _ _
  have S' : StS x5 out lo q := S.stay Lq
  rw [bZ, if_neg hs]
  cases hst : jU (c :: t) with
  | none =>
   simp only [Option.isSome_none, Bool.not_false, aZ, bH i 1 _ (show i + 1 < _ by omega), aJ]
   exact ⟨.l0, q, rfl, StS.nil _ _, Llo⟩
  | some st =>
   have C' : StC ca st q := (C st hst).stay (l1.trans l2)
   simp only [Option.isSome_some, Bool.not_true, bO, S'.len, aJ, cKm, iD, decide_eq_true_eq]
   by_cases c60 : out.length = 60
   ·rw [if_pos c60, if_pos c60]
    simp only [bH i 1 _ (show i + 1 < _ by omega), aJ]
    exact ⟨.l0, q, rfl, StS.nil _ _, Llo⟩
   ·rw [if_neg c60, if_neg c60]
    obtain ⟨y, g2, v1, x', h2, v2, v3, v4⟩ := S'.app nq C' hN (by omega)
    rw [ld6 gq u2 u3, aJ, v1, aJ, v2, aJ]
    unfold aCg
    simp only [bH i 1 _ (show i + 1 < _ by omega), aJ]
    obtain ⟨x, h3, w1, w2, w3⟩ := ih' (out ++ [st]) x' h2 (by rw [List.length_append]; simp; omega) v3 (Nat.le_trans nq v4.next) (L.trans (Llo.trans v4))
    exact ⟨x, h3, w1, w2, Llo.trans (v4.trans w3)⟩
theorem wT {s : Bs} (hs : s.length < 900000) (hn : s.length + 90 < n) (h : Hp) :
  ∃ x h', dA n 8 [.s s] h = some (.t [x, .i .i64 (Int.ofNat (cZ s).2.1), .i .i64 (Int.ofNat (cZ s).2.2)], h') ∧ StS x (cZ s).1 h.next.toNat h' ∧ Lo h.next.toNat h h' := by
 obtain ⟨n, rfl⟩ : ∃ j, n = j + 1 + 1 := ⟨n - 2, by omega⟩
 rw [sh8]
 unfold s8 cGw
 simp only [fA, aJ, eX]
 unfold cZ
 by_cases c : s.length > 20000
 ·rw [if_pos c, decide_eq_true (show Int.ofNat s.length > Int.ofNat 20000 from by show ((20000 : Nat) : Int) < (s.length : Int); omega), aZ]
  exact ⟨.l0, h, rfl, StS.nil _ _, Lo.refl _ _⟩
 ·rw [if_neg c, decide_eq_false (show ¬ Int.ofNat s.length > Int.ofNat 20000 from by show ¬ ((20000 : Nat) : Int) < (s.length : Int); omega), bO]
  unfold cMm cEs cKb cSo
  rw [yU n (by omega) (by omega), aJ]
  have T : TxS (.l h.next 0 (bM 10 s).length (bM 10 s).length) (bM 10 s) ⟨h.next.succ, Tr.set (.row .ex ((bM 10 s).map DV.s)) h.next h.bl⟩ := sS
  have e3 := Lo.new (.row .ex ((bM 10 s).map DV.s)) h
  generalize (⟨h.next.succ, Tr.set (.row .ex ((bM 10 s).map DV.s)) h.next h.bl⟩ : Hp) = g at T e3
  have hlen := jZ 10 s
  have hmem : ∀ t ∈ bM 10 s, t.length ≤ s.length := fY
  simp only [T.len, aJ]
  obtain ⟨x, h', w1, w2, w3⟩ := bJo (n := n + 1) T (by omega) (fun t ht => by have := hmem t ht; exact ⟨by omega, by omega⟩) g.next.toNat (Nat.le_refl _) (bM 10 s).length 0 (n + 1) [] .l0 g (by omega) (by omega) (by simp) (StS.nil _ _) (Nat.le_refl _) (Lo.refl _ _)
  rw [List.drop_zero] at w1 w2
  have w2' : StS x (bZ 0 [] (bM 10 s)).1 h.next.toNat h' := by
   obtain ⟨cells, ⟨q1, q2, q3⟩, q4⟩ := w2
   refine ⟨cells, ⟨q1, q2, ?_⟩, q4⟩
   rcases q3 with q3 | ⟨b, k1, k2, k3, k4⟩
   ·exact .inl q3
   ·exact .inr ⟨b, k1, k2, Nat.le_trans e3.next k3, k4⟩
  exact ⟨x, h', w1, w2', e3.trans (w3.mono e3.next)⟩
theorem tU : ∀ (ls : List Bs) (i : Nat) (out : List Stp) (N : Nat), (∀ t ∈ ls, t.length ≤ N) → (∀ st ∈ out, st.names.length ≤ N + 1) → ∀ st ∈ (bZ i out ls).1, st.names.length ≤ N + 1
 | [], i, out, N, _, ho => ho
 | l :: r, i, out, N, hl, ho => by
  unfold bZ
  split
  ·exact tU r _ _ N (fun t ht => hl t (by simp [ht])) ho
  ·cases hst : jU l with
   | none => intro st h; simp at h
   | some s0 =>
    dsimp only
    split
    ·intro st h; simp at h
    ·refine tU r _ _ N (fun t ht => hl t (by simp [ht])) fun st h => ?_
     rw [List.mem_append] at h
     rcases h with h | h
     ·exact ho st h
     ·simp only [List.mem_cons, List.not_mem_nil, or_false] at h
      subst h
      have hlN := hl l (by simp)
      have small : ∀ r : Bs, (bM 32 r).length ≤ r.length + 1 := jZ 32
      unfold jU at hst
      repeat' (split at hst)
      all_goals (try (cases hst; done))
      all_goals (try (cases hst; simp [st0]; done))
      rename_i p w q hc
      have hq : q.length ≤ l.length := by rw [iV hc]; simp; omega
      unfold wV at hst
      dsimp only at hst
      repeat' (split at hst)
      all_goals (try (cases hst; done))
      all_goals (cases hst; simp only [List.length_drop, List.length_nil])
      all_goals (have := small q; omega)
end
end Go.Dd

namespace Go.Dd
open Go.Proofs
theorem rX8 (args : List DV) (h : Hp) : dF 8 args h = dA 20000000 8 args h := aOq rfl args h
theorem rX9 (args : List DV) (h : Hp) : dF 9 args h = dA 20000000 9 args h := aOq rfl args h
theorem dMx (args : List DV) (h : Hp) : dF 10 args h = dA 20000000 10 args h := aOq rfl args h
theorem bDb {s : Bs} {b : Nat} (hb : b ≤ s.length) (h : Hp) : cN (.s s) none (some (.i .i64 (Int.ofNat b))) h = some (.s (s.take b), h) := by
 have h1 : hiD (some (.i .i64 (Int.ofNat b))) s.length s.length = some b := by
  simp only [hiD, fM]
  rw [if_pos (by show (0 : Int) ≤ (b : Int) ∧ (b : Int) ≤ (s.length : Int); omega)]
  rfl
 have h2 : loD none b = some 0 := rfl
 simp only [cN, h1, h2, List.drop_zero]
theorem aNe (s : Bs) : ∀ st ∈ (cZ s).1, st.names.length ≤ s.length + 1 := by
 intro st h
 unfold cZ at h
 split at h
 ·simp at h
 ·exact tU _ _ _ s.length (fun t ht => fY t ht) (fun st h => by simp at h) st h
theorem bEv (s : Bs) : (cZ s).1.length ≤ 60 := by
 unfold cZ
 split
 ·simp
 ·exact nL _ _ _ (by simp)
theorem qU {s t : Bs} (hs : s.length < 20100) (ht : t.length < 20100) (f g : Nat) (hf : f = 8) (hg : g = 8 ∨ g = 9) (h : Hp) : ∃ x y h1 h2 h3,
  dF f [.s s] h = some (.t [x, .i .i64 (Int.ofNat (cZ s).2.1), .i .i64 (Int.ofNat (cZ s).2.2)], h1) ∧
  dF g [.s t] h1 = some (.t [y, .i .i64 (Int.ofNat (cZ t).2.1), .i .i64 (Int.ofNat (cZ t).2.2)], h2) ∧
  dF 10 [x, y] h2 = some (.b (decide ((cZ s).1 = (cZ t).1)), h3) := by
 subst hf
 obtain ⟨x, h1, a1, a2, a3⟩ := wT (n := 20000000) (s := s) (by omega) (by omega) h
 have second : ∃ y h2, dF g [.s t] h1 = some (.t [y, .i .i64 (Int.ofNat (cZ t).2.1), .i .i64 (Int.ofNat (cZ t).2.2)], h2) ∧ StS y (cZ t).1 h1.next.toNat h2 ∧ Lo h1.next.toNat h1 h2 := by
  rcases hg with rfl | rfl
  ·obtain ⟨y, h2, q1, q2⟩ := wT (n := 20000000) (s := t) (by omega) (by omega) h1
   exact ⟨y, h2, by rw [rX8]; exact q1, q2⟩
  ·obtain ⟨y, h2, q1, q2⟩ := bHc (n := 20000000) (s := t) (by omega) (by omega) h1
   exact ⟨y, h2, by rw [rX9]; exact q1, q2⟩
 obtain ⟨y, h2, b1, b2, b3⟩ := second
 have hl := bEv s
 have hn := aNe s
 obtain ⟨h3, c1, _⟩ := cDu (n := 20000000) (a2.stay b3) b2 (by omega) (by omega) (fun st hst => by have := hn st hst; omega)
 exact ⟨x, y, h1, h2, h3, by rw [rX8]; exact a1, b1, by rw [dMx]; exact c1⟩
theorem aAl (k : Int) (h : Hp) : aD .eql (.i .i64 k) (.i .i64 k) h = some (.b true, h) := by rw [dT]; simp
theorem bEg (s : Bs) (h : Hp) : ∃ k, aF CF dF 20000000 3 [.s s] h = some (.b true, k) := by
 rw [dHq]
 show ∃ k, s3 dF 20000000 (.s s) h = some (.b true, k)
 unfold s3 cGl
 have main : ∀ t : Bs, t.length ≤ 2000 → ∃ k, bFr dF 20000000 (.s t) h = some (.b true, k) := by
  intro t ht
  obtain ⟨x, y, h1, h2, h3, e1, e2, e3⟩ := qU (s := t) (t := t) (by omega) (by omega) 8 9 rfl (.inr rfl) h
  unfold bFr
  simp only [e1, e2, e3, aJ, jN, jO, jM, decide_true, qL, aAl, bQ, cGy]
  exact ⟨_, rfl⟩
 simp only [fA, aJ, eX]
 by_cases c : s.length > 2000
 ·rw [decide_eq_true (show Int.ofNat s.length > Int.ofNat 2000 from by show ((2000 : Nat) : Int) < (s.length : Int); omega), aZ, bDb (by omega), aJ]
  exact main _ (by rw [List.length_take]; omega)
 ·rw [decide_eq_false (show ¬ Int.ofNat s.length > Int.ofNat 2000 from by show ¬ ((2000 : Nat) : Int) < (s.length : Int); omega), bO]
  exact main _ (by omega)
def tW (s : Bs) : Bs := s.filter (fun x => !(x == 10))
theorem aHu {s : Bs} {i x : Nat} (hx : s[i]? = some x) (h : Hp) : cN (.s s) (some (.i .i64 (Int.ofNat i))) (some (.i .i64 (Int.ofNat (i + 1)))) h = some (.s [x], h) := by
 have hlt : i < s.length := by
  rcases Nat.lt_or_ge i s.length with h | h
  ·exact h
  ·rw [List.getElem?_eq_none h] at hx; cases hx
 rw [cTn (by omega) (by omega)]
 congr 2
 rw [List.take_add_one, hx, List.drop_append_of_le_length (by rw [List.length_take]; omega), List.drop_of_length_le (by rw [List.length_take]; omega)]
 rfl
theorem bVp {rm : Bs} (t : Bs) (hr : rm.length ≤ 20) (h : Hp) : ∀ (k i m : Nat) (own : Bs), i + k = rm.length → k < m → own.length + k ≤ 100 →
  qK dF 20000000 m (.s t) (.s rm) (.s own) (.i .i64 (Int.ofNat i)) h = hC dF 20000000 (.s t) (.s (own ++ tW (rm.drop i))) h := by
 intro k
 induction k with
 | zero =>
  intro i m own hi hm hol
  obtain ⟨m, rfl⟩ : ∃ j, m = j + 1 := ⟨m - 1, by omega⟩
  show uB dF 20000000 (qK dF 20000000 m) _ _ _ _ h = _
  unfold uB
  simp only [fA, aJ, kX, show ¬ i < rm.length by omega, decide_false, bO]
  rw [List.drop_of_length_le (by omega)]
  simp [tW]
 | succ k ih =>
  intro i m own hi hm hol
  obtain ⟨m, rfl⟩ : ∃ j, m = j + 1 := ⟨m - 1, by omega⟩
  have hia : i < rm.length := by omega
  obtain ⟨x, hx⟩ : ∃ x, rm[i]? = some x := ⟨rm[i], List.getElem?_eq_getElem hia⟩
  have hd : rm.drop i = x :: rm.drop (i + 1) := by
   rw [List.drop_eq_getElem_cons hia]
   congr 1
   have := List.getElem?_eq_getElem hia
   rw [hx] at this
   exact (Option.some.inj this).symm
  show uB dF 20000000 (qK dF 20000000 m) _ _ _ _ h = _
  unfold uB bAi
  simp only [fA, aJ, kX, hia, decide_true, aZ, nE hx, kH, aGa, iD]
  by_cases c : x = 10
  ·simp only [c, decide_true, Bool.not_true, Bool.false_eq_true, if_false]
   unfold aDl
   simp only [bH i 1 _ (show i + 1 < _ by omega), aJ]
   rw [ih (i + 1) m own (by omega) (by omega) (by omega), hd, c]
   simp [tW]
  ·simp only [c, decide_false, Bool.not_false, if_true, bH i 1 _ (show i + 1 < _ by omega), aJ, aHu hx, cX own [x] h (by simp; omega)]
   unfold aDl
   simp only [bH i 1 _ (show i + 1 < _ by omega), aJ]
   rw [ih (i + 1) m (own ++ [x]) (by omega) (by omega) (by simp; omega), hd]
   have : (!(x == 10)) = true := by simp [c]
   simp [tW, this]
theorem bFl {t : Bs} (own : Bs) (ht : t.length ≤ 400) (hol : own.length ≤ 100) (h : Hp) : ∀ (k i m : Nat) (acc : Bs), i + k = t.length → k < m → acc.length + k * (own.length + 3) ≤ 1000000 →
  yN dF 20000000 m (.s t) (.s own) (.s acc) (.i .i64 (Int.ofNat i)) h = hY dF 20000000 (.s t) (.s (acc ++ gR own (t.drop i))) h := by
 intro k
 induction k with
 | zero =>
  intro i m acc hi hm hal
  obtain ⟨m, rfl⟩ : ∃ j, m = j + 1 := ⟨m - 1, by omega⟩
  show aDi dF 20000000 (yN dF 20000000 m) _ _ _ _ h = _
  unfold aDi
  simp only [fA, aJ, kX, show ¬ i < t.length by omega, decide_false, bO]
  rw [List.drop_of_length_le (by omega)]
  simp [gR]
 | succ k ih =>
  intro i m acc hi hm hal
  rw [Nat.succ_mul] at hal
  obtain ⟨m, rfl⟩ : ∃ j, m = j + 1 := ⟨m - 1, by omega⟩
  have hia : i < t.length := by omega
  obtain ⟨x, hx⟩ : ∃ x, t[i]? = some x := ⟨t[i], List.getElem?_eq_getElem hia⟩
  have hd : t.drop i = x :: t.drop (i + 1) := by
   rw [List.drop_eq_getElem_cons hia]
   congr 1
   have := List.getElem?_eq_getElem hia
   rw [hx] at this
   exact (Option.some.inj this).symm
  show aDi dF 20000000 (yN dF 20000000 m) _ _ _ _ h = _
  unfold aDi aWr
  have e8 : ∀ a b : Nat, (Int.ofNat a == Int.ofNat b) = decide (a = b) := cTo
  simp only [fA, aJ, kX, hia, decide_true, aZ, bH i 1 _ (show i + 1 < _ by omega), aHu hx, cX acc [x] h (by simp; omega), nE hx, dT, e8, iD, decide_eq_true_eq]
  by_cases c : x = 10
  ·rw [if_pos c, cX (acc ++ [x]) own h (by simp; omega), aJ, cX (acc ++ [x] ++ own) [10, 10] h (by simp; omega), aJ]
   unfold aDh
   simp only [bH i 1 _ (show i + 1 < _ by omega), aJ]
   rw [ih (i + 1) m _ (by omega) (by omega) (by simp; omega), hd]
   simp [gR, c]
  ·rw [if_neg c]
   unfold aDh
   simp only [bH i 1 _ (show i + 1 < _ by omega), aJ]
   rw [ih (i + 1) m _ (by omega) (by omega) (by simp; omega), hd]
   simp [gR, c]
theorem dKr (a : Nat) (h : Hp) (ha : a < 1000000000) : aD .mul (.i .i64 (Int.ofNat 3)) (.i .i64 (Int.ofNat a)) h = some (.i .i64 (Int.ofNat (3 * a)), h) := dAm 3 a h (by omega)
theorem aMu (s : Bs) : (cZ s).2.1 ≤ s.length + 1 := by
 have key : ∀ (ls : List Bs) (i : Nat) (out : List Stp), (bZ i out ls).2.1 ≤ i + ls.length := by
  intro ls
  induction ls with
  | nil => intro i out; show 0 ≤ _; omega
  | cons l r ih =>
   intro i out
   have := ih (i + 1)
   unfold bZ
   split
   ·have := this out; simp; omega
   ·split
    ·simp
    ·split
     ·simp
     ·rename_i st _ _
      have := this (out ++ [st]); simp; omega
 unfold cZ
 split
 ·show 0 ≤ _; omega
 ·have := key (bM 10 s) 0 []
  have := jZ 10 s
  omega
theorem aPf (s r : Bs) (h : Hp) : ∃ k, aF CF dF 20000000 6 [.s s, .s r] h = some (.b true, k) := by
 rw [dEb]
 show ∃ k, s6 dF 20000000 (.s s) (.s r) h = some (.b true, k)
 unfold s6 cGg
 have main : ∀ t rm : Bs, t.length ≤ 400 → rm.length ≤ 20 → ∃ k, bDp dF 20000000 (.s t) (.s rm) h = some (.b true, k) := by
  intro t rm ht hr
  unfold bDp cAs aVt bIr
  rw [bVp t hr h rm.length 0 20000000 [34] (by omega) (by omega) (by simp; omega), List.drop_zero]
  unfold hC cCu cJw cXz
  have own34 : ([34] ++ tW rm).head? = some 34 := rfl
  have own10 : 10 ∉ [34] ++ tW rm := by
   intro q
   simp [tW] at q
  have hol : ([34] ++ tW rm).length ≤ 21 := by
   have : (tW rm).length ≤ rm.length := List.length_filter_le _ _
   simp
   omega
  have P := aCa ([34] ++ tW rm) t own34 own10 hol ht
  have hm := yG ([34] ++ tW rm) t
  have hm2 : t.length * (([34] ++ tW rm).length + 3) ≤ 400 * 24 := Nat.mul_le_mul ht (by omega)
  generalize hown : [34] ++ tW rm = own at P hm hm2 hol
  rw [cX own [10, 10] h (by simp; omega), aJ, bFl own ht (by omega) h t.length 0 20000000 _ (by omega) (by omega) (by simp; omega), List.drop_zero]
  have hl2 : (own ++ [10, 10] ++ gR own t).length < 20100 := by simp only [laE, lcE, lnE]; omega
  obtain ⟨x, y, h1, h2, h3, e1, e2, e3⟩ := qU (s := t) (t := own ++ [10, 10] ++ gR own t) (by omega) hl2 8 8 rfl (.inl rfl) h
  have hp := aMu t
  unfold hY
  rw [P] at e2 e3
  simp only [e1, e2, e3, aJ, jN, jO, jM, decide_true, qL, aAl, bQ, dKr _ _ (show (cZ t).2.1 < 1000000000 by omega), cGy]
  exact ⟨_, rfl⟩
 have second : ∀ t : Bs, t.length ≤ 400 → ∃ k, bDq dF 20000000 (.s t) (.s r) h = some (.b true, k) := by
  intro t ht
  unfold bDq
  simp only [fA, aJ, eX]
  by_cases c : r.length > 20
  ·rw [decide_eq_true (show Int.ofNat r.length > Int.ofNat 20 from by show ((20 : Nat) : Int) < (r.length : Int); omega), aZ, bDb (by omega), aJ]
   exact main _ _ ht (by rw [List.length_take]; omega)
  ·rw [decide_eq_false (show ¬ Int.ofNat r.length > Int.ofNat 20 from by show ¬ ((20 : Nat) : Int) < (r.length : Int); omega), bO]
   exact main _ _ ht (by omega)
 simp only [fA, aJ, eX]
 by_cases c : s.length > 400
 ·rw [decide_eq_true (show Int.ofNat s.length > Int.ofNat 400 from by show ((400 : Nat) : Int) < (s.length : Int); omega), aZ, bDb (by omega), aJ]
  exact second _ (by rw [List.length_take]; omega)
 ·rw [decide_eq_false (show ¬ Int.ofNat s.length > Int.ofNat 400 from by show ¬ ((400 : Nat) : Int) < (s.length : Int); omega), bO]
  exact second _ (by omega)
end Go.Dd

namespace Go.Dd
open Go.Proofs
def uT (l : Bs) : Nat → Bs
 | 0 => []
 | n + 1 => uT l n ++ l ++ [10]
theorem aOh (l : Bs) : ∀ n, (uT l n).length = n * (l.length + 1)
 | 0 => by simp [uT]
 | n + 1 => by
  simp only [uT, List.length_append, aOh l n, List.length_cons, List.length_nil]
  rw [Nat.succ_mul]
  omega
theorem dDl (a b : Nat) (hb : b ≠ 0) (h : Hp) : aD .rem (.i .i64 (Int.ofNat a)) (.i .i64 (Int.ofNat b)) h = some (.i .i64 (Int.ofNat (a % b)), h) := by
 have e : ¬ Int.ofNat b = 0 := fun e => hb (Int.ofNat.inj e)
 simp only [aD, if_true, eV, if_neg e]
 rfl
theorem aAz {b : Pos} {k : Kind} {l : Bs} {h : Hp} {N : Nat} (hN : N = l.length) (hl : ∀ c ∈ l, c < 256) (hg : h.bl.get b = some (.row k (l.map bD))) : eY (.l b 0 N N) h = some (.s l, h) := by
 have hc : cellsAt b 0 N h = some (l.map bD) := by
  unfold cellsAt rowOf
  simp only [hg, List.drop_zero]
  have := kP (l.map bD) (bBj _)
  rw [List.length_map, ← hN] at this
  exact this
 simp only [eY, hc, uL hl]
section
variable {h : Hp}
theorem bXa {pb : Pos} {N : Nat} (hN : N = 20000) (hg : h.bl.get pb = some (.row .ex ((List.replicate N 10).map bD))) (hlt : pb.toNat < h.next.toNat) (p e : Nat) :
  ∃ k, gI dF 20000000 (.i .i64 (Int.ofNat p)) (.i .i64 (Int.ofNat e)) (.i .i64 (Int.ofNat p)) (.i .i64 (Int.ofNat e)) (.b true) (.l pb 0 N N) h = some (.b true, k) := by
 have ten : ∀ c ∈ List.replicate N 10, c < 256 := fun c hc => by rw [List.eq_of_mem_replicate hc]; omega
 have hlen : (List.replicate N 10).length = N := List.length_replicate
 have hP : cZ (List.replicate N 10) = ([], 0, 0) := by rw [hN]; exact aPr
 have hP2 : cZ (List.replicate N 10 ++ [34]) = ([], 0, 31) := aLh _ (by rw [List.length_append, hlen]; simp; omega)
 generalize List.replicate N 10 = s at hg ten hlen hP hP2
 have c1 := aAz (h := h) (N := N) hlen.symm ten hg
 obtain ⟨x, h1, a1, a2, a3⟩ := wT (n := 20000000) (s := s) (by omega) (by omega) h
 have hg1 : h1.bl.get pb = some (.row .ex (s.map bD)) := by rw [a3.get pb hlt]; exact hg
 have c2 := aAz (h := h1) (N := N) hlen.symm ten hg1
 obtain ⟨y, h2, b1, b2, b3⟩ := wT (n := 20000000) (s := s ++ [34]) (by rw [List.length_append]; simp; omega) (by rw [List.length_append]; simp; omega) h1
 rw [hP] at a1
 rw [hP2] at b1
 have a1' : dF 8 [.s s] h = _ := (rX8 _ _).trans a1
 have b1' : dF 8 [.s (s ++ [34])] h1 = _ := (rX8 _ _).trans b1
 unfold gI
 simp only [c1, aJ, a1', jN, jO, jM, c2, cX s [34] h1 (by simp; omega), b1', qL, aAl, bQ, cGy]
 exact ⟨_, rfl⟩
theorem bEx {pb : Pos} {N : Nat} (hN : N = 20000) (p e : Nat) : ∀ (k i m : Nat) (h : Hp), i + k = N → k < m → h.bl.get pb = some (.row .ex (dX (List.replicate i 10) N)) → pb.toNat < h.next.toNat →
  ∃ q, qR dF 20000000 m (.i .i64 (Int.ofNat p)) (.i .i64 (Int.ofNat e)) (.i .i64 (Int.ofNat p)) (.i .i64 (Int.ofNat e)) (.b true) (.l pb 0 N N) (.i .i64 (Int.ofNat i)) h = some (.b true, q) := by
 intro k
 induction k with
 | zero =>
  intro i m h hi hm hg hlt
  obtain ⟨m, rfl⟩ : ∃ j, m = j + 1 := ⟨m - 1, by omega⟩
  have hil : i = N := by omega
  subst hil
  have hrow : dX (List.replicate i 10) i = (List.replicate i 10).map bD := by unfold dX; rw [List.length_replicate]; simp
  rw [hrow] at hg
  show ∃ q, uP dF 20000000 (qR dF 20000000 m) _ _ _ _ _ _ _ h = some (.b true, q)
  unfold uP
  simp only [sR, aJ, kX, show ¬ i < i by omega, decide_false, bO]
  exact bXa hN hg hlt p e
 | succ k ih =>
  intro i m h hi hm hg hlt
  obtain ⟨m, rfl⟩ : ∃ j, m = j + 1 := ⟨m - 1, by omega⟩
  have hia : i < N := by omega
  have hrl : (List.replicate i 10).length = i := List.length_replicate
  have hst := qC (vs := [10]) hg (by rw [hrl]; simp; omega)
  rw [hrl] at hst
  have hrr : List.replicate i 10 ++ [10] = List.replicate (i + 1) 10 := by rw [List.replicate_succ']
  rw [hrr] at hst
  have e1 : aE 1 (.l pb 0 N N) (.i .i64 (Int.ofNat i)) h = some (.p pb i, h) := by
   unfold aE
   simp only
   rw [if_pos (by show (0 : Int) ≤ (i : Int) ∧ (i : Int) < (N : Int); omega)]
   show some (DV.p pb (0 + (i : Int).toNat * 1), h) = _
   simp
  have e2 : aH 1 (.p pb i) (.i .u8 (Int.ofNat 10)) h = some (aR, ⟨h.next, Tr.set (.row .ex (dX (List.replicate (i + 1) 10) N)) pb h.bl⟩) := by
   unfold aH
   simp only [dD]
   rw [if_pos (show [DV.i .u8 (Int.ofNat 10)].length = 1 from rfl), show ([DV.i .u8 (Int.ofNat 10)] : List DV) = [10].map bD from rfl, hst]
  obtain ⟨q, hq⟩ := ih (i + 1) m ⟨h.next, Tr.set (.row .ex (dX (List.replicate (i + 1) 10) N)) pb h.bl⟩ (by omega) (by omega) (dQg _ _ _) hlt
  refine ⟨q, ?_⟩
  show uP dF 20000000 (qR dF 20000000 m) _ _ _ _ _ _ _ h = _
  unfold uP
  simp only [sR, aJ, kX, hia, decide_true, aZ, e1, e2, bH i 1 _ (show i + 1 < _ by omega)]
  exact hq
theorem bDe (p e : Nat) (h : Hp) : ∃ q, bHh dF 20000000 (.i .i64 (Int.ofNat p)) (.i .i64 (Int.ofNat e)) (.i .i64 (Int.ofNat p)) (.i .i64 (Int.ofNat e)) (.b true) h = some (.b true, q) := by
 unfold bHh
 have hm : ∀ N : Nat, N ≤ 20000 → bR 1 1 [(.i .u8 (Int.ofNat 0))] (.i .i64 (Int.ofNat N)) (.i .i64 (Int.ofNat N)) h = some (.l h.next 0 N N, ⟨h.next.succ, Tr.set (.row .ex (List.replicate N (bD 0))) h.next h.bl⟩) := by
  intro N hN
  unfold bR
  simp only
  rw [if_pos (by
   show (0 : Int) ≤ (N : Int) ∧ (N : Int) ≤ (N : Int) ∧ (N : Int).toNat * 1 ≤ 2 ^ 30 ∧ (N : Int).toNat * 1 ≤ 2 ^ 24 ∧ (N : Int) < 2 ^ 32
   omega)]
  show some (DV.l h.next 0 (N : Int).toNat (N : Int).toNat, Hp.mk h.next.succ (Tr.set (.row .ex (List.replicate (N : Int).toNat [bD 0]).flatten) h.next h.bl)) = _
  simp
 rw [hm 20000 (Nat.le_refl _), aJ]
 unfold bDw aWw bRs
 generalize hN : (20000 : Nat) = N
 exact bEx hN.symm p e N 0 20000000 _ (by omega) (by omega) (by show (Tr.set _ h.next h.bl).get h.next = _; rw [dQg]; simp [dX]) (by show h.next.toNat < h.next.succ.toNat; rw [dQh]; omega)
theorem bDd {t : Bs} (ht : t.length < 20000) (h : Hp) : ∃ q, lE dF 20000000 (.s t) h = some (.b true, q) := by
 obtain ⟨x, y, h1, h2, h3, e1, e2, e3⟩ := qU (s := t) (t := t) (by omega) (by omega) 8 9 rfl (.inr rfl) h
 unfold lE cMk cHx
 simp only [e1, e2, e3, aJ, jN, jO, jM, decide_true]
 exact bDe _ _ h3
theorem bGv {l : Bs} (hl : l.length ≤ 60) (c : Nat) (h : Hp) : ∀ (k i m : Nat), i + k = c % 100 → k < m →
  ∃ q, pW dF 20000000 m (.s l) (.i .i64 (Int.ofNat c)) (.s (uT l i)) (.i .i64 (Int.ofNat i)) h = some (.b true, q) := by
 have hc : c % 100 < 100 := Nat.mod_lt _ (by omega)
 have lenb : ∀ i, i ≤ 100 → (uT l i).length ≤ 6100 := fun i hi => by
  rw [aOh]
  exact Nat.le_trans (Nat.mul_le_mul hi (show l.length + 1 ≤ 61 by omega)) (by omega)
 intro k
 induction k with
 | zero =>
  intro i m hi hm
  obtain ⟨m, rfl⟩ : ∃ j, m = j + 1 := ⟨m - 1, by omega⟩
  show ∃ q, tT dF 20000000 (pW dF 20000000 m) _ _ _ _ h = some (.b true, q)
  unfold tT
  simp only [dDl c 100 (by omega), aJ, kX, show ¬ i < c % 100 by omega, decide_false, bO]
  exact bDd (by have := lenb i (by omega); omega) h
 | succ k ih =>
  intro i m hi hm
  obtain ⟨m, rfl⟩ : ∃ j, m = j + 1 := ⟨m - 1, by omega⟩
  have hb := lenb i (by omega)
  show ∃ q, tT dF 20000000 (pW dF 20000000 m) _ _ _ _ h = some (.b true, q)
  unfold tT
  simp only [dDl c 100 (by omega), aJ, kX, show i < c % 100 by omega, decide_true, aZ, cX (uT l i) l h (by omega), cX (uT l i ++ l) [10] h (by simp; omega), bH i 1 _ (show i + 1 < _ by omega)]
  exact ih (i + 1) m (by omega) (by omega)
theorem cFz (s : Bs) (x : Int) (hx1 : -9223372036854775808 ≤ x) (hx2 : x ≤ 9223372036854775807) (h : Hp) : ∃ k, aF CF dF 20000000 4 [.s s, .i .i64 x] h = some (.b true, k) := by
 rw [dEe]
 show ∃ k, s4 dF 20000000 (.s s) (.i .i64 x) h = some (.b true, k)
 unfold s4 cCv
 have main : ∀ (l : Bs) (c : Nat), l.length ≤ 60 → ∃ k, bEk dF 20000000 (.s l) (.i .i64 (Int.ofNat c)) h = some (.b true, k) := by
  intro l c hl
  unfold bEk cLa aXm bJs
  have hc : c % 100 < 100 := Nat.mod_lt _ (by omega)
  exact bGv hl c h (c % 100) 0 20000000 (by omega) (by omega)
 have second : ∀ l : Bs, l.length ≤ 60 → ∃ k, bGb dF 20000000 (.s l) (.i .i64 x) h = some (.b true, k) := by
  intro l hl
  unfold bGb
  rw [cH, aJ]
  by_cases c : x < Int.ofNat 0
  ·rw [decide_eq_true c, aZ]
   have c' : x < 0 := c
   rw [tR x (Int.ofNat 1) h (by show -9223372036854775808 ≤ x + (1 : Int) ∧ x + (1 : Int) ≤ 9223372036854775807; omega), aJ]
   have e : jK .neg (.i .i64 (x + Int.ofNat 1)) h = some (.i .i64 (Int.ofNat (-(x + 1)).toNat), h) := by
    unfold jK
    simp only
    rw [jA _ (by show -9223372036854775808 ≤ 0 - (x + (1 : Int)) ∧ 0 - (x + (1 : Int)) ≤ 9223372036854775807; omega)]
    congr 3
    show 0 - (x + (1 : Int)) = ((-(x + 1)).toNat : Int)
    omega
   rw [e, aJ]
   exact main l _ hl
  ·rw [decide_eq_false c, bO]
   have c' : ¬ x < 0 := c
   obtain ⟨k, rfl⟩ : ∃ k : Nat, x = Int.ofNat k := ⟨x.toNat, by show x = (x.toNat : Int); omega⟩
   exact main l k hl
 simp only [fA, aJ, eX]
 by_cases c : s.length > 60
 ·rw [decide_eq_true (show Int.ofNat s.length > Int.ofNat 60 from by show ((60 : Nat) : Int) < (s.length : Int); omega), aZ, bDb (by omega), aJ]
  exact second _ (by rw [List.length_take]; omega)
 ·rw [decide_eq_false (show ¬ Int.ofNat s.length > Int.ofNat 60 from by show ¬ ((60 : Nat) : Int) < (s.length : Int); omega), bO]
  exact second _ (by omega)
end
end Go.Dd

