/- A part of the proof: LM XA: each text has a comment of its own. -/
import Derived.Test.YtjfmbeinhhdapaaGreatDoorPD9
import Derived.ChangeArms
set_option linter.unusedVariables false
set_option linter.unusedSimpArgs false
set_option linter.constructorNameAsVariable false
set_option maxRecDepth 100000
namespace Go.Dd
open Go.Proofs
theorem dDt (n : Nat) (x : DV) (h : Hp) : kS (n + 1) 26 [x] h = s26 (kS n) n x h := (mZ 26 rfl n [x] h).trans (cXq (kS n) n [x] h)
theorem eBv (n : Nat) (x : DV) (h : Hp) : kS (n + 1) 27 [x] h = s27 (kS n) n x h := (mZ 27 rfl n [x] h).trans (cWo (kS n) n [x] h)
theorem dXw (n : Nat) (x : DV) (h : Hp) : kS (n + 1) 12 [x] h = s12 (kS n) n x h := (mZ 12 rfl n [x] h).trans (cVv (kS n) n [x] h)
theorem eAk (n : Nat) (x : DV) (h : Hp) : kS (n + 1) 13 [x] h = s13 (kS n) n x h := (mZ 13 rfl n [x] h).trans (cXb (kS n) n [x] h)
theorem aTx (x : Int) (h0 : -9223372036854775808 ≤ x) (h1 : x ≤ 9223372036854775807) : -9223372036854775808 ≤ x.tdiv 10 ∧ x.tdiv 10 ≤ 9223372036854775807 := by
 obtain ⟨m, rfl | rfl⟩ := Int.eq_nat_or_neg x
 ·rw [Int.tdiv_eq_ediv_of_nonneg (by omega)]
  omega
 ·rw [Int.neg_tdiv, Int.tdiv_eq_ediv_of_nonneg (by omega)]
  omega
theorem cVe (x : Int) (h0 : -9223372036854775808 ≤ x) (h1 : x ≤ 9223372036854775807) (h : Hp) : aD .quo (.i .i64 x) (.i .i64 (Int.ofNat 10)) h = some (.i .i64 (x.tdiv 10), h) := by
 have e : ¬ (Int.ofNat 10 = 0) := by decide
 simp only [aD, if_true, fB, if_neg e]
 have := aTx x h0 h1
 rw [show x.tdiv (Int.ofNat 10) = x.tdiv 10 from rfl, jE _ (by omega)]
theorem cXk (x : Int) (h : Hp) : aD .rem (.i .i64 x) (.i .i64 (Int.ofNat 10)) h = some (.i .i64 (x.tmod 10), h) := by
 have e : ¬ (Int.ofNat 10 = 0) := by decide
 simp only [aD, if_true, fB, if_neg e]
 rfl
theorem cWb {n : Nat} (h : n < 256) (hp : Hp) : dJ .u8 (.i .i64 (n : Int)) hp = some (.i .u8 (Int.ofNat n), hp) := by
 show some (DV.i .u8 (IntKind.u8.wrap (n : Int)), hp) = _
 have : IntKind.u8.wrap (n : Int) = Int.ofNat n := by
  unfold IntKind.wrap
  simp [IntKind.bits, IntKind.signed, IntKind.min, IntKind.max]
  omega
 rw [this]
theorem mk1 (c : Nat) (hc : c < 256) (h : Hp) : ∃ y g, aP [(.i .u8 (Int.ofNat 0))] 1 [(0, 1, bD c)] h = some (y, g) ∧ dI y g = some (.s [c], g) ∧ Lo h.next.toNat h g :=
 ⟨.l h.next 0 1 1, ⟨h.next.succ, Tr.set (.row .ex [bD c]) h.next h.bl⟩, rfl, bTa (l := [c]) rfl (fun d hd => by simp at hd; omega) (eCm _ _ _), Lo.new _ h⟩
section
variable {h : Hp}
theorem rO {m n : Nat} (hn : n < 10) (h : Hp) : ∃ h', kS (m + 1) 26 [.i .i64 (Int.ofNat n)] h = some (.s (dg n), h') ∧ Lo h.next.toNat h h' := by
 obtain ⟨y, g, e1, e2, e3⟩ := mk1 (48 + n) (by omega) h
 refine ⟨g, ?_, e3⟩
 rw [dDt]
 unfold s26 yP
 have p1 : decide (Int.ofNat n ≥ Int.ofNat 0) = true := decide_eq_true (by show ((0 : Nat) : Int) ≤ (n : Int); omega)
 have p2 : decide (Int.ofNat n < Int.ofNat 10) = true := decide_eq_true (by show (n : Int) < ((10 : Nat) : Int); omega)
 have p3 : dJ .u8 (.i .i64 (Int.ofNat (48 + n))) h = some (.i .u8 (Int.ofNat (48 + n)), h) := cWb (n := 48 + n) (by omega) h
 simp only [oM, p1, aU, aSb, dV, p2, dU, cX, dD 48 n h (by omega), p3, e1, e2]
 rw [lJ hn]
theorem aWz : ∀ (f n m : Nat) (h : Hp), n < 10 ^ f → n ≤ 9223372036854775807 → f < m → ∃ h', kS m 26 [.i .i64 (Int.ofNat n)] h = some (.s (dg n), h') ∧ Lo h.next.toNat h h'
 | 0, n, m, h, hn, hm, hf => by
  obtain ⟨m, rfl⟩ : ∃ j, m = j + 1 := ⟨m - 1, by omega⟩
  exact rO (by simp at hn; omega) h
 | f + 1, n, m, h, hn, hm, hf => by
  obtain ⟨m, rfl⟩ : ∃ j, m = j + 1 + 1 := ⟨m - 2, by omega⟩
  by_cases h10 : n < 10
  ·exact rO h10 h
  obtain ⟨h1, a1, a2⟩ := aWz f (n / 10) (m + 1) h (by rw [Nat.pow_succ] at hn; omega) (by omega) (by omega)
  obtain ⟨h2, b1, b2⟩ := rO (m := m) (n := n % 10) (by omega) h1
  refine ⟨h2, ?_, a2.trans (b2.mono a2.next)⟩
  rw [dDt]
  unfold s26 yP zL
  have p1 : decide (Int.ofNat n ≥ Int.ofNat 0) = true := decide_eq_true (by show ((0 : Nat) : Int) ≤ (n : Int); omega)
  have p2 : decide (Int.ofNat n < Int.ofNat 10) = false := decide_eq_false (by show ¬ (n : Int) < ((10 : Nat) : Int); omega)
  have p3 : decide (Int.ofNat n > Int.ofNat 0) = true := decide_eq_true (by show ((0 : Nat) : Int) < (n : Int); omega)
  have eq : (Int.ofNat n).tdiv 10 = Int.ofNat (n / 10) := by
   rw [Int.tdiv_eq_ediv_of_nonneg (by show (0 : Int) ≤ (n : Int); omega)]
   show (n : Int) / 10 = ((n / 10 : Nat) : Int)
   omega
  have er : (Int.ofNat n).tmod 10 = Int.ofNat (n % 10) := by
   rw [Int.tmod_eq_emod_of_nonneg (by show (0 : Int) ≤ (n : Int); omega)]
   show (n : Int) % 10 = ((n % 10 : Nat) : Int)
   omega
  have l1 := bMc (n / 10)
  have l2 := bMc (n % 10)
  simp only [oM, p1, aU, aSb, dV, p2, dU, dK, mN, p3, cX, cVe _ (show -9223372036854775808 ≤ Int.ofNat n by show -9223372036854775808 ≤ (n : Int); omega) (show Int.ofNat n ≤ 9223372036854775807 by show (n : Int) ≤ 9223372036854775807; omega), eq, a1, cXk, er, b1, dL (dg (n / 10)) (dg (n % 10)) h2 (by omega)]
  rw [lJ (n := n % 10) (by omega), ← aFp (by omega) (by omega)]
theorem aXy {rec : RT} {n : Nat} : ∀ (f m : Nat) (h : Hp) (j : Nat) (acc : List Nat), m < 10 ^ f → 0 < m → m ≤ 9223372036854775808 → acc.length + f ≤ 1000 → f ≤ 20 → f < j →
  ∃ h', lZ rec n j (.i .i64 (-(m : Int))) (.s acc) h = some (.s (45 :: (gP 20 m [] ++ acc)), h') ∧ Lo h.next.toNat h h'
 | 0, m, h, j, acc, hm, h0, h1, ha, hf, hj => by simp at hm; omega
 | f + 1, m, h, j, acc, hm, h0, h1, ha, hf, hj => by
  obtain ⟨j, rfl⟩ : ∃ q, j = q + 1 + 1 := ⟨j - 2, by omega⟩
  have er : (-(m : Int)).tmod 10 = -((m % 10 : Nat) : Int) := by
   rw [Int.neg_tmod, Int.tmod_eq_emod_of_nonneg (by omega)]
   omega
  have eq : (-(m : Int)).tdiv 10 = -((m / 10 : Nat) : Int) := by
   rw [Int.neg_tdiv, Int.tdiv_eq_ediv_of_nonneg (by omega)]
   omega
  have p1 : decide (-(m : Int) < Int.ofNat 0) = true := decide_eq_true (by show -(m : Int) < ((0 : Nat) : Int); omega)
  obtain ⟨y, g, e1, e2, e3⟩ := mk1 (48 + m % 10) (by omega) h
  have sb : aD .sub (.i .i64 (Int.ofNat 48)) (.i .i64 (-((m % 10 : Nat) : Int))) h = some (.i .i64 (((48 + m % 10 : Nat)) : Int), h) := by
   rw [bTb _ _ _ (by show -9223372036854775808 ≤ (48 : Int) - -((m % 10 : Nat) : Int) ∧ (48 : Int) - -((m % 10 : Nat) : Int) ≤ 9223372036854775807; omega)]
   congr 3
   show (48 : Int) - -((m % 10 : Nat) : Int) = _
   omega
  have p3 := cWb (n := 48 + m % 10) (by omega) h
  have step : ∀ jj, lZ rec n (jj + 1) (.i .i64 (-(m : Int))) (.s acc) h = lZ rec n jj (.i .i64 (-((m / 10 : Nat) : Int))) (.s ([48 + m % 10] ++ acc)) g := by
   intro jj
   show pJ rec n (lZ rec n jj) _ _ h = _
   unfold pJ
   simp only [dV, p1, aU, cX, cXk, er, sb, p3, e1, e2, dL [48 + m % 10] acc g (by simp; omega), cVe _ (show -9223372036854775808 ≤ -(m : Int) by omega) (show -(m : Int) ≤ 9223372036854775807 by omega), eq]
  rw [step]
  by_cases h10 : m < 10
  ·have ez : m / 10 = 0 := by omega
   rw [ez]
   have p0 : decide (-((0 : Nat) : Int) < Int.ofNat 0) = false := rfl
   refine ⟨g, ?_, e3⟩
   show pJ rec n (lZ rec n j) _ _ g = _
   unfold pJ gL
   simp only [dV, p0, aU, dK, dL [45] ([48 + m % 10] ++ acc) g (by simp; omega)]
   have := lJ h10
   unfold dg at this
   rw [this]
   have : m % 10 = m := by omega
   simp [this]
  ·obtain ⟨h', w1, w2⟩ := aXy f (m / 10) g (j + 1) ([48 + m % 10] ++ acc) (by rw [Nat.pow_succ] at hm; omega) (by omega) (by omega) (by simp; omega) (by omega) (by omega)
   refine ⟨h', ?_, e3.trans (w2.mono e3.next)⟩
   rw [w1]
   have := aFp (n := m) (by omega) (by omega)
   unfold dg at this
   rw [this]
   simp
theorem aPq {m : Nat} (hm : 40 < m) (x : Int) (h0 : -9223372036854775808 ≤ x) (h1 : x ≤ 9223372036854775807) (h : Hp) : ∃ h', kS m 26 [.i .i64 x] h = some (.s (cD x), h') ∧ Lo h.next.toNat h h' := by
 cases x with
 | ofNat n => exact aWz 20 n m h (by simp at h1; omega) (by simp at h1; omega) (by omega)
 | negSucc n =>
  have e0 : Int.negSucc n = -((n + 1 : Nat) : Int) := rfl
  obtain ⟨m, rfl⟩ : ∃ j, m = j + 1 := ⟨m - 1, by omega⟩
  obtain ⟨h', w1, w2⟩ := aXy (rec := kS m) (n := m) 20 (n + 1) h m [] (by omega) (by omega) (by omega) (by simp) (by omega) (by omega)
  refine ⟨h', ?_, w2⟩
  rw [dDt]
  unfold s26 yP zL
  have p1 : decide (Int.negSucc n ≥ Int.ofNat 0) = false := rfl
  have p3 : decide (Int.negSucc n > Int.ofNat 0) = false := rfl
  simp only [oM, p1, aU, gDt, Bool.false_eq_true, if_false, eP, dK, mN, p3]
  unfold aZf aZw bPb
  rw [← e0] at w1
  rw [w1, List.append_nil]
  rfl
theorem cNp {s : Bs} (hs : s.length < 1000000) (h : Hp) : ∀ (k i m : Nat) (acc : Bs), i + k = s.length → k < m → acc.length + 2 * k + 10 < 100000000 → {rec : RT} → {n : Nat} →
  mD rec n m (.s s) (.s acc) (.i .i64 (Int.ofNat i)) h = some (.s (acc ++ bO (s.drop i) ++ [34]), h) := by
 intro k
 induction k with
 | zero =>
  intro i m acc hi hm ha rec n
  obtain ⟨m, rfl⟩ : ∃ j, m = j + 1 := ⟨m - 1, by omega⟩
  show rH rec n (mD rec n m) _ _ _ h = _
  unfold rH cZ
  simp only [wK, aU, dQx, show ¬ i < s.length by omega, decide_false, dK, dL acc [34] h (by simp; omega)]
  rw [List.drop_of_length_le (by omega)]
  simp [bO]
 | succ k ih =>
  intro i m acc hi hm ha rec n
  obtain ⟨m, rfl⟩ : ∃ j, m = j + 1 := ⟨m - 1, by omega⟩
  have hia : i < s.length := by omega
  obtain ⟨x, hx⟩ : ∃ x, s[i]? = some x := ⟨s[i], List.getElem?_eq_getElem hia⟩
  have hd : s.drop i = x :: s.drop (i + 1) := by
   rw [List.drop_eq_getElem_cons hia]
   congr 1
   have := List.getElem?_eq_getElem hia
   rw [hx] at this
   exact (Option.some.inj this).symm
  have e8 : ∀ a b : Nat, (Int.ofNat a == Int.ofNat b) = decide (a = b) := eAj
  show rH rec n (mD rec n m) _ _ _ h = _
  unfold rH aWs
  rw [hd]
  simp only [wK, aU, dQx, hia, decide_true, cX, aQl hx, gE, e8, cXg, decide_eq_true_eq]
  by_cases c : x = 10
  ·rw [if_pos c, dL acc [92, 110] h (by simp; omega), aU]
   unfold fW
   rw [dD i 1 _ (by omega), aU, ih (i + 1) m _ (by omega) (by omega) (by simp; omega)]
   rw [fF]
   simp [nU, c]
  ·rw [if_neg c]
   unfold bAt
   simp only [aQl hx, aU, gE, e8]
   have tail : ∀ a : Bs, a.length ≤ acc.length + 1 → aBy rec n (mD rec n m) (.s s) (.s a) (.i .i64 (Int.ofNat i)) h = some (.s (a ++ [x] ++ bO (s.drop (i + 1)) ++ [34]), h) := by
    intro a hal
    unfold aBy fW
    rw [dD i 1 _ (by omega), aU, cUr hx, aU, dL a [x] h (by simp; omega), aU, dD i 1 _ (by omega), aU, ih (i + 1) m _ (by omega) (by omega) (by simp; omega)]
   by_cases c2 : x = 34
   ·simp only [c2, decide_true, iY, dZi, aU, dU, cX]
    rw [dL acc [92] h (by simp; omega), aU]
    rw [c2] at tail
    rw [tail _ (by simp), fF]
    simp [nU]
   ·simp only [c2, decide_false, nS, aU, aQl hx, gE, e8, eP, cXg, decide_eq_true_eq]
    by_cases c3 : x = 92
    ·rw [if_pos c3, dL acc [92] h (by simp; omega), aU, tail _ (by simp), fF]
     simp [nU, c3]
    ·rw [if_neg c3, tail _ (by omega), fF]
     simp [nU, c, c2, c3]
theorem bWh {m : Nat} {s : Bs} (hs : s.length < 100000) (hm : s.length + 5 < m) (h : Hp) : kS m 27 [.s s] h = some (.s (34 :: (bO s ++ [34])), h) := by
 obtain ⟨m, rfl⟩ : ∃ j, m = j + 1 := ⟨m - 1, by omega⟩
 rw [eBv]
 unfold s27 aWw bCi aWj bUv
 rw [cNp (by omega) h s.length 0 m [34] (by omega) (by omega) (by simp; omega), List.drop_zero]
 simp
def aBo (e p : Int) (sh tx : Bs) (f : Int) : Bs :=
 cD e ++ 32 :: (cD p ++ 32 :: (cD f ++ 32 :: ((34 :: (bO tx ++ [34])) ++ 32 :: ((34 :: (bO sh ++ [34])) ++ [10]))))
def inI (x : Int) : Prop := -9223372036854775808 ≤ x ∧ x ≤ 9223372036854775807
theorem aTy {x : Int} (hx : inI x) (h : Hp) : jT [.i .i64 x] h = some (.s (cD x), h) := by
 simp [jT, hx.1, hx.2]
theorem cVy {s : Bs} (hs : s.length ≤ 100000) (h : Hp) : iO [.s s] h = some (.s (34 :: (bO s ++ [34])), h) := by
 simp only [iO, aWf hs, cond_true]
theorem bWx (k : IntKind) (x : Int) (g : Hp) : bB (some (.i k x, g)) (.i k x) = true := by simp [bB, DV.beq]
theorem bSf (x : Bs) (g : Hp) : bB (some (.s x, g)) (.s x) = true := by simp [bB, DV.beq, nI]
abbrev jD (e p : Int) (sh tx : Bs) (f : Int) : List DV := [.i .i64 e, .i .i64 p, .s sh, .s tx, .i .i64 f]
theorem cHu {m : Nat} (e p : Int) (sh tx : Bs) (f : Int) (he : inI e) (hp : inI p) (hf : inI f) (h1 : sh.length ≤ 1000) (h2 : tx.length ≤ 1000) (h : Hp) :
  ∃ h', kS (m + 1) 12 [.a (jD e p sh tx f)] h = some (.s (aBo e p sh tx f), h') ∧ Lo h.next.toNat h h' := by
 rw [dXw]
 unfold s12
 rw [dLj, aU]
 generalize hg : (⟨h.next.succ, Tr.set (.row .ex (jD e p sh tx f)) h.next h.bl⟩ : Hp) = g
 have gg : (resv 1 g).bl.get h.next = some (.row .ex (jD e p sh tx f)) := by rw [← hg]; exact eCm _ _ _
 have gn : g.next = h.next.succ := by rw [← hg]
 have Lg : Lo h.next.toNat h g := by rw [← hg]; exact Lo.new _ h
 have Lr : Lo h.next.toNat h (resv 1 g) := Lg.trans ⟨by show g.next.toNat ≤ (cB 1 g.next).toNat; show _ ≤ g.next.succ.toNat; rw [eCp]; omega, fun _ _ => rfl⟩
 generalize hr : resv 1 g = q at gg Lr
 have l0 : aA (.p h.next 0) q = some (.i .i64 e, q) := ldC gg rfl rfl
 have l1 : aA (.p h.next 1) q = some (.i .i64 p, q) := ldC gg rfl rfl
 have l2 : aA (.p h.next 2) q = some (.s sh, q) := ldC gg rfl rfl
 have l3 : aA (.p h.next 3) q = some (.s tx, q) := ldC gg rfl rfl
 have l4 : aA (.p h.next 4) q = some (.i .i64 f, q) := ldC gg rfl rfl
 simp only [cNf, Nat.zero_add, aU, l0, l1, l2, l3, l4, aTy he, aTy hp, aTy hf, cVy (show tx.length ≤ 100000 by omega), cVy (show sh.length ≤ 100000 by omega), bWx, bSf, Bool.and_self, bGp]
 have nq : cB 0 g.next = g.next := rfl
 rw [nq]
 have b1 : bP g.next [(.s []), (.s []), (.s []), (.s []), (.s [])] 5 [(0, 1, .s (cD e)), (1, 1, .s (cD p)), (2, 1, .s (cD f)), (3, 1, .s (34 :: (bO tx ++ [34]))), (4, 1, .s (34 :: (bO sh ++ [34])))] q =
   some (.l g.next 0 5 5, ⟨q.next, Tr.set (.row .ex [.s (cD e), .s (cD p), .s (cD f), .s (34 :: (bO tx ++ [34])), .s (34 :: (bO sh ++ [34]))]) g.next q.bl⟩) := rfl
 rw [b1, aU]
 have ie := kV e
 have ip := kV p
 have iff := kV f
 have q1 := iU tx
 have q2 := iU sh
 have sle : ∀ s : Bs, gK s ≤ s.length := by
  intro s
  induction s with
  | nil => simp [gK]
  | cons x t ih => simp only [gK, List.length_cons]; split <;> omega
 have s1 := sle tx
 have s2 := sle sh
 have src : mC 1 (.l g.next 0 5 5) ⟨q.next, Tr.set (.row .ex [.s (cD e), .s (cD p), .s (cD f), .s (34 :: (bO tx ++ [34])), .s (34 :: (bO sh ++ [34]))]) g.next q.bl⟩ = some (5, [.s (cD e), .s (cD p), .s (cD f), .s (34 :: (bO tx ++ [34])), .s (34 :: (bO sh ++ [34]))]) := by
  simp only [mC, cellsAt, rowOf, eCm]
  rfl
 have j1 : ∀ gq : Hp, mC 1 (.l g.next 0 5 5) gq = some (5, [.s (cD e), .s (cD p), .s (cD f), .s (34 :: (bO tx ++ [34])), .s (34 :: (bO sh ++ [34]))]) → qD [.l g.next 0 5 5, .s [32]] gq = some (.s (jB [32] [cD e, cD p, cD f, 34 :: (bO tx ++ [34]), 34 :: (bO sh ++ [34])]), gq) := by
  intro gq hsrc
  have st : nV [.s (cD e), .s (cD p), .s (cD f), .s (34 :: (bO tx ++ [34])), .s (34 :: (bO sh ++ [34]))] = some [cD e, cD p, cD f, 34 :: (bO tx ++ [34]), 34 :: (bO sh ++ [34])] := rfl
  have jl : (jB [32] [cD e, cD p, cD f, 34 :: (bO tx ++ [34]), 34 :: (bO sh ++ [34])]).length ≤ 100000000000 := by
   simp only [jB, laE, lcE, lnE]
   omega
  simp only [qD, hsrc, st, aWf jl, cond_true, aWf (show 5 ≤ 100000000000 by omega), bKh, aWf (Nat.le_refl 5), Bool.and_self]
 rw [j1 _ src, aU]
 have jlen : (jB [32] [cD e, cD p, cD f, 34 :: (bO tx ++ [34]), 34 :: (bO sh ++ [34])]).length < 1000000 := by
  simp only [jB, laE, lcE, lnE]
  omega
 rw [dL _ [10] _ (by simp only [List.length_cons, List.length_nil]; omega), aU]
 have hlo : h.next.toNat ≤ g.next.toNat := by rw [gn, eCp]; omega
 have fin : jB [32] [cD e, cD p, cD f, 34 :: (bO tx ++ [34]), 34 :: (bO sh ++ [34])] ++ [10] = aBo e p sh tx f := by simp [jB, aBo]
 rw [fin]
 exact ⟨_, rfl, Lr.trans (Lo.set _ hlo)⟩
theorem cFz {m : Nat} (hm : 5000 < m) (e p : Int) (sh tx : Bs) (f : Int) (he : inI e) (hp : inI p) (hf : inI f) (h1 : sh.length ≤ 1000) (h2 : tx.length ≤ 1000) (h : Hp) :
  ∃ h', kS m 13 [.a (jD e p sh tx f)] h = some (.s (aBo e p sh tx f), h') ∧ Lo h.next.toNat h h' := by
 obtain ⟨m, rfl⟩ : ∃ j, m = j + 1 := ⟨m - 1, by omega⟩
 rw [eAk]
 unfold s13
 rw [dLj, aU]
 generalize hg : (⟨h.next.succ, Tr.set (.row .ex (jD e p sh tx f)) h.next h.bl⟩ : Hp) = g
 have gg : g.bl.get h.next = some (.row .ex (jD e p sh tx f)) := by rw [← hg]; exact eCm _ _ _
 have gn : h.next.toNat < g.next.toNat := by rw [← hg]; show _ < h.next.succ.toNat; rw [eCp]; omega
 have Lg : Lo h.next.toNat h g := by rw [← hg]; exact Lo.new _ h
 obtain ⟨g1, a1, a2⟩ := aPq (m := m) (by omega) e he.1 he.2 g
 obtain ⟨g2, b1, b2⟩ := aPq (m := m) (by omega) p hp.1 hp.2 g1
 obtain ⟨g3, c1, c2⟩ := aPq (m := m) (by omega) f hf.1 hf.2 g2
 have b2' := b2.mono a2.next
 have c2' := c2.mono (Nat.le_trans a2.next b2.next)
 have gg1 : g1.bl.get h.next = some (.row .ex (jD e p sh tx f)) := by rw [a2.get _ gn]; exact gg
 have gg2 : g2.bl.get h.next = some (.row .ex (jD e p sh tx f)) := by rw [b2'.get _ gn]; exact gg1
 have gg3 : g3.bl.get h.next = some (.row .ex (jD e p sh tx f)) := by rw [c2'.get _ gn]; exact gg2
 have ld : ∀ {w : Hp}, w.bl.get h.next = some (.row .ex (jD e p sh tx f)) → aA (.p h.next 0) w = some (.i .i64 e, w) ∧ aA (.p h.next 1) w = some (.i .i64 p, w) ∧ aA (.p h.next 2) w = some (.s sh, w) ∧ aA (.p h.next 3) w = some (.s tx, w) ∧ aA (.p h.next 4) w = some (.i .i64 f, w) :=
  fun hw => ⟨ldC hw rfl rfl, ldC hw rfl rfl, ldC hw rfl rfl, ldC hw rfl rfl, ldC hw rfl rfl⟩
 obtain ⟨x0, x1, x2, x3, x4⟩ := ld gg
 obtain ⟨y0, y1, y2, y3, y4⟩ := ld gg1
 obtain ⟨z0, z1, z2, z3, z4⟩ := ld gg2
 obtain ⟨w0, w1, w2, w3, w4⟩ := ld gg3
 have q1 := iU tx
 have q2 := iU sh
 have sle : ∀ s : Bs, gK s ≤ s.length := by
  intro s
  induction s with
  | nil => simp [gK]
  | cons x t ih => simp only [gK, List.length_cons]; split <;> omega
 have s1 := sle tx
 have s2 := sle sh
 have ie := kV e
 have ip := kV p
 have iff := kV f
 have k1 := bWh (m := m) (s := tx) (by omega) (by omega) g3
 have k2 := bWh (m := m) (s := sh) (by omega) (by omega) g3
 simp only [cNf, Nat.zero_add, aU, x0, a1]
 rw [dL (cD e) [32] g1 (by simp; omega), aU]
 simp only [x1, y1, aU, bWx, Bool.and_self, bGp, b1]
 rw [dL _ (cD p) g2 (by simp; omega), aU, dL _ [32] g2 (by simp; omega), aU]
 simp only [x4, y4, z4, aU, bWx, Bool.and_self, bGp, c1]
 rw [dL _ (cD f) g3 (by simp; omega), aU, dL _ [32] g3 (by simp; omega), aU]
 simp only [x3, y3, z3, w3, aU, bSf, Bool.and_self, bGp, k1]
 rw [dL _ (34 :: (bO tx ++ [34])) g3 (by simp; omega), aU, dL _ [32] g3 (by simp; omega), aU]
 simp only [x2, y2, z2, w2, aU, bSf, Bool.and_self, bGp, k2]
 rw [dL _ (34 :: (bO sh ++ [34])) g3 (by simp; omega), aU, dL _ [10] g3 (by simp; omega), aU]
 have fin : cD e ++ [32] ++ cD p ++ [32] ++ cD f ++ [32] ++ (34 :: (bO tx ++ [34])) ++ [32] ++ (34 :: (bO sh ++ [34])) ++ [10] = aBo e p sh tx f := by simp [aBo]
 rw [fin]
 exact ⟨g3, rfl, Lg.trans ((a2.trans (b2'.trans c2')).mono (by omega))⟩
theorem dXf (args : List DV) (h : Hp) : nR 12 args h = kS 20000000 12 args h := cVc rfl args h
theorem eAc (args : List DV) (h : Hp) : nR 13 args h = kS 20000000 13 args h := cVc rfl args h
theorem ld5 {b : Pos} {k : Kind} {row : List DV} {h : Hp} (hg : h.bl.get b = some (.row k row)) (hl : row.length = 5) (ho : ∀ v ∈ row, v.one = true) : aK 5 (.p b 0) h = some (.a row, h) := by
 have := mW row ho
 rw [hl] at this
 simp only [aK, cellsAt, rowOf, hg, List.drop_zero, this]
theorem cLm (e p : Int) (sh tx : Bs) (f : Int) : ∀ v ∈ jD e p sh tx f, v.one = true := fun v hv => by
 simp only [List.mem_cons, List.not_mem_nil, or_false] at hv
 rcases hv with rfl | rfl | rfl | rfl | rfl <;> rfl
theorem cCs (e p : Int) (sh tx : Bs) (f : Int) (he : inI e) (hp : inI p) (hf : inI f) (h : Hp) : ∃ k, aF CF nR 20000000 5 [.a (jD e p sh tx f)] h = some (.b true, k) := by
 rw [dUn]
 show ∃ k, s5 nR 20000000 (.a (jD e p sh tx f)) h = some (.b true, k)
 unfold s5
 rw [dLj, aU]
 have last : ∀ (sh tx : Bs) (g : Hp), sh.length ≤ 300 → tx.length ≤ 300 → g.bl.get h.next = some (.row .ex (jD e p sh tx f)) → h.next.toNat < g.next.toNat → ∃ k, bIw nR 20000000 (.p h.next 0) g = some (.b true, k) := by
  intro sh tx g hs ht hg hn
  have one := cLm e p sh tx f
  obtain ⟨g1, a1, a2⟩ := cHu (m := 19999999) e p sh tx f he hp hf (by omega) (by omega) g
  have hg1 : g1.bl.get h.next = some (.row .ex (jD e p sh tx f)) := by rw [a2.get _ hn]; exact hg
  obtain ⟨g2, b1, b2⟩ := cFz (m := 20000000) (by omega) e p sh tx f he hp hf (by omega) (by omega) g1
  have a1' : nR 12 [.a (jD e p sh tx f)] g = _ := (dXf _ _).trans a1
  have b1' : nR 13 [.a (jD e p sh tx f)] g1 = _ := (eAc _ _).trans b1
  unfold bIw
  rw [ld5 hg rfl one, aU, a1', aU, ld5 hg1 rfl one, aU]
  have sm : bB (some (DV.a (jD e p sh tx f), g)) (.a (jD e p sh tx f)) = true := by simp [bB, DV.beq, eDg, nI]
  rw [sm]
  simp only [Bool.and_self, bGp, b1', aU, cJb, decide_true, aSb, eBa, dU]
  exact ⟨_, rfl⟩
 have mid : ∀ (sh tx : Bs) (g : Hp), tx.length ≤ 300 → g.bl.get h.next = some (.row .ex (jD e p sh tx f)) → h.next.toNat < g.next.toNat → ∃ k, bGj nR 20000000 (.p h.next 0) g = some (.b true, k) := by
  intro sh tx g ht hg hn
  have l2 : aA (.p h.next 2) g = some (.s sh, g) := ldC hg rfl rfl
  unfold bGj
  simp only [cNf, Nat.zero_add, aU, l2, wK, mN]
  by_cases c : sh.length > 300
  ·rw [decide_eq_true (show Int.ofNat sh.length > Int.ofNat 300 from by show ((300 : Nat) : Int) < (sh.length : Int); omega), cX, dQw (by omega), aU]
   have st : aI 1 (.p h.next 2) (.s (sh.take 300)) g = some (aR, ⟨g.next, Tr.set (.row .ex (jD e p (sh.take 300) tx f)) h.next g.bl⟩) := by
    simp only [aI, eA, cV, hg]
    rfl
   rw [st, aU]
   exact last _ _ _ (by rw [List.length_take]; omega) ht (eCm _ _ _) hn
  ·rw [decide_eq_false (show ¬ Int.ofNat sh.length > Int.ofNat 300 from by show ¬ ((300 : Nat) : Int) < (sh.length : Int); omega), dK]
   exact last _ _ _ (by omega) ht hg hn
 generalize hg0 : (⟨h.next.succ, Tr.set (.row .ex (jD e p sh tx f)) h.next h.bl⟩ : Hp) = g
 have hg : g.bl.get h.next = some (.row .ex (jD e p sh tx f)) := by rw [← hg0]; exact eCm _ _ _
 have hn : h.next.toNat < g.next.toNat := by rw [← hg0]; show _ < h.next.succ.toNat; rw [eCp]; omega
 have l3 : aA (.p h.next 3) g = some (.s tx, g) := ldC hg rfl rfl
 unfold bJh
 simp only [cNf, Nat.zero_add, aU, l3, wK, mN]
 by_cases c : tx.length > 300
 ·rw [decide_eq_true (show Int.ofNat tx.length > Int.ofNat 300 from by show ((300 : Nat) : Int) < (tx.length : Int); omega), cX, dQw (by omega), aU]
  have st : aI 1 (.p h.next 3) (.s (tx.take 300)) g = some (aR, ⟨g.next, Tr.set (.row .ex (jD e p sh (tx.take 300) f)) h.next g.bl⟩) := by
   simp only [aI, eA, cV, hg]
   rfl
  rw [st, aU]
  exact mid _ _ _ (by rw [List.length_take]; omega) (eCm _ _ _) hn
 ·rw [decide_eq_false (show ¬ Int.ofNat tx.length > Int.ofNat 300 from by show ¬ ((300 : Nat) : Int) < (tx.length : Int); omega), dK]
  exact mid _ _ _ (by omega) hg hn
end
end Go.Dd

namespace Go.Dd
open Go.Proofs Go.RowKit
theorem dUe {α : Type} {l : List α} (h : l.length = 5) : ∃ a b c d e, l = [a, b, c, d, e] := by
 match l, h with
 | [a, b, c, d, e], _ => exact ⟨a, b, c, d, e, rfl⟩
theorem cCe {H : Type} {enc : TypeId × Value → H} {w : World} {sp : Nat → Bool} {n : Nat} {cs : List Value} {x : DataW H × List MemPlace} (h : DataW.trod enc Tryz.prog w 0 sp true n 32 cs = some x) :
  ∃ e p f : Int, ∃ sh tx : ByteArray, cs = [.int .i64 e, .int .i64 p, .string sh, .string tx, .int .i64 f] ∧ inI e ∧ inI p ∧ inI f := by
 obtain ⟨xs, k, _, _, hl, hx, hall⟩ := DataW.trod_struct Tryz.underlying32 h
 have hl : cs.length = 5 := hl.trans (by kernel_rfl)
 have hx : xs.length = 5 := hx
 have c3 : Tryz.prog.cellsOf 3 = 1 := by kernel_rfl
 have c9 : Tryz.prog.cellsOf 9 = 1 := by kernel_rfl
 obtain ⟨b0, b1, b2, b3, b4, rfl⟩ := dUe hx
 obtain ⟨a0, a1, a2, a3, a4, rfl⟩ := dUe hl
 have h0 : DataW.trod enc Tryz.prog w 0 sp true k 23 (([a0, a1, a2, a3, a4].drop 0).take (Tryz.prog.cellsOf 23)) = [b0, b1, b2, b3, b4][0]? := hall 0 _ rfl
 have h1 : DataW.trod enc Tryz.prog w 0 sp true k 3 (([a0, a1, a2, a3, a4].drop 1).take (Tryz.prog.cellsOf 3)) = [b0, b1, b2, b3, b4][1]? := hall 1 _ rfl
 have h2 : DataW.trod enc Tryz.prog w 0 sp true k 9 (([a0, a1, a2, a3, a4].drop 2).take (Tryz.prog.cellsOf 9)) = [b0, b1, b2, b3, b4][2]? := hall 2 _ rfl
 have h3 : DataW.trod enc Tryz.prog w 0 sp true k 9 (([a0, a1, a2, a3, a4].drop 3).take (Tryz.prog.cellsOf 9)) = [b0, b1, b2, b3, b4][3]? := hall 3 _ rfl
 have h4 : DataW.trod enc Tryz.prog w 0 sp true k 3 (([a0, a1, a2, a3, a4].drop 4).take (Tryz.prog.cellsOf 3)) = [b0, b1, b2, b3, b4][4]? := hall 4 _ rfl
 rw [show Tryz.prog.cellsOf 23 = 1 by kernel_rfl] at h0
 rw [c3] at h1 h4
 rw [c9] at h2 h3
 obtain ⟨e, q0, _, r0⟩ := DataW.trod_int Tryz.underlying23 (show DataW.trod enc Tryz.prog w 0 sp true k 23 [a0] = some b0 from h0)
 obtain ⟨p, q1, _, r1⟩ := DataW.trod_int Tryz.underlying3 (show DataW.trod enc Tryz.prog w 0 sp true k 3 [a1] = some b1 from h1)
 obtain ⟨f, q4, _, r4⟩ := DataW.trod_int Tryz.underlying3 (show DataW.trod enc Tryz.prog w 0 sp true k 3 [a4] = some b4 from h4)
 obtain ⟨sh, q2, _⟩ := DataW.trod_string Tryz.underlying9 (show DataW.trod enc Tryz.prog w 0 sp true k 9 [a2] = some b2 from h2)
 obtain ⟨tx, q3, _⟩ := DataW.trod_string Tryz.underlying9 (show DataW.trod enc Tryz.prog w 0 sp true k 9 [a3] = some b3 from h3)
 cases q0; cases q1; cases q2; cases q3; cases q4
 have rng : ∀ z : Int, (Lit.int .i64 z).wf = true → inI z := fun z h => by simpa [inI, Lit.wf, IntKind.min, IntKind.max, IntKind.bits, IntKind.signed] using h
 exact ⟨e, p, f, sh, tx, rfl, rng _ r0, rng _ r1, rng _ r4⟩
end Go.Dd

