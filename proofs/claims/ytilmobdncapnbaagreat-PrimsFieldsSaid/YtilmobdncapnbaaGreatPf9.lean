/- A part of the proof: TX3 TX4 GN WR WM WA WC WP1 WP2 WP3 WP4 WP5 WP6 WP7 WQ1 WQ2 WQ3 WQ4 WQ5 WQ6 WQ7 WQ8 XL5 WA5 WQR: each text has a comment of its own. -/
import Derived.Test.YtilmobdncapnbaaGreatPf8
import Derived.WalkKit
import Derived.ProofKit
import Derived.OpenShut
import Derived.ChangeMaps5
set_option linter.unusedVariables false
set_option linter.unusedSimpArgs false
set_option linter.constructorNameAsVariable false
set_option maxRecDepth 100000
namespace Go.Dd
open Go.Proofs
theorem mA {w : Int} {pl : WT} (h : bX w pl ≠ 0) : dS w pl = true := by
 unfold dS
 split <;> first | rfl | skip
 rw [bXx h]
 simp
theorem tF {w : Int} {pl : WT} {k : Nat} (hk : k < 16000000) (h : dS w pl = true) : dS w (pl.set k (.ofNat 1)) = true := by
 by_cases ha : bX w pl = 0
 ·unfold dS at h ⊢
  by_cases w0 : w = 0
  ·subst w0; rfl
  ·by_cases w2 : w = 2
   ·subst w2; rfl
   ·by_cases w4 : w = 4
    ·subst w4; rfl
    ·split
     ·exact absurd rfl w0
     ·exact absurd rfl w2
     ·exact absurd rfl w4
     ·split at h
      ·exact absurd rfl w0
      ·exact absurd rfl w2
      ·exact absurd rfl w4
      ·rw [ha] at h
       have : cT w = true := by simpa using h
       rw [this]
       rfl
 ·exact mA (by rw [qP hk ha]; exact ha)
def dMd (M : MemV) (R : List Int) (es : List (DV × DV)) : Prop := ∀ e ∈ es, ∃ s x, e = (.s s, iD x) ∧ TxO M (R.getD 13 0) x s
theorem bAy {es : List (DV × DV)} (s : List Nat) : (∀ e ∈ es, ∃ (k : List Nat) (x : Int), e = (.s k, iD x)) →
  (∃ x, dI .string (.s s) es = some (some (iD x)) ∧ (DV.s s, iD x) ∈ es) ∨ (dI .string (.s s) es = some none ∧ ∀ i, vX .string (.s s) es i = some none) := by
 induction es with
 | nil => exact fun _ => .inr ⟨rfl, fun _ => rfl⟩
 | cons e es ih =>
  intro h
  obtain ⟨k, x, he⟩ := h e (by simp)
  subst he
  cases hk : eqD s k with
  | true =>
   have := (pI s k).1 hk
   subst this
   exact .inl ⟨x, by simp only [dI, mY, hk], by simp⟩
  | false =>
   rcases ih fun e he => h e (by simp [he]) with ⟨y, h1, h2⟩ | ⟨h1, h2⟩
   ·exact .inl ⟨y, by simp only [dI, mY, hk]; exact h1, by simp [h2]⟩
   ·exact .inr ⟨by simp only [dI, mY, hk]; exact h1, fun i => by simp only [vX, mY, hk]; exact h2 _⟩
theorem bSd {es l : List (DV × DV)} {k v : DV} (h : dI .string k es = some (some v)) : dI .string k (es ++ l) = some (some v) := by
 induction es with
 | nil => cases h
 | cons e es ih =>
  simp only [List.cons_append, dI] at h ⊢
  split
  ·rename_i hk; rw [hk] at h; exact h
  ·rename_i hk; rw [hk] at h; exact ih h
  ·rename_i hk; rw [hk] at h; cases h
theorem bKw {es : List (DV × DV)} {s : List Nat} {v : DV} (h : dI .string (.s s) es = some none) : dI .string (.s s) (es ++ [(.s s, v)]) = some (some v) := by
 induction es with
 | nil =>
  have : eqD s s = true := (pI s s).2 rfl
  simp only [List.nil_append, dI, mY, this]
 | cons e es ih =>
  simp only [List.cons_append, dI] at h ⊢
  split
  ·rename_i hk; rw [hk] at h; cases h
  ·rename_i hk; rw [hk] at h; exact ih h
  ·rename_i hk; rw [hk] at h; cases h
structure Wk (h : Hp) (M : MemV) (R : List Int) (es : List (DV × DV)) : Prop where
 W : Wd h M R es
 G : Good M
 sy : dMd M R es
 r0 : dS (R.getD 0 0) M.pl = true
 rk : ∀ i, i < 16 → bX (R.getD (2 + i) 0) M.pl ≠ 0
structure Stay (k : Nat) (M M' : MemV) (R R' : List Int) (es es' : List (DV × DV)) : Prop where
 n : M'.n = M.n
 fin : M'.fin ≤ M.fin + k
 made : M'.made ≤ M.made + k
 lo : M.fin ≤ M'.fin
 tx : ∀ cls o s, TxO M cls o s → TxO M' cls o s
 at' : ∀ o, bX o M.pl ≠ 0 → bX o M'.pl = bX o M.pl
 r : ∀ i, R'.getD (i + 1) 0 = R.getD (i + 1) 0
 fd : ∀ s v, dI .string (.s s) es = some (some v) → dI .string (.s s) es' = some (some v)
 gi : ∀ CL, GI M R CL → GI M' R' CL
 old : ∀ j, j < M.fin → M'.t.get j = M.t.get j
theorem Stay.refl (k : Nat) (M : MemV) (R : List Int) (es : List (DV × DV)) : Stay k M M R R es es := ⟨rfl, by omega, by omega, by omega, fun _ _ _ h => h, fun _ _ => rfl, fun _ => rfl, fun _ _ h => h, fun _ h => h, fun _ _ => rfl⟩
theorem Stay.trans {a b : Nat} {M M' M2 : MemV} {R R' R2 : List Int} {es es' es2 : List (DV × DV)} (h : Stay a M M' R R' es es') (k : Stay b M' M2 R' R2 es' es2) : Stay (a + b) M M2 R R2 es es2 :=
 ⟨k.n.trans h.n, by have := h.fin; have := k.fin; omega, by have := h.made; have := k.made; omega, by have := h.lo; have := k.lo; omega, fun c o s t => k.tx _ _ _ (h.tx _ _ _ t),
  fun o ho => by have h1 := h.at' o ho; rw [k.at' o (by rw [h1]; exact ho), h1], fun i => (k.r i).trans (h.r i), fun s v e => k.fd s v (h.fd s v e), fun CL I => k.gi CL (h.gi CL I), fun j hj => by rw [k.old j (by have := h.lo; omega)]; exact h.old j hj⟩
theorem Grown.stay {M M' : MemV} {f : Nat} {cls : Int} {l : List Int} (g : Grown M M' f cls l) (G : Good M) (R : List Int) (es : List (DV × DV)) (N : ∀ CL, GI M R CL → NewI M R CL f cls l) : Stay (l.length + 3) M M' R R es es :=
 ⟨g.n, by rw [g.fin]; exact Nat.le_refl _, by rw [g.made]; omega, by rw [g.fin]; omega, fun _ _ _ t => g.txo G t, fun o ho => by rw [g.pl]; exact qP (by have := G.le; have := G.hi; omega) ho, fun _ => rfl, fun _ _ h => h, fun CL I => g.gi G I (N CL I), fun j hj => g.old j hj⟩
theorem Grown.wk {h h' : Hp} {M M' : MemV} {R : List Int} {es : List (DV × DV)} {f : Nat} {cls : Int} {l : List Int} (g : Grown M M' f cls l) (K : Wk h M R es) (W' : Wd h' M' R es) (hc : bX cls M.pl ≠ 0) (hf : f ≤ 2) (h256 : l.length ≤ 256) (room : M.fin + l.length + 3 ≤ M.n) (hm : M.made < 899999) : Wk h' M' R es := by
 have hk : M.fin < 16000000 := by have := K.G.le; have := K.G.hi; omega
 refine ⟨W', g.good K.G hc hf h256 room hm, fun e he => ?_, by rw [g.pl]; exact tF hk K.r0, fun i hi => by rw [g.pl, qP hk (K.rk i hi)]; exact K.rk i hi⟩
 obtain ⟨s, x, h1, h2⟩ := K.sy e he
 exact ⟨s, x, h1, g.txo K.G h2⟩
section
variable {h : Hp} {M : MemV} {R : List Int} {es : List (DV × DV)}
theorem Wd.setR0 (W : Wd h M R es) (v : Int) : aG 1 (.p (aQ 4) 0) (iD v) h = some (aV, ⟨h.next, Tr.set (.row .ex ((R.set 0 v).map iD)) (aQ 4) h.bl⟩) ∧ Wd ⟨h.next, Tr.set (.row .ex ((R.set 0 v).map iD)) (aQ 4) h.bl⟩ M (R.set 0 v) es ∧
  Up h ⟨h.next, Tr.set (.row .ex ((R.set 0 v).map iD)) (aQ 4) h.bl⟩ := by
 obtain ⟨m1, m2, m3, m4, m5, m6⟩ := kH W.mem
 have ne : ∀ b : Pos, b.toNat ≠ 1027 → (Tr.set (.row .ex ((R.set 0 v).map iD)) (aQ 4) h.bl).get b = h.bl.get b := fun b hb => by
  rw [dPn]
  intro e; rw [e, pn4] at hb; exact hb rfl
 refine ⟨?_, ⟨(ne _ (by rw [pn7]; omega)).trans W.w, (by show (Tr.set _ (aQ 4) _).get (aQ 4) = _; exact dPo _ _ _), by simp [W.rl], (ne _ (by rw [pn5]; omega)).trans W.sy, ?_, W.nx, W.wb, W.pb⟩, ⟨Nat.le_refl _, fun b h1 h2 => ne b (by omega)⟩⟩
 ·have hp : gF 0 (R.map iD) [iD v] = some ((R.set 0 v).map iD) := by
   have hl := W.rl
   cases R with
   | nil => simp at hl
   | cons a l =>
    show lA (iD a :: l.map iD) [iD v] = _
    have : lA (l.map iD) [] = some (l.map iD) := by cases l.map iD <;> rfl
    simp only [lA, DV.one, Bool.and_self, if_true, this, Option.map_some]
    rfl
  have hw : Kind.ex.writable = true := rfl
  simp only [aG, cZ, List.length_singleton, if_true, dB, W.r, hw, hp]
 ·exact mT ((ne _ (by rw [pn3]; omega)).trans m1) ((ne _ (by rw [W.wb, pn1]; omega)).trans m2) ((ne _ (by rw [W.pb, pn2]; omega)).trans m3) m4 m5 m6
theorem Wd.setS (W : Wd h M R es) (es' : List (DV × DV)) : Wd ⟨h.next, Tr.set (.mp es') (aQ 5) h.bl⟩ M R es' ∧ Up h ⟨h.next, Tr.set (.mp es') (aQ 5) h.bl⟩ := by
 obtain ⟨m1, m2, m3, m4, m5, m6⟩ := kH W.mem
 have ne : ∀ b : Pos, b.toNat ≠ 1028 → (Tr.set (.mp es') (aQ 5) h.bl).get b = h.bl.get b := fun b hb => by
  rw [dPn]
  intro e; rw [e, pn5] at hb; exact hb rfl
 exact ⟨⟨(ne _ (by rw [pn7]; omega)).trans W.w, (ne _ (by rw [pn4]; omega)).trans W.r, W.rl, (by show (Tr.set _ (aQ 5) _).get (aQ 5) = _; exact dPo _ _ _),
  mT ((ne _ (by rw [pn3]; omega)).trans m1) ((ne _ (by rw [W.wb, pn1]; omega)).trans m2) ((ne _ (by rw [W.pb, pn2]; omega)).trans m3) m4 m5 m6, W.nx, W.wb, W.pb⟩, ⟨Nat.le_refl _, fun b h1 h2 => ne b (by omega)⟩⟩
theorem Wk.push (K : Wk h M R es) {x y : Int} (hx : dS x M.pl = true) (hy : dS y M.pl = true) (room : M.fin + 5 ≤ M.n) (hm : M.made < 899999) {n : Nat} (hn : 256 < n) :
  ∃ h' M', dH (n + 2) 73 [.p (aQ 7) 0, .i .i64 x, .i .i64 y] h = some (.t [.i .i64 (.ofNat (M.fin * 2)), .i .i64 (.ofNat 0)], h') ∧ Wk h' M' R es ∧ Up h h' ∧ Grown M M' 0 (R.getD 11 0) [x, y] := by
 have hk : M.fin < 16000000 := by have := K.G.le; have := K.G.hi; omega
 have fl : aL [.i .i64 (Int.ofNat 0), .i .i64 (Int.ofNat 0)] 2 [(0, 1, .i .i64 x), (1, 1, .i .i64 y)] h = some (.l h.next 0 2 2, ⟨h.next.succ, Tr.set (.row .ex ([x, y].map iD)) h.next h.bl⟩) := by
  simp [aL, iP, cZ]
 obtain ⟨U1, W1⟩ := K.W.new (.row .ex ([x, y].map iD))
 have S : SlI (.l h.next 0 2 2) [x, y] ⟨h.next.succ, Tr.set (.row .ex ([x, y].map iD)) h.next h.bl⟩ := .inr ⟨h.next, 2, .ex, rfl, dPo _ _ _, .inr (Nat.le_trans (by decide) K.W.nx), by show _ < (h.next.succ).toNat; rw [dPp]; omega⟩
 have K1 : Wk ⟨h.next.succ, Tr.set (.row .ex ([x, y].map iD)) h.next h.bl⟩ M R es := ⟨W1, K.G, K.sy, K.r0, K.rk⟩
 obtain ⟨h', M', e1, W2, U2, _, g⟩ := W1.make61 K.G (K.rk 9 (by omega)) (f := 0) (by omega) S (by simp) (by simpa using room) (fun v hv => by
  simp only [List.mem_cons, List.not_mem_nil, or_false] at hv
  rcases hv with rfl | rfl
  ·exact tF hk hx
  ·exact tF hk hy) hn
 refine ⟨h', M', ?_, g.wk K1 W2 (K.rk 9 (by omega)) (by omega) (by simp) (by simpa using room) hm, U1.trans U2, g⟩
 rw [oL 73 rfl, cPl]
 unfold s73
 simp only [g0, g1, g2, aT, K.W.known (show 9 < 16 by omega), fl]
 rw [show (2 : Nat) + 9 = 11 from rfl] at e1 ⊢
 rw [e1]
 simp only [aT, nF, nE]
theorem Wk.symbol (K : Wk h M R es) {s : List Nat} (hs : ∀ c ∈ s, c < 256) (room : M.fin + 70 ≤ M.n) (hm : M.made < 800000) {n : Nat} (hn : 300 < n) :
  ∃ a e h' M' R' es', dH (n + 3) 44 [.p (aQ 7) 0, .s s] h = some (.t [.i .i64 a, .i .i64 e], h') ∧ Wk h' M' R' es' ∧ Up h h' ∧ Stay 80 M M' R R' es es' ∧
   ((¬ (1 ≤ s.length ∧ s.length ≤ 60) ∧ e = 1 ∧ a = 0) ∨ ((1 ≤ s.length ∧ s.length ≤ 60) ∧ e = 0 ∧ dI .string (.s s) es' = some (some (iD a)) ∧ TxO M' (R.getD 13 0) a s)) := by
 rw [oL 44 rfl, cPk]
 unfold s44
 have el : ∀ h, dU (.s s) h = some (.i .i64 (s.length : Int), h) := fun h => rfl
 by_cases c1 : s.length < 1
 ·refine ⟨0, 1, h, M, R, es, ?_, K, Up.refl h, Stay.refl _ _ _ _, .inl ⟨by omega, rfl, rfl⟩⟩
  have d1 : decide ((s.length : Int) < Int.ofNat 1) = true := decide_eq_true (by simp; omega)
  simp only [g0, g1, el, aT, cN, d1, eN, pT, cB, bM]
  rfl
 ·have d1 : decide ((s.length : Int) < Int.ofNat 1) = false := decide_eq_false (by simp; omega)
  by_cases c2 : s.length > 60
  ·refine ⟨0, 1, h, M, R, es, ?_, K, Up.refl h, Stay.refl _ _ _ _, .inl ⟨by omega, rfl, rfl⟩⟩
   have d2 : decide ((s.length : Int) > Int.ofNat 60) = true := decide_eq_true (by simp; omega)
   simp only [g0, g1, el, aT, cN, fM, d1, d2, fY, cD, bM]
   rfl
  ·have d2 : decide ((s.length : Int) > Int.ofNat 60) = false := decide_eq_false (by simp; omega)
   have hl : 1 ≤ s.length ∧ s.length ≤ 60 := by omega
   simp only [g0, g1, el, aT, cN, fM, d1, d2, fY, cD, bN, gE, qA, K.W.l2]
   rcases bAy s (fun e he => by obtain ⟨k, x, h1, _⟩ := K.sy e he; exact ⟨k, x, h1⟩) with ⟨x, f1, f2⟩ | ⟨f1, f2⟩
   ·
    obtain ⟨k, y, e1, T⟩ := K.sy _ f2
    simp only [bQ, DV.s.injEq, DV.i.injEq, true_and] at e1
    obtain ⟨rfl, rfl⟩ := e1
    have hx : x ≠ 0 := fun e => T.at0 (by rw [e]; rfl)
    have z1 : (x != Int.ofNat 0) = true := by
     have : (x == Int.ofNat 0) = false := by simpa using hx
     rw [bne, this]; rfl
    have lk : dM .string (.i .i64 (Int.ofNat 0)) false (.m (aQ 5)) (.s s) h = some (iD x, h) := by
     simp only [dM, fP, K.W.sy, f1, cond_false]
    refine ⟨x, 0, h, M, R, es, ?_, K, Up.refl h, Stay.refl _ _ _ _, .inr ⟨hl, rfl, f1, T⟩⟩
    simp only [lk, aT, iM, z1, bM]
    rfl
   ·
    have lk : dM .string (.i .i64 (Int.ofNat 0)) false (.m (aQ 5)) (.s s) h = some (.i .i64 (Int.ofNat 0), h) := by
     simp only [dM, fP, K.W.sy, f1, cond_false]
    have z0 : (Int.ofNat 0 != Int.ofNat 0) = false := rfl
    obtain ⟨h1, M1, e1, W1, U1, g1⟩ := K.W.bytes49 K.G (K.rk 11 (by omega)) hs (by omega) (by omega) hn
    have K1 : Wk h1 M1 R es := g1.wk K W1 (K.rk 11 (by omega)) (by omega) (by simp; omega) (by simp; omega) (by omega)
    have T1 : TxO M1 (R.getD 13 0) (.ofNat (M.fin * 2)) s := g1.new_txo K.G hs (by omega)
    have hf1 := g1.fin
    have hn1 := g1.n
    have hd1 := g1.made
    rw [List.length_map] at hf1
    obtain ⟨h2, M2, e2, K2, U2, g2⟩ := K1.push (x := .ofNat (M.fin * 2)) (y := R.getD 0 0) (mA T1.at0) K1.r0 (by omega) (by omega) (n := n) (by omega)
    have T2 := g2.txo K1.G T1
    have G1 := K1.G
    have ha : bX (.ofNat (M1.fin * 2)) M2.pl = M1.fin := by rw [g2.pl]; exact aGs G1.lo (by have := G1.le; have := G1.hi; omega)
    obtain ⟨e3, W3, U3⟩ := K2.W.setR0 (.ofNat (M1.fin * 2))
    obtain ⟨W4, U4⟩ := W3.setS (es ++ [(.s s, .i .i64 (Int.ofNat 0))])
    obtain ⟨W5, U5⟩ := W4.setS (es ++ [(.s s, .i .i64 (.ofNat (M.fin * 2)))])
    have rset : ∀ i, (R.set 0 (Int.ofNat (M1.fin * 2))).getD (i + 1) 0 = R.getD (i + 1) 0 := fun i => by
     simp [List.getD, List.getElem?_set]
    have me : fR .string (.i .i64 (Int.ofNat 0)) (.m (aQ 5)) (.s s) ⟨h2.next, Tr.set (.row .ex ((R.set 0 (Int.ofNat (M1.fin * 2))).map iD)) (aQ 4) h2.bl⟩ =
      some (.t [.i .i64 (Int.ofNat 0), .i .i64 (.ofNat es.length)], ⟨h2.next, Tr.set (.mp (es ++ [(.s s, .i .i64 (Int.ofNat 0))])) (aQ 5) (Tr.set (.row .ex ((R.set 0 (Int.ofNat (M1.fin * 2))).map iD)) (aQ 4) h2.bl)⟩) := by
     simp only [fR, W3.sy, f2]
     rfl
    have ms : dW (.m (aQ 5)) (.i .i64 (.ofNat es.length)) (.i .i64 (.ofNat (M.fin * 2))) ⟨h2.next, Tr.set (.mp (es ++ [(.s s, .i .i64 (Int.ofNat 0))])) (aQ 5) (Tr.set (.row .ex ((R.set 0 (Int.ofNat (M1.fin * 2))).map iD)) (aQ 4) h2.bl)⟩ =
      some (aV, ⟨h2.next, Tr.set (.mp (es ++ [(.s s, .i .i64 (.ofNat (M.fin * 2)))])) (aQ 5) (Tr.set (.mp (es ++ [(.s s, .i .i64 (Int.ofNat 0))])) (aQ 5) (Tr.set (.row .ex ((R.set 0 (Int.ofNat (M1.fin * 2))).map iD)) (aQ 4) h2.bl))⟩) := by
     have q1 : (es ++ [(DV.s s, DV.i .i64 (Int.ofNat 0))])[es.length]? = some (.s s, .i .i64 (Int.ofNat 0)) := by simp
     have q2 : (es ++ [(DV.s s, DV.i .i64 (Int.ofNat 0))]).set es.length (.s s, .i .i64 (.ofNat (M.fin * 2))) = es ++ [(.s s, .i .i64 (.ofNat (M.fin * 2)))] := by simp
     simp only [dW, W4.sy, q1, q2]
    have ix : ∀ h, aJ 1 (.l (aQ 4) 0 18 18) (.i .i64 (Int.ofNat 0)) h = some (.p (aQ 4) 0, h) := fun h => rfl
    refine ⟨.ofNat (M.fin * 2), 0, _, M2, R.set 0 (.ofNat (M1.fin * 2)), es ++ [(.s s, .i .i64 (.ofNat (M.fin * 2)))], ?_, ⟨W5, K2.G, ?_, ?_, ?_⟩, (((U1.trans U2).trans U3).trans U4).trans U5, ?_, .inr ⟨hl, rfl, bKw f1, T2⟩⟩
    ·simp only [lk, aT, iM, z0, bN, K.W.known (show 11 < 16 by omega), show 2 + 11 = 13 from rfl, e1, nF, nE, K1.W.l1, ix, gE, qA, K1.W.root (show 0 < 18 by omega), e2, K2.W.l1, K2.W.l2, e3, me, ms]
     rfl
    ·intro e he
     simp only [List.mem_append, List.mem_singleton] at he
     rcases he with he | rfl
     ·obtain ⟨k, y, q1, q2⟩ := K2.sy e he
      exact ⟨k, y, q1, by rw [show (13 : Nat) = 12 + 1 from rfl, rset]; exact q2⟩
     ·exact ⟨s, _, rfl, by rw [show (13 : Nat) = 12 + 1 from rfl, rset]; exact T2⟩
    ·have : (R.set 0 (Int.ofNat (M1.fin * 2))).getD 0 0 = Int.ofNat (M1.fin * 2) := by
      have hrl := K.W.rl
      cases R with
      | nil => simp at hrl
      | cons a l => rfl
     rw [this]
     exact mA (by rw [ha]; have := G1.lo; omega)
    ·intro i hi
     rw [show 2 + i = (1 + i) + 1 by omega, rset, show (1 + i) + 1 = 2 + i by omega]
     exact K2.rk i hi
    ·have st := (g1.stay K.G R es (fun CL I => I.newK (i := 11) (.inr (.inl ⟨.inr rfl, rfl⟩)) (by rw [List.length_map]; omega) (fun _ v hv => by obtain ⟨c, q1, q2⟩ := List.mem_map.1 hv; exact ⟨c, hs c q1, q2.symm⟩))).trans (g2.stay K1.G R es (fun CL I => I.newK (i := 9) (.inl ⟨rfl, rfl⟩) (by simp) (fun q => by cases q)))
     rw [List.length_map] at st
     have hf2 := g2.fin
     have hd2 := g2.made
     refine ⟨st.n, ?_, ?_, st.lo, st.tx, st.at', rset, fun k v e => bSd e, fun CL I => (st.gi CL I).roots rset, st.old⟩
     ·simp at hf2; omega
     ·omega
theorem Wk.string (K : Wk h M R es) {s : List Nat} (hs : ∀ c ∈ s, c < 256) (room : M.fin + 260 ≤ M.n) (hm : M.made < 800000) {n : Nat} (hn : 300 < n) :
  ∃ a e h' M', dH (n + 3) 43 [.p (aQ 7) 0, .s s] h = some (.t [.i .i64 a, .i .i64 e], h') ∧ Wk h' M' R es ∧ Up h h' ∧ Stay 260 M M' R R es es ∧
   ((¬ s.length ≤ 250 ∧ e = 1 ∧ a = 0) ∨ (s.length ≤ 250 ∧ e = 0 ∧ a = .ofNat (M.fin * 2) ∧ TxO M' (R.getD 12 0) a s)) := by
 rw [oL 43 rfl, cQb]
 unfold s43
 have el : ∀ h, dU (.s s) h = some (.i .i64 (s.length : Int), h) := fun h => rfl
 by_cases c1 : s.length > 250
 ·refine ⟨0, 1, h, M, ?_, K, Up.refl h, Stay.refl _ _ _ _, .inl ⟨by omega, rfl, rfl⟩⟩
  have d1 : decide ((s.length : Int) > Int.ofNat 250) = true := decide_eq_true (by simp; omega)
  simp only [g0, g1, el, aT, fM, d1, bM]
  rfl
 ·have d1 : decide ((s.length : Int) > Int.ofNat 250) = false := decide_eq_false (by simp; omega)
  obtain ⟨h1, M1, e1, W1, U1, g1⟩ := K.W.bytes49 K.G (K.rk 10 (by omega)) hs (by omega) (by omega) hn
  have K1 : Wk h1 M1 R es := g1.wk K W1 (K.rk 10 (by omega)) (by omega) (by simp; omega) (by simp; omega) (by omega)
  have T1 : TxO M1 (R.getD 12 0) (.ofNat (M.fin * 2)) s := g1.new_txo K.G hs (by omega)
  refine ⟨.ofNat (M.fin * 2), 0, h1, M1, ?_, K1, U1, ?_, .inr ⟨by omega, rfl, rfl, T1⟩⟩
  ·simp only [g0, Dd.g1, el, aT, fM, d1, bN, K.W.known (show 10 < 16 by omega), show 2 + 10 = 12 from rfl, e1, nF, nE]
   rfl
  ·have st := g1.stay K.G R es (fun CL I => I.newK (i := 10) (.inr (.inl ⟨.inl rfl, rfl⟩)) (by rw [List.length_map]; omega) (fun _ v hv => by obtain ⟨c, q1, q2⟩ := List.mem_map.1 hv; exact ⟨c, hs c q1, q2.symm⟩))
   rw [List.length_map] at st
   exact ⟨st.n, by have := st.fin; omega, by have := st.made; omega, st.lo, st.tx, st.at', st.r, st.fd, st.gi, st.old⟩
end
end Go.Dd

namespace Go.Dd
open Go.Proofs
noncomputable def byE (t : WT) (s : List Nat) : Nat → Bool := List.rec (motive := fun _ => Nat → Bool) (fun _ => true) (fun c _ ih a => Nat.blt c 256 && (gI (t.get a) (.ofNat c) && ih (Nat.add a 1))) s
noncomputable def bLe (M : MemV) (cls : Int) (e : List Nat × Nat) : Bool :=
 !(Nat.beq (bX (.ofNat e.2) M.pl) 0) && (gI (M.t.get (bX (.ofNat e.2) M.pl)) (.ofNat (Nat.add (Nat.mul e.1.length 4) 2)) && (gI (M.t.get (Nat.add (bX (.ofNat e.2) M.pl) 1)) cls && (Nat.ble e.1.length 256 && byE M.t e.1 (Nat.add (bX (.ofNat e.2) M.pl) 3))))
theorem bHy (t : WT) : ∀ (s : List Nat) (a : Nat), byE t s a = true → (∀ c ∈ s, c < 256) ∧ ∀ i c, s[i]? = some c → t.get (a + i) = .ofNat c
 | [], a, _ => ⟨by simp, fun i c h => by simp at h⟩
 | c :: s, a, h => by
  change (Nat.blt c 256 && (gI (t.get a) (.ofNat c) && byE t s (a + 1))) = true at h
  simp only [Bool.and_eq_true, gB, decide_eq_true_eq] at h
  obtain ⟨h1, h2⟩ := bHy t s (a + 1) h.2.2
  refine ⟨fun d hd => ?_, fun i d hi => ?_⟩
  ·simp only [List.mem_cons] at hd
   rcases hd with rfl | hd
   ·exact h.1
   ·exact h1 d hd
  ·cases i with
   | zero =>
    simp only [List.getElem?_cons_zero, bE] at hi
    subst hi
    exact mQ _ _ h.2.1
   | succ i =>
    rw [show a + (i + 1) = a + 1 + i by omega]
    exact h2 i d (by simpa using hi)
theorem aYs {M : MemV} {cls : Int} {e : List Nat × Nat} (h : bLe M cls e = true) : TxO M cls (.ofNat e.2) e.1 := by
 unfold bLe at h
 simp only [Bool.and_eq_true, jL, decide_eq_true_eq] at h
 obtain ⟨h1, h2, h3, h4, h5⟩ := h
 obtain ⟨b1, b2⟩ := bHy _ _ _ h5
 refine ⟨fun e => (by rw [e] at h1; cases h1), mQ _ _ h2, mQ _ _ h3, b1, h4, b2⟩
noncomputable def dAw (p : List Nat × Nat → Bool) (l : List (List Nat × Nat)) : Bool := List.rec (motive := fun _ => Bool) true (fun x _ ih => p x && ih) l
theorem aMv {p : List Nat × Nat → Bool} : ∀ {l : List (List Nat × Nat)}, dAw p l = true → ∀ a ∈ l, p a = true
 | [], _, a, h => by cases h
 | x :: l, hl, a, h => by
  change (p x && dAw p l) = true at hl
  simp only [Bool.and_eq_true] at hl
  simp only [List.mem_cons] at h
  rcases h with rfl | h
  ·exact hl.1
  ·exact aMv hl.2 a h
theorem vB : ∀ (l : List (List Nat × Nat)) (e : DV × DV), e ∈ bFw l → ∃ x ∈ l, e = (.s x.1, .i .i64 (.ofNat x.2))
 | [], e, h => by cases h
 | x :: l, e, h => by
  change e ∈ (DV.s x.1, DV.i .i64 (.ofNat x.2)) :: bFw l at h
  simp only [List.mem_cons] at h
  rcases h with rfl | h
  ·exact ⟨x, by simp, rfl⟩
  ·obtain ⟨y, h1, h2⟩ := vB l e h
   exact ⟨y, by simp [h1], h2⟩
theorem cLm : dAw (bLe MN (RN.getD 13 0)) syN = true := by kernel_rfl
theorem KN : Wk hW MN RN esN := ⟨WN, GN, fun e he => by
 obtain ⟨x, h1, h2⟩ := vB syN e he
 exact ⟨x.1, _, h2, aYs (aMv cLm x h1)⟩, by kernel_rfl, dJk⟩
theorem cCo (s : List Nat) (h : Hp) : dU (.s s) h = some (.i .i64 (s.length : Int), h) := rfl
theorem aKm (s : ByteArray) : ∀ c ∈ s.data.toList.map (·.toNat), c < 256 := by
 intro c hc
 obtain ⟨b, _, rfl⟩ := List.mem_map.1 hc
 exact b.toNat_lt
end Go.Dd

namespace Go.Dd
open Go.Proofs
theorem bFh (x : Int) : gI x x = true := by
 cases x with
 | ofNat n => exact Nat.beq_refl n
 | negSucc n => exact Nat.beq_refl n
theorem dG (x y : Int) : gI x y = true ↔ x = y := ⟨mQ x y, fun e => by rw [e]; exact bFh y⟩
noncomputable def bYc (p : Nat → Bool) (n : Nat) : Bool := Nat.rec (motive := fun _ => Bool) true (fun i ih => p i && ih) n
theorem sM {p : Nat → Bool} : ∀ {n : Nat}, bYc p n = true → ∀ i, i < n → p i = true
 | 0, _, i, h => by omega
 | n + 1, hl, i, h => by
  change (p n && bYc p n) = true at hl
  simp only [Bool.and_eq_true] at hl
  by_cases e : i = n
  ·rw [e]; exact hl.1
  ·exact sM hl.2 i (by omega)
noncomputable def cHh (a : Nat) (l : List Nat) : Bool := List.rec (motive := fun _ => Bool) false (fun x _ ih => Nat.beq a x || ih) l
theorem yR {a : Nat} : ∀ {l : List Nat}, cHh a l = true → a ∈ l
 | [], h => by cases h
 | x :: l, h => by
  change (Nat.beq a x || cHh a l) = true at h
  simp only [Bool.or_eq_true] at h
  rcases h with h | h
  ·rw [Nat.eq_of_beq_eq_true h]; exact List.mem_cons_self
  ·exact List.mem_cons_of_mem _ (yR h)
noncomputable def byB (v : Int) : Bool := match v with
 | .ofNat c => Nat.blt c 256
 | .negSucc _ => false
noncomputable def aTh (a b : Bool) : Bool := bif a then b else true
theorem kO {a b : Bool} (h : aTh a b = true) (ha : a = true) : b = true := by rw [ha] at h; exact h
noncomputable def obB (M : MemV) (R : List Int) (CL : List Nat) (a hd : Nat) : Bool :=
 Nat.ble (Nat.div hd 4) 256 && (Nat.ble (Nat.mod hd 4) 2 && (aTh (gI (M.t.get (Nat.add a 1)) (R.getD 11 0)) (Nat.beq (Nat.mod hd 4) 0) &&
  (aTh (gI (M.t.get (Nat.add a 1)) (R.getD 12 0)) (Nat.beq (Nat.mod hd 4) 2) && (aTh (gI (M.t.get (Nat.add a 1)) (R.getD 13 0)) (Nat.beq (Nat.mod hd 4) 2) &&
  (aTh (Nat.beq (Nat.mod hd 4) 2) (bYc (fun i => byB (M.t.get (Nat.add (Nat.add a 3) i))) (Nat.div hd 4)) && (aTh (gI (M.t.get (Nat.add a 1)) (R.getD 3 0)) (cHh a CL) &&
  aMx (fun c => aTh (gI (M.t.get (Nat.add c 8)) 1) (!(gI (M.t.get (Nat.add a 1)) (.ofNat (Nat.mul 2 c))))) CL))))))
theorem cSp {M : MemV} {R : List Int} {CL : List Nat} {a hd : Nat} (h : obB M R CL a hd = true) : ObI M R CL a hd := by
 unfold obB at h
 simp only [Bool.and_eq_true, jL, decide_eq_true_eq] at h
 obtain ⟨h1, h2, h3, h4, h5, h6, h7, h8⟩ := h
 refine ⟨h1, h2, fun q => ?_, fun q => ?_, fun q i hi => ?_, fun q => ?_, fun _ c hc q1 q2 => ?_⟩
 ·exact Nat.eq_of_beq_eq_true (kO h3 ((dG _ _).2 q))
 ·rcases q with q | q
  ·exact Nat.eq_of_beq_eq_true (kO h4 ((dG _ _).2 q))
  ·exact Nat.eq_of_beq_eq_true (kO h5 ((dG _ _).2 q))
 ·have hb := sM (kO h6 (show Nat.beq (Nat.mod hd 4) 2 = true by rw [show Nat.mod hd 4 = 2 from q]; rfl)) i hi
  change byB (M.t.get (a + 3 + i)) = true at hb
  cases hv : M.t.get (a + 3 + i) with
  | ofNat c => rw [hv] at hb; exact ⟨c, by simpa [byB, gB] using hb, rfl⟩
  | negSucc c => rw [hv] at hb; cases hb
 ·exact yR (kO h7 ((dG _ _).2 q))
 ·exfalso
  have q3 := kO (jJ h8 c hc) ((dG _ _).2 q1)
  rw [(dG _ _).2 (show M.t.get (Nat.add a 1) = .ofNat (Nat.mul 2 c) from q2)] at q3
  cases q3
noncomputable def zW (M : MemV) (a : Nat) (p : Nat → Bool) : Bool := match M.t.get a with
 | .ofNat hd => p hd
 | .negSucc _ => true
noncomputable def clB (M : MemV) (R : List Int) (c : Nat) : Bool :=
 Nat.ble 3 c && (Nat.ble c 131072 && (!(gI (M.pl.get c) 0) && (gI (M.t.get c) (.ofNat 24) && (gI (M.t.get (Nat.add c 1)) (R.getD 3 0) &&
  (zW M (Nat.add c 5) (fun s => Nat.ble s 33 && Nat.beq (Nat.mod s 2) 1) && (zW M (Nat.add c 8) (fun s => Nat.ble s 7 && Nat.beq (Nat.mod s 2) 1) && (byB (M.t.get (Nat.add c 5)) && byB (M.t.get (Nat.add c 8)))))))))
noncomputable def nmB (M : MemV) (R : List Int) (sy : List (List Nat × Nat)) (c : Nat) : Bool :=
 List.rec (motive := fun _ => Bool) false (fun e _ ih => (gI (M.t.get (Nat.add c 3)) (.ofNat e.2) && (bLe M (R.getD 13 0) e && (Nat.ble 1 e.1.length && Nat.ble e.1.length 60))) || ih) sy
theorem bVx {M : MemV} {R : List Int} {c : Nat} : ∀ {sy : List (List Nat × Nat)}, nmB M R sy c = true → ∃ s, TxO M (R.getD 13 0) (M.t.get (c + 3)) s ∧ 1 ≤ s.length ∧ s.length ≤ 60
 | [], h => by cases h
 | e :: sy, h => by
  change ((gI (M.t.get (c + 3)) (.ofNat e.2) && (bLe M (R.getD 13 0) e && (Nat.ble 1 e.1.length && Nat.ble e.1.length 60))) || nmB M R sy c) = true at h
  simp only [Bool.or_eq_true] at h
  rcases h with h | h
  ·simp only [Bool.and_eq_true, jL, decide_eq_true_eq] at h
   obtain ⟨q1, q2, q3, q4⟩ := h
   exact ⟨e.1, by rw [(dG _ _).1 q1]; exact aYs q2, q3, q4⟩
  ·exact bVx h
theorem cXn {M : MemV} {R : List Int} {c : Nat} {sy : List (List Nat × Nat)} (h : clB M R c = true) (hn : nmB M R sy c = true) : ClI M R c := by
 unfold clB at h
 simp only [Bool.and_eq_true, jL, decide_eq_true_eq] at h
 obtain ⟨h1, h2, h3, h4, h5, h6, h7, h8, h9⟩ := h
 have num : ∀ (j m : Nat), zW M (c + j) (fun s => decide (s ≤ 2 * m + 1) && Nat.beq (Nat.mod s 2) 1) = true → byB (M.t.get (c + j)) = true → ∃ z : Nat, z ≤ m ∧ M.t.get (c + j) = .ofNat (2 * z + 1) := fun j m q1 q2 => by
  cases hv : M.t.get (c + j) with
  | negSucc x => rw [hv] at q2; cases q2
  | ofNat x =>
   unfold zW at q1
   rw [hv] at q1
   simp only [Bool.and_eq_true, decide_eq_true_eq] at q1
   have e : x % 2 = 1 := Nat.eq_of_beq_eq_true q1.2
   exact ⟨x / 2, by omega, by rw [show 2 * (x / 2) + 1 = x by omega]⟩
 refine ⟨⟨h1, h2⟩, fun e => ?_, (dG _ _).1 h4, (dG _ _).1 h5, bVx hn, num 5 16 h6 h8, num 8 3 h7 h9⟩
 rw [e] at h3
 cases h3
noncomputable def djB (M : MemV) (l : List Nat) : Nat → Bool := List.rec (motive := fun _ => Nat → Bool) (fun _ => true) (fun a _ ih lo => Nat.ble lo a && (match M.t.get a with
 | .ofNat hd => ih (Nat.add (Nat.add a 3) (Nat.div hd 4))
 | .negSucc _ => false)) l
theorem bJm {M : MemV} : ∀ {l : List Nat} {lo : Nat}, djB M l lo = true → (∀ a ∈ l, lo ≤ a) ∧ ∀ a ∈ l, ∀ b ∈ l, a < b → ∀ hd : Nat, M.t.get a = .ofNat hd → a + 3 + hd / 4 ≤ b
 | [], lo, h => ⟨fun a ha => (by cases ha), fun a ha => (by cases ha)⟩
 | x :: l, lo, h => by
  change (Nat.ble lo x && (match M.t.get x with
   | .ofNat hd => djB M l (x + 3 + hd / 4)
   | .negSucc _ => false)) = true at h
  simp only [Bool.and_eq_true, jL, decide_eq_true_eq] at h
  obtain ⟨h1, h2⟩ := h
  cases hx : M.t.get x with
  | negSucc k => rw [hx] at h2; cases h2
  | ofNat k =>
   rw [hx] at h2
   obtain ⟨i1, i2⟩ := bJm (l := l) h2
   refine ⟨fun a ha => ?_, fun a ha b hb hab hd hh => ?_⟩
   ·rcases List.mem_cons.1 ha with rfl | ka
    ·exact h1
    ·have := i1 a ka
     omega
   ·rcases List.mem_cons.1 ha with rfl | ka
    ·rcases List.mem_cons.1 hb with rfl | kb
     ·omega
     ·rw [hx] at hh
      cases hh
      exact i1 b kb
    ·rcases List.mem_cons.1 hb with rfl | kb
     ·have := i1 a ka
      omega
     ·exact i2 a ka b kb hab hd hh
noncomputable def giB (M : MemV) (R : List Int) (CL : List Nat) (pls : List Nat) (sy : List (List Nat × Nat)) : Bool :=
 djB M pls 0 && (gI (M.t.get 0) 0 && (gI (M.t.get 1) 0 && (aMx (fun a => zW M a (obB M R CL a)) pls && (aMx (fun c => clB M R c && nmB M R sy c) CL &&
  (bYc (fun i => gI (R.getD (Nat.add 2 i) 0) (.ofNat (Nat.add 6 (Nat.mul 18 i)))) 16 && (bYc (fun i => cHh (Nat.add 3 (Nat.mul 9 i)) CL) 16 &&
  (gI (M.t.get 92) 3 && (gI (M.t.get 101) 5 && (gI (M.t.get 110) 5 && (gI (M.t.get 83) 7 && gI (M.t.get 20) 7))))))))))
theorem cZs {M : MemV} {R : List Int} {CL : List Nat} {pls : List Nat} {sy : List (List Nat × Nat)} (hp : M.pl = mkP pls .e) (hb : ∀ x ∈ pls, x < 16000000) (h : giB M R CL pls sy = true) : GI M R CL := by
 unfold giB at h
 simp only [Bool.and_eq_true] at h
 obtain ⟨h0, h1, h2, h3, h4, h5, h6, h7, h8, h9, h10, h11⟩ := h
 have mem : ∀ a, M.pl.get a ≠ 0 → a ∈ pls := fun a ha => by
  rw [hp] at ha
  rcases tK pls .e a hb ha with q | q
  ·exact q
  ·exact absurd rfl q
 refine ⟨(dG _ _).1 h1, (dG _ _).1 h2, fun a ha hd hh => ?_, fun a b ha hb' => (bJm h0).2 a (mem a ha) b (mem b hb'), fun c hc => ?_, fun i hi => (dG _ _).1 (sM h5 i hi), fun i hi => yR (sM h6 i hi), (dG _ _).1 h7, (dG _ _).1 h8, (dG _ _).1 h9, (dG _ _).1 h10, (dG _ _).1 h11⟩
 ·have hm : a ∈ pls := by
   rw [hp] at ha
   rcases tK pls .e a hb ha with q | q
   ·exact q
   ·exact absurd rfl q
  have q := jJ h3 a hm
  unfold zW at q
  rw [hh] at q
  exact cSp q
 ·have q := jJ h4 c hc
  simp only [Bool.and_eq_true] at q
  exact cXn q.1 q.2
def CLW : List Nat := [3, 12, 21, 30, 39, 48, 57, 66, 75, 84, 93, 102, 111, 120, 129, 138, 4357]
theorem cMx : giB MN RN CLW plN syN = true := by kernel_rfl
theorem cYo : aMx (fun x => Nat.blt x 16000000) plN = true := by kernel_rfl
theorem GIN : GI MN RN CLW := cZs cPr (fun x hx => by have := jJ cYo x hx; simpa [gB] using this) cMx
end Go.Dd

namespace Go.Dd
open Go.Proofs
noncomputable def cM (M : MemV) (o : Int) : Nat := match M.t.get (bX o M.pl) with
 | .ofNat hd => hd
 | .negSucc _ => 0
noncomputable def oS (M : MemV) (o : Int) (i : Nat) : Int := if bX o M.pl ≠ 0 ∧ i < cM M o / 4 then M.t.get (bX o M.pl + 3 + i) else 0
noncomputable def sD (M : MemV) (o : Int) : Int := M.t.get (bX o M.pl + 1)
noncomputable def cTb (w : Int) : Int := if cT w = true then pC w else 0
noncomputable def jB (M : MemV) (R : List Int) (x : Int) : Option Int := if cT x = true then some (pC x) else if (bX x M.pl ≠ 0 ∧ sD M x = R.getD 10 0) ∧ cM M x % 4 = 1 then some (oS M x 0) else none
section
variable {h : Hp} {M : MemV} {R : List Int} {es : List (DV × DV)} {CL : List Nat} {z : Prop}
theorem bLj {M : MemV} {o : Int} (h : bX o M.pl ≠ 0) : M.pl.get (bX o M.pl) ≠ 0 := by
 rcases lC o M.pl with e | ⟨e, _⟩
 ·exact absurd e h
 ·have := (atN_pos (o := o) (pl := M.pl)).1 h
  rw [e]
  exact this.2
theorem GI.head (I : GI M R CL z) (G : Good M) (o : Int) (k : Nat → aI) : gZ M o k = k (cM M o) := by
 by_cases e : bX o M.pl = 0
 ·have b1 : Nat.blt (Nat.add (bX o M.pl) 1) M.n = true := by
   rw [gB, e]
   have := G.lo; have := G.le
   exact decide_eq_true (show 0 + 1 < M.n by omega)
  unfold gZ cM
  rw [b1, e, I.z0]
  rfl
 ·obtain ⟨h3, hd, h1, h2, h4, _⟩ := G.ob _ (bLj e)
  have hl := G.le
  have b1 : Nat.blt (Nat.add (bX o M.pl) 1) M.n = true := by
   rw [gB]; exact decide_eq_true (show bX o M.pl + 1 < M.n by omega)
  have b2 : Nat.blt hd 1000000000000 = true := by rw [gB]; exact decide_eq_true h2
  unfold gZ cM
  rw [b1, h1]
  simp only [cond_true, b2]
theorem GI.headOb (I : GI M R CL z) (G : Good M) {o : Int} (e : bX o M.pl ≠ 0) : M.t.get (bX o M.pl) = .ofNat (cM M o) ∧ ObI M R CL (bX o M.pl) (cM M o) z ∧ bX o M.pl + 3 + cM M o / 4 ≤ M.fin ∧ 3 ≤ bX o M.pl := by
 obtain ⟨h3, hd, h1, h2, h4, _⟩ := G.ob _ (bLj e)
 have eh : cM M o = hd := by unfold cM; rw [h1]
 rw [eh]
 exact ⟨h1, I.ob _ (bLj e) _ h1, h4, h3⟩
theorem Wd.clsA (W : Wd h M R es) (G : Good M) (I : GI M R CL z) (o : Int) : iO [.p (aQ 3) 0, .i .i64 o] h = some (iD (sD M o), h) := by
 simp only [iO, iV, W.mem, I.head G, Nat.add_eq, sD]
theorem Wd.fmtA (W : Wd h M R es) (G : Good M) (I : GI M R CL z) (o : Int) : jP [.p (aQ 3) 0, .i .i64 o] h = some (.i .i64 (.ofNat (cM M o % 4)), h) := by
 simp only [jP, iV, W.mem, I.head G]
 rfl
theorem Wd.fieldsA (W : Wd h M R es) (G : Good M) (I : GI M R CL z) (o : Int) : eJ [.p (aQ 3) 0, .i .i64 o] h = some (.i .i64 (.ofNat (cM M o / 4)), h) := by
 simp only [eJ, iV, W.mem, I.head G]
 rfl
theorem Wd.getA (W : Wd h M R es) (G : Good M) (I : GI M R CL z) (o : Int) (i : Nat) : ∃ e, oZ [.p (aQ 3) 0, .i .i64 o, .i .i64 (.ofNat i)] h = some (.t [iD (oS M o i), iD e], h) ∧ (e = 0 ↔ (bX o M.pl ≠ 0 ∧ i < cM M o / 4)) := by
 unfold oS
 by_cases e : bX o M.pl = 0
 ·refine ⟨1, ?_, by simp [e]⟩
  rw [if_neg (by simp [e])]
  simp only [oZ, iV, W.mem, gS, e, err]
  rfl
 ·obtain ⟨h1, _, h4, h3⟩ := I.headOb G e
  have hl := G.le
  by_cases hi : i < cM M o / 4
  ·refine ⟨0, ?_, by simp [e, hi]⟩
   rw [if_pos ⟨e, hi⟩]
   have b1 : Nat.ble (Nat.div (cM M o) 4) i = false := by
    rw [jL]; exact decide_eq_false (show ¬ (cM M o / 4 ≤ i) by omega)
   have b2 : Nat.blt (Nat.add (Nat.add (bX o M.pl) 3) i) M.n = true := by
    rw [gB]; exact decide_eq_true (show bX o M.pl + 3 + i < M.n by omega)
   simp only [oZ, iV, W.mem, gS, bXx e, cond_false, I.head G, b1, b2, cond_true]
   rfl
  ·refine ⟨5, ?_, by simp [hi]⟩
   rw [if_neg (by simp [hi])]
   have b1 : Nat.ble (Nat.div (cM M o) 4) i = true := by
    rw [jL]; exact decide_eq_true (show cM M o / 4 ≤ i by omega)
   simp only [oZ, iV, W.mem, gS, bXx e, cond_false, I.head G, b1, cond_true, err]
   rfl
theorem Wd.getG (W : Wd h M R es) (G : Good M) (I : GI M R CL z) (o : Int) (i n : Nat) : dH (n + 1) 51 [.p (aQ 7) 0, .i .i64 o, .i .i64 (.ofNat i)] h = some (iD (oS M o i), h) := by
 rw [oL 51 rfl, cQw]
 unfold s51
 obtain ⟨e, h1, _⟩ := W.getA G I o i
 have g2 : ∀ (a b c : DV) (l : List DV), (a :: b :: c :: l).getD 2 aV = c := fun _ _ _ _ => rfl
 simp only [g0, g1, g2, gE, qA, aT, W.l00, h1, nF, nE]
theorem dPl (w : Int) (h : Hp) : jF [.i .i64 w] h = some (iD (cTb w), h) := by
 show ((bif cT w then some (DV.i .i64 (pC w), h) else some (DV.i .i64 (.ofNat 0), h)) : aI) = _
 unfold cTb
 cases cT w <;> rfl
theorem Wd.value (W : Wd h M R es) (G : Good M) (I : GI M R CL z) (x : Int) (n : Nat) : dH (n + 2) 15 [.p (aQ 7) 0, .i .i64 x] h = some (.t [iD ((jB M R x).getD 0), .b (jB M R x).isSome], h) := by
 rw [oL 15 rfl, cQf]
 unfold s15 jB
 cases hs : cT x with
 | true =>
  have e1 : ∀ h, eM [.i .i64 x] h = some (.b true, h) := fun h => by rw [eM, hs]
  have e2 : ∀ h, jF [.i .i64 x] h = some (iD (pC x), h) := fun h => by rw [dPl, cTb, hs]; rfl
  simp only [g0, g1, e1, e2, aT, bM, if_true, Option.getD_some, Option.isSome_some]
 | false =>
  have e1 : ∀ h, eM [.i .i64 x] h = some (.b false, h) := fun h => by rw [eM, hs]
  have k : dH (n + 1) 30 [.p (aQ 7) 0, .i .i64 (Int.ofNat 8)] h = some (iD (R.getD 10 0), h) := W.known (show 8 < 16 by omega) n
  simp only [Bool.false_eq_true, if_false]
  by_cases e : bX x M.pl = 0
  ·have b : (!(Nat.beq (bX x M.pl) 0)) = false := by rw [e]; rfl
   rw [if_neg (fun q => q.1.1 e)]
   simp only [g0, g1, e1, aT, bN, gE, qA, W.l00, W.is, b, lR, pT, cD]
   rfl
  ·have b : (!(Nat.beq (bX x M.pl) 0)) = true := by rw [bXx e]; rfl
   by_cases e2 : sD M x = R.getD 10 0
   ·have zz : (sD M x == R.getD 10 0) = true := by rw [e2]; exact beq_self_eq_true _
    by_cases e3 : cM M x % 4 = 1
    ·have z3 : (Int.ofNat (cM M x % 4) == Int.ofNat 1) = true := by rw [e3]; rfl
     rw [if_pos ⟨⟨e, e2⟩, e3⟩]
     simp only [g0, g1, e1, aT, bN, gE, qA, W.l00, W.is, b, kC, W.clsA G I, k, bV, zz, cB, W.fmtA G I, z3, bM, W.getG G I x 0 n, Option.getD_some, Option.isSome_some]
    ·have z3 : (Int.ofNat (cM M x % 4) == Int.ofNat 1) = false := by
      have : ¬ (Int.ofNat (cM M x % 4) = Int.ofNat 1) := fun q => e3 (Int.ofNat.inj q)
      simpa using this
     rw [if_neg (fun q => e3 q.2)]
     simp only [g0, g1, e1, aT, bN, gE, qA, W.l00, W.is, b, kC, W.clsA G I, k, bV, zz, cB, W.fmtA G I, z3, bN]
     rfl
   ·have zz : (sD M x == R.getD 10 0) = false := by simpa using e2
    rw [if_neg (fun q => e2 q.1.2)]
    simp only [g0, g1, e1, aT, bN, gE, qA, W.l00, W.is, b, kC, W.clsA G I, k, bV, zz, cB, cD, lR, pT, bN]
    rfl
end
end Go.Dd

namespace Go.Dd
open Go.Proofs
theorem pcf {rec : FuncId → List DV → Hp → aI} {g : FuncId} (hg : CF.I g = none) (a l b : List DV) (h : Hp) : cX CF rec (.f g a b) l h = rec g (a ++ l ++ b) h := by
 show bP CF rec g (a ++ l ++ b) h = _
 rw [hD hg]
section
variable {h : Hp} {M : MemV} {R : List Int} {es : List (DV × DV)}
theorem Wk.make0 (K : Wk h M R es) {cls : Int} (hc : bX cls M.pl ≠ 0) {f c : Nat} (hf : f ≤ 2) (h256 : c ≤ 256) (room : M.fin + c + 3 ≤ M.n) (hm : M.made < 899999) :
  ∃ h' M', iR [.p (aQ 3) 0, .i .i64 cls, .i .i64 (.ofNat f), .i .i64 (.ofNat c)] h = some (.t [.i .i64 (.ofNat (M.fin * 2)), .i .i64 (.ofNat 0)], h') ∧ Wk h' M' R es ∧ Up h h' ∧ Grown M M' f cls (List.replicate c 0) := by
 have h1 := K.G.le
 have h2 := K.G.lo
 have h3 := K.G.hi
 obtain ⟨h', e1, W1, U1, _⟩ := K.W.make K.G hc hf h256 room
 have t1 : ∀ j, (M.mk1 f c cls).t.get j = if M.fin + 3 ≤ j ∧ j < M.fin + 3 + c then 0 else if j = M.fin + 2 then .ofNat (M.made + 1) else if j = M.fin + 1 then cls else if j = M.fin then .ofNat (c * 4 + f) else M.t.get j := fun j => by
  show (kF _ c (M.fin + 3)).get j = _
  rw [mS _ _ _ _ (by omega), WT.get_set _ _ _ _ (by omega), WT.get_set _ _ _ _ (by omega), WT.get_set _ _ _ _ (by omega)]
 have g : Grown M (M.mk1 f c cls) f cls (List.replicate c 0) := by
  refine ⟨rfl, by rw [List.length_replicate]; rfl, rfl, rfl, ?_, ?_, fun j hj => ?_, fun i v hi => ?_⟩
  ·rw [t1, if_neg (by omega), if_neg (by omega), if_neg (by omega), if_pos rfl, List.length_replicate]
  ·rw [t1, if_neg (by omega), if_neg (by omega), if_pos rfl]
  ·rw [t1, if_neg (by omega), if_neg (by omega), if_neg (by omega), if_neg (by omega)]
  ·have hl : i < c := by
    rcases Nat.lt_or_ge i c with q | q
    ·exact q
    ·rw [List.getElem?_eq_none (by simpa using q)] at hi; cases hi
   rw [List.getElem?_replicate, if_pos hl] at hi
   cases hi
   rw [t1, if_pos (by omega)]
 exact ⟨h', _, e1, g.wk K W1 hc hf (by rw [List.length_replicate]; exact h256) (by rw [List.length_replicate]; exact room) hm, U1, g⟩
theorem bCi {M : MemV} {R : List Int} {a n : Int} (h : cT a = true) (e : pC a = n) : jB M R a = some n := by
 unfold jB
 rw [if_pos h, e]
theorem Wk.num (K : Wk h M R es) (room : M.fin + 4 ≤ M.n) (hm : M.made < 899999) (n : Int) {k : Nat} (hk : 256 < k) :
  ∃ a e h' M', dH (k + 2) 42 [.p (aQ 7) 0, .i .i64 n] h = some (.t [iD a, iD e], h') ∧ Wk h' M' R es ∧ Up h h' ∧ Stay 4 M M' R R es es ∧
   ((¬ (-1152921504606846976 ≤ n ∧ n ≤ 1152921504606846976) ∧ e = 2 ∧ a = 0) ∨ ((-1152921504606846976 ≤ n ∧ n ≤ 1152921504606846976) ∧ e = 0 ∧ jB M' R a = some n ∧ dS a M'.pl = true)) := by
 obtain ⟨a, e, h', M', e1, W', G', U', hA⟩ := K.W.number K.G K.rk room hm n hk
 cases hA with
 | out h1 h2 =>
  subst h2
  exact ⟨0, 2, h', M', e1, ⟨W', G', K.sy, K.r0, K.rk⟩, U', Stay.refl _ _ _ _, .inl ⟨h1, rfl, rfl⟩⟩
 | small a h1 h2 h3 h4 =>
  subst h4
  refine ⟨a, 0, h', M', e1, ⟨W', G', K.sy, K.r0, K.rk⟩, U', Stay.refl _ _ _ _, .inr ⟨by omega, rfl, bCi h2 h3, ?_⟩⟩
  unfold dS
  split <;> first | rfl | (rw [h2]; rfl)
 | big h1 h2 g =>
  have hc : bX (R.getD 10 0) M.pl ≠ 0 := K.rk 8 (by omega)
  have st := g.stay K.G R es (fun CL I => I.newK (i := 8) (.inr (.inr ⟨rfl, rfl⟩)) (by simp) (fun q => by cases q))
  have ha : bX (.ofNat (M.fin * 2)) M'.pl = M.fin := by rw [g.pl]; exact aGs K.G.lo (by have := K.G.le; have := K.G.hi; omega)
  have h0 := K.G.lo
  have hs : cT (.ofNat (M.fin * 2)) = false := by
   rw [iX]
   refine decide_eq_false fun q => ?_
   have q1 := q.1
   simp at q1
   try omega
  refine ⟨_, 0, h', M', e1, g.wk K W' hc (by omega) (by simp) (by simp; omega) hm, U', st, .inr ⟨h1, rfl, ?_, mA (by rw [ha]; omega)⟩⟩
  unfold jB
  have hh : cM M' (.ofNat (M.fin * 2)) = 5 := by unfold cM; rw [ha, g.hd]; rfl
  rw [if_neg (by rw [hs]; simp), if_pos ⟨⟨by rw [ha]; omega, by unfold sD; rw [ha, g.cl]⟩, by rw [hh]⟩]
  unfold oS
  rw [ha, hh, if_pos ⟨by omega, by omega⟩]
  have := g.new 0 n rfl
  rw [Nat.add_zero] at this ⊢
  all_goals rw [this]
theorem Wd.notMay (W : Wd h M R es) {b : Pos} (hb : h.bl.get b = some (.row .ex [.p (aQ 7) 0])) (v : Int) (n : Nat) : dH (n + 1) 84 [.i .i64 v, .p b 0] h = some (.b (!(dS v M.pl)), h) := by
 rw [oL 84 rfl, cQm]
 unfold s84
 have l : aA (.p b 0) h = some (.p (aQ 7) 0, h) := by simp only [aA, cellD, rowOf, hb, List.getElem?_cons_zero, DV.one, if_true]
 simp only [g0, g1, l, aT, gE, qA, W.l00, W.may, iJ]
theorem aLu {l : List Int} {p : Int → Bool} {i : Nat} {v : Int} (h : l[i]? = some v) : (l.drop i).any p = (p v || (l.drop (i + 1)).any p) := by
 have hi : i < l.length := by
  rcases Nat.lt_or_ge i l.length with q | q
  ·exact q
  ·rw [List.getElem?_eq_none q] at h; cases h
 rw [List.drop_eq_getElem_cons hi, List.any_cons]
 rw [List.getElem?_eq_getElem hi] at h
 cases h
 rfl
theorem Wd.find (W : Wd h M R es) {x : DV} {l : List Int} (S : SlI x l h) {b : Pos} (hb : h.bl.get b = some (.row .ex [.p (aQ 7) 0])) {n : Nat} (hl : l.length ≤ 256) : ∀ (k i m : Nat), k + i = l.length → k < m →
  ∃ r : Int, iL (dH (n + 1)) (n + 1) m x (.f 84 [] [.p b 0]) (iD l.length) (.i .i64 (Int.ofNat i)) h = some (iD r, h) ∧ (decide (r ≥ Int.ofNat 0) = (l.drop i).any fun v => !(dS v M.pl)) := by
 intro k
 induction k with
 | zero =>
  intro i m he hm
  obtain ⟨m, rfl⟩ : ∃ m', m = m' + 1 := ⟨m - 1, by omega⟩
  refine ⟨-1, ?_, ?_⟩
  ·show gM (dH (n + 1)) (n + 1) (iL (dH (n + 1)) (n + 1) m) _ _ _ _ h = _
   unfold gM
   have d : decide (Int.ofNat i < (l.length : Int)) = false := decide_eq_false (by simp; omega)
   simp only [cN, d, aT, bN]
   rfl
  ·rw [List.drop_eq_nil_of_le (by omega)]
   rfl
 | succ k ih =>
  intro i m he hm
  obtain ⟨m, rfl⟩ : ∃ m', m = m' + 1 := ⟨m - 1, by omega⟩
  have hi : i < l.length := by omega
  have hv : l[i]? = some l[i] := List.getElem?_eq_getElem hi
  obtain ⟨a, e1, e2⟩ := S.at hv
  obtain ⟨r, q1, q2⟩ := ih (i + 1) m (by omega) (by omega)
  have d : decide (Int.ofNat i < (l.length : Int)) = true := decide_eq_true (by simp; omega)
  have hc : cX CF (dH (n + 1)) (.f 84 [] [.p b 0]) [iD l[i]] h = some (.b (!(dS l[i] M.pl)), h) := by
   rw [pcf rfl]
   exact W.notMay hb l[i] n
  have ha : aD .add (.i .i64 (Int.ofNat i)) (.i .i64 (Int.ofNat 1)) h = some (.i .i64 (Int.ofNat (i + 1)), h) := hZ i 1 h (by omega)
  rw [aLu hv]
  cases hmay : dS l[i] M.pl with
  | false =>
   refine ⟨Int.ofNat i, ?_, by simp⟩
   show gM (dH (n + 1)) (n + 1) (iL (dH (n + 1)) (n + 1) m) _ _ _ _ h = _
   unfold gM
   rw [hmay] at hc
   simp only [cN, d, aT, bM, e1, e2, hc, Bool.not_false]
  | true =>
   refine ⟨r, ?_, by rw [q2]; rfl⟩
   show gM (dH (n + 1)) (n + 1) (iL (dH (n + 1)) (n + 1) m) _ _ _ _ h = _
   unfold gM
   rw [hmay] at hc
   simp only [cN, d, aT, bM, e1, e2, hc, Bool.not_true, bN, ha]
   exact q1
theorem Wd.contains (W : Wd h M R es) {x : DV} {l : List Int} (S : SlI x l h) {b : Pos} (hb : h.bl.get b = some (.row .ex [.p (aQ 7) 0])) (hl : l.length ≤ 256) {n : Nat} (hn : 256 < n) :
  dH (n + 3) 52 [x, .f 84 [] [.p b 0]] h = some (.b (l.any fun v => !(dS v M.pl)), h) := by
 rw [oL 52 rfl, bJk]
 unfold s52
 obtain ⟨r, q1, q2⟩ := W.find S hb (n := n) hl l.length 0 (n + 1) (by omega) (by omega)
 have e : dH (n + 2) 89 [x, .f 84 [] [.p b 0]] h = some (iD r, h) := by
  rw [oL 89 rfl, bHw]
  unfold s89 aMh aKv bAn
  simp only [g0, g1, S.len (h' := h), aT]
  exact q1
 simp only [g0, g1, e, aT, lB, q2, List.drop_zero]
end
end Go.Dd

namespace Go.Dd
open Go.Proofs
theorem cAg (b : Pos) (o : Nat) (h : Hp) : bG (some (.p b o, h)) (.p b o) = true := by
 unfold bG
 simp [DV.beq]
section
variable {h : Hp} {M : MemV} {R : List Int} {es : List (DV × DV)}
theorem Wk.array (K : Wk h M R es) {x : DV} {l : List Int} (S : SlI x l h) (h256 : l.length ≤ 256) (room : M.fin + l.length + 3 ≤ M.n) (hm : M.made < 899999) {n : Nat} (hn : 256 < n) :
  ∃ a e h' M', dH (n + 4) 46 [.p (aQ 7) 0, x] h = some (.t [iD a, iD e], h') ∧ Wk h' M' R es ∧ Up h h' ∧
   ((¬ (l.length ≤ 250 ∧ ∀ v ∈ l, dS v M.pl = true) ∧ e = 1 ∧ a = 0 ∧ M' = M) ∨ ((l.length ≤ 250 ∧ ∀ v ∈ l, dS v M.pl = true) ∧ e = 0 ∧ a = .ofNat (M.fin * 2) ∧ Grown M M' 0 (R.getD 11 0) l)) := by
 rw [oL 46 rfl, cQh]
 unfold s46
 obtain ⟨U1, W1⟩ := K.W.new (.row .ex [.p (aQ 7) 0])
 obtain ⟨h1, hh1⟩ : ∃ h1 : Hp, (⟨h.next.succ, Tr.set (.row .ex [.p (aQ 7) 0]) h.next h.bl⟩ : Hp) = h1 := ⟨_, rfl⟩
 rw [hh1] at U1 W1
 have eb : bR (.p (aQ 7) 0) h = some (.p h.next 0, h1) := by rw [← hh1]; rfl
 have hb : h1.bl.get h.next = some (.row .ex [.p (aQ 7) 0]) := by rw [← hh1]; exact dPo _ _ _
 have S1 := S.up U1
 have K1 : Wk h1 M R es := ⟨W1, K.G, K.sy, K.r0, K.rk⟩
 have ld : aA (.p h.next 0) h1 = some (.p (aQ 7) 0, h1) := by simp only [aA, cellD, rowOf, hb, List.getElem?_cons_zero, DV.one, if_true]
 have el : ∀ h, bZ x h = some (iD l.length, h) := fun h => S.len
 by_cases c1 : l.length > 250
 ·have d1 : decide ((l.length : Int) > Int.ofNat 250) = true := decide_eq_true (by simp; omega)
  refine ⟨0, 1, h1, M, ?_, K1, U1, .inl ⟨fun q => by omega, rfl, rfl, rfl⟩⟩
  simp only [g0, g1, eb, aT, el, fM, d1, eN, cB, bM]
  rfl
 ·have d1 : decide ((l.length : Int) > Int.ofNat 250) = false := decide_eq_false (by simp; omega)
  have hc := W1.contains S1 hb h256 hn
  cases ha : l.any (fun v => !(dS v M.pl)) with
  | true =>
   rw [ha] at hc
   refine ⟨0, 1, h1, M, ?_, K1, U1, .inl ⟨fun q => ?_, rfl, rfl, rfl⟩⟩
   ·simp only [g0, g1, eb, aT, el, fM, d1, fY, hc, cD, bM]
    rfl
   ·obtain ⟨v, hv, hv2⟩ := List.any_eq_true.1 ha
    rw [q.2 v hv] at hv2
    cases hv2
  | false =>
   rw [ha] at hc
   have hall : ∀ v ∈ l, dS v M.pl = true := fun v hv => by
    cases hq : dS v M.pl with
    | true => rfl
    | false =>
     have : l.any (fun v => !(dS v M.pl)) = true := List.any_eq_true.2 ⟨v, hv, by rw [hq]; rfl⟩
     rw [this] at ha
     cases ha
   have hk : M.fin < 16000000 := by have := K.G.le; have := K.G.hi; omega
   obtain ⟨h2, M2, e2, W2, U2, _, g2⟩ := W1.make61 K.G (K.rk 9 (by omega)) (f := 0) (by omega) S1 (by omega) (by omega) (fun v hv => tF hk (hall v hv)) (n := n + 2) (by omega)
   have kn : dH (n + 3) 30 [.p (aQ 7) 0, .i .i64 (Int.ofNat 9)] h1 = some (iD (R.getD 11 0), h1) := W1.known (show 9 < 16 by omega) (n + 2)
   refine ⟨.ofNat (M.fin * 2), 0, h2, M2, ?_, g2.wk K1 W2 (K.rk 9 (by omega)) (by omega) (by omega) (by omega) hm, U1.trans U2, .inr ⟨⟨by omega, hall⟩, rfl, rfl, g2⟩⟩
   simp only [g0, g1, eb, aT, el, fM, d1, fY, hc, cD, bN, ld, kn, cAg, Bool.and_self, cond_true]
   rw [show (2 + 9 : Nat) = 11 from rfl] at e2
   show cnd true _ = _
   simp only [cnd, e2, aT, nF, nE]
   rfl
end
end Go.Dd

namespace Go.Dd
open Go.Proofs
def Wc (h : Hp) (cs : List (DV × DV)) : Prop := h.bl.get (aQ 6) = some (.mp cs)
noncomputable def bBn (cs : List (DV × DV)) (s : List Nat) : Int := match dI .string (.s s) cs with
 | some (some (.i .i64 v)) => v
 | _ => 0
section
variable {h : Hp} {M : MemV} {R : List Int} {es cs : List (DV × DV)} {CL : List Nat} {z : Prop}
theorem Wc.up {h' : Hp} (c : Wc h cs) (W : Wd h M R es) (u : Up h h') : Wc h' cs := by
 unfold Wc
 rw [u.get (aQ 6) (.inr (by rw [pn6]; exact Nat.le_refl _)) (by have := W.nx; rw [pn6]; omega)]
 exact c
theorem Wd.classOfName (W : Wd h M R es) (c : Wc h cs) (hcs : ∀ e ∈ cs, ∃ (k : List Nat) (x : Int), e = (.s k, iD x)) (s : List Nat) (n : Nat) : dH (n + 1) 45 [.p (aQ 7) 0, .s s] h = some (iD (bBn cs s), h) := by
 rw [oL 45 rfl, cPm]
 unfold s45
 have l3 : aA (.p (aQ 7) (0 + 3)) h = some (.m (aQ 6), h) := by
  simp only [aA, cellD, rowOf, W.w, Nat.zero_add, List.getElem?_cons_succ, List.getElem?_cons_zero, DV.one, if_true]
 have lk : dM .string (.i .i64 (Int.ofNat 0)) false (.m (aQ 6)) (.s s) h = some (iD (bBn cs s), h) := by
  have hc : h.bl.get (aQ 6) = some (.mp cs) := c
  unfold bBn
  rcases bAy s hcs with ⟨x, f1, f2⟩ | ⟨f1, f2⟩
  ·simp only [dM, fP, hc, f1, cond_false]
  ·simp only [dM, fP, hc, f1, cond_false]
   rfl
 simp only [g0, g1, gE, qA, aT, l3, lk]
end
end Go.Dd

namespace Go.Dd
open Go.Proofs
structure Wv (k : Nat) (h : Hp) (M : MemV) (R : List Int) (es : List (DV × DV)) (z : Prop := True) : Prop where
 K : Wk h M R es
 I : GI M R CLW z
 c : Wc h csW
 n : M.n = 30000
 fin : M.fin + k ≤ 30000
 md : M.made + k ≤ 700000
theorem Stay.mono {a b : Nat} {M M' : MemV} {R R' : List Int} {es es' : List (DV × DV)} (h : Stay a M M' R R' es es') (hab : a ≤ b) : Stay b M M' R R' es es' :=
 ⟨h.n, Nat.le_trans h.fin (by omega), Nat.le_trans h.made (by omega), h.lo, h.tx, h.at', h.r, h.fd, h.gi, h.old⟩
section
variable {h h' : Hp} {M M' : MemV} {R R' : List Int} {es es' : List (DV × DV)} {z : Prop}
theorem Wv.stay {k j : Nat} (V : Wv (j + k) h M R es) (K' : Wk h' M' R' es') (u : Up h h') (S : Stay j M M' R R' es es') : Wv k h' M' R' es' := by
 have h1 := S.n
 have h2 := S.fin
 have h3 := S.made
 have h4 := V.n
 have h5 := V.fin
 have h6 := V.md
 exact ⟨K', S.gi _ V.I, V.c.up V.K.W u, by omega, by omega, by omega⟩
theorem Wv.less {k j : Nat} (V : Wv j h M R es z) (hk : k ≤ j) : Wv k h M R es z := ⟨V.K, V.I, V.c, V.n, by have := V.fin; omega, by have := V.md; omega⟩
theorem Wk.up (K : Wk h M R es) (W' : Wd h' M R es) : Wk h' M R es := ⟨W', K.G, K.sy, K.r0, K.rk⟩
theorem Wv.up {k : Nat} (V : Wv k h M R es z) (W' : Wd h' M R es) (u : Up h h') : Wv k h' M R es z := ⟨V.K.up W', V.I, V.c.up V.K.W u, V.n, V.fin, V.md⟩
theorem Wv.new {k : Nat} (V : Wv k h M R es z) (o : Ob) : Up h ⟨h.next.succ, Tr.set o h.next h.bl⟩ ∧ Wv k ⟨h.next.succ, Tr.set o h.next h.bl⟩ M R es z := by
 obtain ⟨u, W⟩ := V.K.W.new o
 exact ⟨u, V.up W u⟩
theorem cZy : ∀ e ∈ csW, ∃ (k : List Nat) (x : Int), e = (.s k, iD x) := fun e he => by
 obtain ⟨x, _, h2⟩ := vB (clF ++ clW) e he
 exact ⟨x.1, _, h2⟩
theorem dDu : bBn csW [80, 111, 105, 110, 116] = 8714 := by kernel_rfl
theorem Wv.point {k : Nat} (V : Wv k h M R es z) (n : Nat) : dH (n + 1) 45 [.p (aQ 7) 0, .s [80, 111, 105, 110, 116]] h = some (iD 8714, h) := by
 rw [V.K.W.classOfName V.c cZy, dDu]
theorem cLg : iF 8714 = 4357 := by kernel_rfl
theorem Wv.ptAt {k : Nat} (V : Wv k h M R es z) : bX 8714 M.pl ≠ 0 := by
 rw [atN_pos, cLg]
 exact ⟨by decide, (V.I.cl 4357 (by decide)).pl⟩
theorem Wv.ptNew {k : Nat} (V : Wv k h M R es) : ∀ CL, GI M R CL → NewI M R CL 0 8714 (List.replicate 2 0) := fun CL I => by
 have r3 := I.rk 1 (by omega)
 have r12 := I.rk 10 (by omega)
 have r13 := I.rk 11 (by omega)
 refine ⟨by decide, by omega, fun _ => rfl, fun q => ?_, fun q => (by cases q), fun q => ?_, fun c hc _ _ => ⟨rfl, fun v hv => List.eq_of_mem_replicate hv⟩⟩
 ·rcases q with q | q
  ·rw [r12] at q; cases q
  ·rw [r13] at q; cases q
 ·rw [r3] at q; cases q
end
end Go.Dd

namespace Go.Dd
open Go.Proofs
theorem nB {a b : Int} (h : a ≠ b) : (a == b) = false := by simpa using h
theorem aMz (a : Int) (h : Hp) : aD .rem (.i .i64 a) (.i .i64 (Int.ofNat 10)) h = some (.i .i64 (a.tmod 10), h) := by simp only [aD, if_true, fD]; rfl
theorem cKj (a b : Int) (h : Hp) (hr : -9223372036854775808 ≤ a * b ∧ a * b ≤ 9223372036854775807) : aD .mul (.i .i64 a) (.i .i64 b) h = some (.i .i64 (a * b), h) := by simp only [aD, if_true, fD, gU _ hr]
theorem cOl (a : Nat) (ha : a < 1000) (h : Hp) : aD .quo (.i .i64 (a : Int)) (.i .i64 (Int.ofNat 2)) h = some (.i .i64 (Int.ofNat (a / 2)), h) := by
 have e : (a : Int).tdiv (Int.ofNat 2) = Int.ofNat (a / 2) := rfl
 simp only [aD, if_true, fD, e]
 rw [if_neg (by decide), gU _ (by simp; omega)]
theorem bYw (s : List Nat) (k : Nat) (hk : k ≤ s.length) (h : Hp) : fH (.s s) none (some (.i .i64 (Int.ofNat k))) h = some (.s (s.take k), h) := by
 have e : hiD (some (.i .i64 (Int.ofNat k))) s.length s.length = some k := by
  show (if (0 : Int) ≤ Int.ofNat k ∧ Int.ofNat k ≤ (s.length : Int) then some (Int.ofNat k).toNat else none) = _
  rw [if_pos ⟨by simp, by simpa using hk⟩]
  rfl
 simp only [fH, e]
 rfl
theorem cYt (l : List Int) : ∀ v ∈ l.map iD, v.one = true := by
 intro v hv
 obtain ⟨c, _, rfl⟩ := List.mem_map.1 hv
 rfl
theorem dBe {x : DV} {l : List Int} {lo : Nat} {h : Hp} (hlo : 1031 ≤ lo) (S : GrS x (l.map iD) lo h) : SlI x l h := by
 rcases S with ⟨rfl, e⟩ | ⟨b, e, hb, h2, h3⟩
 ·refine .inl ⟨rfl, ?_⟩
  simpa using e
 ·exact .inr ⟨b, l.length, .gr 1, by rw [e]; simp, hb, .inr (by omega), h3⟩
theorem aLy {rec : FuncId → List DV → Hp → aI} {n lo : Nat} {x0 : DV} {N : Int} {c : Nat} (hN : N.tmod 10 = Int.ofNat c) (hc : c ≤ 9) : ∀ (r m : Nat) (l : List Int) (x : DV) (h : Hp), GrS x (l.map iD) lo h → lo ≤ h.next.toNat → l.length + r = c → r < m →
  ∃ (x' : DV) (h' : Hp) (l' : List Int), kT rec n m x0 (iD N) x (.i .i64 (Int.ofNat l.length)) h = dR rec n x0 x' h' ∧ GrS x' (l'.map iD) lo h' ∧ Lo lo h h' ∧ l'.length = c
 | 0, m + 1, l, x, h, S, hlo, he, hm => by
  refine ⟨x, h, l, ?_, S, Lo.refl lo h, by omega⟩
  show kV rec n (kT rec n m) _ _ _ _ h = _
  unfold kV
  have hl : decide (Int.ofNat l.length < Int.ofNat c) = false := by simp; omega
  simp only [iD, aMz, hN, cN, aT, hl, bN]
 | r + 1, m + 1, l, x, h, S, hlo, he, hm => by
  obtain ⟨y, g, e1, x', h', e2, S', L'⟩ := S.app hlo (cYt l) (z := .i .i64 (Int.ofNat 0)) (v := iD (Int.ofNat 2 * Int.ofNat l.length + Int.ofNat 1)) rfl rfl (bytes := 8) (by simp; unfold lU; omega)
  have S2 : GrS x' ((l ++ [Int.ofNat 2 * Int.ofNat l.length + Int.ofNat 1]).map iD) lo h' := by rw [List.map_append]; exact S'
  obtain ⟨x2, h2, l2, e3, S3, L3, hl3⟩ := aLy (rec := rec) (n := n) (x0 := x0) hN hc r m (l ++ [Int.ofNat 2 * Int.ofNat l.length + Int.ofNat 1]) x' h' S2 (Nat.le_trans hlo L'.next) (by simp; omega) (by omega)
  refine ⟨x2, h2, l2, ?_, S3, L'.trans L3, hl3⟩
  rw [← e3]
  show kV rec n (kT rec n m) _ _ _ _ h = _
  unfold kV
  have hl1 : decide (Int.ofNat l.length < Int.ofNat c) = true := by simp; omega
  have hadd : aD .add (.i .i64 (Int.ofNat l.length)) (.i .i64 (Int.ofNat 1)) h' = some (.i .i64 (Int.ofNat (l ++ [Int.ofNat 2 * Int.ofNat l.length + Int.ofNat 1]).length), h') := by
   rw [jK _ _ _ (by simp; omega)]
   simp
  simp only [iD] at e1 e2 ⊢
  simp only [aMz, hN, cN, aT, hl1, bM, cKj (Int.ofNat 2) (Int.ofNat l.length) h (by simp; omega), jK (Int.ofNat 2 * Int.ofNat l.length) (Int.ofNat 1) h (by simp; omega), e1, e2, hadd]
section
variable {h : Hp} {M : MemV} {R : List Int} {es : List (DV × DV)}
noncomputable def knW (R : List Int) (i : Int) : Int := if 0 ≤ i ∧ i < 16 then R.getD (2 + i.toNat) 0 else 0
theorem Wd.knownA (W : Wd h M R es) (i : Int) (n : Nat) : dH (n + 1) 30 [.p (aQ 7) 0, .i .i64 i] h = some (iD (knW R i), h) := by
 unfold knW
 by_cases hi : 0 ≤ i ∧ i < 16
 ·rw [if_pos hi]
  obtain ⟨j, rfl⟩ : ∃ j : Nat, i = Int.ofNat j := ⟨i.toNat, by simp; omega⟩
  exact W.known (by simp at hi; omega) n
 ·rw [if_neg hi, oL 30 rfl, bOv]
  unfold s30
  by_cases h1 : i < 0
  ·have d1 : decide (i < Int.ofNat 0) = true := decide_eq_true (by simpa using h1)
   simp only [g0, g1, cN, d1, aT, eN, cB, bM]
   rfl
  ·have d1 : decide (i < Int.ofNat 0) = false := decide_eq_false (by simpa using h1)
   have d2 : decide (i ≥ Int.ofNat 16) = true := decide_eq_true (by simp; omega)
   simp only [g0, g1, cN, d1, aT, fY, lB, d2, cD, bM]
   rfl
def MadeP (k : Nat) (h : Hp) (M : MemV) (R : List Int) (es : List (DV × DV)) (r : aI) : Prop :=
 ∃ v h' M' R' es', r = some (iD v, h') ∧ Wv k h' M' R' es' ∧ Up h h' ∧ Stay 260 M M' R R' es es'
theorem MadeP.same {k : Nat} (V : Wv (260 + k) h M R es) (v : Int) : MadeP k h M R es (some (iD v, h)) :=
 ⟨v, h, M, R, es, rfl, V.less (by omega), Up.refl h, Stay.refl _ _ _ _⟩
theorem bRa {k : Nat} (V : Wv (260 + k) h M R es) (n : Int) {m : Nat} (hm : 300 < m) : ∃ a e h' M', dH (m + 2) 42 [.p (aQ 7) 0, .i .i64 n] h = some (.t [iD a, iD e], h') ∧ Wv k h' M' R es ∧ Up h h' ∧ Stay 260 M M' R R es es := by
 have h4 := V.n
 have h5 := V.fin
 have h6 := V.md
 obtain ⟨a, e, h', M', e1, K', U, S, _⟩ := V.K.num (by omega) (by omega) n (k := m) (by omega)
 exact ⟨a, e, h', M', e1, V.stay K' U (S.mono (by omega)), U, S.mono (by omega)⟩
theorem bXv {k : Nat} (V : Wv (260 + k) h M R es) {s : List Nat} (hs : ∀ c ∈ s, c < 256) {m : Nat} (hm : 300 < m) : ∃ a e h' M', dH (m + 3) 43 [.p (aQ 7) 0, .s s] h = some (.t [iD a, iD e], h') ∧ Wv k h' M' R es ∧ Up h h' ∧ Stay 260 M M' R R es es := by
 have h4 := V.n
 have h5 := V.fin
 have h6 := V.md
 obtain ⟨a, e, h', M', e1, K', U, S, _⟩ := V.K.string hs (by omega) (by omega) (n := m) hm
 exact ⟨a, e, h', M', e1, V.stay K' U S, U, S⟩
theorem bPi {k : Nat} (V : Wv (260 + k) h M R es) {s : List Nat} (hs : ∀ c ∈ s, c < 256) {m : Nat} (hm : 300 < m) : ∃ a e h' M' R' es', dH (m + 3) 44 [.p (aQ 7) 0, .s s] h = some (.t [iD a, iD e], h') ∧ Wv k h' M' R' es' ∧ Up h h' ∧ Stay 260 M M' R R' es es' := by
 have h4 := V.n
 have h5 := V.fin
 have h6 := V.md
 obtain ⟨a, e, h', M', R', es', e1, K', U, S, _⟩ := V.K.symbol hs (by omega) (by omega) (n := m) hm
 exact ⟨a, e, h', M', R', es', e1, V.stay K' U (S.mono (by omega)), U, S.mono (by omega)⟩
theorem bMl {k : Nat} (V : Wv (260 + k) h M R es) {x : DV} {l : List Int} (S : SlI x l h) (hl : l.length ≤ 9) {m : Nat} (hm : 300 < m) : ∃ a e h' M', dH (m + 4) 46 [.p (aQ 7) 0, x] h = some (.t [iD a, iD e], h') ∧ Wv k h' M' R es ∧ Up h h' ∧ Stay 260 M M' R R es es := by
 have h4 := V.n
 have h5 := V.fin
 have h6 := V.md
 obtain ⟨a, e, h', M', e1, K', U, A⟩ := V.K.array S (by omega) (by omega) (by omega) (n := m) (by omega)
 have S' : Stay 260 M M' R R es es := by
  rcases A with ⟨_, _, _, rfl⟩ | ⟨_, _, _, g⟩
  ·exact Stay.refl _ _ _ _
  ·exact (g.stay V.K.G R es fun CL I => I.newK (i := 9) (.inl ⟨rfl, rfl⟩) (by omega) (fun q => by cases q)).mono (by omega)
 exact ⟨a, e, h', M', e1, V.stay K' U S', U, S'⟩
theorem cKu {k : Nat} (V : Wv (260 + k) h M R es) : ∃ a e h' M', iR [.p (aQ 3) 0, iD 8714, .i .i64 (.ofNat 0), .i .i64 (.ofNat 2)] h = some (.t [iD a, iD e], h') ∧ Wv k h' M' R es ∧ Up h h' ∧ Stay 260 M M' R R es es := by
 have h4 := V.n
 have h5 := V.fin
 have h6 := V.md
 obtain ⟨h', M', e1, K', U, g⟩ := V.K.make0 V.ptAt (f := 0) (c := 2) (by omega) (by omega) (by omega) (by omega)
 have S' : Stay 260 M M' R R es es := (g.stay V.K.G R es V.ptNew).mono (by simp)
 exact ⟨_, _, h', M', e1, V.stay K' U S', U, S'⟩
end
end Go.Dd

namespace Go.Dd
open Go.Proofs
section
variable {h : Hp} {M : MemV} {R : List Int} {es : List (DV × DV)} {k m : Nat} {b : Pos} {kd N : Int} {s0 s : List Nat}
theorem jA {b : Pos} {kd : Kind} {l : List DV} {h : Hp} (hb : h.bl.get b = some (.row kd l)) {i : Nat} {v : DV} (hi : l[i]? = some v) (hv : v.one = true) : aA (.p b i) h = some (v, h) := by
 simp only [aA, cellD, rowOf, hb, hi, hv, if_true]
def Tg (h : Hp) (b : Pos) (kd N : Int) (s : List Nat) : Prop := h.bl.get b = some (.row .ex [iD kd, iD N, .s s])
theorem Tg.l0 (T : Tg h b kd N s) : aA (.p b (0 + 0)) h = some (iD kd, h) := jA (i := 0 + 0) T rfl rfl
theorem Tg.l1 (T : Tg h b kd N s) : aA (.p b (0 + 1)) h = some (iD N, h) := jA (i := 0 + 1) T rfl rfl
theorem Tg.l2 (T : Tg h b kd N s) : aA (.p b (0 + 2)) h = some (.s s, h) := jA (i := 0 + 2) T rfl rfl
theorem dOe (a b : List Nat) (h : Hp) (hl : a.length + b.length < 100000) : fO .add (.s a) (.s b) h = some (.s (a ++ b), h) := by
 have : ¬ ((a.length + b.length : Nat) : Int) > IntKind.i64.max := by
  show ¬ ((a.length + b.length : Nat) : Int) > 9223372036854775807
  omega
 simp only [fO, aTx, if_neg this]
theorem cBl (V : Wv (260 + k) h M R es) (hs : ∀ c ∈ s, c < 256) (hl : s.length ≤ 250) (hm : 300 < m) : MadeP k h M R es (aIx (dH (m + 5)) (m + 5) (.p (aQ 7) 0) (.s s) h) := by
 have fin : ∀ t : List Nat, (∀ c ∈ t, c < 256) → t.length ≤ 250 → MadeP k h M R es (qO (dH (m + 5)) (m + 5) (.p (aQ 7) 0) (.s t) h) := fun t ht hlt => by
  obtain ⟨a, e, h', M', R', es', e1, V', U, S⟩ := bPi V (s := [115] ++ t.take (t.length / 2)) (fun c hc => by
   simp only [List.mem_append, List.mem_singleton] at hc
   rcases hc with rfl | hc
   ·decide
   ·exact ht c (List.mem_of_mem_take hc)) (m := m + 2) (by omega)
  refine ⟨a, h', M', R', es', ?_, V', U, S⟩
  unfold qO
  simp only [cCo, aT, cOl t.length (by omega) h, bYw t (t.length / 2) (by omega) h, dOe [115] (t.take (t.length / 2)) h (by rw [List.length_take]; simp; omega), e1, nF, nE]
 unfold aIx
 by_cases c1 : (s.length : Int) > Int.ofNat 60
 ·simp only [cCo, aT, fM, decide_eq_true c1, bM, bYw s 60 (by simp at c1; omega) h]
  exact fin _ (fun c hc => hs c (List.mem_of_mem_take hc)) (by rw [List.length_take]; omega)
 ·simp only [cCo, aT, fM, decide_eq_false c1, bN]
  exact fin _ hs hl
theorem cCg (V : Wv (260 + k) h M R es) (T : Tg h b kd N s) (hN : -9223372036854775808 ≤ N ∧ N ≤ 9223372036854775807) (hm : 300 < m) : MadeP k h M R es (aGp (dH (m + 5)) (m + 5) (.p (aQ 7) 0) (.p b 0) h) := by
 have fin : ∀ n : Int, 0 ≤ n → MadeP k h M R es (rK (dH (m + 5)) (m + 5) (.p (aQ 7) 0) (iD n) h) := fun n hn => by
  obtain ⟨j, rfl⟩ : ∃ j : Nat, n = Int.ofNat j := ⟨n.toNat, by simp; omega⟩
  have nx := V.K.W.nx
  obtain ⟨x', h1, l', e1, S1, L1, hl1⟩ := aLy (rec := dH (m + 5)) (n := m + 5) (lo := h.next.toNat) (x0 := .p (aQ 7) 0) (N := Int.ofNat j) (c := j % 10) rfl (by omega) (j % 10) (m + 5) [] .l0 h (.inl ⟨rfl, rfl⟩) (Nat.le_refl _) (by simp) (by omega)
  have V1 := V.up (V.K.W.lo L1) L1.up
  obtain ⟨a, e, h', M', e2, V', U, S⟩ := bMl V1 (dBe nx S1) (by omega) (m := m + 1) (by omega)
  refine ⟨a, h', M', R, es, ?_, V', L1.up.trans U, S⟩
  unfold rK aCh aHg aTt
  refine Eq.trans e1 ?_
  unfold dR
  simp only [e2, aT, nF, nE]
 unfold aGp aGi
 simp only [qA, T.l1, aT]
 by_cases c1 : N < Int.ofNat 0
 ·have c2 : N < 0 := c1
  have en : ∀ h, gX .neg (.i .i64 (N + Int.ofNat 1)) h = some (.i .i64 (-(N + Int.ofNat 1)), h) := fun h => by
   have : IntKind.i64.wrap (0 - (N + Int.ofNat 1)) = 0 - (N + Int.ofNat 1) := gU _ (by simp; omega)
   simp only [gX, this]
   rw [Int.zero_sub]
  simp only [iD, cN, decide_eq_true c1, aT, bM, jK N (Int.ofNat 1) h (by simp; omega), en]
  exact fin _ (by simp; omega)
 ·have c2 : ¬ N < 0 := c1
  simp only [iD, cN, decide_eq_false c1, aT, bN]
  exact fin _ (by omega)
theorem cQp (V : Wv (260 + k) h M R es) (T : Tg h b kd N s0) (hN : -9223372036854775808 ≤ N ∧ N ≤ 9223372036854775807) (hs : ∀ c ∈ s, c < 256) (hl : s.length ≤ 250) (hm : 300 < m) :
  MadeP k h M R es (zU (dH (m + 5)) (m + 5) (.p (aQ 7) 0) (.p b 0) (.s s) h) := by
 unfold zU aWt
 simp only [qA, T.l0, aT]
 by_cases c0 : kd = 0
 ·subst c0
  obtain ⟨a, e, h', M', e1, V', U, S⟩ := bRa V N (m := m + 3) (by omega)
  refine ⟨a, h', M', R, es, ?_, V', U, S⟩
  unfold aLe
  simp only [iD, bV, beq_self_eq_true, aT, bM, show ((0 : Int) == Int.ofNat 0) = true from rfl, qA]
  rw [T.l1]
  simp only [aT]
  rw [e1]
  simp only [aT, nF, nE, iD]
 have d0 : (kd == Int.ofNat 0) = false := nB c0
 unfold aLe bMc
 by_cases c1 : kd = 1
 ·subst c1
  obtain ⟨a, e, h', M', e1, V', U, S⟩ := bXv V hs (m := m + 2) (by omega)
  refine ⟨a, h', M', R, es, ?_, V', U, S⟩
  unfold aLx
  simp only [iD, bV, aT, bN, bM, d0, show ((1 : Int) == Int.ofNat 1) = true from rfl]
  rw [e1]
  simp only [aT, nF, nE, iD]
 have d1 : (kd == Int.ofNat 1) = false := nB c1
 unfold aLx bTj
 by_cases c2 : kd = 2
 ·subst c2
  have := cBl V hs hl hm
  unfold yE
  simp only [iD, bV, aT, bN, bM, d0, d1, show ((2 : Int) == Int.ofNat 2) = true from rfl]
  exact this
 have d2 : (kd == Int.ofNat 2) = false := nB c2
 unfold yE aUa
 by_cases c3 : kd = 3
 ·subst c3
  have := cCg V T hN hm
  unfold xU
  simp only [iD, bV, aT, bN, bM, d0, d1, d2, show ((3 : Int) == Int.ofNat 3) = true from rfl]
  exact this
 have d3 : (kd == Int.ofNat 3) = false := nB c3
 unfold xU
 by_cases c4 : kd = 4
 ·subst c4
  obtain ⟨a, e, h', M', e1, V', U, S⟩ := cKu V
  refine ⟨a, h', M', R, es, ?_, V', U, S⟩
  have em := V.K.W.memory (m + 4)
  have ep := V.point (m + 4)
  simp only [iD, bV, aT, bN, bM, d0, d1, d2, d3, show ((4 : Int) == Int.ofNat 4) = true from rfl, em]
  rw [ep]
  simp only [aT]
  rw [e1]
  simp only [aT, nF, nE, iD]
 have d4 : (kd == Int.ofNat 4) = false := nB c4
 by_cases c5 : kd = 5
 ·subst c5
  have ep := V.point (m + 4)
  by_cases c16 : N = 16
  ·subst c16
   have : MadeP k h M R es (some (iD 8714, h)) := .same V _
   simp only [iD, bV, aT, bN, bM, d0, d1, d2, d3, d4, show ((5 : Int) == Int.ofNat 5) = true from rfl, qA]
   rw [T.l1]
   simp only [iD, bV, aT, bN, bM, show ((16 : Int) == Int.ofNat 16) = true from rfl]
   rw [ep]
   exact this
  ·have : MadeP k h M R es (some (iD (knW R N), h)) := .same V _
   have ek := V.K.W.knownA N (m + 4)
   simp only [iD, bV, aT, bN, bM, d0, d1, d2, d3, d4, show ((5 : Int) == Int.ofNat 5) = true from rfl, qA]
   have t1 : aA (.p b (0 + 1)) h = some (.i .i64 N, h) := T.l1
   simp only [t1, iD, bV, aT, bN, bM, show (N == Int.ofNat 16) = false from nB c16]
   rw [ek]
   exact this
 have d5 : (kd == Int.ofNat 5) = false := nB c5
 have t1 : aA (.p b (0 + 1)) h = some (.i .i64 N, h) := T.l1
 by_cases c6 : kd = 6
 ·subst c6
  simp only [iD, bV, aT, bN, bM, d0, d1, d2, d3, d4, d5, show ((6 : Int) == Int.ofNat 6) = true from rfl]
  exact .same V _
 have d6 : (kd == Int.ofNat 6) = false := nB c6
 by_cases c7 : kd = 7
 ·subst c7
  simp only [iD, bV, aT, bN, bM, d0, d1, d2, d3, d4, d5, d6, show ((7 : Int) == Int.ofNat 7) = true from rfl]
  exact .same V _
 have d7 : (kd == Int.ofNat 7) = false := nB c7
 by_cases c8 : kd = 8
 ·subst c8
  simp only [iD, bV, aT, bN, bM, d0, d1, d2, d3, d4, d5, d6, d7, show ((8 : Int) == Int.ofNat 8) = true from rfl]
  exact .same V _
 have d8 : (kd == Int.ofNat 8) = false := nB c8
 unfold aW
 simp only [iD, bV, aT, bN, bM, d0, d1, d2, d3, d4, d5, d6, d7, d8, qA, t1]
 exact .same V _
theorem bBh (V : Wv (260 + k) h M R es) (kd : Int) (hN : -9223372036854775808 ≤ N ∧ N ≤ 9223372036854775807) (hs : ∀ c ∈ s, c < 256) (hm : 300 < m) :
  MadeP k h M R es (dH (m + 6) 14 [.p (aQ 7) 0, .a [iD kd, iD N, .s s]] h) := by
 obtain ⟨U1, V1⟩ := V.new (.row .ex [iD kd, iD N, .s s])
 obtain ⟨h1, hh1⟩ : ∃ h1 : Hp, (⟨h.next.succ, Tr.set (.row .ex [iD kd, iD N, .s s]) h.next h.bl⟩ : Hp) = h1 := ⟨_, rfl⟩
 rw [hh1] at U1 V1
 have eb : bR (.a [iD kd, iD N, .s s]) h = some (.p h.next 0, h1) := by rw [← hh1]; rfl
 have T : Tg h1 h.next kd N s := by rw [← hh1]; exact dPo _ _ _
 have up : ∀ r, MadeP k h1 M R es r → MadeP k h M R es r := fun r ⟨v, h', M', R', es', e, V', U, S⟩ => ⟨v, h', M', R', es', e, V', U1.trans U, S⟩
 rw [oL 14 rfl, cQn]
 unfold s14 aAd aXx
 simp only [g0, g1, eb, aT, qA, T.l2, cCo, fM]
 apply up
 by_cases c1 : (s.length : Int) > Int.ofNat 250
 ·simp only [decide_eq_true c1, bM, bYw s 250 (by simp at c1; omega) h1, aT]
  exact cQp V1 T hN (fun c hc => hs c (List.mem_of_mem_take hc)) (by rw [List.length_take]; omega) hm
 ·simp only [decide_eq_false c1, bN]
  exact cQp V1 T hN hs (by simp at c1; omega) hm
end
end Go.Dd

namespace Go.Dd
open Go.Proofs
def xP (n : Int) : Int :=
 if n = 11 ∨ n = 22 ∨ n = 23 ∨ n = 40 ∨ n = 41 then 0
 else if n = 1 ∨ n = 2 ∨ n = 3 ∨ n = 4 ∨ n = 5 ∨ n = 6 ∨ n = 7 ∨ n = 10 ∨ n = 20 ∨ n = 24 ∨ n = 25 ∨ n = 26 ∨ n = 50 then 1
 else if n = 21 ∨ n = 51 then 2 else -1
theorem cJe (n : Int) (m : Nat) (h : Hp) : dH (m + 1) 39 [iD n] h = some (iD (xP n), h) := by
 rw [oL 39 rfl, cQg]
 by_cases q : n = 11 ∨ n = 22 ∨ n = 23 ∨ n = 40 ∨ n = 41 ∨ n = 1 ∨ n = 2 ∨ n = 3 ∨ n = 4 ∨ n = 5 ∨ n = 6 ∨ n = 7 ∨ n = 10 ∨ n = 20 ∨ n = 24 ∨ n = 25 ∨ n = 26 ∨ n = 50 ∨ n = 21 ∨ n = 51
 ·rcases q with q | q | q | q | q | q | q | q | q | q | q | q | q | q | q | q | q | q | q | q <;> subst q <;> rfl
 ·have e : xP n = -1 := by
   unfold xP
   rw [if_neg (by omega), if_neg (by omega), if_neg (by omega)]
  rw [e]
  unfold s39 aUz aZv rQ bNq iQ bJj aKh cQ
  simp only [g0, iD, bV, aT, nB (show n ≠ Int.ofNat 11 by simp; omega), nB (show n ≠ Int.ofNat 22 by simp; omega), nB (show n ≠ Int.ofNat 23 by simp; omega), nB (show n ≠ Int.ofNat 40 by simp; omega), nB (show n ≠ Int.ofNat 41 by simp; omega),
   nB (show n ≠ Int.ofNat 1 by simp; omega), nB (show n ≠ Int.ofNat 2 by simp; omega), nB (show n ≠ Int.ofNat 3 by simp; omega), nB (show n ≠ Int.ofNat 4 by simp; omega), nB (show n ≠ Int.ofNat 5 by simp; omega), nB (show n ≠ Int.ofNat 6 by simp; omega), nB (show n ≠ Int.ofNat 7 by simp; omega),
   nB (show n ≠ Int.ofNat 10 by simp; omega), nB (show n ≠ Int.ofNat 20 by simp; omega), nB (show n ≠ Int.ofNat 24 by simp; omega), nB (show n ≠ Int.ofNat 25 by simp; omega), nB (show n ≠ Int.ofNat 26 by simp; omega), nB (show n ≠ Int.ofNat 50 by simp; omega), nB (show n ≠ Int.ofNat 21 by simp; omega), nB (show n ≠ Int.ofNat 51 by simp; omega), bN]
  rfl
section
variable {h : Hp} {M : MemV} {R : List Int} {es : List (DV × DV)}
theorem cOe {x f : DV} {l : List Int} (S : SlI x l h) {p : Int → Bool} {n : Nat} (hc : ∀ v, cX CF (dH n) f [iD v] h = some (.b (p v), h)) (hl : l.length ≤ 256) : ∀ (k i m : Nat), k + i = l.length → k < m →
  ∃ r : Int, iL (dH n) n m x f (iD l.length) (.i .i64 (Int.ofNat i)) h = some (iD r, h) ∧ (decide (r ≥ Int.ofNat 0) = (l.drop i).any p) := by
 intro k
 induction k with
 | zero =>
  intro i m he hm
  obtain ⟨m, rfl⟩ : ∃ m', m = m' + 1 := ⟨m - 1, by omega⟩
  refine ⟨-1, ?_, ?_⟩
  ·show gM (dH n) n (iL (dH n) n m) _ _ _ _ h = _
   unfold gM
   have d : decide (Int.ofNat i < (l.length : Int)) = false := decide_eq_false (by simp; omega)
   simp only [cN, d, aT, bN]
   rfl
  ·rw [List.drop_eq_nil_of_le (by omega)]
   rfl
 | succ k ih =>
  intro i m he hm
  obtain ⟨m, rfl⟩ : ∃ m', m = m' + 1 := ⟨m - 1, by omega⟩
  have hi : i < l.length := by omega
  have hv : l[i]? = some l[i] := List.getElem?_eq_getElem hi
  obtain ⟨a, e1, e2⟩ := S.at hv
  obtain ⟨r, q1, q2⟩ := ih (i + 1) m (by omega) (by omega)
  have d : decide (Int.ofNat i < (l.length : Int)) = true := decide_eq_true (by simp; omega)
  have hc := hc l[i]
  have ha : aD .add (.i .i64 (Int.ofNat i)) (.i .i64 (Int.ofNat 1)) h = some (.i .i64 (Int.ofNat (i + 1)), h) := hZ i 1 h (by omega)
  rw [aLu hv]
  cases hmay : p l[i] with
  | true =>
   refine ⟨Int.ofNat i, ?_, by simp⟩
   show gM (dH n) n (iL (dH n) n m) _ _ _ _ h = _
   unfold gM
   rw [hmay] at hc
   simp only [cN, d, aT, bM, e1, e2, hc]
  | false =>
   refine ⟨r, ?_, by rw [q2]; rfl⟩
   show gM (dH n) n (iL (dH n) n m) _ _ _ _ h = _
   unfold gM
   rw [hmay] at hc
   simp only [cN, d, aT, bM, e1, e2, hc, bN, ha]
   exact q1
theorem dDn {x f : DV} {l : List Int} (S : SlI x l h) {p : Int → Bool} {n : Nat} (hc : ∀ v, cX CF (dH n) f [iD v] h = some (.b (p v), h)) (hl : l.length ≤ 256) (hn : 256 < n) : dH (n + 2) 52 [x, f] h = some (.b (l.any p), h) := by
 rw [oL 52 rfl, bJk]
 unfold s52
 obtain ⟨r, q1, q2⟩ := cOe S (p := p) (n := n) hc hl l.length 0 n (by omega) (by omega)
 have e : dH (n + 1) 89 [x, f] h = some (iD r, h) := by
  rw [oL 89 rfl, bHw]
  unfold s89 aMh aKv bAn
  simp only [g0, g1, S.len (h' := h), aT]
  exact q1
 simp only [g0, g1, e, aT, lB, q2, List.drop_zero]
def sJ (M : MemV) (n r : Int) (l : List Int) : Prop := xP n ≠ (l.length : Int) ∨ dS r M.pl = false ∨ ∃ v ∈ l, dS v M.pl = false
theorem cId {k : Nat} {z : Prop} (V : Wv k h M R es z) {x : DV} {l : List Int} (S : SlI x l h) (hl : l.length ≤ 256) (n r : Int) {m : Nat} (hm : 300 < m) :
  ∃ h1, Wv k h1 M R es z ∧ Up h h1 ∧ ((sJ M n r l ∧ dH (m + 4) 16 [.p (aQ 7) 0, iD n, iD r, x] h = some (.t [iD 0, iD 20], h1)) ∨
   (¬ sJ M n r l ∧ dH (m + 4) 16 [.p (aQ 7) 0, iD n, iD r, x] h = uV (dH (m + 3)) (m + 3) (.p (aQ 7) 0) (iD n) (iD r) x h1)) := by
 obtain ⟨h1, hh1⟩ : ∃ h1 : Hp, (⟨h.next.succ, Tr.set (.row .ex [.p (aQ 3) 0]) h.next (Tr.set (.row .ex [.p0]) h.next h.bl)⟩ : Hp) = h1 := ⟨_, rfl⟩
 have ns := dPp h.next
 have nx := V.K.W.nx
 have oth : ∀ b : Pos, b ≠ h.next → h1.bl.get b = h.bl.get b := fun b hb => by
  rw [← hh1]
  show (Tr.set _ _ (Tr.set _ _ _)).get b = _
  rw [dPn _ _ _ _ hb, dPn _ _ _ _ hb]
 have U1 : Up h h1 := ⟨by rw [← hh1]; show _ ≤ h.next.succ.toNat; omega, fun b _ hb => oth b fun e => by subst e; omega⟩
 have V1 : Wv k h1 M R es z := V.up (V.K.W.up U1 fun b hb => oth b fun e => by subst e; omega) U1
 have hg : h1.bl.get h.next = some (.row .ex [.p (aQ 3) 0]) := by rw [← hh1]; exact dPo _ _ _
 have e1 : bL [.p0] h = some (.p h.next 0, ⟨h.next.succ, Tr.set (.row .ex [.p0]) h.next h.bl⟩) := rfl
 have e2 : aG 1 (.p h.next 0) (.p (aQ 3) 0) ⟨h.next.succ, Tr.set (.row .ex [.p0]) h.next h.bl⟩ = some (aV, h1) := by
  rw [← hh1]
  simp only [aG, cZ, dB, dPo]
  rfl
 have ld : aA (.p h.next 0) h1 = some (.p (aQ 3) 0, h1) := jA hg rfl rfl
 have S1 := S.up U1
 have em := V.K.W.memory (m + 2)
 have ea := cJe n (m + 2) h1
 have el : bZ x h1 = some (iD (l.length : Int), h1) := S1.len
 have ef : dH (m + 3) 54 [] h1 = some (.t [iD 0, iD 20], h1) := by rw [oL 54 rfl, bLg]; rfl
 have hc : ∀ v, cX CF (dH (m + 1)) (.f 53 [] [.p h.next 0]) [iD v] h1 = some (.b (!(dS v M.pl)), h1) := fun v => by
  rw [pcf rfl]
  simp only [List.nil_append, List.singleton_append]
  rw [oL 53 rfl, cQj]
  unfold s53
  simp only [g0, g1, ld, aT, V1.K.W.may, iJ]
 have ec := dDn S1 (p := fun v => !(dS v M.pl)) (n := m + 1) hc hl (by omega)
 refine ⟨h1, V1, U1, ?_⟩
 rw [oL 16 rfl, cPq]
 unfold s16 aKy aAh
 simp only [g0, g1, g2, g3, em, aT, e1, e2]
 by_cases c1 : xP n = (l.length : Int)
 ·have d1 : (xP n != (l.length : Int)) = false := by simpa using c1
  cases hr : dS r M.pl with
  | false =>
   refine .inl ⟨.inr (.inl hr), ?_⟩
   simp only [iD] at ea el ef ⊢
   simp only [ea, el, aT, iM, d1, fY, ld, V1.K.W.may, hr, iJ, Bool.not_false, cD, eN, cB, bM, ef, nF, nE]
  | true =>
   cases hq : l.any (fun v => !(dS v M.pl)) with
   | true =>
    rw [hq] at ec
    obtain ⟨v, hv, hv2⟩ := List.any_eq_true.1 hq
    refine .inl ⟨.inr (.inr ⟨v, hv, by simpa using hv2⟩), ?_⟩
    simp only [iD] at ea el ef ⊢
    simp only [ea, el, aT, iM, d1, fY, ld, V1.K.W.may, hr, iJ, Bool.not_true, cD, ec, bM, ef, nF, nE]
   | false =>
    rw [hq] at ec
    refine .inr ⟨fun q => ?_, ?_⟩
    ·rcases q with q | q | ⟨v, hv, hv2⟩
     ·exact q c1
     ·rw [hr] at q; cases q
     ·have : l.any (fun v => !(dS v M.pl)) = true := List.any_eq_true.2 ⟨v, hv, by rw [hv2]; rfl⟩
      rw [this] at hq
      cases hq
    ·simp only [iD] at ea el ef ⊢
     simp only [ea, el, aT, iM, d1, fY, ld, V1.K.W.may, hr, iJ, Bool.not_true, cD, ec, bN]
 ·have d1 : (xP n != (l.length : Int)) = true := by simpa using c1
  refine .inl ⟨.inl c1, ?_⟩
  simp only [iD] at ea el ef ⊢
  simp only [ea, el, aT, iM, d1, eN, pT, cB, bM, ef, nF, nE]
end
end Go.Dd

namespace Go.Dd
open Go.Proofs
theorem aAk (T T' : Tr Ob) : ∀ (l : List (Pos × Ob)) (b : Pos), (∃ e ∈ l, e.1 = b) → (eQ l T).get b = (eQ l T').get b
 | [], b, h => by obtain ⟨e, he, _⟩ := h; cases he
 | x :: l, b, h => by
  show (Tr.set x.2 x.1 (eQ l T)).get b = (Tr.set x.2 x.1 (eQ l T')).get b
  by_cases e : b = x.1
  ·subst e
   rw [dPo, dPo]
  ·rw [dPn _ _ _ _ e, dPn _ _ _ _ e]
   obtain ⟨y, hy, hb⟩ := h
   simp only [List.mem_cons] at hy
   rcases hy with rfl | hy
   ·exact absurd hb.symm e
   ·exact aAk T T' l b ⟨y, hy, hb⟩
theorem aLr (T : Tr Ob) : ∀ (l : List (Pos × Ob)) (b : Pos), (∀ e ∈ l, e.1 ≠ b) → (eQ l T).get b = T.get b
 | [], b, h => rfl
 | x :: l, b, h => by
  show (Tr.set x.2 x.1 (eQ l T)).get b = _
  rw [dPn _ _ _ _ (fun e => h x (by simp) e.symm)]
  exact aLr T l b fun e he => h e (by simp [he])
noncomputable def hWo (h : Hp) : Hp := ⟨aQ nxW, eQ HLW h.bl⟩
theorem dEq : hW.bl = eQ HLW .e := by kernel_rfl
theorem aLi : HLW.map (·.1) = [aQ 7, aQ 6, aQ 5, aQ 4, aQ 3, aQ 2, aQ 1] := rfl
theorem oG (h : Hp) (i : Nat) (hi : i = 1 ∨ i = 2 ∨ i = 3 ∨ i = 4 ∨ i = 5 ∨ i = 6 ∨ i = 7) : (hWo h).bl.get (aQ i) = hW.bl.get (aQ i) := by
 rw [dEq]
 show (eQ HLW h.bl).get (aQ i) = _
 refine aAk h.bl .e HLW (aQ i) ?_
 have : aQ i ∈ HLW.map (·.1) := by
  rw [aLi]
  rcases hi with rfl | rfl | rfl | rfl | rfl | rfl | rfl <;> simp
 obtain ⟨e, he, h2⟩ := List.mem_map.1 this
 exact ⟨e, he, h2⟩
theorem cUm (h : Hp) (b : Pos) (hb : b.toNat < 1024) : (hWo h).bl.get b = h.bl.get b := by
 show (eQ HLW h.bl).get b = _
 refine aLr h.bl HLW b fun e he q => ?_
 have : e.1 ∈ HLW.map (·.1) := List.mem_map.2 ⟨e, he, rfl⟩
 rw [aLi, q] at this
 simp only [List.mem_cons, List.not_mem_nil, or_false] at this
 rcases this with e | e | e | e | e | e | e <;> subst e
 ·rw [pn7] at hb; omega
 ·rw [pn6] at hb; omega
 ·rw [pn5] at hb; omega
 ·rw [pn4] at hb; omega
 ·rw [pn3] at hb; omega
 ·rw [pn2] at hb; omega
 ·rw [pn1] at hb; omega
theorem WNo (h : Hp) : Wd (hWo h) MN RN esN := by
 have W := WN
 obtain ⟨m1, m2, m3, m4, m5, m6⟩ := kH W.mem
 refine ⟨by rw [oG h 7 (by simp)]; exact W.w, by rw [oG h 4 (by simp)]; exact W.r, W.rl, by rw [oG h 5 (by simp)]; exact W.sy, ?_, W.nx, W.wb, W.pb⟩
 refine mT (by rw [oG h 3 (by simp)]; exact m1) ?_ ?_ m4 m5 m6
 ·rw [W.wb] at m2 ⊢
  rw [oG h 1 (by simp)]; exact m2
 ·rw [W.pb] at m3 ⊢
  rw [oG h 2 (by simp)]; exact m3
theorem WvN (h : Hp) : Wv 20000 (hWo h) MN RN esN where
 K := ⟨WNo h, GN, KN.sy, KN.r0, KN.rk⟩
 I := GIN
 c := by
  unfold Wc
  rw [oG h 6 (by simp)]
  kernel_rfl
 n := rfl
 fin := by show 4371 + 20000 ≤ 30000; omega
 md := by show 592 + 20000 ≤ 700000; omega
theorem bXr (h : Hp) (hn : lL h.next (aQ 1) = true) : nK 12 [] h = some (.p (aQ 7) 0, hWo h) := by
 have e1 : Nat.beq 12 13 = false := rfl
 have e2 : Nat.beq 12 12 = true := rfl
 have e3 : aYj [] = true := rfl
 unfold nK vL aTi xR hWo
 rw [e1, cond_false, e2, cond_true, e3, hn, Bool.and_self, cond_true]
theorem bRj (h : Hp) : nK 13 [] h = some (.b true, h) := rfl
theorem pL {g : FuncId} (h1 : Nat.beq g 13 = false) (h2 : Nat.beq g 12 = false) (args : List DV) (h : Hp) : nK g args h = dH 900 g args h := by
 unfold nK
 rw [h1, cond_false, aUt, h2, cond_false]
end Go.Dd

namespace Go.Dd
open Go.Proofs
section
variable {h : Hp} {M : MemV} {R : List Int} {es : List (DV × DV)} {k : Nat} {b : Pos} {n r : Int} {x : DV} {l : List Int}
def Dr (h : Hp) (b : Pos) (n r : Int) (x : DV) : Prop := h.bl.get b = some (.row .ex [.p (aQ 7) 0, iD n, iD r, x]) ∧ 1029 ≤ b.toNat ∧ b.toNat < h.next.toNat
theorem Dr.up {h' : Hp} (D : Dr h b n r x) (U : Up h h') : Dr h' b n r x := ⟨by rw [U.get b (.inr D.2.1) D.2.2]; exact D.1, D.2.1, Nat.lt_of_lt_of_le D.2.2 U.next⟩
theorem Dr.l0 (D : Dr h b n r x) : aA (.p b (0 + 0)) h = some (.p (aQ 7) 0, h) := jA (i := 0 + 0) D.1 rfl rfl
theorem Dr.l1 (D : Dr h b n r x) : aA (.p b (0 + 1)) h = some (iD n, h) := jA (i := 0 + 1) D.1 rfl rfl
theorem Dr.l2 (D : Dr h b n r x) : aA (.p b (0 + 2)) h = some (iD r, h) := jA (i := 0 + 2) D.1 rfl rfl
theorem Dr.l3 (D : Dr h b n r x) (S : SlI x l h) : aA (.p b (0 + 3)) h = some (x, h) := by
 refine jA (i := 0 + 3) D.1 rfl ?_
 rcases S with ⟨rfl, _⟩ | ⟨_, _, _, rfl, _⟩ <;> rfl
theorem cDm {z : Prop} (V : Wv k h M R es z) (S : SlI x l h) (n r : Int) (m : Nat) :
  ∃ b h1, Wv k h1 M R es z ∧ Up h h1 ∧ Dr h1 b n r x ∧ SlI x l h1 ∧ uV (dH m) m (.p (aQ 7) 0) (iD n) (iD r) x h = nG (dH m) m (iD n) (.p b 0) h1 := by
 obtain ⟨U1, V1⟩ := V.new (.row .ex [.p (aQ 7) 0, iD n, iD r, x])
 refine ⟨h.next, _, V1, U1, ⟨dPo _ _ _, by have := V.K.W.nx; omega, by show h.next.toNat < h.next.succ.toNat; rw [dPp]; omega⟩, S.up U1, ?_⟩
 have hx : cZ x = some [x] := by
  rcases S with ⟨rfl, _⟩ | ⟨_, _, _, rfl, _⟩ <;> rfl
 have e1 : bB [.p0, .i .i64 (Int.ofNat 0), .i .i64 (Int.ofNat 0), .l0] [(0, 1, .p (aQ 7) 0), (1, 1, iD n), (2, 1, iD r), (3, 1, x)] h = some (.a [.p (aQ 7) 0, iD n, iD r, x], h) := by
  rcases S with ⟨rfl, _⟩ | ⟨_, _, _, rfl, _⟩ <;> simp [bB, iP, cZ, iD]
 unfold uV
 rw [e1, aT]
 rfl
end
end Go.Dd

namespace Go.Dd
open Go.Proofs
section
variable {h : Hp} {M : MemV} {R : List Int} {es : List (DV × DV)} {k : Nat} {b : Pos} {n r : Int} {x : DV} {l : List Int}
end
end Go.Dd

namespace Go.Dd
open Go.Proofs
def pK (k : Nat) : Pos := dFl 24 k
def hK (k : Nat) : Hp := ⟨pK k, .e⟩
theorem aGf : (pK 1022).toNat = 1022 := by kernel_rfl
theorem aFj : (pK 1023).toNat = 1023 := by kernel_rfl
theorem cTa : (pK 1022).succ = pK 1023 := by kernel_rfl
theorem cXo : (pK 1023).succ = aQ 1 := by kernel_rfl
abbrev th (kd N : Int) (s : List Nat) : DV := .a [iD kd, iD N, .s s]
def i64 (N : Int) : Prop := -9223372036854775808 ≤ N ∧ N ≤ 9223372036854775807
def byS (s : List Nat) : Prop := ∀ c ∈ s, c < 256
theorem cQk (kd N : Int) (s : List Nat) (h : Hp) : bR (th kd N s) h = some (.p h.next 0, ⟨h.next.succ, Tr.set (.row .ex [iD kd, iD N, .s s]) h.next h.bl⟩) := rfl
section
variable {h h' : Hp} {M : MemV} {R : List Int} {es : List (DV × DV)} {k : Nat} {z : Prop} {b : Pos} {kd N : Int} {s : List Nat}
theorem Tg.ld (T : Tg h b kd N s) : aK 3 (.p b 0) h = some (th kd N s, h) := by
 have e : h.bl.get b = some (.row .ex [iD kd, iD N, .s s]) := T
 simp [aK, cellsAt, rowOf, e, lM, DV.one]
theorem Tg.up (T : Tg h b kd N s) (U : Up h h') (hb : b.toNat < 1024) (hn : b.toNat < h.next.toNat) : Tg h' b kd N s := by
 unfold Tg
 rw [U.get b (.inl hb) hn]
 exact T
theorem dRb (T : Tg h b kd N s) (hb : b.toNat < 1024) : Tg (hWo h) b kd N s := by
 unfold Tg
 rw [cUm h b hb]
 exact T
theorem pE0 (t : TypeId) (h : Hp) : pEq (.pointer t) true (.p (aQ 7) 0) .p0 h = some (.b false, h) := Eq.trans rfl rfl
theorem bNo (V : Wv k h M R es z) (v : Int) : ∃ y h', aL [(.i .i64 (Int.ofNat 0))] 1 [(0, 1, iD v)] h = some (y, h') ∧ SlI y [v] h' ∧ Up h h' ∧ Wv k h' M R es z := by
 obtain ⟨U1, V1⟩ := V.new (.row .ex [iD v])
 refine ⟨.l h.next 0 1 1, _, ?_, .inr ⟨h.next, 1, .ex, rfl, dPo _ _ _, .inr (by have := V.K.W.nx; omega), ?_⟩, U1, V1⟩
 ·simp [aL, iP, cZ, iD]
 ·show h.next.toNat < h.next.succ.toNat
  rw [dPp]; omega
end
theorem cPc (args : List DV) (h : Hp) : nK 14 args h = dH (894 + 6) 14 args h := pL rfl rfl args h
theorem tN (args : List DV) (h : Hp) : nK 15 args h = dH (898 + 2) 15 args h := pL rfl rfl args h
theorem aFu (args : List DV) (h : Hp) : nK 16 args h = dH (896 + 4) 16 args h := pL rfl rfl args h
theorem aZn (args : List DV) (h : Hp) : nK 23 args h = dH (899 + 1) 23 args h := pL rfl rfl args h
structure Two (h : Hp) (k1 N1 : Int) (s1 : List Nat) (k2 N2 : Int) (s2 : List Nat) : Prop where
 t1 : Tg h (pK 1022) k1 N1 s1
 t2 : Tg h (pK 1023) k2 N2 s2
 nx : 1024 ≤ h.next.toNat
theorem Two.up {h h' : Hp} {k1 N1 k2 N2 : Int} {s1 s2 : List Nat} (T : Two h k1 N1 s1 k2 N2 s2) (U : Up h h') : Two h' k1 N1 s1 k2 N2 s2 := by
 have := T.nx
 exact ⟨T.t1.up U (by rw [aGf]; omega) (by rw [aGf]; omega), T.t2.up U (by rw [aFj]; omega) (by rw [aFj]; omega), Nat.le_trans T.nx U.next⟩
theorem aLl {p q : Pos} (ne : p ≠ q) (o1 o2 : Ob) (T : Tr Ob) (nx : Pos) : (⟨nx, Tr.set o2 q (Tr.set o1 p T)⟩ : Hp).bl.get p = some o1 ∧ (⟨nx, Tr.set o2 q (Tr.set o1 p T)⟩ : Hp).bl.get q = some o2 :=
 ⟨(dPn _ _ _ _ ne).trans (dPo _ _ _), dPo _ _ _⟩
theorem bDw (k1 N1 : Int) (s1 : List Nat) (k2 N2 : Int) (s2 : List Nat) : ∃ h1 h2, bR (th k1 N1 s1) (hK 1022) = some (.p (pK 1022) 0, h1) ∧ bR (th k2 N2 s2) h1 = some (.p (pK 1023) 0, h2) ∧
  nK 12 [] h2 = some (.p (aQ 7) 0, hWo h2) ∧ Wv 20000 (hWo h2) MN RN esN ∧ Two (hWo h2) k1 N1 s1 k2 N2 s2 := by
 refine ⟨_, ⟨aQ 1, Tr.set (.row .ex [iD k2, iD N2, .s s2]) (pK 1023) (Tr.set (.row .ex [iD k1, iD N1, .s s1]) (pK 1022) .e)⟩, cQk _ _ _ _, ?_, ?_, WvN _, ?_⟩
 ·rw [cQk]
  show some (DV.p (pK 1022).succ 0, (⟨(pK 1022).succ.succ, Tr.set _ (pK 1022).succ _⟩ : Hp)) = _
  rw [cTa, cXo]
  rfl
 ·exact bXr _ (by kernel_rfl)
 ·have ne : pK 1022 ≠ pK 1023 := fun e => by have := congrArg Pos.toNat e; rw [aGf, aFj] at this; omega
  refine ⟨dRb ?_ (by rw [aGf]; omega), dRb ?_ (by rw [aFj]; omega), ?_⟩
  ·exact (aLl ne _ _ _ _).1
  ·exact (aLl ne _ _ _ _).2
  ·exact Nat.le_trans (by omega) (WNo _).nx
end Go.Dd

namespace Go.Dd
open Go.Proofs
theorem bDk {x : Int} {pl : WT} (h : dS x pl = true) : bX x pl ≠ 0 ∨ (bX x pl = 0 ∧ (cT x = true ∨ x = 0 ∨ x = 2 ∨ x = 4)) := by
 by_cases ha : bX x pl = 0
 ·refine .inr ⟨ha, ?_⟩
  unfold dS at h
  split at h
  ·exact .inr (.inl rfl)
  ·exact .inr (.inr (.inl rfl))
  ·exact .inr (.inr (.inr rfl))
  ·cases hs : cT x with
   | true => exact .inl rfl
   | false =>
    rw [hs, ha] at h
    cases h
 ·exact .inl ha
theorem bZu {x : Int} (h : cT x = true ∨ x = 0 ∨ x = 2 ∨ x = 4) (pl : WT) : bX x pl = 0 := by
 rcases h with h | rfl | rfl | rfl
 ·exact bYr h
 ·rfl
 ·rfl
 ·rfl
section
variable {h h' : Hp} {M M' : MemV} {R R' : List Int} {es es' : List (DV × DV)} {k : Nat} {z : Prop} {CL : List Nat}
theorem Stay.head (S : Stay k M M' R R' es es') (I : GI M R CL z) (G : Good M) {o : Int} (ho : bX o M.pl ≠ 0) : cM M' o = cM M o := by
 obtain ⟨h1, _, h4, h3⟩ := I.headOb G ho
 unfold cM
 rw [S.at' o ho, S.old _ (by omega)]
theorem Stay.clo (S : Stay k M M' R R' es es') (I : GI M R CL z) (G : Good M) {o : Int} (ho : bX o M.pl ≠ 0) : sD M' o = sD M o := by
 obtain ⟨h1, _, h4, h3⟩ := I.headOb G ho
 unfold sD
 rw [S.at' o ho, S.old _ (by omega)]
theorem Stay.get (S : Stay k M M' R R' es es') (I : GI M R CL z) (G : Good M) {o : Int} (ho : bX o M.pl ≠ 0) (i : Nat) : oS M' o i = oS M o i := by
 obtain ⟨h1, _, h4, h3⟩ := I.headOb G ho
 unfold oS
 rw [S.head I G ho, S.at' o ho]
 by_cases c : bX o M.pl ≠ 0 ∧ i < cM M o / 4
 ·rw [if_pos c, if_pos c, S.old _ (by omega)]
 ·rw [if_neg c, if_neg c]
theorem Stay.cls (S : Stay k M M' R R' es es') (I : GI M R CL z) (G : Good M) {x : Int} (hx : dS x M.pl = true) : dV M' R' x = dV M R x := by
 unfold dV
 rcases bDk hx with ha | ⟨ha, hc⟩
 ·rw [if_pos (by rw [S.at' x ha]; exact ha), if_pos ha]
  exact S.clo I G ha
 ·have e1 := S.r 8
  have e2 := S.r 3
  have e3 := S.r 5
  have e4 := S.r 6
  have a' : ¬ bX x M'.pl ≠ 0 := by rw [bZu hc]; simp
  have a : ¬ bX x M.pl ≠ 0 := by rw [ha]; simp
  rw [if_neg a', if_neg a]
  simp only [Nat.reduceAdd] at e1 e2 e3 e4
  rw [e1, e2, e3, e4]
theorem Wv.num (V : Wv (4 + k) h M R es) (n : Int) {m : Nat} (hm : 256 < m) : ∃ a e h' M', dH (m + 2) 42 [.p (aQ 7) 0, .i .i64 n] h = some (.t [iD a, iD e], h') ∧ Wv k h' M' R es ∧ Up h h' ∧ Stay 4 M M' R R es es ∧
  ((¬ (-1152921504606846976 ≤ n ∧ n ≤ 1152921504606846976) ∧ e = 2 ∧ a = 0) ∨ ((-1152921504606846976 ≤ n ∧ n ≤ 1152921504606846976) ∧ e = 0 ∧ jB M' R a = some n ∧ dS a M'.pl = true)) := by
 have h4 := V.n
 have h5 := V.fin
 have h6 := V.md
 obtain ⟨a, e, h', M', e1, K', U, S, A⟩ := V.K.num (by omega) (by omega) n (k := m) hm
 exact ⟨a, e, h', M', e1, V.stay K' U S, U, S, A⟩
end
end Go.Dd

namespace Go.Dd
open Go.Proofs
theorem cPa (rec : RT) (n : Nat) (x : DV) (h : Hp) : nG rec n (iD 20) x h = bC rec n (.f 57 [x] []) h := by rfl
theorem cIf (rec : RT) (n : Nat) (x : DV) (h : Hp) : nG rec n (iD 22) x h = bC rec n (.f 57 [x] []) h := by rfl
section
variable {h h' : Hp} {M M' : MemV} {R R' : List Int} {es es' : List (DV × DV)} {k : Nat} {z : Prop} {CL : List Nat}
theorem dFr {n : Int} {K : FuncId} (hd : ∀ (rec : RT) (m : Nat) (x : DV) (h : Hp), nG rec m (iD n) x h = bC rec m (.f K [x] []) h) (hK : CF.I K = none) (V : Wv k h M R es z) {x : DV} {l : List Int} (S : SlI x l h) (hl : l.length ≤ 256) (r : Int) {m : Nat} (hm : 300 < m) :
  (sJ M n r l ∧ ∃ h', dH (m + 4) 16 [.p (aQ 7) 0, iD n, iD r, x] h = some (.t [iD 0, iD 20], h') ∧ Wv k h' M R es z ∧ Up h h') ∨
  (¬ sJ M n r l ∧ ∃ b h1, Wv k h1 M R es z ∧ Up h h1 ∧ Dr h1 b n r x ∧ SlI x l h1 ∧
   ∀ a e h', dH (m + 3) K [.p b 0] h1 = some (.t [a, e], h') → dH (m + 4) 16 [.p (aQ 7) 0, iD n, iD r, x] h = some (.t [a, e], h')) := by
 obtain ⟨h1, V1, U1, q | q⟩ := cId V S hl n r hm
 ·exact .inl ⟨q.1, h1, q.2, V1, U1⟩
 ·obtain ⟨b, h2, V2, U2, D, S2, e2⟩ := cDm V1 (S.up U1) n r (m + 3)
  refine .inr ⟨q.1, b, h2, V2, U1.trans U2, D, S2, fun a e h' e3 => ?_⟩
  rw [q.2, e2, hd]
  unfold bC
  rw [pcf hK]
  simp only [List.append_nil, List.nil_append] at e3 ⊢
  rw [e3]
  simp only [aT, nF, nE]
end
end Go.Dd

namespace Go.Dd
open Go.Proofs
theorem aLc {M : MemV} {R : List Int} {o : Int} (h : bX o M.pl ≠ 0) : dV M R o = sD M o := if_pos h
section
variable {h h' : Hp} {M M' : MemV} {R R' : List Int} {es es' : List (DV × DV)} {k : Nat} {z : Prop} {CL : List Nat} {b : Pos} {n r : Int} {x : DV}
end
theorem eqX {a b : Int} (h : a = b) : (a == b) = true := by rw [h]; exact beq_self_eq_true b
end Go.Dd

namespace Go.Dd
open Go.Proofs
theorem bTp (n : Int) (h : Hp) : bG (some (iD n, h)) (iD n) = true := by
 unfold bG
 simp [DV.beq]
theorem neF {a b : Int} (h : a = b) : (a != b) = false := by simpa using h
section
variable {h h' : Hp} {M M' : MemV} {R R' : List Int} {es es' : List (DV × DV)} {k : Nat} {z : Prop} {CL : List Nat} {b : Pos} {n r : Int} {x : DV}
end
end Go.Dd

namespace Go.Dd
open Go.Proofs
section
variable {h h' : Hp} {M M' : MemV} {R R' : List Int} {es es' : List (DV × DV)} {k : Nat} {z : Prop} {CL : List Nat} {b : Pos} {n r : Int} {x : DV}
theorem cFc {v w : Int} (h : jB M R v = some w) : dS v M.pl = true := by
 unfold jB at h
 by_cases hs : cT v = true
 ·unfold dS
  split <;> first | rfl | (rw [hs]; rfl)
 ·rw [if_neg hs] at h
  by_cases hc : (bX v M.pl ≠ 0 ∧ sD M v = R.getD 10 0) ∧ cM M v % 4 = 1
  ·exact mA hc.1.1
  ·rw [if_neg hc] at h; cases h
theorem GI.len256 (I : GI M R CL z) (G : Good M) (o : Int) : cM M o / 4 ≤ 256 := by
 by_cases e : bX o M.pl = 0
 ·unfold cM
  rw [e, I.z0]
  decide
 ·exact (I.headOb G e).2.1.len
end
end Go.Dd

namespace Go.Dd
open Go.Proofs
theorem bOp (h : Hp) : bG (some (aV, h)) aV = true := Eq.trans rfl rfl
section
variable {h h' : Hp} {M M' : MemV} {R R' : List Int} {es es' : List (DV × DV)} {k : Nat} {z : Prop} {CL : List Nat} {b : Pos} {n r : Int} {x : DV} {l : List Int}
theorem aNb (V : Wv k h M R es z) (D : Dr h b n r x) {y : DV} {ks : List Int} (S : SlI y ks h) (hl : ks.length ≤ 256) {m : Nat} (hm : 300 < m) :
  ∃ h', dH (m + 4) 96 [.p b 0, y] h = some (.b (ks.any fun i => knW R i == dV M R r), h') ∧ Wv k h' M R es z ∧ Up h h' := by
 obtain ⟨h1, hh1⟩ : ∃ h1 : Hp, (⟨h.next.succ, Tr.set (.row .ex [.p b 0]) h.next h.bl⟩ : Hp) = h1 := ⟨_, rfl⟩
 obtain ⟨h2, hh2⟩ : ∃ h2 : Hp, (⟨h.next.succ.succ, Tr.set (.row .ex [.p b 0]) h.next h.bl⟩ : Hp) = h2 := ⟨_, rfl⟩
 obtain ⟨h3, hh3⟩ : ∃ h3 : Hp, (⟨h.next.succ.succ, Tr.set (.row .ex [iD (dV M R r)]) h.next.succ (Tr.set (.row .ex [.i .i64 (Int.ofNat 0)]) h.next.succ h2.bl)⟩ : Hp) = h3 := ⟨_, rfl⟩
 have ns := dPp h.next
 have ns2 := dPp h.next.succ
 have nx := V.K.W.nx
 have ne1 : h.next ≠ h.next.succ := fun e => by have := congrArg Pos.toNat e; omega
 have oth2 : ∀ p : Pos, p ≠ h.next → h2.bl.get p = h.bl.get p := fun p hp => by
  rw [← hh2]
  exact dPn _ _ _ _ hp
 have oth3 : ∀ p : Pos, p ≠ h.next.succ → h3.bl.get p = h2.bl.get p := fun p hp => by
  rw [← hh3]
  show (Tr.set _ _ (Tr.set _ _ _)).get p = _
  rw [dPn _ _ _ _ hp, dPn _ _ _ _ hp]
 have n2 : h2.next = h.next.succ.succ := by rw [← hh2]
 have n3 : h3.next = h.next.succ.succ := by rw [← hh3]
 have U2 : Up h h2 := ⟨by rw [n2]; omega, fun p _ hp => oth2 p fun e => by subst e; omega⟩
 have U3 : Up h h3 := ⟨by rw [n3]; omega, fun p _ hp => (oth3 p fun e => by subst e; omega).trans (oth2 p fun e => by subst e; omega)⟩
 have V2 : Wv k h2 M R es z := V.up (V.K.W.up U2 fun p hp => oth2 p fun e => by subst e; omega) U2
 have V3 : Wv k h3 M R es z := V.up (V.K.W.up U3 fun p hp => (oth3 p fun e => by subst e; omega).trans (oth2 p fun e => by subst e; omega)) U3
 have D2 := D.up U2
 have D3 := D.up U3
 have S3 := S.up U3
 have g2 : h2.bl.get h.next = some (.row .ex [.p b 0]) := by rw [← hh2]; exact dPo _ _ _
 have g3 : h3.bl.get h.next = some (.row .ex [.p b 0]) := (oth3 _ ne1).trans g2
 have g4 : h3.bl.get h.next.succ = some (.row .ex [iD (dV M R r)]) := by rw [← hh3]; exact dPo _ _ _
 have e1 : bR (.p b 0) h = some (.p h.next 0, h1) := by rw [← hh1]; rfl
 have er : resv 1 h1 = h2 := by rw [← hh1, ← hh2]; rfl
 have n1 : h1.next = h.next.succ := by rw [← hh1]
 have l2 : aA (.p h.next 0) h2 = some (.p b 0, h2) := jA g2 rfl rfl
 have l3 : aA (.p h.next 0) h3 = some (.p b 0, h3) := jA g3 rfl rfl
 have l4 : aA (.p h.next.succ 0) h3 = some (iD (dV M R r), h3) := jA g4 rfl rfl
 have co := V2.K.W.classOf V2.K.G r (m + 1)
 have e2 : iK (bW 0 h1.next) [(.i .i64 (Int.ofNat 0))] h2 = some (.p h.next.succ 0, ⟨h.next.succ.succ, Tr.set (.row .ex [.i .i64 (Int.ofNat 0)]) h.next.succ h2.bl⟩) := by
  rw [n1]
  unfold iK
  rw [n2]
  rfl
 have e3 : aG 1 (.p h.next.succ 0) (iD (dV M R r)) ⟨h.next.succ.succ, Tr.set (.row .ex [.i .i64 (Int.ofNat 0)]) h.next.succ h2.bl⟩ = some (aV, h3) := by
  rw [← hh3]
  simp only [aG, cZ, dB, dPo]
  rfl
 obtain ⟨m', rfl⟩ : ∃ m', m = m' + 1 := ⟨m - 1, by omega⟩
 have hc : ∀ v, cX CF (dH (m' + 2)) (.f 109 [] [.p h.next 0, .p h.next.succ 0]) [iD v] h3 = some (.b (knW R v == dV M R r), h3) := fun v => by
  rw [pcf rfl]
  simp only [List.nil_append, List.singleton_append]
  rw [oL 109 rfl, bWg]
  unfold s109
  have kn := V3.K.W.knownA v m'
  have g2' : ∀ (a b c : DV) (l : List DV), (a :: b :: c :: l).getD 2 aV = c := fun _ _ _ _ => rfl
  have sm := bTp (dV M R r) h3
  simp only [iD] at kn l4 sm ⊢
  simp only [g0, g1, g2', l3, aT, gE, qA, D3.l0, kn, l4, sm, Bool.and_self, cnd, cond_true, bV]
 have ec := dDn S3 (p := fun v => knW R v == dV M R r) (n := m' + 2) hc hl (by omega)
 refine ⟨h3, ?_, V3, U3⟩
 rw [oL 96 rfl, cPo]
 unfold s96
 have dl2 := D2.l2
 simp only [iD] at co dl2 e3
 simp only [g0, g1, e1, aT, er, l2, gE, qA, D2.l0, dl2, co, e2, e3, ec]
def ixW (M : MemV) (R : List Int) (r : Int) : Prop := dV M R r = R.getD 11 0 ∨ dV M R r = R.getD 12 0 ∨ dV M R r = R.getD 13 0
noncomputable def ixB (M : MemV) (R : List Int) (r : Int) : Bool := R.getD 11 0 == dV M R r || (R.getD 12 0 == dV M R r || (R.getD 13 0 == dV M R r || false))
theorem ixB_iff : ixB M R r = true ↔ ixW M R r := by
 unfold ixB ixW
 simp only [Bool.or_false, Bool.or_eq_true, beq_iff_eq]
 constructor
 ·rintro (q | q | q)
  ·exact .inl q.symm
  ·exact .inr (.inl q.symm)
  ·exact .inr (.inr q.symm)
 ·rintro (q | q | q)
  ·exact .inl q.symm
  ·exact .inr (.inl q.symm)
  ·exact .inr (.inr q.symm)
theorem ixW.at (I : GI M R CL z) (q : ixW M R r) : bX r M.pl ≠ 0 := by
 have hr : ∀ i, i < 16 → R.getD (2 + i) 0 = .ofNat (6 + 18 * i) := I.rk
 have h9 := hr 9 (by omega)
 have h10 := hr 10 (by omega)
 have h11 := hr 11 (by omega)
 have h7 := hr 7 (by omega)
 have h2 := hr 2 (by omega)
 have h4 := hr 4 (by omega)
 have h5 := hr 5 (by omega)
 simp only [Nat.reduceAdd, Nat.reduceMul] at h9 h10 h11 h7 h2 h4 h5
 intro e
 unfold ixW dV at q
 rw [if_neg (by simp [e])] at q
 rw [h9, h10, h11, h7, h2, h4, h5] at q
 split at q
 ·rcases q with q | q | q <;> cases q
 ·split at q
  ·rcases q with q | q | q <;> cases q
  ·split at q
   ·rcases q with q | q | q <;> cases q
   ·split at q
    ·rcases q with q | q | q <;> cases q
    ·rcases q with q | q | q <;> cases q
theorem bLr (V : Wv k h M R es z) (D : Dr h b n r x) {v : Int} (S : SlI x (v :: l) h) (m : Nat) :
  ∃ (p : Int) (q : Bool), dH (m + 3) 97 [.p b 0] h = some (.t [iD p, .b q], h) ∧ (q = true ↔ ∃ i : Nat, jB M R v = some (Int.ofNat (i + 1)) ∧ i < cM M r / 4) ∧ (∀ i : Nat, jB M R v = some (Int.ofNat (i + 1)) → i < cM M r / 4 → p = Int.ofNat i) := by
 obtain ⟨a, e1, e2⟩ := S.at (i := 0) rfl
 have va := V.K.W.value V.K.G V.I v m
 have em := V.K.W.memory (m + 1)
 have fl := V.K.W.fieldsA V.K.G V.I r
 have l2 := D.l2
 have sm := bTp r h
 have sb : ∀ w : Int, ∃ p, aD .sub (.i .i64 w) (.i .i64 (Int.ofNat 1)) h = some (.i .i64 p, h) ∧ (∀ i : Nat, w = Int.ofNat (i + 1) → i ≤ 256 → p = Int.ofNat i) := fun w => by
  by_cases hw : -9223372036854775808 ≤ w - 1 ∧ w - 1 ≤ 9223372036854775807
  ·exact ⟨w - Int.ofNat 1, aPc _ _ _ hw, fun i hi _ => by rw [hi]; simp⟩
  ·refine ⟨IntKind.i64.wrap (w - Int.ofNat 1), by simp only [aD, if_true, fD], fun i hi h2 => absurd ?_ hw⟩
   rw [hi]
   constructor <;> simp <;> omega
 obtain ⟨p, es1, ps⟩ := sb ((jB M R v).getD 0)
 have ps' : ∀ i : Nat, jB M R v = some (Int.ofNat (i + 1)) → i < cM M r / 4 → p = Int.ofNat i := fun i hi h2 => ps i (by rw [hi]; rfl) (by have := V.I.len256 V.K.G r; omega)
 rw [oL 97 rfl, cQe]
 unfold s97
 simp only [iD] at va em fl l2 sm e2 ⊢
 simp only [g0, gE, qA, D.l0, aT, D.l3 S, e1, e2, va, nF, nE, es1]
 cases hv : jB M R v with
 | none =>
  refine ⟨p, false, ?_, by simp, fun i hi => by cases hi⟩
  simp only [Option.isSome_none, lR, pT, cD, aT, bOp, Bool.and_self, cnd, cond_true]
 | some w =>
  rw [hv] at ps'
  simp only [Option.isSome_some, Option.getD_some, kC, lB, aT, cB]
  by_cases c1 : w ≥ Int.ofNat 1
  ·obtain ⟨i, rfl⟩ : ∃ i : Nat, w = Int.ofNat (i + 1) := ⟨w.toNat - 1, by show w = ((w.toNat - 1 + 1 : Nat) : Int); have c2 : (1 : Int) ≤ w := c1; omega⟩
   simp only [decide_eq_true c1, kC, gE, qA, D.l0, aT, em, l2, sm, Bool.and_self, cnd, cond_true, fl, bYb, cB]
   by_cases c2 : Int.ofNat (i + 1) ≤ Int.ofNat (cM M r / 4)
   ·refine ⟨p, true, by simp only [decide_eq_true c2], by simp; exact ⟨i, rfl, by simp at c2; omega⟩, ps'⟩
   ·refine ⟨p, false, by simp only [decide_eq_false c2], by simp; intro i' e; simp at c2; omega, ps'⟩
  ·refine ⟨p, false, ?_, by simp; intro i e; have c2 : ¬ ((1 : Int) ≤ w) := c1; omega, ps'⟩
   simp only [decide_eq_false c1, lR, pT, cD, aT, bOp, Bool.and_self, cnd, cond_true]
end
end Go.Dd

namespace Go.Dd
open Go.Proofs
section
variable {h h' : Hp} {M M' : MemV} {R R' : List Int} {es es' : List (DV × DV)} {k : Nat} {z : Prop} {CL : List Nat} {b : Pos} {n r : Int} {x : DV} {l : List Int}
theorem cRl (V : Wv k h M R es z) (u v w : Int) : ∃ y h', aL [(.i .i64 (Int.ofNat 0)), (.i .i64 (Int.ofNat 0)), (.i .i64 (Int.ofNat 0))] 3 [(0, 1, iD u), (1, 1, iD v), (2, 1, iD w)] h = some (y, h') ∧ SlI y [u, v, w] h' ∧ Up h h' ∧ Wv k h' M R es z := by
 obtain ⟨U1, V1⟩ := V.new (.row .ex [iD u, iD v, iD w])
 refine ⟨.l h.next 0 3 3, _, ?_, .inr ⟨h.next, 3, .ex, rfl, dPo _ _ _, .inr (by have := V.K.W.nx; omega), ?_⟩, U1, V1⟩
 ·simp [aL, iP, cZ, iD]
 ·show h.next.toNat < h.next.succ.toNat
  rw [dPp]; omega
theorem ks3 : ([9, 10, 11] : List Int).any (fun i => knW R i == dV M R r) = ixB M R r := rfl
theorem ks1 (i : Int) : ([i] : List Int).any (fun i => knW R i == dV M R r) = (knW R i == dV M R r) := by simp
theorem dLh (V : Wv k h M R es z) (D : Dr h b n r x) {m : Nat} (hm : 300 < m) :
  ∃ y h1 h', aL [(.i .i64 (Int.ofNat 0)), (.i .i64 (Int.ofNat 0)), (.i .i64 (Int.ofNat 0))] 3 [(0, 1, (.i .i64 (Int.ofNat 9))), (1, 1, (.i .i64 (Int.ofNat 10))), (2, 1, (.i .i64 (Int.ofNat 11)))] h = some (y, h1) ∧
   dH (m + 4) 96 [.p b 0, y] h1 = some (.b (ixB M R r), h') ∧ Wv k h' M R es z ∧ Up h h' := by
 obtain ⟨y, h1, e1, S1, U1, V1⟩ := cRl V 9 10 11
 obtain ⟨h2, e2, V2, U2⟩ := aNb V1 (D.up U1) S1 (by simp) hm
 rw [ks3] at e2
 exact ⟨y, h1, h2, e1, e2, V2, U1.trans U2⟩
theorem dPj (V : Wv k h M R es z) (D : Dr h b n r x) (i : Nat) {m : Nat} (hm : 300 < m) :
  ∃ y h1 h', aL [(.i .i64 (Int.ofNat 0))] 1 [(0, 1, (.i .i64 (Int.ofNat i)))] h = some (y, h1) ∧
   dH (m + 4) 96 [.p b 0, y] h1 = some (.b (knW R i == dV M R r), h') ∧ Wv k h' M R es z ∧ Up h h' := by
 obtain ⟨y, h1, e1, S1, U1, V1⟩ := bNo V (Int.ofNat i)
 obtain ⟨h2, e2, V2, U2⟩ := aNb V1 (D.up U1) S1 (by simp) hm
 rw [ks1] at e2
 exact ⟨y, h1, h2, e1, e2, V2, U1.trans U2⟩
theorem ixW.byte (I : GI M R CL z) (G : Good M) (q : ixW M R r) (hn : dV M R r ≠ R.getD 11 0) {i : Nat} (hi : i < cM M r / 4) : ∃ c : Nat, c < 256 ∧ oS M r i = .ofNat c := by
 have ha := q.at I
 obtain ⟨h1, O, h4, h3⟩ := I.headOb G ha
 rw [aLc ha] at hn
 unfold ixW at q
 rw [aLc ha] at q
 have f2 := O.str (by
  rcases q with q | q | q
  ·exact absurd q hn
  ·exact .inl q
  ·exact .inr q)
 obtain ⟨c, c1, c2⟩ := O.by8 f2 i hi
 exact ⟨c, c1, by unfold oS; rw [if_pos ⟨ha, hi⟩]; exact c2⟩
inductive FldA (M M' : MemV) (R : List Int) (n r : Int) (l : List Int) : Int → Int → Prop
 | no : ¬ (ixW M R r ∧ (n ≠ 22 → ∃ (v : Int) (i : Nat), l = [v] ∧ jB M R v = some (Int.ofNat (i + 1)) ∧ i < cM M r / 4)) → M' = M → FldA M M' R n r l 0 20
 | cnt (a : Int) : ixW M R r → n = 22 → jB M' R a = some (Int.ofNat (cM M r / 4)) → FldA M M' R n r l a 0
 | arr (v : Int) (i : Nat) : ixW M R r → n ≠ 22 → l = [v] → jB M R v = some (Int.ofNat (i + 1)) → i < cM M r / 4 → dV M R r = R.getD 11 0 → M' = M → FldA M M' R n r l (oS M r i) 0
 | byt (a v : Int) (i : Nat) : ixW M R r → n ≠ 22 → l = [v] → jB M R v = some (Int.ofNat (i + 1)) → i < cM M r / 4 → dV M R r ≠ R.getD 11 0 → jB M' R a = some (oS M r i) → FldA M M' R n r l a 0
theorem dGb (V : Wv (4 + k) h M R es) (D : Dr h b n r x) (S : SlI x l h) (hn : n = 22 ∨ n = 20 ∧ ∃ v, l = [v]) {m : Nat} (hm : 300 < m) :
  ∃ a e h' M', dH (m + 5) 57 [.p b 0] h = some (.t [iD a, iD e], h') ∧ Wv k h' M' R es ∧ Up h h' ∧ Stay 4 M M' R R es es ∧ FldA M M' R n r l a e := by
 have em := V.K.W.memory (m + 3)
 obtain ⟨y, h1, h2, e1, e2, V2, U2⟩ := dLh V D (m := m) hm
 have ef : ∀ h, dH (m + 4) 54 [] h = some (.t [iD 0, iD 20], h) := fun h => by rw [oL 54 rfl, bLg]; rfl
 have D2 := D.up U2
 have S2 := S.up U2
 have l1 := D2.l1
 have l2 := D2.l2
 rw [oL 57 rfl, cPh]
 unfold s57
 simp only [iD] at l1 l2 ef ⊢
 simp only [g0, gE, qA, D.l0, aT, em, e1, e2, iJ]
 cases hi : ixB M R r with
 | false =>
  refine ⟨0, 20, h2, M, ?_, V2.less (by omega), U2, Stay.refl _ _ _ _, .no (fun q => ?_) rfl⟩
  ·simp only [Bool.not_false, bM, ef, aT, nF, nE]
  ·rw [ixB_iff.2 q.1] at hi; cases hi
 | true =>
  have hx := ixB_iff.1 hi
  have ha := hx.at V.I
  simp only [Bool.not_true, bN, l1, aT, bV]
  rcases hn with rfl | ⟨rfl, v, rfl⟩
  ·have fl := V2.K.W.fieldsA V2.K.G V2.I r
   have sm := cAg (aQ 7) 0 h2
   obtain ⟨a, e, h3, M3, e3, V3, U3, S3, A3⟩ := V2.num (k := k) (Int.ofNat (cM M r / 4)) (m := m + 2) (by omega)
   have d : ((22 : Int) == Int.ofNat 22) = true := rfl
   have hl := V.I.len256 V.K.G r
   rcases A3 with ⟨q, _⟩ | ⟨_, rfl, q2, _⟩
   ·exact absurd ⟨by simp; omega, by simp; omega⟩ q
   ·refine ⟨a, 0, h3, M3, ?_, V3, U2.trans U3, S3, .cnt a hx rfl q2⟩
    simp only [iD] at e3 ⊢
    simp only [d, bM, D2.l0, l2, fl, aT, sm, Bool.and_self, cnd, cond_true, e3, nF, nE]
  ·have d : ((20 : Int) == Int.ofNat 22) = false := rfl
   have d2 : ((20 : Int) == Int.ofNat 21) = false := rfl
   obtain ⟨p, q, e3, q1, q2⟩ := bLr V2 D2 S2 (m + 1)
   simp only [iD] at e3 ⊢
   simp only [d, bN, e3, aT, nF, nE, iJ]
   cases q with
   | false =>
    refine ⟨0, 20, h2, M, ?_, V2.less (by omega), U2, Stay.refl _ _ _ _, .no (fun q => ?_) rfl⟩
    ·simp only [Bool.not_false, bM, ef, aT, nF, nE]
    ·obtain ⟨w, i, e, w1, w2⟩ := q.2 (by decide)
     cases e
     have := q1.2 ⟨i, w1, w2⟩
     cases this
   | true =>
    obtain ⟨i, w1, w2⟩ := q1.1 rfl
    have hp := q2 i w1 w2
    subst hp
    obtain ⟨er, eg, _⟩ := V2.K.W.getA V2.K.G V2.I r i
    obtain ⟨y3, h3, h4, e4, e5, V4, U4⟩ := dPj V2 D2 9 (m := m) hm
    rw [show knW R ((9 : Nat) : Int) = R.getD 11 0 from rfl] at e5
    simp only [iD] at eg
    simp only [Bool.not_true, bN, l1, aT, bV, d2, l2, eg, nF, nE, e4, e5]
    by_cases c : dV M R r = R.getD 11 0
    ·refine ⟨oS M r i, 0, h4, M, ?_, V4.less (by omega), U2.trans U4, Stay.refl _ _ _ _, .arr v i hx (by decide) rfl w1 w2 c rfl⟩
     simp only [eqX c.symm, bM]
     rfl
    ·obtain ⟨cc, c1, c2⟩ := hx.byte V.I V.K.G c w2
     obtain ⟨a, e, h5, M5, e6, V5, U5, S5, A5⟩ := V4.num (k := k) (oS M r i) (m := m + 2) (by omega)
     rcases A5 with ⟨q, _⟩ | ⟨_, rfl, q2, _⟩
     ·exact absurd ⟨by rw [c2]; show (-1152921504606846976 : Int) ≤ (cc : Int); omega, by rw [c2]; show (cc : Int) ≤ _; omega⟩ q
     ·have D4 := D2.up U4
      refine ⟨a, 0, h5, M5, ?_, V5, (U2.trans U4).trans U5, S5, .byt a v i hx (by decide) rfl w1 w2 c q2⟩
      have cn : ¬ (R.getD 11 0 = dV M R r) := fun q => c q.symm
      simp only [iD] at e6 ⊢
      simp only [nB cn, bN, D4.l0, aT, e6, nF, nE]
theorem doF (hn : n = 22 ∧ l = [] ∨ n = 20 ∧ ∃ v, l = [v]) (V : Wv (4 + k) h M R es) (S : SlI x l h) (r : Int) {m : Nat} (hm : 300 < m) :
  ∃ a e h' M', dH (m + 6) 16 [.p (aQ 7) 0, iD n, iD r, x] h = some (.t [iD a, iD e], h') ∧ Wv k h' M' R es ∧ Up h h' ∧ Stay 4 M M' R R es es ∧ FldA M M' R n r l a e := by
 have dd : ∀ (rec : RT) (m : Nat) (x : DV) (h : Hp), nG rec m (iD n) x h = bC rec m (.f 57 [x] []) h := by
  rcases hn with ⟨rfl, _⟩ | ⟨rfl, _⟩
  ·exact cIf
  ·exact cPa
 have hl : l.length ≤ 256 := by
  rcases hn with ⟨_, rfl⟩ | ⟨_, v, rfl⟩ <;> simp
 rcases dFr dd rfl V S hl r (m := m + 2) (by omega) with ⟨q, h', e1, V1, U1⟩ | ⟨q, b, h1, V1, U1, D, S1, cont⟩
 ·refine ⟨0, 20, h', M, e1, V1.less (by omega), U1, Stay.refl _ _ _ _, .no (fun w => ?_) rfl⟩
  have ha := w.1.at V.I
  rcases q with q | q | ⟨v, hv, q⟩
  ·rcases hn with ⟨rfl, rfl⟩ | ⟨rfl, v, rfl⟩
   ·exact q rfl
   ·exact q rfl
  ·rw [mA ha] at q; cases q
  ·rcases hn with ⟨rfl, rfl⟩ | ⟨rfl, v', rfl⟩
   ·cases hv
   ·obtain ⟨v2, i, e, w1, _⟩ := w.2 (by decide)
    cases e
    simp only [List.mem_singleton] at hv
    subst hv
    rw [cFc w1] at q
    cases q
 ·have hn' : n = 22 ∨ n = 20 ∧ ∃ v, l = [v] := hn.elim (fun q => .inl q.1) .inr
  obtain ⟨a, e, h2, M2, e2, V2, U2, S2, A⟩ := dGb V1 D S1 hn' (m := m) hm
  exact ⟨a, e, h2, M2, cont _ _ _ e2, V2, U1.trans U2, S2, A⟩
end
end Go.Dd

namespace Go.Dd
open Go.Proofs
noncomputable def s5 (rec : FuncId → List DV → Hp → aI) (n : Nat) (x0 x1 : DV) (h0 : Hp) : aI :=
 bnd (bR x0 h0) fun v1 h1 =>
 bnd (bR x1 h1) fun v2 h2 =>
 bnd (rec 12 [] h2) fun v3 h3 =>
 bnd (pEq (.pointer 64) true v3 .p0 h3) fun v4 h4 =>
 aS v4 (
  some ((.b false), h4)) (
  bnd (aK 3 v1 h4) fun v5 h5 =>
  bnd (rec 14 [v3, v5] h5) fun v6 h6 =>
  bnd (aK 3 v2 h6) fun v7 h7 =>
  bnd (rec 14 [v3, v7] h7) fun v8 h8 =>
  bnd (rec 26 [v3, v6] h8) fun v9 h9 =>
  bnd (aC 0 v9 h9) fun v10 h10 =>
  bnd (aC 1 v9 h10) fun v11 h11 =>
  bnd (rec 16 [v3, (.i .i64 (Int.ofNat 22)), v6, .l0] h11) fun v12 h12 =>
  bnd (aC 0 v12 h12) fun v13 h13 =>
  bnd (aC 1 v12 h13) fun v14 h14 =>
  bnd (rec 15 [v3, v13] h14) fun v15 h15 =>
  bnd (aC 0 v15 h15) fun v16 h16 =>
  bnd (aC 1 v15 h16) fun v17 h17 =>
  bnd (aD .eql v14 (.i .i64 (Int.ofNat 0)) h17) fun v18 h18 =>
  bnd (pEq .bool false v18 v10 h18) fun v19 h19 =>
  bnd (gD v19 false (some (v10, h19)) h19) fun v20 h20 =>
  bnd (gD v19 false (some (v20, h20)) h20) fun v21 h21 =>
  bnd (gD v21 true (some (v16, h21)) h21) fun v22 h22 =>
  bnd (gD v21 true (some (v3, h22)) h22) fun v23 h23 =>
  bnd (gD v21 true (rec 23 [v23] h23) h23) fun v24 h24 =>
  bnd (gD v21 true (some (v6, h24)) h24) fun v25 h25 =>
  bnd (gD v21 true (eJ [v24, v25] h25) h25) fun v26 h26 =>
  bnd (gD v21 true (aD .neq v22 v26 h26) h26) fun v27 h27 =>
  bnd (gD v19 false (aP v21 v27 (.b false) h27) h27) fun v28 h28 =>
  bnd (aP v19 (.b true) v28 h28) fun v29 h29 =>
  aS v29 (
   some ((.b false), h29)) (
   bnd (rec 15 [v3, v8] h29) fun v30 h30 =>
   bnd (aC 0 v30 h30) fun v31 h31 =>
   bnd (aC 1 v30 h31) fun v32 h32 =>
   bnd (aL [(.i .i64 (Int.ofNat 0))] 1 [(0, 1, v8)] h32) fun v33 h33 =>
   bnd (rec 16 [v3, (.i .i64 (Int.ofNat 20)), v6, v33] h33) fun v34 h34 =>
   bnd (aC 0 v34 h34) fun v35 h35 =>
   bnd (aC 1 v34 h35) fun v36 h36 =>
   bnd (gX .not v10 h36) fun v37 h37 =>
   bnd (gD v37 false (some (v32, h37)) h37) fun v38 h38 =>
   bnd (gD v37 false (gX .not v38 h38) h38) fun v39 h39 =>
   bnd (aP v37 (.b true) v39 h39) fun v40 h40 =>
   bnd (gD v40 false (some (v31, h40)) h40) fun v41 h41 =>
   bnd (gD v40 false (aD .lss v41 (.i .i64 (Int.ofNat 1)) h41) h41) fun v42 h42 =>
   bnd (aP v40 (.b true) v42 h42) fun v43 h43 =>
   bnd (gD v43 false (some (v31, h43)) h43) fun v44 h44 =>
   bnd (gD v43 false (some (v3, h44)) h44) fun v45 h45 =>
   bnd (gD v43 false (rec 23 [v45] h45) h45) fun v46 h46 =>
   bnd (gD v43 false (some (v6, h46)) h46) fun v47 h47 =>
   bnd (gD v43 false (eJ [v46, v47] h47) h47) fun v48 h48 =>
   bnd (gD v43 false (aD .gtr v44 v48 h48) h48) fun v49 h49 =>
   bnd (aP v43 (.b true) v49 h49) fun v50 h50 =>
   aS v50 (
    bnd (aD .eql v35 (.i .i64 (Int.ofNat 0)) h50) fun v51 h51 =>
    bnd (gD v51 true (some (v36, h51)) h51) fun v52 h52 =>
    bnd (gD v51 true (aD .eql v52 (.i .i64 (Int.ofNat 20)) h52) h52) fun v53 h53 =>
    bnd (aP v51 v53 (.b false) h53) fun v54 h54 =>
    bnd (gD v54 true (rec 13 [] h54) h54) fun v55 h55 =>
    bnd (aP v54 v55 (.b false) h55) fun v56 h56 =>
    some (v56, h56)) (
    bnd (rec 23 [v3] h50) fun v57 h57 =>
    bnd (aD .sub v31 (.i .i64 (Int.ofNat 1)) h57) fun v58 h58 =>
    bnd (oZ [v57, v6, v58] h58) fun v59 h59 =>
    bnd (aC 0 v59 h59) fun v60 h60 =>
    bnd (aC 1 v59 h60) fun v61 h61 =>
    aS v11 (
     bnd (aD .eql v35 v60 h61) fun v62 h62 =>
     bnd (gD v62 true (some (v36, h62)) h62) fun v63 h63 =>
     bnd (gD v62 true (aD .eql v63 (.i .i64 (Int.ofNat 0)) h63) h63) fun v64 h64 =>
     bnd (aP v62 v64 (.b false) h64) fun v65 h65 =>
     bnd (gD v65 true (rec 13 [] h65) h65) fun v66 h66 =>
     bnd (aP v65 v66 (.b false) h66) fun v67 h67 =>
     some (v67, h67)) (
     bnd (rec 15 [v3, v35] h61) fun v68 h68 =>
     bnd (aC 0 v68 h68) fun v69 h69 =>
     bnd (aC 1 v68 h69) fun v70 h70 =>
     bnd (aD .eql v69 v60 h70) fun v71 h71 =>
     bnd (gD v71 true (some (v36, h71)) h71) fun v72 h72 =>
     bnd (gD v71 true (aD .eql v72 (.i .i64 (Int.ofNat 0)) h72) h72) fun v73 h73 =>
     bnd (aP v71 v73 (.b false) h73) fun v74 h74 =>
     bnd (gD v74 true (rec 13 [] h74) h74) fun v75 h75 =>
     bnd (aP v74 v75 (.b false) h75) fun v76 h76 =>
     some (v76, h76)))))
noncomputable def D5 (rec : FuncId → List DV → Hp → aI) (n : Nat) (c : Code) (X : Nat → K) (k : K) : K := aM CF rec 141 n c X (aU CF Tryz.f5) k
theorem s5m (rec : FuncId → List DV → Hp → aI) (n : Nat) : D5 rec n (cf Tryz.f5) x0 (aU CF Tryz.f5) = (fun (env : aZ) (h : Hp) => s5 rec n (env 0) (env 1) h) :=
 (by kernel_rfl)
theorem dLu (rec : FuncId → List DV → Hp → aI) (n : Nat) (args : List DV) (h : Hp) : aF CF rec n 5 args h = s5 rec n (args.getD 0 aV) (args.getD 1 aV) h :=
 (by kernel_rfl : aF CF rec n 5 args h = D5 rec n (cf Tryz.f5) x0 (aU CF Tryz.f5) (aH args) h).trans ((congrFun (congrFun (s5m rec n) (aH args)) h).trans (by kernel_rfl))
end Go.Dd

namespace Go.Dd
open Go.Proofs
section
variable {h h' : Hp} {M M' : MemV} {R R' : List Int} {es es' : List (DV × DV)} {k : Nat} {z : Prop} {CL : List Nat} {b : Pos} {n r : Int} {x : DV} {l : List Int}
theorem bEq (V : Wv k h M R es z) (r : Int) (m : Nat) : dH (m + 3) 26 [.p (aQ 7) 0, iD r] h = some (.t [.b (ixB M R r), .b (R.getD 11 0 == dV M R r)], h) := by
 have em := V.K.W.memory (m + 1)
 have co := V.K.W.classOf V.K.G r m
 have is := V.K.W.is r
 have k9 : dH (m + 1 + 1) 30 [.p (aQ 7) 0, .i .i64 (Int.ofNat 9)] h = some (iD (R.getD 11 0), h) := V.K.W.known (show 9 < 16 by omega) (m + 1)
 have k10 : dH (m + 1 + 1) 30 [.p (aQ 7) 0, .i .i64 (Int.ofNat 10)] h = some (iD (R.getD 12 0), h) := V.K.W.known (show 10 < 16 by omega) (m + 1)
 have k11 : dH (m + 1 + 1) 30 [.p (aQ 7) 0, .i .i64 (Int.ofNat 11)] h = some (iD (R.getD 13 0), h) := V.K.W.known (show 11 < 16 by omega) (m + 1)
 have cm : ∀ a b : Int, (a == b) = (b == a) := fun a b => by rw [Bool.eq_iff_iff]; simp only [beq_iff_eq]; exact eq_comm
 rw [oL 26 rfl, cQi]
 unfold s26
 simp only [iD] at co is k9 k10 k11 ⊢
 simp only [g0, g1, co, aT, em, is]
 by_cases e : bX r M.pl = 0
 ·have hb : (!(Nat.beq (bX r M.pl) 0)) = false := by rw [e]; rfl
  have i0 : ixB M R r = false := by
   cases hi : ixB M R r with
   | false => rfl
   | true => exact absurd e ((ixB_iff.1 hi).at V.I)
  have i9 : (R.getD 11 0 == dV M R r) = false := by
   unfold ixB at i0
   revert i0
   cases (R.getD 11 0 == dV M R r) <;> simp
  simp only [hb, lR, pT, cD, aT, i0, i9]
 ·have hb : (!(Nat.beq (bX r M.pl) 0)) = true := by rw [bXx e]; rfl
  simp only [hb, kC, k9, aT, bV]
  unfold ixB
  rw [cm (dV M R r) (R.getD 11 0)]
  cases c9 : (R.getD 11 0 == dV M R r) with
  | true =>
   simp only [eN, pT, cB, aT, kC, k9, bV, Bool.true_or]
   rw [cm (dV M R r) (R.getD 11 0), c9]
  | false =>
   simp only [fY, k10, aT, bV, cD]
   rw [cm (dV M R r) (R.getD 12 0)]
   cases c10 : (R.getD 12 0 == dV M R r) with
   | true =>
    simp only [eN, pT, cB, aT, kC, k9, bV, Bool.true_or, Bool.false_or]
    rw [cm (dV M R r) (R.getD 11 0), c9]
   | false =>
    simp only [fY, k11, aT, bV, cD]
    rw [cm (dV M R r) (R.getD 13 0)]
    cases c11 : (R.getD 13 0 == dV M R r) with
    | true =>
     simp only [cB, aT, kC, k9, bV, Bool.true_or, Bool.false_or]
     rw [cm (dV M R r) (R.getD 11 0), c9]
    | false =>
     simp only [cB, cD, aT, lR, pT, Bool.false_or]
theorem bSm {j : Nat} (S : Stay j M M' R R' es es') (I : GI M R CL z) (G : Good M) (q : ixW M R r) : ixW M' R' r := by
 have ha := q.at I
 have e1 := S.cls I G (mA ha)
 have r9 := S.r 10
 have r10 := S.r 11
 have r11 := S.r 12
 simp only [Nat.reduceAdd] at r9 r10 r11
 unfold ixW at q ⊢
 rw [e1, r9, r10, r11]
 exact q
end
theorem cGe (args : List DV) (h : Hp) : nK 26 args h = dH (897 + 3) 26 args h := pL rfl rfl args h
theorem bCe {k1 N1 k2 N2 : Int} {s1 s2 : List Nat} (i1 : i64 N1) (i2 : i64 N2) (b1 : byS s1) (b2 : byS s2) : ∃ k, aF CF nK 900 5 [th k1 N1 s1, th k2 N2 s2] (hK 1022) = some (.b true, k) := by
 obtain ⟨h1, h2, e1, e2, e3, V0, T0⟩ := bDw k1 N1 s1 k2 N2 s2
 obtain ⟨r, h3, M3, R3, es3, e4, V3, U3, S3⟩ := bBh (k := 19740) V0 k1 i1 b1 (m := 894) (by omega)
 have T3 := T0.up U3
 obtain ⟨x, h4, M4, R4, es4, e5, V4, U4, S4⟩ := bBh (k := 19480) V3 k2 i2 b2 (m := 894) (by omega)
 have ix := bEq V4 r 897
 obtain ⟨a, e, h5, M5, e6, V5, U5, S5, A5⟩ := doF (k := 19476) (.inl ⟨rfl, rfl⟩) V4 (.inl ⟨rfl, rfl⟩) r (m := 894) (by omega)
 have em := V0.K.W.memory 899
 have em5 := V5.K.W.memory 899
 have va := V5.K.W.value V5.K.G V5.I a 898
 have fl := V5.K.W.fieldsA V5.K.G V5.I r
 have vx := V5.K.W.value V5.K.G V5.I x 898
 obtain ⟨y, h6, e7, S6, U6, V6⟩ := bNo V5 x
 obtain ⟨a2, f, h7, M7, e8, V7, U7, S7, A7⟩ := doF (k := 19472) (.inr ⟨rfl, x, rfl⟩) V6 S6 r (m := 894) (by omega)
 have em7 := V7.K.W.memory 899
 have fl6 := V6.K.W.fieldsA V6.K.G V6.I r
 have em6 := V6.K.W.memory 899
 have lv := bRj
 have o22 : Int.ofNat 22 = (22 : Int) := rfl
 have bnn : ∀ b : Bool, (b != b) = false := fun b => by cases b <;> rfl
 have kk : (e == Int.ofNat 0) = ixB M4 R4 r ∧ (ixB M4 R4 r = true → (jB M5 R4 a).getD 0 = Int.ofNat (cM M5 r / 4)) := by
  cases A5 with
  | no q hM =>
   subst hM
   have i0 : ixB M5 R4 r = false := by
    cases hi : ixB M5 R4 r with
    | false => rfl
    | true => exact absurd ⟨ixB_iff.1 hi, fun q => absurd rfl q⟩ q
   rw [i0]
   exact ⟨rfl, fun q => by cases q⟩
  | cnt _ q _ q2 =>
   rw [ixB_iff.2 q, q2, S5.head V4.I V4.K.G (q.at V4.I)]
   exact ⟨rfl, fun _ => rfl⟩
  | arr _ _ _ q => exact absurd rfl q
  | byt _ _ _ _ q => exact absurd rfl q
 obtain ⟨kk1, kk2⟩ := kk
 have ix5 : ixW M4 R4 r → ixW M5 R4 r := bSm S5 V4.I V4.K.G
 rw [dLu]
 simp only [iD] at e1 e2 e4 e5 e6 e7 e8 em em5 em6 em7 va fl vx ix fl6
 unfold s5
 simp only [th, iD] at e1 e2 ⊢
 simp only [g0, g1, e1, aT, e2, e3, pE0, bN, T0.t1.ld, cPc, e4, T3.t2.ld, e5, cGe, ix, nF, nE, aFu, o22, e6, tN, va, bV, kk1, dOa, bnn, fY, aZn, em5, fl, cD]
 have no0 : ¬ (ixW M5 R4 r ∧ ((20 : Int) ≠ 22 → ∃ (v : Int) (i : Nat), [x] = [v] ∧ jB M5 R4 v = some (Int.ofNat (i + 1)) ∧ i < cM M5 r / 4)) → a2 = 0 ∧ f = 20 := fun q => by
  cases A7 with
  | no => exact ⟨rfl, rfl⟩
  | cnt _ _ q => cases q
  | arr v i q1 q2 q3 q4 q5 => exact absurd ⟨q1, fun _ => ⟨v, i, q3, q4, q5⟩⟩ q
  | byt _ v i q1 q2 q3 q4 q5 => exact absurd ⟨q1, fun _ => ⟨v, i, q3, q4, q5⟩⟩ q
 have z0 : ((0 : Int) == Int.ofNat 0) = true := rfl
 have z20 : ((20 : Int) == Int.ofNat 20) = true := rfl
 have o20 : Int.ofNat 20 = (20 : Int) := rfl
 have nn : ∀ a : Int, (a != a) = false := fun a => neF rfl
 cases hi : ixB M4 R4 r with
 | false =>
  obtain ⟨rfl, rfl⟩ := no0 (fun q => by
   cases A5 with
   | no _ hM => subst hM; rw [ixB_iff.2 q.1] at hi; cases hi
   | cnt _ q => rw [ixB_iff.2 q] at hi; cases hi
   | arr _ _ q => rw [ixB_iff.2 q] at hi; cases hi
   | byt _ _ _ q => rw [ixB_iff.2 q] at hi; cases hi)
  refine ⟨h7, ?_⟩
  simp only [lR, pT, cD, aT, bN, vx, tN, nF, nE, e7, aFu, o20, e8, iJ, Bool.not_false, eN, cB, bM, bV, z0, z20, kC, lv]
  simp only [show ((20 : Int) == 20) = true from rfl, kC, aT, cB, lv]
 | true =>
  have hx4 := ixB_iff.1 hi
  have hx5 := ix5 hx4
  have ha4 := hx4.at V4.I
  have ha5 := hx5.at V5.I
  simp only [kC, aT, aZn, em5, fl, kk2 hi, iM, nn, cB, bN, vx, tN, nF, nE, e7, aFu, o20, e8, iJ, Bool.not_true, fY, cD]
  cases hv : jB M5 R4 x with
  | none =>
   obtain ⟨rfl, rfl⟩ := no0 (fun q => by
    obtain ⟨v, i, e, w, _⟩ := q.2 (by decide)
    cases e
    rw [hv] at w; cases w)
   refine ⟨h7, ?_⟩
   simp only [Option.isSome_none, Bool.not_false, eN, pT, cB, aT, bM, bV, z0, kC, show ((20 : Int) == 20) = true from rfl, lv]
  | some w =>
   simp only [Option.isSome_some, Option.getD_some, Bool.not_true, fY, cN, aT, cD, show Int.ofNat 1 = (1 : Int) from rfl]
   have fl7 := V7.K.W.fieldsA V7.K.G V7.I r
   have hd7 : cM M7 r = cM M5 r := S7.head V6.I V6.K.G ha5
   rw [hd7] at fl7
   by_cases c1 : w < 1
   ·obtain ⟨rfl, rfl⟩ := no0 (fun q => by
     obtain ⟨v, i, e, w', _⟩ := q.2 (by decide)
     cases e
     rw [hv] at w'
     have := Option.some.inj w'
     rw [this] at c1
     simp at c1
     omega)
    refine ⟨h7, ?_⟩
    simp only [decide_eq_true c1, eN, pT, cB, aT, bM, bV, z0, kC, show ((20 : Int) == 20) = true from rfl, lv]
   ·obtain ⟨i, rfl⟩ : ∃ i : Nat, w = Int.ofNat (i + 1) := ⟨w.toNat - 1, by show w = ((w.toNat - 1 + 1 : Nat) : Int); omega⟩
    simp only [decide_eq_false c1, fY, aT, em7, fl7, fM, cD]
    by_cases c2 : Int.ofNat (i + 1) > Int.ofNat (cM M5 r / 4)
    ·obtain ⟨rfl, rfl⟩ := no0 (fun q => by
      obtain ⟨v, i', e, w', w2⟩ := q.2 (by decide)
      cases e
      rw [hv] at w'
      have := Int.ofNat.inj (Option.some.inj w')
      simp at c2
      omega)
     refine ⟨h7, ?_⟩
     simp only [decide_eq_true c2, aT, bM, bV, z0, kC, show ((20 : Int) == 20) = true from rfl, lv, cB]
    ·have hl : i < cM M5 r / 4 := by simp at c2; omega
     have l256 := V5.I.len256 V5.K.G r
     obtain ⟨er, eg, _⟩ := V7.K.W.getA V7.K.G V7.I r i
     rw [S7.get V6.I V6.K.G ha5] at eg
     have ps : ∀ h, aD .sub (.i .i64 (Int.ofNat (i + 1))) (.i .i64 1) h = some (.i .i64 (Int.ofNat i), h) := fun h => by
      rw [aPc _ _ _ ⟨by simp only [Int.ofNat_eq_natCast]; omega, by simp only [Int.ofNat_eq_natCast]; omega⟩]
      simp
     have cl5 : (R4.getD 11 0 == dV M4 R4 r) = (R4.getD 11 0 == dV M5 R4 r) := by rw [S5.cls V4.I V4.K.G (mA ha4)]
     simp only [iD] at eg
     simp only [decide_eq_false c2, bN, aT, ps, eg, nF, nE, cl5]
     cases A7 with
     | no q => exact absurd ⟨hx5, fun _ => ⟨x, i, rfl, hv, hl⟩⟩ q
     | cnt _ _ q => cases q
     | arr v i' q1 q2 q3 q4 q5 q6 =>
      cases q3
      rw [hv] at q4
      have := Int.ofNat.inj (Option.some.inj q4)
      have e' : i' = i := by omega
      subst e'
      refine ⟨h7, ?_⟩
      have gg : ∀ a : Int, (a == a) = true := fun a => eqX rfl
      simp only [eqX q6.symm, bM, bV, gg, kC, aT, z0, cB, lv]
     | byt _ v i' q1 q2 q3 q4 q5 q6 q7 =>
      cases q3
      rw [hv] at q4
      have := Int.ofNat.inj (Option.some.inj q4)
      have e' : i' = i := by omega
      subst e'
      refine ⟨h7, ?_⟩
      have gg : ∀ a : Int, (a == a) = true := fun a => eqX rfl
      have q6' : ¬ (R4.getD 11 0 = dV M5 R4 r) := fun q => q6 q.symm
      have va2 := V7.K.W.value V7.K.G V7.I a2 898
      rw [q7] at va2
      simp only [iD] at va2
      simp only [nB q6', bN, tN, va2, Option.getD_some, Option.isSome_some, aT, nF, nE, bV, gg, kC, z0, cB, lv]
end Go.Dd

namespace Go.Dd
open Go.Proofs
theorem bRv {P : Program} {W : World} {base : Nat} {t : TypeId} {v : Value} {fs : Array Field} (ht : P.underlying t = some (.struct fs)) (h : Value.okWide P W .any base t v) : ∃ cs, v = .agg cs := by
 unfold Value.okWide at h
 rw [ht] at h
 obtain ⟨cs, e, _⟩ := h
 exact ⟨cs, e⟩
theorem aYz : Tryz.prog.cellsOf 23 = 3 := by kernel_rfl
theorem bPj : Tryz.prog.cellsOf 3 = 1 := by kernel_rfl
theorem bVz : Tryz.prog.cellsOf 9 = 1 := by kernel_rfl
section
variable {H : Type} {enc : TypeId × Value → H} {W : World} {base b0 : Nat} {sp : Nat → Bool} {held : Bool}
theorem aOm {n : Nat} {cs : List Value} {x : DataW H × List MemPlace} (h : DataW.trod enc Tryz.prog W base sp held n 23 cs = some x) :
  ∃ (kd N : Int) (s : ByteArray), cs = [.int .i64 kd, .int .i64 N, .string s] ∧ x = (.agg [.lit (.int .i64 kd), .lit (.int .i64 N), .lit (.string s.data.toList)], []) ∧ (Lit.int .i64 kd).wf = true ∧ (Lit.int .i64 N).wf = true ∧ s.size ≤ maxLen := by
 obtain ⟨xs, n, rfl, hx, hl, hs, hf⟩ := DataW.trod_struct Tryz.underlying23 h
 rw [aYz] at hl
 match cs, hl with
 | [a, b, c], _ =>
  have hs : xs.length = 3 := hs
  match xs, hs with
  | [x0, x1, x2], _ =>
   have f0 := hf 0 _ rfl
   have f1 := hf 1 _ rfl
   have f2 := hf 2 _ rfl
   change DataW.trod enc Tryz.prog W base sp held n 3 (List.take (Tryz.prog.cellsOf 3) [a, b, c]) = some x0 at f0
   change DataW.trod enc Tryz.prog W base sp held n 3 (List.take (Tryz.prog.cellsOf 3) [b, c]) = some x1 at f1
   change DataW.trod enc Tryz.prog W base sp held n 9 (List.take (Tryz.prog.cellsOf 9) [c]) = some x2 at f2
   rw [bPj] at f0 f1
   rw [bVz] at f2
   obtain ⟨kd, e0, q0, w0⟩ := DataW.trod_int Tryz.underlying3 f0
   obtain ⟨N, e1, q1, w1⟩ := DataW.trod_int Tryz.underlying3 f1
   obtain ⟨s, e2, q2, w2⟩ := DataW.trod_string Tryz.underlying9 f2
   simp only [List.take, List.cons.injEq, and_true] at e0 e1 e2
   subst e0 e1 e2
   refine ⟨kd, N, s, rfl, ?_, w0, w1, w2⟩
   rw [hx, q0, q1, q2]
   rfl
theorem aOj {kd N : Int} {s : ByteArray} (w0 : (Lit.int .i64 kd).wf = true) (w1 : (Lit.int .i64 N).wf = true) (w2 : s.size ≤ maxLen) (n : Nat) :
  DataW.trod enc Tryz.prog W base sp held (n + 2) 23 [.int .i64 kd, .int .i64 N, .string s] = some (.agg [.lit (.int .i64 kd), .lit (.int .i64 N), .lit (.string s.data.toList)], []) := by
 have t0 : DataW.trod enc Tryz.prog W base sp held (n + 1) 3 [.int .i64 kd] = some (.lit (.int .i64 kd), []) := by
  rw [DataW.trod_step]; unfold DataW.trodStep; rw [Tryz.underlying3]; simp [w0]
 have t1 : DataW.trod enc Tryz.prog W base sp held (n + 1) 3 [.int .i64 N] = some (.lit (.int .i64 N), []) := by
  rw [DataW.trod_step]; unfold DataW.trodStep; rw [Tryz.underlying3]; simp [w1]
 have t2 : DataW.trod enc Tryz.prog W base sp held (n + 1) 9 [.string s] = some (.lit (.string s.data.toList), []) := by
  rw [DataW.trod_step]; unfold DataW.trodStep; rw [Tryz.underlying9]; simp [w2]
 rw [DataW.trod_step]; unfold DataW.trodStep; rw [Tryz.underlying23]
 simp [aYz, bPj, bVz, t0, t1, t2]
theorem yJ {v : Value} {d : DataW H} {ps : List MemPlace} (hval : Value.okWide Tryz.prog W .any b0 23 v) (hd : DataW.Trod enc Tryz.prog W base sp held 23 v d ps) :
  ∃ (kd N : Int) (s : ByteArray), v = .agg #[.int .i64 kd, .int .i64 N, .string s] ∧ ps = [] ∧ (Lit.int .i64 N).wf = true ∧ ∀ (W' : World) (base' : Nat) (sp' : Nat → Bool), DataW.Trod enc Tryz.prog W' base' sp' held 23 (.agg #[.int .i64 kd, .int .i64 N, .string s]) d [] := by
 obtain ⟨cs, rfl⟩ := bRv Tryz.underlying23 hval
 obtain ⟨n, hf⟩ := hd
 have hf : DataW.trod enc Tryz.prog W base sp held n 23 cs.toList = some (d, ps) := hf
 obtain ⟨kd, N, s, e, ex, w0, w1, w2⟩ := aOm hf
 have ecs : cs = #[.int .i64 kd, .int .i64 N, .string s] := by
  apply Array.toList_inj.1
  exact e
 cases ex
 exact ⟨kd, N, s, by rw [ecs], rfl, w1, fun W' base' sp' => ⟨2, aOj w0 w1 w2 0⟩⟩
end
theorem bIj {n : Int} (w : (Lit.int .i64 n).wf = true) : i64 n := Go.bounds_i64 w
theorem aLz {ρ : dC} (kd N : Int) (s : ByteArray) : VR ρ (th kd N (s.data.toList.map (·.toNat))) (.agg #[.int .i64 kd, .int .i64 N, .string s]) :=
 .a _ _ (.cons _ _ _ _ (.i _ _) (.cons _ _ _ _ (.i _ _) (.cons _ _ _ _ (.s _ _ rfl) .nil)))
end Go.Dd

