/- A part of the proof: TX3 TX4 GN WR WM WA WC WP1 WP2 WP3 WP4 WP5 WP6 WP7 WQ1 WQ2 WQ3 WQ4 WQ5 WQ6 XL10 WA10 WQR: each text has a comment of its own. -/
import Derived.Test.YtilmobdncapnbaaGreatPn8
import Derived.WalkKit
import Derived.ProofKit
import Derived.OpenShut
import Derived.ChangeMaps5
set_option linter.unusedVariables false
set_option linter.unusedSimpArgs false
set_option linter.constructorNameAsVariable false
set_option maxRecDepth 100000
namespace Go.Dd
open Go.Proofs
theorem mL {w : Int} {pl : WT} (h : bV w pl ≠ 0) : dW w pl = true := by
 unfold dW
 split <;> first | rfl | skip
 rw [bUa h]
 simp
theorem uO {w : Int} {pl : WT} {k : Nat} (hk : k < 16000000) (h : dW w pl = true) : dW w (pl.set k (.ofNat 1)) = true := by
 by_cases ha : bV w pl = 0
 ·unfold dW at h ⊢
  by_cases w0 : w = 0
  ·subst w0; rfl
  ·by_cases w2 : w = 2
   ·subst w2; rfl
   ·by_cases w4 : w = 4
    ·subst w4; rfl
    ·split
     ·exact absurd rfl w0
     ·exact absurd rfl w2
     ·exact absurd rfl w4
     ·split at h
      ·exact absurd rfl w0
      ·exact absurd rfl w2
      ·exact absurd rfl w4
      ·rw [ha] at h
       have : cX w = true := by simpa using h
       rw [this]
       rfl
 ·exact mL (by rw [rN hk ha]; exact ha)
def dSj (M : MemV) (R : List Int) (es : List (DV × DV)) : Prop := ∀ e ∈ es, ∃ s x, e = (.s s, iD x) ∧ TxO M (R.getD 13 0) x s
theorem bDr {es : List (DV × DV)} (s : List Nat) : (∀ e ∈ es, ∃ (k : List Nat) (x : Int), e = (.s k, iD x)) →
  (∃ x, dK .string (.s s) es = some (some (iD x)) ∧ (DV.s s, iD x) ∈ es) ∨ (dK .string (.s s) es = some none ∧ ∀ i, vP .string (.s s) es i = some none) := by
 induction es with
 | nil => exact fun _ => .inr ⟨rfl, fun _ => rfl⟩
 | cons e es ih =>
  intro h
  obtain ⟨k, x, he⟩ := h e (by simp)
  subst he
  cases hk : eqD s k with
  | true =>
   have := (pP s k).1 hk
   subst this
   exact .inl ⟨x, by simp only [dK, nI, hk], by simp⟩
  | false =>
   rcases ih fun e he => h e (by simp [he]) with ⟨y, h1, h2⟩ | ⟨h1, h2⟩
   ·exact .inl ⟨y, by simp only [dK, nI, hk]; exact h1, by simp [h2]⟩
   ·exact .inr ⟨by simp only [dK, nI, hk]; exact h1, fun i => by simp only [vP, nI, hk]; exact h2 _⟩
theorem bQe {es l : List (DV × DV)} {k v : DV} (h : dK .string k es = some (some v)) : dK .string k (es ++ l) = some (some v) := by
 induction es with
 | nil => cases h
 | cons e es ih =>
  simp only [List.cons_append, dK] at h ⊢
  split
  ·rename_i hk; rw [hk] at h; exact h
  ·rename_i hk; rw [hk] at h; exact ih h
  ·rename_i hk; rw [hk] at h; cases h
theorem bVl {es : List (DV × DV)} {s : List Nat} {v : DV} (h : dK .string (.s s) es = some none) : dK .string (.s s) (es ++ [(.s s, v)]) = some (some v) := by
 induction es with
 | nil =>
  have : eqD s s = true := (pP s s).2 rfl
  simp only [List.nil_append, dK, nI, this]
 | cons e es ih =>
  simp only [List.cons_append, dK] at h ⊢
  split
  ·rename_i hk; rw [hk] at h; cases h
  ·rename_i hk; rw [hk] at h; exact ih h
  ·rename_i hk; rw [hk] at h; cases h
structure Wk (h : Hp) (M : MemV) (R : List Int) (es : List (DV × DV)) : Prop where
 W : Wd h M R es
 G : Good M
 sy : dSj M R es
 r0 : dW (R.getD 0 0) M.pl = true
 rk : ∀ i, i < 16 → bV (R.getD (2 + i) 0) M.pl ≠ 0
structure Stay (k : Nat) (M M' : MemV) (R R' : List Int) (es es' : List (DV × DV)) : Prop where
 n : M'.n = M.n
 fin : M'.fin ≤ M.fin + k
 made : M'.made ≤ M.made + k
 lo : M.fin ≤ M'.fin
 tx : ∀ cls o s, TxO M cls o s → TxO M' cls o s
 at' : ∀ o, bV o M.pl ≠ 0 → bV o M'.pl = bV o M.pl
 r : ∀ i, R'.getD (i + 1) 0 = R.getD (i + 1) 0
 fd : ∀ s v, dK .string (.s s) es = some (some v) → dK .string (.s s) es' = some (some v)
 gi : ∀ CL, GI M R CL → GI M' R' CL
 old : ∀ j, j < M.fin → M'.t.get j = M.t.get j
theorem Stay.refl (k : Nat) (M : MemV) (R : List Int) (es : List (DV × DV)) : Stay k M M R R es es := ⟨rfl, by omega, by omega, by omega, fun _ _ _ h => h, fun _ _ => rfl, fun _ => rfl, fun _ _ h => h, fun _ h => h, fun _ _ => rfl⟩
theorem Stay.trans {a b : Nat} {M M' M2 : MemV} {R R' R2 : List Int} {es es' es2 : List (DV × DV)} (h : Stay a M M' R R' es es') (k : Stay b M' M2 R' R2 es' es2) : Stay (a + b) M M2 R R2 es es2 :=
 ⟨k.n.trans h.n, by have := h.fin; have := k.fin; omega, by have := h.made; have := k.made; omega, by have := h.lo; have := k.lo; omega, fun c o s t => k.tx _ _ _ (h.tx _ _ _ t),
  fun o ho => by have h1 := h.at' o ho; rw [k.at' o (by rw [h1]; exact ho), h1], fun i => (k.r i).trans (h.r i), fun s v e => k.fd s v (h.fd s v e), fun CL I => k.gi CL (h.gi CL I), fun j hj => by rw [k.old j (by have := h.lo; omega)]; exact h.old j hj⟩
theorem Grown.stay {M M' : MemV} {f : Nat} {cls : Int} {l : List Int} (g : Grown M M' f cls l) (G : Good M) (R : List Int) (es : List (DV × DV)) (N : ∀ CL, GI M R CL → NewI M R CL f cls l) : Stay (l.length + 3) M M' R R es es :=
 ⟨g.n, by rw [g.fin]; exact Nat.le_refl _, by rw [g.made]; omega, by rw [g.fin]; omega, fun _ _ _ t => g.txo G t, fun o ho => by rw [g.pl]; exact rN (by have := G.le; have := G.hi; omega) ho, fun _ => rfl, fun _ _ h => h, fun CL I => g.gi G I (N CL I), fun j hj => g.old j hj⟩
theorem Grown.wk {h h' : Hp} {M M' : MemV} {R : List Int} {es : List (DV × DV)} {f : Nat} {cls : Int} {l : List Int} (g : Grown M M' f cls l) (K : Wk h M R es) (W' : Wd h' M' R es) (hc : bV cls M.pl ≠ 0) (hf : f ≤ 2) (h256 : l.length ≤ 256) (room : M.fin + l.length + 3 ≤ M.n) (hm : M.made < 899999) : Wk h' M' R es := by
 have hk : M.fin < 16000000 := by have := K.G.le; have := K.G.hi; omega
 refine ⟨W', g.good K.G hc hf h256 room hm, fun e he => ?_, by rw [g.pl]; exact uO hk K.r0, fun i hi => by rw [g.pl, rN hk (K.rk i hi)]; exact K.rk i hi⟩
 obtain ⟨s, x, h1, h2⟩ := K.sy e he
 exact ⟨s, x, h1, g.txo K.G h2⟩
section
variable {h : Hp} {M : MemV} {R : List Int} {es : List (DV × DV)}
theorem Wd.setR0 (W : Wd h M R es) (v : Int) : aG 1 (.p (aO 4) 0) (iD v) h = some (aW, ⟨h.next, Tr.set (.row .ex ((R.set 0 v).map iD)) (aO 4) h.bl⟩) ∧ Wd ⟨h.next, Tr.set (.row .ex ((R.set 0 v).map iD)) (aO 4) h.bl⟩ M (R.set 0 v) es ∧
  Up h ⟨h.next, Tr.set (.row .ex ((R.set 0 v).map iD)) (aO 4) h.bl⟩ := by
 obtain ⟨m1, m2, m3, m4, m5, m6⟩ := jO W.mem
 have ne : ∀ b : Pos, b.toNat ≠ 1027 → (Tr.set (.row .ex ((R.set 0 v).map iD)) (aO 4) h.bl).get b = h.bl.get b := fun b hb => by
  rw [dUr]
  intro e; rw [e, pn4] at hb; exact hb rfl
 refine ⟨?_, ⟨(ne _ (by rw [pn7]; omega)).trans W.w, (by show (Tr.set _ (aO 4) _).get (aO 4) = _; exact dUs _ _ _), by simp [W.rl], (ne _ (by rw [pn5]; omega)).trans W.sy, ?_, W.nx, W.wb, W.pb⟩, ⟨Nat.le_refl _, fun b h1 h2 => ne b (by omega)⟩⟩
 ·have hp : gM 0 (R.map iD) [iD v] = some ((R.set 0 v).map iD) := by
   have hl := W.rl
   cases R with
   | nil => simp at hl
   | cons a l =>
    show kV (iD a :: l.map iD) [iD v] = _
    have : kV (l.map iD) [] = some (l.map iD) := by cases l.map iD <;> rfl
    simp only [kV, DV.one, Bool.and_self, if_true, this, Option.map_some]
    rfl
  have hw : Kind.ex.writable = true := rfl
  simp only [aG, dJ, List.length_singleton, if_true, dI, W.r, hw, hp]
 ·exact nB ((ne _ (by rw [pn3]; omega)).trans m1) ((ne _ (by rw [W.wb, pn1]; omega)).trans m2) ((ne _ (by rw [W.pb, pn2]; omega)).trans m3) m4 m5 m6
theorem Wd.setS (W : Wd h M R es) (es' : List (DV × DV)) : Wd ⟨h.next, Tr.set (.mp es') (aO 5) h.bl⟩ M R es' ∧ Up h ⟨h.next, Tr.set (.mp es') (aO 5) h.bl⟩ := by
 obtain ⟨m1, m2, m3, m4, m5, m6⟩ := jO W.mem
 have ne : ∀ b : Pos, b.toNat ≠ 1028 → (Tr.set (.mp es') (aO 5) h.bl).get b = h.bl.get b := fun b hb => by
  rw [dUr]
  intro e; rw [e, pn5] at hb; exact hb rfl
 exact ⟨⟨(ne _ (by rw [pn7]; omega)).trans W.w, (ne _ (by rw [pn4]; omega)).trans W.r, W.rl, (by show (Tr.set _ (aO 5) _).get (aO 5) = _; exact dUs _ _ _),
  nB ((ne _ (by rw [pn3]; omega)).trans m1) ((ne _ (by rw [W.wb, pn1]; omega)).trans m2) ((ne _ (by rw [W.pb, pn2]; omega)).trans m3) m4 m5 m6, W.nx, W.wb, W.pb⟩, ⟨Nat.le_refl _, fun b h1 h2 => ne b (by omega)⟩⟩
theorem Wk.push (K : Wk h M R es) {x y : Int} (hx : dW x M.pl = true) (hy : dW y M.pl = true) (room : M.fin + 5 ≤ M.n) (hm : M.made < 899999) {n : Nat} (hn : 256 < n) :
  ∃ h' M', dC (n + 2) 73 [.p (aO 7) 0, .i .i64 x, .i .i64 y] h = some (.t [.i .i64 (.ofNat (M.fin * 2)), .i .i64 (.ofNat 0)], h') ∧ Wk h' M' R es ∧ Up h h' ∧ Grown M M' 0 (R.getD 11 0) [x, y] := by
 have hk : M.fin < 16000000 := by have := K.G.le; have := K.G.hi; omega
 have fl : aL [.i .i64 (Int.ofNat 0), .i .i64 (Int.ofNat 0)] 2 [(0, 1, .i .i64 x), (1, 1, .i .i64 y)] h = some (.l h.next 0 2 2, ⟨h.next.succ, Tr.set (.row .ex ([x, y].map iD)) h.next h.bl⟩) := by
  simp [aL, jI, dJ]
 obtain ⟨U1, W1⟩ := K.W.new (.row .ex ([x, y].map iD))
 have S : SlI (.l h.next 0 2 2) [x, y] ⟨h.next.succ, Tr.set (.row .ex ([x, y].map iD)) h.next h.bl⟩ := .inr ⟨h.next, 2, .ex, rfl, dUs _ _ _, .inr (Nat.le_trans (by decide) K.W.nx), by show _ < (h.next.succ).toNat; rw [dUu]; omega⟩
 have K1 : Wk ⟨h.next.succ, Tr.set (.row .ex ([x, y].map iD)) h.next h.bl⟩ M R es := ⟨W1, K.G, K.sy, K.r0, K.rk⟩
 obtain ⟨h', M', e1, W2, U2, _, g⟩ := W1.make61 K.G (K.rk 9 (by omega)) (f := 0) (by omega) S (by simp) (by simpa using room) (fun v hv => by
  simp only [List.mem_cons, List.not_mem_nil, or_false] at hv
  rcases hv with rfl | rfl
  ·exact uO hk hx
  ·exact uO hk hy) hn
 refine ⟨h', M', ?_, g.wk K1 W2 (K.rk 9 (by omega)) (by omega) (by simp) (by simpa using room) hm, U1.trans U2, g⟩
 rw [nQ 73 rfl, cUp]
 unfold s73
 simp only [g0, g1, g2, aS, K.W.known (show 9 < 16 by omega), fl]
 rw [show (2 : Nat) + 9 = 11 from rfl] at e1 ⊢
 rw [e1]
 simp only [aS, nH, nJ]
theorem Wk.symbol (K : Wk h M R es) {s : List Nat} (hs : ∀ c ∈ s, c < 256) (room : M.fin + 70 ≤ M.n) (hm : M.made < 800000) {n : Nat} (hn : 300 < n) :
  ∃ a e h' M' R' es', dC (n + 3) 44 [.p (aO 7) 0, .s s] h = some (.t [.i .i64 a, .i .i64 e], h') ∧ Wk h' M' R' es' ∧ Up h h' ∧ Stay 80 M M' R R' es es' ∧
   ((¬ (1 ≤ s.length ∧ s.length ≤ 60) ∧ e = 1 ∧ a = 0) ∨ ((1 ≤ s.length ∧ s.length ≤ 60) ∧ e = 0 ∧ dK .string (.s s) es' = some (some (iD a)) ∧ TxO M' (R.getD 13 0) a s)) := by
 rw [nQ 44 rfl, cUw]
 unfold s44
 have el : ∀ h, dV (.s s) h = some (.i .i64 (s.length : Int), h) := fun h => rfl
 by_cases c1 : s.length < 1
 ·refine ⟨0, 1, h, M, R, es, ?_, K, Up.refl h, Stay.refl _ _ _ _, .inl ⟨by omega, rfl, rfl⟩⟩
  have d1 : decide ((s.length : Int) < Int.ofNat 1) = true := decide_eq_true (by simp; omega)
  simp only [g0, g1, el, aS, cK, d1, eX, sR, cM, bM]
  rfl
 ·have d1 : decide ((s.length : Int) < Int.ofNat 1) = false := decide_eq_false (by simp; omega)
  by_cases c2 : s.length > 60
  ·refine ⟨0, 1, h, M, R, es, ?_, K, Up.refl h, Stay.refl _ _ _ _, .inl ⟨by omega, rfl, rfl⟩⟩
   have d2 : decide ((s.length : Int) > Int.ofNat 60) = true := decide_eq_true (by simp; omega)
   simp only [g0, g1, el, aS, cK, fD, d1, d2, fR, bX, bM]
   rfl
  ·have d2 : decide ((s.length : Int) > Int.ofNat 60) = false := decide_eq_false (by simp; omega)
   have hl : 1 ≤ s.length ∧ s.length ≤ 60 := by omega
   simp only [g0, g1, el, aS, cK, fD, d1, d2, fR, bX, bJ, gB, qF, K.W.l2]
   rcases bDr s (fun e he => by obtain ⟨k, x, h1, _⟩ := K.sy e he; exact ⟨k, x, h1⟩) with ⟨x, f1, f2⟩ | ⟨f1, f2⟩
   ·
    obtain ⟨k, y, e1, T⟩ := K.sy _ f2
    simp only [bQ, DV.s.injEq, DV.i.injEq, true_and] at e1
    obtain ⟨rfl, rfl⟩ := e1
    have hx : x ≠ 0 := fun e => T.at0 (by rw [e]; rfl)
    have z1 : (x != Int.ofNat 0) = true := by
     have : (x == Int.ofNat 0) = false := by simpa using hx
     rw [bne, this]; rfl
    have lk : dP .string (.i .i64 (Int.ofNat 0)) false (.m (aO 5)) (.s s) h = some (iD x, h) := by
     simp only [dP, fQ, K.W.sy, f1, cond_false]
    refine ⟨x, 0, h, M, R, es, ?_, K, Up.refl h, Stay.refl _ _ _ _, .inr ⟨hl, rfl, f1, T⟩⟩
    simp only [lk, aS, gI, z1, bM]
    rfl
   ·
    have lk : dP .string (.i .i64 (Int.ofNat 0)) false (.m (aO 5)) (.s s) h = some (.i .i64 (Int.ofNat 0), h) := by
     simp only [dP, fQ, K.W.sy, f1, cond_false]
    have z0 : (Int.ofNat 0 != Int.ofNat 0) = false := rfl
    obtain ⟨h1, M1, e1, W1, U1, g1⟩ := K.W.bytes49 K.G (K.rk 11 (by omega)) hs (by omega) (by omega) hn
    have K1 : Wk h1 M1 R es := g1.wk K W1 (K.rk 11 (by omega)) (by omega) (by simp; omega) (by simp; omega) (by omega)
    have T1 : TxO M1 (R.getD 13 0) (.ofNat (M.fin * 2)) s := g1.new_txo K.G hs (by omega)
    have hf1 := g1.fin
    have hn1 := g1.n
    have hd1 := g1.made
    rw [List.length_map] at hf1
    obtain ⟨h2, M2, e2, K2, U2, g2⟩ := K1.push (x := .ofNat (M.fin * 2)) (y := R.getD 0 0) (mL T1.at0) K1.r0 (by omega) (by omega) (n := n) (by omega)
    have T2 := g2.txo K1.G T1
    have G1 := K1.G
    have ha : bV (.ofNat (M1.fin * 2)) M2.pl = M1.fin := by rw [g2.pl]; exact yP G1.lo (by have := G1.le; have := G1.hi; omega)
    obtain ⟨e3, W3, U3⟩ := K2.W.setR0 (.ofNat (M1.fin * 2))
    obtain ⟨W4, U4⟩ := W3.setS (es ++ [(.s s, .i .i64 (Int.ofNat 0))])
    obtain ⟨W5, U5⟩ := W4.setS (es ++ [(.s s, .i .i64 (.ofNat (M.fin * 2)))])
    have rset : ∀ i, (R.set 0 (Int.ofNat (M1.fin * 2))).getD (i + 1) 0 = R.getD (i + 1) 0 := fun i => by
     simp [List.getD, List.getElem?_set]
    have me : fS .string (.i .i64 (Int.ofNat 0)) (.m (aO 5)) (.s s) ⟨h2.next, Tr.set (.row .ex ((R.set 0 (Int.ofNat (M1.fin * 2))).map iD)) (aO 4) h2.bl⟩ =
      some (.t [.i .i64 (Int.ofNat 0), .i .i64 (.ofNat es.length)], ⟨h2.next, Tr.set (.mp (es ++ [(.s s, .i .i64 (Int.ofNat 0))])) (aO 5) (Tr.set (.row .ex ((R.set 0 (Int.ofNat (M1.fin * 2))).map iD)) (aO 4) h2.bl)⟩) := by
     simp only [fS, W3.sy, f2]
     rfl
    have ms : eA (.m (aO 5)) (.i .i64 (.ofNat es.length)) (.i .i64 (.ofNat (M.fin * 2))) ⟨h2.next, Tr.set (.mp (es ++ [(.s s, .i .i64 (Int.ofNat 0))])) (aO 5) (Tr.set (.row .ex ((R.set 0 (Int.ofNat (M1.fin * 2))).map iD)) (aO 4) h2.bl)⟩ =
      some (aW, ⟨h2.next, Tr.set (.mp (es ++ [(.s s, .i .i64 (.ofNat (M.fin * 2)))])) (aO 5) (Tr.set (.mp (es ++ [(.s s, .i .i64 (Int.ofNat 0))])) (aO 5) (Tr.set (.row .ex ((R.set 0 (Int.ofNat (M1.fin * 2))).map iD)) (aO 4) h2.bl))⟩) := by
     have q1 : (es ++ [(DV.s s, DV.i .i64 (Int.ofNat 0))])[es.length]? = some (.s s, .i .i64 (Int.ofNat 0)) := by simp
     have q2 : (es ++ [(DV.s s, DV.i .i64 (Int.ofNat 0))]).set es.length (.s s, .i .i64 (.ofNat (M.fin * 2))) = es ++ [(.s s, .i .i64 (.ofNat (M.fin * 2)))] := by simp
     simp only [eA, W4.sy, q1, q2]
    have ix : ∀ h, aJ 1 (.l (aO 4) 0 18 18) (.i .i64 (Int.ofNat 0)) h = some (.p (aO 4) 0, h) := fun h => rfl
    refine ⟨.ofNat (M.fin * 2), 0, _, M2, R.set 0 (.ofNat (M1.fin * 2)), es ++ [(.s s, .i .i64 (.ofNat (M.fin * 2)))], ?_, ⟨W5, K2.G, ?_, ?_, ?_⟩, (((U1.trans U2).trans U3).trans U4).trans U5, ?_, .inr ⟨hl, rfl, bVl f1, T2⟩⟩
    ·simp only [lk, aS, gI, z0, bJ, K.W.known (show 11 < 16 by omega), show 2 + 11 = 13 from rfl, e1, nH, nJ, K1.W.l1, ix, gB, qF, K1.W.root (show 0 < 18 by omega), e2, K2.W.l1, K2.W.l2, e3, me, ms]
     rfl
    ·intro e he
     simp only [List.mem_append, List.mem_singleton] at he
     rcases he with he | rfl
     ·obtain ⟨k, y, q1, q2⟩ := K2.sy e he
      exact ⟨k, y, q1, by rw [show (13 : Nat) = 12 + 1 from rfl, rset]; exact q2⟩
     ·exact ⟨s, _, rfl, by rw [show (13 : Nat) = 12 + 1 from rfl, rset]; exact T2⟩
    ·have : (R.set 0 (Int.ofNat (M1.fin * 2))).getD 0 0 = Int.ofNat (M1.fin * 2) := by
      have hrl := K.W.rl
      cases R with
      | nil => simp at hrl
      | cons a l => rfl
     rw [this]
     exact mL (by rw [ha]; have := G1.lo; omega)
    ·intro i hi
     rw [show 2 + i = (1 + i) + 1 by omega, rset, show (1 + i) + 1 = 2 + i by omega]
     exact K2.rk i hi
    ·have st := (g1.stay K.G R es (fun CL I => I.newK (i := 11) (.inr (.inl ⟨.inr rfl, rfl⟩)) (by rw [List.length_map]; omega) (fun _ v hv => by obtain ⟨c, q1, q2⟩ := List.mem_map.1 hv; exact ⟨c, hs c q1, q2.symm⟩))).trans (g2.stay K1.G R es (fun CL I => I.newK (i := 9) (.inl ⟨rfl, rfl⟩) (by simp) (fun q => by cases q)))
     rw [List.length_map] at st
     have hf2 := g2.fin
     have hd2 := g2.made
     refine ⟨st.n, ?_, ?_, st.lo, st.tx, st.at', rset, fun k v e => bQe e, fun CL I => (st.gi CL I).roots rset, st.old⟩
     ·simp at hf2; omega
     ·omega
theorem Wk.string (K : Wk h M R es) {s : List Nat} (hs : ∀ c ∈ s, c < 256) (room : M.fin + 260 ≤ M.n) (hm : M.made < 800000) {n : Nat} (hn : 300 < n) :
  ∃ a e h' M', dC (n + 3) 43 [.p (aO 7) 0, .s s] h = some (.t [.i .i64 a, .i .i64 e], h') ∧ Wk h' M' R es ∧ Up h h' ∧ Stay 260 M M' R R es es ∧
   ((¬ s.length ≤ 250 ∧ e = 1 ∧ a = 0) ∨ (s.length ≤ 250 ∧ e = 0 ∧ a = .ofNat (M.fin * 2) ∧ TxO M' (R.getD 12 0) a s)) := by
 rw [nQ 43 rfl, cWa]
 unfold s43
 have el : ∀ h, dV (.s s) h = some (.i .i64 (s.length : Int), h) := fun h => rfl
 by_cases c1 : s.length > 250
 ·refine ⟨0, 1, h, M, ?_, K, Up.refl h, Stay.refl _ _ _ _, .inl ⟨by omega, rfl, rfl⟩⟩
  have d1 : decide ((s.length : Int) > Int.ofNat 250) = true := decide_eq_true (by simp; omega)
  simp only [g0, g1, el, aS, fD, d1, bM]
  rfl
 ·have d1 : decide ((s.length : Int) > Int.ofNat 250) = false := decide_eq_false (by simp; omega)
  obtain ⟨h1, M1, e1, W1, U1, g1⟩ := K.W.bytes49 K.G (K.rk 10 (by omega)) hs (by omega) (by omega) hn
  have K1 : Wk h1 M1 R es := g1.wk K W1 (K.rk 10 (by omega)) (by omega) (by simp; omega) (by simp; omega) (by omega)
  have T1 : TxO M1 (R.getD 12 0) (.ofNat (M.fin * 2)) s := g1.new_txo K.G hs (by omega)
  refine ⟨.ofNat (M.fin * 2), 0, h1, M1, ?_, K1, U1, ?_, .inr ⟨by omega, rfl, rfl, T1⟩⟩
  ·simp only [g0, Dd.g1, el, aS, fD, d1, bJ, K.W.known (show 10 < 16 by omega), show 2 + 10 = 12 from rfl, e1, nH, nJ]
   rfl
  ·have st := g1.stay K.G R es (fun CL I => I.newK (i := 10) (.inr (.inl ⟨.inl rfl, rfl⟩)) (by rw [List.length_map]; omega) (fun _ v hv => by obtain ⟨c, q1, q2⟩ := List.mem_map.1 hv; exact ⟨c, hs c q1, q2.symm⟩))
   rw [List.length_map] at st
   exact ⟨st.n, by have := st.fin; omega, by have := st.made; omega, st.lo, st.tx, st.at', st.r, st.fd, st.gi, st.old⟩
end
end Go.Dd

namespace Go.Dd
open Go.Proofs
noncomputable def byE (t : WT) (s : List Nat) : Nat → Bool := List.rec (motive := fun _ => Nat → Bool) (fun _ => true) (fun c _ ih a => Nat.blt c 256 && (gN (t.get a) (.ofNat c) && ih (Nat.add a 1))) s
noncomputable def bPd (M : MemV) (cls : Int) (e : List Nat × Nat) : Bool :=
 !(Nat.beq (bV (.ofNat e.2) M.pl) 0) && (gN (M.t.get (bV (.ofNat e.2) M.pl)) (.ofNat (Nat.add (Nat.mul e.1.length 4) 2)) && (gN (M.t.get (Nat.add (bV (.ofNat e.2) M.pl) 1)) cls && (Nat.ble e.1.length 256 && byE M.t e.1 (Nat.add (bV (.ofNat e.2) M.pl) 3))))
theorem bQj (t : WT) : ∀ (s : List Nat) (a : Nat), byE t s a = true → (∀ c ∈ s, c < 256) ∧ ∀ i c, s[i]? = some c → t.get (a + i) = .ofNat c
 | [], a, _ => ⟨by simp, fun i c h => by simp at h⟩
 | c :: s, a, h => by
  change (Nat.blt c 256 && (gN (t.get a) (.ofNat c) && byE t s (a + 1))) = true at h
  simp only [Bool.and_eq_true, gH, decide_eq_true_eq] at h
  obtain ⟨h1, h2⟩ := bQj t s (a + 1) h.2.2
  refine ⟨fun d hd => ?_, fun i d hi => ?_⟩
  ·simp only [List.mem_cons] at hd
   rcases hd with rfl | hd
   ·exact h.1
   ·exact h1 d hd
  ·cases i with
   | zero =>
    simp only [List.getElem?_cons_zero, bE] at hi
    subst hi
    exact nD _ _ h.2.1
   | succ i =>
    rw [show a + (i + 1) = a + 1 + i by omega]
    exact h2 i d (by simpa using hi)
theorem bCq {M : MemV} {cls : Int} {e : List Nat × Nat} (h : bPd M cls e = true) : TxO M cls (.ofNat e.2) e.1 := by
 unfold bPd at h
 simp only [Bool.and_eq_true, jM, decide_eq_true_eq] at h
 obtain ⟨h1, h2, h3, h4, h5⟩ := h
 obtain ⟨b1, b2⟩ := bQj _ _ _ h5
 refine ⟨fun e => (by rw [e] at h1; cases h1), nD _ _ h2, nD _ _ h3, b1, h4, b2⟩
noncomputable def cZa (p : List Nat × Nat → Bool) (l : List (List Nat × Nat)) : Bool := List.rec (motive := fun _ => Bool) true (fun x _ ih => p x && ih) l
theorem aMp {p : List Nat × Nat → Bool} : ∀ {l : List (List Nat × Nat)}, cZa p l = true → ∀ a ∈ l, p a = true
 | [], _, a, h => by cases h
 | x :: l, hl, a, h => by
  change (p x && cZa p l) = true at hl
  simp only [Bool.and_eq_true] at hl
  simp only [List.mem_cons] at h
  rcases h with rfl | h
  ·exact hl.1
  ·exact aMp hl.2 a h
theorem zT : ∀ (l : List (List Nat × Nat)) (e : DV × DV), e ∈ bGj l → ∃ x ∈ l, e = (.s x.1, .i .i64 (.ofNat x.2))
 | [], e, h => by cases h
 | x :: l, e, h => by
  change e ∈ (DV.s x.1, DV.i .i64 (.ofNat x.2)) :: bGj l at h
  simp only [List.mem_cons] at h
  rcases h with rfl | h
  ·exact ⟨x, by simp, rfl⟩
  ·obtain ⟨y, h1, h2⟩ := zT l e h
   exact ⟨y, by simp [h1], h2⟩
theorem cJp : cZa (bPd MN (RN.getD 13 0)) syN = true := by kernel_rfl
theorem KN : Wk hW MN RN esN := ⟨WN, GN, fun e he => by
 obtain ⟨x, h1, h2⟩ := zT syN e he
 exact ⟨x.1, _, h2, bCq (aMp cJp x h1)⟩, by kernel_rfl, dMc⟩
theorem cEx (s : List Nat) (h : Hp) : dV (.s s) h = some (.i .i64 (s.length : Int), h) := rfl
theorem aLm (s : ByteArray) : ∀ c ∈ s.data.toList.map (·.toNat), c < 256 := by
 intro c hc
 obtain ⟨b, _, rfl⟩ := List.mem_map.1 hc
 exact b.toNat_lt
end Go.Dd

namespace Go.Dd
open Go.Proofs
theorem bHv (x : Int) : gN x x = true := by
 cases x with
 | ofNat n => exact Nat.beq_refl n
 | negSucc n => exact Nat.beq_refl n
theorem dH (x y : Int) : gN x y = true ↔ x = y := ⟨nD x y, fun e => by rw [e]; exact bHv y⟩
noncomputable def bVm (p : Nat → Bool) (n : Nat) : Bool := Nat.rec (motive := fun _ => Bool) true (fun i ih => p i && ih) n
theorem tM {p : Nat → Bool} : ∀ {n : Nat}, bVm p n = true → ∀ i, i < n → p i = true
 | 0, _, i, h => by omega
 | n + 1, hl, i, h => by
  change (p n && bVm p n) = true at hl
  simp only [Bool.and_eq_true] at hl
  by_cases e : i = n
  ·rw [e]; exact hl.1
  ·exact tM hl.2 i (by omega)
noncomputable def cRu (a : Nat) (l : List Nat) : Bool := List.rec (motive := fun _ => Bool) false (fun x _ ih => Nat.beq a x || ih) l
theorem vY {a : Nat} : ∀ {l : List Nat}, cRu a l = true → a ∈ l
 | [], h => by cases h
 | x :: l, h => by
  change (Nat.beq a x || cRu a l) = true at h
  simp only [Bool.or_eq_true] at h
  rcases h with h | h
  ·rw [Nat.eq_of_beq_eq_true h]; exact List.mem_cons_self
  ·exact List.mem_cons_of_mem _ (vY h)
noncomputable def byB (v : Int) : Bool := match v with
 | .ofNat c => Nat.blt c 256
 | .negSucc _ => false
noncomputable def aVj (a b : Bool) : Bool := bif a then b else true
theorem kN {a b : Bool} (h : aVj a b = true) (ha : a = true) : b = true := by rw [ha] at h; exact h
noncomputable def obB (M : MemV) (R : List Int) (CL : List Nat) (a hd : Nat) : Bool :=
 Nat.ble (Nat.div hd 4) 256 && (Nat.ble (Nat.mod hd 4) 2 && (aVj (gN (M.t.get (Nat.add a 1)) (R.getD 11 0)) (Nat.beq (Nat.mod hd 4) 0) &&
  (aVj (gN (M.t.get (Nat.add a 1)) (R.getD 12 0)) (Nat.beq (Nat.mod hd 4) 2) && (aVj (gN (M.t.get (Nat.add a 1)) (R.getD 13 0)) (Nat.beq (Nat.mod hd 4) 2) &&
  (aVj (Nat.beq (Nat.mod hd 4) 2) (bVm (fun i => byB (M.t.get (Nat.add (Nat.add a 3) i))) (Nat.div hd 4)) && (aVj (gN (M.t.get (Nat.add a 1)) (R.getD 3 0)) (cRu a CL) &&
  aLw (fun c => aVj (gN (M.t.get (Nat.add c 8)) 1) (!(gN (M.t.get (Nat.add a 1)) (.ofNat (Nat.mul 2 c))))) CL))))))
theorem dBs {M : MemV} {R : List Int} {CL : List Nat} {a hd : Nat} (h : obB M R CL a hd = true) : ObI M R CL a hd := by
 unfold obB at h
 simp only [Bool.and_eq_true, jM, decide_eq_true_eq] at h
 obtain ⟨h1, h2, h3, h4, h5, h6, h7, h8⟩ := h
 refine ⟨h1, h2, fun q => ?_, fun q => ?_, fun q i hi => ?_, fun q => ?_, fun _ c hc q1 q2 => ?_⟩
 ·exact Nat.eq_of_beq_eq_true (kN h3 ((dH _ _).2 q))
 ·rcases q with q | q
  ·exact Nat.eq_of_beq_eq_true (kN h4 ((dH _ _).2 q))
  ·exact Nat.eq_of_beq_eq_true (kN h5 ((dH _ _).2 q))
 ·have hb := tM (kN h6 (show Nat.beq (Nat.mod hd 4) 2 = true by rw [show Nat.mod hd 4 = 2 from q]; rfl)) i hi
  change byB (M.t.get (a + 3 + i)) = true at hb
  cases hv : M.t.get (a + 3 + i) with
  | ofNat c => rw [hv] at hb; exact ⟨c, by simpa [byB, gH] using hb, rfl⟩
  | negSucc c => rw [hv] at hb; cases hb
 ·exact vY (kN h7 ((dH _ _).2 q))
 ·exfalso
  have q3 := kN (jP h8 c hc) ((dH _ _).2 q1)
  rw [(dH _ _).2 (show M.t.get (Nat.add a 1) = .ofNat (Nat.mul 2 c) from q2)] at q3
  cases q3
noncomputable def aBg (M : MemV) (a : Nat) (p : Nat → Bool) : Bool := match M.t.get a with
 | .ofNat hd => p hd
 | .negSucc _ => true
noncomputable def clB (M : MemV) (R : List Int) (c : Nat) : Bool :=
 Nat.ble 3 c && (Nat.ble c 131072 && (!(gN (M.pl.get c) 0) && (gN (M.t.get c) (.ofNat 24) && (gN (M.t.get (Nat.add c 1)) (R.getD 3 0) &&
  (aBg M (Nat.add c 5) (fun s => Nat.ble s 33 && Nat.beq (Nat.mod s 2) 1) && (aBg M (Nat.add c 8) (fun s => Nat.ble s 7 && Nat.beq (Nat.mod s 2) 1) && (byB (M.t.get (Nat.add c 5)) && byB (M.t.get (Nat.add c 8)))))))))
noncomputable def nmB (M : MemV) (R : List Int) (sy : List (List Nat × Nat)) (c : Nat) : Bool :=
 List.rec (motive := fun _ => Bool) false (fun e _ ih => (gN (M.t.get (Nat.add c 3)) (.ofNat e.2) && (bPd M (R.getD 13 0) e && (Nat.ble 1 e.1.length && Nat.ble e.1.length 60))) || ih) sy
theorem bWt {M : MemV} {R : List Int} {c : Nat} : ∀ {sy : List (List Nat × Nat)}, nmB M R sy c = true → ∃ s, TxO M (R.getD 13 0) (M.t.get (c + 3)) s ∧ 1 ≤ s.length ∧ s.length ≤ 60
 | [], h => by cases h
 | e :: sy, h => by
  change ((gN (M.t.get (c + 3)) (.ofNat e.2) && (bPd M (R.getD 13 0) e && (Nat.ble 1 e.1.length && Nat.ble e.1.length 60))) || nmB M R sy c) = true at h
  simp only [Bool.or_eq_true] at h
  rcases h with h | h
  ·simp only [Bool.and_eq_true, jM, decide_eq_true_eq] at h
   obtain ⟨q1, q2, q3, q4⟩ := h
   exact ⟨e.1, by rw [(dH _ _).1 q1]; exact bCq q2, q3, q4⟩
  ·exact bWt h
theorem cXi {M : MemV} {R : List Int} {c : Nat} {sy : List (List Nat × Nat)} (h : clB M R c = true) (hn : nmB M R sy c = true) : ClI M R c := by
 unfold clB at h
 simp only [Bool.and_eq_true, jM, decide_eq_true_eq] at h
 obtain ⟨h1, h2, h3, h4, h5, h6, h7, h8, h9⟩ := h
 have num : ∀ (j m : Nat), aBg M (c + j) (fun s => decide (s ≤ 2 * m + 1) && Nat.beq (Nat.mod s 2) 1) = true → byB (M.t.get (c + j)) = true → ∃ z : Nat, z ≤ m ∧ M.t.get (c + j) = .ofNat (2 * z + 1) := fun j m q1 q2 => by
  cases hv : M.t.get (c + j) with
  | negSucc x => rw [hv] at q2; cases q2
  | ofNat x =>
   unfold aBg at q1
   rw [hv] at q1
   simp only [Bool.and_eq_true, decide_eq_true_eq] at q1
   have e : x % 2 = 1 := Nat.eq_of_beq_eq_true q1.2
   exact ⟨x / 2, by omega, by rw [show 2 * (x / 2) + 1 = x by omega]⟩
 refine ⟨⟨h1, h2⟩, fun e => ?_, (dH _ _).1 h4, (dH _ _).1 h5, bWt hn, num 5 16 h6 h8, num 8 3 h7 h9⟩
 rw [e] at h3
 cases h3
noncomputable def djB (M : MemV) (l : List Nat) : Nat → Bool := List.rec (motive := fun _ => Nat → Bool) (fun _ => true) (fun a _ ih lo => Nat.ble lo a && (match M.t.get a with
 | .ofNat hd => ih (Nat.add (Nat.add a 3) (Nat.div hd 4))
 | .negSucc _ => false)) l
theorem bNa {M : MemV} : ∀ {l : List Nat} {lo : Nat}, djB M l lo = true → (∀ a ∈ l, lo ≤ a) ∧ ∀ a ∈ l, ∀ b ∈ l, a < b → ∀ hd : Nat, M.t.get a = .ofNat hd → a + 3 + hd / 4 ≤ b
 | [], lo, h => ⟨fun a ha => (by cases ha), fun a ha => (by cases ha)⟩
 | x :: l, lo, h => by
  change (Nat.ble lo x && (match M.t.get x with
   | .ofNat hd => djB M l (x + 3 + hd / 4)
   | .negSucc _ => false)) = true at h
  simp only [Bool.and_eq_true, jM, decide_eq_true_eq] at h
  obtain ⟨h1, h2⟩ := h
  cases hx : M.t.get x with
  | negSucc k => rw [hx] at h2; cases h2
  | ofNat k =>
   rw [hx] at h2
   obtain ⟨i1, i2⟩ := bNa (l := l) h2
   refine ⟨fun a ha => ?_, fun a ha b hb hab hd hh => ?_⟩
   ·rcases List.mem_cons.1 ha with rfl | ka
    ·exact h1
    ·have := i1 a ka
     omega
   ·rcases List.mem_cons.1 ha with rfl | ka
    ·rcases List.mem_cons.1 hb with rfl | kb
     ·omega
     ·rw [hx] at hh
      cases hh
      exact i1 b kb
    ·rcases List.mem_cons.1 hb with rfl | kb
     ·have := i1 a ka
      omega
     ·exact i2 a ka b kb hab hd hh
noncomputable def giB (M : MemV) (R : List Int) (CL : List Nat) (pls : List Nat) (sy : List (List Nat × Nat)) : Bool :=
 djB M pls 0 && (gN (M.t.get 0) 0 && (gN (M.t.get 1) 0 && (aLw (fun a => aBg M a (obB M R CL a)) pls && (aLw (fun c => clB M R c && nmB M R sy c) CL &&
  (bVm (fun i => gN (R.getD (Nat.add 2 i) 0) (.ofNat (Nat.add 6 (Nat.mul 18 i)))) 16 && (bVm (fun i => cRu (Nat.add 3 (Nat.mul 9 i)) CL) 16 &&
  (gN (M.t.get 92) 3 && (gN (M.t.get 101) 5 && (gN (M.t.get 110) 5 && (gN (M.t.get 83) 7 && gN (M.t.get 20) 7))))))))))
theorem dGi {M : MemV} {R : List Int} {CL : List Nat} {pls : List Nat} {sy : List (List Nat × Nat)} (hp : M.pl = mkP pls .e) (hb : ∀ x ∈ pls, x < 16000000) (h : giB M R CL pls sy = true) : GI M R CL := by
 unfold giB at h
 simp only [Bool.and_eq_true] at h
 obtain ⟨h0, h1, h2, h3, h4, h5, h6, h7, h8, h9, h10, h11⟩ := h
 have mem : ∀ a, M.pl.get a ≠ 0 → a ∈ pls := fun a ha => by
  rw [hp] at ha
  rcases vB pls .e a hb ha with q | q
  ·exact q
  ·exact absurd rfl q
 refine ⟨(dH _ _).1 h1, (dH _ _).1 h2, fun a ha hd hh => ?_, fun a b ha hb' => (bNa h0).2 a (mem a ha) b (mem b hb'), fun c hc => ?_, fun i hi => (dH _ _).1 (tM h5 i hi), fun i hi => vY (tM h6 i hi), (dH _ _).1 h7, (dH _ _).1 h8, (dH _ _).1 h9, (dH _ _).1 h10, (dH _ _).1 h11⟩
 ·have hm : a ∈ pls := by
   rw [hp] at ha
   rcases vB pls .e a hb ha with q | q
   ·exact q
   ·exact absurd rfl q
  have q := jP h3 a hm
  unfold aBg at q
  rw [hh] at q
  exact dBs q
 ·have q := jP h4 c hc
  simp only [Bool.and_eq_true] at q
  exact cXi q.1 q.2
def CLW : List Nat := [3, 12, 21, 30, 39, 48, 57, 66, 75, 84, 93, 102, 111, 120, 129, 138, 4357]
theorem cEr : giB MN RN CLW plN syN = true := by kernel_rfl
theorem dGf : aLw (fun x => Nat.blt x 16000000) plN = true := by kernel_rfl
theorem GIN : GI MN RN CLW := dGi cVv (fun x hx => by have := jP dGf x hx; simpa [gH] using this) cEr
end Go.Dd

namespace Go.Dd
open Go.Proofs
noncomputable def cQ (M : MemV) (o : Int) : Nat := match M.t.get (bV o M.pl) with
 | .ofNat hd => hd
 | .negSucc _ => 0
noncomputable def lX (M : MemV) (o : Int) (i : Nat) : Int := if bV o M.pl ≠ 0 ∧ i < cQ M o / 4 then M.t.get (bV o M.pl + 3 + i) else 0
noncomputable def nY (M : MemV) (o : Int) : Int := M.t.get (bV o M.pl + 1)
noncomputable def isC (M : MemV) (R : List Int) (c : Int) : Bool := decide (bV c M.pl ≠ 0 ∧ nY M c = R.getD 3 0)
noncomputable def aSe (w : Int) : Int := if cX w = true then oY w else 0
noncomputable def hD (M : MemV) (R : List Int) (c : Int) : Int := if isC M R c = true then aSe (lX M c 5) else -1
noncomputable def pR (M : MemV) (R : List Int) (c : Int) : Int := if isC M R c = true then aSe (lX M c 2) else 0
noncomputable def lY (M : MemV) (R : List Int) (x : Int) : Option Int := if cX x = true then some (oY x) else if (bV x M.pl ≠ 0 ∧ nY M x = R.getD 10 0) ∧ cQ M x % 4 = 1 then some (lX M x 0) else none
section
variable {h : Hp} {M : MemV} {R : List Int} {es : List (DV × DV)} {CL : List Nat} {z : Prop}
theorem bYx {M : MemV} {o : Int} (h : bV o M.pl ≠ 0) : M.pl.get (bV o M.pl) ≠ 0 := by
 rcases lG o M.pl with e | ⟨e, _⟩
 ·exact absurd e h
 ·have := (atN_pos (o := o) (pl := M.pl)).1 h
  rw [e]
  exact this.2
theorem GI.head (I : GI M R CL z) (G : Good M) (o : Int) (k : Nat → aH) : iB M o k = k (cQ M o) := by
 by_cases e : bV o M.pl = 0
 ·have b1 : Nat.blt (Nat.add (bV o M.pl) 1) M.n = true := by
   rw [gH, e]
   have := G.lo; have := G.le
   exact decide_eq_true (show 0 + 1 < M.n by omega)
  unfold iB cQ
  rw [b1, e, I.z0]
  rfl
 ·obtain ⟨h3, hd, h1, h2, h4, _⟩ := G.ob _ (bYx e)
  have hl := G.le
  have b1 : Nat.blt (Nat.add (bV o M.pl) 1) M.n = true := by
   rw [gH]; exact decide_eq_true (show bV o M.pl + 1 < M.n by omega)
  have b2 : Nat.blt hd 1000000000000 = true := by rw [gH]; exact decide_eq_true h2
  unfold iB cQ
  rw [b1, h1]
  simp only [cond_true, b2]
theorem GI.headOb (I : GI M R CL z) (G : Good M) {o : Int} (e : bV o M.pl ≠ 0) : M.t.get (bV o M.pl) = .ofNat (cQ M o) ∧ ObI M R CL (bV o M.pl) (cQ M o) z ∧ bV o M.pl + 3 + cQ M o / 4 ≤ M.fin ∧ 3 ≤ bV o M.pl := by
 obtain ⟨h3, hd, h1, h2, h4, _⟩ := G.ob _ (bYx e)
 have eh : cQ M o = hd := by unfold cQ; rw [h1]
 rw [eh]
 exact ⟨h1, I.ob _ (bYx e) _ h1, h4, h3⟩
theorem Wd.clsA (W : Wd h M R es) (G : Good M) (I : GI M R CL z) (o : Int) : iW [.p (aO 3) 0, .i .i64 o] h = some (iD (nY M o), h) := by
 simp only [iW, jC, W.mem, I.head G, Nat.add_eq, nY]
theorem Wd.fmtA (W : Wd h M R es) (G : Good M) (I : GI M R CL z) (o : Int) : jD [.p (aO 3) 0, .i .i64 o] h = some (.i .i64 (.ofNat (cQ M o % 4)), h) := by
 simp only [jD, jC, W.mem, I.head G]
 rfl
theorem Wd.fieldsA (W : Wd h M R es) (G : Good M) (I : GI M R CL z) (o : Int) : fT [.p (aO 3) 0, .i .i64 o] h = some (.i .i64 (.ofNat (cQ M o / 4)), h) := by
 simp only [fT, jC, W.mem, I.head G]
 rfl
theorem Wd.getA (W : Wd h M R es) (G : Good M) (I : GI M R CL z) (o : Int) (i : Nat) : ∃ e, sT [.p (aO 3) 0, .i .i64 o, .i .i64 (.ofNat i)] h = some (.t [iD (lX M o i), iD e], h) ∧ (e = 0 ↔ (bV o M.pl ≠ 0 ∧ i < cQ M o / 4)) := by
 unfold lX
 by_cases e : bV o M.pl = 0
 ·refine ⟨1, ?_, by simp [e]⟩
  rw [if_neg (by simp [e])]
  simp only [sT, jC, W.mem, gS, e, err]
  rfl
 ·obtain ⟨h1, _, h4, h3⟩ := I.headOb G e
  have hl := G.le
  by_cases hi : i < cQ M o / 4
  ·refine ⟨0, ?_, by simp [e, hi]⟩
   rw [if_pos ⟨e, hi⟩]
   have b1 : Nat.ble (Nat.div (cQ M o) 4) i = false := by
    rw [jM]; exact decide_eq_false (show ¬ (cQ M o / 4 ≤ i) by omega)
   have b2 : Nat.blt (Nat.add (Nat.add (bV o M.pl) 3) i) M.n = true := by
    rw [gH]; exact decide_eq_true (show bV o M.pl + 3 + i < M.n by omega)
   simp only [sT, jC, W.mem, gS, bUa e, cond_false, I.head G, b1, b2, cond_true]
   rfl
  ·refine ⟨5, ?_, by simp [hi]⟩
   rw [if_neg (by simp [hi])]
   have b1 : Nat.ble (Nat.div (cQ M o) 4) i = true := by
    rw [jM]; exact decide_eq_true (show cQ M o / 4 ≤ i by omega)
   simp only [sT, jC, W.mem, gS, bUa e, cond_false, I.head G, b1, cond_true, err]
   rfl
theorem Wd.getG (W : Wd h M R es) (G : Good M) (I : GI M R CL z) (o : Int) (i n : Nat) : dC (n + 1) 51 [.p (aO 7) 0, .i .i64 o, .i .i64 (.ofNat i)] h = some (iD (lX M o i), h) := by
 rw [nQ 51 rfl, cWb]
 unfold s51
 obtain ⟨e, h1, _⟩ := W.getA G I o i
 have g2 : ∀ (a b c : DV) (l : List DV), (a :: b :: c :: l).getD 2 aW = c := fun _ _ _ _ => rfl
 simp only [g0, g1, g2, gB, qF, aS, W.l00, h1, nH, nJ]
theorem Wd.isClass (W : Wd h M R es) (G : Good M) (I : GI M R CL z) (c : Int) (n : Nat) : dC (n + 2) 67 [.p (aO 7) 0, .i .i64 c] h = some (.b (isC M R c), h) := by
 rw [nQ 67 rfl, cVn]
 unfold s67
 by_cases e : bV c M.pl = 0
 ·have b : (!(Nat.beq (bV c M.pl) 0)) = false := by rw [e]; rfl
  have d : isC M R c = false := decide_eq_false (fun q => q.1 e)
  simp only [g0, g1, gB, qF, aS, W.l00, W.is, b, lS, sR, bX, d]
 ·have b : (!(Nat.beq (bV c M.pl) 0)) = true := by rw [bUa e]; rfl
  have k : dC (n + 1) 30 [.p (aO 7) 0, .i .i64 (Int.ofNat 1)] h = some (iD (R.getD 3 0), h) := W.known (show 1 < 16 by omega) n
  by_cases e2 : nY M c = R.getD 3 0
  ·have d : isC M R c = true := decide_eq_true ⟨e, e2⟩
   obtain ⟨h1, O, _, _⟩ := I.headOb G e
   have hm := O.cls e2
   have h6 : cQ M c / 4 = 6 := by
    have := (I.cl _ hm).hd
    rw [h1] at this
    have := Int.ofNat.inj this
    omega
   have z : (Int.ofNat 6 == Int.ofNat 6) = true := rfl
   have zz : (nY M c == R.getD 3 0) = true := by rw [e2]; exact beq_self_eq_true _
   simp only [g0, g1, gB, qF, aS, W.l00, W.is, b, qJ, W.clsA G I, k, bY, zz, cM, W.fieldsA G I, h6, z, d]
  ·have d : isC M R c = false := decide_eq_false (fun q => e2 q.2)
   have zz : (nY M c == R.getD 3 0) = false := by simpa using e2
   simp only [g0, g1, gB, qF, aS, W.l00, W.is, b, qJ, W.clsA G I, k, bY, zz, cM, bX, lS, sR, d]
theorem cYz (w : Int) (h : Hp) : jQ [.i .i64 w] h = some (iD (aSe w), h) := by
 show ((bif cX w then some (DV.i .i64 (oY w), h) else some (DV.i .i64 (.ofNat 0), h)) : aH) = _
 unfold aSe
 cases cX w <;> rfl
theorem Wd.kind (W : Wd h M R es) (G : Good M) (I : GI M R CL z) (c : Int) (n : Nat) : dC (n + 3) 32 [.p (aO 7) 0, .i .i64 c] h = some (iD (hD M R c), h) := by
 rw [nQ 32 rfl, cUx]
 unfold s32 hD
 cases hc : isC M R c with
 | false => simp only [g0, g1, W.isClass G I c n, hc, aS, iE, Bool.not_false, bM]; rfl
 | true => simp only [g0, g1, W.isClass G I c n, hc, aS, iE, Bool.not_true, bJ, W.getG G I c 5 (n + 1), cYz, if_true]
theorem Wd.size (W : Wd h M R es) (G : Good M) (I : GI M R CL z) (c : Int) (n : Nat) : dC (n + 3) 37 [.p (aO 7) 0, .i .i64 c] h = some (iD (pR M R c), h) := by
 rw [nQ 37 rfl, cUm]
 unfold s37 pR
 cases hc : isC M R c with
 | false => simp only [g0, g1, W.isClass G I c n, hc, aS, iE, Bool.not_false, bM]; rfl
 | true => simp only [g0, g1, W.isClass G I c n, hc, aS, iE, Bool.not_true, bJ, W.getG G I c 2 (n + 1), cYz, if_true]
theorem Wd.value (W : Wd h M R es) (G : Good M) (I : GI M R CL z) (x : Int) (n : Nat) : dC (n + 2) 15 [.p (aO 7) 0, .i .i64 x] h = some (.t [iD ((lY M R x).getD 0), .b (lY M R x).isSome], h) := by
 rw [nQ 15 rfl, cUk]
 unfold s15 lY
 cases hs : cX x with
 | true =>
  have e1 : ∀ h, eM [.i .i64 x] h = some (.b true, h) := fun h => by rw [eM, hs]
  have e2 : ∀ h, jQ [.i .i64 x] h = some (iD (oY x), h) := fun h => by rw [cYz, aSe, hs]; rfl
  simp only [g0, g1, e1, e2, aS, bM, if_true, Option.getD_some, Option.isSome_some]
 | false =>
  have e1 : ∀ h, eM [.i .i64 x] h = some (.b false, h) := fun h => by rw [eM, hs]
  have k : dC (n + 1) 30 [.p (aO 7) 0, .i .i64 (Int.ofNat 8)] h = some (iD (R.getD 10 0), h) := W.known (show 8 < 16 by omega) n
  simp only [Bool.false_eq_true, if_false]
  by_cases e : bV x M.pl = 0
  ·have b : (!(Nat.beq (bV x M.pl) 0)) = false := by rw [e]; rfl
   rw [if_neg (fun q => q.1.1 e)]
   simp only [g0, g1, e1, aS, bJ, gB, qF, W.l00, W.is, b, lS, sR, bX]
   rfl
  ·have b : (!(Nat.beq (bV x M.pl) 0)) = true := by rw [bUa e]; rfl
   by_cases e2 : nY M x = R.getD 10 0
   ·have zz : (nY M x == R.getD 10 0) = true := by rw [e2]; exact beq_self_eq_true _
    by_cases e3 : cQ M x % 4 = 1
    ·have z3 : (Int.ofNat (cQ M x % 4) == Int.ofNat 1) = true := by rw [e3]; rfl
     rw [if_pos ⟨⟨e, e2⟩, e3⟩]
     simp only [g0, g1, e1, aS, bJ, gB, qF, W.l00, W.is, b, qJ, W.clsA G I, k, bY, zz, cM, W.fmtA G I, z3, bM, W.getG G I x 0 n, Option.getD_some, Option.isSome_some]
    ·have z3 : (Int.ofNat (cQ M x % 4) == Int.ofNat 1) = false := by
      have : ¬ (Int.ofNat (cQ M x % 4) = Int.ofNat 1) := fun q => e3 (Int.ofNat.inj q)
      simpa using this
     rw [if_neg (fun q => e3 q.2)]
     simp only [g0, g1, e1, aS, bJ, gB, qF, W.l00, W.is, b, qJ, W.clsA G I, k, bY, zz, cM, W.fmtA G I, z3, bJ]
     rfl
   ·have zz : (nY M x == R.getD 10 0) = false := by simpa using e2
    rw [if_neg (fun q => e2 q.1.2)]
    simp only [g0, g1, e1, aS, bJ, gB, qF, W.l00, W.is, b, qJ, W.clsA G I, k, bY, zz, cM, bX, lS, sR, bJ]
    rfl
end
end Go.Dd

namespace Go.Dd
open Go.Proofs
theorem pcf {rec : FuncId → List DV → Hp → aH} {g : FuncId} (hg : CF.I g = none) (a l b : List DV) (h : Hp) : cZ CF rec (.f g a b) l h = rec g (a ++ l ++ b) h := by
 show bP CF rec g (a ++ l ++ b) h = _
 rw [iF hg]
section
variable {h : Hp} {M : MemV} {R : List Int} {es : List (DV × DV)}
theorem Wk.make0 (K : Wk h M R es) {cls : Int} (hc : bV cls M.pl ≠ 0) {f c : Nat} (hf : f ≤ 2) (h256 : c ≤ 256) (room : M.fin + c + 3 ≤ M.n) (hm : M.made < 899999) :
  ∃ h' M', gL [.p (aO 3) 0, .i .i64 cls, .i .i64 (.ofNat f), .i .i64 (.ofNat c)] h = some (.t [.i .i64 (.ofNat (M.fin * 2)), .i .i64 (.ofNat 0)], h') ∧ Wk h' M' R es ∧ Up h h' ∧ Grown M M' f cls (List.replicate c 0) := by
 have h1 := K.G.le
 have h2 := K.G.lo
 have h3 := K.G.hi
 obtain ⟨h', e1, W1, U1, _⟩ := K.W.make K.G hc hf h256 room
 have t1 : ∀ j, (M.mk1 f c cls).t.get j = if M.fin + 3 ≤ j ∧ j < M.fin + 3 + c then 0 else if j = M.fin + 2 then .ofNat (M.made + 1) else if j = M.fin + 1 then cls else if j = M.fin then .ofNat (c * 4 + f) else M.t.get j := fun j => by
  show (kS _ c (M.fin + 3)).get j = _
  rw [mW _ _ _ _ (by omega), WT.get_set _ _ _ _ (by omega), WT.get_set _ _ _ _ (by omega), WT.get_set _ _ _ _ (by omega)]
 have g : Grown M (M.mk1 f c cls) f cls (List.replicate c 0) := by
  refine ⟨rfl, by rw [List.length_replicate]; rfl, rfl, rfl, ?_, ?_, fun j hj => ?_, fun i v hi => ?_⟩
  ·rw [t1, if_neg (by omega), if_neg (by omega), if_neg (by omega), if_pos rfl, List.length_replicate]
  ·rw [t1, if_neg (by omega), if_neg (by omega), if_pos rfl]
  ·rw [t1, if_neg (by omega), if_neg (by omega), if_neg (by omega), if_neg (by omega)]
  ·have hl : i < c := by
    rcases Nat.lt_or_ge i c with q | q
    ·exact q
    ·rw [List.getElem?_eq_none (by simpa using q)] at hi; cases hi
   rw [List.getElem?_replicate, if_pos hl] at hi
   cases hi
   rw [t1, if_pos (by omega)]
 exact ⟨h', _, e1, g.wk K W1 hc hf (by rw [List.length_replicate]; exact h256) (by rw [List.length_replicate]; exact room) hm, U1, g⟩
theorem bGi {M : MemV} {R : List Int} {a n : Int} (h : cX a = true) (e : oY a = n) : lY M R a = some n := by
 unfold lY
 rw [if_pos h, e]
theorem Wk.num (K : Wk h M R es) (room : M.fin + 4 ≤ M.n) (hm : M.made < 899999) (n : Int) {k : Nat} (hk : 256 < k) :
  ∃ a e h' M', dC (k + 2) 42 [.p (aO 7) 0, .i .i64 n] h = some (.t [iD a, iD e], h') ∧ Wk h' M' R es ∧ Up h h' ∧ Stay 4 M M' R R es es ∧
   ((¬ (-1152921504606846976 ≤ n ∧ n ≤ 1152921504606846976) ∧ e = 2 ∧ a = 0) ∨ ((-1152921504606846976 ≤ n ∧ n ≤ 1152921504606846976) ∧ e = 0 ∧ lY M' R a = some n ∧ dW a M'.pl = true)) := by
 obtain ⟨a, e, h', M', e1, W', G', U', hA⟩ := K.W.number K.G K.rk room hm n hk
 cases hA with
 | out h1 h2 =>
  subst h2
  exact ⟨0, 2, h', M', e1, ⟨W', G', K.sy, K.r0, K.rk⟩, U', Stay.refl _ _ _ _, .inl ⟨h1, rfl, rfl⟩⟩
 | small a h1 h2 h3 h4 =>
  subst h4
  refine ⟨a, 0, h', M', e1, ⟨W', G', K.sy, K.r0, K.rk⟩, U', Stay.refl _ _ _ _, .inr ⟨by omega, rfl, bGi h2 h3, ?_⟩⟩
  unfold dW
  split <;> first | rfl | (rw [h2]; rfl)
 | big h1 h2 g =>
  have hc : bV (R.getD 10 0) M.pl ≠ 0 := K.rk 8 (by omega)
  have st := g.stay K.G R es (fun CL I => I.newK (i := 8) (.inr (.inr ⟨rfl, rfl⟩)) (by simp) (fun q => by cases q))
  have ha : bV (.ofNat (M.fin * 2)) M'.pl = M.fin := by rw [g.pl]; exact yP K.G.lo (by have := K.G.le; have := K.G.hi; omega)
  have h0 := K.G.lo
  have hs : cX (.ofNat (M.fin * 2)) = false := by
   rw [iI]
   refine decide_eq_false fun q => ?_
   have q1 := q.1
   simp at q1
   try omega
  refine ⟨_, 0, h', M', e1, g.wk K W' hc (by omega) (by simp) (by simp; omega) hm, U', st, .inr ⟨h1, rfl, ?_, mL (by rw [ha]; omega)⟩⟩
  unfold lY
  have hh : cQ M' (.ofNat (M.fin * 2)) = 5 := by unfold cQ; rw [ha, g.hd]; rfl
  rw [if_neg (by rw [hs]; simp), if_pos ⟨⟨by rw [ha]; omega, by unfold nY; rw [ha, g.cl]⟩, by rw [hh]⟩]
  unfold lX
  rw [ha, hh, if_pos ⟨by omega, by omega⟩]
  have := g.new 0 n rfl
  rw [Nat.add_zero] at this ⊢
  all_goals rw [this]
theorem Wd.notMay (W : Wd h M R es) {b : Pos} (hb : h.bl.get b = some (.row .ex [.p (aO 7) 0])) (v : Int) (n : Nat) : dC (n + 1) 84 [.i .i64 v, .p b 0] h = some (.b (!(dW v M.pl)), h) := by
 rw [nQ 84 rfl, cUq]
 unfold s84
 have l : aA (.p b 0) h = some (.p (aO 7) 0, h) := by simp only [aA, cellD, rowOf, hb, List.getElem?_cons_zero, DV.one, if_true]
 simp only [g0, g1, l, aS, gB, qF, W.l00, W.may, iE]
theorem aLr {l : List Int} {p : Int → Bool} {i : Nat} {v : Int} (h : l[i]? = some v) : (l.drop i).any p = (p v || (l.drop (i + 1)).any p) := by
 have hi : i < l.length := by
  rcases Nat.lt_or_ge i l.length with q | q
  ·exact q
  ·rw [List.getElem?_eq_none q] at h; cases h
 rw [List.drop_eq_getElem_cons hi, List.any_cons]
 rw [List.getElem?_eq_getElem hi] at h
 cases h
 rfl
theorem Wd.find (W : Wd h M R es) {x : DV} {l : List Int} (S : SlI x l h) {b : Pos} (hb : h.bl.get b = some (.row .ex [.p (aO 7) 0])) {n : Nat} (hl : l.length ≤ 256) : ∀ (k i m : Nat), k + i = l.length → k < m →
  ∃ r : Int, iX (dC (n + 1)) (n + 1) m x (.f 84 [] [.p b 0]) (iD l.length) (.i .i64 (Int.ofNat i)) h = some (iD r, h) ∧ (decide (r ≥ Int.ofNat 0) = (l.drop i).any fun v => !(dW v M.pl)) := by
 intro k
 induction k with
 | zero =>
  intro i m he hm
  obtain ⟨m, rfl⟩ : ∃ m', m = m' + 1 := ⟨m - 1, by omega⟩
  refine ⟨-1, ?_, ?_⟩
  ·show gP (dC (n + 1)) (n + 1) (iX (dC (n + 1)) (n + 1) m) _ _ _ _ h = _
   unfold gP
   have d : decide (Int.ofNat i < (l.length : Int)) = false := decide_eq_false (by simp; omega)
   simp only [cK, d, aS, bJ]
   rfl
  ·rw [List.drop_eq_nil_of_le (by omega)]
   rfl
 | succ k ih =>
  intro i m he hm
  obtain ⟨m, rfl⟩ : ∃ m', m = m' + 1 := ⟨m - 1, by omega⟩
  have hi : i < l.length := by omega
  have hv : l[i]? = some l[i] := List.getElem?_eq_getElem hi
  obtain ⟨a, e1, e2⟩ := S.at hv
  obtain ⟨r, q1, q2⟩ := ih (i + 1) m (by omega) (by omega)
  have d : decide (Int.ofNat i < (l.length : Int)) = true := decide_eq_true (by simp; omega)
  have hc : cZ CF (dC (n + 1)) (.f 84 [] [.p b 0]) [iD l[i]] h = some (.b (!(dW l[i] M.pl)), h) := by
   rw [pcf rfl]
   exact W.notMay hb l[i] n
  have ha : aD .add (.i .i64 (Int.ofNat i)) (.i .i64 (Int.ofNat 1)) h = some (.i .i64 (Int.ofNat (i + 1)), h) := gE i 1 h (by omega)
  rw [aLr hv]
  cases hmay : dW l[i] M.pl with
  | false =>
   refine ⟨Int.ofNat i, ?_, by simp⟩
   show gP (dC (n + 1)) (n + 1) (iX (dC (n + 1)) (n + 1) m) _ _ _ _ h = _
   unfold gP
   rw [hmay] at hc
   simp only [cK, d, aS, bM, e1, e2, hc, Bool.not_false]
  | true =>
   refine ⟨r, ?_, by rw [q2]; rfl⟩
   show gP (dC (n + 1)) (n + 1) (iX (dC (n + 1)) (n + 1) m) _ _ _ _ h = _
   unfold gP
   rw [hmay] at hc
   simp only [cK, d, aS, bM, e1, e2, hc, Bool.not_true, bJ, ha]
   exact q1
theorem Wd.contains (W : Wd h M R es) {x : DV} {l : List Int} (S : SlI x l h) {b : Pos} (hb : h.bl.get b = some (.row .ex [.p (aO 7) 0])) (hl : l.length ≤ 256) {n : Nat} (hn : 256 < n) :
  dC (n + 3) 52 [x, .f 84 [] [.p b 0]] h = some (.b (l.any fun v => !(dW v M.pl)), h) := by
 rw [nQ 52 rfl, bRj]
 unfold s52
 obtain ⟨r, q1, q2⟩ := W.find S hb (n := n) hl l.length 0 (n + 1) (by omega) (by omega)
 have e : dC (n + 2) 89 [x, .f 84 [] [.p b 0]] h = some (iD r, h) := by
  rw [nQ 89 rfl, cDs]
  unfold s89 aNt aMx aXe
  simp only [g0, g1, S.len (h' := h), aS]
  exact q1
 simp only [g0, g1, e, aS, lP, q2, List.drop_zero]
end
end Go.Dd

namespace Go.Dd
open Go.Proofs
theorem aQq (b : Pos) (o : Nat) (h : Hp) : bI (some (.p b o, h)) (.p b o) = true := by
 unfold bI
 simp [DV.beq]
section
variable {h : Hp} {M : MemV} {R : List Int} {es : List (DV × DV)}
theorem Wk.array (K : Wk h M R es) {x : DV} {l : List Int} (S : SlI x l h) (h256 : l.length ≤ 256) (room : M.fin + l.length + 3 ≤ M.n) (hm : M.made < 899999) {n : Nat} (hn : 256 < n) :
  ∃ a e h' M', dC (n + 4) 46 [.p (aO 7) 0, x] h = some (.t [iD a, iD e], h') ∧ Wk h' M' R es ∧ Up h h' ∧
   ((¬ (l.length ≤ 250 ∧ ∀ v ∈ l, dW v M.pl = true) ∧ e = 1 ∧ a = 0 ∧ M' = M) ∨ ((l.length ≤ 250 ∧ ∀ v ∈ l, dW v M.pl = true) ∧ e = 0 ∧ a = .ofNat (M.fin * 2) ∧ Grown M M' 0 (R.getD 11 0) l)) := by
 rw [nQ 46 rfl, cVc]
 unfold s46
 obtain ⟨U1, W1⟩ := K.W.new (.row .ex [.p (aO 7) 0])
 obtain ⟨h1, hh1⟩ : ∃ h1 : Hp, (⟨h.next.succ, Tr.set (.row .ex [.p (aO 7) 0]) h.next h.bl⟩ : Hp) = h1 := ⟨_, rfl⟩
 rw [hh1] at U1 W1
 have eb : bR (.p (aO 7) 0) h = some (.p h.next 0, h1) := by rw [← hh1]; rfl
 have hb : h1.bl.get h.next = some (.row .ex [.p (aO 7) 0]) := by rw [← hh1]; exact dUs _ _ _
 have S1 := S.up U1
 have K1 : Wk h1 M R es := ⟨W1, K.G, K.sy, K.r0, K.rk⟩
 have ld : aA (.p h.next 0) h1 = some (.p (aO 7) 0, h1) := by simp only [aA, cellD, rowOf, hb, List.getElem?_cons_zero, DV.one, if_true]
 have el : ∀ h, cA x h = some (iD l.length, h) := fun h => S.len
 by_cases c1 : l.length > 250
 ·have d1 : decide ((l.length : Int) > Int.ofNat 250) = true := decide_eq_true (by simp; omega)
  refine ⟨0, 1, h1, M, ?_, K1, U1, .inl ⟨fun q => by omega, rfl, rfl, rfl⟩⟩
  simp only [g0, g1, eb, aS, el, fD, d1, eX, cM, bM]
  rfl
 ·have d1 : decide ((l.length : Int) > Int.ofNat 250) = false := decide_eq_false (by simp; omega)
  have hc := W1.contains S1 hb h256 hn
  cases ha : l.any (fun v => !(dW v M.pl)) with
  | true =>
   rw [ha] at hc
   refine ⟨0, 1, h1, M, ?_, K1, U1, .inl ⟨fun q => ?_, rfl, rfl, rfl⟩⟩
   ·simp only [g0, g1, eb, aS, el, fD, d1, fR, hc, bX, bM]
    rfl
   ·obtain ⟨v, hv, hv2⟩ := List.any_eq_true.1 ha
    rw [q.2 v hv] at hv2
    cases hv2
  | false =>
   rw [ha] at hc
   have hall : ∀ v ∈ l, dW v M.pl = true := fun v hv => by
    cases hq : dW v M.pl with
    | true => rfl
    | false =>
     have : l.any (fun v => !(dW v M.pl)) = true := List.any_eq_true.2 ⟨v, hv, by rw [hq]; rfl⟩
     rw [this] at ha
     cases ha
   have hk : M.fin < 16000000 := by have := K.G.le; have := K.G.hi; omega
   obtain ⟨h2, M2, e2, W2, U2, _, g2⟩ := W1.make61 K.G (K.rk 9 (by omega)) (f := 0) (by omega) S1 (by omega) (by omega) (fun v hv => uO hk (hall v hv)) (n := n + 2) (by omega)
   have kn : dC (n + 3) 30 [.p (aO 7) 0, .i .i64 (Int.ofNat 9)] h1 = some (iD (R.getD 11 0), h1) := W1.known (show 9 < 16 by omega) (n + 2)
   refine ⟨.ofNat (M.fin * 2), 0, h2, M2, ?_, g2.wk K1 W2 (K.rk 9 (by omega)) (by omega) (by omega) (by omega) hm, U1.trans U2, .inr ⟨⟨by omega, hall⟩, rfl, rfl, g2⟩⟩
   simp only [g0, g1, eb, aS, el, fD, d1, fR, hc, bX, bJ, ld, kn, aQq, Bool.and_self, cond_true]
   rw [show (2 + 9 : Nat) = 11 from rfl] at e2
   show cnd true _ = _
   simp only [cnd, e2, aS, nH, nJ]
   rfl
end
end Go.Dd

namespace Go.Dd
open Go.Proofs
def Wc (h : Hp) (cs : List (DV × DV)) : Prop := h.bl.get (aO 6) = some (.mp cs)
noncomputable def aVq (cs : List (DV × DV)) (s : List Nat) : Int := match dK .string (.s s) cs with
 | some (some (.i .i64 v)) => v
 | _ => 0
section
variable {h : Hp} {M : MemV} {R : List Int} {es cs : List (DV × DV)} {CL : List Nat} {z : Prop}
theorem Wc.up {h' : Hp} (c : Wc h cs) (W : Wd h M R es) (u : Up h h') : Wc h' cs := by
 unfold Wc
 rw [u.get (aO 6) (.inr (by rw [pn6]; exact Nat.le_refl _)) (by have := W.nx; rw [pn6]; omega)]
 exact c
theorem Wd.classOfName (W : Wd h M R es) (c : Wc h cs) (hcs : ∀ e ∈ cs, ∃ (k : List Nat) (x : Int), e = (.s k, iD x)) (s : List Nat) (n : Nat) : dC (n + 1) 45 [.p (aO 7) 0, .s s] h = some (iD (aVq cs s), h) := by
 rw [nQ 45 rfl, cUz]
 unfold s45
 have l3 : aA (.p (aO 7) (0 + 3)) h = some (.m (aO 6), h) := by
  simp only [aA, cellD, rowOf, W.w, Nat.zero_add, List.getElem?_cons_succ, List.getElem?_cons_zero, DV.one, if_true]
 have lk : dP .string (.i .i64 (Int.ofNat 0)) false (.m (aO 6)) (.s s) h = some (iD (aVq cs s), h) := by
  have hc : h.bl.get (aO 6) = some (.mp cs) := c
  unfold aVq
  rcases bDr s hcs with ⟨x, f1, f2⟩ | ⟨f1, f2⟩
  ·simp only [dP, fQ, hc, f1, cond_false]
  ·simp only [dP, fQ, hc, f1, cond_false]
   rfl
 simp only [g0, g1, gB, qF, aS, l3, lk]
theorem GI.clsAt (I : GI M R CL z) (G : Good M) {c : Int} (hc : isC M R c = true) : bV c M.pl ≠ 0 ∧ bV c M.pl ∈ CL ∧ ClI M R (bV c M.pl) := by
 have q := of_decide_eq_true hc
 obtain ⟨_, O, _, _⟩ := I.headOb G q.1
 have hm := O.cls q.2
 exact ⟨q.1, hm, I.cl _ hm⟩
theorem GI.clsGet (I : GI M R CL z) (G : Good M) {c : Int} (hc : isC M R c = true) {i : Nat} (hi : i < 6) : lX M c i = M.t.get (bV c M.pl + 3 + i) := by
 obtain ⟨h1, h2, C⟩ := I.clsAt G hc
 unfold lX cQ
 rw [C.hd]
 exact if_pos ⟨h1, by show i < 24 / 4; omega⟩
theorem GI.kindC (I : GI M R CL z) (G : Good M) {c : Int} (hc : isC M R c = true) : ∃ k : Nat, k ≤ 3 ∧ hD M R c = k ∧ M.t.get (bV c M.pl + 8) = .ofNat (2 * k + 1) := by
 obtain ⟨h1, h2, C⟩ := I.clsAt G hc
 obtain ⟨k, q1, q2⟩ := C.kd
 refine ⟨k, q1, ?_, q2⟩
 unfold hD
 rw [if_pos hc, I.clsGet G hc (by omega), show bV c M.pl + 3 + 5 = bV c M.pl + 8 by omega, q2]
 unfold aSe
 have hs : cX (.ofNat (2 * k + 1)) = true := by
  rw [iI]
  refine decide_eq_true ?_
  have : (Int.ofNat (2 * k + 1)) = 2 * (k : Int) + 1 := by simp
  omega
 rw [if_pos hs]
 show Int.ofNat (Nat.div (2 * k + 1) 2) = _
 have : Nat.div (2 * k + 1) 2 = k := by show (2 * k + 1) / 2 = k; omega
 rw [this]
 rfl
theorem GI.sizeC (I : GI M R CL z) (G : Good M) {c : Int} (hc : isC M R c = true) : ∃ k : Nat, k ≤ 16 ∧ pR M R c = k := by
 obtain ⟨h1, h2, C⟩ := I.clsAt G hc
 obtain ⟨k, q1, q2⟩ := C.sz
 refine ⟨k, q1, ?_⟩
 unfold pR
 rw [if_pos hc, I.clsGet G hc (by omega), show bV c M.pl + 3 + 2 = bV c M.pl + 5 by omega, q2]
 unfold aSe
 have hs : cX (.ofNat (2 * k + 1)) = true := by
  rw [iI]
  refine decide_eq_true ?_
  have : (Int.ofNat (2 * k + 1)) = 2 * (k : Int) + 1 := by simp
  omega
 rw [if_pos hs]
 show Int.ofNat (Nat.div (2 * k + 1) 2) = _
 have : Nat.div (2 * k + 1) 2 = k := by show (2 * k + 1) / 2 = k; omega
 rw [this]
 rfl
end
end Go.Dd

namespace Go.Dd
open Go.Proofs
structure Wv (k : Nat) (h : Hp) (M : MemV) (R : List Int) (es : List (DV × DV)) (z : Prop := True) : Prop where
 K : Wk h M R es
 I : GI M R CLW z
 c : Wc h csW
 n : M.n = 30000
 fin : M.fin + k ≤ 30000
 md : M.made + k ≤ 700000
theorem Stay.mono {a b : Nat} {M M' : MemV} {R R' : List Int} {es es' : List (DV × DV)} (h : Stay a M M' R R' es es') (hab : a ≤ b) : Stay b M M' R R' es es' :=
 ⟨h.n, Nat.le_trans h.fin (by omega), Nat.le_trans h.made (by omega), h.lo, h.tx, h.at', h.r, h.fd, h.gi, h.old⟩
section
variable {h h' : Hp} {M M' : MemV} {R R' : List Int} {es es' : List (DV × DV)} {z : Prop}
theorem Wv.stay {k j : Nat} (V : Wv (j + k) h M R es) (K' : Wk h' M' R' es') (u : Up h h') (S : Stay j M M' R R' es es') : Wv k h' M' R' es' := by
 have h1 := S.n
 have h2 := S.fin
 have h3 := S.made
 have h4 := V.n
 have h5 := V.fin
 have h6 := V.md
 exact ⟨K', S.gi _ V.I, V.c.up V.K.W u, by omega, by omega, by omega⟩
theorem Wv.less {k j : Nat} (V : Wv j h M R es z) (hk : k ≤ j) : Wv k h M R es z := ⟨V.K, V.I, V.c, V.n, by have := V.fin; omega, by have := V.md; omega⟩
theorem Wk.up (K : Wk h M R es) (W' : Wd h' M R es) : Wk h' M R es := ⟨W', K.G, K.sy, K.r0, K.rk⟩
theorem Wv.up {k : Nat} (V : Wv k h M R es z) (W' : Wd h' M R es) (u : Up h h') : Wv k h' M R es z := ⟨V.K.up W', V.I, V.c.up V.K.W u, V.n, V.fin, V.md⟩
theorem Wv.new {k : Nat} (V : Wv k h M R es z) (o : Ob) : Up h ⟨h.next.succ, Tr.set o h.next h.bl⟩ ∧ Wv k ⟨h.next.succ, Tr.set o h.next h.bl⟩ M R es z := by
 obtain ⟨u, W⟩ := V.K.W.new o
 exact ⟨u, V.up W u⟩
theorem dFh : ∀ e ∈ csW, ∃ (k : List Nat) (x : Int), e = (.s k, iD x) := fun e he => by
 obtain ⟨x, _, h2⟩ := zT (clF ++ clW) e he
 exact ⟨x.1, _, h2⟩
theorem dOm : aVq csW [80, 111, 105, 110, 116] = 8714 := by kernel_rfl
theorem Wv.point {k : Nat} (V : Wv k h M R es z) (n : Nat) : dC (n + 1) 45 [.p (aO 7) 0, .s [80, 111, 105, 110, 116]] h = some (iD 8714, h) := by
 rw [V.K.W.classOfName V.c dFh, dOm]
theorem cIg : iG 8714 = 4357 := by kernel_rfl
theorem Wv.ptAt {k : Nat} (V : Wv k h M R es z) : bV 8714 M.pl ≠ 0 := by
 rw [atN_pos, cIg]
 exact ⟨by decide, (V.I.cl 4357 (by decide)).pl⟩
theorem Wv.ptNew {k : Nat} (V : Wv k h M R es) : ∀ CL, GI M R CL → NewI M R CL 0 8714 (List.replicate 2 0) := fun CL I => by
 have r3 := I.rk 1 (by omega)
 have r12 := I.rk 10 (by omega)
 have r13 := I.rk 11 (by omega)
 refine ⟨by decide, by omega, fun _ => rfl, fun q => ?_, fun q => (by cases q), fun q => ?_, fun c hc _ _ => ⟨rfl, fun v hv => List.eq_of_mem_replicate hv⟩⟩
 ·rcases q with q | q
  ·rw [r12] at q; cases q
  ·rw [r13] at q; cases q
 ·rw [r3] at q; cases q
end
end Go.Dd

namespace Go.Dd
open Go.Proofs
theorem lZ {a b : Int} (h : a ≠ b) : (a == b) = false := by simpa using h
theorem aLy (a : Int) (h : Hp) : aD .rem (.i .i64 a) (.i .i64 (Int.ofNat 10)) h = some (.i .i64 (a.tmod 10), h) := by simp only [aD, if_true, fP]; rfl
theorem cLl (a b : Int) (h : Hp) (hr : -9223372036854775808 ≤ a * b ∧ a * b ≤ 9223372036854775807) : aD .mul (.i .i64 a) (.i .i64 b) h = some (.i .i64 (a * b), h) := by simp only [aD, if_true, fP, hC _ hr]
theorem cNc (a : Nat) (ha : a < 1000) (h : Hp) : aD .quo (.i .i64 (a : Int)) (.i .i64 (Int.ofNat 2)) h = some (.i .i64 (Int.ofNat (a / 2)), h) := by
 have e : (a : Int).tdiv (Int.ofNat 2) = Int.ofNat (a / 2) := rfl
 simp only [aD, if_true, fP, e]
 rw [if_neg (by decide), hC _ (by simp; omega)]
theorem bXm (s : List Nat) (k : Nat) (hk : k ≤ s.length) (h : Hp) : fE (.s s) none (some (.i .i64 (Int.ofNat k))) h = some (.s (s.take k), h) := by
 have e : hiD (some (.i .i64 (Int.ofNat k))) s.length s.length = some k := by
  show (if (0 : Int) ≤ Int.ofNat k ∧ Int.ofNat k ≤ (s.length : Int) then some (Int.ofNat k).toNat else none) = _
  rw [if_pos ⟨by simp, by simpa using hk⟩]
  rfl
 simp only [fE, e]
 rfl
theorem bYk (l : List Int) : ∀ v ∈ l.map iD, v.one = true := by
 intro v hv
 obtain ⟨c, _, rfl⟩ := List.mem_map.1 hv
 rfl
theorem cAl {x : DV} {l : List Int} {lo : Nat} {h : Hp} (hlo : 1031 ≤ lo) (S : GrS x (l.map iD) lo h) : SlI x l h := by
 rcases S with ⟨rfl, e⟩ | ⟨b, e, hb, h2, h3⟩
 ·refine .inl ⟨rfl, ?_⟩
  simpa using e
 ·exact .inr ⟨b, l.length, .gr 1, by rw [e]; simp, hb, .inr (by omega), h3⟩
theorem aNw {rec : FuncId → List DV → Hp → aH} {n lo : Nat} {x0 : DV} {N : Int} {c : Nat} (hN : N.tmod 10 = Int.ofNat c) (hc : c ≤ 9) : ∀ (r m : Nat) (l : List Int) (x : DV) (h : Hp), GrS x (l.map iD) lo h → lo ≤ h.next.toNat → l.length + r = c → r < m →
  ∃ (x' : DV) (h' : Hp) (l' : List Int), lO rec n m x0 (iD N) x (.i .i64 (Int.ofNat l.length)) h = dS rec n x0 x' h' ∧ GrS x' (l'.map iD) lo h' ∧ Lo lo h h' ∧ l'.length = c
 | 0, m + 1, l, x, h, S, hlo, he, hm => by
  refine ⟨x, h, l, ?_, S, Lo.refl lo h, by omega⟩
  show kZ rec n (lO rec n m) _ _ _ _ h = _
  unfold kZ
  have hl : decide (Int.ofNat l.length < Int.ofNat c) = false := by simp; omega
  simp only [iD, aLy, hN, cK, aS, hl, bJ]
 | r + 1, m + 1, l, x, h, S, hlo, he, hm => by
  obtain ⟨y, g, e1, x', h', e2, S', L'⟩ := S.app hlo (bYk l) (z := .i .i64 (Int.ofNat 0)) (v := iD (Int.ofNat 2 * Int.ofNat l.length + Int.ofNat 1)) rfl rfl (bytes := 8) (by simp; unfold lU; omega)
  have S2 : GrS x' ((l ++ [Int.ofNat 2 * Int.ofNat l.length + Int.ofNat 1]).map iD) lo h' := by rw [List.map_append]; exact S'
  obtain ⟨x2, h2, l2, e3, S3, L3, hl3⟩ := aNw (rec := rec) (n := n) (x0 := x0) hN hc r m (l ++ [Int.ofNat 2 * Int.ofNat l.length + Int.ofNat 1]) x' h' S2 (Nat.le_trans hlo L'.next) (by simp; omega) (by omega)
  refine ⟨x2, h2, l2, ?_, S3, L'.trans L3, hl3⟩
  rw [← e3]
  show kZ rec n (lO rec n m) _ _ _ _ h = _
  unfold kZ
  have hl1 : decide (Int.ofNat l.length < Int.ofNat c) = true := by simp; omega
  have hadd : aD .add (.i .i64 (Int.ofNat l.length)) (.i .i64 (Int.ofNat 1)) h' = some (.i .i64 (Int.ofNat (l ++ [Int.ofNat 2 * Int.ofNat l.length + Int.ofNat 1]).length), h') := by
   rw [iK _ _ _ (by simp; omega)]
   simp
  simp only [iD] at e1 e2 ⊢
  simp only [aLy, hN, cK, aS, hl1, bM, cLl (Int.ofNat 2) (Int.ofNat l.length) h (by simp; omega), iK (Int.ofNat 2 * Int.ofNat l.length) (Int.ofNat 1) h (by simp; omega), e1, e2, hadd]
section
variable {h : Hp} {M : MemV} {R : List Int} {es : List (DV × DV)}
noncomputable def knW (R : List Int) (i : Int) : Int := if 0 ≤ i ∧ i < 16 then R.getD (2 + i.toNat) 0 else 0
theorem Wd.knownA (W : Wd h M R es) (i : Int) (n : Nat) : dC (n + 1) 30 [.p (aO 7) 0, .i .i64 i] h = some (iD (knW R i), h) := by
 unfold knW
 by_cases hi : 0 ≤ i ∧ i < 16
 ·rw [if_pos hi]
  obtain ⟨j, rfl⟩ : ∃ j : Nat, i = Int.ofNat j := ⟨i.toNat, by simp; omega⟩
  exact W.known (by simp at hi; omega) n
 ·rw [if_neg hi, nQ 30 rfl, bNv]
  unfold s30
  by_cases h1 : i < 0
  ·have d1 : decide (i < Int.ofNat 0) = true := decide_eq_true (by simpa using h1)
   simp only [g0, g1, cK, d1, aS, eX, cM, bM]
   rfl
  ·have d1 : decide (i < Int.ofNat 0) = false := decide_eq_false (by simpa using h1)
   have d2 : decide (i ≥ Int.ofNat 16) = true := decide_eq_true (by simp; omega)
   simp only [g0, g1, cK, d1, aS, fR, lP, d2, bX, bM]
   rfl
def MadeP (k : Nat) (h : Hp) (M : MemV) (R : List Int) (es : List (DV × DV)) (r : aH) : Prop :=
 ∃ v h' M' R' es', r = some (iD v, h') ∧ Wv k h' M' R' es' ∧ Up h h' ∧ Stay 260 M M' R R' es es'
theorem MadeP.same {k : Nat} (V : Wv (260 + k) h M R es) (v : Int) : MadeP k h M R es (some (iD v, h)) :=
 ⟨v, h, M, R, es, rfl, V.less (by omega), Up.refl h, Stay.refl _ _ _ _⟩
theorem bQq {k : Nat} (V : Wv (260 + k) h M R es) (n : Int) {m : Nat} (hm : 300 < m) : ∃ a e h' M', dC (m + 2) 42 [.p (aO 7) 0, .i .i64 n] h = some (.t [iD a, iD e], h') ∧ Wv k h' M' R es ∧ Up h h' ∧ Stay 260 M M' R R es es := by
 have h4 := V.n
 have h5 := V.fin
 have h6 := V.md
 obtain ⟨a, e, h', M', e1, K', U, S, _⟩ := V.K.num (by omega) (by omega) n (k := m) (by omega)
 exact ⟨a, e, h', M', e1, V.stay K' U (S.mono (by omega)), U, S.mono (by omega)⟩
theorem bWi {k : Nat} (V : Wv (260 + k) h M R es) {s : List Nat} (hs : ∀ c ∈ s, c < 256) {m : Nat} (hm : 300 < m) : ∃ a e h' M', dC (m + 3) 43 [.p (aO 7) 0, .s s] h = some (.t [iD a, iD e], h') ∧ Wv k h' M' R es ∧ Up h h' ∧ Stay 260 M M' R R es es := by
 have h4 := V.n
 have h5 := V.fin
 have h6 := V.md
 obtain ⟨a, e, h', M', e1, K', U, S, _⟩ := V.K.string hs (by omega) (by omega) (n := m) hm
 exact ⟨a, e, h', M', e1, V.stay K' U S, U, S⟩
theorem bWs {k : Nat} (V : Wv (260 + k) h M R es) {s : List Nat} (hs : ∀ c ∈ s, c < 256) {m : Nat} (hm : 300 < m) : ∃ a e h' M' R' es', dC (m + 3) 44 [.p (aO 7) 0, .s s] h = some (.t [iD a, iD e], h') ∧ Wv k h' M' R' es' ∧ Up h h' ∧ Stay 260 M M' R R' es es' := by
 have h4 := V.n
 have h5 := V.fin
 have h6 := V.md
 obtain ⟨a, e, h', M', R', es', e1, K', U, S, _⟩ := V.K.symbol hs (by omega) (by omega) (n := m) hm
 exact ⟨a, e, h', M', R', es', e1, V.stay K' U (S.mono (by omega)), U, S.mono (by omega)⟩
theorem cBm {k : Nat} (V : Wv (260 + k) h M R es) {x : DV} {l : List Int} (S : SlI x l h) (hl : l.length ≤ 9) {m : Nat} (hm : 300 < m) : ∃ a e h' M', dC (m + 4) 46 [.p (aO 7) 0, x] h = some (.t [iD a, iD e], h') ∧ Wv k h' M' R es ∧ Up h h' ∧ Stay 260 M M' R R es es := by
 have h4 := V.n
 have h5 := V.fin
 have h6 := V.md
 obtain ⟨a, e, h', M', e1, K', U, A⟩ := V.K.array S (by omega) (by omega) (by omega) (n := m) (by omega)
 have S' : Stay 260 M M' R R es es := by
  rcases A with ⟨_, _, _, rfl⟩ | ⟨_, _, _, g⟩
  ·exact Stay.refl _ _ _ _
  ·exact (g.stay V.K.G R es fun CL I => I.newK (i := 9) (.inl ⟨rfl, rfl⟩) (by omega) (fun q => by cases q)).mono (by omega)
 exact ⟨a, e, h', M', e1, V.stay K' U S', U, S'⟩
theorem cGa {k : Nat} (V : Wv (260 + k) h M R es) : ∃ a e h' M', gL [.p (aO 3) 0, iD 8714, .i .i64 (.ofNat 0), .i .i64 (.ofNat 2)] h = some (.t [iD a, iD e], h') ∧ Wv k h' M' R es ∧ Up h h' ∧ Stay 260 M M' R R es es := by
 have h4 := V.n
 have h5 := V.fin
 have h6 := V.md
 obtain ⟨h', M', e1, K', U, g⟩ := V.K.make0 V.ptAt (f := 0) (c := 2) (by omega) (by omega) (by omega) (by omega)
 have S' : Stay 260 M M' R R es es := (g.stay V.K.G R es V.ptNew).mono (by simp)
 exact ⟨_, _, h', M', e1, V.stay K' U S', U, S'⟩
end
end Go.Dd

namespace Go.Dd
open Go.Proofs
section
variable {h : Hp} {M : MemV} {R : List Int} {es : List (DV × DV)} {k m : Nat} {b : Pos} {kd N : Int} {s0 s : List Nat}
theorem lF {b : Pos} {kd : Kind} {l : List DV} {h : Hp} (hb : h.bl.get b = some (.row kd l)) {i : Nat} {v : DV} (hi : l[i]? = some v) (hv : v.one = true) : aA (.p b i) h = some (v, h) := by
 simp only [aA, cellD, rowOf, hb, hi, hv, if_true]
def Tg (h : Hp) (b : Pos) (kd N : Int) (s : List Nat) : Prop := h.bl.get b = some (.row .ex [iD kd, iD N, .s s])
theorem Tg.l0 (T : Tg h b kd N s) : aA (.p b (0 + 0)) h = some (iD kd, h) := lF (i := 0 + 0) T rfl rfl
theorem Tg.l1 (T : Tg h b kd N s) : aA (.p b (0 + 1)) h = some (iD N, h) := lF (i := 0 + 1) T rfl rfl
theorem Tg.l2 (T : Tg h b kd N s) : aA (.p b (0 + 2)) h = some (.s s, h) := lF (i := 0 + 2) T rfl rfl
theorem dPz (a b : List Nat) (h : Hp) (hl : a.length + b.length < 100000) : fN .add (.s a) (.s b) h = some (.s (a ++ b), h) := by
 have : ¬ ((a.length + b.length : Nat) : Int) > IntKind.i64.max := by
  show ¬ ((a.length + b.length : Nat) : Int) > 9223372036854775807
  omega
 simp only [fN, aSj, if_neg this]
theorem cJj (V : Wv (260 + k) h M R es) (hs : ∀ c ∈ s, c < 256) (hl : s.length ≤ 250) (hm : 300 < m) : MadeP k h M R es (aHj (dC (m + 5)) (m + 5) (.p (aO 7) 0) (.s s) h) := by
 have fin : ∀ t : List Nat, (∀ c ∈ t, c < 256) → t.length ≤ 250 → MadeP k h M R es (qH (dC (m + 5)) (m + 5) (.p (aO 7) 0) (.s t) h) := fun t ht hlt => by
  obtain ⟨a, e, h', M', R', es', e1, V', U, S⟩ := bWs V (s := [115] ++ t.take (t.length / 2)) (fun c hc => by
   simp only [List.mem_append, List.mem_singleton] at hc
   rcases hc with rfl | hc
   ·decide
   ·exact ht c (List.mem_of_mem_take hc)) (m := m + 2) (by omega)
  refine ⟨a, h', M', R', es', ?_, V', U, S⟩
  unfold qH
  simp only [cEx, aS, cNc t.length (by omega) h, bXm t (t.length / 2) (by omega) h, dPz [115] (t.take (t.length / 2)) h (by rw [List.length_take]; simp; omega), e1, nH, nJ]
 unfold aHj
 by_cases c1 : (s.length : Int) > Int.ofNat 60
 ·simp only [cEx, aS, fD, decide_eq_true c1, bM, bXm s 60 (by simp at c1; omega) h]
  exact fin _ (fun c hc => hs c (List.mem_of_mem_take hc)) (by rw [List.length_take]; omega)
 ·simp only [cEx, aS, fD, decide_eq_false c1, bJ]
  exact fin _ hs hl
theorem cTw (V : Wv (260 + k) h M R es) (T : Tg h b kd N s) (hN : -9223372036854775808 ≤ N ∧ N ≤ 9223372036854775807) (hm : 300 < m) : MadeP k h M R es (aEz (dC (m + 5)) (m + 5) (.p (aO 7) 0) (.p b 0) h) := by
 have fin : ∀ n : Int, 0 ≤ n → MadeP k h M R es (rO (dC (m + 5)) (m + 5) (.p (aO 7) 0) (iD n) h) := fun n hn => by
  obtain ⟨j, rfl⟩ : ∃ j : Nat, n = Int.ofNat j := ⟨n.toNat, by simp; omega⟩
  have nx := V.K.W.nx
  obtain ⟨x', h1, l', e1, S1, L1, hl1⟩ := aNw (rec := dC (m + 5)) (n := m + 5) (lo := h.next.toNat) (x0 := .p (aO 7) 0) (N := Int.ofNat j) (c := j % 10) rfl (by omega) (j % 10) (m + 5) [] .l0 h (.inl ⟨rfl, rfl⟩) (Nat.le_refl _) (by simp) (by omega)
  have V1 := V.up (V.K.W.lo L1) L1.up
  obtain ⟨a, e, h', M', e2, V', U, S⟩ := cBm V1 (cAl nx S1) (by omega) (m := m + 1) (by omega)
  refine ⟨a, h', M', R, es, ?_, V', L1.up.trans U, S⟩
  unfold rO aKa aCy aPw
  refine Eq.trans e1 ?_
  unfold dS
  simp only [e2, aS, nH, nJ]
 unfold aEz aKe
 simp only [qF, T.l1, aS]
 by_cases c1 : N < Int.ofNat 0
 ·have c2 : N < 0 := c1
  have en : ∀ h, hY .neg (.i .i64 (N + Int.ofNat 1)) h = some (.i .i64 (-(N + Int.ofNat 1)), h) := fun h => by
   have : IntKind.i64.wrap (0 - (N + Int.ofNat 1)) = 0 - (N + Int.ofNat 1) := hC _ (by simp; omega)
   simp only [hY, this]
   rw [Int.zero_sub]
  simp only [iD, cK, decide_eq_true c1, aS, bM, iK N (Int.ofNat 1) h (by simp; omega), en]
  exact fin _ (by simp; omega)
 ·have c2 : ¬ N < 0 := c1
  simp only [iD, cK, decide_eq_false c1, aS, bJ]
  exact fin _ (by omega)
theorem cVs (V : Wv (260 + k) h M R es) (T : Tg h b kd N s0) (hN : -9223372036854775808 ≤ N ∧ N ≤ 9223372036854775807) (hs : ∀ c ∈ s, c < 256) (hl : s.length ≤ 250) (hm : 300 < m) :
  MadeP k h M R es (aBa (dC (m + 5)) (m + 5) (.p (aO 7) 0) (.p b 0) (.s s) h) := by
 unfold aBa aXr
 simp only [qF, T.l0, aS]
 by_cases c0 : kd = 0
 ·subst c0
  obtain ⟨a, e, h', M', e1, V', U, S⟩ := bQq V N (m := m + 3) (by omega)
  refine ⟨a, h', M', R, es, ?_, V', U, S⟩
  unfold aOh
  simp only [iD, bY, beq_self_eq_true, aS, bM, show ((0 : Int) == Int.ofNat 0) = true from rfl, qF]
  rw [T.l1]
  simp only [aS]
  rw [e1]
  simp only [aS, nH, nJ, iD]
 have d0 : (kd == Int.ofNat 0) = false := lZ c0
 unfold aOh bOw
 by_cases c1 : kd = 1
 ·subst c1
  obtain ⟨a, e, h', M', e1, V', U, S⟩ := bWi V hs (m := m + 2) (by omega)
  refine ⟨a, h', M', R, es, ?_, V', U, S⟩
  unfold aMw
  simp only [iD, bY, aS, bJ, bM, d0, show ((1 : Int) == Int.ofNat 1) = true from rfl]
  rw [e1]
  simp only [aS, nH, nJ, iD]
 have d1 : (kd == Int.ofNat 1) = false := lZ c1
 unfold aMw bPh
 by_cases c2 : kd = 2
 ·subst c2
  have := cJj V hs hl hm
  unfold vN
  simp only [iD, bY, aS, bJ, bM, d0, d1, show ((2 : Int) == Int.ofNat 2) = true from rfl]
  exact this
 have d2 : (kd == Int.ofNat 2) = false := lZ c2
 unfold vN aSh
 by_cases c3 : kd = 3
 ·subst c3
  have := cTw V T hN hm
  unfold yN
  simp only [iD, bY, aS, bJ, bM, d0, d1, d2, show ((3 : Int) == Int.ofNat 3) = true from rfl]
  exact this
 have d3 : (kd == Int.ofNat 3) = false := lZ c3
 unfold yN
 by_cases c4 : kd = 4
 ·subst c4
  obtain ⟨a, e, h', M', e1, V', U, S⟩ := cGa V
  refine ⟨a, h', M', R, es, ?_, V', U, S⟩
  have em := V.K.W.memory (m + 4)
  have ep := V.point (m + 4)
  simp only [iD, bY, aS, bJ, bM, d0, d1, d2, d3, show ((4 : Int) == Int.ofNat 4) = true from rfl, em]
  rw [ep]
  simp only [aS]
  rw [e1]
  simp only [aS, nH, nJ, iD]
 have d4 : (kd == Int.ofNat 4) = false := lZ c4
 by_cases c5 : kd = 5
 ·subst c5
  have ep := V.point (m + 4)
  by_cases c16 : N = 16
  ·subst c16
   have : MadeP k h M R es (some (iD 8714, h)) := .same V _
   simp only [iD, bY, aS, bJ, bM, d0, d1, d2, d3, d4, show ((5 : Int) == Int.ofNat 5) = true from rfl, qF]
   rw [T.l1]
   simp only [iD, bY, aS, bJ, bM, show ((16 : Int) == Int.ofNat 16) = true from rfl]
   rw [ep]
   exact this
  ·have : MadeP k h M R es (some (iD (knW R N), h)) := .same V _
   have ek := V.K.W.knownA N (m + 4)
   simp only [iD, bY, aS, bJ, bM, d0, d1, d2, d3, d4, show ((5 : Int) == Int.ofNat 5) = true from rfl, qF]
   have t1 : aA (.p b (0 + 1)) h = some (.i .i64 N, h) := T.l1
   simp only [t1, iD, bY, aS, bJ, bM, show (N == Int.ofNat 16) = false from lZ c16]
   rw [ek]
   exact this
 have d5 : (kd == Int.ofNat 5) = false := lZ c5
 have t1 : aA (.p b (0 + 1)) h = some (.i .i64 N, h) := T.l1
 by_cases c6 : kd = 6
 ·subst c6
  simp only [iD, bY, aS, bJ, bM, d0, d1, d2, d3, d4, d5, show ((6 : Int) == Int.ofNat 6) = true from rfl]
  exact .same V _
 have d6 : (kd == Int.ofNat 6) = false := lZ c6
 by_cases c7 : kd = 7
 ·subst c7
  simp only [iD, bY, aS, bJ, bM, d0, d1, d2, d3, d4, d5, d6, show ((7 : Int) == Int.ofNat 7) = true from rfl]
  exact .same V _
 have d7 : (kd == Int.ofNat 7) = false := lZ c7
 by_cases c8 : kd = 8
 ·subst c8
  simp only [iD, bY, aS, bJ, bM, d0, d1, d2, d3, d4, d5, d6, d7, show ((8 : Int) == Int.ofNat 8) = true from rfl]
  exact .same V _
 have d8 : (kd == Int.ofNat 8) = false := lZ c8
 unfold aX
 simp only [iD, bY, aS, bJ, bM, d0, d1, d2, d3, d4, d5, d6, d7, d8, qF, t1]
 exact .same V _
theorem bDi (V : Wv (260 + k) h M R es) (kd : Int) (hN : -9223372036854775808 ≤ N ∧ N ≤ 9223372036854775807) (hs : ∀ c ∈ s, c < 256) (hm : 300 < m) :
  MadeP k h M R es (dC (m + 6) 14 [.p (aO 7) 0, .a [iD kd, iD N, .s s]] h) := by
 obtain ⟨U1, V1⟩ := V.new (.row .ex [iD kd, iD N, .s s])
 obtain ⟨h1, hh1⟩ : ∃ h1 : Hp, (⟨h.next.succ, Tr.set (.row .ex [iD kd, iD N, .s s]) h.next h.bl⟩ : Hp) = h1 := ⟨_, rfl⟩
 rw [hh1] at U1 V1
 have eb : bR (.a [iD kd, iD N, .s s]) h = some (.p h.next 0, h1) := by rw [← hh1]; rfl
 have T : Tg h1 h.next kd N s := by rw [← hh1]; exact dUs _ _ _
 have up : ∀ r, MadeP k h1 M R es r → MadeP k h M R es r := fun r ⟨v, h', M', R', es', e, V', U, S⟩ => ⟨v, h', M', R', es', e, V', U1.trans U, S⟩
 rw [nQ 14 rfl, cVk]
 unfold s14 aAz aYk
 simp only [g0, g1, eb, aS, qF, T.l2, cEx, fD]
 apply up
 by_cases c1 : (s.length : Int) > Int.ofNat 250
 ·simp only [decide_eq_true c1, bM, bXm s 250 (by simp at c1; omega) h1, aS]
  exact cVs V1 T hN (fun c hc => hs c (List.mem_of_mem_take hc)) (by rw [List.length_take]; omega) hm
 ·simp only [decide_eq_false c1, bJ]
  exact cVs V1 T hN hs (by simp at c1; omega) hm
end
end Go.Dd

namespace Go.Dd
open Go.Proofs
def wX (n : Int) : Int :=
 if n = 11 ∨ n = 22 ∨ n = 23 ∨ n = 40 ∨ n = 41 then 0
 else if n = 1 ∨ n = 2 ∨ n = 3 ∨ n = 4 ∨ n = 5 ∨ n = 6 ∨ n = 7 ∨ n = 10 ∨ n = 20 ∨ n = 24 ∨ n = 25 ∨ n = 26 ∨ n = 50 then 1
 else if n = 21 ∨ n = 51 then 2 else -1
theorem cSo (n : Int) (m : Nat) (h : Hp) : dC (m + 1) 39 [iD n] h = some (iD (wX n), h) := by
 rw [nQ 39 rfl, cUj]
 by_cases q : n = 11 ∨ n = 22 ∨ n = 23 ∨ n = 40 ∨ n = 41 ∨ n = 1 ∨ n = 2 ∨ n = 3 ∨ n = 4 ∨ n = 5 ∨ n = 6 ∨ n = 7 ∨ n = 10 ∨ n = 20 ∨ n = 24 ∨ n = 25 ∨ n = 26 ∨ n = 50 ∨ n = 21 ∨ n = 51
 ·rcases q with q | q | q | q | q | q | q | q | q | q | q | q | q | q | q | q | q | q | q | q <;> subst q <;> rfl
 ·have e : wX n = -1 := by
   unfold wX
   rw [if_neg (by omega), if_neg (by omega), if_neg (by omega)]
  rw [e]
  unfold s39 bBu aYp sF bJb jA bTe aMf cT
  simp only [g0, iD, bY, aS, lZ (show n ≠ Int.ofNat 11 by simp; omega), lZ (show n ≠ Int.ofNat 22 by simp; omega), lZ (show n ≠ Int.ofNat 23 by simp; omega), lZ (show n ≠ Int.ofNat 40 by simp; omega), lZ (show n ≠ Int.ofNat 41 by simp; omega),
   lZ (show n ≠ Int.ofNat 1 by simp; omega), lZ (show n ≠ Int.ofNat 2 by simp; omega), lZ (show n ≠ Int.ofNat 3 by simp; omega), lZ (show n ≠ Int.ofNat 4 by simp; omega), lZ (show n ≠ Int.ofNat 5 by simp; omega), lZ (show n ≠ Int.ofNat 6 by simp; omega), lZ (show n ≠ Int.ofNat 7 by simp; omega),
   lZ (show n ≠ Int.ofNat 10 by simp; omega), lZ (show n ≠ Int.ofNat 20 by simp; omega), lZ (show n ≠ Int.ofNat 24 by simp; omega), lZ (show n ≠ Int.ofNat 25 by simp; omega), lZ (show n ≠ Int.ofNat 26 by simp; omega), lZ (show n ≠ Int.ofNat 50 by simp; omega), lZ (show n ≠ Int.ofNat 21 by simp; omega), lZ (show n ≠ Int.ofNat 51 by simp; omega), bJ]
  rfl
section
variable {h : Hp} {M : MemV} {R : List Int} {es : List (DV × DV)}
theorem cQb {x f : DV} {l : List Int} (S : SlI x l h) {p : Int → Bool} {n : Nat} (hc : ∀ v, cZ CF (dC n) f [iD v] h = some (.b (p v), h)) (hl : l.length ≤ 256) : ∀ (k i m : Nat), k + i = l.length → k < m →
  ∃ r : Int, iX (dC n) n m x f (iD l.length) (.i .i64 (Int.ofNat i)) h = some (iD r, h) ∧ (decide (r ≥ Int.ofNat 0) = (l.drop i).any p) := by
 intro k
 induction k with
 | zero =>
  intro i m he hm
  obtain ⟨m, rfl⟩ : ∃ m', m = m' + 1 := ⟨m - 1, by omega⟩
  refine ⟨-1, ?_, ?_⟩
  ·show gP (dC n) n (iX (dC n) n m) _ _ _ _ h = _
   unfold gP
   have d : decide (Int.ofNat i < (l.length : Int)) = false := decide_eq_false (by simp; omega)
   simp only [cK, d, aS, bJ]
   rfl
  ·rw [List.drop_eq_nil_of_le (by omega)]
   rfl
 | succ k ih =>
  intro i m he hm
  obtain ⟨m, rfl⟩ : ∃ m', m = m' + 1 := ⟨m - 1, by omega⟩
  have hi : i < l.length := by omega
  have hv : l[i]? = some l[i] := List.getElem?_eq_getElem hi
  obtain ⟨a, e1, e2⟩ := S.at hv
  obtain ⟨r, q1, q2⟩ := ih (i + 1) m (by omega) (by omega)
  have d : decide (Int.ofNat i < (l.length : Int)) = true := decide_eq_true (by simp; omega)
  have hc := hc l[i]
  have ha : aD .add (.i .i64 (Int.ofNat i)) (.i .i64 (Int.ofNat 1)) h = some (.i .i64 (Int.ofNat (i + 1)), h) := gE i 1 h (by omega)
  rw [aLr hv]
  cases hmay : p l[i] with
  | true =>
   refine ⟨Int.ofNat i, ?_, by simp⟩
   show gP (dC n) n (iX (dC n) n m) _ _ _ _ h = _
   unfold gP
   rw [hmay] at hc
   simp only [cK, d, aS, bM, e1, e2, hc]
  | false =>
   refine ⟨r, ?_, by rw [q2]; rfl⟩
   show gP (dC n) n (iX (dC n) n m) _ _ _ _ h = _
   unfold gP
   rw [hmay] at hc
   simp only [cK, d, aS, bM, e1, e2, hc, bJ, ha]
   exact q1
theorem dSw {x f : DV} {l : List Int} (S : SlI x l h) {p : Int → Bool} {n : Nat} (hc : ∀ v, cZ CF (dC n) f [iD v] h = some (.b (p v), h)) (hl : l.length ≤ 256) (hn : 256 < n) : dC (n + 2) 52 [x, f] h = some (.b (l.any p), h) := by
 rw [nQ 52 rfl, bRj]
 unfold s52
 obtain ⟨r, q1, q2⟩ := cQb S (p := p) (n := n) hc hl l.length 0 n (by omega) (by omega)
 have e : dC (n + 1) 89 [x, f] h = some (iD r, h) := by
  rw [nQ 89 rfl, cDs]
  unfold s89 aNt aMx aXe
  simp only [g0, g1, S.len (h' := h), aS]
  exact q1
 simp only [g0, g1, e, aS, lP, q2, List.drop_zero]
def vG (M : MemV) (n r : Int) (l : List Int) : Prop := wX n ≠ (l.length : Int) ∨ dW r M.pl = false ∨ ∃ v ∈ l, dW v M.pl = false
theorem cSr {k : Nat} {z : Prop} (V : Wv k h M R es z) {x : DV} {l : List Int} (S : SlI x l h) (hl : l.length ≤ 256) (n r : Int) {m : Nat} (hm : 300 < m) :
  ∃ h1, Wv k h1 M R es z ∧ Up h h1 ∧ ((vG M n r l ∧ dC (m + 4) 16 [.p (aO 7) 0, iD n, iD r, x] h = some (.t [iD 0, iD 20], h1)) ∨
   (¬ vG M n r l ∧ dC (m + 4) 16 [.p (aO 7) 0, iD n, iD r, x] h = wG (dC (m + 3)) (m + 3) (.p (aO 7) 0) (iD n) (iD r) x h1)) := by
 obtain ⟨h1, hh1⟩ : ∃ h1 : Hp, (⟨h.next.succ, Tr.set (.row .ex [.p (aO 3) 0]) h.next (Tr.set (.row .ex [.p0]) h.next h.bl)⟩ : Hp) = h1 := ⟨_, rfl⟩
 have ns := dUu h.next
 have nx := V.K.W.nx
 have oth : ∀ b : Pos, b ≠ h.next → h1.bl.get b = h.bl.get b := fun b hb => by
  rw [← hh1]
  show (Tr.set _ _ (Tr.set _ _ _)).get b = _
  rw [dUr _ _ _ _ hb, dUr _ _ _ _ hb]
 have U1 : Up h h1 := ⟨by rw [← hh1]; show _ ≤ h.next.succ.toNat; omega, fun b _ hb => oth b fun e => by subst e; omega⟩
 have V1 : Wv k h1 M R es z := V.up (V.K.W.up U1 fun b hb => oth b fun e => by subst e; omega) U1
 have hg : h1.bl.get h.next = some (.row .ex [.p (aO 3) 0]) := by rw [← hh1]; exact dUs _ _ _
 have e1 : bN [.p0] h = some (.p h.next 0, ⟨h.next.succ, Tr.set (.row .ex [.p0]) h.next h.bl⟩) := rfl
 have e2 : aG 1 (.p h.next 0) (.p (aO 3) 0) ⟨h.next.succ, Tr.set (.row .ex [.p0]) h.next h.bl⟩ = some (aW, h1) := by
  rw [← hh1]
  simp only [aG, dJ, dI, dUs]
  rfl
 have ld : aA (.p h.next 0) h1 = some (.p (aO 3) 0, h1) := lF hg rfl rfl
 have S1 := S.up U1
 have em := V.K.W.memory (m + 2)
 have ea := cSo n (m + 2) h1
 have el : cA x h1 = some (iD (l.length : Int), h1) := S1.len
 have ef : dC (m + 3) 54 [] h1 = some (.t [iD 0, iD 20], h1) := by rw [nQ 54 rfl, cDb]; rfl
 have hc : ∀ v, cZ CF (dC (m + 1)) (.f 53 [] [.p h.next 0]) [iD v] h1 = some (.b (!(dW v M.pl)), h1) := fun v => by
  rw [pcf rfl]
  simp only [List.nil_append, List.singleton_append]
  rw [nQ 53 rfl, cUr]
  unfold s53
  simp only [g0, g1, ld, aS, V1.K.W.may, iE]
 have ec := dSw S1 (p := fun v => !(dW v M.pl)) (n := m + 1) hc hl (by omega)
 refine ⟨h1, V1, U1, ?_⟩
 rw [nQ 16 rfl, cVq]
 unfold s16 aMk aBi
 simp only [g0, g1, g2, g3, em, aS, e1, e2]
 by_cases c1 : wX n = (l.length : Int)
 ·have d1 : (wX n != (l.length : Int)) = false := by simpa using c1
  cases hr : dW r M.pl with
  | false =>
   refine .inl ⟨.inr (.inl hr), ?_⟩
   simp only [iD] at ea el ef ⊢
   simp only [ea, el, aS, gI, d1, fR, ld, V1.K.W.may, hr, iE, Bool.not_false, bX, eX, cM, bM, ef, nH, nJ]
  | true =>
   cases hq : l.any (fun v => !(dW v M.pl)) with
   | true =>
    rw [hq] at ec
    obtain ⟨v, hv, hv2⟩ := List.any_eq_true.1 hq
    refine .inl ⟨.inr (.inr ⟨v, hv, by simpa using hv2⟩), ?_⟩
    simp only [iD] at ea el ef ⊢
    simp only [ea, el, aS, gI, d1, fR, ld, V1.K.W.may, hr, iE, Bool.not_true, bX, ec, bM, ef, nH, nJ]
   | false =>
    rw [hq] at ec
    refine .inr ⟨fun q => ?_, ?_⟩
    ·rcases q with q | q | ⟨v, hv, hv2⟩
     ·exact q c1
     ·rw [hr] at q; cases q
     ·have : l.any (fun v => !(dW v M.pl)) = true := List.any_eq_true.2 ⟨v, hv, by rw [hv2]; rfl⟩
      rw [this] at hq
      cases hq
    ·simp only [iD] at ea el ef ⊢
     simp only [ea, el, aS, gI, d1, fR, ld, V1.K.W.may, hr, iE, Bool.not_true, bX, ec, bJ]
 ·have d1 : (wX n != (l.length : Int)) = true := by simpa using c1
  refine .inl ⟨.inl c1, ?_⟩
  simp only [iD] at ea el ef ⊢
  simp only [ea, el, aS, gI, d1, eX, sR, cM, bM, ef, nH, nJ]
end
end Go.Dd

namespace Go.Dd
open Go.Proofs
theorem aAt (T T' : Tr Ob) : ∀ (l : List (Pos × Ob)) (b : Pos), (∃ e ∈ l, e.1 = b) → (eW l T).get b = (eW l T').get b
 | [], b, h => by obtain ⟨e, he, _⟩ := h; cases he
 | x :: l, b, h => by
  show (Tr.set x.2 x.1 (eW l T)).get b = (Tr.set x.2 x.1 (eW l T')).get b
  by_cases e : b = x.1
  ·subst e
   rw [dUs, dUs]
  ·rw [dUr _ _ _ _ e, dUr _ _ _ _ e]
   obtain ⟨y, hy, hb⟩ := h
   simp only [List.mem_cons] at hy
   rcases hy with rfl | hy
   ·exact absurd hb.symm e
   ·exact aAt T T' l b ⟨y, hy, hb⟩
theorem aNp (T : Tr Ob) : ∀ (l : List (Pos × Ob)) (b : Pos), (∀ e ∈ l, e.1 ≠ b) → (eW l T).get b = T.get b
 | [], b, h => rfl
 | x :: l, b, h => by
  show (Tr.set x.2 x.1 (eW l T)).get b = _
  rw [dUr _ _ _ _ (fun e => h x (by simp) e.symm)]
  exact aNp T l b fun e he => h e (by simp [he])
noncomputable def hWo (h : Hp) : Hp := ⟨aO nxW, eW HLW h.bl⟩
theorem dNu : hW.bl = eW HLW .e := by kernel_rfl
theorem aNm : HLW.map (·.1) = [aO 7, aO 6, aO 5, aO 4, aO 3, aO 2, aO 1] := rfl
theorem oS (h : Hp) (i : Nat) (hi : i = 1 ∨ i = 2 ∨ i = 3 ∨ i = 4 ∨ i = 5 ∨ i = 6 ∨ i = 7) : (hWo h).bl.get (aO i) = hW.bl.get (aO i) := by
 rw [dNu]
 show (eW HLW h.bl).get (aO i) = _
 refine aAt h.bl .e HLW (aO i) ?_
 have : aO i ∈ HLW.map (·.1) := by
  rw [aNm]
  rcases hi with rfl | rfl | rfl | rfl | rfl | rfl | rfl <;> simp
 obtain ⟨e, he, h2⟩ := List.mem_map.1 this
 exact ⟨e, he, h2⟩
theorem cYg (h : Hp) (b : Pos) (hb : b.toNat < 1024) : (hWo h).bl.get b = h.bl.get b := by
 show (eW HLW h.bl).get b = _
 refine aNp h.bl HLW b fun e he q => ?_
 have : e.1 ∈ HLW.map (·.1) := List.mem_map.2 ⟨e, he, rfl⟩
 rw [aNm, q] at this
 simp only [List.mem_cons, List.not_mem_nil, or_false] at this
 rcases this with e | e | e | e | e | e | e <;> subst e
 ·rw [pn7] at hb; omega
 ·rw [pn6] at hb; omega
 ·rw [pn5] at hb; omega
 ·rw [pn4] at hb; omega
 ·rw [pn3] at hb; omega
 ·rw [pn2] at hb; omega
 ·rw [pn1] at hb; omega
theorem WNo (h : Hp) : Wd (hWo h) MN RN esN := by
 have W := WN
 obtain ⟨m1, m2, m3, m4, m5, m6⟩ := jO W.mem
 refine ⟨by rw [oS h 7 (by simp)]; exact W.w, by rw [oS h 4 (by simp)]; exact W.r, W.rl, by rw [oS h 5 (by simp)]; exact W.sy, ?_, W.nx, W.wb, W.pb⟩
 refine nB (by rw [oS h 3 (by simp)]; exact m1) ?_ ?_ m4 m5 m6
 ·rw [W.wb] at m2 ⊢
  rw [oS h 1 (by simp)]; exact m2
 ·rw [W.pb] at m3 ⊢
  rw [oS h 2 (by simp)]; exact m3
theorem WvN (h : Hp) : Wv 20000 (hWo h) MN RN esN where
 K := ⟨WNo h, GN, KN.sy, KN.r0, KN.rk⟩
 I := GIN
 c := by
  unfold Wc
  rw [oS h 6 (by simp)]
  kernel_rfl
 n := rfl
 fin := by show 4371 + 20000 ≤ 30000; omega
 md := by show 592 + 20000 ≤ 700000; omega
theorem bJd (h : Hp) (hn : lL h.next (aO 1) = true) : gZ 12 [] h = some (.p (aO 7) 0, hWo h) := by
 have e1 : Nat.beq 12 13 = false := rfl
 have e2 : Nat.beq 12 12 = true := rfl
 have e3 : bBm [] = true := rfl
 unfold gZ zV aOy zK hWo
 rw [e1, cond_false, e2, cond_true, e3, hn, Bool.and_self, cond_true]
theorem bUc (h : Hp) : gZ 13 [] h = some (.b true, h) := rfl
theorem iQ {g : FuncId} (h1 : Nat.beq g 13 = false) (h2 : Nat.beq g 12 = false) (args : List DV) (h : Hp) : gZ g args h = dC 900 g args h := by
 unfold gZ
 rw [h1, cond_false, aXi, h2, cond_false]
end Go.Dd

namespace Go.Dd
open Go.Proofs
section
variable {h : Hp} {M : MemV} {R : List Int} {es : List (DV × DV)} {k : Nat} {b : Pos} {n r : Int} {x : DV} {l : List Int}
def Dr (h : Hp) (b : Pos) (n r : Int) (x : DV) : Prop := h.bl.get b = some (.row .ex [.p (aO 7) 0, iD n, iD r, x]) ∧ 1029 ≤ b.toNat ∧ b.toNat < h.next.toNat
theorem Dr.l0 (D : Dr h b n r x) : aA (.p b (0 + 0)) h = some (.p (aO 7) 0, h) := lF (i := 0 + 0) D.1 rfl rfl
theorem Dr.l1 (D : Dr h b n r x) : aA (.p b (0 + 1)) h = some (iD n, h) := lF (i := 0 + 1) D.1 rfl rfl
theorem Dr.l2 (D : Dr h b n r x) : aA (.p b (0 + 2)) h = some (iD r, h) := lF (i := 0 + 2) D.1 rfl rfl
theorem Dr.l3 (D : Dr h b n r x) (S : SlI x l h) : aA (.p b (0 + 3)) h = some (x, h) := by
 refine lF (i := 0 + 3) D.1 rfl ?_
 rcases S with ⟨rfl, _⟩ | ⟨_, _, _, rfl, _⟩ <;> rfl
theorem cQn {z : Prop} (V : Wv k h M R es z) (S : SlI x l h) (n r : Int) (m : Nat) :
  ∃ b h1, Wv k h1 M R es z ∧ Up h h1 ∧ Dr h1 b n r x ∧ SlI x l h1 ∧ wG (dC m) m (.p (aO 7) 0) (iD n) (iD r) x h = pE (dC m) m (iD n) (.p b 0) h1 := by
 obtain ⟨U1, V1⟩ := V.new (.row .ex [.p (aO 7) 0, iD n, iD r, x])
 refine ⟨h.next, _, V1, U1, ⟨dUs _ _ _, by have := V.K.W.nx; omega, by show h.next.toNat < h.next.succ.toNat; rw [dUu]; omega⟩, S.up U1, ?_⟩
 have hx : dJ x = some [x] := by
  rcases S with ⟨rfl, _⟩ | ⟨_, _, _, rfl, _⟩ <;> rfl
 have e1 : bB [.p0, .i .i64 (Int.ofNat 0), .i .i64 (Int.ofNat 0), .l0] [(0, 1, .p (aO 7) 0), (1, 1, iD n), (2, 1, iD r), (3, 1, x)] h = some (.a [.p (aO 7) 0, iD n, iD r, x], h) := by
  rcases S with ⟨rfl, _⟩ | ⟨_, _, _, rfl, _⟩ <;> simp [bB, jI, dJ, iD]
 unfold wG
 rw [e1, aS]
 rfl
end
end Go.Dd

namespace Go.Dd
open Go.Proofs
section
variable {h : Hp} {M : MemV} {R : List Int} {es : List (DV × DV)} {k : Nat} {b : Pos} {n r : Int} {x : DV} {l : List Int}
end
end Go.Dd

namespace Go.Dd
open Go.Proofs
def pK (k : Nat) : Pos := dKv 24 k
def hK (k : Nat) : Hp := ⟨pK k, .e⟩
theorem aDi : (pK 1022).toNat = 1022 := by kernel_rfl
theorem aFq : (pK 1023).toNat = 1023 := by kernel_rfl
theorem cWi : (pK 1022).succ = pK 1023 := by kernel_rfl
theorem dBi : (pK 1023).succ = aO 1 := by kernel_rfl
abbrev th (kd N : Int) (s : List Nat) : DV := .a [iD kd, iD N, .s s]
def i64 (N : Int) : Prop := -9223372036854775808 ≤ N ∧ N ≤ 9223372036854775807
def byS (s : List Nat) : Prop := ∀ c ∈ s, c < 256
theorem cVr (kd N : Int) (s : List Nat) (h : Hp) : bR (th kd N s) h = some (.p h.next 0, ⟨h.next.succ, Tr.set (.row .ex [iD kd, iD N, .s s]) h.next h.bl⟩) := rfl
section
variable {h h' : Hp} {M : MemV} {R : List Int} {es : List (DV × DV)} {k : Nat} {z : Prop} {b : Pos} {kd N : Int} {s : List Nat}
theorem Tg.ld (T : Tg h b kd N s) : aK 3 (.p b 0) h = some (th kd N s, h) := by
 have e : h.bl.get b = some (.row .ex [iD kd, iD N, .s s]) := T
 simp [aK, cellsAt, rowOf, e, lT, DV.one]
theorem Tg.up (T : Tg h b kd N s) (U : Up h h') (hb : b.toNat < 1024) (hn : b.toNat < h.next.toNat) : Tg h' b kd N s := by
 unfold Tg
 rw [U.get b (.inl hb) hn]
 exact T
theorem dWg (T : Tg h b kd N s) (hb : b.toNat < 1024) : Tg (hWo h) b kd N s := by
 unfold Tg
 rw [cYg h b hb]
 exact T
theorem pE0 (t : TypeId) (h : Hp) : pEq (.pointer t) true (.p (aO 7) 0) .p0 h = some (.b false, h) := Eq.trans rfl rfl
theorem dCg (V : Wv k h M R es z) (v : Int) : ∃ y h', aL [(.i .i64 (Int.ofNat 0))] 1 [(0, 1, iD v)] h = some (y, h') ∧ SlI y [v] h' ∧ Up h h' ∧ Wv k h' M R es z := by
 obtain ⟨U1, V1⟩ := V.new (.row .ex [iD v])
 refine ⟨.l h.next 0 1 1, _, ?_, .inr ⟨h.next, 1, .ex, rfl, dUs _ _ _, .inr (by have := V.K.W.nx; omega), ?_⟩, U1, V1⟩
 ·simp [aL, jI, dJ, iD]
 ·show h.next.toNat < h.next.succ.toNat
  rw [dUu]; omega
end
theorem cRx (args : List DV) (h : Hp) : gZ 14 args h = dC (894 + 6) 14 args h := iQ rfl rfl args h
theorem cPe (args : List DV) (h : Hp) : gZ 15 args h = dC (898 + 2) 15 args h := iQ rfl rfl args h
theorem bBo (args : List DV) (h : Hp) : gZ 16 args h = dC (896 + 4) 16 args h := iQ rfl rfl args h
theorem cTb (args : List DV) (h : Hp) : gZ 23 args h = dC (899 + 1) 23 args h := iQ rfl rfl args h
theorem aXg (args : List DV) (h : Hp) : gZ 25 args h = dC (898 + 2) 25 args h := iQ rfl rfl args h
theorem cHx (args : List DV) (h : Hp) : gZ 30 args h = dC (899 + 1) 30 args h := iQ rfl rfl args h
theorem cMn (args : List DV) (h : Hp) : gZ 32 args h = dC (897 + 3) 32 args h := iQ rfl rfl args h
theorem cGq (args : List DV) (h : Hp) : gZ 37 args h = dC (897 + 3) 37 args h := iQ rfl rfl args h
structure Two (h : Hp) (k1 N1 : Int) (s1 : List Nat) (k2 N2 : Int) (s2 : List Nat) : Prop where
 t1 : Tg h (pK 1022) k1 N1 s1
 t2 : Tg h (pK 1023) k2 N2 s2
 nx : 1024 ≤ h.next.toNat
theorem Two.up {h h' : Hp} {k1 N1 k2 N2 : Int} {s1 s2 : List Nat} (T : Two h k1 N1 s1 k2 N2 s2) (U : Up h h') : Two h' k1 N1 s1 k2 N2 s2 := by
 have := T.nx
 exact ⟨T.t1.up U (by rw [aDi]; omega) (by rw [aDi]; omega), T.t2.up U (by rw [aFq]; omega) (by rw [aFq]; omega), Nat.le_trans T.nx U.next⟩
theorem aMg {p q : Pos} (ne : p ≠ q) (o1 o2 : Ob) (T : Tr Ob) (nx : Pos) : (⟨nx, Tr.set o2 q (Tr.set o1 p T)⟩ : Hp).bl.get p = some o1 ∧ (⟨nx, Tr.set o2 q (Tr.set o1 p T)⟩ : Hp).bl.get q = some o2 :=
 ⟨(dUr _ _ _ _ ne).trans (dUs _ _ _), dUs _ _ _⟩
theorem bGc (k1 N1 : Int) (s1 : List Nat) (k2 N2 : Int) (s2 : List Nat) : ∃ h1 h2, bR (th k1 N1 s1) (hK 1022) = some (.p (pK 1022) 0, h1) ∧ bR (th k2 N2 s2) h1 = some (.p (pK 1023) 0, h2) ∧
  gZ 12 [] h2 = some (.p (aO 7) 0, hWo h2) ∧ Wv 20000 (hWo h2) MN RN esN ∧ Two (hWo h2) k1 N1 s1 k2 N2 s2 := by
 refine ⟨_, ⟨aO 1, Tr.set (.row .ex [iD k2, iD N2, .s s2]) (pK 1023) (Tr.set (.row .ex [iD k1, iD N1, .s s1]) (pK 1022) .e)⟩, cVr _ _ _ _, ?_, ?_, WvN _, ?_⟩
 ·rw [cVr]
  show some (DV.p (pK 1022).succ 0, (⟨(pK 1022).succ.succ, Tr.set _ (pK 1022).succ _⟩ : Hp)) = _
  rw [cWi, dBi]
  rfl
 ·exact bJd _ (by kernel_rfl)
 ·have ne : pK 1022 ≠ pK 1023 := fun e => by have := congrArg Pos.toNat e; rw [aDi, aFq] at this; omega
  refine ⟨dWg ?_ (by rw [aDi]; omega), dWg ?_ (by rw [aFq]; omega), ?_⟩
  ·exact (aMg ne _ _ _ _).1
  ·exact (aMg ne _ _ _ _).2
  ·exact Nat.le_trans (by omega) (WNo _).nx
end Go.Dd

namespace Go.Dd
open Go.Proofs
section
variable {h h' : Hp} {M M' : MemV} {R R' : List Int} {es es' : List (DV × DV)} {k : Nat} {z : Prop} {CL : List Nat}
theorem Stay.head (S : Stay k M M' R R' es es') (I : GI M R CL z) (G : Good M) {o : Int} (ho : bV o M.pl ≠ 0) : cQ M' o = cQ M o := by
 obtain ⟨h1, _, h4, h3⟩ := I.headOb G ho
 unfold cQ
 rw [S.at' o ho, S.old _ (by omega)]
theorem Stay.clo (S : Stay k M M' R R' es es') (I : GI M R CL z) (G : Good M) {o : Int} (ho : bV o M.pl ≠ 0) : nY M' o = nY M o := by
 obtain ⟨h1, _, h4, h3⟩ := I.headOb G ho
 unfold nY
 rw [S.at' o ho, S.old _ (by omega)]
theorem Stay.get (S : Stay k M M' R R' es es') (I : GI M R CL z) (G : Good M) {o : Int} (ho : bV o M.pl ≠ 0) (i : Nat) : lX M' o i = lX M o i := by
 obtain ⟨h1, _, h4, h3⟩ := I.headOb G ho
 unfold lX
 rw [S.head I G ho, S.at' o ho]
 by_cases c : bV o M.pl ≠ 0 ∧ i < cQ M o / 4
 ·rw [if_pos c, if_pos c, S.old _ (by omega)]
 ·rw [if_neg c, if_neg c]
theorem Stay.isC (S : Stay k M M' R R' es es') (I : GI M R CL z) (G : Good M) {o : Int} (ho : bV o M.pl ≠ 0) : isC M' R' o = isC M R o := by
 unfold Go.Dd.isC
 rw [S.at' o ho, S.clo I G ho, S.r 2]
theorem Stay.kind (S : Stay k M M' R R' es es') (I : GI M R CL z) (G : Good M) {o : Int} (ho : bV o M.pl ≠ 0) : hD M' R' o = hD M R o := by
 unfold hD
 rw [S.isC I G ho, S.get I G ho]
theorem Stay.size (S : Stay k M M' R R' es es') (I : GI M R CL z) (G : Good M) {o : Int} (ho : bV o M.pl ≠ 0) : pR M' R' o = pR M R o := by
 unfold pR
 rw [S.isC I G ho, S.get I G ho]
theorem Wv.make0 {f c : Nat} (V : Wv (c + 3 + k) h M R es) {cls : Int} (hc : bV cls M.pl ≠ 0) (hf : f ≤ 2) (h256 : c ≤ 256) (N : ∀ CL, GI M R CL → NewI M R CL f cls (List.replicate c 0)) :
  ∃ h' M', gL [.p (aO 3) 0, .i .i64 cls, .i .i64 (.ofNat f), .i .i64 (.ofNat c)] h = some (.t [.i .i64 (.ofNat (M.fin * 2)), .i .i64 (.ofNat 0)], h') ∧ Wv k h' M' R es ∧ Up h h' ∧ Grown M M' f cls (List.replicate c 0) ∧ Stay (c + 3) M M' R R es es := by
 have h4 := V.n
 have h5 := V.fin
 have h6 := V.md
 obtain ⟨h', M', e1, K', U, g⟩ := V.K.make0 hc hf h256 (by omega) (by omega)
 have S := g.stay V.K.G R es N
 rw [List.length_replicate] at S
 exact ⟨h', M', e1, V.stay K' U S, U, g, S⟩
end
end Go.Dd

namespace Go.Dd
open Go.Proofs
theorem cKk (rec : RT) (n : Nat) (x : DV) (h : Hp) : pE rec n (iD 23) x h = bC rec n (.f 58 [x] []) h := by rfl
theorem cHq (rec : RT) (n : Nat) (x : DV) (h : Hp) : pE rec n (iD 24) x h = bC rec n (.f 58 [x] []) h := by rfl
section
variable {h h' : Hp} {M M' : MemV} {R R' : List Int} {es es' : List (DV × DV)} {k : Nat} {z : Prop} {CL : List Nat}
theorem cVp {n : Int} {K : FuncId} (hd : ∀ (rec : RT) (m : Nat) (x : DV) (h : Hp), pE rec m (iD n) x h = bC rec m (.f K [x] []) h) (hK : CF.I K = none) (V : Wv k h M R es z) {x : DV} {l : List Int} (S : SlI x l h) (hl : l.length ≤ 256) (r : Int) {m : Nat} (hm : 300 < m) :
  (vG M n r l ∧ ∃ h', dC (m + 4) 16 [.p (aO 7) 0, iD n, iD r, x] h = some (.t [iD 0, iD 20], h') ∧ Wv k h' M R es z ∧ Up h h') ∨
  (¬ vG M n r l ∧ ∃ b h1, Wv k h1 M R es z ∧ Up h h1 ∧ Dr h1 b n r x ∧ SlI x l h1 ∧
   ∀ a e h', dC (m + 3) K [.p b 0] h1 = some (.t [a, e], h') → dC (m + 4) 16 [.p (aO 7) 0, iD n, iD r, x] h = some (.t [a, e], h')) := by
 obtain ⟨h1, V1, U1, q | q⟩ := cSr V S hl n r hm
 ·exact .inl ⟨q.1, h1, q.2, V1, U1⟩
 ·obtain ⟨b, h2, V2, U2, D, S2, e2⟩ := cQn V1 (S.up U1) n r (m + 3)
  refine .inr ⟨q.1, b, h2, V2, U1.trans U2, D, S2, fun a e h' e3 => ?_⟩
  rw [q.2, e2, hd]
  unfold bC
  rw [pcf hK]
  simp only [List.append_nil, List.nil_append] at e3 ⊢
  rw [e3]
  simp only [aS, nH, nJ]
end
end Go.Dd

namespace Go.Dd
open Go.Proofs
section
variable {h h' : Hp} {M M' : MemV} {R R' : List Int} {es es' : List (DV × DV)} {k : Nat} {z : Prop} {CL : List Nat} {b : Pos} {n r : Int} {x : DV}
theorem aCo {c : Int} (h : isC M R c = true) : bV c M.pl ≠ 0 := (of_decide_eq_true h).1
end
theorem eqX {a b : Int} (h : a = b) : (a == b) = true := by rw [h]; exact beq_self_eq_true b
end Go.Dd

namespace Go.Dd
open Go.Proofs
theorem bMy (n : Int) (h : Hp) : bI (some (iD n, h)) (iD n) = true := by
 unfold bI
 simp [DV.beq]
theorem bGg : Int.ofNat 0 = (0 : Int) := rfl
theorem dQh : Int.ofNat 2 = (2 : Int) := rfl
theorem dLx : Int.ofNat 23 = (23 : Int) := rfl
theorem cVo : Int.ofNat 250 = (250 : Int) := rfl
theorem neF {a b : Int} (h : a = b) : (a != b) = false := by simpa using h
theorem neT {a b : Int} (h : a ≠ b) : (a != b) = true := by simpa using h
theorem aZb (m : Nat) (h : Hp) : dC (m + 1) 54 [] h = some (.t [iD 0, iD 20], h) := by rw [nQ 54 rfl, cDb]; rfl
section
variable {h h' : Hp} {M M' : MemV} {R R' : List Int} {es es' : List (DV × DV)} {k : Nat} {z : Prop} {CL : List Nat} {b : Pos} {n r : Int} {x : DV}
theorem GI.atK (I : GI M R CL z) {i : Nat} (hi : i < 16) : bV (R.getD (2 + i) 0) M.pl = 3 + 9 * i := by
 have hc := I.cl _ (I.kn i hi)
 rw [I.rk i hi]
 have hp : iG (.ofNat (6 + 18 * i)) = 3 + 9 * i := by
  have := aWa (a := 3 + 9 * i) (by omega) (by omega)
  rw [show (3 + 9 * i) * 2 = 6 + 18 * i by omega] at this
  exact this
 rcases lG (.ofNat (6 + 18 * i)) M.pl with e | ⟨e, _⟩
 ·exact absurd e (atN_pos.2 ⟨by rw [hp]; omega, by rw [hp]; exact hc.pl⟩)
 ·rw [e, hp]
theorem GI.kind0 (I : GI M R CL z) (G : Good M) {c : Int} (h0 : hD M R c = 0) : isC M R c = true ∧ M.t.get (bV c M.pl + 8) = 1 := by
 cases hc : isC M R c with
 | false => unfold hD at h0; rw [hc] at h0; cases h0
 | true =>
  obtain ⟨k, _, e, q⟩ := I.kindC G hc
  rw [e] at h0
  have : k = 0 := by omega
  subst this
  exact ⟨rfl, q⟩
theorem GI.newP (I : GI M R CL z) (G : Good M) {c : Int} (h0 : hD M R c = 0) {j : Nat} (hj : j ≤ 256) : NewI M R CL 0 c (List.replicate j 0) := by
 obtain ⟨hc, hk⟩ := I.kind0 G h0
 have ne : ∀ i, i < 16 → M.t.get (3 + 9 * i + 8) ≠ 1 → c ≠ R.getD (2 + i) 0 := fun i hi hne e => by
  rw [e, I.atK hi] at hk
  exact hne hk
 refine ⟨by rw [List.length_replicate]; exact hj, by omega, fun _ => rfl, fun q => ?_, fun q => (by cases q), fun q => ?_, fun c hc _ _ => ⟨rfl, fun v hv => List.eq_of_mem_replicate hv⟩⟩
 ·rcases q with q | q
  ·exact absurd q (ne 10 (by omega) (by rw [show 3 + 9 * 10 + 8 = 101 from rfl, I.k10]; decide))
  ·exact absurd q (ne 11 (by omega) (by rw [show 3 + 9 * 11 + 8 = 110 from rfl, I.k11]; decide))
 ·exact absurd q (ne 1 (by omega) (by rw [show 3 + 9 * 1 + 8 = 20 from rfl, I.k1]; decide))
theorem cIz (V : Wv (19 + k) h M R es) (D : Dr h b 23 r x) {m : Nat} (hm : 300 < m) :
  ∃ a e h' M', dC (m + 4) 58 [.p b 0] h = some (.t [iD a, iD e], h') ∧ Wv k h' M' R es ∧ Up h h' ∧ Stay 19 M M' R R es es ∧
   ((hD M R r ≠ 0 ∧ a = 0 ∧ e = 20 ∧ M' = M) ∨ (hD M R r = 0 ∧ e = 0 ∧ ∃ c : Nat, pR M R r = c ∧ a = .ofNat (M.fin * 2) ∧ Grown M M' 0 r (List.replicate c 0))) := by
 have hk := V.K.W.kind V.K.G V.I r m
 have l0 := D.l0
 have l1 := D.l1
 have l2 := D.l2
 have em := V.K.W.memory (m + 2)
 rw [nQ 58 rfl, bYb]
 unfold s58
 simp only [iD] at hk l1 l2 em ⊢
 have ef := aZb (m + 2) h
 have same2 := bMy r h
 simp only [iD] at ef same2
 simp only [g0, gB, qF, l0, l1, l2, aS, em, aQq, same2, Bool.and_self, cnd, hk, bY, dLx, beq_self_eq_true, bM, gI, bGg]
 by_cases c0 : hD M R r = 0
 ·obtain ⟨hc, _⟩ := V.I.kind0 V.K.G c0
  obtain ⟨c, hc16, sz⟩ := V.I.sizeC V.K.G hc
  have hs := V.K.W.size V.K.G V.I r m
  have V' : Wv (c + 3 + k) h M R es := V.less (by omega)
  obtain ⟨h1, M1, e1, V1, U1, g, S1⟩ := V'.make0 (cls := r) (aCo hc) (f := 0) (by omega) (by omega) (fun CL I => I.newP V.K.G c0 (by omega))
  refine ⟨_, 0, h1, M1, ?_, V1, U1, S1.mono (by omega), .inr ⟨c0, rfl, c, sz, rfl, g⟩⟩
  rw [sz] at hs
  simp only [iD] at hs
  have e1' : gL [.p (aO 3) 0, .i .i64 r, .i .i64 0, .i .i64 (c : Int)] h = some (.t [.i .i64 (.ofNat (M.fin * 2)), .i .i64 (.ofNat 0)], h1) := e1
  simp only [neF c0, bJ, hs, l2, same2, Bool.and_self, cnd, e1', aS, nH, nJ, iD, bGg]
 ·refine ⟨0, 20, h, M, ?_, V.less (by omega), Up.refl h, Stay.refl _ _ _ _, .inl ⟨c0, rfl, rfl, rfl⟩⟩
  simp only [neT c0, bM, ef, aS, nH, nJ]
theorem cMu (V : Wv (253 + k) h M R es) (D : Dr h b 24 r x) {v : Int} (S : SlI x [v] h) {m : Nat} (hm : 300 < m) :
  ∃ a e h' M', dC (m + 4) 58 [.p b 0] h = some (.t [iD a, iD e], h') ∧ Wv k h' M' R es ∧ Up h h' ∧ Stay 253 M M' R R es es ∧
   ((¬ (∃ c : Nat, lY M R v = some (c : Int) ∧ c ≤ 250 ∧ (r = R.getD 11 0 ∨ r = R.getD 12 0)) ∧ a = 0 ∧ e = 20 ∧ M' = M) ∨
    (∃ c : Nat, (lY M R v = some (c : Int) ∧ c ≤ 250 ∧ (r = R.getD 11 0 ∨ r = R.getD 12 0)) ∧ e = 0 ∧ a = .ofNat (M.fin * 2) ∧ ∃ f, f ≤ 2 ∧ Grown M M' f r (List.replicate c 0))) := by
 have hk := V.K.W.kind V.K.G V.I r m
 have l0 := D.l0
 have l1 := D.l1
 have l2 := D.l2
 have l3 := D.l3 S
 obtain ⟨ad, q1, q2⟩ := S.at (i := 0) rfl
 have em := V.K.W.memory (m + 2)
 have va := V.K.W.value V.K.G V.I v (m + 1)
 have k9 : dC (m + 3) 30 [.p (aO 7) 0, .i .i64 (Int.ofNat 9)] h = some (iD (R.getD 11 0), h) := V.K.W.known (show 9 < 16 by omega) (m + 2)
 have k10 : dC (m + 3) 30 [.p (aO 7) 0, .i .i64 (Int.ofNat 10)] h = some (iD (R.getD 12 0), h) := V.K.W.known (show 10 < 16 by omega) (m + 2)
 rw [nQ 58 rfl, bYb]
 unfold s58
 have ef := aZb (m + 2) h
 have same2 := bMy r h
 have d24 : ((24 : Int) == 23) = false := rfl
 simp only [iD] at hk l1 l2 em ef same2 q2 va k9 k10 ⊢
 simp only [g0, gB, qF, l0, l1, l2, aS, em, aQq, same2, Bool.and_self, cnd, hk, bY, dLx, d24, bJ, l3, q1, q2, va, nH, nJ, iE]
 have no : ∀ (P : Prop), (P → False) → aH → True := fun _ _ _ => trivial
 cases hv : lY M R v with
 | none =>
  refine ⟨0, 20, h, M, ?_, V.less (by omega), Up.refl h, Stay.refl _ _ _ _, .inl ⟨fun ⟨c, q, _⟩ => (by cases q), rfl, rfl, rfl⟩⟩
  simp only [Option.isSome_none, Bool.not_false, eX, cM, aS, bM, ef, nH, nJ]
 | some w =>
  simp only [Option.isSome_some, Bool.not_true, fR, eX, aS, Option.getD_some, cK, fD, bX, bGg, cVo]
  by_cases c0 : w < 0
  ·refine ⟨0, 20, h, M, ?_, V.less (by omega), Up.refl h, Stay.refl _ _ _ _, .inl ⟨fun ⟨c, q, _⟩ => (by cases q; omega), rfl, rfl, rfl⟩⟩
   simp only [decide_eq_true c0, eX, cM, aS, bM, ef, nH, nJ]
  ·simp only [decide_eq_false c0, fR, aS, bX, fD]
   by_cases c1 : w > 250
   ·refine ⟨0, 20, h, M, ?_, V.less (by omega), Up.refl h, Stay.refl _ _ _ _, .inl ⟨fun ⟨c, q, _⟩ => (by cases q; omega), rfl, rfl, rfl⟩⟩
    simp only [decide_eq_true c1, aS, bM, ef, nH, nJ]
   ·obtain ⟨c, rfl⟩ : ∃ c : Nat, w = c := ⟨w.toNat, by omega⟩
    simp only [decide_eq_false c1, bJ, aS, l0, l2, k9, same2, Bool.and_self, cnd]
    have V' : Wv (c + 3 + k) h M R es := V.less (by omega)
    have rk9 := V.K.rk 9 (by omega)
    have rk10 := V.K.rk 10 (by omega)
    by_cases r9 : r = R.getD 11 0
    ·obtain ⟨h1, M1, e1, V1, U1, g, S1⟩ := V'.make0 (cls := r) (by rw [r9]; exact rk9) (f := 0) (by omega) (by omega) (fun CL I => by rw [r9]; exact I.newK (i := 9) (.inl ⟨rfl, rfl⟩) (by simp; omega) (fun q => by cases q))
     have e1' : gL [.p (aO 3) 0, .i .i64 r, .i .i64 0, .i .i64 (c : Int)] h = some (.t [.i .i64 (.ofNat (M.fin * 2)), .i .i64 (.ofNat 0)], h1) := e1
     refine ⟨_, 0, h1, M1, ?_, V1, U1, S1.mono (by omega), .inr ⟨c, ⟨rfl, by omega, .inl r9⟩, rfl, rfl, 0, by omega, g⟩⟩
     simp only [bY, eqX r9, l2, bM, e1', aS, nH, nJ, iD, bGg]
    ·simp only [bY, lZ r9, bJ, aS, l0, l2, k10, same2, Bool.and_self, cnd]
     by_cases r10 : r = R.getD 12 0
     ·obtain ⟨h1, M1, e1, V1, U1, g, S1⟩ := V'.make0 (cls := r) (by rw [r10]; exact rk10) (f := 2) (by omega) (by omega) (fun CL I => by rw [r10]; exact I.newK (i := 10) (.inr (.inl ⟨.inl rfl, rfl⟩)) (by simp; omega) (fun _ v hv => ⟨0, by omega, List.eq_of_mem_replicate hv⟩))
      have e1' : gL [.p (aO 3) 0, .i .i64 r, .i .i64 2, .i .i64 (c : Int)] h = some (.t [.i .i64 (.ofNat (M.fin * 2)), .i .i64 (.ofNat 0)], h1) := e1
      refine ⟨_, 0, h1, M1, ?_, V1, U1, S1.mono (by omega), .inr ⟨c, ⟨rfl, by omega, .inr r10⟩, rfl, rfl, 2, by omega, g⟩⟩
      simp only [bY, eqX r10, l2, bM, dQh, e1', aS, nH, nJ, iD, bGg]
     ·refine ⟨0, 20, h, M, ?_, V.less (by omega), Up.refl h, Stay.refl _ _ _ _, .inl ⟨fun ⟨c, _, _, q⟩ => q.elim r9 r10, rfl, rfl, rfl⟩⟩
      simp only [bY, lZ r10, bJ, ef, aS, nH, nJ]
end
end Go.Dd

namespace Go.Dd
open Go.Proofs
theorem cYm : Int.ofNat 1 = (1 : Int) := rfl
section
variable {h h' : Hp} {M M' : MemV} {R R' : List Int} {es es' : List (DV × DV)} {k : Nat} {z : Prop} {CL : List Nat} {b : Pos} {n r : Int} {x : DV}
theorem dWb (h0 : hD M R r = 0) : dW r M.pl = true := by
 cases hc : isC M R r with
 | false => unfold hD at h0; rw [hc] at h0; cases h0
 | true => exact mL (aCo hc)
theorem dRw (V : Wv (19 + k) h M R es) (r : Int) {m : Nat} (hm : 300 < m) :
  ∃ a e h' M', dC (m + 5) 16 [.p (aO 7) 0, iD 23, iD r, .l0] h = some (.t [iD a, iD e], h') ∧ Wv k h' M' R es ∧ Up h h' ∧ Stay 19 M M' R R es es ∧
   ((hD M R r ≠ 0 ∧ a = 0 ∧ e = 20 ∧ M' = M) ∨ (hD M R r = 0 ∧ e = 0 ∧ ∃ c : Nat, pR M R r = c ∧ a = .ofNat (M.fin * 2) ∧ Grown M M' 0 r (List.replicate c 0))) := by
 have S : SlI .l0 [] h := .inl ⟨rfl, rfl⟩
 rcases cVp cKk rfl V S (by simp) r (m := m + 1) (by omega) with ⟨q, h', e1, V1, U1⟩ | ⟨q, b, h1, V1, U1, D, S1, cont⟩
 ·refine ⟨0, 20, h', M, e1, V1.less (by omega), U1, Stay.refl _ _ _ _, .inl ⟨fun q0 => ?_, rfl, rfl, rfl⟩⟩
  rcases q with q | q | ⟨v, hv, _⟩
  ·exact q rfl
  ·rw [dWb q0] at q; cases q
  ·cases hv
 ·obtain ⟨a, e, h2, M2, e2, V2, U2, S2, A⟩ := cIz V1 D (m := m) hm
  exact ⟨a, e, h2, M2, cont _ _ _ e2, V2, U1.trans U2, S2, A⟩
theorem cPr {v w : Int} (h : lY M R v = some w) : dW v M.pl = true := by
 unfold lY at h
 by_cases hs : cX v = true
 ·unfold dW
  split <;> first | rfl | (rw [hs]; rfl)
 ·rw [if_neg hs] at h
  by_cases hc : (bV v M.pl ≠ 0 ∧ nY M v = R.getD 10 0) ∧ cQ M v % 4 = 1
  ·exact mL hc.1.1
  ·rw [if_neg hc] at h; cases h
theorem dTg (V : Wv (253 + k) h M R es) {v : Int} (S : SlI x [v] h) (r : Int) {m : Nat} (hm : 300 < m) :
  ∃ a e h' M', dC (m + 5) 16 [.p (aO 7) 0, iD 24, iD r, x] h = some (.t [iD a, iD e], h') ∧ Wv k h' M' R es ∧ Up h h' ∧ Stay 253 M M' R R es es ∧
   ((¬ (∃ c : Nat, lY M R v = some (c : Int) ∧ c ≤ 250 ∧ (r = R.getD 11 0 ∨ r = R.getD 12 0)) ∧ a = 0 ∧ e = 20 ∧ M' = M) ∨
    (∃ c : Nat, (lY M R v = some (c : Int) ∧ c ≤ 250 ∧ (r = R.getD 11 0 ∨ r = R.getD 12 0)) ∧ e = 0 ∧ a = .ofNat (M.fin * 2) ∧ ∃ f, f ≤ 2 ∧ Grown M M' f r (List.replicate c 0))) := by
 rcases cVp cHq rfl V S (by simp) r (m := m + 1) (by omega) with ⟨q, h', e1, V1, U1⟩ | ⟨q, b, h1, V1, U1, D, S1, cont⟩
 ·refine ⟨0, 20, h', M, e1, V1.less (by omega), U1, Stay.refl _ _ _ _, .inl ⟨fun ⟨c, q0, _, q2⟩ => ?_, rfl, rfl, rfl⟩⟩
  have mr : dW r M.pl = true := by
   rcases q2 with q2 | q2
   ·rw [q2]; exact mL (V.K.rk 9 (by omega))
   ·rw [q2]; exact mL (V.K.rk 10 (by omega))
  rcases q with q | q | ⟨w, hw, q⟩
  ·exact q rfl
  ·rw [mr] at q; cases q
  ·simp only [List.mem_singleton] at hw
   subst hw
   rw [cPr q0] at q; cases q
 ·obtain ⟨a, e, h2, M2, e2, V2, U2, S2, A⟩ := cMu V1 D S1 (m := m) hm
  exact ⟨a, e, h2, M2, cont _ _ _ e2, V2, U1.trans U2, S2, A⟩
theorem Grown.newAt {f : Nat} {cls : Int} {l : List Int} (g : Grown M M' f cls l) (G : Good M) : bV (.ofNat (M.fin * 2)) M'.pl = M.fin := by
 rw [g.pl]
 exact yP G.lo (by have := G.le; have := G.hi; omega)
theorem Grown.newHead {f : Nat} {cls : Int} {l : List Int} (g : Grown M M' f cls l) (G : Good M) : cQ M' (.ofNat (M.fin * 2)) = l.length * 4 + f := by
 unfold cQ
 rw [g.newAt G, g.hd]
theorem Grown.newCls {f : Nat} {cls : Int} {l : List Int} (g : Grown M M' f cls l) (G : Good M) (R : List Int) : cPm M' R (.ofNat (M.fin * 2)) = cls := by
 have := G.lo
 unfold cPm
 rw [if_pos (by rw [g.newAt G]; omega), g.newAt G, g.cl]
theorem Grown.newGet {f : Nat} {cls : Int} {l : List Int} (g : Grown M M' f cls l) (G : Good M) (hf : f < 4) (i : Nat) : lX M' (.ofNat (M.fin * 2)) i = l.getD i 0 := by
 have := G.lo
 unfold lX
 rw [g.newHead G, g.newAt G]
 by_cases hi : i < l.length
 ·rw [if_pos ⟨by omega, by omega⟩, g.new i _ (List.getElem?_eq_getElem hi)]
  simp [List.getD, List.getElem?_eq_getElem hi]
 ·rw [if_neg (by omega)]
  simp [List.getD, List.getElem?_eq_none (by omega : l.length ≤ i)]
noncomputable def bDy (M : MemV) (o : Int) : List Int := (List.range (cQ M o / 4)).map fun i => lX M o i
theorem aTr (V : Wv k h M R es z) (m : Nat) : dC (m + 1) 36 [.p (aO 3) 0] h = some (iD M.made, h) := by
 obtain ⟨m1, m2, m3, m4, m5, m6⟩ := jO V.K.W.mem
 have e : aA (.p (aO 3) (0 + 2)) h = some (iD M.made, h) := lF (i := 0 + 2) m1 rfl rfl
 rw [nQ 36 rfl, cVe]
 unfold s36
 simp only [g0, gB, qF, aS, e]
theorem aRj (f : Nat → Int) (i : Nat) : (List.range (i + 1)).map f = (List.range i).map f ++ [f i] := by
 rw [List.range_succ, List.map_append]
 rfl
theorem bFi (V : Wv k h M R es z) (o : Int) (hlen : cQ M o / 4 ≤ 256) {m : Nat} : ∀ (j i : Nat) (mm : Nat) (x : DV) (h1 : Hp), i + j = cQ M o / 4 → j < mm → Lo h.next.toNat h h1 → GrS x (((List.range i).map fun i => lX M o i).map iD) h.next.toNat h1 →
  ∃ x' h2, oA (dC (m + 2)) (m + 2) mm (.p (aO 7) 0) (iD o) x (.i .i64 (Int.ofNat i)) h1 = some (x', h2) ∧ Lo h.next.toNat h h2 ∧ GrS x' ((bDy M o).map iD) h.next.toNat h2 := by
 intro j
 induction j with
 | zero =>
  intro i mm x h1 hij hm L G
  obtain ⟨mm, rfl⟩ : ∃ m', mm = m' + 1 := ⟨mm - 1, by omega⟩
  have V1 := V.up (V.K.W.lo L) L.up
  have ei : i = cQ M o / 4 := by omega
  subst ei
  refine ⟨x, h1, ?_, L, G⟩
  show oL _ _ (oA _ _ mm) _ _ _ _ h1 = _
  unfold oL fV
  have em := V1.K.W.memory (m + 1)
  have ef := V1.K.W.fieldsA V1.K.G V1.I o
  have d : decide (Int.ofNat (cQ M o / 4) < Int.ofNat (cQ M o / 4)) = false := decide_eq_false (by omega)
  simp only [iD] at ef em ⊢
  simp only [em, aS, ef, cK, d, bJ]
 | succ j ih =>
  intro i mm x h1 hij hm L G
  obtain ⟨mm, rfl⟩ : ∃ m', mm = m' + 1 := ⟨mm - 1, by omega⟩
  have V1 := V.up (V.K.W.lo L) L.up
  have em := V1.K.W.memory (m + 1)
  have ef := V1.K.W.fieldsA V1.K.G V1.I o
  obtain ⟨er, eg, _⟩ := V1.K.W.getA V1.K.G V1.I o i
  have d : decide (Int.ofNat i < Int.ofNat (cQ M o / 4)) = true := decide_eq_true (by simp; omega)
  obtain ⟨y, g, a1, x', h', a2, G', L'⟩ := G.app (Nat.le_trans (Nat.le_refl _) L.next) (bYk _) (z := .i .i64 (Int.ofNat 0)) (v := iD (lX M o i)) rfl rfl (bytes := 8) (by simp; unfold lU; omega)
  have G2 : GrS x' (((List.range (i + 1)).map fun i => lX M o i).map iD) h.next.toNat h' := by
   rw [aRj, List.map_append]
   exact G'
  obtain ⟨x2, h2, e2, L2, G3⟩ := ih (i + 1) mm x' h' (by omega) (by omega) (L.trans L') G2
  refine ⟨x2, h2, ?_, L2, G3⟩
  rw [← e2]
  show oL _ _ (oA _ _ mm) _ _ _ _ h1 = _
  unfold oL
  have ha := gE i 1 h' (by omega)
  simp only [iD] at em ef eg a1 a2 ⊢
  simp only [em, aS, ef, cK, d, bM, eg, nH, nJ, a1, a2]
  show bnd (aD .add (.i .i64 (Int.ofNat i)) (.i .i64 (Int.ofNat 1)) h') _ = _
  rw [ha]
  rfl
theorem dDg (V : Wv k h M R es z) (o : Int) (hlen : cQ M o / 4 ≤ 256) {m : Nat} (hm : 300 < m) :
  ∃ x h2, dC (m + 3) 29 [.p (aO 7) 0, iD o] h = some (x, h2) ∧ Wv k h2 M R es z ∧ Up h h2 ∧ SlI x (bDy M o) h2 := by
 obtain ⟨x, h2, e, L, G⟩ := bFi V o hlen (m := m) (cQ M o / 4) 0 (m + 2) .l0 h (by omega) (by omega) (Lo.refl _ _) (.inl ⟨rfl, rfl⟩)
 refine ⟨x, h2, ?_, V.up (V.K.W.lo L) L.up, L.up, cAl V.K.W.nx G⟩
 rw [nQ 29 rfl, cUl]
 unfold s29 bDd aZn bBa cDg
 exact e
theorem GI.len256 (I : GI M R CL z) (G : Good M) (o : Int) : cQ M o / 4 ≤ 256 := by
 by_cases e : bV o M.pl = 0
 ·unfold cQ
  rw [e, I.z0]
  decide
 ·exact (I.headOb G e).2.1.len
end
end Go.Dd

namespace Go.Dd
open Go.Proofs
noncomputable def cO (rec : FuncId → List DV → Hp → aH) (n : Nat) (h0 : Hp) : aH :=
 bnd (rec 13 [] h0) fun v1 h1 =>
 some (v1, h1)
noncomputable def nE (rec : FuncId → List DV → Hp → aH) (n : Nat) (kk22 : DV → DV → DV → Hp → aH) (x12 x17 x18 : DV) (h0 : Hp) : aH :=
  bnd (aD .lss x18 x12 h0) fun v3 h3 =>
  aT v3 (
   bnd (aJ 1 x17 x18 h3) fun v4 h4 =>
   bnd (aA v4 h4) fun v5 h5 =>
   bnd (aD .neq v5 (.i .i64 (Int.ofNat 0)) h5) fun v6 h6 =>
   aT v6 (
    some ((.b false), h6)) (
    bnd (aD .add x18 (.i .i64 (Int.ofNat 1)) h6) fun v7 h7 =>
    kk22 x12 x17 v7 h7)) (
   cO rec n h3)
noncomputable def lH (rec : FuncId → List DV → Hp → aH) (n : Nat) (m : Nat) : DV → DV → DV → Hp → aH :=
 Nat.rec (motive := fun _ => DV → DV → DV → Hp → aH) (fun _ _ _ _ => none) (fun _ ih => nE rec n ih) m
noncomputable def aVd (rec : FuncId → List DV → Hp → aH) (n : Nat) : DV → DV → DV → Hp → aH := lH rec n n
noncomputable def aLh (rec : FuncId → List DV → Hp → aH) (n : Nat) (x12 x17 x18 : DV) (h0 : Hp) : aH :=
 aVd rec n x12 x17 x18 h0
noncomputable def aEg (rec : FuncId → List DV → Hp → aH) (n : Nat) (x12 x17 : DV) (h0 : Hp) : aH :=
 aLh rec n x12 x17 (.i .i64 (Int.ofNat 0)) h0
noncomputable def aDo (rec : FuncId → List DV → Hp → aH) (n : Nat) (x5 x7 x12 x15 x17 : DV) (h0 : Hp) : aH :=
 bnd (cA x17 h0) fun v13 h13 =>
 bnd (aD .neq v13 x12 h13) fun v14 h14 =>
 bnd (gD v14 false (some (x5, h14)) h14) fun v15 h15 =>
 bnd (gD v14 false (some (x15, h15)) h15) fun v16 h16 =>
 bnd (gD v14 false (rec 25 [v15, v16] h16) h16) fun v17 h17 =>
 bnd (gD v14 false (some (x7, h17)) h17) fun v18 h18 =>
 bnd (gD v14 false (aD .neq v17 v18 h18) h18) fun v19 h19 =>
 bnd (aR v14 (.b true) v19 h19) fun v20 h20 =>
 aT v20 (
  some ((.b false), h20)) (
  aEg rec n x12 x17 h20)
noncomputable def aOx (rec : FuncId → List DV → Hp → aH) (n : Nat) (x5 x7 x12 x15 : DV) (h0 : Hp) : aH :=
 bnd (rec 29 [x5, x15] h0) fun v29 h29 =>
 aDo rec n x5 x7 x12 x15 v29 h29
noncomputable def aAa (rec : FuncId → List DV → Hp → aH) (n : Nat) (x5 x7 x12 x15 x129 : DV) (h0 : Hp) : aH :=
 aT x129 (
  aOx rec n x5 x7 x12 x15 h0) (
  cO rec n h0)
noncomputable def yS (rec : FuncId → List DV → Hp → aH) (n : Nat) (x5 x7 x12 x14 x15 : DV) (h0 : Hp) : aH :=
 aAa rec n x5 x7 x12 x15 x14 h0
noncomputable def qX (rec : FuncId → List DV → Hp → aH) (n : Nat) (x5 x6 x7 x9 x12 x14 x15 x16 : DV) (h0 : Hp) : aH :=
 bnd (aD .eql x16 (.i .i64 (Int.ofNat 0)) h0) fun v31 h31 =>
 bnd (pEq .bool false x14 v31 h31) fun v32 h32 =>
 bnd (gD v32 false (some (x14, h32)) h32) fun v33 h33 =>
 bnd (gD v32 false (some (x6, h33)) h33) fun v34 h34 =>
 bnd (gD v32 false (rec 36 [v34] h34) h34) fun v35 h35 =>
 bnd (gD v32 false (some (x9, h35)) h35) fun v36 h36 =>
 bnd (gD v32 false (aD .add v36 (.i .i64 (Int.ofNat 1)) h36) h36) fun v37 h37 =>
 bnd (gD v32 false (aD .eql v35 v37 h37) h37) fun v38 h38 =>
 bnd (gD v32 false (pEq .bool false v33 v38 h38) h38) fun v39 h39 =>
 bnd (aR v32 (.b true) v39 h39) fun v40 h40 =>
 aT v40 (
  some ((.b false), h40)) (
  yS rec n x5 x7 x12 x14 x15 h40)
noncomputable def qV (rec : FuncId → List DV → Hp → aH) (n : Nat) (x5 x6 x7 x8 x9 x12 x14 : DV) (h0 : Hp) : aH :=
 bnd (aL [(.i .i64 (Int.ofNat 0))] 1 [(0, 1, x8)] h0) fun v51 h51 =>
 bnd (rec 16 [x5, (.i .i64 (Int.ofNat 24)), x7, v51] h51) fun v52 h52 =>
 bnd (aC 0 v52 h52) fun v53 h53 =>
 bnd (aC 1 v52 h53) fun v54 h54 =>
 qX rec n x5 x6 x7 x9 x12 x14 v53 v54 h54
noncomputable def aCs (rec : FuncId → List DV → Hp → aH) (n : Nat) (x5 x6 x7 x8 x9 x12 x13 : DV) (h0 : Hp) : aH :=
 bnd (gD x13 true (some (x12, h0)) h0) fun v67 h67 =>
 bnd (gD x13 true (aD .geq v67 (.i .i64 (Int.ofNat 0)) h67) h67) fun v68 h68 =>
 bnd (aR x13 v68 (.b false) h68) fun v69 h69 =>
 bnd (gD v69 true (some (x12, h69)) h69) fun v70 h70 =>
 bnd (gD v69 true (aD .leq v70 (.i .i64 (Int.ofNat 250)) h70) h70) fun v71 h71 =>
 bnd (aR v69 v71 (.b false) h71) fun v72 h72 =>
 bnd (gD v72 true (some (x7, h72)) h72) fun v73 h73 =>
 bnd (gD v72 true (some (x5, h73)) h73) fun v74 h74 =>
 bnd (gD v72 true (rec 30 [v74, (.i .i64 (Int.ofNat 9))] h74) h74) fun v75 h75 =>
 bnd (gD v72 true (aD .eql v73 v75 h75) h75) fun v76 h76 =>
 bnd (gD v72 true (some (v76, h76)) h76) fun v77 h77 =>
 bnd (gD v77 false (some (x7, h77)) h77) fun v78 h78 =>
 bnd (gD v77 false (some (x5, h78)) h78) fun v79 h79 =>
 bnd (gD v77 false (rec 30 [v79, (.i .i64 (Int.ofNat 10))] h79) h79) fun v80 h80 =>
 bnd (gD v77 false (aD .eql v78 v80 h80) h80) fun v81 h81 =>
 bnd (gD v72 true (aR v77 (.b true) v81 h81) h81) fun v82 h82 =>
 bnd (aR v72 v82 (.b false) h82) fun v83 h83 =>
 qV rec n x5 x6 x7 x8 x9 x12 v83 h83
noncomputable def zN (rec : FuncId → List DV → Hp → aH) (n : Nat) (x5 x6 x7 x8 x9 : DV) (h0 : Hp) : aH :=
 bnd (rec 15 [x5, x8] h0) fun v101 h101 =>
 bnd (aC 0 v101 h101) fun v102 h102 =>
 bnd (aC 1 v101 h102) fun v103 h103 =>
 aCs rec n x5 x6 x7 x8 x9 v102 v103 h103
noncomputable def wA (rec : FuncId → List DV → Hp → aH) (n : Nat) (x5 x6 x7 x8 : DV) (h0 : Hp) : aH :=
 bnd (rec 36 [x6] h0) fun v107 h107 =>
 zN rec n x5 x6 x7 x8 v107 h107
noncomputable def aVw (rec : FuncId → List DV → Hp → aH) (n : Nat) (x5 x6 x7 x8 x10 x11 : DV) (h0 : Hp) : aH :=
 bnd (aD .eql x11 (.i .i64 (Int.ofNat 0)) h0) fun v109 h109 =>
 bnd (gD v109 true (some (x5, h109)) h109) fun v110 h110 =>
 bnd (gD v109 true (some (x10, h110)) h110) fun v111 h111 =>
 bnd (gD v109 true (rec 25 [v110, v111] h111) h111) fun v112 h112 =>
 bnd (gD v109 true (some (x7, h112)) h112) fun v113 h113 =>
 bnd (gD v109 true (aD .neq v112 v113 h113) h113) fun v114 h114 =>
 bnd (gD v109 true (some (v114, h114)) h114) fun v115 h115 =>
 bnd (gD v115 false (some (x6, h115)) h115) fun v116 h116 =>
 bnd (gD v115 false (some (x10, h116)) h116) fun v117 h117 =>
 bnd (gD v115 false (fT [v116, v117] h117) h117) fun v118 h118 =>
 bnd (gD v115 false (some (x5, h118)) h118) fun v119 h119 =>
 bnd (gD v115 false (some (x7, h119)) h119) fun v120 h120 =>
 bnd (gD v115 false (rec 37 [v119, v120] h120) h120) fun v121 h121 =>
 bnd (gD v115 false (aD .neq v118 v121 h121) h121) fun v122 h122 =>
 bnd (gD v109 true (aR v115 (.b true) v122 h122) h122) fun v123 h123 =>
 bnd (gD v109 true (some (v123, h123)) h123) fun v124 h124 =>
 bnd (gD v124 false (some (x6, h124)) h124) fun v125 h125 =>
 bnd (gD v124 false (some (x10, h125)) h125) fun v126 h126 =>
 bnd (gD v124 false (jD [v125, v126] h126) h126) fun v127 h127 =>
 bnd (gD v124 false (aD .neq v127 (.i .i64 (Int.ofNat 0)) h127) h127) fun v128 h128 =>
 bnd (gD v109 true (aR v124 (.b true) v128 h128) h128) fun v129 h129 =>
 bnd (aR v109 v129 (.b false) h129) fun v130 h130 =>
 aT v130 (
  some ((.b false), h130)) (
  wA rec n x5 x6 x7 x8 h130)
noncomputable def aYn (rec : FuncId → List DV → Hp → aH) (n : Nat) (x5 x6 x7 x8 x9 x10 x11 : DV) (h0 : Hp) : aH :=
 bnd (aD .eql x11 (.i .i64 (Int.ofNat 0)) h0) fun v153 h153 =>
 bnd (rec 32 [x5, x7] h153) fun v154 h154 =>
 bnd (aD .eql v154 (.i .i64 (Int.ofNat 0)) h154) fun v155 h155 =>
 bnd (pEq .bool false v153 v155 h155) fun v156 h156 =>
 bnd (gD v156 false (some (x11, h156)) h156) fun v157 h157 =>
 bnd (gD v156 false (aD .eql v157 (.i .i64 (Int.ofNat 0)) h157) h157) fun v158 h158 =>
 bnd (gD v156 false (some (x6, h158)) h158) fun v159 h159 =>
 bnd (gD v156 false (rec 36 [v159] h159) h159) fun v160 h160 =>
 bnd (gD v156 false (some (x9, h160)) h160) fun v161 h161 =>
 bnd (gD v156 false (aD .add v161 (.i .i64 (Int.ofNat 1)) h161) h161) fun v162 h162 =>
 bnd (gD v156 false (aD .eql v160 v162 h162) h162) fun v163 h163 =>
 bnd (gD v156 false (pEq .bool false v158 v163 h163) h163) fun v164 h164 =>
 bnd (aR v156 (.b true) v164 h164) fun v165 h165 =>
 aT v165 (
  some ((.b false), h165)) (
  aVw rec n x5 x6 x7 x8 x10 x11 h165)
noncomputable def bCu (rec : FuncId → List DV → Hp → aH) (n : Nat) (x5 x6 x7 x8 x9 : DV) (h0 : Hp) : aH :=
 bnd (rec 16 [x5, (.i .i64 (Int.ofNat 23)), x7, .l0] h0) fun v179 h179 =>
 bnd (aC 0 v179 h179) fun v180 h180 =>
 bnd (aC 1 v179 h180) fun v181 h181 =>
 aYn rec n x5 x6 x7 x8 x9 v180 v181 h181
noncomputable def aZs (rec : FuncId → List DV → Hp → aH) (n : Nat) (x5 x6 x7 x8 : DV) (h0 : Hp) : aH :=
 bnd (rec 36 [x6] h0) fun v185 h185 =>
 bCu rec n x5 x6 x7 x8 v185 h185
noncomputable def aYe (rec : FuncId → List DV → Hp → aH) (n : Nat) (x3 x5 x6 x7 : DV) (h0 : Hp) : aH :=
 bnd (aK 3 x3 h0) fun v187 h187 =>
 bnd (rec 14 [x5, v187] h187) fun v188 h188 =>
 aZs rec n x5 x6 x7 v188 h188
noncomputable def bCj (rec : FuncId → List DV → Hp → aH) (n : Nat) (x2 x3 x5 x6 : DV) (h0 : Hp) : aH :=
 bnd (aK 3 x2 h0) fun v191 h191 =>
 bnd (rec 14 [x5, v191] h191) fun v192 h192 =>
 aYe rec n x3 x5 x6 v192 h192
noncomputable def aYm (rec : FuncId → List DV → Hp → aH) (n : Nat) (x2 x3 x5 : DV) (h0 : Hp) : aH :=
 bnd (rec 23 [x5] h0) fun v195 h195 =>
 bCj rec n x2 x3 x5 v195 h195
noncomputable def bCw (rec : FuncId → List DV → Hp → aH) (n : Nat) (x2 x3 x5 : DV) (h0 : Hp) : aH :=
 bnd (pEq (.pointer 64) true x5 .p0 h0) fun v197 h197 =>
 aT v197 (
  some ((.b false), h197)) (
  aYm rec n x2 x3 x5 h197)
noncomputable def aBl (rec : FuncId → List DV → Hp → aH) (n : Nat) (x2 x3 : DV) (h0 : Hp) : aH :=
 bnd (rec 12 [] h0) fun v199 h199 =>
 bCw rec n x2 x3 v199 h199
noncomputable def s10 (rec : FuncId → List DV → Hp → aH) (n : Nat) (x0 x1 : DV) (h0 : Hp) : aH :=
 bnd (bR x0 h0) fun v201 h201 =>
 bnd (bR x1 h201) fun v202 h202 =>
 aBl rec n v201 v202 h202
noncomputable def D10 (rec : FuncId → List DV → Hp → aH) (n : Nat) (c : Code) (X : Nat → K) (k : K) : K := aN CF rec 155 n c X (aP CF Tryz.f10) k
theorem cKg (rec : FuncId → List DV → Hp → aH) (n : Nat) : D10 rec n (cR (cR (cR (cR (cR (cR (cR (cR (cR (cR (cR (cR (cR (cR (cR (cR (cf Tryz.f10))))))))))))))))) x0 (aP CF Tryz.f10) = (fun (env : aV) (h : Hp) => cO rec n h) :=
 (by kernel_rfl)
theorem bWx (rec : FuncId → List DV → Hp → aH) (n : Nat) (kk22 : DV → DV → DV → Hp → aH) : D10 rec n (cL (cL (cR (cR (cR (cL (cR (cL (cR (cR (cR (cR (cR (cR (cR (cR (cR (cR (cR (cR (cR (cR (cR (cf Tryz.f10)))))))))))))))))))))))) (xs x0 0 (fun (env : aV) (h : Hp) => cO rec n h)) (fun (env : aV) (h : Hp) => kk22 (env 12) (env 17) (env 18) h) = (fun (env : aV) (h : Hp) => nE rec n kk22 (env 12) (env 17) (env 18) h) :=
 (by kernel_rfl)
theorem bLq (rec : FuncId → List DV → Hp → aH) (n : Nat) (m : Nat) : aM (fun kk => D10 rec n (cL (cL (cR (cR (cR (cL (cR (cL (cR (cR (cR (cR (cR (cR (cR (cR (cR (cR (cR (cR (cR (cR (cR (cf Tryz.f10)))))))))))))))))))))))) (xs x0 0 (fun (env : aV) (h : Hp) => cO rec n h)) kk) m = (fun (env : aV) (h : Hp) => lH rec n m (env 12) (env 17) (env 18) h) := by
 induction m with
 | zero => exact (by kernel_rfl : aM (fun kk => D10 rec n (cL (cL (cR (cR (cR (cL (cR (cL (cR (cR (cR (cR (cR (cR (cR (cR (cR (cR (cR (cR (cR (cR (cR (cf Tryz.f10)))))))))))))))))))))))) (xs x0 0 (fun (env : aV) (h : Hp) => cO rec n h)) kk) 0 = (fun (env : aV) (h : Hp) => lH rec n 0 (env 12) (env 17) (env 18) h))
 | succ m ih =>
  refine (by kernel_rfl : aM (fun kk => D10 rec n (cL (cL (cR (cR (cR (cL (cR (cL (cR (cR (cR (cR (cR (cR (cR (cR (cR (cR (cR (cR (cR (cR (cR (cf Tryz.f10)))))))))))))))))))))))) (xs x0 0 (fun (env : aV) (h : Hp) => cO rec n h)) kk) (m + 1) = D10 rec n (cL (cL (cR (cR (cR (cL (cR (cL (cR (cR (cR (cR (cR (cR (cR (cR (cR (cR (cR (cR (cR (cR (cR (cf Tryz.f10)))))))))))))))))))))))) (xs x0 0 (fun (env : aV) (h : Hp) => cO rec n h)) (aM (fun kk => D10 rec n (cL (cL (cR (cR (cR (cL (cR (cL (cR (cR (cR (cR (cR (cR (cR (cR (cR (cR (cR (cR (cR (cR (cR (cf Tryz.f10)))))))))))))))))))))))) (xs x0 0 (fun (env : aV) (h : Hp) => cO rec n h)) kk) m)).trans ?_
  rw [ih]
  exact (bWx rec n (lH rec n m)).trans (by kernel_rfl)
theorem cKh (rec : FuncId → List DV → Hp → aH) (n : Nat) : D10 rec n (cL (cR (cR (cR (cL (cR (cL (cR (cR (cR (cR (cR (cR (cR (cR (cR (cR (cR (cR (cR (cR (cR (cf Tryz.f10))))))))))))))))))))))) (xs x0 0 (fun (env : aV) (h : Hp) => cO rec n h)) (fun (env : aV) (h : Hp) => cO rec n h) = (fun (env : aV) (h : Hp) => aVd rec n (env 12) (env 17) (env 18) h) :=
 (by kernel_rfl : D10 rec n (cL (cR (cR (cR (cL (cR (cL (cR (cR (cR (cR (cR (cR (cR (cR (cR (cR (cR (cR (cR (cR (cR (cf Tryz.f10))))))))))))))))))))))) (xs x0 0 (fun (env : aV) (h : Hp) => cO rec n h)) (fun (env : aV) (h : Hp) => cO rec n h) = aM (fun kk => D10 rec n (cL (cL (cR (cR (cR (cL (cR (cL (cR (cR (cR (cR (cR (cR (cR (cR (cR (cR (cR (cR (cR (cR (cR (cf Tryz.f10)))))))))))))))))))))))) (xs x0 0 (fun (env : aV) (h : Hp) => cO rec n h)) kk) n).trans ((bLq rec n n).trans (by kernel_rfl))
theorem cTj (rec : FuncId → List DV → Hp → aH) (n : Nat) : D10 rec n (cR (cR (cR (cL (cR (cL (cR (cR (cR (cR (cR (cR (cR (cR (cR (cR (cR (cR (cR (cR (cR (cf Tryz.f10)))))))))))))))))))))) x0 (fun (env : aV) (h : Hp) => cO rec n h) = (fun (env : aV) (h : Hp) => aLh rec n (env 12) (env 17) (env 18) h) :=
 (by kernel_rfl : D10 rec n (cR (cR (cR (cL (cR (cL (cR (cR (cR (cR (cR (cR (cR (cR (cR (cR (cR (cR (cR (cR (cR (cf Tryz.f10)))))))))))))))))))))) x0 (fun (env : aV) (h : Hp) => cO rec n h) = D10 rec n (cL (cR (cR (cR (cL (cR (cL (cR (cR (cR (cR (cR (cR (cR (cR (cR (cR (cR (cR (cR (cR (cR (cf Tryz.f10))))))))))))))))))))))) (xs x0 0 (fun (env : aV) (h : Hp) => cO rec n h)) (fun (env : aV) (h : Hp) => cO rec n h)).trans
 ((cKh rec n).trans (by kernel_rfl))
theorem bVt (rec : FuncId → List DV → Hp → aH) (n : Nat) : D10 rec n (cR (cR (cL (cR (cL (cR (cR (cR (cR (cR (cR (cR (cR (cR (cR (cR (cR (cR (cR (cR (cf Tryz.f10))))))))))))))))))))) x0 (fun (env : aV) (h : Hp) => cO rec n h) = D10 rec n (cL (cR (cR (cL (cR (cL (cR (cR (cR (cR (cR (cR (cR (cR (cR (cR (cR (cR (cR (cR (cR (cf Tryz.f10)))))))))))))))))))))) x0 (fun (env : aV) (h : Hp) => aLh rec n (env 12) (env 17) (env 18) h) :=
 congrArg (fun k => D10 rec n (cL (cR (cR (cL (cR (cL (cR (cR (cR (cR (cR (cR (cR (cR (cR (cR (cR (cR (cR (cR (cR (cf Tryz.f10)))))))))))))))))))))) x0 k) (cTj rec n)
theorem cKm (rec : FuncId → List DV → Hp → aH) (n : Nat) : D10 rec n (cR (cR (cL (cR (cL (cR (cR (cR (cR (cR (cR (cR (cR (cR (cR (cR (cR (cR (cR (cR (cf Tryz.f10))))))))))))))))))))) x0 (fun (env : aV) (h : Hp) => cO rec n h) = (fun (env : aV) (h : Hp) => aEg rec n (env 12) (env 17) h) :=
 (bVt rec n).trans
 ((by kernel_rfl))
theorem bMk (rec : FuncId → List DV → Hp → aH) (n : Nat) : D10 rec n (cR (cL (cR (cL (cR (cR (cR (cR (cR (cR (cR (cR (cR (cR (cR (cR (cR (cR (cR (cf Tryz.f10)))))))))))))))))))) x0 (fun (env : aV) (h : Hp) => cO rec n h) = D10 rec n (cL (cR (cL (cR (cL (cR (cR (cR (cR (cR (cR (cR (cR (cR (cR (cR (cR (cR (cR (cR (cf Tryz.f10))))))))))))))))))))) x0 (fun (env : aV) (h : Hp) => aEg rec n (env 12) (env 17) h) :=
 congrArg (fun k => D10 rec n (cL (cR (cL (cR (cL (cR (cR (cR (cR (cR (cR (cR (cR (cR (cR (cR (cR (cR (cR (cR (cf Tryz.f10))))))))))))))))))))) x0 k) (cKm rec n)
theorem cEu (rec : FuncId → List DV → Hp → aH) (n : Nat) : D10 rec n (cR (cL (cR (cL (cR (cR (cR (cR (cR (cR (cR (cR (cR (cR (cR (cR (cR (cR (cR (cf Tryz.f10)))))))))))))))))))) x0 (fun (env : aV) (h : Hp) => cO rec n h) = (fun (env : aV) (h : Hp) => aDo rec n (env 5) (env 7) (env 12) (env 15) (env 17) h) :=
 (bMk rec n).trans
 ((by kernel_rfl))
theorem bZa (rec : FuncId → List DV → Hp → aH) (n : Nat) : D10 rec n (cL (cR (cL (cR (cR (cR (cR (cR (cR (cR (cR (cR (cR (cR (cR (cR (cR (cR (cf Tryz.f10))))))))))))))))))) x0 (fun (env : aV) (h : Hp) => cO rec n h) = D10 rec n (cL (cL (cR (cL (cR (cR (cR (cR (cR (cR (cR (cR (cR (cR (cR (cR (cR (cR (cR (cf Tryz.f10)))))))))))))))))))) x0 (fun (env : aV) (h : Hp) => aDo rec n (env 5) (env 7) (env 12) (env 15) (env 17) h) :=
 congrArg (fun k => D10 rec n (cL (cL (cR (cL (cR (cR (cR (cR (cR (cR (cR (cR (cR (cR (cR (cR (cR (cR (cR (cf Tryz.f10)))))))))))))))))))) x0 k) (cEu rec n)
theorem cKs (rec : FuncId → List DV → Hp → aH) (n : Nat) : D10 rec n (cL (cR (cL (cR (cR (cR (cR (cR (cR (cR (cR (cR (cR (cR (cR (cR (cR (cR (cf Tryz.f10))))))))))))))))))) x0 (fun (env : aV) (h : Hp) => cO rec n h) = (fun (env : aV) (h : Hp) => aOx rec n (env 5) (env 7) (env 12) (env 15) h) :=
 (bZa rec n).trans
 ((by kernel_rfl))
theorem cTy (rec : FuncId → List DV → Hp → aH) (n : Nat) : D10 rec n (cR (cL (cR (cR (cR (cR (cR (cR (cR (cR (cR (cR (cR (cR (cR (cR (cR (cf Tryz.f10)))))))))))))))))) x0 (fun (env : aV) (h : Hp) => cO rec n h) = (fun (env : aV) (h : Hp) => aAa rec n (env 5) (env 7) (env 12) (env 15) (env 129) h) :=
 (by kernel_rfl : D10 rec n (cR (cL (cR (cR (cR (cR (cR (cR (cR (cR (cR (cR (cR (cR (cR (cR (cR (cf Tryz.f10)))))))))))))))))) x0 (fun (env : aV) (h : Hp) => cO rec n h) = (fun (env : aV) (h : Hp) => aT (opr env (cC (cR (cL (cR (cR (cR (cR (cR (cR (cR (cR (cR (cR (cR (cR (cR (cR (cR (cf Tryz.f10)))))))))))))))))))) (D10 rec n (cL (cR (cL (cR (cR (cR (cR (cR (cR (cR (cR (cR (cR (cR (cR (cR (cR (cR (cf Tryz.f10))))))))))))))))))) x0 (fun (env : aV) (h : Hp) => cO rec n h) env h) (D10 rec n (cR (cR (cL (cR (cR (cR (cR (cR (cR (cR (cR (cR (cR (cR (cR (cR (cR (cR (cf Tryz.f10))))))))))))))))))) x0 (fun (env : aV) (h : Hp) => cO rec n h) env h))).trans (by rw [cKs rec n]; kernel_rfl)
theorem bSm (rec : FuncId → List DV → Hp → aH) (n : Nat) : D10 rec n (cR (cR (cR (cR (cR (cR (cR (cR (cR (cR (cR (cR (cR (cR (cR (cf Tryz.f10)))))))))))))))) x0 (aP CF Tryz.f10) = D10 rec n (cL (cR (cR (cR (cR (cR (cR (cR (cR (cR (cR (cR (cR (cR (cR (cR (cf Tryz.f10))))))))))))))))) x0 (fun (env : aV) (h : Hp) => cO rec n h) :=
 congrArg (fun k => D10 rec n (cL (cR (cR (cR (cR (cR (cR (cR (cR (cR (cR (cR (cR (cR (cR (cR (cf Tryz.f10))))))))))))))))) x0 k) (cKg rec n)
theorem cBq (rec : FuncId → List DV → Hp → aH) (n : Nat) : D10 rec n (cL (cR (cR (cR (cR (cR (cR (cR (cR (cR (cR (cR (cR (cR (cR (cR (cf Tryz.f10))))))))))))))))) x0 (fun (env : aV) (h : Hp) => cO rec n h) = D10 rec n (cL (cL (cR (cR (cR (cR (cR (cR (cR (cR (cR (cR (cR (cR (cR (cR (cR (cf Tryz.f10)))))))))))))))))) x0 (fun (env : aV) (h : Hp) => aAa rec n (env 5) (env 7) (env 12) (env 15) (env 129) h) :=
 congrArg (fun k => D10 rec n (cL (cL (cR (cR (cR (cR (cR (cR (cR (cR (cR (cR (cR (cR (cR (cR (cR (cf Tryz.f10)))))))))))))))))) x0 k) (cTy rec n)
theorem cTi (rec : FuncId → List DV → Hp → aH) (n : Nat) : D10 rec n (cR (cR (cR (cR (cR (cR (cR (cR (cR (cR (cR (cR (cR (cR (cR (cf Tryz.f10)))))))))))))))) x0 (aP CF Tryz.f10) = (fun (env : aV) (h : Hp) => yS rec n (env 5) (env 7) (env 12) (env 14) (env 15) h) :=
 (bSm rec n).trans
 ((cBq rec n).trans
 ((by kernel_rfl)))
theorem cDa (rec : FuncId → List DV → Hp → aH) (n : Nat) : D10 rec n (cR (cR (cR (cR (cR (cR (cR (cR (cR (cR (cR (cR (cR (cR (cf Tryz.f10))))))))))))))) x0 (aP CF Tryz.f10) = D10 rec n (cL (cR (cR (cR (cR (cR (cR (cR (cR (cR (cR (cR (cR (cR (cR (cf Tryz.f10)))))))))))))))) x0 (fun (env : aV) (h : Hp) => yS rec n (env 5) (env 7) (env 12) (env 14) (env 15) h) :=
 congrArg (fun k => D10 rec n (cL (cR (cR (cR (cR (cR (cR (cR (cR (cR (cR (cR (cR (cR (cR (cf Tryz.f10)))))))))))))))) x0 k) (cTi rec n)
theorem cSx (rec : FuncId → List DV → Hp → aH) (n : Nat) : D10 rec n (cR (cR (cR (cR (cR (cR (cR (cR (cR (cR (cR (cR (cR (cR (cf Tryz.f10))))))))))))))) x0 (aP CF Tryz.f10) = (fun (env : aV) (h : Hp) => qX rec n (env 5) (env 6) (env 7) (env 9) (env 12) (env 14) (env 15) (env 16) h) :=
 (cDa rec n).trans
 ((by kernel_rfl))
theorem cBu (rec : FuncId → List DV → Hp → aH) (n : Nat) : D10 rec n (cR (cR (cR (cR (cR (cR (cR (cR (cR (cR (cR (cR (cR (cf Tryz.f10)))))))))))))) x0 (aP CF Tryz.f10) = D10 rec n (cL (cR (cR (cR (cR (cR (cR (cR (cR (cR (cR (cR (cR (cR (cf Tryz.f10))))))))))))))) x0 (fun (env : aV) (h : Hp) => qX rec n (env 5) (env 6) (env 7) (env 9) (env 12) (env 14) (env 15) (env 16) h) :=
 congrArg (fun k => D10 rec n (cL (cR (cR (cR (cR (cR (cR (cR (cR (cR (cR (cR (cR (cR (cf Tryz.f10))))))))))))))) x0 k) (cSx rec n)
theorem bVc (rec : FuncId → List DV → Hp → aH) (n : Nat) (q0 : DV → DV → DV → DV → DV → DV → DV → DV → Hp → aH) : D10 rec n (cL (cR (cR (cR (cR (cR (cR (cR (cR (cR (cR (cR (cR (cR (cf Tryz.f10))))))))))))))) x0 (fun (env : aV) (h : Hp) => q0 (env 5) (env 6) (env 7) (env 9) (env 12) (env 14) (env 15) (env 16) h) = fun (env : aV) (h : Hp) =>
  bnd (aL [(.i .i64 (Int.ofNat 0))] 1 [(0, 1, (env 8))] h) fun v59 h59 =>
  bnd (rec 16 [(env 5), (.i .i64 (Int.ofNat 24)), (env 7), v59] h59) fun v60 h60 =>
  bnd (aC 0 v60 h60) fun v61 h61 =>
  bnd (aC 1 v60 h61) fun v62 h62 =>
  q0 (env 5) (env 6) (env 7) (env 9) (env 12) (env 14) v61 v62 h62 := by kernel_rfl
theorem bFw (rec : FuncId → List DV → Hp → aH) (n : Nat) : (fun (env : aV) (h : Hp) =>
  bnd (aL [(.i .i64 (Int.ofNat 0))] 1 [(0, 1, (env 8))] h) fun v63 h63 =>
  bnd (rec 16 [(env 5), (.i .i64 (Int.ofNat 24)), (env 7), v63] h63) fun v64 h64 =>
  bnd (aC 0 v64 h64) fun v65 h65 =>
  bnd (aC 1 v64 h65) fun v66 h66 =>
  qX rec n (env 5) (env 6) (env 7) (env 9) (env 12) (env 14) v65 v66 h66) = (fun (env : aV) (h : Hp) => qV rec n (env 5) (env 6) (env 7) (env 8) (env 9) (env 12) (env 14) h) := by kernel_rfl
theorem cFt (rec : FuncId → List DV → Hp → aH) (n : Nat) : D10 rec n (cR (cR (cR (cR (cR (cR (cR (cR (cR (cR (cR (cR (cR (cf Tryz.f10)))))))))))))) x0 (aP CF Tryz.f10) = (fun (env : aV) (h : Hp) => qV rec n (env 5) (env 6) (env 7) (env 8) (env 9) (env 12) (env 14) h) :=
 (cBu rec n).trans
 ((bVc rec n (qX rec n)).trans (bFw rec n))
theorem cDn (rec : FuncId → List DV → Hp → aH) (n : Nat) : D10 rec n (cR (cR (cR (cR (cR (cR (cR (cR (cR (cR (cR (cR (cf Tryz.f10))))))))))))) x0 (aP CF Tryz.f10) = D10 rec n (cL (cR (cR (cR (cR (cR (cR (cR (cR (cR (cR (cR (cR (cf Tryz.f10)))))))))))))) x0 (fun (env : aV) (h : Hp) => qV rec n (env 5) (env 6) (env 7) (env 8) (env 9) (env 12) (env 14) h) :=
 congrArg (fun k => D10 rec n (cL (cR (cR (cR (cR (cR (cR (cR (cR (cR (cR (cR (cR (cf Tryz.f10)))))))))))))) x0 k) (cFt rec n)
theorem cNt (rec : FuncId → List DV → Hp → aH) (n : Nat) : D10 rec n (cR (cR (cR (cR (cR (cR (cR (cR (cR (cR (cR (cR (cf Tryz.f10))))))))))))) x0 (aP CF Tryz.f10) = (fun (env : aV) (h : Hp) => aCs rec n (env 5) (env 6) (env 7) (env 8) (env 9) (env 12) (env 13) h) :=
 (cDn rec n).trans
 ((by kernel_rfl))
theorem bEx (rec : FuncId → List DV → Hp → aH) (n : Nat) : D10 rec n (cR (cR (cR (cR (cR (cR (cR (cR (cR (cR (cR (cf Tryz.f10)))))))))))) x0 (aP CF Tryz.f10) = D10 rec n (cL (cR (cR (cR (cR (cR (cR (cR (cR (cR (cR (cR (cf Tryz.f10))))))))))))) x0 (fun (env : aV) (h : Hp) => aCs rec n (env 5) (env 6) (env 7) (env 8) (env 9) (env 12) (env 13) h) :=
 congrArg (fun k => D10 rec n (cL (cR (cR (cR (cR (cR (cR (cR (cR (cR (cR (cR (cf Tryz.f10))))))))))))) x0 k) (cNt rec n)
theorem cMq (rec : FuncId → List DV → Hp → aH) (n : Nat) : D10 rec n (cR (cR (cR (cR (cR (cR (cR (cR (cR (cR (cR (cf Tryz.f10)))))))))))) x0 (aP CF Tryz.f10) = (fun (env : aV) (h : Hp) => zN rec n (env 5) (env 6) (env 7) (env 8) (env 9) h) :=
 (bEx rec n).trans
 ((by kernel_rfl))
theorem bIn (rec : FuncId → List DV → Hp → aH) (n : Nat) : D10 rec n (cR (cR (cR (cR (cR (cR (cR (cR (cR (cR (cf Tryz.f10))))))))))) x0 (aP CF Tryz.f10) = D10 rec n (cL (cR (cR (cR (cR (cR (cR (cR (cR (cR (cR (cf Tryz.f10)))))))))))) x0 (fun (env : aV) (h : Hp) => zN rec n (env 5) (env 6) (env 7) (env 8) (env 9) h) :=
 congrArg (fun k => D10 rec n (cL (cR (cR (cR (cR (cR (cR (cR (cR (cR (cR (cf Tryz.f10)))))))))))) x0 k) (cMq rec n)
theorem cRo (rec : FuncId → List DV → Hp → aH) (n : Nat) : D10 rec n (cR (cR (cR (cR (cR (cR (cR (cR (cR (cR (cf Tryz.f10))))))))))) x0 (aP CF Tryz.f10) = (fun (env : aV) (h : Hp) => wA rec n (env 5) (env 6) (env 7) (env 8) h) :=
 (bIn rec n).trans
 ((by kernel_rfl))
theorem bQn (rec : FuncId → List DV → Hp → aH) (n : Nat) : D10 rec n (cR (cR (cR (cR (cR (cR (cR (cR (cR (cf Tryz.f10)))))))))) x0 (aP CF Tryz.f10) = D10 rec n (cL (cR (cR (cR (cR (cR (cR (cR (cR (cR (cf Tryz.f10))))))))))) x0 (fun (env : aV) (h : Hp) => wA rec n (env 5) (env 6) (env 7) (env 8) h) :=
 congrArg (fun k => D10 rec n (cL (cR (cR (cR (cR (cR (cR (cR (cR (cR (cf Tryz.f10))))))))))) x0 k) (cRo rec n)
theorem dBm (rec : FuncId → List DV → Hp → aH) (n : Nat) : D10 rec n (cR (cR (cR (cR (cR (cR (cR (cR (cR (cf Tryz.f10)))))))))) x0 (aP CF Tryz.f10) = (fun (env : aV) (h : Hp) => aVw rec n (env 5) (env 6) (env 7) (env 8) (env 10) (env 11) h) :=
 (bQn rec n).trans
 ((by kernel_rfl))
theorem bXt (rec : FuncId → List DV → Hp → aH) (n : Nat) : D10 rec n (cR (cR (cR (cR (cR (cR (cR (cR (cf Tryz.f10))))))))) x0 (aP CF Tryz.f10) = D10 rec n (cL (cR (cR (cR (cR (cR (cR (cR (cR (cf Tryz.f10)))))))))) x0 (fun (env : aV) (h : Hp) => aVw rec n (env 5) (env 6) (env 7) (env 8) (env 10) (env 11) h) :=
 congrArg (fun k => D10 rec n (cL (cR (cR (cR (cR (cR (cR (cR (cR (cf Tryz.f10)))))))))) x0 k) (dBm rec n)
theorem cWg (rec : FuncId → List DV → Hp → aH) (n : Nat) : D10 rec n (cR (cR (cR (cR (cR (cR (cR (cR (cf Tryz.f10))))))))) x0 (aP CF Tryz.f10) = (fun (env : aV) (h : Hp) => aYn rec n (env 5) (env 6) (env 7) (env 8) (env 9) (env 10) (env 11) h) :=
 (bXt rec n).trans
 ((by kernel_rfl))
theorem bPc (rec : FuncId → List DV → Hp → aH) (n : Nat) : D10 rec n (cR (cR (cR (cR (cR (cR (cR (cf Tryz.f10)))))))) x0 (aP CF Tryz.f10) = D10 rec n (cL (cR (cR (cR (cR (cR (cR (cR (cf Tryz.f10))))))))) x0 (fun (env : aV) (h : Hp) => aYn rec n (env 5) (env 6) (env 7) (env 8) (env 9) (env 10) (env 11) h) :=
 congrArg (fun k => D10 rec n (cL (cR (cR (cR (cR (cR (cR (cR (cf Tryz.f10))))))))) x0 k) (cWg rec n)
theorem dAf (rec : FuncId → List DV → Hp → aH) (n : Nat) : D10 rec n (cR (cR (cR (cR (cR (cR (cR (cf Tryz.f10)))))))) x0 (aP CF Tryz.f10) = (fun (env : aV) (h : Hp) => bCu rec n (env 5) (env 6) (env 7) (env 8) (env 9) h) :=
 (bPc rec n).trans
 ((by kernel_rfl))
theorem bYe (rec : FuncId → List DV → Hp → aH) (n : Nat) : D10 rec n (cR (cR (cR (cR (cR (cR (cf Tryz.f10))))))) x0 (aP CF Tryz.f10) = D10 rec n (cL (cR (cR (cR (cR (cR (cR (cf Tryz.f10)))))))) x0 (fun (env : aV) (h : Hp) => bCu rec n (env 5) (env 6) (env 7) (env 8) (env 9) h) :=
 congrArg (fun k => D10 rec n (cL (cR (cR (cR (cR (cR (cR (cf Tryz.f10)))))))) x0 k) (dAf rec n)
theorem dGw (rec : FuncId → List DV → Hp → aH) (n : Nat) : D10 rec n (cR (cR (cR (cR (cR (cR (cf Tryz.f10))))))) x0 (aP CF Tryz.f10) = (fun (env : aV) (h : Hp) => aZs rec n (env 5) (env 6) (env 7) (env 8) h) :=
 (bYe rec n).trans
 ((by kernel_rfl))
theorem bQr (rec : FuncId → List DV → Hp → aH) (n : Nat) : D10 rec n (cR (cR (cR (cR (cR (cf Tryz.f10)))))) x0 (aP CF Tryz.f10) = D10 rec n (cL (cR (cR (cR (cR (cR (cf Tryz.f10))))))) x0 (fun (env : aV) (h : Hp) => aZs rec n (env 5) (env 6) (env 7) (env 8) h) :=
 congrArg (fun k => D10 rec n (cL (cR (cR (cR (cR (cR (cf Tryz.f10))))))) x0 k) (dGw rec n)
theorem dCh (rec : FuncId → List DV → Hp → aH) (n : Nat) : D10 rec n (cR (cR (cR (cR (cR (cf Tryz.f10)))))) x0 (aP CF Tryz.f10) = (fun (env : aV) (h : Hp) => aYe rec n (env 3) (env 5) (env 6) (env 7) h) :=
 (bQr rec n).trans
 ((by kernel_rfl))
theorem bUf (rec : FuncId → List DV → Hp → aH) (n : Nat) : D10 rec n (cR (cR (cR (cR (cf Tryz.f10))))) x0 (aP CF Tryz.f10) = D10 rec n (cL (cR (cR (cR (cR (cf Tryz.f10)))))) x0 (fun (env : aV) (h : Hp) => aYe rec n (env 3) (env 5) (env 6) (env 7) h) :=
 congrArg (fun k => D10 rec n (cL (cR (cR (cR (cR (cf Tryz.f10)))))) x0 k) (dCh rec n)
theorem cZg (rec : FuncId → List DV → Hp → aH) (n : Nat) : D10 rec n (cR (cR (cR (cR (cf Tryz.f10))))) x0 (aP CF Tryz.f10) = (fun (env : aV) (h : Hp) => bCj rec n (env 2) (env 3) (env 5) (env 6) h) :=
 (bUf rec n).trans
 ((by kernel_rfl))
theorem cAu (rec : FuncId → List DV → Hp → aH) (n : Nat) : D10 rec n (cR (cR (cR (cf Tryz.f10)))) x0 (aP CF Tryz.f10) = D10 rec n (cL (cR (cR (cR (cf Tryz.f10))))) x0 (fun (env : aV) (h : Hp) => bCj rec n (env 2) (env 3) (env 5) (env 6) h) :=
 congrArg (fun k => D10 rec n (cL (cR (cR (cR (cf Tryz.f10))))) x0 k) (cZg rec n)
theorem dAu (rec : FuncId → List DV → Hp → aH) (n : Nat) : D10 rec n (cR (cR (cR (cf Tryz.f10)))) x0 (aP CF Tryz.f10) = (fun (env : aV) (h : Hp) => aYm rec n (env 2) (env 3) (env 5) h) :=
 (cAu rec n).trans
 ((by kernel_rfl))
theorem bQo (rec : FuncId → List DV → Hp → aH) (n : Nat) : D10 rec n (cR (cR (cf Tryz.f10))) x0 (aP CF Tryz.f10) = D10 rec n (cL (cR (cR (cf Tryz.f10)))) x0 (fun (env : aV) (h : Hp) => aYm rec n (env 2) (env 3) (env 5) h) :=
 congrArg (fun k => D10 rec n (cL (cR (cR (cf Tryz.f10)))) x0 k) (dAu rec n)
theorem cWm (rec : FuncId → List DV → Hp → aH) (n : Nat) : D10 rec n (cR (cR (cf Tryz.f10))) x0 (aP CF Tryz.f10) = (fun (env : aV) (h : Hp) => bCw rec n (env 2) (env 3) (env 5) h) :=
 (bQo rec n).trans
 ((by kernel_rfl))
theorem bZc (rec : FuncId → List DV → Hp → aH) (n : Nat) : D10 rec n (cR (cf Tryz.f10)) x0 (aP CF Tryz.f10) = D10 rec n (cL (cR (cf Tryz.f10))) x0 (fun (env : aV) (h : Hp) => bCw rec n (env 2) (env 3) (env 5) h) :=
 congrArg (fun k => D10 rec n (cL (cR (cf Tryz.f10))) x0 k) (cWm rec n)
theorem dDf (rec : FuncId → List DV → Hp → aH) (n : Nat) : D10 rec n (cR (cf Tryz.f10)) x0 (aP CF Tryz.f10) = (fun (env : aV) (h : Hp) => aBl rec n (env 2) (env 3) h) :=
 (bZc rec n).trans
 ((by kernel_rfl))
theorem dEn (rec : FuncId → List DV → Hp → aH) (n : Nat) : D10 rec n (cf Tryz.f10) x0 (aP CF Tryz.f10) = D10 rec n (cL (cf Tryz.f10)) x0 (fun (env : aV) (h : Hp) => aBl rec n (env 2) (env 3) h) :=
 congrArg (fun k => D10 rec n (cL (cf Tryz.f10)) x0 k) (dDf rec n)
theorem cYl (rec : FuncId → List DV → Hp → aH) (n : Nat) (q0 : DV → DV → Hp → aH) : D10 rec n (cL (cf Tryz.f10)) x0 (fun (env : aV) (h : Hp) => q0 (env 2) (env 3) h) = fun (env : aV) (h : Hp) =>
  bnd (bR (env 0) h) fun v205 h205 =>
  bnd (bR (env 1) h205) fun v206 h206 =>
  q0 v205 v206 h206 := by kernel_rfl
theorem cHy (rec : FuncId → List DV → Hp → aH) (n : Nat) : (fun (env : aV) (h : Hp) =>
  bnd (bR (env 0) h) fun v207 h207 =>
  bnd (bR (env 1) h207) fun v208 h208 =>
  aBl rec n v207 v208 h208) = (fun (env : aV) (h : Hp) => s10 rec n (env 0) (env 1) h) := by kernel_rfl
theorem dTr (rec : FuncId → List DV → Hp → aH) (n : Nat) : D10 rec n (cf Tryz.f10) x0 (aP CF Tryz.f10) = (fun (env : aV) (h : Hp) => s10 rec n (env 0) (env 1) h) :=
 (dEn rec n).trans
 ((cYl rec n (aBl rec n)).trans (cHy rec n))
theorem dLe (rec : FuncId → List DV → Hp → aH) (n : Nat) (args : List DV) (h : Hp) : aF CF rec n 10 args h = s10 rec n (args.getD 0 aW) (args.getD 1 aW) h :=
 (by kernel_rfl : aF CF rec n 10 args h = D10 rec n (cf Tryz.f10) x0 (aP CF Tryz.f10) (aI args) h).trans ((congrFun (congrFun (dTr rec n) (aI args)) h).trans (by kernel_rfl))
end Go.Dd

namespace Go.Dd
open Go.Proofs
theorem cHs (args : List DV) (h : Hp) : gZ 29 args h = dC (897 + 3) 29 args h := iQ rfl rfl args h
theorem uI (args : List DV) (h : Hp) : gZ 36 args h = dC (899 + 1) 36 args h := iQ rfl rfl args h
theorem bGs {h : Hp} {x : DV} {c : Nat} (S : SlI x (List.replicate c 0) h) : ∀ (j i mm : Nat), i + j = c → c ≤ 250 → j < mm → lH gZ 900 mm (iD (c : Int)) x (.i .i64 (Int.ofNat i)) h = cO gZ 900 h := by
 intro j
 induction j with
 | zero =>
  intro i mm hij hc hm
  obtain ⟨mm, rfl⟩ : ∃ m', mm = m' + 1 := ⟨mm - 1, by omega⟩
  show nE gZ 900 (lH gZ 900 mm) _ _ _ h = _
  unfold nE
  have d : decide (Int.ofNat i < (c : Int)) = false := decide_eq_false (by simp; omega)
  simp only [cK, d, aS, bJ]
 | succ j ih =>
  intro i mm hij hc hm
  obtain ⟨mm, rfl⟩ : ∃ m', mm = m' + 1 := ⟨mm - 1, by omega⟩
  show nE gZ 900 (lH gZ 900 mm) _ _ _ h = _
  unfold nE
  have d : decide (Int.ofNat i < (c : Int)) = true := decide_eq_true (by simp; omega)
  obtain ⟨a, e1, e2⟩ := S.at (i := i) (v := 0) (by rw [List.getElem?_replicate, if_pos (by omega)])
  have ha := gE i 1 h (by omega)
  have n0 : ((0 : Int) != Int.ofNat 0) = false := rfl
  simp only [iD] at e2 ⊢
  simp only [cK, d, aS, bM, e1, e2, gI, n0, bJ]
  show bnd (aD .add (.i .i64 (Int.ofNat i)) (.i .i64 (Int.ofNat 1)) h) _ = _
  rw [ha]
  exact ih (i + 1) mm (by omega) hc (by omega)
theorem bGh {M M' : MemV} {f c : Nat} {r : Int} (g : Grown M M' f r (List.replicate c 0)) (G : Good M) (hf : f < 4) : bDy M' (.ofNat (M.fin * 2)) = List.replicate c 0 := by
 unfold bDy
 rw [g.newHead G, List.length_replicate, show (c * 4 + f) / 4 = c by omega]
 apply List.ext_getElem
 ·simp
 ·intro i h1 h2
  rw [List.getElem_map, g.newGet G hf]
  simp at h1
  simp [List.getD, h1]
set_option maxHeartbeats 1000000 in
theorem cNu {k1 N1 k2 N2 : Int} {s1 s2 : List Nat} (i1 : i64 N1) (i2 : i64 N2) (b1 : byS s1) (b2 : byS s2) : ∃ k, aF CF gZ 900 10 [th k1 N1 s1, th k2 N2 s2] (hK 1022) = some (.b true, k) := by
 obtain ⟨h1, h2, e1, e2, e3, V0, T0⟩ := bGc k1 N1 s1 k2 N2 s2
 obtain ⟨r, h3, M3, R3, es3, e4, V3, U3, S3⟩ := bDi (k := 19740) V0 k1 i1 b1 (m := 894) (by omega)
 have T3 := T0.up U3
 obtain ⟨x, h4, M4, R4, es4, e5, V4, U4, S4⟩ := bDi (k := 19480) V3 k2 i2 b2 (m := 894) (by omega)
 obtain ⟨a, e, h5, M5, e6, V5, U5, S5, A5⟩ := dRw (k := 19461) V4 r (m := 895) (by omega)
 have em := V0.K.W.memory 899
 have md4 := aTr V4 899
 have md5 := aTr V5 899
 have kd := V5.K.W.kind V5.K.G V5.I r 897
 have lv := bUc
 have o51 : Int.ofNat 23 = (23 : Int) := rfl
 have kk : decide (hD M5 R4 r = 0) = decide (e = 0) ∧ (e = 0 ∨ e = 20) ∧ ((M5.made : Int) == (M4.made : Int) + 1) = decide (e = 0) := by
  rcases A5 with ⟨q, _, rfl, rfl⟩ | ⟨q, rfl, c, q2, q3, g⟩
  ·refine ⟨?_, .inr rfl, ?_⟩
   ·rw [decide_eq_false q]; rfl
   ·rw [lZ (by omega)]; rfl
  ·have ha : bV r M4.pl ≠ 0 := aCo (V4.I.kind0 V4.K.G q).1
   refine ⟨?_, .inl rfl, ?_⟩
   ·rw [S5.kind V4.I V4.K.G ha, q]
   ·rw [g.made]
    exact eqX (by omega)
 obtain ⟨kk1, kk2, kk3⟩ := kk
 have kk1 : (hD M5 R4 r == Int.ofNat 0) = decide (e = 0) := kk1
 have e0d : (e == Int.ofNat 0) = decide (e = 0) := rfl
 have bnn : ∀ b : Bool, (b != b) = false := fun b => by cases b <;> rfl
 have pa4 : ∀ h, aD .add (.i .i64 (M4.made : Int)) (.i .i64 1) h = some (.i .i64 ((M4.made : Int) + 1), h) := fun h => iK _ _ _ (by have := V4.md; omega)
 have rest : ∃ k, wA gZ 900 (.p (aO 7) 0) (.p (aO 3) 0) (iD r) (iD x) h5 = some (.b true, k) := by
  have va := V5.K.W.value V5.K.G V5.I x 898
  have k9 : dC (899 + 1) 30 [.p (aO 7) 0, .i .i64 (Int.ofNat 9)] h5 = some (iD (R4.getD 11 0), h5) := V5.K.W.known (show 9 < 16 by omega) 899
  have k10 : dC (899 + 1) 30 [.p (aO 7) 0, .i .i64 (Int.ofNat 10)] h5 = some (iD (R4.getD 12 0), h5) := V5.K.W.known (show 10 < 16 by omega) 899
  obtain ⟨y, h6, e7, S6, U6, V6⟩ := dCg V5 x
  obtain ⟨a2, f, h7, M7, e8, V7, U7, S7, A7⟩ := dTg (k := 19208) V6 S6 r (m := 895) (by omega)
  have md7 := aTr V7 899
  have pa5 : ∀ h, aD .add (.i .i64 (M5.made : Int)) (.i .i64 1) h = some (.i .i64 ((M5.made : Int) + 1), h) := fun h => iK _ _ _ (by have := V5.md; omega)
  have o24 : Int.ofNat 24 = (24 : Int) := rfl
  have rt : ∃ q : Bool, zN gZ 900 (.p (aO 7) 0) (.p (aO 3) 0) (iD r) (iD x) (iD (M5.made : Int)) h5 = qV gZ 900 (.p (aO 7) 0) (.p (aO 3) 0) (iD r) (iD x) (iD (M5.made : Int)) (iD ((lY M5 R4 x).getD 0)) (.b q) h5 ∧
    (q = true ↔ ∃ c : Nat, lY M5 R4 x = some (c : Int) ∧ c ≤ 250 ∧ (r = R4.getD 11 0 ∨ r = R4.getD 12 0)) := by
   unfold zN aCs
   simp only [iD] at va k9 k10 ⊢
   simp only [cPe, va, aS, nH, nJ]
   cases hv : lY M5 R4 x with
   | none =>
    refine ⟨false, ?_, by simp⟩
    simp only [Option.isSome_none, lS, sR, bX, aS]
   | some w =>
    simp only [Option.isSome_some, Option.getD_some, qJ, lP, aS, cM, bGg]
    by_cases c0 : w ≥ 0
    ·simp only [decide_eq_true c0, qJ, cCu, aS, cM, cVo]
     obtain ⟨c, rfl⟩ : ∃ c : Nat, w = c := ⟨w.toNat, by omega⟩
     by_cases c1 : (c : Int) ≤ 250
     ·simp only [decide_eq_true c1, qJ, aS, cM, cHx, k9, bY]
      by_cases r9 : r = R4.getD 11 0
      ·refine ⟨true, ?_, by simp; exact ⟨c, rfl, by omega, .inl r9⟩⟩
       simp only [eqX r9, eX, sR, cM, aS]
      ·simp only [lZ r9, fR, aS, k10, bY, bX]
       by_cases r10 : r = R4.getD 12 0
       ·refine ⟨true, ?_, by simp; exact ⟨c, rfl, by omega, .inr r10⟩⟩
        simp only [eqX r10]
       ·refine ⟨false, ?_, by simp; intro c _ _ ; exact ⟨r9, r10⟩⟩
        simp only [lZ r10]
     ·refine ⟨false, ?_, by simp; intro c' q q2; omega⟩
      simp only [decide_eq_false c1, lS, sR, bX, aS]
    ·refine ⟨false, ?_, by simp; intro c' q q2; omega⟩
     simp only [decide_eq_false c0, lS, sR, bX, aS]
  obtain ⟨q, eq1, q2⟩ := rt
  unfold wA
  simp only [iD] at md5 eq1 ⊢
  simp only [uI, md5, aS, eq1]
  unfold qV
  simp only [iD] at e7 e8 md7 ⊢
  simp only [e7, aS, bBo, o24, e8, nH, nJ]
  unfold qX
  rcases A7 with ⟨q3, rfl, rfl, rfl⟩ | ⟨c, q3, rfl, rfl, f', hf2, g⟩
  ·have hq : q = false := by
    cases q with
    | false => rfl
    | true => exact absurd (q2.1 rfl) q3
   subst hq
   have d1 : ((20 : Int) == Int.ofNat 0) = false := rfl
   have d2 : ((M7.made : Int) == (M7.made : Int) + 1) = false := lZ (by omega)
   refine ⟨h7, ?_⟩
   simp only [bY, d1, aS, dCc, bnn, fR, uI, md7, cYm, pa5, d2, bX, bJ]
   unfold yS aAa cO
   simp only [bJ, lv, aS]
  ·have hq : q = true := q2.2 ⟨c, q3⟩
   subst hq
   have d1 : ((0 : Int) == Int.ofNat 0) = true := rfl
   have d2 : ((M7.made : Int) == (M5.made : Int) + 1) = true := by rw [g.made]; exact eqX (by omega)
   have hf : f' < 4 := by omega
   obtain ⟨y2, h8, e9, V8, U8, S8⟩ := dDg V7 (.ofNat (M5.fin * 2)) (V7.I.len256 V7.K.G _) (m := 897) (by omega)
   rw [bGh g V6.K.G hf] at S8
   have co := V8.K.W.classOf V8.K.G (.ofNat (M5.fin * 2)) 898
   rw [g.newCls V6.K.G] at co
   have vx : (lY M5 R4 x).getD 0 = (c : Int) := by rw [q3.1]; rfl
   have le := S8.len (h' := h8)
   rw [List.length_replicate] at le
   refine ⟨h8, ?_⟩
   rw [vx]
   have nn : ((c : Int) != (c : Int)) = false := neF rfl
   have rr : (r != r) = false := neF rfl
   simp only [iD] at e9 co le
   simp only [bY, d1, aS, dCc, bnn, fR, uI, md7, cYm, pa5, d2, bX, bJ]
   unfold yS aAa aOx aDo
   simp only [bM, cHs, e9, aS, le, gI, nn, fR, aXg, co, rr, bX, bJ]
   unfold aEg aLh aVd
   have zl := bGs S8 c 0 900 (by omega) q3.2.1 (by omega)
   refine zl.trans ?_
   unfold cO
   simp only [lv, aS]
 rw [dLe]
 simp only [iD] at e1 e2 e4 e5 e6 em md4 md5 kd
 unfold s10 aBl bCw aYm bCj aYe aZs bCu aYn
 simp only [th, iD] at e1 e2 ⊢
 simp only [g0, g1, e1, aS, e2, e3, pE0, bJ, cTb, em, T0.t1.ld, cRx, e4, T3.t2.ld, e5, uI, md4, bBo, o51, e6, nH, nJ, bY, cMn, kd, kk1, e0d, dCc, bnn, fR, md5, cYm, pa4, kk3, bX]
 unfold aVw
 obtain ⟨kf, rest⟩ := rest
 refine ⟨kf, ?_⟩
 rcases kk2 with rfl | rfl
 ·rcases A5 with ⟨_, _, q, _⟩ | ⟨q, _, c, sz, rfl, g⟩
  ·cases q
  ·have ha : bV r M4.pl ≠ 0 := aCo (V4.I.kind0 V4.K.G q).1
   have co := V5.K.W.classOf V5.K.G (.ofNat (M4.fin * 2)) 898
   rw [g.newCls V4.K.G] at co
   have fl := V5.K.W.fieldsA V5.K.G V5.I (.ofNat (M4.fin * 2))
   have fm := V5.K.W.fmtA V5.K.G V5.I (.ofNat (M4.fin * 2))
   rw [g.newHead V4.K.G, List.length_replicate] at fl fm
   have sz5 := V5.K.W.size V5.K.G V5.I r 897
   rw [S5.size V4.I V4.K.G ha, sz] at sz5
   rw [show (c * 4 + 0) / 4 = c by omega] at fl
   rw [show (c * 4 + 0) % 4 = 0 by omega] at fm
   have d1 : ((0 : Int) == Int.ofNat 0) = true := rfl
   have rr : (r != r) = false := neF rfl
   have nn : (Int.ofNat c != (c : Int)) = false := neF rfl
   have n0 : (Int.ofNat 0 != Int.ofNat 0) = false := rfl
   simp only [iD] at co fl fm sz5 rest
   simp only [bY, d1, qJ, aS, aXg, co, gI, rr, fR, fl, cGq, sz5, nn, bX, fm, n0, cM, bJ]
   exact rest
 ·have d1 : ((20 : Int) == Int.ofNat 0) = false := rfl
  simp only [iD] at rest
  simp only [bY, d1, lS, sR, fR, aS, bX, bJ]
  exact rest
end Go.Dd

namespace Go.Dd
open Go.Proofs
theorem bRg {P : Program} {W : World} {base : Nat} {t : TypeId} {v : Value} {fs : Array Field} (ht : P.underlying t = some (.struct fs)) (h : Value.okWide P W .any base t v) : ∃ cs, v = .agg cs := by
 unfold Value.okWide at h
 rw [ht] at h
 obtain ⟨cs, e, _⟩ := h
 exact ⟨cs, e⟩
theorem bCy : Tryz.prog.cellsOf 23 = 3 := by kernel_rfl
theorem bYg : Tryz.prog.cellsOf 3 = 1 := by kernel_rfl
theorem cBw : Tryz.prog.cellsOf 9 = 1 := by kernel_rfl
section
variable {H : Type} {enc : TypeId × Value → H} {W : World} {base b0 : Nat} {sp : Nat → Bool} {held : Bool}
theorem aSt {n : Nat} {cs : List Value} {x : DataW H × List MemPlace} (h : DataW.trod enc Tryz.prog W base sp held n 23 cs = some x) :
  ∃ (kd N : Int) (s : ByteArray), cs = [.int .i64 kd, .int .i64 N, .string s] ∧ x = (.agg [.lit (.int .i64 kd), .lit (.int .i64 N), .lit (.string s.data.toList)], []) ∧ (Lit.int .i64 kd).wf = true ∧ (Lit.int .i64 N).wf = true ∧ s.size ≤ maxLen := by
 obtain ⟨xs, n, rfl, hx, hl, hs, hf⟩ := DataW.trod_struct Tryz.underlying23 h
 rw [bCy] at hl
 match cs, hl with
 | [a, b, c], _ =>
  have hs : xs.length = 3 := hs
  match xs, hs with
  | [x0, x1, x2], _ =>
   have f0 := hf 0 _ rfl
   have f1 := hf 1 _ rfl
   have f2 := hf 2 _ rfl
   change DataW.trod enc Tryz.prog W base sp held n 3 (List.take (Tryz.prog.cellsOf 3) [a, b, c]) = some x0 at f0
   change DataW.trod enc Tryz.prog W base sp held n 3 (List.take (Tryz.prog.cellsOf 3) [b, c]) = some x1 at f1
   change DataW.trod enc Tryz.prog W base sp held n 9 (List.take (Tryz.prog.cellsOf 9) [c]) = some x2 at f2
   rw [bYg] at f0 f1
   rw [cBw] at f2
   obtain ⟨kd, e0, q0, w0⟩ := DataW.trod_int Tryz.underlying3 f0
   obtain ⟨N, e1, q1, w1⟩ := DataW.trod_int Tryz.underlying3 f1
   obtain ⟨s, e2, q2, w2⟩ := DataW.trod_string Tryz.underlying9 f2
   simp only [List.take, List.cons.injEq, and_true] at e0 e1 e2
   subst e0 e1 e2
   refine ⟨kd, N, s, rfl, ?_, w0, w1, w2⟩
   rw [hx, q0, q1, q2]
   rfl
theorem aOm {kd N : Int} {s : ByteArray} (w0 : (Lit.int .i64 kd).wf = true) (w1 : (Lit.int .i64 N).wf = true) (w2 : s.size ≤ maxLen) (n : Nat) :
  DataW.trod enc Tryz.prog W base sp held (n + 2) 23 [.int .i64 kd, .int .i64 N, .string s] = some (.agg [.lit (.int .i64 kd), .lit (.int .i64 N), .lit (.string s.data.toList)], []) := by
 have t0 : DataW.trod enc Tryz.prog W base sp held (n + 1) 3 [.int .i64 kd] = some (.lit (.int .i64 kd), []) := by
  rw [DataW.trod_step]; unfold DataW.trodStep; rw [Tryz.underlying3]; simp [w0]
 have t1 : DataW.trod enc Tryz.prog W base sp held (n + 1) 3 [.int .i64 N] = some (.lit (.int .i64 N), []) := by
  rw [DataW.trod_step]; unfold DataW.trodStep; rw [Tryz.underlying3]; simp [w1]
 have t2 : DataW.trod enc Tryz.prog W base sp held (n + 1) 9 [.string s] = some (.lit (.string s.data.toList), []) := by
  rw [DataW.trod_step]; unfold DataW.trodStep; rw [Tryz.underlying9]; simp [w2]
 rw [DataW.trod_step]; unfold DataW.trodStep; rw [Tryz.underlying23]
 simp [bCy, bYg, cBw, t0, t1, t2]
theorem yI {v : Value} {d : DataW H} {ps : List MemPlace} (hval : Value.okWide Tryz.prog W .any b0 23 v) (hd : DataW.Trod enc Tryz.prog W base sp held 23 v d ps) :
  ∃ (kd N : Int) (s : ByteArray), v = .agg #[.int .i64 kd, .int .i64 N, .string s] ∧ ps = [] ∧ (Lit.int .i64 N).wf = true ∧ ∀ (W' : World) (base' : Nat) (sp' : Nat → Bool), DataW.Trod enc Tryz.prog W' base' sp' held 23 (.agg #[.int .i64 kd, .int .i64 N, .string s]) d [] := by
 obtain ⟨cs, rfl⟩ := bRg Tryz.underlying23 hval
 obtain ⟨n, hf⟩ := hd
 have hf : DataW.trod enc Tryz.prog W base sp held n 23 cs.toList = some (d, ps) := hf
 obtain ⟨kd, N, s, e, ex, w0, w1, w2⟩ := aSt hf
 have ecs : cs = #[.int .i64 kd, .int .i64 N, .string s] := by
  apply Array.toList_inj.1
  exact e
 cases ex
 exact ⟨kd, N, s, by rw [ecs], rfl, w1, fun W' base' sp' => ⟨2, aOm w0 w1 w2 0⟩⟩
end
theorem cCw {n : Int} (w : (Lit.int .i64 n).wf = true) : i64 n := Go.bounds_i64 w
theorem aMi {ρ : dD} (kd N : Int) (s : ByteArray) : VR ρ (th kd N (s.data.toList.map (·.toNat))) (.agg #[.int .i64 kd, .int .i64 N, .string s]) :=
 .a _ _ (.cons _ _ _ _ (.i _ _) (.cons _ _ _ _ (.i _ _) (.cons _ _ _ _ (.s _ _ rfl) .nil)))
end Go.Dd

