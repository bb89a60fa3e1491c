/- A part of the proof: TX3 TX4 GN WR WM WA WC WP1 WP2 WP3 WP4 WP5 WP6 WP7 WQ1 WQ2 WQ3 WQ4 WQ5 WQ6 WQ7 WQ8 WQA WQB WQC XL7 WA7 WQR: each text has a comment of its own. -/
import Derived.Test.YtilmobdncapnbaaGreatPp8
import Derived.WalkKit
import Derived.ProofKit
import Derived.OpenShut
import Derived.ChangeMaps5
set_option linter.unusedVariables false
set_option linter.unusedSimpArgs false
set_option linter.constructorNameAsVariable false
set_option maxRecDepth 100000
namespace Go.Dd
open Go.Proofs
theorem rK {w : Int} {pl : WT} (h : bL w pl ≠ 0) : dH w pl = true := by
 unfold dH
 split <;> first | rfl | skip
 rw [aQc h]
 simp
theorem vB {w : Int} {pl : WT} {k : Nat} (hk : k < 16000000) (h : dH w pl = true) : dH w (pl.set k (.ofNat 1)) = true := by
 by_cases ha : bL w pl = 0
 ·unfold dH at h ⊢
  by_cases w0 : w = 0
  ·subst w0; rfl
  ·by_cases w2 : w = 2
   ·subst w2; rfl
   ·by_cases w4 : w = 4
    ·subst w4; rfl
    ·split
     ·exact absurd rfl w0
     ·exact absurd rfl w2
     ·exact absurd rfl w4
     ·split at h
      ·exact absurd rfl w0
      ·exact absurd rfl w2
      ·exact absurd rfl w4
      ·rw [ha] at h
       have : cW w = true := by simpa using h
       rw [this]
       rfl
 ·exact rK (by rw [rG hk ha]; exact ha)
def dOi (M : MemV) (R : List Int) (es : List (DV × DV)) : Prop := ∀ e ∈ es, ∃ s x, e = (.s s, iD x) ∧ TxO M (R.getD 13 0) x s
theorem aYh {es : List (DV × DV)} (s : List Nat) : (∀ e ∈ es, ∃ (k : List Nat) (x : Int), e = (.s k, iD x)) →
  (∃ x, dI .string (.s s) es = some (some (iD x)) ∧ (DV.s s, iD x) ∈ es) ∨ (dI .string (.s s) es = some none ∧ ∀ i, vR .string (.s s) es i = some none) := by
 induction es with
 | nil => exact fun _ => .inr ⟨rfl, fun _ => rfl⟩
 | cons e es ih =>
  intro h
  obtain ⟨k, x, he⟩ := h e (by simp)
  subst he
  cases hk : eqD s k with
  | true =>
   have := (pH s k).1 hk
   subst this
   exact .inl ⟨x, by simp only [dI, nE, hk], by simp⟩
  | false =>
   rcases ih fun e he => h e (by simp [he]) with ⟨y, h1, h2⟩ | ⟨h1, h2⟩
   ·exact .inl ⟨y, by simp only [dI, nE, hk]; exact h1, by simp [h2]⟩
   ·exact .inr ⟨by simp only [dI, nE, hk]; exact h1, fun i => by simp only [vR, nE, hk]; exact h2 _⟩
theorem bMq {es l : List (DV × DV)} {k v : DV} (h : dI .string k es = some (some v)) : dI .string k (es ++ l) = some (some v) := by
 induction es with
 | nil => cases h
 | cons e es ih =>
  simp only [List.cons_append, dI] at h ⊢
  split
  ·rename_i hk; rw [hk] at h; exact h
  ·rename_i hk; rw [hk] at h; exact ih h
  ·rename_i hk; rw [hk] at h; cases h
theorem bYl {es : List (DV × DV)} {s : List Nat} {v : DV} (h : dI .string (.s s) es = some none) : dI .string (.s s) (es ++ [(.s s, v)]) = some (some v) := by
 induction es with
 | nil =>
  have : eqD s s = true := (pH s s).2 rfl
  simp only [List.nil_append, dI, nE, this]
 | cons e es ih =>
  simp only [List.cons_append, dI] at h ⊢
  split
  ·rename_i hk; rw [hk] at h; cases h
  ·rename_i hk; rw [hk] at h; exact ih h
  ·rename_i hk; rw [hk] at h; cases h
structure Wk (h : Hp) (M : MemV) (R : List Int) (es : List (DV × DV)) : Prop where
 W : Wd h M R es
 G : Good M
 sy : dOi M R es
 r0 : dH (R.getD 0 0) M.pl = true
 rk : ∀ i, i < 16 → bL (R.getD (2 + i) 0) M.pl ≠ 0
structure Stay (k : Nat) (M M' : MemV) (R R' : List Int) (es es' : List (DV × DV)) : Prop where
 n : M'.n = M.n
 fin : M'.fin ≤ M.fin + k
 made : M'.made ≤ M.made + k
 lo : M.fin ≤ M'.fin
 tx : ∀ cls o s, TxO M cls o s → TxO M' cls o s
 at' : ∀ o, bL o M.pl ≠ 0 → bL o M'.pl = bL o M.pl
 r : ∀ i, R'.getD (i + 1) 0 = R.getD (i + 1) 0
 fd : ∀ s v, dI .string (.s s) es = some (some v) → dI .string (.s s) es' = some (some v)
 gi : ∀ CL, GI M R CL → GI M' R' CL
 old : ∀ j, j < M.fin → M'.t.get j = M.t.get j
theorem Stay.refl (k : Nat) (M : MemV) (R : List Int) (es : List (DV × DV)) : Stay k M M R R es es := ⟨rfl, by omega, by omega, by omega, fun _ _ _ h => h, fun _ _ => rfl, fun _ => rfl, fun _ _ h => h, fun _ h => h, fun _ _ => rfl⟩
theorem Stay.trans {a b : Nat} {M M' M2 : MemV} {R R' R2 : List Int} {es es' es2 : List (DV × DV)} (h : Stay a M M' R R' es es') (k : Stay b M' M2 R' R2 es' es2) : Stay (a + b) M M2 R R2 es es2 :=
 ⟨k.n.trans h.n, by have := h.fin; have := k.fin; omega, by have := h.made; have := k.made; omega, by have := h.lo; have := k.lo; omega, fun c o s t => k.tx _ _ _ (h.tx _ _ _ t),
  fun o ho => by have h1 := h.at' o ho; rw [k.at' o (by rw [h1]; exact ho), h1], fun i => (k.r i).trans (h.r i), fun s v e => k.fd s v (h.fd s v e), fun CL I => k.gi CL (h.gi CL I), fun j hj => by rw [k.old j (by have := h.lo; omega)]; exact h.old j hj⟩
theorem Grown.stay {M M' : MemV} {f : Nat} {cls : Int} {l : List Int} (g : Grown M M' f cls l) (G : Good M) (R : List Int) (es : List (DV × DV)) (N : ∀ CL, GI M R CL → NewI M R CL f cls l) : Stay (l.length + 3) M M' R R es es :=
 ⟨g.n, by rw [g.fin]; exact Nat.le_refl _, by rw [g.made]; omega, by rw [g.fin]; omega, fun _ _ _ t => g.txo G t, fun o ho => by rw [g.pl]; exact rG (by have := G.le; have := G.hi; omega) ho, fun _ => rfl, fun _ _ h => h, fun CL I => g.gi G I (N CL I), fun j hj => g.old j hj⟩
theorem Grown.wk {h h' : Hp} {M M' : MemV} {R : List Int} {es : List (DV × DV)} {f : Nat} {cls : Int} {l : List Int} (g : Grown M M' f cls l) (K : Wk h M R es) (W' : Wd h' M' R es) (hc : bL cls M.pl ≠ 0) (hf : f ≤ 2) (h256 : l.length ≤ 256) (room : M.fin + l.length + 3 ≤ M.n) (hm : M.made < 899999) : Wk h' M' R es := by
 have hk : M.fin < 16000000 := by have := K.G.le; have := K.G.hi; omega
 refine ⟨W', g.good K.G hc hf h256 room hm, fun e he => ?_, by rw [g.pl]; exact vB hk K.r0, fun i hi => by rw [g.pl, rG hk (K.rk i hi)]; exact K.rk i hi⟩
 obtain ⟨s, x, h1, h2⟩ := K.sy e he
 exact ⟨s, x, h1, g.txo K.G h2⟩
section
variable {h : Hp} {M : MemV} {R : List Int} {es : List (DV × DV)}
theorem Wd.setR0 (W : Wd h M R es) (v : Int) : aG 1 (.p (aQ 4) 0) (iD v) h = some (aV, ⟨h.next, Tr.set (.row .ex ((R.set 0 v).map iD)) (aQ 4) h.bl⟩) ∧ Wd ⟨h.next, Tr.set (.row .ex ((R.set 0 v).map iD)) (aQ 4) h.bl⟩ M (R.set 0 v) es ∧
  Up h ⟨h.next, Tr.set (.row .ex ((R.set 0 v).map iD)) (aQ 4) h.bl⟩ := by
 obtain ⟨m1, m2, m3, m4, m5, m6⟩ := kP W.mem
 have ne : ∀ b : Pos, b.toNat ≠ 1027 → (Tr.set (.row .ex ((R.set 0 v).map iD)) (aQ 4) h.bl).get b = h.bl.get b := fun b hb => by
  rw [dQa]
  intro e; rw [e, pn4] at hb; exact hb rfl
 refine ⟨?_, ⟨(ne _ (by rw [pn7]; omega)).trans W.w, (by show (Tr.set _ (aQ 4) _).get (aQ 4) = _; exact dQb _ _ _), by simp [W.rl], (ne _ (by rw [pn5]; omega)).trans W.sy, ?_, W.nx, W.wb, W.pb⟩, ⟨Nat.le_refl _, fun b h1 h2 => ne b (by omega)⟩⟩
 ·have hp : gF 0 (R.map iD) [iD v] = some ((R.set 0 v).map iD) := by
   have hl := W.rl
   cases R with
   | nil => simp at hl
   | cons a l =>
    show lB (iD a :: l.map iD) [iD v] = _
    have : lB (l.map iD) [] = some (l.map iD) := by cases l.map iD <;> rfl
    simp only [lB, DV.one, Bool.and_self, if_true, this, Option.map_some]
    rfl
  have hw : Kind.ex.writable = true := rfl
  simp only [aG, dE, List.length_singleton, if_true, dF, W.r, hw, hp]
 ·exact nC ((ne _ (by rw [pn3]; omega)).trans m1) ((ne _ (by rw [W.wb, pn1]; omega)).trans m2) ((ne _ (by rw [W.pb, pn2]; omega)).trans m3) m4 m5 m6
theorem Wd.setS (W : Wd h M R es) (es' : List (DV × DV)) : Wd ⟨h.next, Tr.set (.mp es') (aQ 5) h.bl⟩ M R es' ∧ Up h ⟨h.next, Tr.set (.mp es') (aQ 5) h.bl⟩ := by
 obtain ⟨m1, m2, m3, m4, m5, m6⟩ := kP W.mem
 have ne : ∀ b : Pos, b.toNat ≠ 1028 → (Tr.set (.mp es') (aQ 5) h.bl).get b = h.bl.get b := fun b hb => by
  rw [dQa]
  intro e; rw [e, pn5] at hb; exact hb rfl
 exact ⟨⟨(ne _ (by rw [pn7]; omega)).trans W.w, (ne _ (by rw [pn4]; omega)).trans W.r, W.rl, (by show (Tr.set _ (aQ 5) _).get (aQ 5) = _; exact dQb _ _ _),
  nC ((ne _ (by rw [pn3]; omega)).trans m1) ((ne _ (by rw [W.wb, pn1]; omega)).trans m2) ((ne _ (by rw [W.pb, pn2]; omega)).trans m3) m4 m5 m6, W.nx, W.wb, W.pb⟩, ⟨Nat.le_refl _, fun b h1 h2 => ne b (by omega)⟩⟩
theorem Wk.push (K : Wk h M R es) {x y : Int} (hx : dH x M.pl = true) (hy : dH y M.pl = true) (room : M.fin + 5 ≤ M.n) (hm : M.made < 899999) {n : Nat} (hn : 256 < n) :
  ∃ h' M', dJ (n + 2) 73 [.p (aQ 7) 0, .i .i64 x, .i .i64 y] h = some (.t [.i .i64 (.ofNat (M.fin * 2)), .i .i64 (.ofNat 0)], h') ∧ Wk h' M' R es ∧ Up h h' ∧ Grown M M' 0 (R.getD 11 0) [x, y] := by
 have hk : M.fin < 16000000 := by have := K.G.le; have := K.G.hi; omega
 have fl : aL [.i .i64 (Int.ofNat 0), .i .i64 (Int.ofNat 0)] 2 [(0, 1, .i .i64 x), (1, 1, .i .i64 y)] h = some (.l h.next 0 2 2, ⟨h.next.succ, Tr.set (.row .ex ([x, y].map iD)) h.next h.bl⟩) := by
  simp [aL, iR, dE]
 obtain ⟨U1, W1⟩ := K.W.new (.row .ex ([x, y].map iD))
 have S : SlI (.l h.next 0 2 2) [x, y] ⟨h.next.succ, Tr.set (.row .ex ([x, y].map iD)) h.next h.bl⟩ := .inr ⟨h.next, 2, .ex, rfl, dQb _ _ _, .inr (Nat.le_trans (by decide) K.W.nx), by show _ < (h.next.succ).toNat; rw [dQd]; omega⟩
 have K1 : Wk ⟨h.next.succ, Tr.set (.row .ex ([x, y].map iD)) h.next h.bl⟩ M R es := ⟨W1, K.G, K.sy, K.r0, K.rk⟩
 obtain ⟨h', M', e1, W2, U2, _, g⟩ := W1.make61 K.G (K.rk 9 (by omega)) (f := 0) (by omega) S (by simp) (by simpa using room) (fun v hv => by
  simp only [List.mem_cons, List.not_mem_nil, or_false] at hv
  rcases hv with rfl | rfl
  ·exact vB hk hx
  ·exact vB hk hy) hn
 refine ⟨h', M', ?_, g.wk K1 W2 (K.rk 9 (by omega)) (by omega) (by simp) (by simpa using room) hm, U1.trans U2, g⟩
 rw [oZ 73 rfl, cQn]
 unfold s73
 simp only [g0, g1, g2, aT, K.W.known (show 9 < 16 by omega), fl]
 rw [show (2 : Nat) + 9 = 11 from rfl] at e1 ⊢
 rw [e1]
 simp only [aT, nY, nU]
theorem Wk.symbol (K : Wk h M R es) {s : List Nat} (hs : ∀ c ∈ s, c < 256) (room : M.fin + 70 ≤ M.n) (hm : M.made < 800000) {n : Nat} (hn : 300 < n) :
  ∃ a e h' M' R' es', dJ (n + 3) 44 [.p (aQ 7) 0, .s s] h = some (.t [.i .i64 a, .i .i64 e], h') ∧ Wk h' M' R' es' ∧ Up h h' ∧ Stay 80 M M' R R' es es' ∧
   ((¬ (1 ≤ s.length ∧ s.length ≤ 60) ∧ e = 1 ∧ a = 0) ∨ ((1 ≤ s.length ∧ s.length ≤ 60) ∧ e = 0 ∧ dI .string (.s s) es' = some (some (iD a)) ∧ TxO M' (R.getD 13 0) a s)) := by
 rw [oZ 44 rfl, cQo]
 unfold s44
 have el : ∀ h, dU (.s s) h = some (.i .i64 (s.length : Int), h) := fun h => rfl
 by_cases c1 : s.length < 1
 ·refine ⟨0, 1, h, M, R, es, ?_, K, Up.refl h, Stay.refl _ _ _ _, .inl ⟨by omega, rfl, rfl⟩⟩
  have d1 : decide ((s.length : Int) < Int.ofNat 1) = true := decide_eq_true (by simp; omega)
  simp only [g0, g1, el, aT, cN, d1, fS, nF, cE, bP]
  rfl
 ·have d1 : decide ((s.length : Int) < Int.ofNat 1) = false := decide_eq_false (by simp; omega)
  by_cases c2 : s.length > 60
  ·refine ⟨0, 1, h, M, R, es, ?_, K, Up.refl h, Stay.refl _ _ _ _, .inl ⟨by omega, rfl, rfl⟩⟩
   have d2 : decide ((s.length : Int) > Int.ofNat 60) = true := decide_eq_true (by simp; omega)
   simp only [g0, g1, el, aT, cN, fU, d1, d2, gI, bX, bP]
   rfl
  ·have d2 : decide ((s.length : Int) > Int.ofNat 60) = false := decide_eq_false (by simp; omega)
   have hl : 1 ≤ s.length ∧ s.length ≤ 60 := by omega
   simp only [g0, g1, el, aT, cN, fU, d1, d2, gI, bX, bN, fD, nW, K.W.l2]
   rcases aYh s (fun e he => by obtain ⟨k, x, h1, _⟩ := K.sy e he; exact ⟨k, x, h1⟩) with ⟨x, f1, f2⟩ | ⟨f1, f2⟩
   ·
    obtain ⟨k, y, e1, T⟩ := K.sy _ f2
    simp only [bR, DV.s.injEq, DV.i.injEq, true_and] at e1
    obtain ⟨rfl, rfl⟩ := e1
    have hx : x ≠ 0 := fun e => T.at0 (by rw [e]; rfl)
    have z1 : (x != Int.ofNat 0) = true := by
     have : (x == Int.ofNat 0) = false := by simpa using hx
     rw [bne, this]; rfl
    have lk : dP .string (.i .i64 (Int.ofNat 0)) false (.m (aQ 5)) (.s s) h = some (iD x, h) := by
     simp only [dP, fK, K.W.sy, f1, cond_false]
    refine ⟨x, 0, h, M, R, es, ?_, K, Up.refl h, Stay.refl _ _ _ _, .inr ⟨hl, rfl, f1, T⟩⟩
    simp only [lk, aT, gQ, z1, bP]
    rfl
   ·
    have lk : dP .string (.i .i64 (Int.ofNat 0)) false (.m (aQ 5)) (.s s) h = some (.i .i64 (Int.ofNat 0), h) := by
     simp only [dP, fK, K.W.sy, f1, cond_false]
    have z0 : (Int.ofNat 0 != Int.ofNat 0) = false := rfl
    obtain ⟨h1, M1, e1, W1, U1, g1⟩ := K.W.bytes49 K.G (K.rk 11 (by omega)) hs (by omega) (by omega) hn
    have K1 : Wk h1 M1 R es := g1.wk K W1 (K.rk 11 (by omega)) (by omega) (by simp; omega) (by simp; omega) (by omega)
    have T1 : TxO M1 (R.getD 13 0) (.ofNat (M.fin * 2)) s := g1.new_txo K.G hs (by omega)
    have hf1 := g1.fin
    have hn1 := g1.n
    have hd1 := g1.made
    rw [List.length_map] at hf1
    obtain ⟨h2, M2, e2, K2, U2, g2⟩ := K1.push (x := .ofNat (M.fin * 2)) (y := R.getD 0 0) (rK T1.at0) K1.r0 (by omega) (by omega) (n := n) (by omega)
    have T2 := g2.txo K1.G T1
    have G1 := K1.G
    have ha : bL (.ofNat (M1.fin * 2)) M2.pl = M1.fin := by rw [g2.pl]; exact aJf G1.lo (by have := G1.le; have := G1.hi; omega)
    obtain ⟨e3, W3, U3⟩ := K2.W.setR0 (.ofNat (M1.fin * 2))
    obtain ⟨W4, U4⟩ := W3.setS (es ++ [(.s s, .i .i64 (Int.ofNat 0))])
    obtain ⟨W5, U5⟩ := W4.setS (es ++ [(.s s, .i .i64 (.ofNat (M.fin * 2)))])
    have rset : ∀ i, (R.set 0 (Int.ofNat (M1.fin * 2))).getD (i + 1) 0 = R.getD (i + 1) 0 := fun i => by
     simp [List.getD, List.getElem?_set]
    have me : fP .string (.i .i64 (Int.ofNat 0)) (.m (aQ 5)) (.s s) ⟨h2.next, Tr.set (.row .ex ((R.set 0 (Int.ofNat (M1.fin * 2))).map iD)) (aQ 4) h2.bl⟩ =
      some (.t [.i .i64 (Int.ofNat 0), .i .i64 (.ofNat es.length)], ⟨h2.next, Tr.set (.mp (es ++ [(.s s, .i .i64 (Int.ofNat 0))])) (aQ 5) (Tr.set (.row .ex ((R.set 0 (Int.ofNat (M1.fin * 2))).map iD)) (aQ 4) h2.bl)⟩) := by
     simp only [fP, W3.sy, f2]
     rfl
    have ms : dY (.m (aQ 5)) (.i .i64 (.ofNat es.length)) (.i .i64 (.ofNat (M.fin * 2))) ⟨h2.next, Tr.set (.mp (es ++ [(.s s, .i .i64 (Int.ofNat 0))])) (aQ 5) (Tr.set (.row .ex ((R.set 0 (Int.ofNat (M1.fin * 2))).map iD)) (aQ 4) h2.bl)⟩ =
      some (aV, ⟨h2.next, Tr.set (.mp (es ++ [(.s s, .i .i64 (.ofNat (M.fin * 2)))])) (aQ 5) (Tr.set (.mp (es ++ [(.s s, .i .i64 (Int.ofNat 0))])) (aQ 5) (Tr.set (.row .ex ((R.set 0 (Int.ofNat (M1.fin * 2))).map iD)) (aQ 4) h2.bl))⟩) := by
     have q1 : (es ++ [(DV.s s, DV.i .i64 (Int.ofNat 0))])[es.length]? = some (.s s, .i .i64 (Int.ofNat 0)) := by simp
     have q2 : (es ++ [(DV.s s, DV.i .i64 (Int.ofNat 0))]).set es.length (.s s, .i .i64 (.ofNat (M.fin * 2))) = es ++ [(.s s, .i .i64 (.ofNat (M.fin * 2)))] := by simp
     simp only [dY, W4.sy, q1, q2]
    have ix : ∀ h, aI 1 (.l (aQ 4) 0 18 18) (.i .i64 (Int.ofNat 0)) h = some (.p (aQ 4) 0, h) := fun h => rfl
    refine ⟨.ofNat (M.fin * 2), 0, _, M2, R.set 0 (.ofNat (M1.fin * 2)), es ++ [(.s s, .i .i64 (.ofNat (M.fin * 2)))], ?_, ⟨W5, K2.G, ?_, ?_, ?_⟩, (((U1.trans U2).trans U3).trans U4).trans U5, ?_, .inr ⟨hl, rfl, bYl f1, T2⟩⟩
    ·simp only [lk, aT, gQ, z0, bN, K.W.known (show 11 < 16 by omega), show 2 + 11 = 13 from rfl, e1, nY, nU, K1.W.l1, ix, fD, nW, K1.W.root (show 0 < 18 by omega), e2, K2.W.l1, K2.W.l2, e3, me, ms]
     rfl
    ·intro e he
     simp only [List.mem_append, List.mem_singleton] at he
     rcases he with he | rfl
     ·obtain ⟨k, y, q1, q2⟩ := K2.sy e he
      exact ⟨k, y, q1, by rw [show (13 : Nat) = 12 + 1 from rfl, rset]; exact q2⟩
     ·exact ⟨s, _, rfl, by rw [show (13 : Nat) = 12 + 1 from rfl, rset]; exact T2⟩
    ·have : (R.set 0 (Int.ofNat (M1.fin * 2))).getD 0 0 = Int.ofNat (M1.fin * 2) := by
      have hrl := K.W.rl
      cases R with
      | nil => simp at hrl
      | cons a l => rfl
     rw [this]
     exact rK (by rw [ha]; have := G1.lo; omega)
    ·intro i hi
     rw [show 2 + i = (1 + i) + 1 by omega, rset, show (1 + i) + 1 = 2 + i by omega]
     exact K2.rk i hi
    ·have st := (g1.stay K.G R es (fun CL I => I.newK (i := 11) (.inr (.inl ⟨.inr rfl, rfl⟩)) (by rw [List.length_map]; omega) (fun _ v hv => by obtain ⟨c, q1, q2⟩ := List.mem_map.1 hv; exact ⟨c, hs c q1, q2.symm⟩))).trans (g2.stay K1.G R es (fun CL I => I.newK (i := 9) (.inl ⟨rfl, rfl⟩) (by simp) (fun q => by cases q)))
     rw [List.length_map] at st
     have hf2 := g2.fin
     have hd2 := g2.made
     refine ⟨st.n, ?_, ?_, st.lo, st.tx, st.at', rset, fun k v e => bMq e, fun CL I => (st.gi CL I).roots rset, st.old⟩
     ·simp at hf2; omega
     ·omega
theorem Wk.string (K : Wk h M R es) {s : List Nat} (hs : ∀ c ∈ s, c < 256) (room : M.fin + 260 ≤ M.n) (hm : M.made < 800000) {n : Nat} (hn : 300 < n) :
  ∃ a e h' M', dJ (n + 3) 43 [.p (aQ 7) 0, .s s] h = some (.t [.i .i64 a, .i .i64 e], h') ∧ Wk h' M' R es ∧ Up h h' ∧ Stay 260 M M' R R es es ∧
   ((¬ s.length ≤ 250 ∧ e = 1 ∧ a = 0) ∨ (s.length ≤ 250 ∧ e = 0 ∧ a = .ofNat (M.fin * 2) ∧ TxO M' (R.getD 12 0) a s)) := by
 rw [oZ 43 rfl, cRa]
 unfold s43
 have el : ∀ h, dU (.s s) h = some (.i .i64 (s.length : Int), h) := fun h => rfl
 by_cases c1 : s.length > 250
 ·refine ⟨0, 1, h, M, ?_, K, Up.refl h, Stay.refl _ _ _ _, .inl ⟨by omega, rfl, rfl⟩⟩
  have d1 : decide ((s.length : Int) > Int.ofNat 250) = true := decide_eq_true (by simp; omega)
  simp only [g0, g1, el, aT, fU, d1, bP]
  rfl
 ·have d1 : decide ((s.length : Int) > Int.ofNat 250) = false := decide_eq_false (by simp; omega)
  obtain ⟨h1, M1, e1, W1, U1, g1⟩ := K.W.bytes49 K.G (K.rk 10 (by omega)) hs (by omega) (by omega) hn
  have K1 : Wk h1 M1 R es := g1.wk K W1 (K.rk 10 (by omega)) (by omega) (by simp; omega) (by simp; omega) (by omega)
  have T1 : TxO M1 (R.getD 12 0) (.ofNat (M.fin * 2)) s := g1.new_txo K.G hs (by omega)
  refine ⟨.ofNat (M.fin * 2), 0, h1, M1, ?_, K1, U1, ?_, .inr ⟨by omega, rfl, rfl, T1⟩⟩
  ·simp only [g0, Dd.g1, el, aT, fU, d1, bN, K.W.known (show 10 < 16 by omega), show 2 + 10 = 12 from rfl, e1, nY, nU]
   rfl
  ·have st := g1.stay K.G R es (fun CL I => I.newK (i := 10) (.inr (.inl ⟨.inl rfl, rfl⟩)) (by rw [List.length_map]; omega) (fun _ v hv => by obtain ⟨c, q1, q2⟩ := List.mem_map.1 hv; exact ⟨c, hs c q1, q2.symm⟩))
   rw [List.length_map] at st
   exact ⟨st.n, by have := st.fin; omega, by have := st.made; omega, st.lo, st.tx, st.at', st.r, st.fd, st.gi, st.old⟩
end
end Go.Dd

namespace Go.Dd
open Go.Proofs
noncomputable def byE (t : WT) (s : List Nat) : Nat → Bool := List.rec (motive := fun _ => Nat → Bool) (fun _ => true) (fun c _ ih a => Nat.blt c 256 && (gH (t.get a) (.ofNat c) && ih (Nat.add a 1))) s
noncomputable def bGy (M : MemV) (cls : Int) (e : List Nat × Nat) : Bool :=
 !(Nat.beq (bL (.ofNat e.2) M.pl) 0) && (gH (M.t.get (bL (.ofNat e.2) M.pl)) (.ofNat (Nat.add (Nat.mul e.1.length 4) 2)) && (gH (M.t.get (Nat.add (bL (.ofNat e.2) M.pl) 1)) cls && (Nat.ble e.1.length 256 && byE M.t e.1 (Nat.add (bL (.ofNat e.2) M.pl) 3))))
theorem bZd (t : WT) : ∀ (s : List Nat) (a : Nat), byE t s a = true → (∀ c ∈ s, c < 256) ∧ ∀ i c, s[i]? = some c → t.get (a + i) = .ofNat c
 | [], a, _ => ⟨by simp, fun i c h => by simp at h⟩
 | c :: s, a, h => by
  change (Nat.blt c 256 && (gH (t.get a) (.ofNat c) && byE t s (a + 1))) = true at h
  simp only [Bool.and_eq_true, gC, decide_eq_true_eq] at h
  obtain ⟨h1, h2⟩ := bZd t s (a + 1) h.2.2
  refine ⟨fun d hd => ?_, fun i d hi => ?_⟩
  ·simp only [List.mem_cons] at hd
   rcases hd with rfl | hd
   ·exact h.1
   ·exact h1 d hd
  ·cases i with
   | zero =>
    simp only [List.getElem?_cons_zero, bE] at hi
    subst hi
    exact mU _ _ h.2.1
   | succ i =>
    rw [show a + (i + 1) = a + 1 + i by omega]
    exact h2 i d (by simpa using hi)
theorem bBa {M : MemV} {cls : Int} {e : List Nat × Nat} (h : bGy M cls e = true) : TxO M cls (.ofNat e.2) e.1 := by
 unfold bGy at h
 simp only [Bool.and_eq_true, jA, decide_eq_true_eq] at h
 obtain ⟨h1, h2, h3, h4, h5⟩ := h
 obtain ⟨b1, b2⟩ := bZd _ _ _ h5
 refine ⟨fun e => (by rw [e] at h1; cases h1), mU _ _ h2, mU _ _ h3, b1, h4, b2⟩
noncomputable def cUl (p : List Nat × Nat → Bool) (l : List (List Nat × Nat)) : Bool := List.rec (motive := fun _ => Bool) true (fun x _ ih => p x && ih) l
theorem aLb {p : List Nat × Nat → Bool} : ∀ {l : List (List Nat × Nat)}, cUl p l = true → ∀ a ∈ l, p a = true
 | [], _, a, h => by cases h
 | x :: l, hl, a, h => by
  change (p x && cUl p l) = true at hl
  simp only [Bool.and_eq_true] at hl
  simp only [List.mem_cons] at h
  rcases h with rfl | h
  ·exact hl.1
  ·exact aLb hl.2 a h
theorem vX : ∀ (l : List (List Nat × Nat)) (e : DV × DV), e ∈ bCh l → ∃ x ∈ l, e = (.s x.1, .i .i64 (.ofNat x.2))
 | [], e, h => by cases h
 | x :: l, e, h => by
  change e ∈ (DV.s x.1, DV.i .i64 (.ofNat x.2)) :: bCh l at h
  simp only [List.mem_cons] at h
  rcases h with rfl | h
  ·exact ⟨x, by simp, rfl⟩
  ·obtain ⟨y, h1, h2⟩ := vX l e h
   exact ⟨y, by simp [h1], h2⟩
theorem cOl : cUl (bGy MN (RN.getD 13 0)) syN = true := by kernel_rfl
theorem KN : Wk hW MN RN esN := ⟨WN, GN, fun e he => by
 obtain ⟨x, h1, h2⟩ := vX syN e he
 exact ⟨x.1, _, h2, bBa (aLb cOl x h1)⟩, by kernel_rfl, dHq⟩
theorem cPp (s : List Nat) (h : Hp) : dU (.s s) h = some (.i .i64 (s.length : Int), h) := rfl
theorem wL (s : ByteArray) : ∀ c ∈ s.data.toList.map (·.toNat), c < 256 := by
 intro c hc
 obtain ⟨b, _, rfl⟩ := List.mem_map.1 hc
 exact b.toNat_lt
end Go.Dd

namespace Go.Dd
open Go.Proofs
theorem bGj (x : Int) : gH x x = true := by
 cases x with
 | ofNat n => exact Nat.beq_refl n
 | negSucc n => exact Nat.beq_refl n
theorem dG (x y : Int) : gH x y = true ↔ x = y := ⟨mU x y, fun e => by rw [e]; exact bGj y⟩
noncomputable def bKs (p : Nat → Bool) (n : Nat) : Bool := Nat.rec (motive := fun _ => Bool) true (fun i ih => p i && ih) n
theorem tD {p : Nat → Bool} : ∀ {n : Nat}, bKs p n = true → ∀ i, i < n → p i = true
 | 0, _, i, h => by omega
 | n + 1, hl, i, h => by
  change (p n && bKs p n) = true at hl
  simp only [Bool.and_eq_true] at hl
  by_cases e : i = n
  ·rw [e]; exact hl.1
  ·exact tD hl.2 i (by omega)
noncomputable def cIi (a : Nat) (l : List Nat) : Bool := List.rec (motive := fun _ => Bool) false (fun x _ ih => Nat.beq a x || ih) l
theorem wS {a : Nat} : ∀ {l : List Nat}, cIi a l = true → a ∈ l
 | [], h => by cases h
 | x :: l, h => by
  change (Nat.beq a x || cIi a l) = true at h
  simp only [Bool.or_eq_true] at h
  rcases h with h | h
  ·rw [Nat.eq_of_beq_eq_true h]; exact List.mem_cons_self
  ·exact List.mem_cons_of_mem _ (wS h)
noncomputable def byB (v : Int) : Bool := match v with
 | .ofNat c => Nat.blt c 256
 | .negSucc _ => false
noncomputable def aRn (a b : Bool) : Bool := bif a then b else true
theorem kQ {a b : Bool} (h : aRn a b = true) (ha : a = true) : b = true := by rw [ha] at h; exact h
noncomputable def obB (M : MemV) (R : List Int) (CL : List Nat) (a hd : Nat) : Bool :=
 Nat.ble (Nat.div hd 4) 256 && (Nat.ble (Nat.mod hd 4) 2 && (aRn (gH (M.t.get (Nat.add a 1)) (R.getD 11 0)) (Nat.beq (Nat.mod hd 4) 0) &&
  (aRn (gH (M.t.get (Nat.add a 1)) (R.getD 12 0)) (Nat.beq (Nat.mod hd 4) 2) && (aRn (gH (M.t.get (Nat.add a 1)) (R.getD 13 0)) (Nat.beq (Nat.mod hd 4) 2) &&
  (aRn (Nat.beq (Nat.mod hd 4) 2) (bKs (fun i => byB (M.t.get (Nat.add (Nat.add a 3) i))) (Nat.div hd 4)) && (aRn (gH (M.t.get (Nat.add a 1)) (R.getD 3 0)) (cIi a CL) &&
  aMw (fun c => aRn (gH (M.t.get (Nat.add c 8)) 1) (!(gH (M.t.get (Nat.add a 1)) (.ofNat (Nat.mul 2 c))))) CL))))))
theorem cWf {M : MemV} {R : List Int} {CL : List Nat} {a hd : Nat} (h : obB M R CL a hd = true) : ObI M R CL a hd := by
 unfold obB at h
 simp only [Bool.and_eq_true, jA, decide_eq_true_eq] at h
 obtain ⟨h1, h2, h3, h4, h5, h6, h7, h8⟩ := h
 refine ⟨h1, h2, fun q => ?_, fun q => ?_, fun q i hi => ?_, fun q => ?_, fun _ c hc q1 q2 => ?_⟩
 ·exact Nat.eq_of_beq_eq_true (kQ h3 ((dG _ _).2 q))
 ·rcases q with q | q
  ·exact Nat.eq_of_beq_eq_true (kQ h4 ((dG _ _).2 q))
  ·exact Nat.eq_of_beq_eq_true (kQ h5 ((dG _ _).2 q))
 ·have hb := tD (kQ h6 (show Nat.beq (Nat.mod hd 4) 2 = true by rw [show Nat.mod hd 4 = 2 from q]; rfl)) i hi
  change byB (M.t.get (a + 3 + i)) = true at hb
  cases hv : M.t.get (a + 3 + i) with
  | ofNat c => rw [hv] at hb; exact ⟨c, by simpa [byB, gC] using hb, rfl⟩
  | negSucc c => rw [hv] at hb; cases hb
 ·exact wS (kQ h7 ((dG _ _).2 q))
 ·exfalso
  have q3 := kQ (jH h8 c hc) ((dG _ _).2 q1)
  rw [(dG _ _).2 (show M.t.get (Nat.add a 1) = .ofNat (Nat.mul 2 c) from q2)] at q3
  cases q3
noncomputable def aAn (M : MemV) (a : Nat) (p : Nat → Bool) : Bool := match M.t.get a with
 | .ofNat hd => p hd
 | .negSucc _ => true
noncomputable def clB (M : MemV) (R : List Int) (c : Nat) : Bool :=
 Nat.ble 3 c && (Nat.ble c 131072 && (!(gH (M.pl.get c) 0) && (gH (M.t.get c) (.ofNat 24) && (gH (M.t.get (Nat.add c 1)) (R.getD 3 0) &&
  (aAn M (Nat.add c 5) (fun s => Nat.ble s 33 && Nat.beq (Nat.mod s 2) 1) && (aAn M (Nat.add c 8) (fun s => Nat.ble s 7 && Nat.beq (Nat.mod s 2) 1) && (byB (M.t.get (Nat.add c 5)) && byB (M.t.get (Nat.add c 8)))))))))
noncomputable def nmB (M : MemV) (R : List Int) (sy : List (List Nat × Nat)) (c : Nat) : Bool :=
 List.rec (motive := fun _ => Bool) false (fun e _ ih => (gH (M.t.get (Nat.add c 3)) (.ofNat e.2) && (bGy M (R.getD 13 0) e && (Nat.ble 1 e.1.length && Nat.ble e.1.length 60))) || ih) sy
theorem bPs {M : MemV} {R : List Int} {c : Nat} : ∀ {sy : List (List Nat × Nat)}, nmB M R sy c = true → ∃ s, TxO M (R.getD 13 0) (M.t.get (c + 3)) s ∧ 1 ≤ s.length ∧ s.length ≤ 60
 | [], h => by cases h
 | e :: sy, h => by
  change ((gH (M.t.get (c + 3)) (.ofNat e.2) && (bGy M (R.getD 13 0) e && (Nat.ble 1 e.1.length && Nat.ble e.1.length 60))) || nmB M R sy c) = true at h
  simp only [Bool.or_eq_true] at h
  rcases h with h | h
  ·simp only [Bool.and_eq_true, jA, decide_eq_true_eq] at h
   obtain ⟨q1, q2, q3, q4⟩ := h
   exact ⟨e.1, by rw [(dG _ _).1 q1]; exact bBa q2, q3, q4⟩
  ·exact bPs h
theorem cSr {M : MemV} {R : List Int} {c : Nat} {sy : List (List Nat × Nat)} (h : clB M R c = true) (hn : nmB M R sy c = true) : ClI M R c := by
 unfold clB at h
 simp only [Bool.and_eq_true, jA, decide_eq_true_eq] at h
 obtain ⟨h1, h2, h3, h4, h5, h6, h7, h8, h9⟩ := h
 have num : ∀ (j m : Nat), aAn M (c + j) (fun s => decide (s ≤ 2 * m + 1) && Nat.beq (Nat.mod s 2) 1) = true → byB (M.t.get (c + j)) = true → ∃ z : Nat, z ≤ m ∧ M.t.get (c + j) = .ofNat (2 * z + 1) := fun j m q1 q2 => by
  cases hv : M.t.get (c + j) with
  | negSucc x => rw [hv] at q2; cases q2
  | ofNat x =>
   unfold aAn at q1
   rw [hv] at q1
   simp only [Bool.and_eq_true, decide_eq_true_eq] at q1
   have e : x % 2 = 1 := Nat.eq_of_beq_eq_true q1.2
   exact ⟨x / 2, by omega, by rw [show 2 * (x / 2) + 1 = x by omega]⟩
 refine ⟨⟨h1, h2⟩, fun e => ?_, (dG _ _).1 h4, (dG _ _).1 h5, bPs hn, num 5 16 h6 h8, num 8 3 h7 h9⟩
 rw [e] at h3
 cases h3
noncomputable def djB (M : MemV) (l : List Nat) : Nat → Bool := List.rec (motive := fun _ => Nat → Bool) (fun _ => true) (fun a _ ih lo => Nat.ble lo a && (match M.t.get a with
 | .ofNat hd => ih (Nat.add (Nat.add a 3) (Nat.div hd 4))
 | .negSucc _ => false)) l
theorem bPv {M : MemV} : ∀ {l : List Nat} {lo : Nat}, djB M l lo = true → (∀ a ∈ l, lo ≤ a) ∧ ∀ a ∈ l, ∀ b ∈ l, a < b → ∀ hd : Nat, M.t.get a = .ofNat hd → a + 3 + hd / 4 ≤ b
 | [], lo, h => ⟨fun a ha => (by cases ha), fun a ha => (by cases ha)⟩
 | x :: l, lo, h => by
  change (Nat.ble lo x && (match M.t.get x with
   | .ofNat hd => djB M l (x + 3 + hd / 4)
   | .negSucc _ => false)) = true at h
  simp only [Bool.and_eq_true, jA, decide_eq_true_eq] at h
  obtain ⟨h1, h2⟩ := h
  cases hx : M.t.get x with
  | negSucc k => rw [hx] at h2; cases h2
  | ofNat k =>
   rw [hx] at h2
   obtain ⟨i1, i2⟩ := bPv (l := l) h2
   refine ⟨fun a ha => ?_, fun a ha b hb hab hd hh => ?_⟩
   ·rcases List.mem_cons.1 ha with rfl | ka
    ·exact h1
    ·have := i1 a ka
     omega
   ·rcases List.mem_cons.1 ha with rfl | ka
    ·rcases List.mem_cons.1 hb with rfl | kb
     ·omega
     ·rw [hx] at hh
      cases hh
      exact i1 b kb
    ·rcases List.mem_cons.1 hb with rfl | kb
     ·have := i1 a ka
      omega
     ·exact i2 a ka b kb hab hd hh
noncomputable def giB (M : MemV) (R : List Int) (CL : List Nat) (pls : List Nat) (sy : List (List Nat × Nat)) : Bool :=
 djB M pls 0 && (gH (M.t.get 0) 0 && (gH (M.t.get 1) 0 && (aMw (fun a => aAn M a (obB M R CL a)) pls && (aMw (fun c => clB M R c && nmB M R sy c) CL &&
  (bKs (fun i => gH (R.getD (Nat.add 2 i) 0) (.ofNat (Nat.add 6 (Nat.mul 18 i)))) 16 && (bKs (fun i => cIi (Nat.add 3 (Nat.mul 9 i)) CL) 16 &&
  (gH (M.t.get 92) 3 && (gH (M.t.get 101) 5 && (gH (M.t.get 110) 5 && (gH (M.t.get 83) 7 && gH (M.t.get 20) 7))))))))))
theorem dCw {M : MemV} {R : List Int} {CL : List Nat} {pls : List Nat} {sy : List (List Nat × Nat)} (hp : M.pl = mkP pls .e) (hb : ∀ x ∈ pls, x < 16000000) (h : giB M R CL pls sy = true) : GI M R CL := by
 unfold giB at h
 simp only [Bool.and_eq_true] at h
 obtain ⟨h0, h1, h2, h3, h4, h5, h6, h7, h8, h9, h10, h11⟩ := h
 have mem : ∀ a, M.pl.get a ≠ 0 → a ∈ pls := fun a ha => by
  rw [hp] at ha
  rcases tJ pls .e a hb ha with q | q
  ·exact q
  ·exact absurd rfl q
 refine ⟨(dG _ _).1 h1, (dG _ _).1 h2, fun a ha hd hh => ?_, fun a b ha hb' => (bPv h0).2 a (mem a ha) b (mem b hb'), fun c hc => ?_, fun i hi => (dG _ _).1 (tD h5 i hi), fun i hi => wS (tD h6 i hi), (dG _ _).1 h7, (dG _ _).1 h8, (dG _ _).1 h9, (dG _ _).1 h10, (dG _ _).1 h11⟩
 ·have hm : a ∈ pls := by
   rw [hp] at ha
   rcases tJ pls .e a hb ha with q | q
   ·exact q
   ·exact absurd rfl q
  have q := jH h3 a hm
  unfold aAn at q
  rw [hh] at q
  exact cWf q
 ·have q := jH h4 c hc
  simp only [Bool.and_eq_true] at q
  exact cSr q.1 q.2
def CLW : List Nat := [3, 12, 21, 30, 39, 48, 57, 66, 75, 84, 93, 102, 111, 120, 129, 138, 4357]
theorem cHc : giB MN RN CLW plN syN = true := by kernel_rfl
theorem cUm : aMw (fun x => Nat.blt x 16000000) plN = true := by kernel_rfl
theorem GIN : GI MN RN CLW := dCw cQk (fun x hx => by have := jH cUm x hx; simpa [gC] using this) cHc
end Go.Dd

namespace Go.Dd
open Go.Proofs
noncomputable def cM (M : MemV) (o : Int) : Nat := match M.t.get (bL o M.pl) with
 | .ofNat hd => hd
 | .negSucc _ => 0
noncomputable def lR (M : MemV) (o : Int) (i : Nat) : Int := if bL o M.pl ≠ 0 ∧ i < cM M o / 4 then M.t.get (bL o M.pl + 3 + i) else 0
noncomputable def gL (M : MemV) (o : Int) : Int := M.t.get (bL o M.pl + 1)
noncomputable def isC (M : MemV) (R : List Int) (c : Int) : Bool := decide (bL c M.pl ≠ 0 ∧ gL M c = R.getD 3 0)
noncomputable def bGl (w : Int) : Int := if cW w = true then pJ w else 0
noncomputable def iV (M : MemV) (R : List Int) (c : Int) : Int := if isC M R c = true then bGl (lR M c 5) else -1
noncomputable def lL (M : MemV) (R : List Int) (x : Int) : Option Int := if cW x = true then some (pJ x) else if (bL x M.pl ≠ 0 ∧ gL M x = R.getD 10 0) ∧ cM M x % 4 = 1 then some (lR M x 0) else none
section
variable {h : Hp} {M : MemV} {R : List Int} {es : List (DV × DV)} {CL : List Nat} {z : Prop}
theorem sK {M : MemV} {o : Int} (h : bL o M.pl ≠ 0) : M.pl.get (bL o M.pl) ≠ 0 := by
 rcases jX o M.pl with e | ⟨e, _⟩
 ·exact absurd e h
 ·have := (atN_pos (o := o) (pl := M.pl)).1 h
  rw [e]
  exact this.2
theorem GI.head (I : GI M R CL z) (G : Good M) (o : Int) (k : Nat → aJ) : hD M o k = k (cM M o) := by
 by_cases e : bL o M.pl = 0
 ·have b1 : Nat.blt (Nat.add (bL o M.pl) 1) M.n = true := by
   rw [gC, e]
   have := G.lo; have := G.le
   exact decide_eq_true (show 0 + 1 < M.n by omega)
  unfold hD cM
  rw [b1, e, I.z0]
  rfl
 ·obtain ⟨h3, hd, h1, h2, h4, _⟩ := G.ob _ (sK e)
  have hl := G.le
  have b1 : Nat.blt (Nat.add (bL o M.pl) 1) M.n = true := by
   rw [gC]; exact decide_eq_true (show bL o M.pl + 1 < M.n by omega)
  have b2 : Nat.blt hd 1000000000000 = true := by rw [gC]; exact decide_eq_true h2
  unfold hD cM
  rw [b1, h1]
  simp only [cond_true, b2]
theorem GI.headOb (I : GI M R CL z) (G : Good M) {o : Int} (e : bL o M.pl ≠ 0) : M.t.get (bL o M.pl) = .ofNat (cM M o) ∧ ObI M R CL (bL o M.pl) (cM M o) z ∧ bL o M.pl + 3 + cM M o / 4 ≤ M.fin ∧ 3 ≤ bL o M.pl := by
 obtain ⟨h3, hd, h1, h2, h4, _⟩ := G.ob _ (sK e)
 have eh : cM M o = hd := by unfold cM; rw [h1]
 rw [eh]
 exact ⟨h1, I.ob _ (sK e) _ h1, h4, h3⟩
theorem Wd.clsA (W : Wd h M R es) (G : Good M) (I : GI M R CL z) (o : Int) : iM [.p (aQ 3) 0, .i .i64 o] h = some (iD (gL M o), h) := by
 simp only [iM, iY, W.mem, I.head G, Nat.add_eq, gL]
theorem Wd.fmtA (W : Wd h M R es) (G : Good M) (I : GI M R CL z) (o : Int) : jU [.p (aQ 3) 0, .i .i64 o] h = some (.i .i64 (.ofNat (cM M o % 4)), h) := by
 simp only [jU, iY, W.mem, I.head G]
 rfl
theorem Wd.fieldsA (W : Wd h M R es) (G : Good M) (I : GI M R CL z) (o : Int) : eI [.p (aQ 3) 0, .i .i64 o] h = some (.i .i64 (.ofNat (cM M o / 4)), h) := by
 simp only [eI, iY, W.mem, I.head G]
 rfl
theorem Wd.getA (W : Wd h M R es) (G : Good M) (I : GI M R CL z) (o : Int) (i : Nat) : ∃ e, oD [.p (aQ 3) 0, .i .i64 o, .i .i64 (.ofNat i)] h = some (.t [iD (lR M o i), iD e], h) ∧ (e = 0 ↔ (bL o M.pl ≠ 0 ∧ i < cM M o / 4)) := by
 unfold lR
 by_cases e : bL o M.pl = 0
 ·refine ⟨1, ?_, by simp [e]⟩
  rw [if_neg (by simp [e])]
  simp only [oD, iY, W.mem, gM, e, err]
  rfl
 ·obtain ⟨h1, _, h4, h3⟩ := I.headOb G e
  have hl := G.le
  by_cases hi : i < cM M o / 4
  ·refine ⟨0, ?_, by simp [e, hi]⟩
   rw [if_pos ⟨e, hi⟩]
   have b1 : Nat.ble (Nat.div (cM M o) 4) i = false := by
    rw [jA]; exact decide_eq_false (show ¬ (cM M o / 4 ≤ i) by omega)
   have b2 : Nat.blt (Nat.add (Nat.add (bL o M.pl) 3) i) M.n = true := by
    rw [gC]; exact decide_eq_true (show bL o M.pl + 3 + i < M.n by omega)
   simp only [oD, iY, W.mem, gM, aQc e, cond_false, I.head G, b1, b2, cond_true]
   rfl
  ·refine ⟨5, ?_, by simp [hi]⟩
   rw [if_neg (by simp [hi])]
   have b1 : Nat.ble (Nat.div (cM M o) 4) i = true := by
    rw [jA]; exact decide_eq_true (show cM M o / 4 ≤ i by omega)
   simp only [oD, iY, W.mem, gM, aQc e, cond_false, I.head G, b1, cond_true, err]
   rfl
theorem Wd.getG (W : Wd h M R es) (G : Good M) (I : GI M R CL z) (o : Int) (i n : Nat) : dJ (n + 1) 51 [.p (aQ 7) 0, .i .i64 o, .i .i64 (.ofNat i)] h = some (iD (lR M o i), h) := by
 rw [oZ 51 rfl, cRj]
 unfold s51
 obtain ⟨e, h1, _⟩ := W.getA G I o i
 have g2 : ∀ (a b c : DV) (l : List DV), (a :: b :: c :: l).getD 2 aV = c := fun _ _ _ _ => rfl
 simp only [g0, g1, g2, fD, nW, aT, W.l00, h1, nY, nU]
theorem Wd.isClass (W : Wd h M R es) (G : Good M) (I : GI M R CL z) (c : Int) (n : Nat) : dJ (n + 2) 67 [.p (aQ 7) 0, .i .i64 c] h = some (.b (isC M R c), h) := by
 rw [oZ 67 rfl, cRf]
 unfold s67
 by_cases e : bL c M.pl = 0
 ·have b : (!(Nat.beq (bL c M.pl) 0)) = false := by rw [e]; rfl
  have d : isC M R c = false := decide_eq_false (fun q => q.1 e)
  simp only [g0, g1, fD, nW, aT, W.l00, W.is, b, iQ, nF, bX, d]
 ·have b : (!(Nat.beq (bL c M.pl) 0)) = true := by rw [aQc e]; rfl
  have k : dJ (n + 1) 30 [.p (aQ 7) 0, .i .i64 (Int.ofNat 1)] h = some (iD (R.getD 3 0), h) := W.known (show 1 < 16 by omega) n
  by_cases e2 : gL M c = R.getD 3 0
  ·have d : isC M R c = true := decide_eq_true ⟨e, e2⟩
   obtain ⟨h1, O, _, _⟩ := I.headOb G e
   have hm := O.cls e2
   have h6 : cM M c / 4 = 6 := by
    have := (I.cl _ hm).hd
    rw [h1] at this
    have := Int.ofNat.inj this
    omega
   have z : (Int.ofNat 6 == Int.ofNat 6) = true := rfl
   have zz : (gL M c == R.getD 3 0) = true := by rw [e2]; exact beq_self_eq_true _
   simp only [g0, g1, fD, nW, aT, W.l00, W.is, b, lP, W.clsA G I, k, cJ, zz, cE, W.fieldsA G I, h6, z, d]
  ·have d : isC M R c = false := decide_eq_false (fun q => e2 q.2)
   have zz : (gL M c == R.getD 3 0) = false := by simpa using e2
   simp only [g0, g1, fD, nW, aT, W.l00, W.is, b, lP, W.clsA G I, k, cJ, zz, cE, bX, iQ, nF, d]
theorem dDt (w : Int) (h : Hp) : jL [.i .i64 w] h = some (iD (bGl w), h) := by
 show ((bif cW w then some (DV.i .i64 (pJ w), h) else some (DV.i .i64 (.ofNat 0), h)) : aJ) = _
 unfold bGl
 cases cW w <;> rfl
theorem Wd.kind (W : Wd h M R es) (G : Good M) (I : GI M R CL z) (c : Int) (n : Nat) : dJ (n + 3) 32 [.p (aQ 7) 0, .i .i64 c] h = some (iD (iV M R c), h) := by
 rw [oZ 32 rfl, cPx]
 unfold s32 iV
 cases hc : isC M R c with
 | false => simp only [g0, g1, W.isClass G I c n, hc, aT, iI, Bool.not_false, bP]; rfl
 | true => simp only [g0, g1, W.isClass G I c n, hc, aT, iI, Bool.not_true, bN, W.getG G I c 5 (n + 1), dDt, if_true]
theorem Wd.value (W : Wd h M R es) (G : Good M) (I : GI M R CL z) (x : Int) (n : Nat) : dJ (n + 2) 15 [.p (aQ 7) 0, .i .i64 x] h = some (.t [iD ((lL M R x).getD 0), .b (lL M R x).isSome], h) := by
 rw [oZ 15 rfl, cQq]
 unfold s15 lL
 cases hs : cW x with
 | true =>
  have e1 : ∀ h, eL [.i .i64 x] h = some (.b true, h) := fun h => by rw [eL, hs]
  have e2 : ∀ h, jL [.i .i64 x] h = some (iD (pJ x), h) := fun h => by rw [dDt, bGl, hs]; rfl
  simp only [g0, g1, e1, e2, aT, bP, if_true, Option.getD_some, Option.isSome_some]
 | false =>
  have e1 : ∀ h, eL [.i .i64 x] h = some (.b false, h) := fun h => by rw [eL, hs]
  have k : dJ (n + 1) 30 [.p (aQ 7) 0, .i .i64 (Int.ofNat 8)] h = some (iD (R.getD 10 0), h) := W.known (show 8 < 16 by omega) n
  simp only [Bool.false_eq_true, if_false]
  by_cases e : bL x M.pl = 0
  ·have b : (!(Nat.beq (bL x M.pl) 0)) = false := by rw [e]; rfl
   rw [if_neg (fun q => q.1.1 e)]
   simp only [g0, g1, e1, aT, bN, fD, nW, W.l00, W.is, b, iQ, nF, bX]
   rfl
  ·have b : (!(Nat.beq (bL x M.pl) 0)) = true := by rw [aQc e]; rfl
   by_cases e2 : gL M x = R.getD 10 0
   ·have zz : (gL M x == R.getD 10 0) = true := by rw [e2]; exact beq_self_eq_true _
    by_cases e3 : cM M x % 4 = 1
    ·have z3 : (Int.ofNat (cM M x % 4) == Int.ofNat 1) = true := by rw [e3]; rfl
     rw [if_pos ⟨⟨e, e2⟩, e3⟩]
     simp only [g0, g1, e1, aT, bN, fD, nW, W.l00, W.is, b, lP, W.clsA G I, k, cJ, zz, cE, W.fmtA G I, z3, bP, W.getG G I x 0 n, Option.getD_some, Option.isSome_some]
    ·have z3 : (Int.ofNat (cM M x % 4) == Int.ofNat 1) = false := by
      have : ¬ (Int.ofNat (cM M x % 4) = Int.ofNat 1) := fun q => e3 (Int.ofNat.inj q)
      simpa using this
     rw [if_neg (fun q => e3 q.2)]
     simp only [g0, g1, e1, aT, bN, fD, nW, W.l00, W.is, b, lP, W.clsA G I, k, cJ, zz, cE, W.fmtA G I, z3, bN]
     rfl
   ·have zz : (gL M x == R.getD 10 0) = false := by simpa using e2
    rw [if_neg (fun q => e2 q.1.2)]
    simp only [g0, g1, e1, aT, bN, fD, nW, W.l00, W.is, b, lP, W.clsA G I, k, cJ, zz, cE, bX, iQ, nF, bN]
    rfl
end
end Go.Dd

namespace Go.Dd
open Go.Proofs
theorem pcf {rec : FuncId → List DV → Hp → aJ} {g : FuncId} (hg : CF.I g = none) (a l b : List DV) (h : Hp) : cX CF rec (.f g a b) l h = rec g (a ++ l ++ b) h := by
 show bQ CF rec g (a ++ l ++ b) h = _
 rw [iB hg]
section
variable {h : Hp} {M : MemV} {R : List Int} {es : List (DV × DV)}
theorem Wk.make0 (K : Wk h M R es) {cls : Int} (hc : bL cls M.pl ≠ 0) {f c : Nat} (hf : f ≤ 2) (h256 : c ≤ 256) (room : M.fin + c + 3 ≤ M.n) (hm : M.made < 899999) :
  ∃ h' M', iS [.p (aQ 3) 0, .i .i64 cls, .i .i64 (.ofNat f), .i .i64 (.ofNat c)] h = some (.t [.i .i64 (.ofNat (M.fin * 2)), .i .i64 (.ofNat 0)], h') ∧ Wk h' M' R es ∧ Up h h' ∧ Grown M M' f cls (List.replicate c 0) := by
 have h1 := K.G.le
 have h2 := K.G.lo
 have h3 := K.G.hi
 obtain ⟨h', e1, W1, U1, _⟩ := K.W.make K.G hc hf h256 room
 have t1 : ∀ j, (M.mk1 f c cls).t.get j = if M.fin + 3 ≤ j ∧ j < M.fin + 3 + c then 0 else if j = M.fin + 2 then .ofNat (M.made + 1) else if j = M.fin + 1 then cls else if j = M.fin then .ofNat (c * 4 + f) else M.t.get j := fun j => by
  show (kO _ c (M.fin + 3)).get j = _
  rw [mV _ _ _ _ (by omega), WT.get_set _ _ _ _ (by omega), WT.get_set _ _ _ _ (by omega), WT.get_set _ _ _ _ (by omega)]
 have g : Grown M (M.mk1 f c cls) f cls (List.replicate c 0) := by
  refine ⟨rfl, by rw [List.length_replicate]; rfl, rfl, rfl, ?_, ?_, fun j hj => ?_, fun i v hi => ?_⟩
  ·rw [t1, if_neg (by omega), if_neg (by omega), if_neg (by omega), if_pos rfl, List.length_replicate]
  ·rw [t1, if_neg (by omega), if_neg (by omega), if_pos rfl]
  ·rw [t1, if_neg (by omega), if_neg (by omega), if_neg (by omega), if_neg (by omega)]
  ·have hl : i < c := by
    rcases Nat.lt_or_ge i c with q | q
    ·exact q
    ·rw [List.getElem?_eq_none (by simpa using q)] at hi; cases hi
   rw [List.getElem?_replicate, if_pos hl] at hi
   cases hi
   rw [t1, if_pos (by omega)]
 exact ⟨h', _, e1, g.wk K W1 hc hf (by rw [List.length_replicate]; exact h256) (by rw [List.length_replicate]; exact room) hm, U1, g⟩
theorem bGd {M : MemV} {R : List Int} {a n : Int} (h : cW a = true) (e : pJ a = n) : lL M R a = some n := by
 unfold lL
 rw [if_pos h, e]
theorem Wk.num (K : Wk h M R es) (room : M.fin + 4 ≤ M.n) (hm : M.made < 899999) (n : Int) {k : Nat} (hk : 256 < k) :
  ∃ a e h' M', dJ (k + 2) 42 [.p (aQ 7) 0, .i .i64 n] h = some (.t [iD a, iD e], h') ∧ Wk h' M' R es ∧ Up h h' ∧ Stay 4 M M' R R es es ∧
   ((¬ (-1152921504606846976 ≤ n ∧ n ≤ 1152921504606846976) ∧ e = 2 ∧ a = 0) ∨ ((-1152921504606846976 ≤ n ∧ n ≤ 1152921504606846976) ∧ e = 0 ∧ lL M' R a = some n ∧ dH a M'.pl = true)) := by
 obtain ⟨a, e, h', M', e1, W', G', U', hA⟩ := K.W.number K.G K.rk room hm n hk
 cases hA with
 | out h1 h2 =>
  subst h2
  exact ⟨0, 2, h', M', e1, ⟨W', G', K.sy, K.r0, K.rk⟩, U', Stay.refl _ _ _ _, .inl ⟨h1, rfl, rfl⟩⟩
 | small a h1 h2 h3 h4 =>
  subst h4
  refine ⟨a, 0, h', M', e1, ⟨W', G', K.sy, K.r0, K.rk⟩, U', Stay.refl _ _ _ _, .inr ⟨by omega, rfl, bGd h2 h3, ?_⟩⟩
  unfold dH
  split <;> first | rfl | (rw [h2]; rfl)
 | big h1 h2 g =>
  have hc : bL (R.getD 10 0) M.pl ≠ 0 := K.rk 8 (by omega)
  have st := g.stay K.G R es (fun CL I => I.newK (i := 8) (.inr (.inr ⟨rfl, rfl⟩)) (by simp) (fun q => by cases q))
  have ha : bL (.ofNat (M.fin * 2)) M'.pl = M.fin := by rw [g.pl]; exact aJf K.G.lo (by have := K.G.le; have := K.G.hi; omega)
  have h0 := K.G.lo
  have hs : cW (.ofNat (M.fin * 2)) = false := by
   rw [jK]
   refine decide_eq_false fun q => ?_
   have q1 := q.1
   simp at q1
   try omega
  refine ⟨_, 0, h', M', e1, g.wk K W' hc (by omega) (by simp) (by simp; omega) hm, U', st, .inr ⟨h1, rfl, ?_, rK (by rw [ha]; omega)⟩⟩
  unfold lL
  have hh : cM M' (.ofNat (M.fin * 2)) = 5 := by unfold cM; rw [ha, g.hd]; rfl
  rw [if_neg (by rw [hs]; simp), if_pos ⟨⟨by rw [ha]; omega, by unfold gL; rw [ha, g.cl]⟩, by rw [hh]⟩]
  unfold lR
  rw [ha, hh, if_pos ⟨by omega, by omega⟩]
  have := g.new 0 n rfl
  rw [Nat.add_zero] at this ⊢
  all_goals rw [this]
theorem Wd.notMay (W : Wd h M R es) {b : Pos} (hb : h.bl.get b = some (.row .ex [.p (aQ 7) 0])) (v : Int) (n : Nat) : dJ (n + 1) 84 [.i .i64 v, .p b 0] h = some (.b (!(dH v M.pl)), h) := by
 rw [oZ 84 rfl, cQa]
 unfold s84
 have l : aA (.p b 0) h = some (.p (aQ 7) 0, h) := by simp only [aA, cellD, rowOf, hb, List.getElem?_cons_zero, DV.one, if_true]
 simp only [g0, g1, l, aT, fD, nW, W.l00, W.may, iI]
theorem aMm {l : List Int} {p : Int → Bool} {i : Nat} {v : Int} (h : l[i]? = some v) : (l.drop i).any p = (p v || (l.drop (i + 1)).any p) := by
 have hi : i < l.length := by
  rcases Nat.lt_or_ge i l.length with q | q
  ·exact q
  ·rw [List.getElem?_eq_none q] at h; cases h
 rw [List.drop_eq_getElem_cons hi, List.any_cons]
 rw [List.getElem?_eq_getElem hi] at h
 cases h
 rfl
theorem Wd.find (W : Wd h M R es) {x : DV} {l : List Int} (S : SlI x l h) {b : Pos} (hb : h.bl.get b = some (.row .ex [.p (aQ 7) 0])) {n : Nat} (hl : l.length ≤ 256) : ∀ (k i m : Nat), k + i = l.length → k < m →
  ∃ r : Int, iO (dJ (n + 1)) (n + 1) m x (.f 84 [] [.p b 0]) (iD l.length) (.i .i64 (Int.ofNat i)) h = some (iD r, h) ∧ (decide (r ≥ Int.ofNat 0) = (l.drop i).any fun v => !(dH v M.pl)) := by
 intro k
 induction k with
 | zero =>
  intro i m he hm
  obtain ⟨m, rfl⟩ : ∃ m', m = m' + 1 := ⟨m - 1, by omega⟩
  refine ⟨-1, ?_, ?_⟩
  ·show gT (dJ (n + 1)) (n + 1) (iO (dJ (n + 1)) (n + 1) m) _ _ _ _ h = _
   unfold gT
   have d : decide (Int.ofNat i < (l.length : Int)) = false := decide_eq_false (by simp; omega)
   simp only [cN, d, aT, bN]
   rfl
  ·rw [List.drop_eq_nil_of_le (by omega)]
   rfl
 | succ k ih =>
  intro i m he hm
  obtain ⟨m, rfl⟩ : ∃ m', m = m' + 1 := ⟨m - 1, by omega⟩
  have hi : i < l.length := by omega
  have hv : l[i]? = some l[i] := List.getElem?_eq_getElem hi
  obtain ⟨a, e1, e2⟩ := S.at hv
  obtain ⟨r, q1, q2⟩ := ih (i + 1) m (by omega) (by omega)
  have d : decide (Int.ofNat i < (l.length : Int)) = true := decide_eq_true (by simp; omega)
  have hc : cX CF (dJ (n + 1)) (.f 84 [] [.p b 0]) [iD l[i]] h = some (.b (!(dH l[i] M.pl)), h) := by
   rw [pcf rfl]
   exact W.notMay hb l[i] n
  have ha : aD .add (.i .i64 (Int.ofNat i)) (.i .i64 (Int.ofNat 1)) h = some (.i .i64 (Int.ofNat (i + 1)), h) := iF i 1 h (by omega)
  rw [aMm hv]
  cases hmay : dH l[i] M.pl with
  | false =>
   refine ⟨Int.ofNat i, ?_, by simp⟩
   show gT (dJ (n + 1)) (n + 1) (iO (dJ (n + 1)) (n + 1) m) _ _ _ _ h = _
   unfold gT
   rw [hmay] at hc
   simp only [cN, d, aT, bP, e1, e2, hc, Bool.not_false]
  | true =>
   refine ⟨r, ?_, by rw [q2]; rfl⟩
   show gT (dJ (n + 1)) (n + 1) (iO (dJ (n + 1)) (n + 1) m) _ _ _ _ h = _
   unfold gT
   rw [hmay] at hc
   simp only [cN, d, aT, bP, e1, e2, hc, Bool.not_true, bN, ha]
   exact q1
theorem Wd.contains (W : Wd h M R es) {x : DV} {l : List Int} (S : SlI x l h) {b : Pos} (hb : h.bl.get b = some (.row .ex [.p (aQ 7) 0])) (hl : l.length ≤ 256) {n : Nat} (hn : 256 < n) :
  dJ (n + 3) 52 [x, .f 84 [] [.p b 0]] h = some (.b (l.any fun v => !(dH v M.pl)), h) := by
 rw [oZ 52 rfl, bSb]
 unfold s52
 obtain ⟨r, q1, q2⟩ := W.find S hb (n := n) hl l.length 0 (n + 1) (by omega) (by omega)
 have e : dJ (n + 2) 89 [x, .f 84 [] [.p b 0]] h = some (iD r, h) := by
  rw [oZ 89 rfl, bWp]
  unfold s89 aLq aKt bAd
  simp only [g0, g1, S.len (h' := h), aT]
  exact q1
 simp only [g0, g1, e, aT, jW, q2, List.drop_zero]
end
end Go.Dd

namespace Go.Dd
open Go.Proofs
theorem cAf (b : Pos) (o : Nat) (h : Hp) : bG (some (.p b o, h)) (.p b o) = true := by
 unfold bG
 simp [DV.beq]
section
variable {h : Hp} {M : MemV} {R : List Int} {es : List (DV × DV)}
theorem Wk.array (K : Wk h M R es) {x : DV} {l : List Int} (S : SlI x l h) (h256 : l.length ≤ 256) (room : M.fin + l.length + 3 ≤ M.n) (hm : M.made < 899999) {n : Nat} (hn : 256 < n) :
  ∃ a e h' M', dJ (n + 4) 46 [.p (aQ 7) 0, x] h = some (.t [iD a, iD e], h') ∧ Wk h' M' R es ∧ Up h h' ∧
   ((¬ (l.length ≤ 250 ∧ ∀ v ∈ l, dH v M.pl = true) ∧ e = 1 ∧ a = 0 ∧ M' = M) ∨ ((l.length ≤ 250 ∧ ∀ v ∈ l, dH v M.pl = true) ∧ e = 0 ∧ a = .ofNat (M.fin * 2) ∧ Grown M M' 0 (R.getD 11 0) l)) := by
 rw [oZ 46 rfl, cQc]
 unfold s46
 obtain ⟨U1, W1⟩ := K.W.new (.row .ex [.p (aQ 7) 0])
 obtain ⟨h1, hh1⟩ : ∃ h1 : Hp, (⟨h.next.succ, Tr.set (.row .ex [.p (aQ 7) 0]) h.next h.bl⟩ : Hp) = h1 := ⟨_, rfl⟩
 rw [hh1] at U1 W1
 have eb : bS (.p (aQ 7) 0) h = some (.p h.next 0, h1) := by rw [← hh1]; rfl
 have hb : h1.bl.get h.next = some (.row .ex [.p (aQ 7) 0]) := by rw [← hh1]; exact dQb _ _ _
 have S1 := S.up U1
 have K1 : Wk h1 M R es := ⟨W1, K.G, K.sy, K.r0, K.rk⟩
 have ld : aA (.p h.next 0) h1 = some (.p (aQ 7) 0, h1) := by simp only [aA, cellD, rowOf, hb, List.getElem?_cons_zero, DV.one, if_true]
 have el : ∀ h, bZ x h = some (iD l.length, h) := fun h => S.len
 by_cases c1 : l.length > 250
 ·have d1 : decide ((l.length : Int) > Int.ofNat 250) = true := decide_eq_true (by simp; omega)
  refine ⟨0, 1, h1, M, ?_, K1, U1, .inl ⟨fun q => by omega, rfl, rfl, rfl⟩⟩
  simp only [g0, g1, eb, aT, el, fU, d1, fS, cE, bP]
  rfl
 ·have d1 : decide ((l.length : Int) > Int.ofNat 250) = false := decide_eq_false (by simp; omega)
  have hc := W1.contains S1 hb h256 hn
  cases ha : l.any (fun v => !(dH v M.pl)) with
  | true =>
   rw [ha] at hc
   refine ⟨0, 1, h1, M, ?_, K1, U1, .inl ⟨fun q => ?_, rfl, rfl, rfl⟩⟩
   ·simp only [g0, g1, eb, aT, el, fU, d1, gI, hc, bX, bP]
    rfl
   ·obtain ⟨v, hv, hv2⟩ := List.any_eq_true.1 ha
    rw [q.2 v hv] at hv2
    cases hv2
  | false =>
   rw [ha] at hc
   have hall : ∀ v ∈ l, dH v M.pl = true := fun v hv => by
    cases hq : dH v M.pl with
    | true => rfl
    | false =>
     have : l.any (fun v => !(dH v M.pl)) = true := List.any_eq_true.2 ⟨v, hv, by rw [hq]; rfl⟩
     rw [this] at ha
     cases ha
   have hk : M.fin < 16000000 := by have := K.G.le; have := K.G.hi; omega
   obtain ⟨h2, M2, e2, W2, U2, _, g2⟩ := W1.make61 K.G (K.rk 9 (by omega)) (f := 0) (by omega) S1 (by omega) (by omega) (fun v hv => vB hk (hall v hv)) (n := n + 2) (by omega)
   have kn : dJ (n + 3) 30 [.p (aQ 7) 0, .i .i64 (Int.ofNat 9)] h1 = some (iD (R.getD 11 0), h1) := W1.known (show 9 < 16 by omega) (n + 2)
   refine ⟨.ofNat (M.fin * 2), 0, h2, M2, ?_, g2.wk K1 W2 (K.rk 9 (by omega)) (by omega) (by omega) (by omega) hm, U1.trans U2, .inr ⟨⟨by omega, hall⟩, rfl, rfl, g2⟩⟩
   simp only [g0, g1, eb, aT, el, fU, d1, gI, hc, bX, bN, ld, kn, cAf, Bool.and_self, cond_true]
   rw [show (2 + 9 : Nat) = 11 from rfl] at e2
   show cnd true _ = _
   simp only [cnd, e2, aT, nY, nU]
   rfl
end
end Go.Dd

namespace Go.Dd
open Go.Proofs
def Wc (h : Hp) (cs : List (DV × DV)) : Prop := h.bl.get (aQ 6) = some (.mp cs)
noncomputable def aYm (cs : List (DV × DV)) (s : List Nat) : Int := match dI .string (.s s) cs with
 | some (some (.i .i64 v)) => v
 | _ => 0
section
variable {h : Hp} {M : MemV} {R : List Int} {es cs : List (DV × DV)} {CL : List Nat} {z : Prop}
theorem Wc.up {h' : Hp} (c : Wc h cs) (W : Wd h M R es) (u : Up h h') : Wc h' cs := by
 unfold Wc
 rw [u.get (aQ 6) (.inr (by rw [pn6]; exact Nat.le_refl _)) (by have := W.nx; rw [pn6]; omega)]
 exact c
theorem Wd.classOfName (W : Wd h M R es) (c : Wc h cs) (hcs : ∀ e ∈ cs, ∃ (k : List Nat) (x : Int), e = (.s k, iD x)) (s : List Nat) (n : Nat) : dJ (n + 1) 45 [.p (aQ 7) 0, .s s] h = some (iD (aYm cs s), h) := by
 rw [oZ 45 rfl, cPv]
 unfold s45
 have l3 : aA (.p (aQ 7) (0 + 3)) h = some (.m (aQ 6), h) := by
  simp only [aA, cellD, rowOf, W.w, Nat.zero_add, List.getElem?_cons_succ, List.getElem?_cons_zero, DV.one, if_true]
 have lk : dP .string (.i .i64 (Int.ofNat 0)) false (.m (aQ 6)) (.s s) h = some (iD (aYm cs s), h) := by
  have hc : h.bl.get (aQ 6) = some (.mp cs) := c
  unfold aYm
  rcases aYh s hcs with ⟨x, f1, f2⟩ | ⟨f1, f2⟩
  ·simp only [dP, fK, hc, f1, cond_false]
  ·simp only [dP, fK, hc, f1, cond_false]
   rfl
 simp only [g0, g1, fD, nW, aT, l3, lk]
theorem GI.clsAt (I : GI M R CL z) (G : Good M) {c : Int} (hc : isC M R c = true) : bL c M.pl ≠ 0 ∧ bL c M.pl ∈ CL ∧ ClI M R (bL c M.pl) := by
 have q := of_decide_eq_true hc
 obtain ⟨_, O, _, _⟩ := I.headOb G q.1
 have hm := O.cls q.2
 exact ⟨q.1, hm, I.cl _ hm⟩
theorem GI.clsGet (I : GI M R CL z) (G : Good M) {c : Int} (hc : isC M R c = true) {i : Nat} (hi : i < 6) : lR M c i = M.t.get (bL c M.pl + 3 + i) := by
 obtain ⟨h1, h2, C⟩ := I.clsAt G hc
 unfold lR cM
 rw [C.hd]
 exact if_pos ⟨h1, by show i < 24 / 4; omega⟩
theorem GI.kindC (I : GI M R CL z) (G : Good M) {c : Int} (hc : isC M R c = true) : ∃ k : Nat, k ≤ 3 ∧ iV M R c = k ∧ M.t.get (bL c M.pl + 8) = .ofNat (2 * k + 1) := by
 obtain ⟨h1, h2, C⟩ := I.clsAt G hc
 obtain ⟨k, q1, q2⟩ := C.kd
 refine ⟨k, q1, ?_, q2⟩
 unfold iV
 rw [if_pos hc, I.clsGet G hc (by omega), show bL c M.pl + 3 + 5 = bL c M.pl + 8 by omega, q2]
 unfold bGl
 have hs : cW (.ofNat (2 * k + 1)) = true := by
  rw [jK]
  refine decide_eq_true ?_
  have : (Int.ofNat (2 * k + 1)) = 2 * (k : Int) + 1 := by simp
  omega
 rw [if_pos hs]
 show Int.ofNat (Nat.div (2 * k + 1) 2) = _
 have : Nat.div (2 * k + 1) 2 = k := by show (2 * k + 1) / 2 = k; omega
 rw [this]
 rfl
end
end Go.Dd

namespace Go.Dd
open Go.Proofs
structure Wv (k : Nat) (h : Hp) (M : MemV) (R : List Int) (es : List (DV × DV)) (z : Prop := True) : Prop where
 K : Wk h M R es
 I : GI M R CLW z
 c : Wc h csW
 n : M.n = 30000
 fin : M.fin + k ≤ 30000
 md : M.made + k ≤ 700000
theorem Stay.mono {a b : Nat} {M M' : MemV} {R R' : List Int} {es es' : List (DV × DV)} (h : Stay a M M' R R' es es') (hab : a ≤ b) : Stay b M M' R R' es es' :=
 ⟨h.n, Nat.le_trans h.fin (by omega), Nat.le_trans h.made (by omega), h.lo, h.tx, h.at', h.r, h.fd, h.gi, h.old⟩
section
variable {h h' : Hp} {M M' : MemV} {R R' : List Int} {es es' : List (DV × DV)} {z : Prop}
theorem Wv.stay {k j : Nat} (V : Wv (j + k) h M R es) (K' : Wk h' M' R' es') (u : Up h h') (S : Stay j M M' R R' es es') : Wv k h' M' R' es' := by
 have h1 := S.n
 have h2 := S.fin
 have h3 := S.made
 have h4 := V.n
 have h5 := V.fin
 have h6 := V.md
 exact ⟨K', S.gi _ V.I, V.c.up V.K.W u, by omega, by omega, by omega⟩
theorem Wv.less {k j : Nat} (V : Wv j h M R es z) (hk : k ≤ j) : Wv k h M R es z := ⟨V.K, V.I, V.c, V.n, by have := V.fin; omega, by have := V.md; omega⟩
theorem Wk.up (K : Wk h M R es) (W' : Wd h' M R es) : Wk h' M R es := ⟨W', K.G, K.sy, K.r0, K.rk⟩
theorem Wv.up {k : Nat} (V : Wv k h M R es z) (W' : Wd h' M R es) (u : Up h h') : Wv k h' M R es z := ⟨V.K.up W', V.I, V.c.up V.K.W u, V.n, V.fin, V.md⟩
theorem Wv.new {k : Nat} (V : Wv k h M R es z) (o : Ob) : Up h ⟨h.next.succ, Tr.set o h.next h.bl⟩ ∧ Wv k ⟨h.next.succ, Tr.set o h.next h.bl⟩ M R es z := by
 obtain ⟨u, W⟩ := V.K.W.new o
 exact ⟨u, V.up W u⟩
theorem cYb : ∀ e ∈ csW, ∃ (k : List Nat) (x : Int), e = (.s k, iD x) := fun e he => by
 obtain ⟨x, _, h2⟩ := vX (clF ++ clW) e he
 exact ⟨x.1, _, h2⟩
theorem dEc : aYm csW [80, 111, 105, 110, 116] = 8714 := by kernel_rfl
theorem Wv.point {k : Nat} (V : Wv k h M R es z) (n : Nat) : dJ (n + 1) 45 [.p (aQ 7) 0, .s [80, 111, 105, 110, 116]] h = some (iD 8714, h) := by
 rw [V.K.W.classOfName V.c cYb, dEc]
theorem cOn : gY 8714 = 4357 := by kernel_rfl
theorem Wv.ptAt {k : Nat} (V : Wv k h M R es z) : bL 8714 M.pl ≠ 0 := by
 rw [atN_pos, cOn]
 exact ⟨by decide, (V.I.cl 4357 (by decide)).pl⟩
theorem Wv.ptNew {k : Nat} (V : Wv k h M R es) : ∀ CL, GI M R CL → NewI M R CL 0 8714 (List.replicate 2 0) := fun CL I => by
 have r3 := I.rk 1 (by omega)
 have r12 := I.rk 10 (by omega)
 have r13 := I.rk 11 (by omega)
 refine ⟨by decide, by omega, fun _ => rfl, fun q => ?_, fun q => (by cases q), fun q => ?_, fun c hc _ _ => ⟨rfl, fun v hv => List.eq_of_mem_replicate hv⟩⟩
 ·rcases q with q | q
  ·rw [r12] at q; cases q
  ·rw [r13] at q; cases q
 ·rw [r3] at q; cases q
end
end Go.Dd

namespace Go.Dd
open Go.Proofs
theorem oG {a b : Int} (h : a ≠ b) : (a == b) = false := by simpa using h
theorem aLi (a : Int) (h : Hp) : aD .rem (.i .i64 a) (.i .i64 (Int.ofNat 10)) h = some (.i .i64 (a.tmod 10), h) := by simp only [aD, if_true, fB]; rfl
theorem cJc (a b : Int) (h : Hp) (hr : -9223372036854775808 ≤ a * b ∧ a * b ≤ 9223372036854775807) : aD .mul (.i .i64 a) (.i .i64 b) h = some (.i .i64 (a * b), h) := by simp only [aD, if_true, fB, gN _ hr]
theorem cMe (a : Nat) (ha : a < 1000) (h : Hp) : aD .quo (.i .i64 (a : Int)) (.i .i64 (Int.ofNat 2)) h = some (.i .i64 (Int.ofNat (a / 2)), h) := by
 have e : (a : Int).tdiv (Int.ofNat 2) = Int.ofNat (a / 2) := rfl
 simp only [aD, if_true, fB, e]
 rw [if_neg (by decide), gN _ (by simp; omega)]
theorem bPb (s : List Nat) (k : Nat) (hk : k ≤ s.length) (h : Hp) : fE (.s s) none (some (.i .i64 (Int.ofNat k))) h = some (.s (s.take k), h) := by
 have e : hiD (some (.i .i64 (Int.ofNat k))) s.length s.length = some k := by
  show (if (0 : Int) ≤ Int.ofNat k ∧ Int.ofNat k ≤ (s.length : Int) then some (Int.ofNat k).toNat else none) = _
  rw [if_pos ⟨by simp, by simpa using hk⟩]
  rfl
 simp only [fE, e]
 rfl
theorem cSx (l : List Int) : ∀ v ∈ l.map iD, v.one = true := by
 intro v hv
 obtain ⟨c, _, rfl⟩ := List.mem_map.1 hv
 rfl
theorem cRk {x : DV} {l : List Int} {lo : Nat} {h : Hp} (hlo : 1031 ≤ lo) (S : GrS x (l.map iD) lo h) : SlI x l h := by
 rcases S with ⟨rfl, e⟩ | ⟨b, e, hb, h2, h3⟩
 ·refine .inl ⟨rfl, ?_⟩
  simpa using e
 ·exact .inr ⟨b, l.length, .gr 1, by rw [e]; simp, hb, .inr (by omega), h3⟩
theorem aMk {rec : FuncId → List DV → Hp → aJ} {n lo : Nat} {x0 : DV} {N : Int} {c : Nat} (hN : N.tmod 10 = Int.ofNat c) (hc : c ≤ 9) : ∀ (r m : Nat) (l : List Int) (x : DV) (h : Hp), GrS x (l.map iD) lo h → lo ≤ h.next.toNat → l.length + r = c → r < m →
  ∃ (x' : DV) (h' : Hp) (l' : List Int), kY rec n m x0 (iD N) x (.i .i64 (Int.ofNat l.length)) h = dS rec n x0 x' h' ∧ GrS x' (l'.map iD) lo h' ∧ Lo lo h h' ∧ l'.length = c
 | 0, m + 1, l, x, h, S, hlo, he, hm => by
  refine ⟨x, h, l, ?_, S, Lo.refl lo h, by omega⟩
  show lK rec n (kY rec n m) _ _ _ _ h = _
  unfold lK
  have hl : decide (Int.ofNat l.length < Int.ofNat c) = false := by simp; omega
  simp only [iD, aLi, hN, cN, aT, hl, bN]
 | r + 1, m + 1, l, x, h, S, hlo, he, hm => by
  obtain ⟨y, g, e1, x', h', e2, S', L'⟩ := S.app hlo (cSx l) (z := .i .i64 (Int.ofNat 0)) (v := iD (Int.ofNat 2 * Int.ofNat l.length + Int.ofNat 1)) rfl rfl (bytes := 8) (by simp; unfold lX; omega)
  have S2 : GrS x' ((l ++ [Int.ofNat 2 * Int.ofNat l.length + Int.ofNat 1]).map iD) lo h' := by rw [List.map_append]; exact S'
  obtain ⟨x2, h2, l2, e3, S3, L3, hl3⟩ := aMk (rec := rec) (n := n) (x0 := x0) hN hc r m (l ++ [Int.ofNat 2 * Int.ofNat l.length + Int.ofNat 1]) x' h' S2 (Nat.le_trans hlo L'.next) (by simp; omega) (by omega)
  refine ⟨x2, h2, l2, ?_, S3, L'.trans L3, hl3⟩
  rw [← e3]
  show lK rec n (kY rec n m) _ _ _ _ h = _
  unfold lK
  have hl1 : decide (Int.ofNat l.length < Int.ofNat c) = true := by simp; omega
  have hadd : aD .add (.i .i64 (Int.ofNat l.length)) (.i .i64 (Int.ofNat 1)) h' = some (.i .i64 (Int.ofNat (l ++ [Int.ofNat 2 * Int.ofNat l.length + Int.ofNat 1]).length), h') := by
   rw [jO _ _ _ (by simp; omega)]
   simp
  simp only [iD] at e1 e2 ⊢
  simp only [aLi, hN, cN, aT, hl1, bP, cJc (Int.ofNat 2) (Int.ofNat l.length) h (by simp; omega), jO (Int.ofNat 2 * Int.ofNat l.length) (Int.ofNat 1) h (by simp; omega), e1, e2, hadd]
section
variable {h : Hp} {M : MemV} {R : List Int} {es : List (DV × DV)}
noncomputable def knW (R : List Int) (i : Int) : Int := if 0 ≤ i ∧ i < 16 then R.getD (2 + i.toNat) 0 else 0
theorem Wd.knownA (W : Wd h M R es) (i : Int) (n : Nat) : dJ (n + 1) 30 [.p (aQ 7) 0, .i .i64 i] h = some (iD (knW R i), h) := by
 unfold knW
 by_cases hi : 0 ≤ i ∧ i < 16
 ·rw [if_pos hi]
  obtain ⟨j, rfl⟩ : ∃ j : Nat, i = Int.ofNat j := ⟨i.toNat, by simp; omega⟩
  exact W.known (by simp at hi; omega) n
 ·rw [if_neg hi, oZ 30 rfl, bWs]
  unfold s30
  by_cases h1 : i < 0
  ·have d1 : decide (i < Int.ofNat 0) = true := decide_eq_true (by simpa using h1)
   simp only [g0, g1, cN, d1, aT, fS, cE, bP]
   rfl
  ·have d1 : decide (i < Int.ofNat 0) = false := decide_eq_false (by simpa using h1)
   have d2 : decide (i ≥ Int.ofNat 16) = true := decide_eq_true (by simp; omega)
   simp only [g0, g1, cN, d1, aT, gI, jW, d2, bX, bP]
   rfl
def MadeP (k : Nat) (h : Hp) (M : MemV) (R : List Int) (es : List (DV × DV)) (r : aJ) : Prop :=
 ∃ v h' M' R' es', r = some (iD v, h') ∧ Wv k h' M' R' es' ∧ Up h h' ∧ Stay 260 M M' R R' es es'
theorem MadeP.same {k : Nat} (V : Wv (260 + k) h M R es) (v : Int) : MadeP k h M R es (some (iD v, h)) :=
 ⟨v, h, M, R, es, rfl, V.less (by omega), Up.refl h, Stay.refl _ _ _ _⟩
theorem bVb {k : Nat} (V : Wv (260 + k) h M R es) (n : Int) {m : Nat} (hm : 300 < m) : ∃ a e h' M', dJ (m + 2) 42 [.p (aQ 7) 0, .i .i64 n] h = some (.t [iD a, iD e], h') ∧ Wv k h' M' R es ∧ Up h h' ∧ Stay 260 M M' R R es es := by
 have h4 := V.n
 have h5 := V.fin
 have h6 := V.md
 obtain ⟨a, e, h', M', e1, K', U, S, _⟩ := V.K.num (by omega) (by omega) n (k := m) (by omega)
 exact ⟨a, e, h', M', e1, V.stay K' U (S.mono (by omega)), U, S.mono (by omega)⟩
theorem bRi {k : Nat} (V : Wv (260 + k) h M R es) {s : List Nat} (hs : ∀ c ∈ s, c < 256) {m : Nat} (hm : 300 < m) : ∃ a e h' M', dJ (m + 3) 43 [.p (aQ 7) 0, .s s] h = some (.t [iD a, iD e], h') ∧ Wv k h' M' R es ∧ Up h h' ∧ Stay 260 M M' R R es es := by
 have h4 := V.n
 have h5 := V.fin
 have h6 := V.md
 obtain ⟨a, e, h', M', e1, K', U, S, _⟩ := V.K.string hs (by omega) (by omega) (n := m) hm
 exact ⟨a, e, h', M', e1, V.stay K' U S, U, S⟩
theorem bJw {k : Nat} (V : Wv (260 + k) h M R es) {s : List Nat} (hs : ∀ c ∈ s, c < 256) {m : Nat} (hm : 300 < m) : ∃ a e h' M' R' es', dJ (m + 3) 44 [.p (aQ 7) 0, .s s] h = some (.t [iD a, iD e], h') ∧ Wv k h' M' R' es' ∧ Up h h' ∧ Stay 260 M M' R R' es es' := by
 have h4 := V.n
 have h5 := V.fin
 have h6 := V.md
 obtain ⟨a, e, h', M', R', es', e1, K', U, S, _⟩ := V.K.symbol hs (by omega) (by omega) (n := m) hm
 exact ⟨a, e, h', M', R', es', e1, V.stay K' U (S.mono (by omega)), U, S.mono (by omega)⟩
theorem bMw {k : Nat} (V : Wv (260 + k) h M R es) {x : DV} {l : List Int} (S : SlI x l h) (hl : l.length ≤ 9) {m : Nat} (hm : 300 < m) : ∃ a e h' M', dJ (m + 4) 46 [.p (aQ 7) 0, x] h = some (.t [iD a, iD e], h') ∧ Wv k h' M' R es ∧ Up h h' ∧ Stay 260 M M' R R es es := by
 have h4 := V.n
 have h5 := V.fin
 have h6 := V.md
 obtain ⟨a, e, h', M', e1, K', U, A⟩ := V.K.array S (by omega) (by omega) (by omega) (n := m) (by omega)
 have S' : Stay 260 M M' R R es es := by
  rcases A with ⟨_, _, _, rfl⟩ | ⟨_, _, _, g⟩
  ·exact Stay.refl _ _ _ _
  ·exact (g.stay V.K.G R es fun CL I => I.newK (i := 9) (.inl ⟨rfl, rfl⟩) (by omega) (fun q => by cases q)).mono (by omega)
 exact ⟨a, e, h', M', e1, V.stay K' U S', U, S'⟩
theorem cDd {k : Nat} (V : Wv (260 + k) h M R es) : ∃ a e h' M', iS [.p (aQ 3) 0, iD 8714, .i .i64 (.ofNat 0), .i .i64 (.ofNat 2)] h = some (.t [iD a, iD e], h') ∧ Wv k h' M' R es ∧ Up h h' ∧ Stay 260 M M' R R es es := by
 have h4 := V.n
 have h5 := V.fin
 have h6 := V.md
 obtain ⟨h', M', e1, K', U, g⟩ := V.K.make0 V.ptAt (f := 0) (c := 2) (by omega) (by omega) (by omega) (by omega)
 have S' : Stay 260 M M' R R es es := (g.stay V.K.G R es V.ptNew).mono (by simp)
 exact ⟨_, _, h', M', e1, V.stay K' U S', U, S'⟩
end
end Go.Dd

namespace Go.Dd
open Go.Proofs
section
variable {h : Hp} {M : MemV} {R : List Int} {es : List (DV × DV)} {k m : Nat} {b : Pos} {kd N : Int} {s0 s : List Nat}
theorem lZ {b : Pos} {kd : Kind} {l : List DV} {h : Hp} (hb : h.bl.get b = some (.row kd l)) {i : Nat} {v : DV} (hi : l[i]? = some v) (hv : v.one = true) : aA (.p b i) h = some (v, h) := by
 simp only [aA, cellD, rowOf, hb, hi, hv, if_true]
def Tg (h : Hp) (b : Pos) (kd N : Int) (s : List Nat) : Prop := h.bl.get b = some (.row .ex [iD kd, iD N, .s s])
theorem Tg.l0 (T : Tg h b kd N s) : aA (.p b (0 + 0)) h = some (iD kd, h) := lZ (i := 0 + 0) T rfl rfl
theorem Tg.l1 (T : Tg h b kd N s) : aA (.p b (0 + 1)) h = some (iD N, h) := lZ (i := 0 + 1) T rfl rfl
theorem Tg.l2 (T : Tg h b kd N s) : aA (.p b (0 + 2)) h = some (.s s, h) := lZ (i := 0 + 2) T rfl rfl
theorem dPc (a b : List Nat) (h : Hp) (hl : a.length + b.length < 100000) : fM .add (.s a) (.s b) h = some (.s (a ++ b), h) := by
 have : ¬ ((a.length + b.length : Nat) : Int) > IntKind.i64.max := by
  show ¬ ((a.length + b.length : Nat) : Int) > 9223372036854775807
  omega
 simp only [fM, aNw, if_neg this]
theorem cFc (V : Wv (260 + k) h M R es) (hs : ∀ c ∈ s, c < 256) (hl : s.length ≤ 250) (hm : 300 < m) : MadeP k h M R es (aFf (dJ (m + 5)) (m + 5) (.p (aQ 7) 0) (.s s) h) := by
 have fin : ∀ t : List Nat, (∀ c ∈ t, c < 256) → t.length ≤ 250 → MadeP k h M R es (qO (dJ (m + 5)) (m + 5) (.p (aQ 7) 0) (.s t) h) := fun t ht hlt => by
  obtain ⟨a, e, h', M', R', es', e1, V', U, S⟩ := bJw V (s := [115] ++ t.take (t.length / 2)) (fun c hc => by
   simp only [List.mem_append, List.mem_singleton] at hc
   rcases hc with rfl | hc
   ·decide
   ·exact ht c (List.mem_of_mem_take hc)) (m := m + 2) (by omega)
  refine ⟨a, h', M', R', es', ?_, V', U, S⟩
  unfold qO
  simp only [cPp, aT, cMe t.length (by omega) h, bPb t (t.length / 2) (by omega) h, dPc [115] (t.take (t.length / 2)) h (by rw [List.length_take]; simp; omega), e1, nY, nU]
 unfold aFf
 by_cases c1 : (s.length : Int) > Int.ofNat 60
 ·simp only [cPp, aT, fU, decide_eq_true c1, bP, bPb s 60 (by simp at c1; omega) h]
  exact fin _ (fun c hc => hs c (List.mem_of_mem_take hc)) (by rw [List.length_take]; omega)
 ·simp only [cPp, aT, fU, decide_eq_false c1, bN]
  exact fin _ hs hl
theorem cLt (V : Wv (260 + k) h M R es) (T : Tg h b kd N s) (hN : -9223372036854775808 ≤ N ∧ N ≤ 9223372036854775807) (hm : 300 < m) : MadeP k h M R es (aIa (dJ (m + 5)) (m + 5) (.p (aQ 7) 0) (.p b 0) h) := by
 have fin : ∀ n : Int, 0 ≤ n → MadeP k h M R es (rN (dJ (m + 5)) (m + 5) (.p (aQ 7) 0) (iD n) h) := fun n hn => by
  obtain ⟨j, rfl⟩ : ∃ j : Nat, n = Int.ofNat j := ⟨n.toNat, by simp; omega⟩
  have nx := V.K.W.nx
  obtain ⟨x', h1, l', e1, S1, L1, hl1⟩ := aMk (rec := dJ (m + 5)) (n := m + 5) (lo := h.next.toNat) (x0 := .p (aQ 7) 0) (N := Int.ofNat j) (c := j % 10) rfl (by omega) (j % 10) (m + 5) [] .l0 h (.inl ⟨rfl, rfl⟩) (Nat.le_refl _) (by simp) (by omega)
  have V1 := V.up (V.K.W.lo L1) L1.up
  obtain ⟨a, e, h', M', e2, V', U, S⟩ := bMw V1 (cRk nx S1) (by omega) (m := m + 1) (by omega)
  refine ⟨a, h', M', R, es, ?_, V', L1.up.trans U, S⟩
  unfold rN aJu aKm aOo
  refine Eq.trans e1 ?_
  unfold dS
  simp only [e2, aT, nY, nU]
 unfold aIa aIk
 simp only [nW, T.l1, aT]
 by_cases c1 : N < Int.ofNat 0
 ·have c2 : N < 0 := c1
  have en : ∀ h, gX .neg (.i .i64 (N + Int.ofNat 1)) h = some (.i .i64 (-(N + Int.ofNat 1)), h) := fun h => by
   have : IntKind.i64.wrap (0 - (N + Int.ofNat 1)) = 0 - (N + Int.ofNat 1) := gN _ (by simp; omega)
   simp only [gX, this]
   rw [Int.zero_sub]
  simp only [iD, cN, decide_eq_true c1, aT, bP, jO N (Int.ofNat 1) h (by simp; omega), en]
  exact fin _ (by simp; omega)
 ·have c2 : ¬ N < 0 := c1
  simp only [iD, cN, decide_eq_false c1, aT, bN]
  exact fin _ (by omega)
theorem cPy (V : Wv (260 + k) h M R es) (T : Tg h b kd N s0) (hN : -9223372036854775808 ≤ N ∧ N ≤ 9223372036854775807) (hs : ∀ c ∈ s, c < 256) (hl : s.length ≤ 250) (hm : 300 < m) :
  MadeP k h M R es (aAv (dJ (m + 5)) (m + 5) (.p (aQ 7) 0) (.p b 0) (.s s) h) := by
 unfold aAv aZj
 simp only [nW, T.l0, aT]
 by_cases c0 : kd = 0
 ·subst c0
  obtain ⟨a, e, h', M', e1, V', U, S⟩ := bVb V N (m := m + 3) (by omega)
  refine ⟨a, h', M', R, es, ?_, V', U, S⟩
  unfold aNj
  simp only [iD, cJ, beq_self_eq_true, aT, bP, show ((0 : Int) == Int.ofNat 0) = true from rfl, nW]
  rw [T.l1]
  simp only [aT]
  rw [e1]
  simp only [aT, nY, nU, iD]
 have d0 : (kd == Int.ofNat 0) = false := oG c0
 unfold aNj bNn
 by_cases c1 : kd = 1
 ·subst c1
  obtain ⟨a, e, h', M', e1, V', U, S⟩ := bRi V hs (m := m + 2) (by omega)
  refine ⟨a, h', M', R, es, ?_, V', U, S⟩
  unfold aMf
  simp only [iD, cJ, aT, bN, bP, d0, show ((1 : Int) == Int.ofNat 1) = true from rfl]
  rw [e1]
  simp only [aT, nY, nU, iD]
 have d1 : (kd == Int.ofNat 1) = false := oG c1
 unfold aMf bXn
 by_cases c2 : kd = 2
 ·subst c2
  have := cFc V hs hl hm
  unfold vC
  simp only [iD, cJ, aT, bN, bP, d0, d1, show ((2 : Int) == Int.ofNat 2) = true from rfl]
  exact this
 have d2 : (kd == Int.ofNat 2) = false := oG c2
 unfold vC aPv
 by_cases c3 : kd = 3
 ·subst c3
  have := cLt V T hN hm
  unfold xF
  simp only [iD, cJ, aT, bN, bP, d0, d1, d2, show ((3 : Int) == Int.ofNat 3) = true from rfl]
  exact this
 have d3 : (kd == Int.ofNat 3) = false := oG c3
 unfold xF
 by_cases c4 : kd = 4
 ·subst c4
  obtain ⟨a, e, h', M', e1, V', U, S⟩ := cDd V
  refine ⟨a, h', M', R, es, ?_, V', U, S⟩
  have em := V.K.W.memory (m + 4)
  have ep := V.point (m + 4)
  simp only [iD, cJ, aT, bN, bP, d0, d1, d2, d3, show ((4 : Int) == Int.ofNat 4) = true from rfl, em]
  rw [ep]
  simp only [aT]
  rw [e1]
  simp only [aT, nY, nU, iD]
 have d4 : (kd == Int.ofNat 4) = false := oG c4
 by_cases c5 : kd = 5
 ·subst c5
  have ep := V.point (m + 4)
  by_cases c16 : N = 16
  ·subst c16
   have : MadeP k h M R es (some (iD 8714, h)) := .same V _
   simp only [iD, cJ, aT, bN, bP, d0, d1, d2, d3, d4, show ((5 : Int) == Int.ofNat 5) = true from rfl, nW]
   rw [T.l1]
   simp only [iD, cJ, aT, bN, bP, show ((16 : Int) == Int.ofNat 16) = true from rfl]
   rw [ep]
   exact this
  ·have : MadeP k h M R es (some (iD (knW R N), h)) := .same V _
   have ek := V.K.W.knownA N (m + 4)
   simp only [iD, cJ, aT, bN, bP, d0, d1, d2, d3, d4, show ((5 : Int) == Int.ofNat 5) = true from rfl, nW]
   have t1 : aA (.p b (0 + 1)) h = some (.i .i64 N, h) := T.l1
   simp only [t1, iD, cJ, aT, bN, bP, show (N == Int.ofNat 16) = false from oG c16]
   rw [ek]
   exact this
 have d5 : (kd == Int.ofNat 5) = false := oG c5
 have t1 : aA (.p b (0 + 1)) h = some (.i .i64 N, h) := T.l1
 by_cases c6 : kd = 6
 ·subst c6
  simp only [iD, cJ, aT, bN, bP, d0, d1, d2, d3, d4, d5, show ((6 : Int) == Int.ofNat 6) = true from rfl]
  exact .same V _
 have d6 : (kd == Int.ofNat 6) = false := oG c6
 by_cases c7 : kd = 7
 ·subst c7
  simp only [iD, cJ, aT, bN, bP, d0, d1, d2, d3, d4, d5, d6, show ((7 : Int) == Int.ofNat 7) = true from rfl]
  exact .same V _
 have d7 : (kd == Int.ofNat 7) = false := oG c7
 by_cases c8 : kd = 8
 ·subst c8
  simp only [iD, cJ, aT, bN, bP, d0, d1, d2, d3, d4, d5, d6, d7, show ((8 : Int) == Int.ofNat 8) = true from rfl]
  exact .same V _
 have d8 : (kd == Int.ofNat 8) = false := oG c8
 unfold aW
 simp only [iD, cJ, aT, bN, bP, d0, d1, d2, d3, d4, d5, d6, d7, d8, nW, t1]
 exact .same V _
theorem aDl (V : Wv (260 + k) h M R es) (kd : Int) (hN : -9223372036854775808 ≤ N ∧ N ≤ 9223372036854775807) (hs : ∀ c ∈ s, c < 256) (hm : 300 < m) :
  MadeP k h M R es (dJ (m + 6) 14 [.p (aQ 7) 0, .a [iD kd, iD N, .s s]] h) := by
 obtain ⟨U1, V1⟩ := V.new (.row .ex [iD kd, iD N, .s s])
 obtain ⟨h1, hh1⟩ : ∃ h1 : Hp, (⟨h.next.succ, Tr.set (.row .ex [iD kd, iD N, .s s]) h.next h.bl⟩ : Hp) = h1 := ⟨_, rfl⟩
 rw [hh1] at U1 V1
 have eb : bS (.a [iD kd, iD N, .s s]) h = some (.p h.next 0, h1) := by rw [← hh1]; rfl
 have T : Tg h1 h.next kd N s := by rw [← hh1]; exact dQb _ _ _
 have up : ∀ r, MadeP k h1 M R es r → MadeP k h M R es r := fun r ⟨v, h', M', R', es', e, V', U, S⟩ => ⟨v, h', M', R', es', e, V', U1.trans U, S⟩
 rw [oZ 14 rfl, cRd]
 unfold s14 aAh aVt
 simp only [g0, g1, eb, aT, nW, T.l2, cPp, fU]
 apply up
 by_cases c1 : (s.length : Int) > Int.ofNat 250
 ·simp only [decide_eq_true c1, bP, bPb s 250 (by simp at c1; omega) h1, aT]
  exact cPy V1 T hN (fun c hc => hs c (List.mem_of_mem_take hc)) (by rw [List.length_take]; omega) hm
 ·simp only [decide_eq_false c1, bN]
  exact cPy V1 T hN hs (by simp at c1; omega) hm
end
end Go.Dd

namespace Go.Dd
open Go.Proofs
def vK (n : Int) : Int :=
 if n = 11 ∨ n = 22 ∨ n = 23 ∨ n = 40 ∨ n = 41 then 0
 else if n = 1 ∨ n = 2 ∨ n = 3 ∨ n = 4 ∨ n = 5 ∨ n = 6 ∨ n = 7 ∨ n = 10 ∨ n = 20 ∨ n = 24 ∨ n = 25 ∨ n = 26 ∨ n = 50 then 1
 else if n = 21 ∨ n = 51 then 2 else -1
theorem cEs (n : Int) (m : Nat) (h : Hp) : dJ (m + 1) 39 [iD n] h = some (iD (vK n), h) := by
 rw [oZ 39 rfl, cPt]
 by_cases q : n = 11 ∨ n = 22 ∨ n = 23 ∨ n = 40 ∨ n = 41 ∨ n = 1 ∨ n = 2 ∨ n = 3 ∨ n = 4 ∨ n = 5 ∨ n = 6 ∨ n = 7 ∨ n = 10 ∨ n = 20 ∨ n = 24 ∨ n = 25 ∨ n = 26 ∨ n = 50 ∨ n = 21 ∨ n = 51
 ·rcases q with q | q | q | q | q | q | q | q | q | q | q | q | q | q | q | q | q | q | q | q <;> subst q <;> rfl
 ·have e : vK n = -1 := by
   unfold vK
   rw [if_neg (by omega), if_neg (by omega), if_neg (by omega)]
  rw [e]
  unfold s39 aYy bAw sD cAv iP bWr aMy cQ
  simp only [g0, iD, cJ, aT, oG (show n ≠ Int.ofNat 11 by simp; omega), oG (show n ≠ Int.ofNat 22 by simp; omega), oG (show n ≠ Int.ofNat 23 by simp; omega), oG (show n ≠ Int.ofNat 40 by simp; omega), oG (show n ≠ Int.ofNat 41 by simp; omega),
   oG (show n ≠ Int.ofNat 1 by simp; omega), oG (show n ≠ Int.ofNat 2 by simp; omega), oG (show n ≠ Int.ofNat 3 by simp; omega), oG (show n ≠ Int.ofNat 4 by simp; omega), oG (show n ≠ Int.ofNat 5 by simp; omega), oG (show n ≠ Int.ofNat 6 by simp; omega), oG (show n ≠ Int.ofNat 7 by simp; omega),
   oG (show n ≠ Int.ofNat 10 by simp; omega), oG (show n ≠ Int.ofNat 20 by simp; omega), oG (show n ≠ Int.ofNat 24 by simp; omega), oG (show n ≠ Int.ofNat 25 by simp; omega), oG (show n ≠ Int.ofNat 26 by simp; omega), oG (show n ≠ Int.ofNat 50 by simp; omega), oG (show n ≠ Int.ofNat 21 by simp; omega), oG (show n ≠ Int.ofNat 51 by simp; omega), bN]
  rfl
section
variable {h : Hp} {M : MemV} {R : List Int} {es : List (DV × DV)}
theorem cCq {x f : DV} {l : List Int} (S : SlI x l h) {p : Int → Bool} {n : Nat} (hc : ∀ v, cX CF (dJ n) f [iD v] h = some (.b (p v), h)) (hl : l.length ≤ 256) : ∀ (k i m : Nat), k + i = l.length → k < m →
  ∃ r : Int, iO (dJ n) n m x f (iD l.length) (.i .i64 (Int.ofNat i)) h = some (iD r, h) ∧ (decide (r ≥ Int.ofNat 0) = (l.drop i).any p) := by
 intro k
 induction k with
 | zero =>
  intro i m he hm
  obtain ⟨m, rfl⟩ : ∃ m', m = m' + 1 := ⟨m - 1, by omega⟩
  refine ⟨-1, ?_, ?_⟩
  ·show gT (dJ n) n (iO (dJ n) n m) _ _ _ _ h = _
   unfold gT
   have d : decide (Int.ofNat i < (l.length : Int)) = false := decide_eq_false (by simp; omega)
   simp only [cN, d, aT, bN]
   rfl
  ·rw [List.drop_eq_nil_of_le (by omega)]
   rfl
 | succ k ih =>
  intro i m he hm
  obtain ⟨m, rfl⟩ : ∃ m', m = m' + 1 := ⟨m - 1, by omega⟩
  have hi : i < l.length := by omega
  have hv : l[i]? = some l[i] := List.getElem?_eq_getElem hi
  obtain ⟨a, e1, e2⟩ := S.at hv
  obtain ⟨r, q1, q2⟩ := ih (i + 1) m (by omega) (by omega)
  have d : decide (Int.ofNat i < (l.length : Int)) = true := decide_eq_true (by simp; omega)
  have hc := hc l[i]
  have ha : aD .add (.i .i64 (Int.ofNat i)) (.i .i64 (Int.ofNat 1)) h = some (.i .i64 (Int.ofNat (i + 1)), h) := iF i 1 h (by omega)
  rw [aMm hv]
  cases hmay : p l[i] with
  | true =>
   refine ⟨Int.ofNat i, ?_, by simp⟩
   show gT (dJ n) n (iO (dJ n) n m) _ _ _ _ h = _
   unfold gT
   rw [hmay] at hc
   simp only [cN, d, aT, bP, e1, e2, hc]
  | false =>
   refine ⟨r, ?_, by rw [q2]; rfl⟩
   show gT (dJ n) n (iO (dJ n) n m) _ _ _ _ h = _
   unfold gT
   rw [hmay] at hc
   simp only [cN, d, aT, bP, e1, e2, hc, bN, ha]
   exact q1
theorem dNa {x f : DV} {l : List Int} (S : SlI x l h) {p : Int → Bool} {n : Nat} (hc : ∀ v, cX CF (dJ n) f [iD v] h = some (.b (p v), h)) (hl : l.length ≤ 256) (hn : 256 < n) : dJ (n + 2) 52 [x, f] h = some (.b (l.any p), h) := by
 rw [oZ 52 rfl, bSb]
 unfold s52
 obtain ⟨r, q1, q2⟩ := cCq S (p := p) (n := n) hc hl l.length 0 n (by omega) (by omega)
 have e : dJ (n + 1) 89 [x, f] h = some (iD r, h) := by
  rw [oZ 89 rfl, bWp]
  unfold s89 aLq aKt bAd
  simp only [g0, g1, S.len (h' := h), aT]
  exact q1
 simp only [g0, g1, e, aT, jW, q2, List.drop_zero]
def sU (M : MemV) (n r : Int) (l : List Int) : Prop := vK n ≠ (l.length : Int) ∨ dH r M.pl = false ∨ ∃ v ∈ l, dH v M.pl = false
theorem cKq {k : Nat} {z : Prop} (V : Wv k h M R es z) {x : DV} {l : List Int} (S : SlI x l h) (hl : l.length ≤ 256) (n r : Int) {m : Nat} (hm : 300 < m) :
  ∃ h1, Wv k h1 M R es z ∧ Up h h1 ∧ ((sU M n r l ∧ dJ (m + 4) 16 [.p (aQ 7) 0, iD n, iD r, x] h = some (.t [iD 0, iD 20], h1)) ∨
   (¬ sU M n r l ∧ dJ (m + 4) 16 [.p (aQ 7) 0, iD n, iD r, x] h = zL (dJ (m + 3)) (m + 3) (.p (aQ 7) 0) (iD n) (iD r) x h1)) := by
 obtain ⟨h1, hh1⟩ : ∃ h1 : Hp, (⟨h.next.succ, Tr.set (.row .ex [.p (aQ 3) 0]) h.next (Tr.set (.row .ex [.p0]) h.next h.bl)⟩ : Hp) = h1 := ⟨_, rfl⟩
 have ns := dQd h.next
 have nx := V.K.W.nx
 have oth : ∀ b : Pos, b ≠ h.next → h1.bl.get b = h.bl.get b := fun b hb => by
  rw [← hh1]
  show (Tr.set _ _ (Tr.set _ _ _)).get b = _
  rw [dQa _ _ _ _ hb, dQa _ _ _ _ hb]
 have U1 : Up h h1 := ⟨by rw [← hh1]; show _ ≤ h.next.succ.toNat; omega, fun b _ hb => oth b fun e => by subst e; omega⟩
 have V1 : Wv k h1 M R es z := V.up (V.K.W.up U1 fun b hb => oth b fun e => by subst e; omega) U1
 have hg : h1.bl.get h.next = some (.row .ex [.p (aQ 3) 0]) := by rw [← hh1]; exact dQb _ _ _
 have e1 : bM [.p0] h = some (.p h.next 0, ⟨h.next.succ, Tr.set (.row .ex [.p0]) h.next h.bl⟩) := rfl
 have e2 : aG 1 (.p h.next 0) (.p (aQ 3) 0) ⟨h.next.succ, Tr.set (.row .ex [.p0]) h.next h.bl⟩ = some (aV, h1) := by
  rw [← hh1]
  simp only [aG, dE, dF, dQb]
  rfl
 have ld : aA (.p h.next 0) h1 = some (.p (aQ 3) 0, h1) := lZ hg rfl rfl
 have S1 := S.up U1
 have em := V.K.W.memory (m + 2)
 have ea := cEs n (m + 2) h1
 have el : bZ x h1 = some (iD (l.length : Int), h1) := S1.len
 have ef : dJ (m + 3) 54 [] h1 = some (.t [iD 0, iD 20], h1) := by rw [oZ 54 rfl, bIw]; rfl
 have hc : ∀ v, cX CF (dJ (m + 1)) (.f 53 [] [.p h.next 0]) [iD v] h1 = some (.b (!(dH v M.pl)), h1) := fun v => by
  rw [pcf rfl]
  simp only [List.nil_append, List.singleton_append]
  rw [oZ 53 rfl, cRe]
  unfold s53
  simp only [g0, g1, ld, aT, V1.K.W.may, iI]
 have ec := dNa S1 (p := fun v => !(dH v M.pl)) (n := m + 1) hc hl (by omega)
 refine ⟨h1, V1, U1, ?_⟩
 rw [oZ 16 rfl, cRi]
 unfold s16 aLr aAr
 simp only [g0, g1, g2, g3, em, aT, e1, e2]
 by_cases c1 : vK n = (l.length : Int)
 ·have d1 : (vK n != (l.length : Int)) = false := by simpa using c1
  cases hr : dH r M.pl with
  | false =>
   refine .inl ⟨.inr (.inl hr), ?_⟩
   simp only [iD] at ea el ef ⊢
   simp only [ea, el, aT, gQ, d1, gI, ld, V1.K.W.may, hr, iI, Bool.not_false, bX, fS, cE, bP, ef, nY, nU]
  | true =>
   cases hq : l.any (fun v => !(dH v M.pl)) with
   | true =>
    rw [hq] at ec
    obtain ⟨v, hv, hv2⟩ := List.any_eq_true.1 hq
    refine .inl ⟨.inr (.inr ⟨v, hv, by simpa using hv2⟩), ?_⟩
    simp only [iD] at ea el ef ⊢
    simp only [ea, el, aT, gQ, d1, gI, ld, V1.K.W.may, hr, iI, Bool.not_true, bX, ec, bP, ef, nY, nU]
   | false =>
    rw [hq] at ec
    refine .inr ⟨fun q => ?_, ?_⟩
    ·rcases q with q | q | ⟨v, hv, hv2⟩
     ·exact q c1
     ·rw [hr] at q; cases q
     ·have : l.any (fun v => !(dH v M.pl)) = true := List.any_eq_true.2 ⟨v, hv, by rw [hv2]; rfl⟩
      rw [this] at hq
      cases hq
    ·simp only [iD] at ea el ef ⊢
     simp only [ea, el, aT, gQ, d1, gI, ld, V1.K.W.may, hr, iI, Bool.not_true, bX, ec, bN]
 ·have d1 : (vK n != (l.length : Int)) = true := by simpa using c1
  refine .inl ⟨.inl c1, ?_⟩
  simp only [iD] at ea el ef ⊢
  simp only [ea, el, aT, gQ, d1, fS, nF, cE, bP, ef, nY, nU]
end
end Go.Dd

namespace Go.Dd
open Go.Proofs
theorem aAm (T T' : Tr Ob) : ∀ (l : List (Pos × Ob)) (b : Pos), (∃ e ∈ l, e.1 = b) → (eU l T).get b = (eU l T').get b
 | [], b, h => by obtain ⟨e, he, _⟩ := h; cases he
 | x :: l, b, h => by
  show (Tr.set x.2 x.1 (eU l T)).get b = (Tr.set x.2 x.1 (eU l T')).get b
  by_cases e : b = x.1
  ·subst e
   rw [dQb, dQb]
  ·rw [dQa _ _ _ _ e, dQa _ _ _ _ e]
   obtain ⟨y, hy, hb⟩ := h
   simp only [List.mem_cons] at hy
   rcases hy with rfl | hy
   ·exact absurd hb.symm e
   ·exact aAm T T' l b ⟨y, hy, hb⟩
theorem aMv (T : Tr Ob) : ∀ (l : List (Pos × Ob)) (b : Pos), (∀ e ∈ l, e.1 ≠ b) → (eU l T).get b = T.get b
 | [], b, h => rfl
 | x :: l, b, h => by
  show (Tr.set x.2 x.1 (eU l T)).get b = _
  rw [dQa _ _ _ _ (fun e => h x (by simp) e.symm)]
  exact aMv T l b fun e he => h e (by simp [he])
noncomputable def hWo (h : Hp) : Hp := ⟨aQ nxW, eU HLW h.bl⟩
theorem dIs : hW.bl = eU HLW .e := by kernel_rfl
theorem aNn : HLW.map (·.1) = [aQ 7, aQ 6, aQ 5, aQ 4, aQ 3, aQ 2, aQ 1] := rfl
theorem oH (h : Hp) (i : Nat) (hi : i = 1 ∨ i = 2 ∨ i = 3 ∨ i = 4 ∨ i = 5 ∨ i = 6 ∨ i = 7) : (hWo h).bl.get (aQ i) = hW.bl.get (aQ i) := by
 rw [dIs]
 show (eU HLW h.bl).get (aQ i) = _
 refine aAm h.bl .e HLW (aQ i) ?_
 have : aQ i ∈ HLW.map (·.1) := by
  rw [aNn]
  rcases hi with rfl | rfl | rfl | rfl | rfl | rfl | rfl <;> simp
 obtain ⟨e, he, h2⟩ := List.mem_map.1 this
 exact ⟨e, he, h2⟩
theorem dAp (h : Hp) (b : Pos) (hb : b.toNat < 1024) : (hWo h).bl.get b = h.bl.get b := by
 show (eU HLW h.bl).get b = _
 refine aMv h.bl HLW b fun e he q => ?_
 have : e.1 ∈ HLW.map (·.1) := List.mem_map.2 ⟨e, he, rfl⟩
 rw [aNn, q] at this
 simp only [List.mem_cons, List.not_mem_nil, or_false] at this
 rcases this with e | e | e | e | e | e | e <;> subst e
 ·rw [pn7] at hb; omega
 ·rw [pn6] at hb; omega
 ·rw [pn5] at hb; omega
 ·rw [pn4] at hb; omega
 ·rw [pn3] at hb; omega
 ·rw [pn2] at hb; omega
 ·rw [pn1] at hb; omega
theorem WNo (h : Hp) : Wd (hWo h) MN RN esN := by
 have W := WN
 obtain ⟨m1, m2, m3, m4, m5, m6⟩ := kP W.mem
 refine ⟨by rw [oH h 7 (by simp)]; exact W.w, by rw [oH h 4 (by simp)]; exact W.r, W.rl, by rw [oH h 5 (by simp)]; exact W.sy, ?_, W.nx, W.wb, W.pb⟩
 refine nC (by rw [oH h 3 (by simp)]; exact m1) ?_ ?_ m4 m5 m6
 ·rw [W.wb] at m2 ⊢
  rw [oH h 1 (by simp)]; exact m2
 ·rw [W.pb] at m3 ⊢
  rw [oH h 2 (by simp)]; exact m3
theorem WvN (h : Hp) : Wv 20000 (hWo h) MN RN esN where
 K := ⟨WNo h, GN, KN.sy, KN.r0, KN.rk⟩
 I := GIN
 c := by
  unfold Wc
  rw [oH h 6 (by simp)]
  kernel_rfl
 n := rfl
 fin := by show 4371 + 20000 ≤ 30000; omega
 md := by show 592 + 20000 ≤ 700000; omega
theorem bMb (h : Hp) (hn : lA h.next (aQ 1) = true) : jB 12 [] h = some (.p (aQ 7) 0, hWo h) := by
 have e1 : Nat.beq 12 13 = false := rfl
 have e2 : Nat.beq 12 12 = true := rfl
 have e3 : aXc [] = true := rfl
 unfold jB vY aQg zE hWo
 rw [e1, cond_false, e2, cond_true, e3, hn, Bool.and_self, cond_true]
theorem bIb (h : Hp) : jB 13 [] h = some (.b true, h) := rfl
theorem mS {g : FuncId} (h1 : Nat.beq g 13 = false) (h2 : Nat.beq g 12 = false) (args : List DV) (h : Hp) : jB g args h = dJ 900 g args h := by
 unfold jB
 rw [h1, cond_false, bAt, h2, cond_false]
end Go.Dd

namespace Go.Dd
open Go.Proofs
section
variable {h : Hp} {M : MemV} {R : List Int} {es : List (DV × DV)} {k : Nat} {b : Pos} {n r : Int} {x : DV} {l : List Int}
def Dr (h : Hp) (b : Pos) (n r : Int) (x : DV) : Prop := h.bl.get b = some (.row .ex [.p (aQ 7) 0, iD n, iD r, x]) ∧ 1029 ≤ b.toNat ∧ b.toNat < h.next.toNat
theorem Dr.up {h' : Hp} (D : Dr h b n r x) (U : Up h h') : Dr h' b n r x := ⟨by rw [U.get b (.inr D.2.1) D.2.2]; exact D.1, D.2.1, Nat.lt_of_lt_of_le D.2.2 U.next⟩
theorem Dr.l0 (D : Dr h b n r x) : aA (.p b (0 + 0)) h = some (.p (aQ 7) 0, h) := lZ (i := 0 + 0) D.1 rfl rfl
theorem Dr.l1 (D : Dr h b n r x) : aA (.p b (0 + 1)) h = some (iD n, h) := lZ (i := 0 + 1) D.1 rfl rfl
theorem Dr.l2 (D : Dr h b n r x) : aA (.p b (0 + 2)) h = some (iD r, h) := lZ (i := 0 + 2) D.1 rfl rfl
theorem Dr.l3 (D : Dr h b n r x) (S : SlI x l h) : aA (.p b (0 + 3)) h = some (x, h) := by
 refine lZ (i := 0 + 3) D.1 rfl ?_
 rcases S with ⟨rfl, _⟩ | ⟨_, _, _, rfl, _⟩ <;> rfl
theorem cNu {z : Prop} (V : Wv k h M R es z) (S : SlI x l h) (n r : Int) (m : Nat) :
  ∃ b h1, Wv k h1 M R es z ∧ Up h h1 ∧ Dr h1 b n r x ∧ SlI x l h1 ∧ zL (dJ m) m (.p (aQ 7) 0) (iD n) (iD r) x h = oW (dJ m) m (iD n) (.p b 0) h1 := by
 obtain ⟨U1, V1⟩ := V.new (.row .ex [.p (aQ 7) 0, iD n, iD r, x])
 refine ⟨h.next, _, V1, U1, ⟨dQb _ _ _, by have := V.K.W.nx; omega, by show h.next.toNat < h.next.succ.toNat; rw [dQd]; omega⟩, S.up U1, ?_⟩
 have hx : dE x = some [x] := by
  rcases S with ⟨rfl, _⟩ | ⟨_, _, _, rfl, _⟩ <;> rfl
 have e1 : bB [.p0, .i .i64 (Int.ofNat 0), .i .i64 (Int.ofNat 0), .l0] [(0, 1, .p (aQ 7) 0), (1, 1, iD n), (2, 1, iD r), (3, 1, x)] h = some (.a [.p (aQ 7) 0, iD n, iD r, x], h) := by
  rcases S with ⟨rfl, _⟩ | ⟨_, _, _, rfl, _⟩ <;> simp [bB, iR, dE, iD]
 unfold zL
 rw [e1, aT]
 rfl
end
end Go.Dd

namespace Go.Dd
open Go.Proofs
section
variable {h : Hp} {M : MemV} {R : List Int} {es : List (DV × DV)} {k : Nat} {b : Pos} {n r : Int} {x : DV} {l : List Int}
end
end Go.Dd

namespace Go.Dd
open Go.Proofs
def pK (k : Nat) : Pos := dDp 24 k
def hK (k : Nat) : Hp := ⟨pK k, .e⟩
theorem xA : (pK 1021).toNat = 1021 := by kernel_rfl
theorem wG : (pK 1022).toNat = 1022 := by kernel_rfl
theorem vE : (pK 1023).toNat = 1023 := by kernel_rfl
theorem cWe : (pK 1021).succ = pK 1022 := by kernel_rfl
theorem cYe : (pK 1022).succ = pK 1023 := by kernel_rfl
theorem cXd : (pK 1023).succ = aQ 1 := by kernel_rfl
abbrev th (kd N : Int) (s : List Nat) : DV := .a [iD kd, iD N, .s s]
def i64 (N : Int) : Prop := -9223372036854775808 ≤ N ∧ N ≤ 9223372036854775807
def byS (s : List Nat) : Prop := ∀ c ∈ s, c < 256
theorem bXl (kd N : Int) (s : List Nat) (h : Hp) : bS (th kd N s) h = some (.p h.next 0, ⟨h.next.succ, Tr.set (.row .ex [iD kd, iD N, .s s]) h.next h.bl⟩) := rfl
section
variable {h h' : Hp} {M : MemV} {R : List Int} {es : List (DV × DV)} {k : Nat} {z : Prop} {b : Pos} {kd N : Int} {s : List Nat}
theorem Tg.ld (T : Tg h b kd N s) : aK 3 (.p b 0) h = some (th kd N s, h) := by
 have e : h.bl.get b = some (.row .ex [iD kd, iD N, .s s]) := T
 simp [aK, cellsAt, rowOf, e, lO, DV.one]
theorem Tg.up (T : Tg h b kd N s) (U : Up h h') (hb : b.toNat < 1024) (hn : b.toNat < h.next.toNat) : Tg h' b kd N s := by
 unfold Tg
 rw [U.get b (.inl hb) hn]
 exact T
theorem dRo (T : Tg h b kd N s) (hb : b.toNat < 1024) : Tg (hWo h) b kd N s := by
 unfold Tg
 rw [dAp h b hb]
 exact T
theorem pE0 (t : TypeId) (h : Hp) : pEq (.pointer t) true (.p (aQ 7) 0) .p0 h = some (.b false, h) := Eq.trans rfl rfl
theorem aEj (V : Wv k h M R es z) (v : Int) : ∃ y h', aL [(.i .i64 (Int.ofNat 0))] 1 [(0, 1, iD v)] h = some (y, h') ∧ SlI y [v] h' ∧ Up h h' ∧ Wv k h' M R es z := by
 obtain ⟨U1, V1⟩ := V.new (.row .ex [iD v])
 refine ⟨.l h.next 0 1 1, _, ?_, .inr ⟨h.next, 1, .ex, rfl, dQb _ _ _, .inr (by have := V.K.W.nx; omega), ?_⟩, U1, V1⟩
 ·simp [aL, iR, dE, iD]
 ·show h.next.toNat < h.next.succ.toNat
  rw [dQd]; omega
theorem dCx (V : Wv k h M R es z) (v w : Int) : ∃ y h', aL [(.i .i64 (Int.ofNat 0)), (.i .i64 (Int.ofNat 0))] 2 [(0, 1, iD v), (1, 1, iD w)] h = some (y, h') ∧ SlI y [v, w] h' ∧ Up h h' ∧ Wv k h' M R es z := by
 obtain ⟨U1, V1⟩ := V.new (.row .ex [iD v, iD w])
 refine ⟨.l h.next 0 2 2, _, ?_, .inr ⟨h.next, 2, .ex, rfl, dQb _ _ _, .inr (by have := V.K.W.nx; omega), ?_⟩, U1, V1⟩
 ·simp [aL, iR, dE, iD]
 ·show h.next.toNat < h.next.succ.toNat
  rw [dQd]; omega
end
theorem cMg (args : List DV) (h : Hp) : jB 14 args h = dJ (894 + 6) 14 args h := mS rfl rfl args h
theorem aWo (args : List DV) (h : Hp) : jB 15 args h = dJ (898 + 2) 15 args h := mS rfl rfl args h
theorem aCg (args : List DV) (h : Hp) : jB 16 args h = dJ (896 + 4) 16 args h := mS rfl rfl args h
theorem sR (args : List DV) (h : Hp) : jB 23 args h = dJ (899 + 1) 23 args h := mS rfl rfl args h
theorem cJp (args : List DV) (h : Hp) : jB 25 args h = dJ (898 + 2) 25 args h := mS rfl rfl args h
theorem cNg (args : List DV) (h : Hp) : jB 32 args h = dJ (897 + 3) 32 args h := mS rfl rfl args h
end Go.Dd

namespace Go.Dd
open Go.Proofs
section
variable {h h' : Hp} {M M' : MemV} {R R' : List Int} {es es' : List (DV × DV)} {k : Nat} {z : Prop} {CL : List Nat}
end
end Go.Dd

namespace Go.Dd
open Go.Proofs
theorem cHs (rec : RT) (n : Nat) (x : DV) (h : Hp) : oW rec n (iD 50) x h = bC rec n (.f 61 [x] []) h := by rfl
theorem cBc (rec : RT) (n : Nat) (x : DV) (h : Hp) : oW rec n (iD 51) x h = bC rec n (.f 61 [x] []) h := by rfl
section
variable {h h' : Hp} {M M' : MemV} {R R' : List Int} {es es' : List (DV × DV)} {k : Nat} {z : Prop} {CL : List Nat}
theorem cQp {n : Int} {K : FuncId} (hd : ∀ (rec : RT) (m : Nat) (x : DV) (h : Hp), oW rec m (iD n) x h = bC rec m (.f K [x] []) h) (hK : CF.I K = none) (V : Wv k h M R es z) {x : DV} {l : List Int} (S : SlI x l h) (hl : l.length ≤ 256) (r : Int) {m : Nat} (hm : 300 < m) :
  (sU M n r l ∧ ∃ h', dJ (m + 4) 16 [.p (aQ 7) 0, iD n, iD r, x] h = some (.t [iD 0, iD 20], h') ∧ Wv k h' M R es z ∧ Up h h') ∨
  (¬ sU M n r l ∧ ∃ b h1, Wv k h1 M R es z ∧ Up h h1 ∧ Dr h1 b n r x ∧ SlI x l h1 ∧
   ∀ a e h', dJ (m + 3) K [.p b 0] h1 = some (.t [a, e], h') → dJ (m + 4) 16 [.p (aQ 7) 0, iD n, iD r, x] h = some (.t [a, e], h')) := by
 obtain ⟨h1, V1, U1, q | q⟩ := cKq V S hl n r hm
 ·exact .inl ⟨q.1, h1, q.2, V1, U1⟩
 ·obtain ⟨b, h2, V2, U2, D, S2, e2⟩ := cNu V1 (S.up U1) n r (m + 3)
  refine .inr ⟨q.1, b, h2, V2, U1.trans U2, D, S2, fun a e h' e3 => ?_⟩
  rw [q.2, e2, hd]
  unfold bC
  rw [pcf hK]
  simp only [List.append_nil, List.nil_append] at e3 ⊢
  rw [e3]
  simp only [aT, nY, nU]
end
end Go.Dd

namespace Go.Dd
open Go.Proofs
theorem bSw {M : MemV} {R : List Int} {o : Int} (h : bL o M.pl ≠ 0) : oK M R o = gL M o := if_pos h
section
variable {h h' : Hp} {M M' : MemV} {R R' : List Int} {es es' : List (DV × DV)} {k : Nat} {z : Prop} {CL : List Nat} {b : Pos} {n r : Int} {x : DV}
end
theorem eqX {a b : Int} (h : a = b) : (a == b) = true := by rw [h]; exact beq_self_eq_true b
end Go.Dd

namespace Go.Dd
open Go.Proofs
theorem cZi (n : Int) (h : Hp) : bG (some (iD n, h)) (iD n) = true := by
 unfold bG
 simp [DV.beq]
theorem neF {a b : Int} (h : a = b) : (a != b) = false := by simpa using h
theorem neT {a b : Int} (h : a ≠ b) : (a != b) = true := by simpa using h
theorem cOv (m : Nat) (h : Hp) : dJ (m + 1) 54 [] h = some (.t [iD 0, iD 20], h) := by rw [oZ 54 rfl, bIw]; rfl
section
variable {h h' : Hp} {M M' : MemV} {R R' : List Int} {es es' : List (DV × DV)} {k : Nat} {z : Prop} {CL : List Nat} {b : Pos} {n r : Int} {x : DV}
theorem GI.atK (I : GI M R CL z) {i : Nat} (hi : i < 16) : bL (R.getD (2 + i) 0) M.pl = 3 + 9 * i := by
 have hc := I.cl _ (I.kn i hi)
 rw [I.rk i hi]
 have hp : gY (.ofNat (6 + 18 * i)) = 3 + 9 * i := by
  have := bAv (a := 3 + 9 * i) (by omega) (by omega)
  rw [show (3 + 9 * i) * 2 = 6 + 18 * i by omega] at this
  exact this
 rcases jX (.ofNat (6 + 18 * i)) M.pl with e | ⟨e, _⟩
 ·exact absurd e (atN_pos.2 ⟨by rw [hp]; omega, by rw [hp]; exact hc.pl⟩)
 ·rw [e, hp]
theorem GI.kind0 (I : GI M R CL z) (G : Good M) {c : Int} (h0 : iV M R c = 0) : isC M R c = true ∧ M.t.get (bL c M.pl + 8) = 1 := by
 cases hc : isC M R c with
 | false => unfold iV at h0; rw [hc] at h0; cases h0
 | true =>
  obtain ⟨k, _, e, q⟩ := I.kindC G hc
  rw [e] at h0
  have : k = 0 := by omega
  subst this
  exact ⟨rfl, q⟩
end
end Go.Dd

namespace Go.Dd
open Go.Proofs
section
variable {h h' : Hp} {M M' : MemV} {R R' : List Int} {es es' : List (DV × DV)} {k : Nat} {z : Prop} {CL : List Nat} {b : Pos} {n r : Int} {x : DV}
theorem cKt {v w : Int} (h : lL M R v = some w) : dH v M.pl = true := by
 unfold lL at h
 by_cases hs : cW v = true
 ·unfold dH
  split <;> first | rfl | (rw [hs]; rfl)
 ·rw [if_neg hs] at h
  by_cases hc : (bL v M.pl ≠ 0 ∧ gL M v = R.getD 10 0) ∧ cM M v % 4 = 1
  ·exact rK hc.1.1
  ·rw [if_neg hc] at h; cases h
theorem GI.len256 (I : GI M R CL z) (G : Good M) (o : Int) : cM M o / 4 ≤ 256 := by
 by_cases e : bL o M.pl = 0
 ·unfold cM
  rw [e, I.z0]
  decide
 ·exact (I.headOb G e).2.1.len
end
end Go.Dd

namespace Go.Dd
open Go.Proofs
theorem aOp (h : Hp) : bG (some (aV, h)) aV = true := Eq.trans rfl rfl
section
variable {h h' : Hp} {M M' : MemV} {R R' : List Int} {es es' : List (DV × DV)} {k : Nat} {z : Prop} {CL : List Nat} {b : Pos} {n r : Int} {x : DV} {l : List Int}
theorem bOm (V : Wv k h M R es z) (D : Dr h b n r x) {v : Int} (S : SlI x (v :: l) h) (m : Nat) :
  ∃ (p : Int) (q : Bool), dJ (m + 3) 97 [.p b 0] h = some (.t [iD p, .b q], h) ∧ (q = true ↔ ∃ i : Nat, lL M R v = some (Int.ofNat (i + 1)) ∧ i < cM M r / 4) ∧ (∀ i : Nat, lL M R v = some (Int.ofNat (i + 1)) → i < cM M r / 4 → p = Int.ofNat i) := by
 obtain ⟨a, e1, e2⟩ := S.at (i := 0) rfl
 have va := V.K.W.value V.K.G V.I v m
 have em := V.K.W.memory (m + 1)
 have fl := V.K.W.fieldsA V.K.G V.I r
 have l2 := D.l2
 have sm := cZi r h
 have sb : ∀ w : Int, ∃ p, aD .sub (.i .i64 w) (.i .i64 (Int.ofNat 1)) h = some (.i .i64 p, h) ∧ (∀ i : Nat, w = Int.ofNat (i + 1) → i ≤ 256 → p = Int.ofNat i) := fun w => by
  by_cases hw : -9223372036854775808 ≤ w - 1 ∧ w - 1 ≤ 9223372036854775807
  ·exact ⟨w - Int.ofNat 1, bSg _ _ _ hw, fun i hi _ => by rw [hi]; simp⟩
  ·refine ⟨IntKind.i64.wrap (w - Int.ofNat 1), by simp only [aD, if_true, fB], fun i hi h2 => absurd ?_ hw⟩
   rw [hi]
   constructor <;> simp <;> omega
 obtain ⟨p, es1, ps⟩ := sb ((lL M R v).getD 0)
 have ps' : ∀ i : Nat, lL M R v = some (Int.ofNat (i + 1)) → i < cM M r / 4 → p = Int.ofNat i := fun i hi h2 => ps i (by rw [hi]; rfl) (by have := V.I.len256 V.K.G r; omega)
 rw [oZ 97 rfl, cQs]
 unfold s97
 simp only [iD] at va em fl l2 sm e2 ⊢
 simp only [g0, fD, nW, D.l0, aT, D.l3 S, e1, e2, va, nY, nU, es1]
 cases hv : lL M R v with
 | none =>
  refine ⟨p, false, ?_, by simp, fun i hi => by cases hi⟩
  simp only [Option.isSome_none, iQ, nF, bX, aT, aOp, Bool.and_self, cnd, cond_true]
 | some w =>
  rw [hv] at ps'
  simp only [Option.isSome_some, Option.getD_some, lP, jW, aT, cE]
  by_cases c1 : w ≥ Int.ofNat 1
  ·obtain ⟨i, rfl⟩ : ∃ i : Nat, w = Int.ofNat (i + 1) := ⟨w.toNat - 1, by show w = ((w.toNat - 1 + 1 : Nat) : Int); have c2 : (1 : Int) ≤ w := c1; omega⟩
   simp only [decide_eq_true c1, lP, fD, nW, D.l0, aT, em, l2, sm, Bool.and_self, cnd, cond_true, fl, aPy, cE]
   by_cases c2 : Int.ofNat (i + 1) ≤ Int.ofNat (cM M r / 4)
   ·refine ⟨p, true, by simp only [decide_eq_true c2], by simp; exact ⟨i, rfl, by simp at c2; omega⟩, ps'⟩
   ·refine ⟨p, false, by simp only [decide_eq_false c2], by simp; intro i' e; simp at c2; omega, ps'⟩
  ·refine ⟨p, false, ?_, by simp; intro i e; have c2 : ¬ ((1 : Int) ≤ w) := c1; omega, ps'⟩
   simp only [decide_eq_false c1, iQ, nF, bX, aT, aOp, Bool.and_self, cnd, cond_true]
end
end Go.Dd

namespace Go.Dd
open Go.Proofs
section
variable {h h' : Hp} {M M' : MemV} {R R' : List Int} {es es' : List (DV × DV)} {k : Nat} {z : Prop} {CL : List Nat} {b : Pos} {n r : Int} {x : DV} {l : List Int}
end
end Go.Dd

namespace Go.Dd
open Go.Proofs
noncomputable def MemV.putW (M : MemV) (r : Int) (i : Nat) (v : Int) : MemV := { M with t := M.t.set (bL r M.pl + 3 + i) v }
section
variable {h h' : Hp} {M M' : MemV} {R R' : List Int} {es es' : List (DV × DV)} {k : Nat} {z z' : Prop} {CL : List Nat} {b : Pos} {n r v : Int} {x : DV} {l : List Int} {i : Nat}
theorem mY : (M.putW r i v).pl = M.pl := rfl
structure PutI (M : MemV) (R : List Int) (CL : List Nat) (r : Int) (i : Nat) : Prop where
 at0 : bL r M.pl ≠ 0
 hi : i < cM M r / 4
 ncl : bL r M.pl ∉ CL
 nsy : gL M r ≠ R.getD 13 0
theorem mZ (I : GI M R CL z) (G : Good M) (P : PutI M R CL r i) (j : Nat) : (M.putW r i v).t.get j = if j = bL r M.pl + 3 + i then v else M.t.get j := by
 obtain ⟨_, _, h4, h3⟩ := I.headOb G P.at0
 have h1 := P.hi
 have h5 := G.le
 have h6 := G.hi
 exact WT.get_set _ _ _ _ (by omega)
theorem fQ (I : GI M R CL z) (G : Good M) (P : PutI M R CL r i) {a hd : Nat} (ha : M.pl.get a ≠ 0) (hh : M.t.get a = .ofNat hd) {j : Nat} (hj : j < 3 + hd / 4) (hne : a ≠ bL r M.pl ∨ j < 3) : (M.putW r i v).t.get (a + j) = M.t.get (a + j) := by
 rw [mZ I G P]
 obtain ⟨h1, _, h4, h3⟩ := I.headOb G P.at0
 have hi := P.hi
 rw [if_neg]
 intro e
 by_cases c : a = bL r M.pl
 ·rcases hne with q | q
  ·exact q c
  ·omega
 ·rcases Nat.lt_or_ge a (bL r M.pl) with q | q
  ·have := I.dj a (bL r M.pl) ha (sK P.at0) q hd hh
   omega
  ·have := I.dj (bL r M.pl) a (sK P.at0) ha (by omega) (cM M r) h1
   omega
theorem Good.put (I : GI M R CL z) (G : Good M) (P : PutI M R CL r i) : Good (M.putW r i v) := by
 refine ⟨G.n, G.le, G.lo, G.hi, G.md, fun a ha => ?_⟩
 obtain ⟨h3, hd, h1, h2, h4, h5⟩ := G.ob a ha
 have e0 := fQ (v := v) I G P ha h1 (j := 0) (by omega) (.inr (by omega))
 have e1 := fQ (v := v) I G P ha h1 (j := 1) (by omega) (.inr (by omega))
 rw [Nat.add_zero] at e0
 refine ⟨h3, hd, by rw [e0]; exact h1, h2, h4, ?_⟩
 rw [e1]
 exact h5
theorem bBq (I : GI M R CL z) (G : Good M) (P : PutI M R CL r i) {o : Int} {s : List Nat} (T : TxO M (R.getD 13 0) o s) : TxO (M.putW r i v) (R.getD 13 0) o s := by
 have ne : bL o M.pl ≠ bL r M.pl := fun e => P.nsy (by unfold gL; rw [← e]; exact T.cls)
 have ho := sK T.at0
 have hl : (s.length * 4 + 2) / 4 = s.length := by omega
 have e0 := fQ (v := v) I G P ho T.hd (j := 0) (by omega) (.inr (by omega))
 have e1 := fQ (v := v) I G P ho T.hd (j := 1) (by omega) (.inr (by omega))
 rw [Nat.add_zero] at e0
 refine ⟨T.at0, by show (M.putW r i v).t.get (bL o M.pl) = _; rw [e0]; exact T.hd, by show (M.putW r i v).t.get (bL o M.pl + 1) = _; rw [e1]; exact T.cls, T.by8, T.len, fun j c hj => ?_⟩
 have hjl : j < s.length := by
  rcases Nat.lt_or_ge j s.length with q | q
  ·exact q
  ·rw [List.getElem?_eq_none q] at hj; cases hj
 have e2 := fQ (v := v) I G P ho T.hd (j := 3 + j) (by omega) (.inl ne)
 show (M.putW r i v).t.get (bL o M.pl + 3 + j) = _
 rw [show bL o M.pl + 3 + j = bL o M.pl + (3 + j) by omega, e2, ← show bL o M.pl + 3 + j = bL o M.pl + (3 + j) by omega]
 exact T.get j c hj
theorem GI.put (I : GI M R CL z) (G : Good M) (P : PutI M R CL r i) (hb : cM M r % 4 = 2 → ∃ c : Nat, c < 256 ∧ v = .ofNat c)
  (hz : z' → z ∧ ∀ c ∈ CL, M.t.get (c + 8) = 1 → gL M r ≠ .ofNat (2 * c)) : GI (M.putW r i v) R CL z' := by
 have cl8 : ∀ c ∈ CL, ∀ j, j < 9 → (M.putW r i v).t.get (c + j) = M.t.get (c + j) := fun c hc j hj => by
  have C := I.cl c hc
  exact fQ I G P C.pl C.hd (by omega) (.inl fun e => P.ncl (e ▸ hc))
 have lo : ∀ j, j < 3 → (M.putW r i v).t.get j = M.t.get j := fun j hj => by
  rw [mZ I G P, if_neg (by omega)]
 have kn : ∀ q, q < 16 → ∀ j, j < 9 → (M.putW r i v).t.get (3 + 9 * q + j) = M.t.get (3 + 9 * q + j) := fun q hq j hj => cl8 _ (I.kn q hq) j hj
 refine ⟨by rw [lo 0 (by omega)]; exact I.z0, by rw [lo 1 (by omega)]; exact I.z1, fun a ha hd hh => ?_, fun a b' ha hb' hab hd hh => ?_, fun c hc => ?_, I.rk, I.kn, ?_, ?_, ?_, ?_, ?_⟩
 ·have ha' : M.pl.get a ≠ 0 := ha
  obtain ⟨h3, hd', h1, h2, h4, _⟩ := G.ob a ha'
  have e0 := fQ (v := v) I G P ha' h1 (j := 0) (by omega) (.inr (by omega))
  rw [Nat.add_zero] at e0
  rw [e0] at hh
  have e : hd' = hd := Int.ofNat.inj (h1.symm.trans hh)
  subst e
  have O := I.ob a ha' hd' hh
  have e1 := fQ (v := v) I G P ha' h1 (j := 1) (by omega) (.inr (by omega))
  refine ⟨O.len, O.fmt, by rw [e1]; exact O.arr, by rw [e1]; exact O.str, fun q j hj => ?_, by rw [e1]; exact O.cls, fun q c hc q1 q2 => ?_⟩
  ·by_cases ea : a = bL r M.pl ∧ j = i
   ·obtain ⟨rfl, rfl⟩ := ea
    have hw : cM M r = hd' := by unfold cM; rw [h1]
    rw [hw] at hb
    obtain ⟨c, c1, c2⟩ := hb q
    exact ⟨c, c1, by rw [mZ I G P, if_pos rfl]; exact c2⟩
   ·by_cases ea2 : a = bL r M.pl
    ·rw [mZ I G P, if_neg (fun e => ea ⟨ea2, by omega⟩)]
     exact O.by8 q j hj
    ·have e2 := fQ (v := v) I G P ha' h1 (j := 3 + j) (by omega) (.inl ea2)
     rw [show a + 3 + j = a + (3 + j) by omega, e2, ← show a + 3 + j = a + (3 + j) by omega]
     exact O.by8 q j hj
  ·obtain ⟨hz1, hz2⟩ := hz q
   rw [cl8 c hc 8 (by omega)] at q1
   rw [e1] at q2
   obtain ⟨w1, w2⟩ := O.pl hz1 c hc q1 q2
   refine ⟨w1, fun j hj => ?_⟩
   have ea2 : a ≠ bL r M.pl := fun e => hz2 c hc q1 (by unfold gL; rw [← e]; exact q2)
   have e2 := fQ (v := v) I G P ha' h1 (j := 3 + j) (by omega) (.inl ea2)
   rw [show a + 3 + j = a + (3 + j) by omega, e2, ← show a + 3 + j = a + (3 + j) by omega]
   exact w2 j hj
 ·have ha' : M.pl.get a ≠ 0 := ha
  obtain ⟨h3, hd', h1, h2, h4, _⟩ := G.ob a ha'
  have e0 := fQ (v := v) I G P ha' h1 (j := 0) (by omega) (.inr (by omega))
  rw [Nat.add_zero] at e0
  rw [e0] at hh
  exact I.dj a b' ha' hb' hab hd hh
 ·have C := I.cl c hc
  have e0 := cl8 c hc 0 (by omega)
  rw [Nat.add_zero] at e0
  refine ⟨C.pt, C.pl, by rw [e0]; exact C.hd, by rw [cl8 c hc 1 (by omega)]; exact C.cl, ?_, by rw [cl8 c hc 5 (by omega)]; exact C.sz, by rw [cl8 c hc 8 (by omega)]; exact C.kd⟩
  obtain ⟨s, q1, q2⟩ := C.nm
  rw [cl8 c hc 3 (by omega)]
  exact ⟨s, bBq I G P q1, q2⟩
 ·have := kn 9 (by omega) 8 (by omega); rw [show 3 + 9 * 9 + 8 = 92 from rfl] at this; rw [this]; exact I.k9
 ·have := kn 10 (by omega) 8 (by omega); rw [show 3 + 9 * 10 + 8 = 101 from rfl] at this; rw [this]; exact I.k10
 ·have := kn 11 (by omega) 8 (by omega); rw [show 3 + 9 * 11 + 8 = 110 from rfl] at this; rw [this]; exact I.k11
 ·have := kn 8 (by omega) 8 (by omega); rw [show 3 + 9 * 8 + 8 = 83 from rfl] at this; rw [this]; exact I.k8
 ·have := kn 1 (by omega) 8 (by omega); rw [show 3 + 9 * 1 + 8 = 20 from rfl] at this; rw [this]; exact I.k1
theorem Wv.put (V : Wv k h M R es z) (P : PutI M R CLW r i) (hb : cM M r % 4 = 2 → ∃ c : Nat, c < 256 ∧ v = .ofNat c) (hv : okV (cM M r % 4) M.pl v)
  (hz : z' → z ∧ ∀ c ∈ CLW, M.t.get (c + 8) = 1 → gL M r ≠ .ofNat (2 * c)) :
  ∃ h', qF [.p (aQ 3) 0, iD r, .i .i64 (.ofNat i), iD v] h = some (.i .i64 (.ofNat 0), h') ∧ Wv k h' (M.putW r i v) R es z' ∧ Up h h' := by
 obtain ⟨h1, O, h4, h3⟩ := V.I.headOb V.K.G P.at0
 have e1 := V.K.W.put (v := v) P.at0 h1 (by have := O.len; omega) P.hi (by have := V.K.G.le; omega) hv
 obtain ⟨W1, U1⟩ := V.K.W.setT (M.t.set (bL r M.pl + 3 + i) v)
 refine ⟨_, e1, ⟨⟨W1, V.K.G.put V.I P, fun e he => ?_, V.K.r0, V.K.rk⟩, V.I.put V.K.G P hb hz, V.c.up V.K.W U1, V.n, V.fin, V.md⟩, U1⟩
 obtain ⟨s, x, q1, q2⟩ := V.K.sy e he
 exact ⟨s, x, q1, bBq V.I V.K.G P q2⟩
end
end Go.Dd

namespace Go.Dd
open Go.Proofs
theorem dBe {w : Int} {pl : WT} (h : bL w pl ≠ 0) : w = .ofNat (2 * bL w pl) := by
 rcases jX w pl with e | ⟨e, h0⟩
 ·exact absurd e h
 ·obtain ⟨h1, h2, _⟩ := pB w
  have h3 := h1.1 h0
  have h4 := h2 h0
  rw [e]
  show w = ((2 * gY w : Nat) : Int)
  omega
section
variable {h h' : Hp} {M M' : MemV} {R R' : List Int} {es es' : List (DV × DV)} {k : Nat} {z z' : Prop} {CL : List Nat} {b : Pos} {n r v : Int} {x : DV} {l : List Int} {i : Nat}
theorem bAf (I : GI M R CL z) (G : Good M) (P : PutI M R CL r i) (o : Int) {j : Nat} (hj : j < 2) : (M.putW r i v).t.get (bL o M.pl + j) = M.t.get (bL o M.pl + j) := by
 by_cases e : bL o M.pl = 0
 ·rw [mZ I G P, if_neg (by omega)]
 ·obtain ⟨h1, _⟩ := I.headOb G e
  exact fQ I G P (sK e) h1 (by omega) (.inr (by omega))
theorem pW (I : GI M R CL z) (G : Good M) (P : PutI M R CL r i) (o : Int) : cM (M.putW r i v) o = cM M o := by
 have := bAf (v := v) I G P o (j := 0) (by omega)
 rw [Nat.add_zero] at this
 unfold cM
 rw [mY, this]
theorem aHu (I : GI M R CL z) (G : Good M) (P : PutI M R CL r i) (o : Int) : gL (M.putW r i v) o = gL M o := bAf I G P o (by omega)
theorem cDg (I : GI M R CL z) (G : Good M) (P : PutI M R CL r i) (o : Int) : oK (M.putW r i v) R o = oK M R o := by
 unfold oK
 rw [mY]
 by_cases e : bL o M.pl = 0
 ·simp only [e, ne_eq, not_true_eq_false, if_false]
 ·rw [if_pos e, if_pos e]
  exact aHu I G P o
theorem aKx (I : GI M R CL z) (G : Good M) (P : PutI M R CL r i) {o : Int} (hne : bL o M.pl ≠ bL r M.pl) (j : Nat) : lR (M.putW r i v) o j = lR M o j := by
 unfold lR
 rw [pW I G P, mY]
 by_cases c : bL o M.pl ≠ 0 ∧ j < cM M o / 4
 ·rw [if_pos c, if_pos c]
  obtain ⟨h1, _⟩ := I.headOb G c.1
  have e2 := fQ (v := v) I G P (sK c.1) h1 (j := 3 + j) (by omega) (.inl hne)
  rw [show bL o M.pl + 3 + j = bL o M.pl + (3 + j) by omega, e2]
 ·rw [if_neg c, if_neg c]
theorem bVe (I : GI M R CL z) (G : Good M) (P : PutI M R CL r i) (j : Nat) : lR (M.putW r i v) r j = if j = i then v else lR M r j := by
 have hi := P.hi
 unfold lR
 rw [pW I G P, mY, mZ I G P]
 by_cases e : j = i
 ·subst e
  rw [if_pos ⟨P.at0, hi⟩, if_pos rfl, if_pos rfl]
 ·rw [if_neg (by omega : ¬ (bL r M.pl + 3 + j = bL r M.pl + 3 + i)), if_neg e]
theorem cFj (I : GI M R CL z) (G : Good M) (P : PutI M R CL r i) (hc : gL M r ≠ R.getD 10 0) (o : Int) : lL (M.putW r i v) R o = lL M R o := by
 unfold lL
 rw [pW I G P, aHu I G P, mY]
 by_cases hs : cW o = true
 ·rw [if_pos hs, if_pos hs]
 ·rw [if_neg hs, if_neg hs]
  by_cases c : (bL o M.pl ≠ 0 ∧ gL M o = R.getD 10 0) ∧ cM M o % 4 = 1
  ·rw [if_pos c, if_pos c, aKx I G P]
   intro e
   have := c.1.2
   unfold gL at this hc
   rw [e] at this
   exact hc this
  ·rw [if_neg c, if_neg c]
theorem bVr (I : GI M R CL z) (G : Good M) (P : PutI M R CL r i) (c : Int) : iV (M.putW r i v) R c = iV M R c := by
 have hi : isC (M.putW r i v) R c = isC M R c := by
  unfold isC
  rw [aHu I G P, mY]
 unfold iV
 rw [hi]
 cases hc : isC M R c with
 | false => rfl
 | true =>
  obtain ⟨_, hm, _⟩ := I.clsAt G hc
  rw [aKx I G P]
  exact fun e => P.ncl (e ▸ hm)
def plnW (M : MemV) (R : List Int) (r : Int) : Prop := bL r M.pl ≠ 0 ∧ iV M R (oK M R r) = 0
theorem plnW.cls (q : plnW M R r) (I : GI M R CL z) (G : Good M) : bL (gL M r) M.pl ∈ CL ∧ M.t.get (bL (gL M r) M.pl + 8) = 1 ∧ gL M r = .ofNat (2 * bL (gL M r) M.pl) := by
 have k0 := q.2
 rw [bSw q.1] at k0
 obtain ⟨hc, h8⟩ := I.kind0 G k0
 obtain ⟨h1, h2, _⟩ := I.clsAt G hc
 exact ⟨h2, h8, dBe h1⟩
theorem plnW.ne (q : plnW M R r) (I : GI M R CL z) (G : Good M) {j : Nat} (hj : j < 16) (hk : M.t.get (3 + 9 * j + 8) ≠ 1) : gL M r ≠ R.getD (2 + j) 0 := fun e => by
 obtain ⟨_, h8, _⟩ := q.cls I G
 rw [e, I.atK hj] at h8
 exact hk h8
theorem plnW.put (q : plnW M R r) (I : GI M R CL z) (G : Good M) (hi : i < cM M r / 4) : PutI M R CL r i := by
 refine ⟨q.1, hi, fun hm => ?_, ?_⟩
 ·exact q.ne I G (j := 1) (by omega) (by rw [show 3 + 9 * 1 + 8 = 20 from rfl, I.k1]; decide) ((I.cl _ hm).cl)
 ·exact q.ne I G (j := 11) (by omega) (by rw [show 3 + 9 * 11 + 8 = 110 from rfl, I.k11]; decide)
theorem plnW.nil (q : plnW M R r) (I : GI M R CL) (G : Good M) : cM M r % 4 = 0 ∧ ∀ i, lR M r i = 0 := by
 obtain ⟨h1, h2, h3⟩ := q.cls I G
 obtain ⟨_, O, _, _⟩ := I.headOb G q.1
 obtain ⟨p1, p2⟩ := O.pl trivial _ h1 h2 h3
 refine ⟨p1, fun i => ?_⟩
 unfold lR
 split
 ·rename_i c
  exact p2 i c.2
 ·rfl
def plnF (M : MemV) (R : List Int) (r v : Int) (i : Nat) : Prop := plnW M R r ∧ lL M R v = some (Int.ofNat (i + 1)) ∧ i < cM M r / 4
theorem plnF.one {j : Nat} (a : plnF M R r v i) (b : plnF M R r v j) : i = j := by
 have := a.2.1.symm.trans b.2.1
 have := Int.ofNat.inj (Option.some.inj this)
 omega
theorem aLk (V : Wv k h M R es z) (D : Dr h b n r x) {v : Int} (S : SlI x (v :: l) h) {m : Nat} (hm : 300 < m) :
  ((¬ ∃ i, plnF M R r v i) ∧ dJ (m + 4) 61 [.p b 0] h = some (.t [iD 0, iD 20], h)) ∨
  (∃ i, plnF M R r v i ∧ dJ (m + 4) 61 [.p b 0] h =
   bnd (aD .eql (iD n) (.i .i64 (Int.ofNat 51)) h) fun v39 h39 =>
   aR v39 (
    bnd (aN (.p b 0) h39) fun v40 h40 =>
    bnd (aB 2 v40 h40) fun v41 h41 =>
    bnd (aA v41 h41) fun v42 h42 =>
    bnd (aN (.p b 0) h42) fun v43 h43 =>
    bnd (aB 3 v43 h43) fun v44 h44 =>
    bnd (aA v44 h44) fun v45 h45 =>
    bnd (aI 1 v45 (.i .i64 (Int.ofNat 1)) h45) fun v46 h46 =>
    bnd (aA v46 h46) fun v47 h47 =>
    bnd (qF [(.p (aQ 3) 0), v42, (.i .i64 (.ofNat i)), v47] h47) fun v48 h48 =>
    bnd (aN (.p b 0) h48) fun v49 h49 =>
    bnd (aB 3 v49 h49) fun v50 h50 =>
    bnd (aA v50 h50) fun v51 h51 =>
    bnd (aI 1 v51 (.i .i64 (Int.ofNat 1)) h51) fun v52 h52 =>
    bnd (aA v52 h52) fun v53 h53 =>
    some (.t [v53, (.i .i64 (Int.ofNat 0))], h53)) (
    bnd (aN (.p b 0) h39) fun v54 h54 =>
    bnd (aB 2 v54 h54) fun v55 h55 =>
    bnd (aA v55 h55) fun v56 h56 =>
    bnd (oD [(.p (aQ 3) 0), v56, (.i .i64 (.ofNat i))] h56) fun v57 h57 =>
    bnd (aC 0 v57 h57) fun v58 h58 =>
    bnd (aC 1 v57 h58) fun v59 h59 =>
    some (.t [v58, v59], h59))) := by
 have em := V.K.W.memory (m + 2)
 have is := V.K.W.is r
 have co := V.K.W.classOf V.K.G r (m + 1)
 have kd := V.K.W.kind V.K.G V.I (oK M R r) m
 have ef : ∀ h, dJ (m + 3) 54 [] h = some (.t [iD 0, iD 20], h) := fun h => cOv _ _
 have l2 := D.l2
 have l1 := D.l1
 have sm := cAf (aQ 7) 0 h
 obtain ⟨p, q, e3, q1, q2⟩ := bOm V D S m
 rw [oZ 61 rfl, cRb]
 unfold s61
 simp only [iD] at is co kd l2 l1 ef e3 ⊢
 simp only [g0, fD, nW, D.l0, aT, em, l2, is, iI]
 by_cases e : bL r M.pl = 0
 ·have hb : (!(Nat.beq (bL r M.pl) 0)) = false := by rw [e]; rfl
  refine .inl ⟨fun ⟨i, q⟩ => q.1.1 e, ?_⟩
  simp only [hb, Bool.not_false, fS, nF, aT, aOp, Bool.and_self, cnd, cond_true, cE, bP, ef, nY, nU]
 ·have hb : (!(Nat.beq (bL r M.pl) 0)) = true := by rw [aQc e]; rfl
  simp only [hb, Bool.not_true, gI, fD, nW, D.l0, aT, l2, co, sm, Bool.and_self, cnd, cond_true, kd, gQ, bX]
  by_cases k0 : iV M R (oK M R r) = 0
  ·simp only [neF (show iV M R (oK M R r) = Int.ofNat 0 from k0), bN, e3, aT, nY, nU, iI]
   cases q with
   | false =>
    refine .inl ⟨fun ⟨i, q⟩ => ?_, ?_⟩
    ·have := q1.2 ⟨i, q.2.1, q.2.2⟩
     cases this
    ·simp only [Bool.not_false, bP, ef, aT, nY, nU]
   | true =>
    obtain ⟨i, w1, w2⟩ := q1.1 rfl
    have hp := q2 i w1 w2
    subst hp
    refine .inr ⟨i, ⟨⟨e, k0⟩, w1, w2⟩, ?_⟩
    simp only [Bool.not_true, bN, l1, aT]
  ·refine .inl ⟨fun ⟨i, q⟩ => k0 q.1.2, ?_⟩
   simp only [neT (show iV M R (oK M R r) ≠ Int.ofNat 0 from k0), bP, ef, aT, nY, nU]
theorem plnF.may (q : plnF M R r v i) : dH r M.pl = true ∧ dH v M.pl = true := ⟨rK q.1.1, cKt q.2.1⟩
theorem cLe (V : Wv k h M R es z) {v : Int} (S : SlI x [v] h) (r : Int) {m : Nat} (hm : 300 < m) :
  ∃ a e h', dJ (m + 5) 16 [.p (aQ 7) 0, iD 50, iD r, x] h = some (.t [iD a, iD e], h') ∧ Wv k h' M R es z ∧ Up h h' ∧
   ((¬ (∃ i, plnF M R r v i) ∧ a = 0 ∧ e = 20) ∨ (∃ i, plnF M R r v i ∧ a = lR M r i ∧ e = 0)) := by
 rcases cQp cHs rfl V S (by simp) r (m := m + 1) (by omega) with ⟨q, h', e1, V1, U1⟩ | ⟨q, b, h1, V1, U1, D, S1, cont⟩
 ·refine ⟨0, 20, h', e1, V1, U1, .inl ⟨fun ⟨i, w⟩ => ?_, rfl, rfl⟩⟩
  rcases q with q | q | ⟨v', hv, q⟩
  ·exact q rfl
  ·rw [w.may.1] at q; cases q
  ·simp only [List.mem_singleton] at hv; subst hv
   rw [w.may.2] at q; cases q
 ·rcases aLk V1 D S1 (m := m) hm with ⟨q1, e1⟩ | ⟨i, q1, e1⟩
  ·exact ⟨0, 20, h1, cont _ _ _ e1, V1, U1, .inl ⟨q1, rfl, rfl⟩⟩
  ·obtain ⟨er, eg, eg2⟩ := V1.K.W.getA V1.K.G V1.I r i
   have er0 : er = 0 := eg2.2 ⟨q1.1.1, q1.2.2⟩
   subst er0
   have l2 := D.l2
   have d : ((50 : Int) == Int.ofNat 51) = false := rfl
   refine ⟨lR M r i, 0, h1, cont _ _ _ ?_, V1, U1, .inr ⟨i, q1, rfl, rfl⟩⟩
   rw [e1]
   simp only [iD] at l2 eg ⊢
   simp only [cJ, d, aT, bN, fD, nW, l2, eg, nY, nU]
theorem dLb (V : Wv k h M R es) {v y : Int} (S : SlI x [v, y] h) (r : Int) {m : Nat} (hm : 300 < m) :
  ∃ a e h', dJ (m + 5) 16 [.p (aQ 7) 0, iD 51, iD r, x] h = some (.t [iD a, iD e], h') ∧ Up h h' ∧
   ((¬ (dH y M.pl = true ∧ ∃ i, plnF M R r v i) ∧ a = 0 ∧ e = 20 ∧ Wv k h' M R es) ∨ (∃ i, dH y M.pl = true ∧ plnF M R r v i ∧ a = y ∧ e = 0 ∧ Wv k h' (M.putW r i y) R es False)) := by
 rcases cQp cBc rfl V S (by simp) r (m := m + 1) (by omega) with ⟨q, h', e1, V1, U1⟩ | ⟨q, b, h1, V1, U1, D, S1, cont⟩
 ·refine ⟨0, 20, h', e1, U1, .inl ⟨fun ⟨my, i, w⟩ => ?_, rfl, rfl, V1⟩⟩
  rcases q with q | q | ⟨v', hv, q⟩
  ·exact q rfl
  ·rw [w.may.1] at q; cases q
  ·simp only [List.mem_cons, List.not_mem_nil, or_false] at hv
   rcases hv with rfl | rfl
   ·rw [w.may.2] at q; cases q
   ·rw [my] at q; cases q
 ·have my : dH y M.pl = true := by
   cases hv : dH y M.pl with
   | true => rfl
   | false => exact absurd (.inr (.inr ⟨y, by simp, hv⟩)) q
  rcases aLk V1 D S1 (m := m) hm with ⟨q1, e1⟩ | ⟨i, q1, e1⟩
  ·exact ⟨0, 20, h1, cont _ _ _ e1, U1, .inl ⟨fun q => q1 q.2, rfl, rfl, V1⟩⟩
  ·have fm := (q1.1.nil V1.I V1.K.G).1
   obtain ⟨h2, e2, V2, U2⟩ := V1.put (v := y) (z' := False) (q1.1.put V1.I V1.K.G q1.2.2) (fun q => by rw [fm] at q; cases q) (by rw [fm]; exact my) (fun q => q.elim)
   have D2 := D.up U2
   have S2 := S1.up U2
   obtain ⟨a1, g1', g2'⟩ := S1.at (i := 1) rfl
   obtain ⟨a2, g3', g4'⟩ := S2.at (i := 1) rfl
   have l2 := D.l2
   have d : ((51 : Int) == Int.ofNat 51) = true := rfl
   refine ⟨y, 0, h2, cont _ _ _ ?_, U1.trans U2, .inr ⟨i, my, q1, rfl, rfl, V2⟩⟩
   rw [e1]
   simp only [iD] at l2 e2 g2' g4' ⊢
   simp only [cJ, d, aT, bP, fD, nW, l2, D.l3 S1, g1', g2', e2, D2.l3 S2, g3', g4']
   rfl
end
end Go.Dd

namespace Go.Dd
open Go.Proofs
structure Three (h : Hp) (k1 N1 : Int) (s1 : List Nat) (k2 N2 : Int) (s2 : List Nat) (k3 N3 : Int) (s3 : List Nat) : Prop where
 t1 : Tg h (pK 1021) k1 N1 s1
 t2 : Tg h (pK 1022) k2 N2 s2
 t3 : Tg h (pK 1023) k3 N3 s3
 nx : 1024 ≤ h.next.toNat
theorem Three.up {h h' : Hp} {k1 N1 k2 N2 k3 N3 : Int} {s1 s2 s3 : List Nat} (T : Three h k1 N1 s1 k2 N2 s2 k3 N3 s3) (U : Up h h') : Three h' k1 N1 s1 k2 N2 s2 k3 N3 s3 := by
 have := T.nx
 exact ⟨T.t1.up U (by rw [xA]; omega) (by rw [xA]; omega), T.t2.up U (by rw [wG]; omega) (by rw [wG]; omega), T.t3.up U (by rw [vE]; omega) (by rw [vE]; omega), Nat.le_trans T.nx U.next⟩
theorem nZ {p q s : Pos} (n1 : p ≠ q) (n2 : p ≠ s) (n3 : q ≠ s) (o1 o2 o3 : Ob) (T : Tr Ob) (nx : Pos) : (⟨nx, Tr.set o3 s (Tr.set o2 q (Tr.set o1 p T))⟩ : Hp).bl.get p = some o1 ∧ (⟨nx, Tr.set o3 s (Tr.set o2 q (Tr.set o1 p T))⟩ : Hp).bl.get q = some o2 ∧ (⟨nx, Tr.set o3 s (Tr.set o2 q (Tr.set o1 p T))⟩ : Hp).bl.get s = some o3 :=
 ⟨(dQa _ _ _ _ n2).trans ((dQa _ _ _ _ n1).trans (dQb _ _ _)), (dQa _ _ _ _ n3).trans (dQb _ _ _), dQb _ _ _⟩
theorem aNp (k1 N1 : Int) (s1 : List Nat) (k2 N2 : Int) (s2 : List Nat) (k3 N3 : Int) (s3 : List Nat) : ∃ h1 h2 h3, bS (th k1 N1 s1) (hK 1021) = some (.p (pK 1021) 0, h1) ∧ bS (th k2 N2 s2) h1 = some (.p (pK 1022) 0, h2) ∧ bS (th k3 N3 s3) h2 = some (.p (pK 1023) 0, h3) ∧
  jB 12 [] h3 = some (.p (aQ 7) 0, hWo h3) ∧ Wv 20000 (hWo h3) MN RN esN ∧ Three (hWo h3) k1 N1 s1 k2 N2 s2 k3 N3 s3 := by
 refine ⟨_, ⟨pK 1023, Tr.set (.row .ex [iD k2, iD N2, .s s2]) (pK 1022) (Tr.set (.row .ex [iD k1, iD N1, .s s1]) (pK 1021) .e)⟩,
  ⟨aQ 1, Tr.set (.row .ex [iD k3, iD N3, .s s3]) (pK 1023) (Tr.set (.row .ex [iD k2, iD N2, .s s2]) (pK 1022) (Tr.set (.row .ex [iD k1, iD N1, .s s1]) (pK 1021) .e))⟩, bXl _ _ _ _, ?_, ?_, ?_, WvN _, ?_⟩
 ·rw [bXl]
  show some (DV.p (pK 1021).succ 0, (⟨(pK 1021).succ.succ, Tr.set _ (pK 1021).succ _⟩ : Hp)) = _
  rw [cWe, cYe]
  rfl
 ·rw [bXl]
  show some (DV.p (pK 1023) 0, (⟨(pK 1023).succ, Tr.set _ (pK 1023) _⟩ : Hp)) = _
  rw [cXd]
 ·exact bMb _ (by kernel_rfl)
 ·have n1 : pK 1021 ≠ pK 1022 := fun e => by have := congrArg Pos.toNat e; rw [xA, wG] at this; omega
  have n2 : pK 1021 ≠ pK 1023 := fun e => by have := congrArg Pos.toNat e; rw [xA, vE] at this; omega
  have n3 : pK 1022 ≠ pK 1023 := fun e => by have := congrArg Pos.toNat e; rw [wG, vE] at this; omega
  refine ⟨dRo ?_ (by rw [xA]; omega), dRo ?_ (by rw [wG]; omega), dRo ?_ (by rw [vE]; omega), ?_⟩
  ·exact (nZ n1 n2 n3 _ _ _ _ _).1
  ·exact (nZ n1 n2 n3 _ _ _ _ _).2.1
  ·exact (nZ n1 n2 n3 _ _ _ _ _).2.2
  ·exact Nat.le_trans (by omega) (WNo _).nx
end Go.Dd

namespace Go.Dd
open Go.Proofs
noncomputable def s7 (rec : FuncId → List DV → Hp → aJ) (n : Nat) (x0 x1 x2 : DV) (h0 : Hp) : aJ :=
 bnd (bS x0 h0) fun v1 h1 =>
 bnd (bS x1 h1) fun v2 h2 =>
 bnd (bS x2 h2) fun v3 h3 =>
 bnd (rec 12 [] h3) fun v4 h4 =>
 bnd (pEq (.pointer 64) true v4 .p0 h4) fun v5 h5 =>
 aR v5 (
  some ((.b false), h5)) (
  bnd (aK 3 v1 h5) fun v6 h6 =>
  bnd (rec 14 [v4, v6] h6) fun v7 h7 =>
  bnd (aK 3 v2 h7) fun v8 h8 =>
  bnd (rec 14 [v4, v8] h8) fun v9 h9 =>
  bnd (aK 3 v3 h9) fun v10 h10 =>
  bnd (rec 14 [v4, v10] h10) fun v11 h11 =>
  bnd (rec 23 [v4] h11) fun v12 h12 =>
  bnd (isF [v12, v7] h12) fun v13 h13 =>
  bnd (gD v13 true (some (v4, h13)) h13) fun v14 h14 =>
  bnd (gD v13 true (some (v4, h14)) h14) fun v15 h15 =>
  bnd (gD v13 true (some (v7, h15)) h15) fun v16 h16 =>
  bnd (gD v13 true (rec 25 [v15, v16] h16) h16) fun v17 h17 =>
  bnd (gD v13 true (rec 32 [v14, v17] h17) h17) fun v18 h18 =>
  bnd (gD v13 true (aD .eql v18 (.i .i64 (Int.ofNat 0)) h18) h18) fun v19 h19 =>
  bnd (aP v13 v19 (.b false) h19) fun v20 h20 =>
  bnd (rec 15 [v4, v9] h20) fun v21 h21 =>
  bnd (aC 0 v21 h21) fun v22 h22 =>
  bnd (aC 1 v21 h22) fun v23 h23 =>
  bnd (gD v20 true (some (v23, h23)) h23) fun v24 h24 =>
  bnd (aP v20 v24 (.b false) h24) fun v25 h25 =>
  bnd (gD v25 true (some (v22, h25)) h25) fun v26 h26 =>
  bnd (gD v25 true (aD .geq v26 (.i .i64 (Int.ofNat 1)) h26) h26) fun v27 h27 =>
  bnd (aP v25 v27 (.b false) h27) fun v28 h28 =>
  bnd (gD v28 true (some (v22, h28)) h28) fun v29 h29 =>
  bnd (gD v28 true (some (v4, h29)) h29) fun v30 h30 =>
  bnd (gD v28 true (rec 23 [v30] h30) h30) fun v31 h31 =>
  bnd (gD v28 true (some (v7, h31)) h31) fun v32 h32 =>
  bnd (gD v28 true (eI [v31, v32] h32) h32) fun v33 h33 =>
  bnd (gD v28 true (aD .leq v29 v33 h33) h33) fun v34 h34 =>
  bnd (aP v28 v34 (.b false) h34) fun v35 h35 =>
  bnd (aL [(.i .i64 (Int.ofNat 0))] 1 [(0, 1, v9)] h35) fun v36 h36 =>
  bnd (rec 16 [v4, (.i .i64 (Int.ofNat 50)), v7, v36] h36) fun v37 h37 =>
  bnd (aC 0 v37 h37) fun v38 h38 =>
  bnd (aC 1 v37 h38) fun v39 h39 =>
  bnd (aD .eql v39 (.i .i64 (Int.ofNat 0)) h39) fun v40 h40 =>
  bnd (pEq .bool false v35 v40 h40) fun v41 h41 =>
  bnd (gD v41 false (some (v35, h41)) h41) fun v42 h42 =>
  bnd (gD v41 false (some (v42, h42)) h42) fun v43 h43 =>
  bnd (gD v43 true (some (v38, h43)) h43) fun v44 h44 =>
  bnd (gD v43 true (aD .neq v44 (.i .i64 (Int.ofNat 0)) h44) h44) fun v45 h45 =>
  bnd (gD v41 false (aP v43 v45 (.b false) h45) h45) fun v46 h46 =>
  bnd (aP v41 (.b true) v46 h46) fun v47 h47 =>
  aR v47 (
   some ((.b false), h47)) (
   bnd (aL [(.i .i64 (Int.ofNat 0)), (.i .i64 (Int.ofNat 0))] 2 [(0, 1, v9), (1, 1, v11)] h47) fun v48 h48 =>
   bnd (rec 16 [v4, (.i .i64 (Int.ofNat 51)), v7, v48] h48) fun v49 h49 =>
   bnd (aC 0 v49 h49) fun v50 h50 =>
   bnd (aC 1 v49 h50) fun v51 h51 =>
   bnd (gD v35 true (some (v4, h51)) h51) fun v52 h52 =>
   bnd (gD v35 true (rec 23 [v52] h52) h52) fun v53 h53 =>
   bnd (gD v35 true (some (v11, h53)) h53) fun v54 h54 =>
   bnd (gD v35 true (aAb [v53, v54] h54) h54) fun v55 h55 =>
   bnd (aP v35 v55 (.b false) h55) fun v56 h56 =>
   bnd (aD .eql v51 (.i .i64 (Int.ofNat 0)) h56) fun v57 h57 =>
   bnd (pEq .bool false v56 v57 h57) fun v58 h58 =>
   bnd (gD v58 false (some (v56, h58)) h58) fun v59 h59 =>
   bnd (gD v58 false (some (v59, h59)) h59) fun v60 h60 =>
   bnd (gD v60 true (some (v50, h60)) h60) fun v61 h61 =>
   bnd (gD v60 true (some (v11, h61)) h61) fun v62 h62 =>
   bnd (gD v60 true (aD .neq v61 v62 h62) h62) fun v63 h63 =>
   bnd (gD v58 false (aP v60 v63 (.b false) h63) h63) fun v64 h64 =>
   bnd (aP v58 (.b true) v64 h64) fun v65 h65 =>
   aR v65 (
    some ((.b false), h65)) (
    bnd (aL [(.i .i64 (Int.ofNat 0))] 1 [(0, 1, v9)] h65) fun v66 h66 =>
    bnd (rec 16 [v4, (.i .i64 (Int.ofNat 50)), v7, v66] h66) fun v67 h67 =>
    bnd (aC 0 v67 h67) fun v68 h68 =>
    bnd (aC 1 v67 h68) fun v69 h69 =>
    aR v56 (
     bnd (aD .eql v68 v11 h69) fun v70 h70 =>
     bnd (gD v70 true (some (v69, h70)) h70) fun v71 h71 =>
     bnd (gD v70 true (aD .eql v71 (.i .i64 (Int.ofNat 0)) h71) h71) fun v72 h72 =>
     bnd (aP v70 v72 (.b false) h72) fun v73 h73 =>
     bnd (gD v73 true (rec 13 [] h73) h73) fun v74 h74 =>
     bnd (aP v73 v74 (.b false) h74) fun v75 h75 =>
     some (v75, h75)) (
     bnd (aD .eql v69 (.i .i64 (Int.ofNat 0)) h69) fun v76 h76 =>
     bnd (pEq .bool true v76 v35 h76) fun v77 h77 =>
     bnd (gD v77 true (rec 13 [] h77) h77) fun v78 h78 =>
     bnd (aP v77 v78 (.b false) h78) fun v79 h79 =>
     some (v79, h79)))))
noncomputable def D7 (rec : FuncId → List DV → Hp → aJ) (n : Nat) (c : Code) (X : Nat → K) (k : K) : K := aM CF rec 141 n c X (aU CF Tryz.f7) k
theorem s7m (rec : FuncId → List DV → Hp → aJ) (n : Nat) : D7 rec n (cf Tryz.f7) x0 (aU CF Tryz.f7) = (fun (env : aZ) (h : Hp) => s7 rec n (env 0) (env 1) (env 2) h) :=
 (by kernel_rfl)
theorem dNv (rec : FuncId → List DV → Hp → aJ) (n : Nat) (args : List DV) (h : Hp) : aF CF rec n 7 args h = s7 rec n (args.getD 0 aV) (args.getD 1 aV) (args.getD 2 aV) h :=
 (by kernel_rfl : aF CF rec n 7 args h = D7 rec n (cf Tryz.f7) x0 (aU CF Tryz.f7) (aH args) h).trans ((congrFun (congrFun (s7m rec n) (aH args)) h).trans (by kernel_rfl))
end Go.Dd

namespace Go.Dd
open Go.Proofs
theorem cWh (b : Bool) : (b != b) = false := by cases b <;> rfl
section
variable {h h' : Hp} {M M' : MemV} {R R' : List Int} {es es' : List (DV × DV)} {k : Nat} {z z' : Prop} {CL : List Nat} {b : Pos} {n r v : Int} {x : DV} {l : List Int} {i : Nat}
theorem aMr (V : Wv k h M R es z) (r x : Int) : ∃ q : Bool, (q = true ↔ ∃ i, plnF M R r x i) ∧ ∀ A : DV → Hp → aJ,
  (bnd (isF [.p (aQ 3) 0, iD r] h) fun v13 h13 =>
  bnd (gD v13 true (some (.p (aQ 7) 0, h13)) h13) fun v14 h14 =>
  bnd (gD v13 true (some (.p (aQ 7) 0, h14)) h14) fun v15 h15 =>
  bnd (gD v13 true (some (iD r, h15)) h15) fun v16 h16 =>
  bnd (gD v13 true (jB 25 [v15, v16] h16) h16) fun v17 h17 =>
  bnd (gD v13 true (jB 32 [v14, v17] h17) h17) fun v18 h18 =>
  bnd (gD v13 true (aD .eql v18 (.i .i64 (Int.ofNat 0)) h18) h18) fun v19 h19 =>
  bnd (aP v13 v19 (.b false) h19) fun v20 h20 =>
  bnd (jB 15 [.p (aQ 7) 0, iD x] h20) fun v21 h21 =>
  bnd (aC 0 v21 h21) fun v22 h22 =>
  bnd (aC 1 v21 h22) fun v23 h23 =>
  bnd (gD v20 true (some (v23, h23)) h23) fun v24 h24 =>
  bnd (aP v20 v24 (.b false) h24) fun v25 h25 =>
  bnd (gD v25 true (some (v22, h25)) h25) fun v26 h26 =>
  bnd (gD v25 true (aD .geq v26 (.i .i64 (Int.ofNat 1)) h26) h26) fun v27 h27 =>
  bnd (aP v25 v27 (.b false) h27) fun v28 h28 =>
  bnd (gD v28 true (some (v22, h28)) h28) fun v29 h29 =>
  bnd (gD v28 true (some (.p (aQ 7) 0, h29)) h29) fun v30 h30 =>
  bnd (gD v28 true (jB 23 [v30] h30) h30) fun v31 h31 =>
  bnd (gD v28 true (some (iD r, h31)) h31) fun v32 h32 =>
  bnd (gD v28 true (eI [v31, v32] h32) h32) fun v33 h33 =>
  bnd (gD v28 true (aD .leq v29 v33 h33) h33) fun v34 h34 =>
  bnd (aP v28 v34 (.b false) h34) fun v35 h35 => A v35 h35) = A (.b q) h := by
 have em := V.K.W.memory 899
 have is := V.K.W.is r
 have co := V.K.W.classOf V.K.G r 898
 have kd := V.K.W.kind V.K.G V.I (oK M R r) 897
 have va := V.K.W.value V.K.G V.I x 898
 have fl := V.K.W.fieldsA V.K.G V.I r
 simp only [iD] at is co kd va fl ⊢
 simp only [is, aT]
 by_cases e : bL r M.pl = 0
 ·have hb : (!(Nat.beq (bL r M.pl) 0)) = false := by rw [e]; rfl
  refine ⟨false, ⟨fun q => (by cases q), fun ⟨i, q⟩ => absurd e q.1.1⟩, fun A => ?_⟩
  simp only [hb, iQ, nF, aT, bX, aWo, va, nY, nU]
 ·have hb : (!(Nat.beq (bL r M.pl) 0)) = true := by rw [aQc e]; rfl
  simp only [hb, lP, aT, cJp, co, cNg, kd, cJ, cE, aWo, va, nY, nU]
  by_cases k0 : iV M R (oK M R r) = 0
  ·simp only [eqX (show iV M R (oK M R r) = Int.ofNat 0 from k0), lP, aT, cE]
   cases hv : lL M R x with
   | none =>
    refine ⟨false, ⟨fun q => (by cases q), fun ⟨i, q⟩ => by have := q.2.1; rw [hv] at this; cases this⟩, fun A => ?_⟩
    simp only [Option.isSome_none, iQ, nF, aT, bX]
   | some w =>
    simp only [Option.isSome_some, Option.getD_some, lP, aT, jW, cE, show Int.ofNat 1 = (1 : Int) from rfl]
    by_cases c1 : w ≥ 1
    ·obtain ⟨i, rfl⟩ : ∃ i : Nat, w = Int.ofNat (i + 1) := ⟨w.toNat - 1, by show w = ((w.toNat - 1 + 1 : Nat) : Int); omega⟩
     simp only [decide_eq_true c1, lP, aT, sR, em, fl, aPy, cE]
     by_cases c2 : Int.ofNat (i + 1) ≤ Int.ofNat (cM M r / 4)
     ·refine ⟨true, ⟨fun _ => ⟨i, ⟨e, k0⟩, hv, by simp at c2; omega⟩, fun _ => rfl⟩, fun A => ?_⟩
      simp only [decide_eq_true c2]
     ·refine ⟨false, ⟨fun q => (by cases q), fun ⟨j, q⟩ => ?_⟩, fun A => ?_⟩
      ·have w2 := q.2.1
       rw [hv] at w2
       have := Int.ofNat.inj (Option.some.inj w2)
       have := q.2.2
       simp at c2
       omega
      ·simp only [decide_eq_false c2]
    ·refine ⟨false, ⟨fun q => (by cases q), fun ⟨j, q⟩ => ?_⟩, fun A => ?_⟩
     ·have w2 := q.2.1
      rw [hv] at w2
      have := Option.some.inj w2
      rw [this] at c1
      exact absurd (by show (1 : Int) ≤ ((j + 1 : Nat) : Int); omega) c1
     ·simp only [decide_eq_false c1, iQ, nF, aT, bX]
  ·refine ⟨false, ⟨fun q => (by cases q), fun ⟨i, q⟩ => absurd q.1.2 k0⟩, fun A => ?_⟩
   simp only [oG (show iV M R (oK M R r) ≠ Int.ofNat 0 from k0), iQ, nF, aT, bX]
end
theorem bLg {k1 N1 k2 N2 k3 N3 : Int} {s1 s2 s3 : List Nat} (i1 : i64 N1) (i2 : i64 N2) (i3 : i64 N3) (b1 : byS s1) (b2 : byS s2) (b3 : byS s3) : ∃ k, aF CF jB 900 7 [th k1 N1 s1, th k2 N2 s2, th k3 N3 s3] (hK 1021) = some (.b true, k) := by
 obtain ⟨h1, h2, h3, e1, e2, e3, e4, V0, T0⟩ := aNp k1 N1 s1 k2 N2 s2 k3 N3 s3
 obtain ⟨r, h5, M5, R5, es5, e5, V5, U5, S5⟩ := aDl (k := 19740) V0 k1 i1 b1 (m := 894) (by omega)
 have T5 := T0.up U5
 obtain ⟨x, h6, M6, R6, es6, e6, V6, U6, S6⟩ := aDl (k := 19480) V5 k2 i2 b2 (m := 894) (by omega)
 have T6 := T5.up U6
 obtain ⟨y, h7, M7, R7, es7, e7, V7, U7, S7⟩ := aDl (k := 19220) V6 k3 i3 b3 (m := 894) (by omega)
 have em := V7.K.W.memory 899
 have lv := bIb
 have o50 : Int.ofNat 50 = (50 : Int) := rfl
 have o51 : Int.ofNat 51 = (51 : Int) := rfl
 obtain ⟨y1, h8, e8, L8, U8, V8⟩ := aEj V7 x
 obtain ⟨a1, f1, h9, e9, V9, U9, A9⟩ := cLe V8 L8 r (m := 895) (by omega)
 obtain ⟨y2, h10, e10, L10, U10, V10⟩ := dCx V9 x y
 obtain ⟨a2, f2, h11, e11, U11, A11⟩ := dLb V10 L10 r (m := 895) (by omega)
 have gg : ∀ a : Int, (a == a) = true := fun a => eqX rfl
 have nn : ∀ a : Int, (a != a) = false := fun a => neF rfl
 have d1 : ((20 : Int) == Int.ofNat 0) = false := rfl
 have d0 : ((0 : Int) == Int.ofNat 0) = true := rfl
 have n0 : ((0 : Int) != Int.ofNat 0) = false := rfl
 have em' : jB 23 [.p (aQ 7) 0] h7 = some (.p (aQ 3) 0, h7) := (sR _ _).trans em
 rw [dNv]
 simp only [iD] at e1 e2 e3 e5 e6 e7 e8 e9 e10 e11 em
 unfold s7
 simp only [th, iD] at e1 e2 e3 ⊢
 simp only [g0, g1, show ∀ (a b c : DV) (l : List DV), (a :: b :: c :: l).getD 2 aV = c from fun _ _ _ _ => rfl, e1, aT, e2, e3, e4, pE0, bN, T0.t1.ld, cMg, e5, T5.t2.ld, e6, T6.t3.ld, e7, em']
 obtain ⟨q, q1, q2⟩ := aMr V7 r x
 suffices hs : ∃ kf, _ = some (DV.b true, kf) from hs.elim fun kf hs => ⟨kf, (q2 _).trans hs⟩
 have pe : ∀ (p q : Bool) (h : Hp), pEq .bool true (.b p) (.b q) h = some (.b (p == q), h) := fun p q h => by cases p <;> cases q <;> rfl
 have d20 : ((20 : Int) == 0) = false := rfl
 have d00 : ((0 : Int) == 0) = true := rfl
 have n00 : ((0 : Int) != 0) = false := rfl
 cases q with
 | false =>
  have np : ¬ ∃ i, plnF M7 R7 r x i := fun w => by have := q1.2 w; cases this
  rcases A9 with ⟨_, rfl, rfl⟩ | ⟨i, w, _⟩
  ·rcases A11 with ⟨_, rfl, rfl, V11⟩ | ⟨i, _, w, _⟩
   ·obtain ⟨y3, h12, e12, L12, U12, V12⟩ := aEj V11 x
    obtain ⟨a3, f3, h13, e13, V13, U13, A13⟩ := cLe V12 L12 r (m := 895) (by omega)
    rcases A13 with ⟨_, rfl, rfl⟩ | ⟨i, w, _⟩
    ·refine ⟨h13, ?_⟩
     simp only [iD] at e12 e13
     simp only [e8, aT, aCg, o50, e9, nY, nU, cJ, d1, dCj, cWh, gI, iQ, nF, bX, bN, e10, o51, e11, e12, e13, pe, lP, cE, lv, show (false == false) = true from rfl]
    ·exact absurd ⟨i, w⟩ np
   ·exact absurd ⟨i, w⟩ np
  ·exact absurd ⟨i, w⟩ np
 | true =>
  obtain ⟨i, P⟩ := q1.1 rfl
  have nl := P.1.nil V7.I V7.K.G
  rcases A9 with ⟨w, _⟩ | ⟨j, w, rfl, rfl⟩
  ·exact absurd ⟨i, P⟩ w
  ·rw [nl.2 j] at e9
   rcases A11 with ⟨my, rfl, rfl, V11⟩ | ⟨j2, my, w2, rfl, rfl, V11⟩
   ·obtain ⟨y3, h12, e12, L12, U12, V12⟩ := aEj V11 x
    obtain ⟨a3, f3, h13, e13, V13, U13, A13⟩ := cLe V12 L12 r (m := 895) (by omega)
    have m0 : dH y M7.pl = false := by
     cases hm : dH y M7.pl with
     | false => rfl
     | true => exact absurd ⟨hm, i, P⟩ my
    have em11 : jB 23 [.p (aQ 7) 0] h11 = some (.p (aQ 3) 0, h11) := (sR _ _).trans (V11.K.W.memory 899)
    have my11 := V11.K.W.may y
    rw [m0] at my11
    rcases A13 with ⟨w, _⟩ | ⟨j3, w, rfl, rfl⟩
    ·exact absurd ⟨i, P⟩ w
    ·refine ⟨h13, ?_⟩
     simp only [iD] at e12 e13
     simp only [e8, aT, aCg, o50, e9, nY, nU, cJ, d0, d00, dCj, cWh, gI, lP, gQ, n0, n00, cE, bX, bN, e10, o51, e11, em11, my11, d1, d20, iQ, nF, e12, e13, pe, lv, show (true == true) = true from rfl]
   ·obtain ⟨y3, h12, e12, L12, U12, V12⟩ := aEj V11 x
    obtain ⟨a3, f3, h13, e13, V13, U13, A13⟩ := cLe V12 L12 r (m := 895) (by omega)
    have ej := w2.one P
    subst ej
    have PP := P.1.put V7.I V7.K.G P.2.2
    have c10 : gL M7 r ≠ R7.getD 10 0 := P.1.ne V7.I V7.K.G (j := 8) (by omega) (by rw [show 3 + 9 * 8 + 8 = 83 from rfl, V7.I.k8]; decide)
    have P2 : plnF (M7.putW r j2 a2) R7 r x j2 := by
     refine ⟨⟨P.1.1, ?_⟩, ?_, ?_⟩
     ·rw [cDg V7.I V7.K.G PP, bVr V7.I V7.K.G PP]; exact P.1.2
     ·rw [cFj V7.I V7.K.G PP c10]; exact P.2.1
     ·rw [pW V7.I V7.K.G PP]; exact P.2.2
    have em11 : jB 23 [.p (aQ 7) 0] h11 = some (.p (aQ 3) 0, h11) := (sR _ _).trans (V11.K.W.memory 899)
    have my11 := V11.K.W.may a2
    rw [show dH a2 (M7.putW r j2 a2).pl = true from my] at my11
    rcases A13 with ⟨w, _⟩ | ⟨j3, w, rfl, rfl⟩
    ·exact absurd ⟨j2, P2⟩ w
    ·have ej := w.one P2
     subst ej
     rw [bVe V7.I V7.K.G PP, if_pos rfl] at e13
     refine ⟨h13, ?_⟩
     simp only [iD] at e12 e13
     simp only [e8, aT, aCg, o50, e9, nY, nU, cJ, d0, d00, dCj, cWh, gI, lP, gQ, n0, n00, nn, gg, cE, bX, bN, bP, e10, o51, e11, em11, my11, e12, e13, pe, lv]
end Go.Dd

namespace Go.Dd
open Go.Proofs
theorem bQl {P : Program} {W : World} {base : Nat} {t : TypeId} {v : Value} {fs : Array Field} (ht : P.underlying t = some (.struct fs)) (h : Value.okWide P W .any base t v) : ∃ cs, v = .agg cs := by
 unfold Value.okWide at h
 rw [ht] at h
 obtain ⟨cs, e, _⟩ := h
 exact ⟨cs, e⟩
theorem bAg : Tryz.prog.cellsOf 23 = 3 := by kernel_rfl
theorem bMu : Tryz.prog.cellsOf 3 = 1 := by kernel_rfl
theorem bJi : Tryz.prog.cellsOf 9 = 1 := by kernel_rfl
section
variable {H : Type} {enc : TypeId × Value → H} {W : World} {base b0 : Nat} {sp : Nat → Bool} {held : Bool}
theorem aPw {n : Nat} {cs : List Value} {x : DataW H × List MemPlace} (h : DataW.trod enc Tryz.prog W base sp held n 23 cs = some x) :
  ∃ (kd N : Int) (s : ByteArray), cs = [.int .i64 kd, .int .i64 N, .string s] ∧ x = (.agg [.lit (.int .i64 kd), .lit (.int .i64 N), .lit (.string s.data.toList)], []) ∧ (Lit.int .i64 kd).wf = true ∧ (Lit.int .i64 N).wf = true ∧ s.size ≤ maxLen := by
 obtain ⟨xs, n, rfl, hx, hl, hs, hf⟩ := DataW.trod_struct Tryz.underlying23 h
 rw [bAg] at hl
 match cs, hl with
 | [a, b, c], _ =>
  have hs : xs.length = 3 := hs
  match xs, hs with
  | [x0, x1, x2], _ =>
   have f0 := hf 0 _ rfl
   have f1 := hf 1 _ rfl
   have f2 := hf 2 _ rfl
   change DataW.trod enc Tryz.prog W base sp held n 3 (List.take (Tryz.prog.cellsOf 3) [a, b, c]) = some x0 at f0
   change DataW.trod enc Tryz.prog W base sp held n 3 (List.take (Tryz.prog.cellsOf 3) [b, c]) = some x1 at f1
   change DataW.trod enc Tryz.prog W base sp held n 9 (List.take (Tryz.prog.cellsOf 9) [c]) = some x2 at f2
   rw [bMu] at f0 f1
   rw [bJi] at f2
   obtain ⟨kd, e0, q0, w0⟩ := DataW.trod_int Tryz.underlying3 f0
   obtain ⟨N, e1, q1, w1⟩ := DataW.trod_int Tryz.underlying3 f1
   obtain ⟨s, e2, q2, w2⟩ := DataW.trod_string Tryz.underlying9 f2
   simp only [List.take, List.cons.injEq, and_true] at e0 e1 e2
   subst e0 e1 e2
   refine ⟨kd, N, s, rfl, ?_, w0, w1, w2⟩
   rw [hx, q0, q1, q2]
   rfl
theorem aRu {kd N : Int} {s : ByteArray} (w0 : (Lit.int .i64 kd).wf = true) (w1 : (Lit.int .i64 N).wf = true) (w2 : s.size ≤ maxLen) (n : Nat) :
  DataW.trod enc Tryz.prog W base sp held (n + 2) 23 [.int .i64 kd, .int .i64 N, .string s] = some (.agg [.lit (.int .i64 kd), .lit (.int .i64 N), .lit (.string s.data.toList)], []) := by
 have t0 : DataW.trod enc Tryz.prog W base sp held (n + 1) 3 [.int .i64 kd] = some (.lit (.int .i64 kd), []) := by
  rw [DataW.trod_step]; unfold DataW.trodStep; rw [Tryz.underlying3]; simp [w0]
 have t1 : DataW.trod enc Tryz.prog W base sp held (n + 1) 3 [.int .i64 N] = some (.lit (.int .i64 N), []) := by
  rw [DataW.trod_step]; unfold DataW.trodStep; rw [Tryz.underlying3]; simp [w1]
 have t2 : DataW.trod enc Tryz.prog W base sp held (n + 1) 9 [.string s] = some (.lit (.string s.data.toList), []) := by
  rw [DataW.trod_step]; unfold DataW.trodStep; rw [Tryz.underlying9]; simp [w2]
 rw [DataW.trod_step]; unfold DataW.trodStep; rw [Tryz.underlying23]
 simp [bAg, bMu, bJi, t0, t1, t2]
theorem oP {v : Value} {d : DataW H} {ps : List MemPlace} (hval : Value.okWide Tryz.prog W .any b0 23 v) (hd : DataW.Trod enc Tryz.prog W base sp held 23 v d ps) :
  ∃ (kd N : Int) (s : ByteArray), v = .agg #[.int .i64 kd, .int .i64 N, .string s] ∧ ps = [] ∧ (Lit.int .i64 N).wf = true ∧ ∀ (W' : World) (base' : Nat) (sp' : Nat → Bool), DataW.Trod enc Tryz.prog W' base' sp' held 23 (.agg #[.int .i64 kd, .int .i64 N, .string s]) d [] := by
 obtain ⟨cs, rfl⟩ := bQl Tryz.underlying23 hval
 obtain ⟨n, hf⟩ := hd
 have hf : DataW.trod enc Tryz.prog W base sp held n 23 cs.toList = some (d, ps) := hf
 obtain ⟨kd, N, s, e, ex, w0, w1, w2⟩ := aPw hf
 have ecs : cs = #[.int .i64 kd, .int .i64 N, .string s] := by
  apply Array.toList_inj.1
  exact e
 cases ex
 exact ⟨kd, N, s, by rw [ecs], rfl, w1, fun W' base' sp' => ⟨2, aRu w0 w1 w2 0⟩⟩
end
theorem aPs {n : Int} (w : (Lit.int .i64 n).wf = true) : i64 n := Go.bounds_i64 w
theorem wZ {ρ : dA} (kd N : Int) (s : ByteArray) : VR ρ (th kd N (s.data.toList.map (·.toNat))) (.agg #[.int .i64 kd, .int .i64 N, .string s]) :=
 .a _ _ (.cons _ _ _ _ (.i _ _) (.cons _ _ _ _ (.i _ _) (.cons _ _ _ _ (.s _ _ rfl) .nil)))
end Go.Dd

