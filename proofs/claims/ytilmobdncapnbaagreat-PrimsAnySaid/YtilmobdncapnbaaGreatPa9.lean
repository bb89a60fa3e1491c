/- A part of the proof: TX3 TX4 GN WR WM WA WC WP1 WP2 WP3 WP4 WP5 WP6 WP7 WQ1 XL4 WA4 WQR: each text has a comment of its own. -/
import Derived.Test.YtilmobdncapnbaaGreatPa8
import Derived.WalkKit
import Derived.ProofKit
import Derived.OpenShut
import Derived.ChangeMaps5
set_option linter.unusedVariables false
set_option linter.unusedSimpArgs false
set_option linter.constructorNameAsVariable false
set_option maxRecDepth 100000
namespace Go.Dd
open Go.Proofs
theorem aHz {w : Int} {pl : WT} (h : cI w pl ≠ 0) : dP w pl = true := by
 unfold dP
 split <;> first | rfl | skip
 rw [dRd h]
 simp
theorem sS {w : Int} {pl : WT} {k : Nat} (hk : k < 16000000) (h : dP w pl = true) : dP w (pl.set k (.ofNat 1)) = true := by
 by_cases ha : cI w pl = 0
 ·unfold dP at h ⊢
  by_cases w0 : w = 0
  ·subst w0; rfl
  ·by_cases w2 : w = 2
   ·subst w2; rfl
   ·by_cases w4 : w = 4
    ·subst w4; rfl
    ·split
     ·exact absurd rfl w0
     ·exact absurd rfl w2
     ·exact absurd rfl w4
     ·split at h
      ·exact absurd rfl w0
      ·exact absurd rfl w2
      ·exact absurd rfl w4
      ·rw [ha] at h
       have : dU w = true := by simpa using h
       rw [this]
       rfl
 ·exact aHz (by rw [qP hk ha]; exact ha)
def dNm (M : MemV) (R : List Int) (es : List (DV × DV)) : Prop := ∀ e ∈ es, ∃ s x, e = (.s s, iD x) ∧ TxO M (R.getD 13 0) x s
theorem aWc {es : List (DV × DV)} (s : List Nat) : (∀ e ∈ es, ∃ (k : List Nat) (x : Int), e = (.s k, iD x)) →
  (∃ x, dG .string (.s s) es = some (some (iD x)) ∧ (DV.s s, iD x) ∈ es) ∨ (dG .string (.s s) es = some none ∧ ∀ i, xJ .string (.s s) es i = some none) := by
 induction es with
 | nil => exact fun _ => .inr ⟨rfl, fun _ => rfl⟩
 | cons e es ih =>
  intro h
  obtain ⟨k, x, he⟩ := h e (by simp)
  subst he
  cases hk : eqD s k with
  | true =>
   have := (pL s k).1 hk
   subst this
   exact .inl ⟨x, by simp only [dG, mX, hk], by simp⟩
  | false =>
   rcases ih fun e he => h e (by simp [he]) with ⟨y, h1, h2⟩ | ⟨h1, h2⟩
   ·exact .inl ⟨y, by simp only [dG, mX, hk]; exact h1, by simp [h2]⟩
   ·exact .inr ⟨by simp only [dG, mX, hk]; exact h1, fun i => by simp only [xJ, mX, hk]; exact h2 _⟩
theorem bZx {es l : List (DV × DV)} {k v : DV} (h : dG .string k es = some (some v)) : dG .string k (es ++ l) = some (some v) := by
 induction es with
 | nil => cases h
 | cons e es ih =>
  simp only [List.cons_append, dG] at h ⊢
  split
  ·rename_i hk; rw [hk] at h; exact h
  ·rename_i hk; rw [hk] at h; exact ih h
  ·rename_i hk; rw [hk] at h; cases h
theorem bPi {es : List (DV × DV)} {s : List Nat} {v : DV} (h : dG .string (.s s) es = some none) : dG .string (.s s) (es ++ [(.s s, v)]) = some (some v) := by
 induction es with
 | nil =>
  have : eqD s s = true := (pL s s).2 rfl
  simp only [List.nil_append, dG, mX, this]
 | cons e es ih =>
  simp only [List.cons_append, dG] at h ⊢
  split
  ·rename_i hk; rw [hk] at h; cases h
  ·rename_i hk; rw [hk] at h; exact ih h
  ·rename_i hk; rw [hk] at h; cases h
structure Wk (h : Hp) (M : MemV) (R : List Int) (es : List (DV × DV)) : Prop where
 W : Wd h M R es
 G : Good M
 sy : dNm M R es
 r0 : dP (R.getD 0 0) M.pl = true
 rk : ∀ i, i < 16 → cI (R.getD (2 + i) 0) M.pl ≠ 0
structure Stay (k : Nat) (M M' : MemV) (R R' : List Int) (es es' : List (DV × DV)) : Prop where
 n : M'.n = M.n
 fin : M'.fin ≤ M.fin + k
 made : M'.made ≤ M.made + k
 lo : M.fin ≤ M'.fin
 tx : ∀ cls o s, TxO M cls o s → TxO M' cls o s
 at' : ∀ o, cI o M.pl ≠ 0 → cI o M'.pl = cI o M.pl
 r : ∀ i, R'.getD (i + 1) 0 = R.getD (i + 1) 0
 fd : ∀ s v, dG .string (.s s) es = some (some v) → dG .string (.s s) es' = some (some v)
 gi : ∀ CL, GI M R CL → GI M' R' CL
 old : ∀ j, j < M.fin → M'.t.get j = M.t.get j
theorem Stay.refl (k : Nat) (M : MemV) (R : List Int) (es : List (DV × DV)) : Stay k M M R R es es := ⟨rfl, by omega, by omega, by omega, fun _ _ _ h => h, fun _ _ => rfl, fun _ => rfl, fun _ _ h => h, fun _ h => h, fun _ _ => rfl⟩
theorem Stay.trans {a b : Nat} {M M' M2 : MemV} {R R' R2 : List Int} {es es' es2 : List (DV × DV)} (h : Stay a M M' R R' es es') (k : Stay b M' M2 R' R2 es' es2) : Stay (a + b) M M2 R R2 es es2 :=
 ⟨k.n.trans h.n, by have := h.fin; have := k.fin; omega, by have := h.made; have := k.made; omega, by have := h.lo; have := k.lo; omega, fun c o s t => k.tx _ _ _ (h.tx _ _ _ t),
  fun o ho => by have h1 := h.at' o ho; rw [k.at' o (by rw [h1]; exact ho), h1], fun i => (k.r i).trans (h.r i), fun s v e => k.fd s v (h.fd s v e), fun CL I => k.gi CL (h.gi CL I), fun j hj => by rw [k.old j (by have := h.lo; omega)]; exact h.old j hj⟩
theorem Grown.stay {M M' : MemV} {f : Nat} {cls : Int} {l : List Int} (g : Grown M M' f cls l) (G : Good M) (R : List Int) (es : List (DV × DV)) (N : ∀ CL, GI M R CL → NewI M R CL f cls l) : Stay (l.length + 3) M M' R R es es :=
 ⟨g.n, by rw [g.fin]; exact Nat.le_refl _, by rw [g.made]; omega, by rw [g.fin]; omega, fun _ _ _ t => g.txo G t, fun o ho => by rw [g.pl]; exact qP (by have := G.le; have := G.hi; omega) ho, fun _ => rfl, fun _ _ h => h, fun CL I => g.gi G I (N CL I), fun j hj => g.old j hj⟩
theorem Grown.wk {h h' : Hp} {M M' : MemV} {R : List Int} {es : List (DV × DV)} {f : Nat} {cls : Int} {l : List Int} (g : Grown M M' f cls l) (K : Wk h M R es) (W' : Wd h' M' R es) (hc : cI cls M.pl ≠ 0) (hf : f ≤ 2) (h256 : l.length ≤ 256) (room : M.fin + l.length + 3 ≤ M.n) (hm : M.made < 899999) : Wk h' M' R es := by
 have hk : M.fin < 16000000 := by have := K.G.le; have := K.G.hi; omega
 refine ⟨W', g.good K.G hc hf h256 room hm, fun e he => ?_, by rw [g.pl]; exact sS hk K.r0, fun i hi => by rw [g.pl, qP hk (K.rk i hi)]; exact K.rk i hi⟩
 obtain ⟨s, x, h1, h2⟩ := K.sy e he
 exact ⟨s, x, h1, g.txo K.G h2⟩
section
variable {h : Hp} {M : MemV} {R : List Int} {es : List (DV × DV)}
theorem Wd.setR0 (W : Wd h M R es) (v : Int) : aG 1 (.p (aR 4) 0) (iD v) h = some (aV, ⟨h.next, Tr.set (.row .ex ((R.set 0 v).map iD)) (aR 4) h.bl⟩) ∧ Wd ⟨h.next, Tr.set (.row .ex ((R.set 0 v).map iD)) (aR 4) h.bl⟩ M (R.set 0 v) es ∧
  Up h ⟨h.next, Tr.set (.row .ex ((R.set 0 v).map iD)) (aR 4) h.bl⟩ := by
 obtain ⟨m1, m2, m3, m4, m5, m6⟩ := kJ W.mem
 have ne : ∀ b : Pos, b.toNat ≠ 1027 → (Tr.set (.row .ex ((R.set 0 v).map iD)) (aR 4) h.bl).get b = h.bl.get b := fun b hb => by
  rw [dRt]
  intro e; rw [e, pn4] at hb; exact hb rfl
 refine ⟨?_, ⟨(ne _ (by rw [pn7]; omega)).trans W.w, (by show (Tr.set _ (aR 4) _).get (aR 4) = _; exact dRu _ _ _), by simp [W.rl], (ne _ (by rw [pn5]; omega)).trans W.sy, ?_, W.nx, W.wb, W.pb⟩, ⟨Nat.le_refl _, fun b h1 h2 => ne b (by omega)⟩⟩
 ·have hp : gA 0 (R.map iD) [iD v] = some ((R.set 0 v).map iD) := by
   have hl := W.rl
   cases R with
   | nil => simp at hl
   | cons a l =>
    show kK (iD a :: l.map iD) [iD v] = _
    have : kK (l.map iD) [] = some (l.map iD) := by cases l.map iD <;> rfl
    simp only [kK, DV.one, Bool.and_self, if_true, this, Option.map_some]
    rfl
  have hw : Kind.ex.writable = true := rfl
  simp only [aG, dE, List.length_singleton, if_true, dF, W.r, hw, hp]
 ·exact mP ((ne _ (by rw [pn3]; omega)).trans m1) ((ne _ (by rw [W.wb, pn1]; omega)).trans m2) ((ne _ (by rw [W.pb, pn2]; omega)).trans m3) m4 m5 m6
theorem Wd.setS (W : Wd h M R es) (es' : List (DV × DV)) : Wd ⟨h.next, Tr.set (.mp es') (aR 5) h.bl⟩ M R es' ∧ Up h ⟨h.next, Tr.set (.mp es') (aR 5) h.bl⟩ := by
 obtain ⟨m1, m2, m3, m4, m5, m6⟩ := kJ W.mem
 have ne : ∀ b : Pos, b.toNat ≠ 1028 → (Tr.set (.mp es') (aR 5) h.bl).get b = h.bl.get b := fun b hb => by
  rw [dRt]
  intro e; rw [e, pn5] at hb; exact hb rfl
 exact ⟨⟨(ne _ (by rw [pn7]; omega)).trans W.w, (ne _ (by rw [pn4]; omega)).trans W.r, W.rl, (by show (Tr.set _ (aR 5) _).get (aR 5) = _; exact dRu _ _ _),
  mP ((ne _ (by rw [pn3]; omega)).trans m1) ((ne _ (by rw [W.wb, pn1]; omega)).trans m2) ((ne _ (by rw [W.pb, pn2]; omega)).trans m3) m4 m5 m6, W.nx, W.wb, W.pb⟩, ⟨Nat.le_refl _, fun b h1 h2 => ne b (by omega)⟩⟩
theorem Wk.push (K : Wk h M R es) {x y : Int} (hx : dP x M.pl = true) (hy : dP y M.pl = true) (room : M.fin + 5 ≤ M.n) (hm : M.made < 899999) {n : Nat} (hn : 256 < n) :
  ∃ h' M', dR (n + 2) 73 [.p (aR 7) 0, .i .i64 x, .i .i64 y] h = some (.t [.i .i64 (.ofNat (M.fin * 2)), .i .i64 (.ofNat 0)], h') ∧ Wk h' M' R es ∧ Up h h' ∧ Grown M M' 0 (R.getD 11 0) [x, y] := by
 have hk : M.fin < 16000000 := by have := K.G.le; have := K.G.hi; omega
 have fl : aL [.i .i64 (Int.ofNat 0), .i .i64 (Int.ofNat 0)] 2 [(0, 1, .i .i64 x), (1, 1, .i .i64 y)] h = some (.l h.next 0 2 2, ⟨h.next.succ, Tr.set (.row .ex ([x, y].map iD)) h.next h.bl⟩) := by
  simp [aL, iT, dE]
 obtain ⟨U1, W1⟩ := K.W.new (.row .ex ([x, y].map iD))
 have S : SlI (.l h.next 0 2 2) [x, y] ⟨h.next.succ, Tr.set (.row .ex ([x, y].map iD)) h.next h.bl⟩ := .inr ⟨h.next, 2, .ex, rfl, dRu _ _ _, .inr (Nat.le_trans (by decide) K.W.nx), by show _ < (h.next.succ).toNat; rw [dRw]; omega⟩
 have K1 : Wk ⟨h.next.succ, Tr.set (.row .ex ([x, y].map iD)) h.next h.bl⟩ M R es := ⟨W1, K.G, K.sy, K.r0, K.rk⟩
 obtain ⟨h', M', e1, W2, U2, _, g⟩ := W1.make61 K.G (K.rk 9 (by omega)) (f := 0) (by omega) S (by simp) (by simpa using room) (fun v hv => by
  simp only [List.mem_cons, List.not_mem_nil, or_false] at hv
  rcases hv with rfl | rfl
  ·exact sS hk hx
  ·exact sS hk hy) hn
 refine ⟨h', M', ?_, g.wk K1 W2 (K.rk 9 (by omega)) (by omega) (by simp) (by simpa using room) hm, U1.trans U2, g⟩
 rw [rP 73 rfl, cTf]
 unfold s73
 simp only [g0, g1, g2, aU, K.W.known (show 9 < 16 by omega), fl]
 rw [show (2 : Nat) + 9 = 11 from rfl] at e1 ⊢
 rw [e1]
 simp only [aU, zK, zL]
theorem Wk.symbol (K : Wk h M R es) {s : List Nat} (hs : ∀ c ∈ s, c < 256) (room : M.fin + 70 ≤ M.n) (hm : M.made < 800000) {n : Nat} (hn : 300 < n) :
  ∃ a e h' M' R' es', dR (n + 3) 44 [.p (aR 7) 0, .s s] h = some (.t [.i .i64 a, .i .i64 e], h') ∧ Wk h' M' R' es' ∧ Up h h' ∧ Stay 80 M M' R R' es es' ∧
   ((¬ (1 ≤ s.length ∧ s.length ≤ 60) ∧ e = 1 ∧ a = 0) ∨ ((1 ≤ s.length ∧ s.length ≤ 60) ∧ e = 0 ∧ dG .string (.s s) es' = some (some (iD a)) ∧ TxO M' (R.getD 13 0) a s)) := by
 rw [rP 44 rfl, cSj]
 unfold s44
 have el : ∀ h, dT (.s s) h = some (.i .i64 (s.length : Int), h) := fun h => rfl
 by_cases c1 : s.length < 1
 ·refine ⟨0, 1, h, M, R, es, ?_, K, Up.refl h, Stay.refl _ _ _ _, .inl ⟨by omega, rfl, rfl⟩⟩
  have d1 : decide ((s.length : Int) < Int.ofNat 1) = true := decide_eq_true (by simp; omega)
  simp only [g0, g1, el, aU, cM, d1, fV, dDx, cX, bP]
  rfl
 ·have d1 : decide ((s.length : Int) < Int.ofNat 1) = false := decide_eq_false (by simp; omega)
  by_cases c2 : s.length > 60
  ·refine ⟨0, 1, h, M, R, es, ?_, K, Up.refl h, Stay.refl _ _ _ _, .inl ⟨by omega, rfl, rfl⟩⟩
   have d2 : decide ((s.length : Int) > Int.ofNat 60) = true := decide_eq_true (by simp; omega)
   simp only [g0, g1, el, aU, cM, fR, d1, d2, iE, cU, bP]
   rfl
  ·have d2 : decide ((s.length : Int) > Int.ofNat 60) = false := decide_eq_false (by simp; omega)
   have hl : 1 ≤ s.length ∧ s.length ≤ 60 := by omega
   simp only [g0, g1, el, aU, cM, fR, d1, d2, iE, cU, bV, lH, fld, K.W.l2]
   rcases aWc s (fun e he => by obtain ⟨k, x, h1, _⟩ := K.sy e he; exact ⟨k, x, h1⟩) with ⟨x, f1, f2⟩ | ⟨f1, f2⟩
   ·
    obtain ⟨k, y, e1, T⟩ := K.sy _ f2
    simp only [bO, DV.s.injEq, DV.i.injEq, true_and] at e1
    obtain ⟨rfl, rfl⟩ := e1
    have hx : x ≠ 0 := fun e => T.at0 (by rw [e]; rfl)
    have z1 : (x != Int.ofNat 0) = true := by
     have : (x == Int.ofNat 0) = false := by simpa using hx
     rw [bne, this]; rfl
    have lk : dJ .string (.i .i64 (Int.ofNat 0)) false (.m (aR 5)) (.s s) h = some (iD x, h) := by
     simp only [dJ, fK, K.W.sy, f1, cond_false]
    refine ⟨x, 0, h, M, R, es, ?_, K, Up.refl h, Stay.refl _ _ _ _, .inr ⟨hl, rfl, f1, T⟩⟩
    simp only [lk, aU, iU, z1, bP]
    rfl
   ·
    have lk : dJ .string (.i .i64 (Int.ofNat 0)) false (.m (aR 5)) (.s s) h = some (.i .i64 (Int.ofNat 0), h) := by
     simp only [dJ, fK, K.W.sy, f1, cond_false]
    have z0 : (Int.ofNat 0 != Int.ofNat 0) = false := rfl
    obtain ⟨h1, M1, e1, W1, U1, g1⟩ := K.W.bytes49 K.G (K.rk 11 (by omega)) hs (by omega) (by omega) hn
    have K1 : Wk h1 M1 R es := g1.wk K W1 (K.rk 11 (by omega)) (by omega) (by simp; omega) (by simp; omega) (by omega)
    have T1 : TxO M1 (R.getD 13 0) (.ofNat (M.fin * 2)) s := g1.new_txo K.G hs (by omega)
    have hf1 := g1.fin
    have hn1 := g1.n
    have hd1 := g1.made
    rw [List.length_map] at hf1
    obtain ⟨h2, M2, e2, K2, U2, g2⟩ := K1.push (x := .ofNat (M.fin * 2)) (y := R.getD 0 0) (aHz T1.at0) K1.r0 (by omega) (by omega) (n := n) (by omega)
    have T2 := g2.txo K1.G T1
    have G1 := K1.G
    have ha : cI (.ofNat (M1.fin * 2)) M2.pl = M1.fin := by rw [g2.pl]; exact aIu G1.lo (by have := G1.le; have := G1.hi; omega)
    obtain ⟨e3, W3, U3⟩ := K2.W.setR0 (.ofNat (M1.fin * 2))
    obtain ⟨W4, U4⟩ := W3.setS (es ++ [(.s s, .i .i64 (Int.ofNat 0))])
    obtain ⟨W5, U5⟩ := W4.setS (es ++ [(.s s, .i .i64 (.ofNat (M.fin * 2)))])
    have rset : ∀ i, (R.set 0 (Int.ofNat (M1.fin * 2))).getD (i + 1) 0 = R.getD (i + 1) 0 := fun i => by
     simp [List.getD, List.getElem?_set]
    have me : fO .string (.i .i64 (Int.ofNat 0)) (.m (aR 5)) (.s s) ⟨h2.next, Tr.set (.row .ex ((R.set 0 (Int.ofNat (M1.fin * 2))).map iD)) (aR 4) h2.bl⟩ =
      some (.t [.i .i64 (Int.ofNat 0), .i .i64 (.ofNat es.length)], ⟨h2.next, Tr.set (.mp (es ++ [(.s s, .i .i64 (Int.ofNat 0))])) (aR 5) (Tr.set (.row .ex ((R.set 0 (Int.ofNat (M1.fin * 2))).map iD)) (aR 4) h2.bl)⟩) := by
     simp only [fO, W3.sy, f2]
     rfl
    have ms : dY (.m (aR 5)) (.i .i64 (.ofNat es.length)) (.i .i64 (.ofNat (M.fin * 2))) ⟨h2.next, Tr.set (.mp (es ++ [(.s s, .i .i64 (Int.ofNat 0))])) (aR 5) (Tr.set (.row .ex ((R.set 0 (Int.ofNat (M1.fin * 2))).map iD)) (aR 4) h2.bl)⟩ =
      some (aV, ⟨h2.next, Tr.set (.mp (es ++ [(.s s, .i .i64 (.ofNat (M.fin * 2)))])) (aR 5) (Tr.set (.mp (es ++ [(.s s, .i .i64 (Int.ofNat 0))])) (aR 5) (Tr.set (.row .ex ((R.set 0 (Int.ofNat (M1.fin * 2))).map iD)) (aR 4) h2.bl))⟩) := by
     have q1 : (es ++ [(DV.s s, DV.i .i64 (Int.ofNat 0))])[es.length]? = some (.s s, .i .i64 (Int.ofNat 0)) := by simp
     have q2 : (es ++ [(DV.s s, DV.i .i64 (Int.ofNat 0))]).set es.length (.s s, .i .i64 (.ofNat (M.fin * 2))) = es ++ [(.s s, .i .i64 (.ofNat (M.fin * 2)))] := by simp
     simp only [dY, W4.sy, q1, q2]
    have ix : ∀ h, aH 1 (.l (aR 4) 0 18 18) (.i .i64 (Int.ofNat 0)) h = some (.p (aR 4) 0, h) := fun h => rfl
    refine ⟨.ofNat (M.fin * 2), 0, _, M2, R.set 0 (.ofNat (M1.fin * 2)), es ++ [(.s s, .i .i64 (.ofNat (M.fin * 2)))], ?_, ⟨W5, K2.G, ?_, ?_, ?_⟩, (((U1.trans U2).trans U3).trans U4).trans U5, ?_, .inr ⟨hl, rfl, bPi f1, T2⟩⟩
    ·simp only [lk, aU, iU, z0, bV, K.W.known (show 11 < 16 by omega), show 2 + 11 = 13 from rfl, e1, zK, zL, K1.W.l1, ix, lH, fld, K1.W.root (show 0 < 18 by omega), e2, K2.W.l1, K2.W.l2, e3, me, ms]
     rfl
    ·intro e he
     simp only [List.mem_append, List.mem_singleton] at he
     rcases he with he | rfl
     ·obtain ⟨k, y, q1, q2⟩ := K2.sy e he
      exact ⟨k, y, q1, by rw [show (13 : Nat) = 12 + 1 from rfl, rset]; exact q2⟩
     ·exact ⟨s, _, rfl, by rw [show (13 : Nat) = 12 + 1 from rfl, rset]; exact T2⟩
    ·have : (R.set 0 (Int.ofNat (M1.fin * 2))).getD 0 0 = Int.ofNat (M1.fin * 2) := by
      have hrl := K.W.rl
      cases R with
      | nil => simp at hrl
      | cons a l => rfl
     rw [this]
     exact aHz (by rw [ha]; have := G1.lo; omega)
    ·intro i hi
     rw [show 2 + i = (1 + i) + 1 by omega, rset, show (1 + i) + 1 = 2 + i by omega]
     exact K2.rk i hi
    ·have st := (g1.stay K.G R es (fun CL I => I.newK (i := 11) (.inr (.inl ⟨.inr rfl, rfl⟩)) (by rw [List.length_map]; omega) (fun _ v hv => by obtain ⟨c, q1, q2⟩ := List.mem_map.1 hv; exact ⟨c, hs c q1, q2.symm⟩))).trans (g2.stay K1.G R es (fun CL I => I.newK (i := 9) (.inl ⟨rfl, rfl⟩) (by simp) (fun q => by cases q)))
     rw [List.length_map] at st
     have hf2 := g2.fin
     have hd2 := g2.made
     refine ⟨st.n, ?_, ?_, st.lo, st.tx, st.at', rset, fun k v e => bZx e, fun CL I => (st.gi CL I).roots rset, st.old⟩
     ·simp at hf2; omega
     ·omega
theorem Wk.string (K : Wk h M R es) {s : List Nat} (hs : ∀ c ∈ s, c < 256) (room : M.fin + 260 ≤ M.n) (hm : M.made < 800000) {n : Nat} (hn : 300 < n) :
  ∃ a e h' M', dR (n + 3) 43 [.p (aR 7) 0, .s s] h = some (.t [.i .i64 a, .i .i64 e], h') ∧ Wk h' M' R es ∧ Up h h' ∧ Stay 260 M M' R R es es ∧
   ((¬ s.length ≤ 250 ∧ e = 1 ∧ a = 0) ∨ (s.length ≤ 250 ∧ e = 0 ∧ a = .ofNat (M.fin * 2) ∧ TxO M' (R.getD 12 0) a s)) := by
 rw [rP 43 rfl, cSv]
 unfold s43
 have el : ∀ h, dT (.s s) h = some (.i .i64 (s.length : Int), h) := fun h => rfl
 by_cases c1 : s.length > 250
 ·refine ⟨0, 1, h, M, ?_, K, Up.refl h, Stay.refl _ _ _ _, .inl ⟨by omega, rfl, rfl⟩⟩
  have d1 : decide ((s.length : Int) > Int.ofNat 250) = true := decide_eq_true (by simp; omega)
  simp only [g0, g1, el, aU, fR, d1, bP]
  rfl
 ·have d1 : decide ((s.length : Int) > Int.ofNat 250) = false := decide_eq_false (by simp; omega)
  obtain ⟨h1, M1, e1, W1, U1, g1⟩ := K.W.bytes49 K.G (K.rk 10 (by omega)) hs (by omega) (by omega) hn
  have K1 : Wk h1 M1 R es := g1.wk K W1 (K.rk 10 (by omega)) (by omega) (by simp; omega) (by simp; omega) (by omega)
  have T1 : TxO M1 (R.getD 12 0) (.ofNat (M.fin * 2)) s := g1.new_txo K.G hs (by omega)
  refine ⟨.ofNat (M.fin * 2), 0, h1, M1, ?_, K1, U1, ?_, .inr ⟨by omega, rfl, rfl, T1⟩⟩
  ·simp only [g0, Dd.g1, el, aU, fR, d1, bV, K.W.known (show 10 < 16 by omega), show 2 + 10 = 12 from rfl, e1, zK, zL]
   rfl
  ·have st := g1.stay K.G R es (fun CL I => I.newK (i := 10) (.inr (.inl ⟨.inl rfl, rfl⟩)) (by rw [List.length_map]; omega) (fun _ v hv => by obtain ⟨c, q1, q2⟩ := List.mem_map.1 hv; exact ⟨c, hs c q1, q2.symm⟩))
   rw [List.length_map] at st
   exact ⟨st.n, by have := st.fin; omega, by have := st.made; omega, st.lo, st.tx, st.at', st.r, st.fd, st.gi, st.old⟩
end
end Go.Dd

namespace Go.Dd
open Go.Proofs
noncomputable def byE (t : WT) (s : List Nat) : Nat → Bool := List.rec (motive := fun _ => Nat → Bool) (fun _ => true) (fun c _ ih a => Nat.blt c 256 && (gE (t.get a) (.ofNat c) && ih (Nat.add a 1))) s
noncomputable def cAa (M : MemV) (cls : Int) (e : List Nat × Nat) : Bool :=
 !(Nat.beq (cI (.ofNat e.2) M.pl) 0) && (gE (M.t.get (cI (.ofNat e.2) M.pl)) (.ofNat (Nat.add (Nat.mul e.1.length 4) 2)) && (gE (M.t.get (Nat.add (cI (.ofNat e.2) M.pl) 1)) cls && (Nat.ble e.1.length 256 && byE M.t e.1 (Nat.add (cI (.ofNat e.2) M.pl) 3))))
theorem bHs (t : WT) : ∀ (s : List Nat) (a : Nat), byE t s a = true → (∀ c ∈ s, c < 256) ∧ ∀ i c, s[i]? = some c → t.get (a + i) = .ofNat c
 | [], a, _ => ⟨by simp, fun i c h => by simp at h⟩
 | c :: s, a, h => by
  change (Nat.blt c 256 && (gE (t.get a) (.ofNat c) && byE t s (a + 1))) = true at h
  simp only [Bool.and_eq_true, gX, decide_eq_true_eq] at h
  obtain ⟨h1, h2⟩ := bHs t s (a + 1) h.2.2
  refine ⟨fun d hd => ?_, fun i d hi => ?_⟩
  ·simp only [List.mem_cons] at hd
   rcases hd with rfl | hd
   ·exact h.1
   ·exact h1 d hd
  ·cases i with
   | zero =>
    simp only [List.getElem?_cons_zero, bE] at hi
    subst hi
    exact mV _ _ h.2.1
   | succ i =>
    rw [show a + (i + 1) = a + 1 + i by omega]
    exact h2 i d (by simpa using hi)
theorem aWx {M : MemV} {cls : Int} {e : List Nat × Nat} (h : cAa M cls e = true) : TxO M cls (.ofNat e.2) e.1 := by
 unfold cAa at h
 simp only [Bool.and_eq_true, jO, decide_eq_true_eq] at h
 obtain ⟨h1, h2, h3, h4, h5⟩ := h
 obtain ⟨b1, b2⟩ := bHs _ _ _ h5
 refine ⟨fun e => (by rw [e] at h1; cases h1), mV _ _ h2, mV _ _ h3, b1, h4, b2⟩
noncomputable def cZx (p : List Nat × Nat → Bool) (l : List (List Nat × Nat)) : Bool := List.rec (motive := fun _ => Bool) true (fun x _ ih => p x && ih) l
theorem aLr {p : List Nat × Nat → Bool} : ∀ {l : List (List Nat × Nat)}, cZx p l = true → ∀ a ∈ l, p a = true
 | [], _, a, h => by cases h
 | x :: l, hl, a, h => by
  change (p x && cZx p l) = true at hl
  simp only [Bool.and_eq_true] at hl
  simp only [List.mem_cons] at h
  rcases h with rfl | h
  ·exact hl.1
  ·exact aLr hl.2 a h
theorem xN : ∀ (l : List (List Nat × Nat)) (e : DV × DV), e ∈ bFi l → ∃ x ∈ l, e = (.s x.1, .i .i64 (.ofNat x.2))
 | [], e, h => by cases h
 | x :: l, e, h => by
  change e ∈ (DV.s x.1, DV.i .i64 (.ofNat x.2)) :: bFi l at h
  simp only [List.mem_cons] at h
  rcases h with rfl | h
  ·exact ⟨x, by simp, rfl⟩
  ·obtain ⟨y, h1, h2⟩ := xN l e h
   exact ⟨y, by simp [h1], h2⟩
theorem cMu : cZx (cAa MN (RN.getD 13 0)) syN = true := by kernel_rfl
theorem KN : Wk hW MN RN esN := ⟨WN, GN, fun e he => by
 obtain ⟨x, h1, h2⟩ := xN syN e he
 exact ⟨x.1, _, h2, aWx (aLr cMu x h1)⟩, by kernel_rfl, dJp⟩
theorem cPo (s : List Nat) (h : Hp) : dT (.s s) h = some (.i .i64 (s.length : Int), h) := rfl
theorem aNl (s : ByteArray) : ∀ c ∈ s.data.toList.map (·.toNat), c < 256 := by
 intro c hc
 obtain ⟨b, _, rfl⟩ := List.mem_map.1 hc
 exact b.toNat_lt
end Go.Dd

namespace Go.Dd
open Go.Proofs
theorem bEy (x : Int) : gE x x = true := by
 cases x with
 | ofNat n => exact Nat.beq_refl n
 | negSucc n => exact Nat.beq_refl n
theorem dD (x y : Int) : gE x y = true ↔ x = y := ⟨mV x y, fun e => by rw [e]; exact bEy y⟩
noncomputable def bYs (p : Nat → Bool) (n : Nat) : Bool := Nat.rec (motive := fun _ => Bool) true (fun i ih => p i && ih) n
theorem sO {p : Nat → Bool} : ∀ {n : Nat}, bYs p n = true → ∀ i, i < n → p i = true
 | 0, _, i, h => by omega
 | n + 1, hl, i, h => by
  change (p n && bYs p n) = true at hl
  simp only [Bool.and_eq_true] at hl
  by_cases e : i = n
  ·rw [e]; exact hl.1
  ·exact sO hl.2 i (by omega)
noncomputable def cJa (a : Nat) (l : List Nat) : Bool := List.rec (motive := fun _ => Bool) false (fun x _ ih => Nat.beq a x || ih) l
theorem xE {a : Nat} : ∀ {l : List Nat}, cJa a l = true → a ∈ l
 | [], h => by cases h
 | x :: l, h => by
  change (Nat.beq a x || cJa a l) = true at h
  simp only [Bool.or_eq_true] at h
  rcases h with h | h
  ·rw [Nat.eq_of_beq_eq_true h]; exact List.mem_cons_self
  ·exact List.mem_cons_of_mem _ (xE h)
noncomputable def byB (v : Int) : Bool := match v with
 | .ofNat c => Nat.blt c 256
 | .negSucc _ => false
noncomputable def aTc (a b : Bool) : Bool := bif a then b else true
theorem jV {a b : Bool} (h : aTc a b = true) (ha : a = true) : b = true := by rw [ha] at h; exact h
noncomputable def obB (M : MemV) (R : List Int) (CL : List Nat) (a hd : Nat) : Bool :=
 Nat.ble (Nat.div hd 4) 256 && (Nat.ble (Nat.mod hd 4) 2 && (aTc (gE (M.t.get (Nat.add a 1)) (R.getD 11 0)) (Nat.beq (Nat.mod hd 4) 0) &&
  (aTc (gE (M.t.get (Nat.add a 1)) (R.getD 12 0)) (Nat.beq (Nat.mod hd 4) 2) && (aTc (gE (M.t.get (Nat.add a 1)) (R.getD 13 0)) (Nat.beq (Nat.mod hd 4) 2) &&
  (aTc (Nat.beq (Nat.mod hd 4) 2) (bYs (fun i => byB (M.t.get (Nat.add (Nat.add a 3) i))) (Nat.div hd 4)) && (aTc (gE (M.t.get (Nat.add a 1)) (R.getD 3 0)) (cJa a CL) &&
  aMs (fun c => aTc (gE (M.t.get (Nat.add c 8)) 1) (!(gE (M.t.get (Nat.add a 1)) (.ofNat (Nat.mul 2 c))))) CL))))))
theorem cVg {M : MemV} {R : List Int} {CL : List Nat} {a hd : Nat} (h : obB M R CL a hd = true) : ObI M R CL a hd := by
 unfold obB at h
 simp only [Bool.and_eq_true, jO, decide_eq_true_eq] at h
 obtain ⟨h1, h2, h3, h4, h5, h6, h7, h8⟩ := h
 refine ⟨h1, h2, fun q => ?_, fun q => ?_, fun q i hi => ?_, fun q => ?_, fun _ c hc q1 q2 => ?_⟩
 ·exact Nat.eq_of_beq_eq_true (jV h3 ((dD _ _).2 q))
 ·rcases q with q | q
  ·exact Nat.eq_of_beq_eq_true (jV h4 ((dD _ _).2 q))
  ·exact Nat.eq_of_beq_eq_true (jV h5 ((dD _ _).2 q))
 ·have hb := sO (jV h6 (show Nat.beq (Nat.mod hd 4) 2 = true by rw [show Nat.mod hd 4 = 2 from q]; rfl)) i hi
  change byB (M.t.get (a + 3 + i)) = true at hb
  cases hv : M.t.get (a + 3 + i) with
  | ofNat c => rw [hv] at hb; exact ⟨c, by simpa [byB, gX] using hb, rfl⟩
  | negSucc c => rw [hv] at hb; cases hb
 ·exact xE (jV h7 ((dD _ _).2 q))
 ·exfalso
  have q3 := jV (iZ h8 c hc) ((dD _ _).2 q1)
  rw [(dD _ _).2 (show M.t.get (Nat.add a 1) = .ofNat (Nat.mul 2 c) from q2)] at q3
  cases q3
noncomputable def aAe (M : MemV) (a : Nat) (p : Nat → Bool) : Bool := match M.t.get a with
 | .ofNat hd => p hd
 | .negSucc _ => true
noncomputable def clB (M : MemV) (R : List Int) (c : Nat) : Bool :=
 Nat.ble 3 c && (Nat.ble c 131072 && (!(gE (M.pl.get c) 0) && (gE (M.t.get c) (.ofNat 24) && (gE (M.t.get (Nat.add c 1)) (R.getD 3 0) &&
  (aAe M (Nat.add c 5) (fun s => Nat.ble s 33 && Nat.beq (Nat.mod s 2) 1) && (aAe M (Nat.add c 8) (fun s => Nat.ble s 7 && Nat.beq (Nat.mod s 2) 1) && (byB (M.t.get (Nat.add c 5)) && byB (M.t.get (Nat.add c 8)))))))))
noncomputable def nmB (M : MemV) (R : List Int) (sy : List (List Nat × Nat)) (c : Nat) : Bool :=
 List.rec (motive := fun _ => Bool) false (fun e _ ih => (gE (M.t.get (Nat.add c 3)) (.ofNat e.2) && (cAa M (R.getD 13 0) e && (Nat.ble 1 e.1.length && Nat.ble e.1.length 60))) || ih) sy
theorem cAx {M : MemV} {R : List Int} {c : Nat} : ∀ {sy : List (List Nat × Nat)}, nmB M R sy c = true → ∃ s, TxO M (R.getD 13 0) (M.t.get (c + 3)) s ∧ 1 ≤ s.length ∧ s.length ≤ 60
 | [], h => by cases h
 | e :: sy, h => by
  change ((gE (M.t.get (c + 3)) (.ofNat e.2) && (cAa M (R.getD 13 0) e && (Nat.ble 1 e.1.length && Nat.ble e.1.length 60))) || nmB M R sy c) = true at h
  simp only [Bool.or_eq_true] at h
  rcases h with h | h
  ·simp only [Bool.and_eq_true, jO, decide_eq_true_eq] at h
   obtain ⟨q1, q2, q3, q4⟩ := h
   exact ⟨e.1, by rw [(dD _ _).1 q1]; exact aWx q2, q3, q4⟩
  ·exact cAx h
theorem cVr {M : MemV} {R : List Int} {c : Nat} {sy : List (List Nat × Nat)} (h : clB M R c = true) (hn : nmB M R sy c = true) : ClI M R c := by
 unfold clB at h
 simp only [Bool.and_eq_true, jO, decide_eq_true_eq] at h
 obtain ⟨h1, h2, h3, h4, h5, h6, h7, h8, h9⟩ := h
 have num : ∀ (j m : Nat), aAe M (c + j) (fun s => decide (s ≤ 2 * m + 1) && Nat.beq (Nat.mod s 2) 1) = true → byB (M.t.get (c + j)) = true → ∃ z : Nat, z ≤ m ∧ M.t.get (c + j) = .ofNat (2 * z + 1) := fun j m q1 q2 => by
  cases hv : M.t.get (c + j) with
  | negSucc x => rw [hv] at q2; cases q2
  | ofNat x =>
   unfold aAe at q1
   rw [hv] at q1
   simp only [Bool.and_eq_true, decide_eq_true_eq] at q1
   have e : x % 2 = 1 := Nat.eq_of_beq_eq_true q1.2
   exact ⟨x / 2, by omega, by rw [show 2 * (x / 2) + 1 = x by omega]⟩
 refine ⟨⟨h1, h2⟩, fun e => ?_, (dD _ _).1 h4, (dD _ _).1 h5, cAx hn, num 5 16 h6 h8, num 8 3 h7 h9⟩
 rw [e] at h3
 cases h3
noncomputable def djB (M : MemV) (l : List Nat) : Nat → Bool := List.rec (motive := fun _ => Nat → Bool) (fun _ => true) (fun a _ ih lo => Nat.ble lo a && (match M.t.get a with
 | .ofNat hd => ih (Nat.add (Nat.add a 3) (Nat.div hd 4))
 | .negSucc _ => false)) l
theorem bTv {M : MemV} : ∀ {l : List Nat} {lo : Nat}, djB M l lo = true → (∀ a ∈ l, lo ≤ a) ∧ ∀ a ∈ l, ∀ b ∈ l, a < b → ∀ hd : Nat, M.t.get a = .ofNat hd → a + 3 + hd / 4 ≤ b
 | [], lo, h => ⟨fun a ha => (by cases ha), fun a ha => (by cases ha)⟩
 | x :: l, lo, h => by
  change (Nat.ble lo x && (match M.t.get x with
   | .ofNat hd => djB M l (x + 3 + hd / 4)
   | .negSucc _ => false)) = true at h
  simp only [Bool.and_eq_true, jO, decide_eq_true_eq] at h
  obtain ⟨h1, h2⟩ := h
  cases hx : M.t.get x with
  | negSucc k => rw [hx] at h2; cases h2
  | ofNat k =>
   rw [hx] at h2
   obtain ⟨i1, i2⟩ := bTv (l := l) h2
   refine ⟨fun a ha => ?_, fun a ha b hb hab hd hh => ?_⟩
   ·rcases List.mem_cons.1 ha with rfl | ka
    ·exact h1
    ·have := i1 a ka
     omega
   ·rcases List.mem_cons.1 ha with rfl | ka
    ·rcases List.mem_cons.1 hb with rfl | kb
     ·omega
     ·rw [hx] at hh
      cases hh
      exact i1 b kb
    ·rcases List.mem_cons.1 hb with rfl | kb
     ·have := i1 a ka
      omega
     ·exact i2 a ka b kb hab hd hh
noncomputable def giB (M : MemV) (R : List Int) (CL : List Nat) (pls : List Nat) (sy : List (List Nat × Nat)) : Bool :=
 djB M pls 0 && (gE (M.t.get 0) 0 && (gE (M.t.get 1) 0 && (aMs (fun a => aAe M a (obB M R CL a)) pls && (aMs (fun c => clB M R c && nmB M R sy c) CL &&
  (bYs (fun i => gE (R.getD (Nat.add 2 i) 0) (.ofNat (Nat.add 6 (Nat.mul 18 i)))) 16 && (bYs (fun i => cJa (Nat.add 3 (Nat.mul 9 i)) CL) 16 &&
  (gE (M.t.get 92) 3 && (gE (M.t.get 101) 5 && (gE (M.t.get 110) 5 && (gE (M.t.get 83) 7 && gE (M.t.get 20) 7))))))))))
theorem cTp {M : MemV} {R : List Int} {CL : List Nat} {pls : List Nat} {sy : List (List Nat × Nat)} (hp : M.pl = mkP pls .e) (hb : ∀ x ∈ pls, x < 16000000) (h : giB M R CL pls sy = true) : GI M R CL := by
 unfold giB at h
 simp only [Bool.and_eq_true] at h
 obtain ⟨h0, h1, h2, h3, h4, h5, h6, h7, h8, h9, h10, h11⟩ := h
 have mem : ∀ a, M.pl.get a ≠ 0 → a ∈ pls := fun a ha => by
  rw [hp] at ha
  rcases tR pls .e a hb ha with q | q
  ·exact q
  ·exact absurd rfl q
 refine ⟨(dD _ _).1 h1, (dD _ _).1 h2, fun a ha hd hh => ?_, fun a b ha hb' => (bTv h0).2 a (mem a ha) b (mem b hb'), fun c hc => ?_, fun i hi => (dD _ _).1 (sO h5 i hi), fun i hi => xE (sO h6 i hi), (dD _ _).1 h7, (dD _ _).1 h8, (dD _ _).1 h9, (dD _ _).1 h10, (dD _ _).1 h11⟩
 ·have hm : a ∈ pls := by
   rw [hp] at ha
   rcases tR pls .e a hb ha with q | q
   ·exact q
   ·exact absurd rfl q
  have q := iZ h3 a hm
  unfold aAe at q
  rw [hh] at q
  exact cVg q
 ·have q := iZ h4 c hc
  simp only [Bool.and_eq_true] at q
  exact cVr q.1 q.2
def CLW : List Nat := [3, 12, 21, 30, 39, 48, 57, 66, 75, 84, 93, 102, 111, 120, 129, 138, 4357]
theorem cFa : giB MN RN CLW plN syN = true := by kernel_rfl
theorem cZg : aMs (fun x => Nat.blt x 16000000) plN = true := by kernel_rfl
theorem GIN : GI MN RN CLW := cTp cSb (fun x hx => by have := iZ cZg x hx; simpa [gX] using this) cFa
end Go.Dd

namespace Go.Dd
open Go.Proofs
noncomputable def bBq (M : MemV) (o : Int) : Nat := match M.t.get (cI o M.pl) with
 | .ofNat hd => hd
 | .negSucc _ => 0
noncomputable def dJr (M : MemV) (o : Int) (i : Nat) : Int := if cI o M.pl ≠ 0 ∧ i < bBq M o / 4 then M.t.get (cI o M.pl + 3 + i) else 0
noncomputable def dIc (M : MemV) (o : Int) : Int := M.t.get (cI o M.pl + 1)
noncomputable def cNf (M : MemV) (R : List Int) (x : Int) : Option Int := if dU x = true then some (zX x) else if (cI x M.pl ≠ 0 ∧ dIc M x = R.getD 10 0) ∧ bBq M x % 4 = 1 then some (dJr M x 0) else none
section
variable {h : Hp} {M : MemV} {R : List Int} {es : List (DV × DV)} {CL : List Nat} {z : Prop}
end
end Go.Dd

namespace Go.Dd
open Go.Proofs
theorem pcf {rec : FuncId → List DV → Hp → aI} {g : FuncId} (hg : CF.I g = none) (a l b : List DV) (h : Hp) : cP CF rec (.f g a b) l h = rec g (a ++ l ++ b) h := by
 show bN CF rec g (a ++ l ++ b) h = _
 rw [gY hg]
section
variable {h : Hp} {M : MemV} {R : List Int} {es : List (DV × DV)}
theorem Wk.make0 (K : Wk h M R es) {cls : Int} (hc : cI cls M.pl ≠ 0) {f c : Nat} (hf : f ≤ 2) (h256 : c ≤ 256) (room : M.fin + c + 3 ≤ M.n) (hm : M.made < 899999) :
  ∃ h' M', jX [.p (aR 3) 0, .i .i64 cls, .i .i64 (.ofNat f), .i .i64 (.ofNat c)] h = some (.t [.i .i64 (.ofNat (M.fin * 2)), .i .i64 (.ofNat 0)], h') ∧ Wk h' M' R es ∧ Up h h' ∧ Grown M M' f cls (List.replicate c 0) := by
 have h1 := K.G.le
 have h2 := K.G.lo
 have h3 := K.G.hi
 obtain ⟨h', e1, W1, U1, _⟩ := K.W.make K.G hc hf h256 room
 have t1 : ∀ j, (M.mk1 f c cls).t.get j = if M.fin + 3 ≤ j ∧ j < M.fin + 3 + c then 0 else if j = M.fin + 2 then .ofNat (M.made + 1) else if j = M.fin + 1 then cls else if j = M.fin then .ofNat (c * 4 + f) else M.t.get j := fun j => by
  show (jY _ c (M.fin + 3)).get j = _
  rw [mL _ _ _ _ (by omega), WT.get_set _ _ _ _ (by omega), WT.get_set _ _ _ _ (by omega), WT.get_set _ _ _ _ (by omega)]
 have g : Grown M (M.mk1 f c cls) f cls (List.replicate c 0) := by
  refine ⟨rfl, by rw [List.length_replicate]; rfl, rfl, rfl, ?_, ?_, fun j hj => ?_, fun i v hi => ?_⟩
  ·rw [t1, if_neg (by omega), if_neg (by omega), if_neg (by omega), if_pos rfl, List.length_replicate]
  ·rw [t1, if_neg (by omega), if_neg (by omega), if_pos rfl]
  ·rw [t1, if_neg (by omega), if_neg (by omega), if_neg (by omega), if_neg (by omega)]
  ·have hl : i < c := by
    rcases Nat.lt_or_ge i c with q | q
    ·exact q
    ·rw [List.getElem?_eq_none (by simpa using q)] at hi; cases hi
   rw [List.getElem?_replicate, if_pos hl] at hi
   cases hi
   rw [t1, if_pos (by omega)]
 exact ⟨h', _, e1, g.wk K W1 hc hf (by rw [List.length_replicate]; exact h256) (by rw [List.length_replicate]; exact room) hm, U1, g⟩
theorem bGo {M : MemV} {R : List Int} {a n : Int} (h : dU a = true) (e : zX a = n) : cNf M R a = some n := by
 unfold cNf
 rw [if_pos h, e]
theorem Wk.num (K : Wk h M R es) (room : M.fin + 4 ≤ M.n) (hm : M.made < 899999) (n : Int) {k : Nat} (hk : 256 < k) :
  ∃ a e h' M', dR (k + 2) 42 [.p (aR 7) 0, .i .i64 n] h = some (.t [iD a, iD e], h') ∧ Wk h' M' R es ∧ Up h h' ∧ Stay 4 M M' R R es es ∧
   ((¬ (-1152921504606846976 ≤ n ∧ n ≤ 1152921504606846976) ∧ e = 2 ∧ a = 0) ∨ ((-1152921504606846976 ≤ n ∧ n ≤ 1152921504606846976) ∧ e = 0 ∧ cNf M' R a = some n ∧ dP a M'.pl = true)) := by
 obtain ⟨a, e, h', M', e1, W', G', U', hA⟩ := K.W.number K.G K.rk room hm n hk
 cases hA with
 | out h1 h2 =>
  subst h2
  exact ⟨0, 2, h', M', e1, ⟨W', G', K.sy, K.r0, K.rk⟩, U', Stay.refl _ _ _ _, .inl ⟨h1, rfl, rfl⟩⟩
 | small a h1 h2 h3 h4 =>
  subst h4
  refine ⟨a, 0, h', M', e1, ⟨W', G', K.sy, K.r0, K.rk⟩, U', Stay.refl _ _ _ _, .inr ⟨by omega, rfl, bGo h2 h3, ?_⟩⟩
  unfold dP
  split <;> first | rfl | (rw [h2]; rfl)
 | big h1 h2 g =>
  have hc : cI (R.getD 10 0) M.pl ≠ 0 := K.rk 8 (by omega)
  have st := g.stay K.G R es (fun CL I => I.newK (i := 8) (.inr (.inr ⟨rfl, rfl⟩)) (by simp) (fun q => by cases q))
  have ha : cI (.ofNat (M.fin * 2)) M'.pl = M.fin := by rw [g.pl]; exact aIu K.G.lo (by have := K.G.le; have := K.G.hi; omega)
  have h0 := K.G.lo
  have hs : dU (.ofNat (M.fin * 2)) = false := by
   rw [kU]
   refine decide_eq_false fun q => ?_
   have q1 := q.1
   simp at q1
   try omega
  refine ⟨_, 0, h', M', e1, g.wk K W' hc (by omega) (by simp) (by simp; omega) hm, U', st, .inr ⟨h1, rfl, ?_, aHz (by rw [ha]; omega)⟩⟩
  unfold cNf
  have hh : bBq M' (.ofNat (M.fin * 2)) = 5 := by unfold bBq; rw [ha, g.hd]; rfl
  rw [if_neg (by rw [hs]; simp), if_pos ⟨⟨by rw [ha]; omega, by unfold dIc; rw [ha, g.cl]⟩, by rw [hh]⟩]
  unfold dJr
  rw [ha, hh, if_pos ⟨by omega, by omega⟩]
  have := g.new 0 n rfl
  rw [Nat.add_zero] at this ⊢
  all_goals rw [this]
theorem Wd.notMay (W : Wd h M R es) {b : Pos} (hb : h.bl.get b = some (.row .ex [.p (aR 7) 0])) (v : Int) (n : Nat) : dR (n + 1) 84 [.i .i64 v, .p b 0] h = some (.b (!(dP v M.pl)), h) := by
 rw [rP 84 rfl, cSa]
 unfold s84
 have l : aA (.p b 0) h = some (.p (aR 7) 0, h) := by simp only [aA, cellD, rowOf, hb, List.getElem?_cons_zero, DV.one, if_true]
 simp only [g0, g1, l, aU, lH, fld, W.l00, W.may, iV]
theorem aMg {l : List Int} {p : Int → Bool} {i : Nat} {v : Int} (h : l[i]? = some v) : (l.drop i).any p = (p v || (l.drop (i + 1)).any p) := by
 have hi : i < l.length := by
  rcases Nat.lt_or_ge i l.length with q | q
  ·exact q
  ·rw [List.getElem?_eq_none q] at h; cases h
 rw [List.drop_eq_getElem_cons hi, List.any_cons]
 rw [List.getElem?_eq_getElem hi] at h
 cases h
 rfl
theorem Wd.find (W : Wd h M R es) {x : DV} {l : List Int} (S : SlI x l h) {b : Pos} (hb : h.bl.get b = some (.row .ex [.p (aR 7) 0])) {n : Nat} (hl : l.length ≤ 256) : ∀ (k i m : Nat), k + i = l.length → k < m →
  ∃ r : Int, iH (dR (n + 1)) (n + 1) m x (.f 84 [] [.p b 0]) (iD l.length) (.i .i64 (Int.ofNat i)) h = some (iD r, h) ∧ (decide (r ≥ Int.ofNat 0) = (l.drop i).any fun v => !(dP v M.pl)) := by
 intro k
 induction k with
 | zero =>
  intro i m he hm
  obtain ⟨m, rfl⟩ : ∃ m', m = m' + 1 := ⟨m - 1, by omega⟩
  refine ⟨-1, ?_, ?_⟩
  ·show gM (dR (n + 1)) (n + 1) (iH (dR (n + 1)) (n + 1) m) _ _ _ _ h = _
   unfold gM
   have d : decide (Int.ofNat i < (l.length : Int)) = false := decide_eq_false (by simp; omega)
   simp only [cM, d, aU, bV]
   rfl
  ·rw [List.drop_eq_nil_of_le (by omega)]
   rfl
 | succ k ih =>
  intro i m he hm
  obtain ⟨m, rfl⟩ : ∃ m', m = m' + 1 := ⟨m - 1, by omega⟩
  have hi : i < l.length := by omega
  have hv : l[i]? = some l[i] := List.getElem?_eq_getElem hi
  obtain ⟨a, e1, e2⟩ := S.at hv
  obtain ⟨r, q1, q2⟩ := ih (i + 1) m (by omega) (by omega)
  have d : decide (Int.ofNat i < (l.length : Int)) = true := decide_eq_true (by simp; omega)
  have hc : cP CF (dR (n + 1)) (.f 84 [] [.p b 0]) [iD l[i]] h = some (.b (!(dP l[i] M.pl)), h) := by
   rw [pcf rfl]
   exact W.notMay hb l[i] n
  have ha : aD .add (.i .i64 (Int.ofNat i)) (.i .i64 (Int.ofNat 1)) h = some (.i .i64 (Int.ofNat (i + 1)), h) := hY i 1 h (by omega)
  rw [aMg hv]
  cases hmay : dP l[i] M.pl with
  | false =>
   refine ⟨Int.ofNat i, ?_, by simp⟩
   show gM (dR (n + 1)) (n + 1) (iH (dR (n + 1)) (n + 1) m) _ _ _ _ h = _
   unfold gM
   rw [hmay] at hc
   simp only [cM, d, aU, bP, e1, e2, hc, Bool.not_false]
  | true =>
   refine ⟨r, ?_, by rw [q2]; rfl⟩
   show gM (dR (n + 1)) (n + 1) (iH (dR (n + 1)) (n + 1) m) _ _ _ _ h = _
   unfold gM
   rw [hmay] at hc
   simp only [cM, d, aU, bP, e1, e2, hc, Bool.not_true, bV, ha]
   exact q1
theorem Wd.contains (W : Wd h M R es) {x : DV} {l : List Int} (S : SlI x l h) {b : Pos} (hb : h.bl.get b = some (.row .ex [.p (aR 7) 0])) (hl : l.length ≤ 256) {n : Nat} (hn : 256 < n) :
  dR (n + 3) 52 [x, .f 84 [] [.p b 0]] h = some (.b (l.any fun v => !(dP v M.pl)), h) := by
 rw [rP 52 rfl, bQd]
 unfold s52
 obtain ⟨r, q1, q2⟩ := W.find S hb (n := n) hl l.length 0 (n + 1) (by omega) (by omega)
 have e : dR (n + 2) 89 [x, .f 84 [] [.p b 0]] h = some (iD r, h) := by
  rw [rP 89 rfl, bPf]
  unfold s89 aMi aLm aZp
  simp only [g0, g1, S.len (h' := h), aU]
  exact q1
 simp only [g0, g1, e, aU, mC, q2, List.drop_zero]
end
end Go.Dd

namespace Go.Dd
open Go.Proofs
theorem cZo (b : Pos) (o : Nat) (h : Hp) : bL (some (.p b o, h)) (.p b o) = true := by
 unfold bL
 simp [DV.beq]
section
variable {h : Hp} {M : MemV} {R : List Int} {es : List (DV × DV)}
theorem Wk.array (K : Wk h M R es) {x : DV} {l : List Int} (S : SlI x l h) (h256 : l.length ≤ 256) (room : M.fin + l.length + 3 ≤ M.n) (hm : M.made < 899999) {n : Nat} (hn : 256 < n) :
  ∃ a e h' M', dR (n + 4) 46 [.p (aR 7) 0, x] h = some (.t [iD a, iD e], h') ∧ Wk h' M' R es ∧ Up h h' ∧
   ((¬ (l.length ≤ 250 ∧ ∀ v ∈ l, dP v M.pl = true) ∧ e = 1 ∧ a = 0 ∧ M' = M) ∨ ((l.length ≤ 250 ∧ ∀ v ∈ l, dP v M.pl = true) ∧ e = 0 ∧ a = .ofNat (M.fin * 2) ∧ Grown M M' 0 (R.getD 11 0) l)) := by
 rw [rP 46 rfl, cSh]
 unfold s46
 obtain ⟨U1, W1⟩ := K.W.new (.row .ex [.p (aR 7) 0])
 obtain ⟨h1, hh1⟩ : ∃ h1 : Hp, (⟨h.next.succ, Tr.set (.row .ex [.p (aR 7) 0]) h.next h.bl⟩ : Hp) = h1 := ⟨_, rfl⟩
 rw [hh1] at U1 W1
 have eb : bQ (.p (aR 7) 0) h = some (.p h.next 0, h1) := by rw [← hh1]; rfl
 have hb : h1.bl.get h.next = some (.row .ex [.p (aR 7) 0]) := by rw [← hh1]; exact dRu _ _ _
 have S1 := S.up U1
 have K1 : Wk h1 M R es := ⟨W1, K.G, K.sy, K.r0, K.rk⟩
 have ld : aA (.p h.next 0) h1 = some (.p (aR 7) 0, h1) := by simp only [aA, cellD, rowOf, hb, List.getElem?_cons_zero, DV.one, if_true]
 have el : ∀ h, bW x h = some (iD l.length, h) := fun h => S.len
 by_cases c1 : l.length > 250
 ·have d1 : decide ((l.length : Int) > Int.ofNat 250) = true := decide_eq_true (by simp; omega)
  refine ⟨0, 1, h1, M, ?_, K1, U1, .inl ⟨fun q => by omega, rfl, rfl, rfl⟩⟩
  simp only [g0, g1, eb, aU, el, fR, d1, fV, cX, bP]
  rfl
 ·have d1 : decide ((l.length : Int) > Int.ofNat 250) = false := decide_eq_false (by simp; omega)
  have hc := W1.contains S1 hb h256 hn
  cases ha : l.any (fun v => !(dP v M.pl)) with
  | true =>
   rw [ha] at hc
   refine ⟨0, 1, h1, M, ?_, K1, U1, .inl ⟨fun q => ?_, rfl, rfl, rfl⟩⟩
   ·simp only [g0, g1, eb, aU, el, fR, d1, iE, hc, cU, bP]
    rfl
   ·obtain ⟨v, hv, hv2⟩ := List.any_eq_true.1 ha
    rw [q.2 v hv] at hv2
    cases hv2
  | false =>
   rw [ha] at hc
   have hall : ∀ v ∈ l, dP v M.pl = true := fun v hv => by
    cases hq : dP v M.pl with
    | true => rfl
    | false =>
     have : l.any (fun v => !(dP v M.pl)) = true := List.any_eq_true.2 ⟨v, hv, by rw [hq]; rfl⟩
     rw [this] at ha
     cases ha
   have hk : M.fin < 16000000 := by have := K.G.le; have := K.G.hi; omega
   obtain ⟨h2, M2, e2, W2, U2, _, g2⟩ := W1.make61 K.G (K.rk 9 (by omega)) (f := 0) (by omega) S1 (by omega) (by omega) (fun v hv => sS hk (hall v hv)) (n := n + 2) (by omega)
   have kn : dR (n + 3) 30 [.p (aR 7) 0, .i .i64 (Int.ofNat 9)] h1 = some (iD (R.getD 11 0), h1) := W1.known (show 9 < 16 by omega) (n + 2)
   refine ⟨.ofNat (M.fin * 2), 0, h2, M2, ?_, g2.wk K1 W2 (K.rk 9 (by omega)) (by omega) (by omega) (by omega) hm, U1.trans U2, .inr ⟨⟨by omega, hall⟩, rfl, rfl, g2⟩⟩
   simp only [g0, g1, eb, aU, el, fR, d1, iE, hc, cU, bV, ld, kn, cZo, Bool.and_self, cond_true]
   rw [show (2 + 9 : Nat) = 11 from rfl] at e2
   show cnd true _ = _
   simp only [cnd, e2, aU, zK, zL]
   rfl
end
end Go.Dd

namespace Go.Dd
open Go.Proofs
def Wc (h : Hp) (cs : List (DV × DV)) : Prop := h.bl.get (aR 6) = some (.mp cs)
noncomputable def bAy (cs : List (DV × DV)) (s : List Nat) : Int := match dG .string (.s s) cs with
 | some (some (.i .i64 v)) => v
 | _ => 0
section
variable {h : Hp} {M : MemV} {R : List Int} {es cs : List (DV × DV)} {CL : List Nat} {z : Prop}
theorem Wc.up {h' : Hp} (c : Wc h cs) (W : Wd h M R es) (u : Up h h') : Wc h' cs := by
 unfold Wc
 rw [u.get (aR 6) (.inr (by rw [pn6]; exact Nat.le_refl _)) (by have := W.nx; rw [pn6]; omega)]
 exact c
theorem Wd.classOfName (W : Wd h M R es) (c : Wc h cs) (hcs : ∀ e ∈ cs, ∃ (k : List Nat) (x : Int), e = (.s k, iD x)) (s : List Nat) (n : Nat) : dR (n + 1) 45 [.p (aR 7) 0, .s s] h = some (iD (bAy cs s), h) := by
 rw [rP 45 rfl, cTi]
 unfold s45
 have l3 : aA (.p (aR 7) (0 + 3)) h = some (.m (aR 6), h) := by
  simp only [aA, cellD, rowOf, W.w, Nat.zero_add, List.getElem?_cons_succ, List.getElem?_cons_zero, DV.one, if_true]
 have lk : dJ .string (.i .i64 (Int.ofNat 0)) false (.m (aR 6)) (.s s) h = some (iD (bAy cs s), h) := by
  have hc : h.bl.get (aR 6) = some (.mp cs) := c
  unfold bAy
  rcases aWc s hcs with ⟨x, f1, f2⟩ | ⟨f1, f2⟩
  ·simp only [dJ, fK, hc, f1, cond_false]
  ·simp only [dJ, fK, hc, f1, cond_false]
   rfl
 simp only [g0, g1, lH, fld, aU, l3, lk]
end
end Go.Dd

namespace Go.Dd
open Go.Proofs
structure Wv (k : Nat) (h : Hp) (M : MemV) (R : List Int) (es : List (DV × DV)) (z : Prop := True) : Prop where
 K : Wk h M R es
 I : GI M R CLW z
 c : Wc h csW
 n : M.n = 30000
 fin : M.fin + k ≤ 30000
 md : M.made + k ≤ 700000
theorem Stay.mono {a b : Nat} {M M' : MemV} {R R' : List Int} {es es' : List (DV × DV)} (h : Stay a M M' R R' es es') (hab : a ≤ b) : Stay b M M' R R' es es' :=
 ⟨h.n, Nat.le_trans h.fin (by omega), Nat.le_trans h.made (by omega), h.lo, h.tx, h.at', h.r, h.fd, h.gi, h.old⟩
section
variable {h h' : Hp} {M M' : MemV} {R R' : List Int} {es es' : List (DV × DV)} {z : Prop}
theorem Wv.stay {k j : Nat} (V : Wv (j + k) h M R es) (K' : Wk h' M' R' es') (u : Up h h') (S : Stay j M M' R R' es es') : Wv k h' M' R' es' := by
 have h1 := S.n
 have h2 := S.fin
 have h3 := S.made
 have h4 := V.n
 have h5 := V.fin
 have h6 := V.md
 exact ⟨K', S.gi _ V.I, V.c.up V.K.W u, by omega, by omega, by omega⟩
theorem Wv.less {k j : Nat} (V : Wv j h M R es z) (hk : k ≤ j) : Wv k h M R es z := ⟨V.K, V.I, V.c, V.n, by have := V.fin; omega, by have := V.md; omega⟩
theorem Wk.up (K : Wk h M R es) (W' : Wd h' M R es) : Wk h' M R es := ⟨W', K.G, K.sy, K.r0, K.rk⟩
theorem Wv.up {k : Nat} (V : Wv k h M R es z) (W' : Wd h' M R es) (u : Up h h') : Wv k h' M R es z := ⟨V.K.up W', V.I, V.c.up V.K.W u, V.n, V.fin, V.md⟩
theorem Wv.new {k : Nat} (V : Wv k h M R es z) (o : Ob) : Up h ⟨h.next.succ, Tr.set o h.next h.bl⟩ ∧ Wv k ⟨h.next.succ, Tr.set o h.next h.bl⟩ M R es z := by
 obtain ⟨u, W⟩ := V.K.W.new o
 exact ⟨u, V.up W u⟩
theorem cWr : ∀ e ∈ csW, ∃ (k : List Nat) (x : Int), e = (.s k, iD x) := fun e he => by
 obtain ⟨x, _, h2⟩ := xN (clF ++ clW) e he
 exact ⟨x.1, _, h2⟩
theorem dJg : bAy csW [80, 111, 105, 110, 116] = 8714 := by kernel_rfl
theorem Wv.point {k : Nat} (V : Wv k h M R es z) (n : Nat) : dR (n + 1) 45 [.p (aR 7) 0, .s [80, 111, 105, 110, 116]] h = some (iD 8714, h) := by
 rw [V.K.W.classOfName V.c cWr, dJg]
theorem cEr : iB 8714 = 4357 := by kernel_rfl
theorem Wv.ptAt {k : Nat} (V : Wv k h M R es z) : cI 8714 M.pl ≠ 0 := by
 rw [atN_pos, cEr]
 exact ⟨by decide, (V.I.cl 4357 (by decide)).pl⟩
theorem Wv.ptNew {k : Nat} (V : Wv k h M R es) : ∀ CL, GI M R CL → NewI M R CL 0 8714 (List.replicate 2 0) := fun CL I => by
 have r3 := I.rk 1 (by omega)
 have r12 := I.rk 10 (by omega)
 have r13 := I.rk 11 (by omega)
 refine ⟨by decide, by omega, fun _ => rfl, fun q => ?_, fun q => (by cases q), fun q => ?_, fun c hc _ _ => ⟨rfl, fun v hv => List.eq_of_mem_replicate hv⟩⟩
 ·rcases q with q | q
  ·rw [r12] at q; cases q
  ·rw [r13] at q; cases q
 ·rw [r3] at q; cases q
end
end Go.Dd

namespace Go.Dd
open Go.Proofs
theorem oG {a b : Int} (h : a ≠ b) : (a == b) = false := by simpa using h
theorem aLi (a : Int) (h : Hp) : aD .rem (.i .i64 a) (.i .i64 (Int.ofNat 10)) h = some (.i .i64 (a.tmod 10), h) := by simp only [aD, if_true, fJ]; rfl
theorem cOl (a b : Int) (h : Hp) (hr : -9223372036854775808 ≤ a * b ∧ a * b ≤ 9223372036854775807) : aD .mul (.i .i64 a) (.i .i64 b) h = some (.i .i64 (a * b), h) := by simp only [aD, if_true, fJ, gO _ hr]
theorem cEz (a : Nat) (ha : a < 1000) (h : Hp) : aD .quo (.i .i64 (a : Int)) (.i .i64 (Int.ofNat 2)) h = some (.i .i64 (Int.ofNat (a / 2)), h) := by
 have e : (a : Int).tdiv (Int.ofNat 2) = Int.ofNat (a / 2) := rfl
 simp only [aD, if_true, fJ, e]
 rw [if_neg (by decide), gO _ (by simp; omega)]
theorem bPk (s : List Nat) (k : Nat) (hk : k ≤ s.length) (h : Hp) : fB (.s s) none (some (.i .i64 (Int.ofNat k))) h = some (.s (s.take k), h) := by
 have e : hiD (some (.i .i64 (Int.ofNat k))) s.length s.length = some k := by
  show (if (0 : Int) ≤ Int.ofNat k ∧ Int.ofNat k ≤ (s.length : Int) then some (Int.ofNat k).toNat else none) = _
  rw [if_pos ⟨by simp, by simpa using hk⟩]
  rfl
 simp only [fB, e]
 rfl
theorem cYp (l : List Int) : ∀ v ∈ l.map iD, v.one = true := by
 intro v hv
 obtain ⟨c, _, rfl⟩ := List.mem_map.1 hv
 rfl
theorem cWp {x : DV} {l : List Int} {lo : Nat} {h : Hp} (hlo : 1031 ≤ lo) (S : GrS x (l.map iD) lo h) : SlI x l h := by
 rcases S with ⟨rfl, e⟩ | ⟨b, e, hb, h2, h3⟩
 ·refine .inl ⟨rfl, ?_⟩
  simpa using e
 ·exact .inr ⟨b, l.length, .gr 1, by rw [e]; simp, hb, .inr (by omega), h3⟩
theorem aMv {rec : FuncId → List DV → Hp → aI} {n lo : Nat} {x0 : DV} {N : Int} {c : Nat} (hN : N.tmod 10 = Int.ofNat c) (hc : c ≤ 9) : ∀ (r m : Nat) (l : List Int) (x : DV) (h : Hp), GrS x (l.map iD) lo h → lo ≤ h.next.toNat → l.length + r = c → r < m →
  ∃ (x' : DV) (h' : Hp) (l' : List Int), kZ rec n m x0 (iD N) x (.i .i64 (Int.ofNat l.length)) h = dN rec n x0 x' h' ∧ GrS x' (l'.map iD) lo h' ∧ Lo lo h h' ∧ l'.length = c
 | 0, m + 1, l, x, h, S, hlo, he, hm => by
  refine ⟨x, h, l, ?_, S, Lo.refl lo h, by omega⟩
  show lA rec n (kZ rec n m) _ _ _ _ h = _
  unfold lA
  have hl : decide (Int.ofNat l.length < Int.ofNat c) = false := by simp; omega
  simp only [iD, aLi, hN, cM, aU, hl, bV]
 | r + 1, m + 1, l, x, h, S, hlo, he, hm => by
  obtain ⟨y, g, e1, x', h', e2, S', L'⟩ := S.app hlo (cYp l) (z := .i .i64 (Int.ofNat 0)) (v := iD (Int.ofNat 2 * Int.ofNat l.length + Int.ofNat 1)) rfl rfl (bytes := 8) (by simp; unfold lS; omega)
  have S2 : GrS x' ((l ++ [Int.ofNat 2 * Int.ofNat l.length + Int.ofNat 1]).map iD) lo h' := by rw [List.map_append]; exact S'
  obtain ⟨x2, h2, l2, e3, S3, L3, hl3⟩ := aMv (rec := rec) (n := n) (x0 := x0) hN hc r m (l ++ [Int.ofNat 2 * Int.ofNat l.length + Int.ofNat 1]) x' h' S2 (Nat.le_trans hlo L'.next) (by simp; omega) (by omega)
  refine ⟨x2, h2, l2, ?_, S3, L'.trans L3, hl3⟩
  rw [← e3]
  show lA rec n (kZ rec n m) _ _ _ _ h = _
  unfold lA
  have hl1 : decide (Int.ofNat l.length < Int.ofNat c) = true := by simp; omega
  have hadd : aD .add (.i .i64 (Int.ofNat l.length)) (.i .i64 (Int.ofNat 1)) h' = some (.i .i64 (Int.ofNat (l ++ [Int.ofNat 2 * Int.ofNat l.length + Int.ofNat 1]).length), h') := by
   rw [jE _ _ _ (by simp; omega)]
   simp
  simp only [iD] at e1 e2 ⊢
  simp only [aLi, hN, cM, aU, hl1, bP, cOl (Int.ofNat 2) (Int.ofNat l.length) h (by simp; omega), jE (Int.ofNat 2 * Int.ofNat l.length) (Int.ofNat 1) h (by simp; omega), e1, e2, hadd]
section
variable {h : Hp} {M : MemV} {R : List Int} {es : List (DV × DV)}
noncomputable def knW (R : List Int) (i : Int) : Int := if 0 ≤ i ∧ i < 16 then R.getD (2 + i.toNat) 0 else 0
theorem Wd.knownA (W : Wd h M R es) (i : Int) (n : Nat) : dR (n + 1) 30 [.p (aR 7) 0, .i .i64 i] h = some (iD (knW R i), h) := by
 unfold knW
 by_cases hi : 0 ≤ i ∧ i < 16
 ·rw [if_pos hi]
  obtain ⟨j, rfl⟩ : ∃ j : Nat, i = Int.ofNat j := ⟨i.toNat, by simp; omega⟩
  exact W.known (by simp at hi; omega) n
 ·rw [if_neg hi, rP 30 rfl, bZa]
  unfold s30
  by_cases h1 : i < 0
  ·have d1 : decide (i < Int.ofNat 0) = true := decide_eq_true (by simpa using h1)
   simp only [g0, g1, cM, d1, aU, fV, cX, bP]
   rfl
  ·have d1 : decide (i < Int.ofNat 0) = false := decide_eq_false (by simpa using h1)
   have d2 : decide (i ≥ Int.ofNat 16) = true := decide_eq_true (by simp; omega)
   simp only [g0, g1, cM, d1, aU, iE, mC, d2, cU, bP]
   rfl
def MadeP (k : Nat) (h : Hp) (M : MemV) (R : List Int) (es : List (DV × DV)) (r : aI) : Prop :=
 ∃ v h' M' R' es', r = some (iD v, h') ∧ Wv k h' M' R' es' ∧ Up h h' ∧ Stay 260 M M' R R' es es'
theorem MadeP.same {k : Nat} (V : Wv (260 + k) h M R es) (v : Int) : MadeP k h M R es (some (iD v, h)) :=
 ⟨v, h, M, R, es, rfl, V.less (by omega), Up.refl h, Stay.refl _ _ _ _⟩
theorem bQs {k : Nat} (V : Wv (260 + k) h M R es) (n : Int) {m : Nat} (hm : 300 < m) : ∃ a e h' M', dR (m + 2) 42 [.p (aR 7) 0, .i .i64 n] h = some (.t [iD a, iD e], h') ∧ Wv k h' M' R es ∧ Up h h' ∧ Stay 260 M M' R R es es := by
 have h4 := V.n
 have h5 := V.fin
 have h6 := V.md
 obtain ⟨a, e, h', M', e1, K', U, S, _⟩ := V.K.num (by omega) (by omega) n (k := m) (by omega)
 exact ⟨a, e, h', M', e1, V.stay K' U (S.mono (by omega)), U, S.mono (by omega)⟩
theorem bZo {k : Nat} (V : Wv (260 + k) h M R es) {s : List Nat} (hs : ∀ c ∈ s, c < 256) {m : Nat} (hm : 300 < m) : ∃ a e h' M', dR (m + 3) 43 [.p (aR 7) 0, .s s] h = some (.t [iD a, iD e], h') ∧ Wv k h' M' R es ∧ Up h h' ∧ Stay 260 M M' R R es es := by
 have h4 := V.n
 have h5 := V.fin
 have h6 := V.md
 obtain ⟨a, e, h', M', e1, K', U, S, _⟩ := V.K.string hs (by omega) (by omega) (n := m) hm
 exact ⟨a, e, h', M', e1, V.stay K' U S, U, S⟩
theorem bUw {k : Nat} (V : Wv (260 + k) h M R es) {s : List Nat} (hs : ∀ c ∈ s, c < 256) {m : Nat} (hm : 300 < m) : ∃ a e h' M' R' es', dR (m + 3) 44 [.p (aR 7) 0, .s s] h = some (.t [iD a, iD e], h') ∧ Wv k h' M' R' es' ∧ Up h h' ∧ Stay 260 M M' R R' es es' := by
 have h4 := V.n
 have h5 := V.fin
 have h6 := V.md
 obtain ⟨a, e, h', M', R', es', e1, K', U, S, _⟩ := V.K.symbol hs (by omega) (by omega) (n := m) hm
 exact ⟨a, e, h', M', R', es', e1, V.stay K' U (S.mono (by omega)), U, S.mono (by omega)⟩
theorem bSu {k : Nat} (V : Wv (260 + k) h M R es) {x : DV} {l : List Int} (S : SlI x l h) (hl : l.length ≤ 9) {m : Nat} (hm : 300 < m) : ∃ a e h' M', dR (m + 4) 46 [.p (aR 7) 0, x] h = some (.t [iD a, iD e], h') ∧ Wv k h' M' R es ∧ Up h h' ∧ Stay 260 M M' R R es es := by
 have h4 := V.n
 have h5 := V.fin
 have h6 := V.md
 obtain ⟨a, e, h', M', e1, K', U, A⟩ := V.K.array S (by omega) (by omega) (by omega) (n := m) (by omega)
 have S' : Stay 260 M M' R R es es := by
  rcases A with ⟨_, _, _, rfl⟩ | ⟨_, _, _, g⟩
  ·exact Stay.refl _ _ _ _
  ·exact (g.stay V.K.G R es fun CL I => I.newK (i := 9) (.inl ⟨rfl, rfl⟩) (by omega) (fun q => by cases q)).mono (by omega)
 exact ⟨a, e, h', M', e1, V.stay K' U S', U, S'⟩
theorem cDq {k : Nat} (V : Wv (260 + k) h M R es) : ∃ a e h' M', jX [.p (aR 3) 0, iD 8714, .i .i64 (.ofNat 0), .i .i64 (.ofNat 2)] h = some (.t [iD a, iD e], h') ∧ Wv k h' M' R es ∧ Up h h' ∧ Stay 260 M M' R R es es := by
 have h4 := V.n
 have h5 := V.fin
 have h6 := V.md
 obtain ⟨h', M', e1, K', U, g⟩ := V.K.make0 V.ptAt (f := 0) (c := 2) (by omega) (by omega) (by omega) (by omega)
 have S' : Stay 260 M M' R R es es := (g.stay V.K.G R es V.ptNew).mono (by simp)
 exact ⟨_, _, h', M', e1, V.stay K' U S', U, S'⟩
end
end Go.Dd

namespace Go.Dd
open Go.Proofs
section
variable {h : Hp} {M : MemV} {R : List Int} {es : List (DV × DV)} {k m : Nat} {b : Pos} {kd N : Int} {s0 s : List Nat}
theorem mF {b : Pos} {kd : Kind} {l : List DV} {h : Hp} (hb : h.bl.get b = some (.row kd l)) {i : Nat} {v : DV} (hi : l[i]? = some v) (hv : v.one = true) : aA (.p b i) h = some (v, h) := by
 simp only [aA, cellD, rowOf, hb, hi, hv, if_true]
def Tg (h : Hp) (b : Pos) (kd N : Int) (s : List Nat) : Prop := h.bl.get b = some (.row .ex [iD kd, iD N, .s s])
theorem Tg.l0 (T : Tg h b kd N s) : aA (.p b (0 + 0)) h = some (iD kd, h) := mF (i := 0 + 0) T rfl rfl
theorem Tg.l1 (T : Tg h b kd N s) : aA (.p b (0 + 1)) h = some (iD N, h) := mF (i := 0 + 1) T rfl rfl
theorem Tg.l2 (T : Tg h b kd N s) : aA (.p b (0 + 2)) h = some (.s s, h) := mF (i := 0 + 2) T rfl rfl
theorem dOy (a b : List Nat) (h : Hp) (hl : a.length + b.length < 100000) : fA .add (.s a) (.s b) h = some (.s (a ++ b), h) := by
 have : ¬ ((a.length + b.length : Nat) : Int) > IntKind.i64.max := by
  show ¬ ((a.length + b.length : Nat) : Int) > 9223372036854775807
  omega
 simp only [fA, aVe, if_neg this]
theorem cIa (V : Wv (260 + k) h M R es) (hs : ∀ c ∈ s, c < 256) (hl : s.length ≤ 250) (hm : 300 < m) : MadeP k h M R es (aGt (dR (m + 5)) (m + 5) (.p (aR 7) 0) (.s s) h) := by
 have fin : ∀ t : List Nat, (∀ c ∈ t, c < 256) → t.length ≤ 250 → MadeP k h M R es (qZ (dR (m + 5)) (m + 5) (.p (aR 7) 0) (.s t) h) := fun t ht hlt => by
  obtain ⟨a, e, h', M', R', es', e1, V', U, S⟩ := bUw V (s := [115] ++ t.take (t.length / 2)) (fun c hc => by
   simp only [List.mem_append, List.mem_singleton] at hc
   rcases hc with rfl | hc
   ·decide
   ·exact ht c (List.mem_of_mem_take hc)) (m := m + 2) (by omega)
  refine ⟨a, h', M', R', es', ?_, V', U, S⟩
  unfold qZ
  simp only [cPo, aU, cEz t.length (by omega) h, bPk t (t.length / 2) (by omega) h, dOy [115] (t.take (t.length / 2)) h (by rw [List.length_take]; simp; omega), e1, zK, zL]
 unfold aGt
 by_cases c1 : (s.length : Int) > Int.ofNat 60
 ·simp only [cPo, aU, fR, decide_eq_true c1, bP, bPk s 60 (by simp at c1; omega) h]
  exact fin _ (fun c hc => hs c (List.mem_of_mem_take hc)) (by rw [List.length_take]; omega)
 ·simp only [cPo, aU, fR, decide_eq_false c1, bV]
  exact fin _ hs hl
theorem cQr (V : Wv (260 + k) h M R es) (T : Tg h b kd N s) (hN : -9223372036854775808 ≤ N ∧ N ≤ 9223372036854775807) (hm : 300 < m) : MadeP k h M R es (aKf (dR (m + 5)) (m + 5) (.p (aR 7) 0) (.p b 0) h) := by
 have fin : ∀ n : Int, 0 ≤ n → MadeP k h M R es (qT (dR (m + 5)) (m + 5) (.p (aR 7) 0) (iD n) h) := fun n hn => by
  obtain ⟨j, rfl⟩ : ∃ j : Nat, n = Int.ofNat j := ⟨n.toNat, by simp; omega⟩
  have nx := V.K.W.nx
  obtain ⟨x', h1, l', e1, S1, L1, hl1⟩ := aMv (rec := dR (m + 5)) (n := m + 5) (lo := h.next.toNat) (x0 := .p (aR 7) 0) (N := Int.ofNat j) (c := j % 10) rfl (by omega) (j % 10) (m + 5) [] .l0 h (.inl ⟨rfl, rfl⟩) (Nat.le_refl _) (by simp) (by omega)
  have V1 := V.up (V.K.W.lo L1) L1.up
  obtain ⟨a, e, h', M', e2, V', U, S⟩ := bSu V1 (cWp nx S1) (by omega) (m := m + 1) (by omega)
  refine ⟨a, h', M', R, es, ?_, V', L1.up.trans U, S⟩
  unfold qT aKv aEz aOx
  refine Eq.trans e1 ?_
  unfold dN
  simp only [e2, aU, zK, zL]
 unfold aKf aFi
 simp only [fld, T.l1, aU]
 by_cases c1 : N < Int.ofNat 0
 ·have c2 : N < 0 := c1
  have en : ∀ h, fZ .neg (.i .i64 (N + Int.ofNat 1)) h = some (.i .i64 (-(N + Int.ofNat 1)), h) := fun h => by
   have : IntKind.i64.wrap (0 - (N + Int.ofNat 1)) = 0 - (N + Int.ofNat 1) := gO _ (by simp; omega)
   simp only [fZ, this]
   rw [Int.zero_sub]
  simp only [iD, cM, decide_eq_true c1, aU, bP, jE N (Int.ofNat 1) h (by simp; omega), en]
  exact fin _ (by simp; omega)
 ·have c2 : ¬ N < 0 := c1
  simp only [iD, cM, decide_eq_false c1, aU, bV]
  exact fin _ (by omega)
theorem cSg (V : Wv (260 + k) h M R es) (T : Tg h b kd N s0) (hN : -9223372036854775808 ≤ N ∧ N ≤ 9223372036854775807) (hs : ∀ c ∈ s, c < 256) (hl : s.length ≤ 250) (hm : 300 < m) :
  MadeP k h M R es (aAc (dR (m + 5)) (m + 5) (.p (aR 7) 0) (.p b 0) (.s s) h) := by
 unfold aAc bAd
 simp only [fld, T.l0, aU]
 by_cases c0 : kd = 0
 ·subst c0
  obtain ⟨a, e, h', M', e1, V', U, S⟩ := bQs V N (m := m + 3) (by omega)
  refine ⟨a, h', M', R, es, ?_, V', U, S⟩
  unfold aMa
  simp only [iD, cJ, beq_self_eq_true, aU, bP, show ((0 : Int) == Int.ofNat 0) = true from rfl, fld]
  rw [T.l1]
  simp only [aU]
  rw [e1]
  simp only [aU, zK, zL, iD]
 have d0 : (kd == Int.ofNat 0) = false := oG c0
 unfold aMa bIn
 by_cases c1 : kd = 1
 ·subst c1
  obtain ⟨a, e, h', M', e1, V', U, S⟩ := bZo V hs (m := m + 2) (by omega)
  refine ⟨a, h', M', R, es, ?_, V', U, S⟩
  unfold aNh
  simp only [iD, cJ, aU, bV, bP, d0, show ((1 : Int) == Int.ofNat 1) = true from rfl]
  rw [e1]
  simp only [aU, zK, zL, iD]
 have d1 : (kd == Int.ofNat 1) = false := oG c1
 unfold aNh bMv
 by_cases c2 : kd = 2
 ·subst c2
  have := cIa V hs hl hm
  unfold xI
  simp only [iD, cJ, aU, bV, bP, d0, d1, show ((2 : Int) == Int.ofNat 2) = true from rfl]
  exact this
 have d2 : (kd == Int.ofNat 2) = false := oG c2
 unfold xI aPb
 by_cases c3 : kd = 3
 ·subst c3
  have := cQr V T hN hm
  unfold yW
  simp only [iD, cJ, aU, bV, bP, d0, d1, d2, show ((3 : Int) == Int.ofNat 3) = true from rfl]
  exact this
 have d3 : (kd == Int.ofNat 3) = false := oG c3
 unfold yW
 by_cases c4 : kd = 4
 ·subst c4
  obtain ⟨a, e, h', M', e1, V', U, S⟩ := cDq V
  refine ⟨a, h', M', R, es, ?_, V', U, S⟩
  have em := V.K.W.memory (m + 4)
  have ep := V.point (m + 4)
  simp only [iD, cJ, aU, bV, bP, d0, d1, d2, d3, show ((4 : Int) == Int.ofNat 4) = true from rfl, em]
  rw [ep]
  simp only [aU]
  rw [e1]
  simp only [aU, zK, zL, iD]
 have d4 : (kd == Int.ofNat 4) = false := oG c4
 by_cases c5 : kd = 5
 ·subst c5
  have ep := V.point (m + 4)
  by_cases c16 : N = 16
  ·subst c16
   have : MadeP k h M R es (some (iD 8714, h)) := .same V _
   simp only [iD, cJ, aU, bV, bP, d0, d1, d2, d3, d4, show ((5 : Int) == Int.ofNat 5) = true from rfl, fld]
   rw [T.l1]
   simp only [iD, cJ, aU, bV, bP, show ((16 : Int) == Int.ofNat 16) = true from rfl]
   rw [ep]
   exact this
  ·have : MadeP k h M R es (some (iD (knW R N), h)) := .same V _
   have ek := V.K.W.knownA N (m + 4)
   simp only [iD, cJ, aU, bV, bP, d0, d1, d2, d3, d4, show ((5 : Int) == Int.ofNat 5) = true from rfl, fld]
   have t1 : aA (.p b (0 + 1)) h = some (.i .i64 N, h) := T.l1
   simp only [t1, iD, cJ, aU, bV, bP, show (N == Int.ofNat 16) = false from oG c16]
   rw [ek]
   exact this
 have d5 : (kd == Int.ofNat 5) = false := oG c5
 have t1 : aA (.p b (0 + 1)) h = some (.i .i64 N, h) := T.l1
 by_cases c6 : kd = 6
 ·subst c6
  simp only [iD, cJ, aU, bV, bP, d0, d1, d2, d3, d4, d5, show ((6 : Int) == Int.ofNat 6) = true from rfl]
  exact .same V _
 have d6 : (kd == Int.ofNat 6) = false := oG c6
 by_cases c7 : kd = 7
 ·subst c7
  simp only [iD, cJ, aU, bV, bP, d0, d1, d2, d3, d4, d5, d6, show ((7 : Int) == Int.ofNat 7) = true from rfl]
  exact .same V _
 have d7 : (kd == Int.ofNat 7) = false := oG c7
 by_cases c8 : kd = 8
 ·subst c8
  simp only [iD, cJ, aU, bV, bP, d0, d1, d2, d3, d4, d5, d6, d7, show ((8 : Int) == Int.ofNat 8) = true from rfl]
  exact .same V _
 have d8 : (kd == Int.ofNat 8) = false := oG c8
 unfold aW
 simp only [iD, cJ, aU, bV, bP, d0, d1, d2, d3, d4, d5, d6, d7, d8, fld, t1]
 exact .same V _
theorem aVg (V : Wv (260 + k) h M R es) (kd : Int) (hN : -9223372036854775808 ≤ N ∧ N ≤ 9223372036854775807) (hs : ∀ c ∈ s, c < 256) (hm : 300 < m) :
  MadeP k h M R es (dR (m + 6) 14 [.p (aR 7) 0, .a [iD kd, iD N, .s s]] h) := by
 obtain ⟨U1, V1⟩ := V.new (.row .ex [iD kd, iD N, .s s])
 obtain ⟨h1, hh1⟩ : ∃ h1 : Hp, (⟨h.next.succ, Tr.set (.row .ex [iD kd, iD N, .s s]) h.next h.bl⟩ : Hp) = h1 := ⟨_, rfl⟩
 rw [hh1] at U1 V1
 have eb : bQ (.a [iD kd, iD N, .s s]) h = some (.p h.next 0, h1) := by rw [← hh1]; rfl
 have T : Tg h1 h.next kd N s := by rw [← hh1]; exact dRu _ _ _
 have up : ∀ r, MadeP k h1 M R es r → MadeP k h M R es r := fun r ⟨v, h', M', R', es', e, V', U, S⟩ => ⟨v, h', M', R', es', e, V', U1.trans U, S⟩
 rw [rP 14 rfl, cSt]
 unfold s14 aAp aYo
 simp only [g0, g1, eb, aU, fld, T.l2, cPo, fR]
 apply up
 by_cases c1 : (s.length : Int) > Int.ofNat 250
 ·simp only [decide_eq_true c1, bP, bPk s 250 (by simp at c1; omega) h1, aU]
  exact cSg V1 T hN (fun c hc => hs c (List.mem_of_mem_take hc)) (by rw [List.length_take]; omega) hm
 ·simp only [decide_eq_false c1, bV]
  exact cSg V1 T hN hs (by simp at c1; omega) hm
end
end Go.Dd

namespace Go.Dd
open Go.Proofs
def zH (n : Int) : Int :=
 if n = 11 ∨ n = 22 ∨ n = 23 ∨ n = 40 ∨ n = 41 then 0
 else if n = 1 ∨ n = 2 ∨ n = 3 ∨ n = 4 ∨ n = 5 ∨ n = 6 ∨ n = 7 ∨ n = 10 ∨ n = 20 ∨ n = 24 ∨ n = 25 ∨ n = 26 ∨ n = 50 then 1
 else if n = 21 ∨ n = 51 then 2 else -1
theorem cIj (n : Int) (m : Nat) (h : Hp) : dR (m + 1) 39 [iD n] h = some (iD (zH n), h) := by
 rw [rP 39 rfl, cSw]
 by_cases q : n = 11 ∨ n = 22 ∨ n = 23 ∨ n = 40 ∨ n = 41 ∨ n = 1 ∨ n = 2 ∨ n = 3 ∨ n = 4 ∨ n = 5 ∨ n = 6 ∨ n = 7 ∨ n = 10 ∨ n = 20 ∨ n = 24 ∨ n = 25 ∨ n = 26 ∨ n = 50 ∨ n = 21 ∨ n = 51
 ·rcases q with q | q | q | q | q | q | q | q | q | q | q | q | q | q | q | q | q | q | q | q <;> subst q <;> rfl
 ·have e : zH n = -1 := by
   unfold zH
   rw [if_neg (by omega), if_neg (by omega), if_neg (by omega)]
  rw [e]
  unfold s39 aVh bAz rV bTp iJ bZq aNs cN
  simp only [g0, iD, cJ, aU, oG (show n ≠ Int.ofNat 11 by simp; omega), oG (show n ≠ Int.ofNat 22 by simp; omega), oG (show n ≠ Int.ofNat 23 by simp; omega), oG (show n ≠ Int.ofNat 40 by simp; omega), oG (show n ≠ Int.ofNat 41 by simp; omega),
   oG (show n ≠ Int.ofNat 1 by simp; omega), oG (show n ≠ Int.ofNat 2 by simp; omega), oG (show n ≠ Int.ofNat 3 by simp; omega), oG (show n ≠ Int.ofNat 4 by simp; omega), oG (show n ≠ Int.ofNat 5 by simp; omega), oG (show n ≠ Int.ofNat 6 by simp; omega), oG (show n ≠ Int.ofNat 7 by simp; omega),
   oG (show n ≠ Int.ofNat 10 by simp; omega), oG (show n ≠ Int.ofNat 20 by simp; omega), oG (show n ≠ Int.ofNat 24 by simp; omega), oG (show n ≠ Int.ofNat 25 by simp; omega), oG (show n ≠ Int.ofNat 26 by simp; omega), oG (show n ≠ Int.ofNat 50 by simp; omega), oG (show n ≠ Int.ofNat 21 by simp; omega), oG (show n ≠ Int.ofNat 51 by simp; omega), bV]
  rfl
section
variable {h : Hp} {M : MemV} {R : List Int} {es : List (DV × DV)}
theorem cKw {x f : DV} {l : List Int} (S : SlI x l h) {p : Int → Bool} {n : Nat} (hc : ∀ v, cP CF (dR n) f [iD v] h = some (.b (p v), h)) (hl : l.length ≤ 256) : ∀ (k i m : Nat), k + i = l.length → k < m →
  ∃ r : Int, iH (dR n) n m x f (iD l.length) (.i .i64 (Int.ofNat i)) h = some (iD r, h) ∧ (decide (r ≥ Int.ofNat 0) = (l.drop i).any p) := by
 intro k
 induction k with
 | zero =>
  intro i m he hm
  obtain ⟨m, rfl⟩ : ∃ m', m = m' + 1 := ⟨m - 1, by omega⟩
  refine ⟨-1, ?_, ?_⟩
  ·show gM (dR n) n (iH (dR n) n m) _ _ _ _ h = _
   unfold gM
   have d : decide (Int.ofNat i < (l.length : Int)) = false := decide_eq_false (by simp; omega)
   simp only [cM, d, aU, bV]
   rfl
  ·rw [List.drop_eq_nil_of_le (by omega)]
   rfl
 | succ k ih =>
  intro i m he hm
  obtain ⟨m, rfl⟩ : ∃ m', m = m' + 1 := ⟨m - 1, by omega⟩
  have hi : i < l.length := by omega
  have hv : l[i]? = some l[i] := List.getElem?_eq_getElem hi
  obtain ⟨a, e1, e2⟩ := S.at hv
  obtain ⟨r, q1, q2⟩ := ih (i + 1) m (by omega) (by omega)
  have d : decide (Int.ofNat i < (l.length : Int)) = true := decide_eq_true (by simp; omega)
  have hc := hc l[i]
  have ha : aD .add (.i .i64 (Int.ofNat i)) (.i .i64 (Int.ofNat 1)) h = some (.i .i64 (Int.ofNat (i + 1)), h) := hY i 1 h (by omega)
  rw [aMg hv]
  cases hmay : p l[i] with
  | true =>
   refine ⟨Int.ofNat i, ?_, by simp⟩
   show gM (dR n) n (iH (dR n) n m) _ _ _ _ h = _
   unfold gM
   rw [hmay] at hc
   simp only [cM, d, aU, bP, e1, e2, hc]
  | false =>
   refine ⟨r, ?_, by rw [q2]; rfl⟩
   show gM (dR n) n (iH (dR n) n m) _ _ _ _ h = _
   unfold gM
   rw [hmay] at hc
   simp only [cM, d, aU, bP, e1, e2, hc, bV, ha]
   exact q1
theorem dNw {x f : DV} {l : List Int} (S : SlI x l h) {p : Int → Bool} {n : Nat} (hc : ∀ v, cP CF (dR n) f [iD v] h = some (.b (p v), h)) (hl : l.length ≤ 256) (hn : 256 < n) : dR (n + 2) 52 [x, f] h = some (.b (l.any p), h) := by
 rw [rP 52 rfl, bQd]
 unfold s52
 obtain ⟨r, q1, q2⟩ := cKw S (p := p) (n := n) hc hl l.length 0 n (by omega) (by omega)
 have e : dR (n + 1) 89 [x, f] h = some (iD r, h) := by
  rw [rP 89 rfl, bPf]
  unfold s89 aMi aLm aZp
  simp only [g0, g1, S.len (h' := h), aU]
  exact q1
 simp only [g0, g1, e, aU, mC, q2, List.drop_zero]
def mN (M : MemV) (n r : Int) (l : List Int) : Prop := zH n ≠ (l.length : Int) ∨ dP r M.pl = false ∨ ∃ v ∈ l, dP v M.pl = false
theorem aVu {k : Nat} {z : Prop} (V : Wv k h M R es z) {x : DV} {l : List Int} (S : SlI x l h) (hl : l.length ≤ 256) (n r : Int) {m : Nat} (hm : 300 < m) :
  ∃ h1, Wv k h1 M R es z ∧ Up h h1 ∧ ((mN M n r l ∧ dR (m + 4) 16 [.p (aR 7) 0, iD n, iD r, x] h = some (.t [iD 0, iD 20], h1)) ∨
   (¬ mN M n r l ∧ dR (m + 4) 16 [.p (aR 7) 0, iD n, iD r, x] h = wQ (dR (m + 3)) (m + 3) (.p (aR 7) 0) (iD n) (iD r) x h1)) := by
 obtain ⟨h1, hh1⟩ : ∃ h1 : Hp, (⟨h.next.succ, Tr.set (.row .ex [.p (aR 3) 0]) h.next (Tr.set (.row .ex [.p0]) h.next h.bl)⟩ : Hp) = h1 := ⟨_, rfl⟩
 have ns := dRw h.next
 have nx := V.K.W.nx
 have oth : ∀ b : Pos, b ≠ h.next → h1.bl.get b = h.bl.get b := fun b hb => by
  rw [← hh1]
  show (Tr.set _ _ (Tr.set _ _ _)).get b = _
  rw [dRt _ _ _ _ hb, dRt _ _ _ _ hb]
 have U1 : Up h h1 := ⟨by rw [← hh1]; show _ ≤ h.next.succ.toNat; omega, fun b _ hb => oth b fun e => by subst e; omega⟩
 have V1 : Wv k h1 M R es z := V.up (V.K.W.up U1 fun b hb => oth b fun e => by subst e; omega) U1
 have hg : h1.bl.get h.next = some (.row .ex [.p (aR 3) 0]) := by rw [← hh1]; exact dRu _ _ _
 have e1 : bK [.p0] h = some (.p h.next 0, ⟨h.next.succ, Tr.set (.row .ex [.p0]) h.next h.bl⟩) := rfl
 have e2 : aG 1 (.p h.next 0) (.p (aR 3) 0) ⟨h.next.succ, Tr.set (.row .ex [.p0]) h.next h.bl⟩ = some (aV, h1) := by
  rw [← hh1]
  simp only [aG, dE, dF, dRu]
  rfl
 have ld : aA (.p h.next 0) h1 = some (.p (aR 3) 0, h1) := mF hg rfl rfl
 have S1 := S.up U1
 have em := V.K.W.memory (m + 2)
 have ea := cIj n (m + 2) h1
 have el : bW x h1 = some (iD (l.length : Int), h1) := S1.len
 have ef : dR (m + 3) 54 [] h1 = some (.t [iD 0, iD 20], h1) := by rw [rP 54 rfl, cSi]; rfl
 have hc : ∀ v, cP CF (dR (m + 1)) (.f 53 [] [.p h.next 0]) [iD v] h1 = some (.b (!(dP v M.pl)), h1) := fun v => by
  rw [pcf rfl]
  simp only [List.nil_append, List.singleton_append]
  rw [rP 53 rfl, cSr]
  unfold s53
  simp only [g0, g1, ld, aU, V1.K.W.may, iV]
 have ec := dNw S1 (p := fun v => !(dP v M.pl)) (n := m + 1) hc hl (by omega)
 refine ⟨h1, V1, U1, ?_⟩
 rw [rP 16 rfl, cSx]
 unfold s16 aMx aAr
 simp only [g0, g1, g2, g3, em, aU, e1, e2]
 by_cases c1 : zH n = (l.length : Int)
 ·have d1 : (zH n != (l.length : Int)) = false := by simpa using c1
  cases hr : dP r M.pl with
  | false =>
   refine .inl ⟨.inr (.inl hr), ?_⟩
   simp only [iD] at ea el ef ⊢
   simp only [ea, el, aU, iU, d1, iE, ld, V1.K.W.may, hr, iV, Bool.not_false, cU, fV, cX, bP, ef, zK, zL]
  | true =>
   cases hq : l.any (fun v => !(dP v M.pl)) with
   | true =>
    rw [hq] at ec
    obtain ⟨v, hv, hv2⟩ := List.any_eq_true.1 hq
    refine .inl ⟨.inr (.inr ⟨v, hv, by simpa using hv2⟩), ?_⟩
    simp only [iD] at ea el ef ⊢
    simp only [ea, el, aU, iU, d1, iE, ld, V1.K.W.may, hr, iV, Bool.not_true, cU, ec, bP, ef, zK, zL]
   | false =>
    rw [hq] at ec
    refine .inr ⟨fun q => ?_, ?_⟩
    ·rcases q with q | q | ⟨v, hv, hv2⟩
     ·exact q c1
     ·rw [hr] at q; cases q
     ·have : l.any (fun v => !(dP v M.pl)) = true := List.any_eq_true.2 ⟨v, hv, by rw [hv2]; rfl⟩
      rw [this] at hq
      cases hq
    ·simp only [iD] at ea el ef ⊢
     simp only [ea, el, aU, iU, d1, iE, ld, V1.K.W.may, hr, iV, Bool.not_true, cU, ec, bV]
 ·have d1 : (zH n != (l.length : Int)) = true := by simpa using c1
  refine .inl ⟨.inl c1, ?_⟩
  simp only [iD] at ea el ef ⊢
  simp only [ea, el, aU, iU, d1, fV, dDx, cX, bP, ef, zK, zL]
end
end Go.Dd

namespace Go.Dd
open Go.Proofs
theorem zW (T T' : Tr Ob) : ∀ (l : List (Pos × Ob)) (b : Pos), (∃ e ∈ l, e.1 = b) → (eP l T).get b = (eP l T').get b
 | [], b, h => by obtain ⟨e, he, _⟩ := h; cases he
 | x :: l, b, h => by
  show (Tr.set x.2 x.1 (eP l T)).get b = (Tr.set x.2 x.1 (eP l T')).get b
  by_cases e : b = x.1
  ·subst e
   rw [dRu, dRu]
  ·rw [dRt _ _ _ _ e, dRt _ _ _ _ e]
   obtain ⟨y, hy, hb⟩ := h
   simp only [List.mem_cons] at hy
   rcases hy with rfl | hy
   ·exact absurd hb.symm e
   ·exact zW T T' l b ⟨y, hy, hb⟩
theorem aLq (T : Tr Ob) : ∀ (l : List (Pos × Ob)) (b : Pos), (∀ e ∈ l, e.1 ≠ b) → (eP l T).get b = T.get b
 | [], b, h => rfl
 | x :: l, b, h => by
  show (Tr.set x.2 x.1 (eP l T)).get b = _
  rw [dRt _ _ _ _ (fun e => h x (by simp) e.symm)]
  exact aLq T l b fun e he => h e (by simp [he])
noncomputable def hWo (h : Hp) : Hp := ⟨aR nxW, eP HLW h.bl⟩
theorem dLn : hW.bl = eP HLW .e := by kernel_rfl
theorem aNu : HLW.map (·.1) = [aR 7, aR 6, aR 5, aR 4, aR 3, aR 2, aR 1] := rfl
theorem nH (h : Hp) (i : Nat) (hi : i = 1 ∨ i = 2 ∨ i = 3 ∨ i = 4 ∨ i = 5 ∨ i = 6 ∨ i = 7) : (hWo h).bl.get (aR i) = hW.bl.get (aR i) := by
 rw [dLn]
 show (eP HLW h.bl).get (aR i) = _
 refine zW h.bl .e HLW (aR i) ?_
 have : aR i ∈ HLW.map (·.1) := by
  rw [aNu]
  rcases hi with rfl | rfl | rfl | rfl | rfl | rfl | rfl <;> simp
 obtain ⟨e, he, h2⟩ := List.mem_map.1 this
 exact ⟨e, he, h2⟩
theorem dDb (h : Hp) (b : Pos) (hb : b.toNat < 1024) : (hWo h).bl.get b = h.bl.get b := by
 show (eP HLW h.bl).get b = _
 refine aLq h.bl HLW b fun e he q => ?_
 have : e.1 ∈ HLW.map (·.1) := List.mem_map.2 ⟨e, he, rfl⟩
 rw [aNu, q] at this
 simp only [List.mem_cons, List.not_mem_nil, or_false] at this
 rcases this with e | e | e | e | e | e | e <;> subst e
 ·rw [pn7] at hb; omega
 ·rw [pn6] at hb; omega
 ·rw [pn5] at hb; omega
 ·rw [pn4] at hb; omega
 ·rw [pn3] at hb; omega
 ·rw [pn2] at hb; omega
 ·rw [pn1] at hb; omega
theorem WNo (h : Hp) : Wd (hWo h) MN RN esN := by
 have W := WN
 obtain ⟨m1, m2, m3, m4, m5, m6⟩ := kJ W.mem
 refine ⟨by rw [nH h 7 (by simp)]; exact W.w, by rw [nH h 4 (by simp)]; exact W.r, W.rl, by rw [nH h 5 (by simp)]; exact W.sy, ?_, W.nx, W.wb, W.pb⟩
 refine mP (by rw [nH h 3 (by simp)]; exact m1) ?_ ?_ m4 m5 m6
 ·rw [W.wb] at m2 ⊢
  rw [nH h 1 (by simp)]; exact m2
 ·rw [W.pb] at m3 ⊢
  rw [nH h 2 (by simp)]; exact m3
theorem WvN (h : Hp) : Wv 20000 (hWo h) MN RN esN where
 K := ⟨WNo h, GN, KN.sy, KN.r0, KN.rk⟩
 I := GIN
 c := by
  unfold Wc
  rw [nH h 6 (by simp)]
  kernel_rfl
 n := rfl
 fin := by show 4371 + 20000 ≤ 30000; omega
 md := by show 592 + 20000 ≤ 700000; omega
theorem bUq (h : Hp) (hn : kQ h.next (aR 1) = true) : nS 12 [] h = some (.p (aR 7) 0, hWo h) := by
 have e1 : Nat.beq 12 13 = false := rfl
 have e2 : Nat.beq 12 12 = true := rfl
 have e3 : bCz [] = true := rfl
 unfold nS wD aUy vG hWo
 rw [e1, cond_false, e2, cond_true, e3, hn, Bool.and_self, cond_true]
theorem bPc (h : Hp) : nS 13 [] h = some (.b true, h) := rfl
theorem oN {g : FuncId} (h1 : Nat.beq g 13 = false) (h2 : Nat.beq g 12 = false) (args : List DV) (h : Hp) : nS g args h = dR 900 g args h := by
 unfold nS
 rw [h1, cond_false, aXa, h2, cond_false]
end Go.Dd

namespace Go.Dd
open Go.Proofs
section
variable {h : Hp} {M : MemV} {R : List Int} {es : List (DV × DV)} {k : Nat} {b : Pos} {n r : Int} {x : DV} {l : List Int}
def Dr (h : Hp) (b : Pos) (n r : Int) (x : DV) : Prop := h.bl.get b = some (.row .ex [.p (aR 7) 0, iD n, iD r, x]) ∧ 1029 ≤ b.toNat ∧ b.toNat < h.next.toNat
theorem Dr.l0 (D : Dr h b n r x) : aA (.p b (0 + 0)) h = some (.p (aR 7) 0, h) := mF (i := 0 + 0) D.1 rfl rfl
theorem Dr.l1 (D : Dr h b n r x) : aA (.p b (0 + 1)) h = some (iD n, h) := mF (i := 0 + 1) D.1 rfl rfl
theorem Dr.l2 (D : Dr h b n r x) : aA (.p b (0 + 2)) h = some (iD r, h) := mF (i := 0 + 2) D.1 rfl rfl
theorem Dr.l3 (D : Dr h b n r x) (S : SlI x l h) : aA (.p b (0 + 3)) h = some (x, h) := by
 refine mF (i := 0 + 3) D.1 rfl ?_
 rcases S with ⟨rfl, _⟩ | ⟨_, _, _, rfl, _⟩ <;> rfl
theorem aWe {z : Prop} (V : Wv k h M R es z) (S : SlI x l h) (n r : Int) (m : Nat) :
  ∃ b h1, Wv k h1 M R es z ∧ Up h h1 ∧ Dr h1 b n r x ∧ SlI x l h1 ∧ wQ (dR m) m (.p (aR 7) 0) (iD n) (iD r) x h = rN (dR m) m (iD n) (.p b 0) h1 := by
 obtain ⟨U1, V1⟩ := V.new (.row .ex [.p (aR 7) 0, iD n, iD r, x])
 refine ⟨h.next, _, V1, U1, ⟨dRu _ _ _, by have := V.K.W.nx; omega, by show h.next.toNat < h.next.succ.toNat; rw [dRw]; omega⟩, S.up U1, ?_⟩
 have hx : dE x = some [x] := by
  rcases S with ⟨rfl, _⟩ | ⟨_, _, _, rfl, _⟩ <;> rfl
 have e1 : bB [.p0, .i .i64 (Int.ofNat 0), .i .i64 (Int.ofNat 0), .l0] [(0, 1, .p (aR 7) 0), (1, 1, iD n), (2, 1, iD r), (3, 1, x)] h = some (.a [.p (aR 7) 0, iD n, iD r, x], h) := by
  rcases S with ⟨rfl, _⟩ | ⟨_, _, _, rfl, _⟩ <;> simp [bB, iT, dE, iD]
 unfold wQ
 rw [e1, aU]
 rfl
theorem bZb (t : Bool) (m : Nat) (h : Hp) : dR (m + 1) 95 [.b t] h = some (.t [iD (if t then 2 else 4), iD 0], h) := by
 rw [rP 95 rfl, cSs]
 cases t <;> rfl
theorem dHz (D : Dr h b 10 r x) {v : Int} (S : SlI x [v] h) (m : Nat) : dR (m + 2) 56 [.p b 0] h = some (.t [iD (if (r == v) then 2 else 4), iD 0], h) := by
 rw [rP 56 rfl, bUo]
 unfold s56
 obtain ⟨a, e1, e2⟩ := S.at (i := 0) rfl
 have e0 : ((10 : Int) == Int.ofNat 10) = true := rfl
 have t := bZb (r == v) m h
 have l1 := D.l1
 have l2 := D.l2
 simp only [iD] at l1 l2 e2 t ⊢
 simp only [g0, lH, fld, l1, aU, cJ, e0, bP, l2, D.l3 S, e1, e2, t, zK, zL]
theorem dMz (V : Wv k h M R es) (D : Dr h b n r x) (hn : n ≠ 10) (m : Nat) : dR (m + 3) 56 [.p b 0] h = some (.t [iD (bFc M R r), iD 0], h) := by
 rw [rP 56 rfl, bUo]
 unfold s56
 have e0 : (n == Int.ofNat 10) = false := oG hn
 have l1 := D.l1
 have l2 := D.l2
 have c := V.K.W.classOf V.K.G r m
 simp only [iD] at l1 l2 c ⊢
 simp only [g0, lH, fld, l1, aU, cJ, e0, bV, l2, D.l0, c]
 rfl
end
end Go.Dd

namespace Go.Dd
open Go.Proofs
section
variable {h : Hp} {M : MemV} {R : List Int} {es : List (DV × DV)} {k : Nat} {b : Pos} {n r : Int} {x : DV} {l : List Int}
theorem dNj (V : Wv k h M R es) {v : Int} (S : SlI x [v] h) (r : Int) {m : Nat} (hm : 300 < m) :
  ∃ a e h', dR (m + 4) 16 [.p (aR 7) 0, iD 10, iD r, x] h = some (.t [iD a, iD e], h') ∧ Wv k h' M R es ∧ Up h h' ∧
   ((mN M 10 r [v] ∧ a = 0 ∧ e = 20) ∨ (¬ mN M 10 r [v] ∧ a = (if (r == v) then 2 else 4) ∧ e = 0)) := by
 obtain ⟨h1, V1, U1, q | q⟩ := aVu V S (by simp) 10 r hm
 ·exact ⟨0, 20, h1, q.2, V1, U1, .inl ⟨q.1, rfl, rfl⟩⟩
 ·obtain ⟨b, h2, V2, U2, D, S2, e2⟩ := aWe V1 (S.up U1) 10 r (m + 3)
  refine ⟨_, 0, h2, ?_, V2, U1.trans U2, .inr ⟨q.1, rfl, rfl⟩⟩
  rw [q.2, e2]
  have e3 : cP CF (dR (m + 3)) (.f 56 [.p b 0] []) [] h2 = some (.t [iD (if (r == v) then 2 else 4), iD 0], h2) := by
   rw [pcf rfl]
   exact dHz D S2 (m + 1)
  have e0 : ((10 : Int) == Int.ofNat 10) = true := rfl
  unfold rN aMm aMd zY bD
  simp only [iD] at e3 ⊢
  simp only [cJ, e0, aU, bP, e3, zK, zL]
theorem dPd (V : Wv k h M R es) (r : Int) {m : Nat} (hm : 300 < m) :
  ∃ a e h', dR (m + 4) 16 [.p (aR 7) 0, iD 11, iD r, .l0] h = some (.t [iD a, iD e], h') ∧ Wv k h' M R es ∧ Up h h' ∧
   ((dP r M.pl = false ∧ a = 0 ∧ e = 20) ∨ (dP r M.pl = true ∧ a = bFc M R r ∧ e = 0)) := by
 have S : SlI .l0 [] h := .inl ⟨rfl, rfl⟩
 have rf : mN M 11 r [] ↔ dP r M.pl = false := by
  constructor
  ·rintro (q | q | ⟨v, hv, _⟩)
   ·exact absurd (by decide) q
   ·exact q
   ·cases hv
  ·exact fun q => .inr (.inl q)
 obtain ⟨h1, V1, U1, q | q⟩ := aVu V S (by simp) 11 r hm
 ·exact ⟨0, 20, h1, q.2, V1, U1, .inl ⟨rf.1 q.1, rfl, rfl⟩⟩
 ·obtain ⟨b, h2, V2, U2, D, S2, e2⟩ := aWe V1 (S.up U1) 11 r (m + 3)
  refine ⟨_, 0, h2, ?_, V2, U1.trans U2, .inr ⟨by cases hq : dP r M.pl with
   | true => rfl
   | false => exact absurd (rf.2 hq) q.1, rfl, rfl⟩⟩
  rw [q.2, e2]
  have e3 : cP CF (dR (m + 3)) (.f 56 [.p b 0] []) [] h2 = some (.t [iD (bFc M R r), iD 0], h2) := by
   rw [pcf rfl]
   exact dMz V2 D (by decide) m
  have e0 : ((11 : Int) == Int.ofNat 10) = false := rfl
  have e1 : ((11 : Int) == Int.ofNat 11) = true := rfl
  unfold rN aMm aMd zY bD
  simp only [iD] at e3 ⊢
  simp only [cJ, e0, e1, aU, bP, bV, e3, zK, zL]
end
end Go.Dd

namespace Go.Dd
open Go.Proofs
def pK (k : Nat) : Pos := dMf 24 k
def hK (k : Nat) : Hp := ⟨pK k, .e⟩
theorem aFw : (pK 1022).toNat = 1022 := by kernel_rfl
theorem aEm : (pK 1023).toNat = 1023 := by kernel_rfl
theorem cVu : (pK 1022).succ = pK 1023 := by kernel_rfl
theorem dCo : (pK 1023).succ = aR 1 := by kernel_rfl
abbrev th (kd N : Int) (s : List Nat) : DV := .a [iD kd, iD N, .s s]
def i64 (N : Int) : Prop := -9223372036854775808 ≤ N ∧ N ≤ 9223372036854775807
def byS (s : List Nat) : Prop := ∀ c ∈ s, c < 256
theorem cTh (kd N : Int) (s : List Nat) (h : Hp) : bQ (th kd N s) h = some (.p h.next 0, ⟨h.next.succ, Tr.set (.row .ex [iD kd, iD N, .s s]) h.next h.bl⟩) := rfl
section
variable {h h' : Hp} {M : MemV} {R : List Int} {es : List (DV × DV)} {k : Nat} {z : Prop} {b : Pos} {kd N : Int} {s : List Nat}
theorem Tg.ld (T : Tg h b kd N s) : aK 3 (.p b 0) h = some (th kd N s, h) := by
 have e : h.bl.get b = some (.row .ex [iD kd, iD N, .s s]) := T
 simp [aK, cellsAt, rowOf, e, lG, DV.one]
theorem Tg.up (T : Tg h b kd N s) (U : Up h h') (hb : b.toNat < 1024) (hn : b.toNat < h.next.toNat) : Tg h' b kd N s := by
 unfold Tg
 rw [U.get b (.inl hb) hn]
 exact T
theorem dTh (T : Tg h b kd N s) (hb : b.toNat < 1024) : Tg (hWo h) b kd N s := by
 unfold Tg
 rw [dDb h b hb]
 exact T
theorem pE0 (t : TypeId) (h : Hp) : pEq (.pointer t) true (.p (aR 7) 0) .p0 h = some (.b false, h) := Eq.trans rfl rfl
theorem cXb (V : Wv k h M R es z) (v : Int) : ∃ y h', aL [(.i .i64 (Int.ofNat 0))] 1 [(0, 1, iD v)] h = some (y, h') ∧ SlI y [v] h' ∧ Up h h' ∧ Wv k h' M R es z := by
 obtain ⟨U1, V1⟩ := V.new (.row .ex [iD v])
 refine ⟨.l h.next 0 1 1, _, ?_, .inr ⟨h.next, 1, .ex, rfl, dRu _ _ _, .inr (by have := V.K.W.nx; omega), ?_⟩, U1, V1⟩
 ·simp [aL, iT, dE, iD]
 ·show h.next.toNat < h.next.succ.toNat
  rw [dRw]; omega
theorem cCt (t : Bool) (m : Nat) (h : Hp) : dR (m + 1) 17 [.b t] h = some (iD (if t then 2 else 4), h) := by
 rw [rP 17 rfl, cSc]
 cases t <;> rfl
end
theorem dNi : Int.ofNat 10 = (10 : Int) := rfl
theorem dRh : Int.ofNat 11 = (11 : Int) := rfl
theorem cHo (args : List DV) (h : Hp) : nS 14 args h = dR (894 + 6) 14 args h := oN rfl rfl args h
theorem cFg (args : List DV) (h : Hp) : nS 16 args h = dR (896 + 4) 16 args h := oN rfl rfl args h
theorem cMi (args : List DV) (h : Hp) : nS 17 args h = dR (899 + 1) 17 args h := oN rfl rfl args h
theorem cIf (args : List DV) (h : Hp) : nS 23 args h = dR (899 + 1) 23 args h := oN rfl rfl args h
theorem cMb (args : List DV) (h : Hp) : nS 25 args h = dR (898 + 2) 25 args h := oN rfl rfl args h
structure Two (h : Hp) (k1 N1 : Int) (s1 : List Nat) (k2 N2 : Int) (s2 : List Nat) : Prop where
 t1 : Tg h (pK 1022) k1 N1 s1
 t2 : Tg h (pK 1023) k2 N2 s2
 nx : 1024 ≤ h.next.toNat
theorem Two.up {h h' : Hp} {k1 N1 k2 N2 : Int} {s1 s2 : List Nat} (T : Two h k1 N1 s1 k2 N2 s2) (U : Up h h') : Two h' k1 N1 s1 k2 N2 s2 := by
 have := T.nx
 exact ⟨T.t1.up U (by rw [aFw]; omega) (by rw [aFw]; omega), T.t2.up U (by rw [aEm]; omega) (by rw [aEm]; omega), Nat.le_trans T.nx U.next⟩
theorem aNi {p q : Pos} (ne : p ≠ q) (o1 o2 : Ob) (T : Tr Ob) (nx : Pos) : (⟨nx, Tr.set o2 q (Tr.set o1 p T)⟩ : Hp).bl.get p = some o1 ∧ (⟨nx, Tr.set o2 q (Tr.set o1 p T)⟩ : Hp).bl.get q = some o2 :=
 ⟨(dRt _ _ _ _ ne).trans (dRu _ _ _), dRu _ _ _⟩
theorem bGk (k1 N1 : Int) (s1 : List Nat) (k2 N2 : Int) (s2 : List Nat) : ∃ h1 h2, bQ (th k1 N1 s1) (hK 1022) = some (.p (pK 1022) 0, h1) ∧ bQ (th k2 N2 s2) h1 = some (.p (pK 1023) 0, h2) ∧
  nS 12 [] h2 = some (.p (aR 7) 0, hWo h2) ∧ Wv 20000 (hWo h2) MN RN esN ∧ Two (hWo h2) k1 N1 s1 k2 N2 s2 := by
 refine ⟨_, ⟨aR 1, Tr.set (.row .ex [iD k2, iD N2, .s s2]) (pK 1023) (Tr.set (.row .ex [iD k1, iD N1, .s s1]) (pK 1022) .e)⟩, cTh _ _ _ _, ?_, ?_, WvN _, ?_⟩
 ·rw [cTh]
  show some (DV.p (pK 1022).succ 0, (⟨(pK 1022).succ.succ, Tr.set _ (pK 1022).succ _⟩ : Hp)) = _
  rw [cVu, dCo]
  rfl
 ·exact bUq _ (by kernel_rfl)
 ·have ne : pK 1022 ≠ pK 1023 := fun e => by have := congrArg Pos.toNat e; rw [aFw, aEm] at this; omega
  refine ⟨dTh ?_ (by rw [aFw]; omega), dTh ?_ (by rw [aEm]; omega), ?_⟩
  ·exact (aNi ne _ _ _ _).1
  ·exact (aNi ne _ _ _ _).2
  ·exact Nat.le_trans (by omega) (WNo _).nx
end Go.Dd

namespace Go.Dd
open Go.Proofs
noncomputable def s4 (rec : FuncId → List DV → Hp → aI) (n : Nat) (x0 x1 : DV) (h0 : Hp) : aI :=
 bnd (bQ x0 h0) fun v1 h1 =>
 bnd (bQ x1 h1) fun v2 h2 =>
 bnd (rec 12 [] h2) fun v3 h3 =>
 bnd (pEq (.pointer 64) true v3 .p0 h3) fun v4 h4 =>
 aP v4 (
  some ((.b false), h4)) (
  bnd (rec 23 [v3] h4) fun v5 h5 =>
  bnd (aK 3 v1 h5) fun v6 h6 =>
  bnd (rec 14 [v3, v6] h6) fun v7 h7 =>
  bnd (aK 3 v2 h7) fun v8 h8 =>
  bnd (rec 14 [v3, v8] h8) fun v9 h9 =>
  bnd (aL [(.i .i64 (Int.ofNat 0))] 1 [(0, 1, v9)] h9) fun v10 h10 =>
  bnd (rec 16 [v3, (.i .i64 (Int.ofNat 10)), v7, v10] h10) fun v11 h11 =>
  bnd (aC 0 v11 h11) fun v12 h12 =>
  bnd (aC 1 v11 h12) fun v13 h13 =>
  bnd (rec 16 [v3, (.i .i64 (Int.ofNat 11)), v7, .l0] h13) fun v14 h14 =>
  bnd (aC 0 v14 h14) fun v15 h15 =>
  bnd (aC 1 v14 h15) fun v16 h16 =>
  bnd (wF [v5, v7] h16) fun v17 h17 =>
  bnd (fZ .not v17 h17) fun v18 h18 =>
  aP v18 (
   bnd (aD .eql v13 (.i .i64 (Int.ofNat 20)) h18) fun v19 h19 =>
   bnd (gD v19 true (some (v16, h19)) h19) fun v20 h20 =>
   bnd (gD v19 true (aD .eql v20 (.i .i64 (Int.ofNat 20)) h20) h20) fun v21 h21 =>
   bnd (aO v19 v21 (.b false) h21) fun v22 h22 =>
   bnd (gD v22 true (rec 13 [] h22) h22) fun v23 h23 =>
   bnd (aO v22 v23 (.b false) h23) fun v24 h24 =>
   some (v24, h24)) (
   bnd (wF [v5, v9] h18) fun v25 h25 =>
   bnd (fZ .not v25 h25) fun v26 h26 =>
   aP v26 (
    bnd (aD .eql v13 (.i .i64 (Int.ofNat 20)) h26) fun v27 h27 =>
    bnd (gD v27 true (some (v16, h27)) h27) fun v28 h28 =>
    bnd (gD v27 true (aD .eql v28 (.i .i64 (Int.ofNat 0)) h28) h28) fun v29 h29 =>
    bnd (aO v27 v29 (.b false) h29) fun v30 h30 =>
    bnd (gD v30 true (rec 13 [] h30) h30) fun v31 h31 =>
    bnd (aO v30 v31 (.b false) h31) fun v32 h32 =>
    some (v32, h32)) (
    bnd (aD .eql v7 v9 h26) fun v33 h33 =>
    bnd (rec 17 [v33] h33) fun v34 h34 =>
    bnd (aD .eql v12 v34 h34) fun v35 h35 =>
    bnd (gD v35 true (some (v13, h35)) h35) fun v36 h36 =>
    bnd (gD v35 true (aD .eql v36 (.i .i64 (Int.ofNat 0)) h36) h36) fun v37 h37 =>
    bnd (aO v35 v37 (.b false) h37) fun v38 h38 =>
    bnd (gD v38 true (some (v15, h38)) h38) fun v39 h39 =>
    bnd (gD v38 true (some (v3, h39)) h39) fun v40 h40 =>
    bnd (gD v38 true (some (v7, h40)) h40) fun v41 h41 =>
    bnd (gD v38 true (rec 25 [v40, v41] h41) h41) fun v42 h42 =>
    bnd (gD v38 true (aD .eql v39 v42 h42) h42) fun v43 h43 =>
    bnd (aO v38 v43 (.b false) h43) fun v44 h44 =>
    bnd (gD v44 true (some (v16, h44)) h44) fun v45 h45 =>
    bnd (gD v44 true (aD .eql v45 (.i .i64 (Int.ofNat 0)) h45) h45) fun v46 h46 =>
    bnd (aO v44 v46 (.b false) h46) fun v47 h47 =>
    bnd (gD v47 true (rec 13 [] h47) h47) fun v48 h48 =>
    bnd (aO v47 v48 (.b false) h48) fun v49 h49 =>
    some (v49, h49))))
noncomputable def D4 (rec : FuncId → List DV → Hp → aI) (n : Nat) (c : Code) (X : Nat → K) (k : K) : K := aM CF rec 88 n c X (aT CF Tryz.f4) k
theorem s4m (rec : FuncId → List DV → Hp → aI) (n : Nat) : D4 rec n (cf Tryz.f4) x0 (aT CF Tryz.f4) = (fun (env : aY) (h : Hp) => s4 rec n (env 0) (env 1) h) :=
 (by kernel_rfl)
theorem dQr (rec : FuncId → List DV → Hp → aI) (n : Nat) (args : List DV) (h : Hp) : aF CF rec n 4 args h = s4 rec n (args.getD 0 aV) (args.getD 1 aV) h :=
 (by kernel_rfl : aF CF rec n 4 args h = D4 rec n (cf Tryz.f4) x0 (aT CF Tryz.f4) (aJ args) h).trans ((congrFun (congrFun (s4m rec n) (aJ args)) h).trans (by kernel_rfl))
end Go.Dd

namespace Go.Dd
open Go.Proofs
theorem dBt {k1 N1 k2 N2 : Int} {s1 s2 : List Nat} (i1 : i64 N1) (i2 : i64 N2) (b1 : byS s1) (b2 : byS s2) : ∃ k, aF CF nS 900 4 [th k1 N1 s1, th k2 N2 s2] (hK 1022) = some (.b true, k) := by
 obtain ⟨h1, h2, e1, e2, e3, V0, T0⟩ := bGk k1 N1 s1 k2 N2 s2
 obtain ⟨r, h3, M3, R3, es3, e4, V3, U3, S3⟩ := aVg (k := 19740) V0 k1 i1 b1 (m := 894) (by omega)
 have T3 := T0.up U3
 obtain ⟨x, h4, M4, R4, es4, e5, V4, U4, S4⟩ := aVg (k := 19480) V3 k2 i2 b2 (m := 894) (by omega)
 have T4 := T3.up U4
 obtain ⟨y, h5, e6, S5, U5, V5⟩ := cXb V4 x
 obtain ⟨a, e, h6, e7, V6, U6, A6⟩ := dNj V5 S5 r (m := 896) (by omega)
 obtain ⟨a2, f, h7, e8, V7, U7, A7⟩ := dPd V6 r (m := 896) (by omega)
 have em := V0.K.W.memory 899
 have m1 := V7.K.W.may r
 have m2 := V7.K.W.may x
 have co := V7.K.W.classOf V7.K.G r 898
 have tr := cCt (r == x) 899 h7
 have lv := bPc h7
 simp only [iD] at e1 e2 e4 e5 e6 e7 e8 em m1 m2 co tr
 rw [dQr]
 unfold s4
 simp only [th, iD] at e1 e2 ⊢
 simp only [g0, g1, e1, aU, e2, e3, pE0, bV, cIf, em, T0.t1.ld, cHo, e4, T3.t2.ld, e5, e6, cFg, dNi, dRh, e7, e8, zK, zL, m1, iV]
 cases hr : dP r M4.pl with
 | false =>
  have f20 : f = 20 := by
   rcases A7 with ⟨_, _, q⟩ | ⟨q, _, _⟩
   ·exact q
   ·rw [hr] at q; cases q
  have e20 : e = 20 := by
   rcases A6 with ⟨_, _, q⟩ | ⟨q, _, _⟩
   ·exact q
   ·exact absurd (.inr (.inl hr)) q
  subst f20; subst e20
  refine ⟨h7, ?_⟩
  simp only [Bool.not_false, bP, cJ, show ((20 : Int) == Int.ofNat 20) = true from rfl, aTg, aU, cX, lv]
 | true =>
  have f0 : f = 0 ∧ a2 = bFc M4 R4 r := by
   rcases A7 with ⟨q, _, _⟩ | ⟨_, q, q2⟩
   ·rw [hr] at q; cases q
   ·exact ⟨q2, q⟩
  obtain ⟨rfl, rfl⟩ := f0
  simp only [Bool.not_true, bV, m2, aU, iV]
  cases hx : dP x M4.pl with
  | false =>
   have e20 : e = 20 := by
    rcases A6 with ⟨_, _, q⟩ | ⟨q, _, _⟩
    ·exact q
    ·exact absurd (.inr (.inr ⟨x, by simp, hx⟩)) q
   subst e20
   refine ⟨h7, ?_⟩
   simp only [Bool.not_false, bP, cJ, show ((20 : Int) == Int.ofNat 20) = true from rfl, show ((0 : Int) == Int.ofNat 0) = true from rfl, aTg, aU, cX, lv]
  | true =>
   have nr : ¬ mN M4 10 r [x] := fun q => by
    rcases q with q | q | ⟨v, hv, q⟩
    ·exact q rfl
    ·rw [hr] at q; cases q
    ·simp only [List.mem_singleton] at hv; subst hv; rw [hx] at q; cases q
   have e0 : e = 0 ∧ a = (if (r == x) then 2 else 4) := by
    rcases A6 with ⟨q, _, _⟩ | ⟨_, q, q2⟩
    ·exact absurd q nr
    ·exact ⟨q2, q⟩
   obtain ⟨rfl, rfl⟩ := e0
   refine ⟨h7, ?_⟩
   have eqr : ∀ v : Int, (v == v) = true := fun v => beq_self_eq_true v
   simp only [Bool.not_true, bV, cJ, cMi, tr, eqr, aTg, aU, cX, lv, cMb, co, show ((0 : Int) == Int.ofNat 0) = true from rfl]
end Go.Dd

namespace Go.Dd
open Go.Proofs
theorem bTo {P : Program} {W : World} {base : Nat} {t : TypeId} {v : Value} {fs : Array Field} (ht : P.underlying t = some (.struct fs)) (h : Value.okWide P W .any base t v) : ∃ cs, v = .agg cs := by
 unfold Value.okWide at h
 rw [ht] at h
 obtain ⟨cs, e, _⟩ := h
 exact ⟨cs, e⟩
theorem aZs : Tryz.prog.cellsOf 23 = 3 := by kernel_rfl
theorem bJh : Tryz.prog.cellsOf 3 = 1 := by kernel_rfl
theorem bNn : Tryz.prog.cellsOf 9 = 1 := by kernel_rfl
section
variable {H : Type} {enc : TypeId × Value → H} {W : World} {base b0 : Nat} {sp : Nat → Bool} {held : Bool}
theorem aUp {n : Nat} {cs : List Value} {x : DataW H × List MemPlace} (h : DataW.trod enc Tryz.prog W base sp held n 23 cs = some x) :
  ∃ (kd N : Int) (s : ByteArray), cs = [.int .i64 kd, .int .i64 N, .string s] ∧ x = (.agg [.lit (.int .i64 kd), .lit (.int .i64 N), .lit (.string s.data.toList)], []) ∧ (Lit.int .i64 kd).wf = true ∧ (Lit.int .i64 N).wf = true ∧ s.size ≤ maxLen := by
 obtain ⟨xs, n, rfl, hx, hl, hs, hf⟩ := DataW.trod_struct Tryz.underlying23 h
 rw [aZs] at hl
 match cs, hl with
 | [a, b, c], _ =>
  have hs : xs.length = 3 := hs
  match xs, hs with
  | [x0, x1, x2], _ =>
   have f0 := hf 0 _ rfl
   have f1 := hf 1 _ rfl
   have f2 := hf 2 _ rfl
   change DataW.trod enc Tryz.prog W base sp held n 3 (List.take (Tryz.prog.cellsOf 3) [a, b, c]) = some x0 at f0
   change DataW.trod enc Tryz.prog W base sp held n 3 (List.take (Tryz.prog.cellsOf 3) [b, c]) = some x1 at f1
   change DataW.trod enc Tryz.prog W base sp held n 9 (List.take (Tryz.prog.cellsOf 9) [c]) = some x2 at f2
   rw [bJh] at f0 f1
   rw [bNn] at f2
   obtain ⟨kd, e0, q0, w0⟩ := DataW.trod_int Tryz.underlying3 f0
   obtain ⟨N, e1, q1, w1⟩ := DataW.trod_int Tryz.underlying3 f1
   obtain ⟨s, e2, q2, w2⟩ := DataW.trod_string Tryz.underlying9 f2
   simp only [List.take, List.cons.injEq, and_true] at e0 e1 e2
   subst e0 e1 e2
   refine ⟨kd, N, s, rfl, ?_, w0, w1, w2⟩
   rw [hx, q0, q1, q2]
   rfl
theorem aUf {kd N : Int} {s : ByteArray} (w0 : (Lit.int .i64 kd).wf = true) (w1 : (Lit.int .i64 N).wf = true) (w2 : s.size ≤ maxLen) (n : Nat) :
  DataW.trod enc Tryz.prog W base sp held (n + 2) 23 [.int .i64 kd, .int .i64 N, .string s] = some (.agg [.lit (.int .i64 kd), .lit (.int .i64 N), .lit (.string s.data.toList)], []) := by
 have t0 : DataW.trod enc Tryz.prog W base sp held (n + 1) 3 [.int .i64 kd] = some (.lit (.int .i64 kd), []) := by
  rw [DataW.trod_step]; unfold DataW.trodStep; rw [Tryz.underlying3]; simp [w0]
 have t1 : DataW.trod enc Tryz.prog W base sp held (n + 1) 3 [.int .i64 N] = some (.lit (.int .i64 N), []) := by
  rw [DataW.trod_step]; unfold DataW.trodStep; rw [Tryz.underlying3]; simp [w1]
 have t2 : DataW.trod enc Tryz.prog W base sp held (n + 1) 9 [.string s] = some (.lit (.string s.data.toList), []) := by
  rw [DataW.trod_step]; unfold DataW.trodStep; rw [Tryz.underlying9]; simp [w2]
 rw [DataW.trod_step]; unfold DataW.trodStep; rw [Tryz.underlying23]
 simp [aZs, bJh, bNn, t0, t1, t2]
theorem zJ {v : Value} {d : DataW H} {ps : List MemPlace} (hval : Value.okWide Tryz.prog W .any b0 23 v) (hd : DataW.Trod enc Tryz.prog W base sp held 23 v d ps) :
  ∃ (kd N : Int) (s : ByteArray), v = .agg #[.int .i64 kd, .int .i64 N, .string s] ∧ ps = [] ∧ (Lit.int .i64 N).wf = true ∧ ∀ (W' : World) (base' : Nat) (sp' : Nat → Bool), DataW.Trod enc Tryz.prog W' base' sp' held 23 (.agg #[.int .i64 kd, .int .i64 N, .string s]) d [] := by
 obtain ⟨cs, rfl⟩ := bTo Tryz.underlying23 hval
 obtain ⟨n, hf⟩ := hd
 have hf : DataW.trod enc Tryz.prog W base sp held n 23 cs.toList = some (d, ps) := hf
 obtain ⟨kd, N, s, e, ex, w0, w1, w2⟩ := aUp hf
 have ecs : cs = #[.int .i64 kd, .int .i64 N, .string s] := by
  apply Array.toList_inj.1
  exact e
 cases ex
 exact ⟨kd, N, s, by rw [ecs], rfl, w1, fun W' base' sp' => ⟨2, aUf w0 w1 w2 0⟩⟩
end
theorem bTe {n : Int} (w : (Lit.int .i64 n).wf = true) : i64 n := Go.bounds_i64 w
theorem aLa {ρ : cZ} (kd N : Int) (s : ByteArray) : VR ρ (th kd N (s.data.toList.map (·.toNat))) (.agg #[.int .i64 kd, .int .i64 N, .string s]) :=
 .a _ _ (.cons _ _ _ _ (.i _ _) (.cons _ _ _ _ (.i _ _) (.cons _ _ _ _ (.s _ _ rfl) .nil)))
end Go.Dd

