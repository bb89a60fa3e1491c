/- A part of the proof: TX3 TX4: each text has a comment of its own. -/
import Derived.Test.YtdpdcbdfgfeoeaaGreatKt8
set_option linter.unusedVariables false
set_option linter.unusedSimpArgs false
set_option linter.constructorNameAsVariable false
set_option maxRecDepth 100000
namespace Go.Dd
open Go.Proofs
theorem aLh {w : Int} {pl : WT} (h : cD w pl ≠ 0) : jM w pl = true := by
 unfold jM
 split <;> first | rfl | skip
 rw [cIm h]
 simp
theorem yZ {w : Int} {pl : WT} {k : Nat} (hk : k < 16000000) (h : jM w pl = true) : jM w (pl.set k (.ofNat 1)) = true := by
 by_cases ha : cD w pl = 0
 ·unfold jM at h ⊢
  by_cases w0 : w = 0
  ·subst w0; rfl
  ·by_cases w2 : w = 2
   ·subst w2; rfl
   ·by_cases w4 : w = 4
    ·subst w4; rfl
    ·split
     ·exact absurd rfl w0
     ·exact absurd rfl w2
     ·exact absurd rfl w4
     ·split at h
      ·exact absurd rfl w0
      ·exact absurd rfl w2
      ·exact absurd rfl w4
      ·rw [ha] at h
       have : eZ w = true := by simpa using h
       rw [this]
       rfl
 ·exact aLh (by rw [pR hk ha]; exact ha)
theorem TxO.inj {M : MemV} {c1 c2 o : Int} {s t : List Nat} (h1 : TxO M c1 o s) (h2 : TxO M c2 o t) : s = t := by
 have hl : s.length = t.length := by
  have := h1.hd.symm.trans h2.hd
  have := Int.ofNat.inj this
  omega
 refine List.ext_getElem? fun i => ?_
 rcases Nat.lt_or_ge i s.length with q | q
 ·obtain ⟨c, hc⟩ : ∃ c, s[i]? = some c := ⟨s[i], by simp [q]⟩
  obtain ⟨d, hd⟩ : ∃ d, t[i]? = some d := ⟨t[i]'(by omega), by simp⟩
  have := (h1.get i c hc).symm.trans (h2.get i d hd)
  rw [hc, hd, Int.ofNat.inj this]
 ·rw [List.getElem?_eq_none q, List.getElem?_eq_none (by omega)]
def dAj (M : MemV) (R : List Int) (es : List (DV × DV)) : Prop := ∀ e ∈ es, ∃ s x, e = (.s s, iD x) ∧ TxO M (R.getD 13 0) x s
theorem cEg {es : List (DV × DV)} (s : List Nat) : (∀ e ∈ es, ∃ (k : List Nat) (x : Int), e = (.s k, iD x)) →
  (∃ x, cY .string (.s s) es = some (some (iD x)) ∧ (DV.s s, iD x) ∈ es) ∨ (cY .string (.s s) es = some none ∧ ∀ i, vQ .string (.s s) es i = some none) := by
 induction es with
 | nil => exact fun _ => .inr ⟨rfl, fun _ => rfl⟩
 | cons e es ih =>
  intro h
  obtain ⟨k, x, he⟩ := h e (by simp)
  subst he
  cases hk : vW s k with
  | true =>
   have := (kJ s k).1 hk
   subst this
   exact .inl ⟨x, by simp only [cY, lV, hk], by simp⟩
  | false =>
   rcases ih fun e he => h e (by simp [he]) with ⟨y, h1, h2⟩ | ⟨h1, h2⟩
   ·exact .inl ⟨y, by simp only [cY, lV, hk]; exact h1, by simp [h2]⟩
   ·exact .inr ⟨by simp only [cY, lV, hk]; exact h1, fun i => by simp only [vQ, lV, hk]; exact h2 _⟩
theorem bKp {es l : List (DV × DV)} {k v : DV} (h : cY .string k es = some (some v)) : cY .string k (es ++ l) = some (some v) := by
 induction es with
 | nil => cases h
 | cons e es ih =>
  simp only [List.cons_append, cY] at h ⊢
  split
  ·rename_i hk; rw [hk] at h; exact h
  ·rename_i hk; rw [hk] at h; exact ih h
  ·rename_i hk; rw [hk] at h; cases h
theorem bLg {es : List (DV × DV)} {s : List Nat} {v : DV} (h : cY .string (.s s) es = some none) : cY .string (.s s) (es ++ [(.s s, v)]) = some (some v) := by
 induction es with
 | nil =>
  have : vW s s = true := (kJ s s).2 rfl
  simp only [List.nil_append, cY, lV, this]
 | cons e es ih =>
  simp only [List.cons_append, cY] at h ⊢
  split
  ·rename_i hk; rw [hk] at h; cases h
  ·rename_i hk; rw [hk] at h; exact ih h
  ·rename_i hk; rw [hk] at h; cases h
structure Wk (h : Hp) (M : MemV) (R : List Int) (es : List (DV × DV)) : Prop where
 W : Wd h M R es
 G : Good M
 sy : dAj M R es
 r0 : jM (R.getD 0 0) M.pl = true
 rk : ∀ i, i < 16 → cD (R.getD (2 + i) 0) M.pl ≠ 0
structure Stay (k : Nat) (M M' : MemV) (R R' : List Int) (es es' : List (DV × DV)) : Prop where
 n : M'.n = M.n
 fin : M'.fin ≤ M.fin + k
 made : M'.made ≤ M.made + k
 lo : M.fin ≤ M'.fin
 tx : ∀ cls o s, TxO M cls o s → TxO M' cls o s
 at' : ∀ o, cD o M.pl ≠ 0 → cD o M'.pl = cD o M.pl
 r : ∀ i, R'.getD (i + 1) 0 = R.getD (i + 1) 0
 fd : ∀ s v, cY .string (.s s) es = some (some v) → cY .string (.s s) es' = some (some v)
theorem Stay.refl (k : Nat) (M : MemV) (R : List Int) (es : List (DV × DV)) : Stay k M M R R es es := ⟨rfl, by omega, by omega, by omega, fun _ _ _ h => h, fun _ _ => rfl, fun _ => rfl, fun _ _ h => h⟩
theorem Stay.trans {a b : Nat} {M M' M2 : MemV} {R R' R2 : List Int} {es es' es2 : List (DV × DV)} (h : Stay a M M' R R' es es') (k : Stay b M' M2 R' R2 es' es2) : Stay (a + b) M M2 R R2 es es2 :=
 ⟨k.n.trans h.n, by have := h.fin; have := k.fin; omega, by have := h.made; have := k.made; omega, by have := h.lo; have := k.lo; omega, fun c o s t => k.tx _ _ _ (h.tx _ _ _ t),
  fun o ho => by have h1 := h.at' o ho; rw [k.at' o (by rw [h1]; exact ho), h1], fun i => (k.r i).trans (h.r i), fun s v e => k.fd s v (h.fd s v e)⟩
theorem Grown.stay {M M' : MemV} {f : Nat} {cls : Int} {l : List Int} (g : Grown M M' f cls l) (G : Good M) (R : List Int) (es : List (DV × DV)) : Stay (l.length + 3) M M' R R es es :=
 ⟨g.n, by rw [g.fin]; exact Nat.le_refl _, by rw [g.made]; omega, by rw [g.fin]; omega, fun _ _ _ t => g.txo G t, fun o ho => by rw [g.pl]; exact pR (by have := G.le; have := G.hi; omega) ho, fun _ => rfl, fun _ _ h => h⟩
theorem Grown.wk {h h' : Hp} {M M' : MemV} {R : List Int} {es : List (DV × DV)} {f : Nat} {cls : Int} {l : List Int} (g : Grown M M' f cls l) (K : Wk h M R es) (W' : Wd h' M' R es) (hc : cD cls M.pl ≠ 0) (hf : f ≤ 2) (h256 : l.length ≤ 256) (room : M.fin + l.length + 3 ≤ M.n) (hm : M.made < 899999) : Wk h' M' R es := by
 have hk : M.fin < 16000000 := by have := K.G.le; have := K.G.hi; omega
 refine ⟨W', g.good K.G hc hf h256 room hm, fun e he => ?_, by rw [g.pl]; exact yZ hk K.r0, fun i hi => by rw [g.pl, pR hk (K.rk i hi)]; exact K.rk i hi⟩
 obtain ⟨s, x, h1, h2⟩ := K.sy e he
 exact ⟨s, x, h1, g.txo K.G h2⟩
section
variable {h : Hp} {M : MemV} {R : List Int} {es : List (DV × DV)}
theorem Wd.setR0 (W : Wd h M R es) (v : Int) : aF 1 (.p (bG 4) 0) (iD v) h = some (aT, ⟨h.next, Tr.set (.row .ex ((R.set 0 v).map iD)) (bG 4) h.bl⟩) ∧ Wd ⟨h.next, Tr.set (.row .ex ((R.set 0 v).map iD)) (bG 4) h.bl⟩ M (R.set 0 v) es ∧
  Up h ⟨h.next, Tr.set (.row .ex ((R.set 0 v).map iD)) (bG 4) h.bl⟩ := by
 obtain ⟨m1, m2, m3, m4, m5, m6⟩ := lG W.mem
 have ne : ∀ b : Pos, b.toNat ≠ 4 → (Tr.set (.row .ex ((R.set 0 v).map iD)) (bG 4) h.bl).get b = h.bl.get b := fun b hb => by
  rw [dDv]
  intro e; rw [e, pn4] at hb; exact hb rfl
 refine ⟨?_, ⟨(ne _ (by rw [pn7]; omega)).trans W.w, (by show (Tr.set _ (bG 4) _).get (bG 4) = _; exact dDw _ _ _), by simp [W.rl], (ne _ (by rw [pn5]; omega)).trans W.sy, ?_, W.nx, W.wb, W.pb⟩, ⟨Nat.le_refl _, fun b h1 h2 => ne b (by omega)⟩⟩
 ·have hp : fP 0 (R.map iD) [iD v] = some ((R.set 0 v).map iD) := by
   have hl := W.rl
   cases R with
   | nil => simp at hl
   | cons a l =>
    show jT (iD a :: l.map iD) [iD v] = _
    have : jT (l.map iD) [] = some (l.map iD) := by cases l.map iD <;> rfl
    simp only [jT, DV.one, Bool.and_self, if_true, this, Option.map_some]
    rfl
  have hw : Kind.ex.writable = true := rfl
  simp only [aF, dT, List.length_singleton, if_true, cZ, W.r, hw, hp]
 ·exact nQ ((ne _ (by rw [pn3]; omega)).trans m1) ((ne _ (by rw [W.wb, pn1]; omega)).trans m2) ((ne _ (by rw [W.pb, pn2]; omega)).trans m3) m4 m5 m6
theorem Wd.setS (W : Wd h M R es) (es' : List (DV × DV)) : Wd ⟨h.next, Tr.set (.mp es') (bG 5) h.bl⟩ M R es' ∧ Up h ⟨h.next, Tr.set (.mp es') (bG 5) h.bl⟩ := by
 obtain ⟨m1, m2, m3, m4, m5, m6⟩ := lG W.mem
 have ne : ∀ b : Pos, b.toNat ≠ 5 → (Tr.set (.mp es') (bG 5) h.bl).get b = h.bl.get b := fun b hb => by
  rw [dDv]
  intro e; rw [e, pn5] at hb; exact hb rfl
 exact ⟨⟨(ne _ (by rw [pn7]; omega)).trans W.w, (ne _ (by rw [pn4]; omega)).trans W.r, W.rl, (by show (Tr.set _ (bG 5) _).get (bG 5) = _; exact dDw _ _ _),
  nQ ((ne _ (by rw [pn3]; omega)).trans m1) ((ne _ (by rw [W.wb, pn1]; omega)).trans m2) ((ne _ (by rw [W.pb, pn2]; omega)).trans m3) m4 m5 m6, W.nx, W.wb, W.pb⟩, ⟨Nat.le_refl _, fun b h1 h2 => ne b (by omega)⟩⟩
theorem Wk.push (K : Wk h M R es) {x y : Int} (hx : jM x M.pl = true) (hy : jM y M.pl = true) (room : M.fin + 5 ≤ M.n) (hm : M.made < 899999) {n : Nat} (hn : 256 < n) :
  ∃ h' M', jR (n + 2) 48 [.p (bG 7) 0, .i .i64 x, .i .i64 y] h = some (.t [.i .i64 (.ofNat (M.fin * 2)), .i .i64 (.ofNat 0)], h') ∧ Wk h' M' R es ∧ Up h h' ∧ Grown M M' 0 (R.getD 11 0) [x, y] := by
 have hk : M.fin < 16000000 := by have := K.G.le; have := K.G.hi; omega
 have fl : aL [.i .i64 (Int.ofNat 0), .i .i64 (Int.ofNat 0)] 2 [(0, 1, .i .i64 x), (1, 1, .i .i64 y)] h = some (.l h.next 0 2 2, ⟨h.next.succ, Tr.set (.row .ex ([x, y].map iD)) h.next h.bl⟩) := by
  simp [aL, kN, dT]
 obtain ⟨U1, W1⟩ := K.W.new (.row .ex ([x, y].map iD))
 have S : SlI (.l h.next 0 2 2) [x, y] ⟨h.next.succ, Tr.set (.row .ex ([x, y].map iD)) h.next h.bl⟩ := .inr ⟨h.next, 2, .ex, rfl, dDw _ _ _, K.W.nx, by show _ < (h.next.succ).toNat; rw [dDz]; omega⟩
 have K1 : Wk ⟨h.next.succ, Tr.set (.row .ex ([x, y].map iD)) h.next h.bl⟩ M R es := ⟨W1, K.G, K.sy, K.r0, K.rk⟩
 obtain ⟨h', M', e1, W2, U2, _, g⟩ := W1.make61 K.G (K.rk 9 (by omega)) (f := 0) (by omega) S (by simp) (by simpa using room) (fun v hv => by
  simp only [List.mem_cons, List.not_mem_nil, or_false] at hv
  rcases hv with rfl | rfl
  ·exact yZ hk hx
  ·exact yZ hk hy) hn
 refine ⟨h', M', ?_, g.wk K1 W2 (K.rk 9 (by omega)) (by omega) (by simp) (by simpa using room) hm, U1.trans U2, g⟩
 rw [shS, cGd]
 unfold s48
 simp only [g0, g1, g2, bA, K.W.known (show 9 < 16 by omega), fl]
 rw [show (2 : Nat) + 9 = 11 from rfl] at e1 ⊢
 rw [e1]
 simp only [bA, px0, px1]
theorem Wk.symbol (K : Wk h M R es) {s : List Nat} (hs : ∀ c ∈ s, c < 256) (room : M.fin + 70 ≤ M.n) (hm : M.made < 800000) {n : Nat} (hn : 300 < n) :
  ∃ a e h' M' R' es', jR (n + 3) 11 [.p (bG 7) 0, .s s] h = some (.t [.i .i64 a, .i .i64 e], h') ∧ Wk h' M' R' es' ∧ Up h h' ∧ Stay 80 M M' R R' es es' ∧
   ((¬ (1 ≤ s.length ∧ s.length ≤ 60) ∧ e = 1 ∧ a = 0) ∨ ((1 ≤ s.length ∧ s.length ≤ 60) ∧ e = 0 ∧ cY .string (.s s) es' = some (some (iD a)) ∧ TxO M' (R.getD 13 0) a s)) := by
 rw [shS, cGl]
 unfold s11
 have el : ∀ h, cU (.s s) h = some (.i .i64 (s.length : Int), h) := fun h => rfl
 by_cases c1 : s.length < 1
 ·refine ⟨0, 1, h, M, R, es, ?_, K, Up.refl h, Stay.refl _ _ _ _, .inl ⟨by omega, rfl, rfl⟩⟩
  have d1 : decide ((s.length : Int) < Int.ofNat 1) = true := decide_eq_true (by simp; omega)
  simp only [g0, g1, el, bA, dY, d1, gP, bWe, dC, cO]
  rfl
 ·have d1 : decide ((s.length : Int) < Int.ofNat 1) = false := decide_eq_false (by simp; omega)
  by_cases c2 : s.length > 60
  ·refine ⟨0, 1, h, M, R, es, ?_, K, Up.refl h, Stay.refl _ _ _ _, .inl ⟨by omega, rfl, rfl⟩⟩
   have d2 : decide ((s.length : Int) > Int.ofNat 60) = true := decide_eq_true (by simp; omega)
   simp only [g0, g1, el, bA, dY, gS, d1, d2, gT, cN, cO]
   rfl
  ·have d2 : decide ((s.length : Int) > Int.ofNat 60) = false := decide_eq_false (by simp; omega)
   have hl : 1 ≤ s.length ∧ s.length ≤ 60 := by omega
   simp only [g0, g1, el, bA, dY, gS, d1, d2, gT, cN, cF, kY, fld, K.W.l2]
   rcases cEg s (fun e he => by obtain ⟨k, x, h1, _⟩ := K.sy e he; exact ⟨k, x, h1⟩) with ⟨x, f1, f2⟩ | ⟨f1, f2⟩
   ·
    obtain ⟨k, y, e1, T⟩ := K.sy _ f2
    simp only [bL, DV.s.injEq, DV.i.injEq, true_and] at e1
    obtain ⟨rfl, rfl⟩ := e1
    have hx : x ≠ 0 := fun e => T.at0 (by rw [e]; rfl)
    have z1 : (x != Int.ofNat 0) = true := by
     have : (x == Int.ofNat 0) = false := by simpa using hx
     rw [bne, this]; rfl
    have lk : dV .string (.i .i64 (Int.ofNat 0)) false (.m (bG 5)) (.s s) h = some (iD x, h) := by
     simp only [dV, fW, K.W.sy, f1, cond_false]
    refine ⟨x, 0, h, M, R, es, ?_, K, Up.refl h, Stay.refl _ _ _ _, .inr ⟨hl, rfl, f1, T⟩⟩
    simp only [lk, bA, fZ, z1, cO]
    rfl
   ·
    have lk : dV .string (.i .i64 (Int.ofNat 0)) false (.m (bG 5)) (.s s) h = some (.i .i64 (Int.ofNat 0), h) := by
     simp only [dV, fW, K.W.sy, f1, cond_false]
    have z0 : (Int.ofNat 0 != Int.ofNat 0) = false := rfl
    obtain ⟨h1, M1, e1, W1, U1, g1⟩ := K.W.bytes49 K.G (K.rk 11 (by omega)) hs (by omega) (by omega) hn
    have K1 : Wk h1 M1 R es := g1.wk K W1 (K.rk 11 (by omega)) (by omega) (by simp; omega) (by simp; omega) (by omega)
    have T1 : TxO M1 (R.getD 13 0) (.ofNat (M.fin * 2)) s := g1.new_txo K.G hs (by omega)
    have hf1 := g1.fin
    have hn1 := g1.n
    have hd1 := g1.made
    rw [List.length_map] at hf1
    obtain ⟨h2, M2, e2, K2, U2, g2⟩ := K1.push (x := .ofNat (M.fin * 2)) (y := R.getD 0 0) (aLh T1.at0) K1.r0 (by omega) (by omega) (n := n) (by omega)
    have T2 := g2.txo K1.G T1
    have G1 := K1.G
    have ha : cD (.ofNat (M1.fin * 2)) M2.pl = M1.fin := by rw [g2.pl]; exact aKz G1.lo (by have := G1.le; have := G1.hi; omega)
    obtain ⟨e3, W3, U3⟩ := K2.W.setR0 (.ofNat (M1.fin * 2))
    obtain ⟨W4, U4⟩ := W3.setS (es ++ [(.s s, .i .i64 (Int.ofNat 0))])
    obtain ⟨W5, U5⟩ := W4.setS (es ++ [(.s s, .i .i64 (.ofNat (M.fin * 2)))])
    have rset : ∀ i, (R.set 0 (Int.ofNat (M1.fin * 2))).getD (i + 1) 0 = R.getD (i + 1) 0 := fun i => by
     simp [List.getD, List.getElem?_set]
    have me : fB .string (.i .i64 (Int.ofNat 0)) (.m (bG 5)) (.s s) ⟨h2.next, Tr.set (.row .ex ((R.set 0 (Int.ofNat (M1.fin * 2))).map iD)) (bG 4) h2.bl⟩ =
      some (.t [.i .i64 (Int.ofNat 0), .i .i64 (.ofNat es.length)], ⟨h2.next, Tr.set (.mp (es ++ [(.s s, .i .i64 (Int.ofNat 0))])) (bG 5) (Tr.set (.row .ex ((R.set 0 (Int.ofNat (M1.fin * 2))).map iD)) (bG 4) h2.bl)⟩) := by
     simp only [fB, W3.sy, f2]
     rfl
    have ms : dI (.m (bG 5)) (.i .i64 (.ofNat es.length)) (.i .i64 (.ofNat (M.fin * 2))) ⟨h2.next, Tr.set (.mp (es ++ [(.s s, .i .i64 (Int.ofNat 0))])) (bG 5) (Tr.set (.row .ex ((R.set 0 (Int.ofNat (M1.fin * 2))).map iD)) (bG 4) h2.bl)⟩ =
      some (aT, ⟨h2.next, Tr.set (.mp (es ++ [(.s s, .i .i64 (.ofNat (M.fin * 2)))])) (bG 5) (Tr.set (.mp (es ++ [(.s s, .i .i64 (Int.ofNat 0))])) (bG 5) (Tr.set (.row .ex ((R.set 0 (Int.ofNat (M1.fin * 2))).map iD)) (bG 4) h2.bl))⟩) := by
     have q1 : (es ++ [(DV.s s, DV.i .i64 (Int.ofNat 0))])[es.length]? = some (.s s, .i .i64 (Int.ofNat 0)) := by simp
     have q2 : (es ++ [(DV.s s, DV.i .i64 (Int.ofNat 0))]).set es.length (.s s, .i .i64 (.ofNat (M.fin * 2))) = es ++ [(.s s, .i .i64 (.ofNat (M.fin * 2)))] := by simp
     simp only [dI, W4.sy, q1, q2]
    have ix : ∀ h, aI 1 (.l (bG 4) 0 18 18) (.i .i64 (Int.ofNat 0)) h = some (.p (bG 4) 0, h) := fun h => rfl
    refine ⟨.ofNat (M.fin * 2), 0, _, M2, R.set 0 (.ofNat (M1.fin * 2)), es ++ [(.s s, .i .i64 (.ofNat (M.fin * 2)))], ?_, ⟨W5, K2.G, ?_, ?_, ?_⟩, (((U1.trans U2).trans U3).trans U4).trans U5, ?_, .inr ⟨hl, rfl, bLg f1, T2⟩⟩
    ·simp only [lk, bA, fZ, z0, cF, K.W.known (show 11 < 16 by omega), show 2 + 11 = 13 from rfl, e1, px0, px1, K1.W.l1, ix, kY, fld, K1.W.root (show 0 < 18 by omega), e2, K2.W.l1, K2.W.l2, e3, me, ms]
     rfl
    ·intro e he
     simp only [List.mem_append, List.mem_singleton] at he
     rcases he with he | rfl
     ·obtain ⟨k, y, q1, q2⟩ := K2.sy e he
      exact ⟨k, y, q1, by rw [show (13 : Nat) = 12 + 1 from rfl, rset]; exact q2⟩
     ·exact ⟨s, _, rfl, by rw [show (13 : Nat) = 12 + 1 from rfl, rset]; exact T2⟩
    ·have : (R.set 0 (Int.ofNat (M1.fin * 2))).getD 0 0 = Int.ofNat (M1.fin * 2) := by
      have hrl := K.W.rl
      cases R with
      | nil => simp at hrl
      | cons a l => rfl
     rw [this]
     exact aLh (by rw [ha]; have := G1.lo; omega)
    ·intro i hi
     rw [show 2 + i = (1 + i) + 1 by omega, rset, show (1 + i) + 1 = 2 + i by omega]
     exact K2.rk i hi
    ·have st := (g1.stay K.G R es).trans (g2.stay K1.G R es)
     rw [List.length_map] at st
     have hf2 := g2.fin
     have hd2 := g2.made
     refine ⟨st.n, ?_, ?_, st.lo, st.tx, st.at', rset, fun k v e => bKp e⟩
     ·simp at hf2; omega
     ·omega
theorem Wk.string (K : Wk h M R es) {s : List Nat} (hs : ∀ c ∈ s, c < 256) (room : M.fin + 260 ≤ M.n) (hm : M.made < 800000) {n : Nat} (hn : 300 < n) :
  ∃ a e h' M', jR (n + 3) 12 [.p (bG 7) 0, .s s] h = some (.t [.i .i64 a, .i .i64 e], h') ∧ Wk h' M' R es ∧ Up h h' ∧ Stay 260 M M' R R es es ∧
   ((¬ s.length ≤ 250 ∧ e = 1 ∧ a = 0) ∨ (s.length ≤ 250 ∧ e = 0 ∧ a = .ofNat (M.fin * 2) ∧ TxO M' (R.getD 12 0) a s)) := by
 rw [shS, cSn]
 unfold s12
 have el : ∀ h, cU (.s s) h = some (.i .i64 (s.length : Int), h) := fun h => rfl
 by_cases c1 : s.length > 250
 ·refine ⟨0, 1, h, M, ?_, K, Up.refl h, Stay.refl _ _ _ _, .inl ⟨by omega, rfl, rfl⟩⟩
  have d1 : decide ((s.length : Int) > Int.ofNat 250) = true := decide_eq_true (by simp; omega)
  simp only [g0, g1, el, bA, gS, d1, cO]
  rfl
 ·have d1 : decide ((s.length : Int) > Int.ofNat 250) = false := decide_eq_false (by simp; omega)
  obtain ⟨h1, M1, e1, W1, U1, g1⟩ := K.W.bytes49 K.G (K.rk 10 (by omega)) hs (by omega) (by omega) hn
  have K1 : Wk h1 M1 R es := g1.wk K W1 (K.rk 10 (by omega)) (by omega) (by simp; omega) (by simp; omega) (by omega)
  have T1 : TxO M1 (R.getD 12 0) (.ofNat (M.fin * 2)) s := g1.new_txo K.G hs (by omega)
  refine ⟨.ofNat (M.fin * 2), 0, h1, M1, ?_, K1, U1, ?_, .inr ⟨by omega, rfl, rfl, T1⟩⟩
  ·simp only [g0, Dd.g1, el, bA, gS, d1, cF, K.W.known (show 10 < 16 by omega), show 2 + 10 = 12 from rfl, e1, px0, px1]
   rfl
  ·have st := g1.stay K.G R es
   rw [List.length_map] at st
   exact ⟨st.n, by have := st.fin; omega, by have := st.made; omega, st.lo, st.tx, st.at', st.r, st.fd⟩
end
end Go.Dd

namespace Go.Dd
open Go.Proofs
noncomputable def byE (t : WT) (s : List Nat) : Nat → Bool := List.rec (motive := fun _ => Nat → Bool) (fun _ => true) (fun c _ ih a => Nat.blt c 256 && (aAy (t.get a) (.ofNat c) && ih (Nat.add a 1))) s
noncomputable def cHi (M : MemV) (cls : Int) (e : List Nat × Nat) : Bool :=
 !(Nat.beq (cD (.ofNat e.2) M.pl) 0) && (aAy (M.t.get (cD (.ofNat e.2) M.pl)) (.ofNat (Nat.add (Nat.mul e.1.length 4) 2)) && (aAy (M.t.get (Nat.add (cD (.ofNat e.2) M.pl) 1)) cls && (Nat.ble e.1.length 256 && byE M.t e.1 (Nat.add (cD (.ofNat e.2) M.pl) 3))))
theorem bIb (t : WT) : ∀ (s : List Nat) (a : Nat), byE t s a = true → (∀ c ∈ s, c < 256) ∧ ∀ i c, s[i]? = some c → t.get (a + i) = .ofNat c
 | [], a, _ => ⟨by simp, fun i c h => by simp at h⟩
 | c :: s, a, h => by
  change (Nat.blt c 256 && (aAy (t.get a) (.ofNat c) && byE t s (a + 1))) = true at h
  simp only [Bool.and_eq_true, iJ, decide_eq_true_eq] at h
  obtain ⟨h1, h2⟩ := bIb t s (a + 1) h.2.2
  refine ⟨fun d hd => ?_, fun i d hi => ?_⟩
  ·simp only [List.mem_cons] at hd
   rcases hd with rfl | hd
   ·exact h.1
   ·exact h1 d hd
  ·cases i with
   | zero =>
    simp only [List.getElem?_cons_zero, bB] at hi
    subst hi
    exact nT _ _ h.2.1
   | succ i =>
    rw [show a + (i + 1) = a + 1 + i by omega]
    exact h2 i d (by simpa using hi)
theorem cFo {M : MemV} {cls : Int} {e : List Nat × Nat} (h : cHi M cls e = true) : TxO M cls (.ofNat e.2) e.1 := by
 unfold cHi at h
 simp only [Bool.and_eq_true, kO, decide_eq_true_eq] at h
 obtain ⟨h1, h2, h3, h4, h5⟩ := h
 obtain ⟨b1, b2⟩ := bIb _ _ _ h5
 refine ⟨fun e => (by rw [e] at h1; cases h1), nT _ _ h2, nT _ _ h3, b1, h4, b2⟩
noncomputable def cKu (p : List Nat × Nat → Bool) (l : List (List Nat × Nat)) : Bool := List.rec (motive := fun _ => Bool) true (fun x _ ih => p x && ih) l
theorem aIa {p : List Nat × Nat → Bool} : ∀ {l : List (List Nat × Nat)}, cKu p l = true → ∀ a ∈ l, p a = true
 | [], _, a, h => by cases h
 | x :: l, hl, a, h => by
  change (p x && cKu p l) = true at hl
  simp only [Bool.and_eq_true] at hl
  simp only [List.mem_cons] at h
  rcases h with rfl | h
  ·exact hl.1
  ·exact aIa hl.2 a h
theorem aIf : ∀ (l : List (List Nat × Nat)) (e : DV × DV), e ∈ bOr l → ∃ x ∈ l, e = (.s x.1, .i .i64 (.ofNat x.2))
 | [], e, h => by cases h
 | x :: l, e, h => by
  change e ∈ (DV.s x.1, DV.i .i64 (.ofNat x.2)) :: bOr l at h
  simp only [List.mem_cons] at h
  rcases h with rfl | h
  ·exact ⟨x, by simp, rfl⟩
  ·obtain ⟨y, h1, h2⟩ := aIf l e h
   exact ⟨y, by simp [h1], h2⟩
theorem cDy : cKu (cHi MN (RN.getD 13 0)) (bFh syF 80) = true := by kernel_rfl
theorem KN : Wk hN MN RN esN := ⟨WN, GN, fun e he => by
 obtain ⟨x, h1, h2⟩ := aIf _ e he
 exact ⟨x.1, _, h2, cFo (aIa cDy x h1)⟩, by kernel_rfl, cYx⟩
theorem aAm (s t : List Nat) (h : Hp) : eB .neq (.s s) (.s t) h = some (.b (!vW s t), h) := rfl
theorem cAu (s t : List Nat) (h : Hp) : eB .eql (.s s) (.s t) h = some (.b (vW s t), h) := rfl
theorem bFw (s : List Nat) (h : Hp) : cU (.s s) h = some (.i .i64 (s.length : Int), h) := rfl
theorem bXv {n : Nat} {rec : RT} {s t : List Nat} {w : DV} {a f b g c k d i : Int} {h : Hp} (hf : (f == Int.ofNat 0) = (decide ((s.length : Int) ≥ Int.ofNat 1) && decide ((s.length : Int) ≤ Int.ofNat 60)))
  (hg : (g == Int.ofNat 0) = (decide ((t.length : Int) ≥ Int.ofNat 1) && decide ((t.length : Int) ≤ Int.ofNat 60))) (hk : f = k) (ha : a = c) (hi : (i == Int.ofNat 0) = decide ((s.length : Int) ≤ Int.ofNat 250)) :
  bBm rec n (.s s) (.s t) w (iD a) (iD f) (iD b) (iD g) (iD c) (iD k) (iD d) (iD i) h = xM rec n (.s s) (.s t) w (iD a) (iD f) (iD b) (iD g) (iD d) (iD i) h := by
 subst hk
 subst ha
 have zn : ∀ y : Int, (y != y) = false := fun y => by simp
 unfold bBm
 obtain ⟨p1, hp1⟩ : ∃ b, decide ((s.length : Int) ≥ Int.ofNat 1) = b := ⟨_, rfl⟩
 obtain ⟨p2, hp2⟩ : ∃ b, decide ((s.length : Int) ≤ Int.ofNat 60) = b := ⟨_, rfl⟩
 obtain ⟨q1, hq1⟩ : ∃ b, decide ((t.length : Int) ≥ Int.ofNat 1) = b := ⟨_, rfl⟩
 obtain ⟨q2, hq2⟩ : ∃ b, decide ((t.length : Int) ≤ Int.ofNat 60) = b := ⟨_, rfl⟩
 obtain ⟨r, hr⟩ : ∃ b, decide ((s.length : Int) ≤ Int.ofNat 250) = b := ⟨_, rfl⟩
 rw [hp1, hp2] at hf
 rw [hq1, hq2] at hg
 rw [hr] at hi
 cases p1 <;> cases p2 <;> cases q1 <;> cases q2 <;> cases r <;>
  simp only [Bool.and_true, Bool.and_false, Bool.true_and, Bool.false_and, Bool.and_self] at hf hg <;>
  simp only [hf, hg, hi, hp1, hp2, hq1, hq2, hr, zn, aLx, gT, uS, gP, bWe, bA, bRg, oL, eI, fZ, bFw, dC, cN, cWt, bne_self_eq_false, cF]
theorem aDq (s : List Nat) : vW s s = true := (kJ s s).2 rfl
theorem aOq {M : MemV} {R : List Int} {cls o : Int} {s : List Nat} (T : TxO M cls o s) : bXm M R o = cls := by
 unfold bXm
 rw [if_pos T.at0, T.cls]
theorem aHg {h : Hp} {M : MemV} {R : List Int} {es : List (DV × DV)} (K : Wk h M R es) {s : List Nat} {a d i : Int} (hd : i ≠ 0 ∨ (TxO M (R.getD 12 0) d s ∧ d ≠ a)) :
  ∃ h', xA iY 900 (.s s) (.p (bG 7) 0) (iD a) (iD d) (iD i) h = some (.b true, h') := by
 unfold xA
 have fin : ∀ h, xL iY 900 h = some (.b true, h) := fun h => by
  unfold xL
  simp only [cFg, bA]
 by_cases hi : i = 0
 ·obtain ⟨T, hda⟩ := hd.resolve_left (fun q => q hi)
  have z0 : (i == Int.ofNat 0) = true := by rw [hi]; rfl
  obtain ⟨h1, e1, W1, U1⟩ := K.W.text K.G T (.inl rfl) (k := 898) (by omega)
  have z1 : (d == a) = false := by simpa using hda
  have zn : ∀ y : Int, (y != y) = false := fun y => by simp
  refine ⟨h1, ?_⟩
  simp only [eI, fZ, z0, bA, cO, yT, e1, px0, px1, aAm, aDq, Bool.not_true, gT, jJ, cN, z1, aAz, W1.classOf K.G d 898, aOq T, aGt, W1.known (show 10 < 16 by omega) 899, show 2 + 10 = 12 from rfl, zn, cF, fin]
 ·have z0 : (i == Int.ofNat 0) = false := by simpa using hi
  refine ⟨h, ?_⟩
  simp only [eI, z0, bA, cF, fin]
theorem bBk {h : Hp} {M : MemV} {R : List Int} {es : List (DV × DV)} (K : Wk h M R es) {s t : List Nat} {a f b g d i : Int} (ha : f ≠ 0 ∨ (TxO M (R.getD 13 0) a s ∧ (g = 0 → (a = b ↔ s = t)))) (hd : i ≠ 0 ∨ (TxO M (R.getD 12 0) d s ∧ d ≠ a)) :
  ∃ h', xM iY 900 (.s s) (.s t) (.p (bG 7) 0) (iD a) (iD f) (iD b) (iD g) (iD d) (iD i) h = some (.b true, h') := by
 unfold xM
 by_cases hf : f = 0
 ·obtain ⟨T, hab⟩ := ha.resolve_left (fun q => q hf)
  have z0 : (f == Int.ofNat 0) = true := by rw [hf]; rfl
  obtain ⟨h1, e1, W1, U1⟩ := K.W.text K.G T (.inr rfl) (k := 898) (by omega)
  have zn : ∀ y : Int, (y != y) = false := fun y => by simp
  obtain ⟨h2, e2⟩ := aHg (h := h1) ⟨W1, K.G, K.sy, K.r0, K.rk⟩ (s := s) (a := a) (d := d) (i := i) hd
  refine ⟨h2, ?_⟩
  by_cases hg : g = 0
  ·have z2 : (g == Int.ofNat 0) = true := by rw [hg]; rfl
   have z3 : (a == b) = vW s t := by
    rw [Bool.eq_iff_iff, kJ, beq_iff_eq]
    exact hab hg
   simp only [eI, fZ, z0, z2, bA, cO, yT, e1, px0, px1, aAm, cAu, aDq, Bool.not_true, gT, aLx, jJ, cN, dC, z3, cWt, bne_self_eq_false, aAz, W1.classOf K.G a 898, aOq T, aGt, W1.known (show 11 < 16 by omega) 899, show 2 + 11 = 13 from rfl, zn, cF, e2]
  ·have z2 : (g == Int.ofNat 0) = false := by simpa using hg
   simp only [eI, fZ, z0, z2, bA, cO, yT, e1, px0, px1, aAm, aDq, Bool.not_true, gT, uS, bWe, jJ, cN, dC, aAz, W1.classOf K.G a 898, aOq T, aGt, W1.known (show 11 < 16 by omega) 899, show 2 + 11 = 13 from rfl, zn, cF, e2]
 ·have z0 : (f == Int.ofNat 0) = false := by simpa using hf
  obtain ⟨h2, e2⟩ := aHg K (s := s) (a := a) (d := d) (i := i) hd
  refine ⟨h2, ?_⟩
  simp only [eI, z0, bA, cF, e2]
theorem xF {s t : List Nat} (hs : ∀ c ∈ s, c < 256) (ht : ∀ c ∈ t, c < 256) : ∃ k, aXx iY 900 (.s s) (.s t) lE = some (.b true, k) := by
 obtain ⟨a, f, h1, M1, R1, es1, e1, K1, U1, S1, A1⟩ := KN.symbol hs (by show 4321 + 70 ≤ 20000; omega) (by show 583 < 800000; omega) (n := 897) (by omega)
 have n1 := S1.n
 have f1 := S1.fin
 have d1 := S1.made
 have f0 : MN.fin = 4321 := rfl
 have n0 : MN.n = 20000 := rfl
 have d0 : MN.made = 583 := rfl
 obtain ⟨b, g, h2, M2, R2, es2, e2, K2, U2, S2, A2⟩ := K1.symbol ht (by omega) (by omega) (n := 897) (by omega)
 have n2 := S2.n
 have f2 := S2.fin
 have d2 := S2.made
 obtain ⟨c, k, h3, M3, R3, es3, e3, K3, U3, S3, A3⟩ := K2.symbol hs (by omega) (by omega) (n := 897) (by omega)
 have n3 := S3.n
 have f3 := S3.fin
 have d3 := S3.made
 obtain ⟨d, i, h4, M4, e4, K4, U4, S4, A4⟩ := K3.string hs (by omega) (by omega) (n := 897) (by omega)
 have r1 : R1.getD 13 0 = RN.getD 13 0 := S1.r 12
 have r2 : R2.getD 13 0 = R1.getD 13 0 := S2.r 12
 have r3 : R3.getD 13 0 = R2.getD 13 0 := S3.r 12
 have code : ∀ (x : List Nat) (y : Int), ((¬ (1 ≤ x.length ∧ x.length ≤ 60) ∧ y = 1) ∨ ((1 ≤ x.length ∧ x.length ≤ 60) ∧ y = 0)) → (y == Int.ofNat 0) = (decide ((x.length : Int) ≥ Int.ofNat 1) && decide ((x.length : Int) ≤ Int.ofNat 60)) := fun x y hy => by
  rcases hy with ⟨q, rfl⟩ | ⟨q, rfl⟩
  ·have z : ((1 : Int) == Int.ofNat 0) = false := rfl
   rw [z, Eq.comm, Bool.and_eq_false_iff]
   by_cases c1 : 1 ≤ x.length
   ·exact .inr (decide_eq_false (by simp; omega))
   ·exact .inl (decide_eq_false (by simp; omega))
  ·have z : ((0 : Int) == Int.ofNat 0) = true := rfl
   rw [z, Eq.comm, Bool.and_eq_true]
   exact ⟨decide_eq_true (by simp; omega), decide_eq_true (by simp; omega)⟩
 have hf := code s f (A1.elim (fun q => .inl ⟨q.1, q.2.1⟩) (fun q => .inr ⟨q.1, q.2.1⟩))
 have hg := code t g (A2.elim (fun q => .inl ⟨q.1, q.2.1⟩) (fun q => .inr ⟨q.1, q.2.1⟩))
 have hi : (i == Int.ofNat 0) = decide ((s.length : Int) ≤ Int.ofNat 250) := by
  rcases A4 with ⟨q, rfl, _⟩ | ⟨q, rfl, _⟩
  ·have z : ((1 : Int) == Int.ofNat 0) = false := rfl
   rw [z, Eq.comm]
   exact decide_eq_false (by simp; omega)
  ·have z : ((0 : Int) == Int.ofNat 0) = true := rfl
   rw [z, Eq.comm]
   exact decide_eq_true (by simp; omega)
 have hk : f = k ∧ a = c := by
  rcases A1 with ⟨q, q2, q3⟩ | ⟨q, q2, q3, q4⟩
  ·rcases A3 with ⟨p, p2, p3⟩ | ⟨p, _⟩
   ·exact ⟨q2.trans p2.symm, q3.trans p3.symm⟩
   ·exact absurd p q
  ·rcases A3 with ⟨p, _⟩ | ⟨p, p2, p3, p4⟩
   ·exact absurd q p
   ·refine ⟨q2.trans p2.symm, ?_⟩
    have h5 := S3.fd _ _ (S2.fd _ _ q3)
    rw [p3] at h5
    simp only [bB, DV.i.injEq, true_and] at h5
    exact h5.symm
 have hA : f ≠ 0 ∨ (TxO M4 (R3.getD 13 0) a s ∧ (g = 0 → (a = b ↔ s = t))) := by
  rcases A1 with ⟨q, q2, q3⟩ | ⟨q, q2, q3, q4⟩
  ·exact .inl (by rw [q2]; decide)
  ·refine .inr ⟨?_, fun hg0 => ?_⟩
   ·rw [r3, r2, r1]
    exact S4.tx _ _ _ (S3.tx _ _ _ (S2.tx _ _ _ q4))
   ·rcases A2 with ⟨p, p2, _⟩ | ⟨p, p2, p3, p4⟩
    ·rw [p2] at hg0; cases hg0
    ·constructor
     ·intro e
      subst e
      exact (S2.tx _ _ _ q4).inj p4
     ·intro e
      subst e
      have h5 := S2.fd _ _ q3
      rw [p3] at h5
      simp only [bB, DV.i.injEq, true_and] at h5
      exact h5.symm
 have hD : i ≠ 0 ∨ (TxO M4 (R3.getD 12 0) d s ∧ d ≠ a) := by
  rcases A4 with ⟨q, q2, _⟩ | ⟨q, q2, q3, q4⟩
  ·exact .inl (by rw [q2]; decide)
  ·refine .inr ⟨q4, fun e => ?_⟩
   rcases A1 with ⟨p, p2, p3⟩ | ⟨p, p2, p3, p4⟩
   ·have h5 := q4.at0
    rw [e, p3] at h5
    exact h5 rfl
   ·have T3 := S3.tx _ _ _ (S2.tx _ _ _ p4)
    have hp : M3.pl.get (cD a M3.pl) ≠ 0 := by
     rcases kC a M3.pl with e' | ⟨e', _⟩
     ·exact absurd e' T3.at0
     ·rw [e']; exact (atN_pos.1 T3.at0).2
    obtain ⟨_, hd, _, _, h6, _⟩ := K3.G.ob _ hp
    have h7 := S4.at' a T3.at0
    have g3 := K3.G.lo
    have g4 := K3.G.le
    have g5 := K3.G.hi
    have h8 : gO a = M3.fin := by rw [← e, q3]; exact aUt g3 (by omega)
    rcases kC a M3.pl with e' | ⟨e', _⟩
    ·exact T3.at0 e'
    ·rw [e', h8] at h6
     omega
 obtain ⟨h5, e5⟩ := bBk K4 (s := s) (t := t) (a := a) (f := f) (b := b) (g := g) (d := d) (i := i) hA hD
 refine ⟨h5, ?_⟩
 unfold aXx bWb
 have p0 : pEq (.pointer 83) true (.p (bG 7) 0) .p0 hN = some (.b false, hN) := by kernel_rfl
 have nz : (Int.ofNat 0 != Int.ofNat 0) = false := rfl
 simp only [cCr, bA, px0, px1, p0, gT, fZ, nz, cN, cF]
 unfold cAk cBf bYk cEj
 simp only [cCc, cCv, e1, e2, e3, e4, bA, px0, px1]
 rw [bXv hf hg hk.1 hk.2 hi]
 exact e5
theorem aJa (s : List Nat) (h : Hp) (hl : 300 < s.length) : fC (.s s) none (some (.i .i64 (Int.ofNat 300))) h = some (.s (s.take 300), h) := by
 have h1 : hiD (some (.i .i64 (Int.ofNat 300))) s.length s.length = some 300 := by
  simp only [hiD, fU]
  rw [if_pos (by simp; omega)]
  rfl
 simp only [fC, h1, loD, List.drop_zero]
theorem bPd {s t : List Nat} (hs : ∀ c ∈ s, c < 256) (ht : ∀ c ∈ t, c < 256) : ∃ k, aG CF iY 900 3 [.s s, .s t] lE = some (.b true, k) := by
 have cut : ∀ (x : List Nat), (∀ c ∈ x, c < 256) → ∀ c ∈ x.take 300, c < 256 := fun x hx c hc => hx c (List.mem_of_mem_take hc)
 have step2 : ∀ s : List Nat, (∀ c ∈ s, c < 256) → ∃ k, aYv iY 900 (.s s) (.s t) lE = some (.b true, k) := fun s hs => by
  unfold aYv
  by_cases c : 300 < t.length
  ·have d : decide ((t.length : Int) > Int.ofNat 300) = true := decide_eq_true (by simp; omega)
   obtain ⟨k, hk⟩ := xF hs (cut t ht)
   exact ⟨k, by simp only [bFw, bA, gS, d, cO, aJa t lE c]; exact hk⟩
  ·have d : decide ((t.length : Int) > Int.ofNat 300) = false := decide_eq_false (by simp; omega)
   obtain ⟨k, hk⟩ := xF hs ht
   exact ⟨k, by simp only [bFw, bA, gS, d, cF]; exact hk⟩
 have e : aG CF iY 900 3 [.s s, .s t] lE = bOo iY 900 (.s s) (.s t) lE := dCi iY 900 [.s s, .s t] lE
 rw [e]
 unfold bOo
 by_cases c : 300 < s.length
 ·have d : decide ((s.length : Int) > Int.ofNat 300) = true := decide_eq_true (by simp; omega)
  obtain ⟨k, hk⟩ := step2 _ (cut s hs)
  exact ⟨k, by simp only [bFw, bA, gS, d, cO, aJa s lE c]; exact hk⟩
 ·have d : decide ((s.length : Int) > Int.ofNat 300) = false := decide_eq_false (by simp; omega)
  obtain ⟨k, hk⟩ := step2 _ hs
  exact ⟨k, by simp only [bFw, bA, gS, d, cF]; exact hk⟩
theorem aIg (s : ByteArray) : ∀ c ∈ s.data.toList.map (·.toNat), c < 256 := by
 intro c hc
 obtain ⟨b, _, rfl⟩ := List.mem_map.1 hc
 exact b.toNat_lt
end Go.Dd

