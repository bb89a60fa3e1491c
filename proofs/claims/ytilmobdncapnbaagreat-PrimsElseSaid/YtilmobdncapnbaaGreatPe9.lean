/- A part of the proof: TX3 TX4 GN WR WM WA WC WP1 WP2 WP3 WP4 WP5 WP6 WP7 WQ1 WQR WQ2 WQ3 WQ4 WQ5 WQ6 WQ7 WQ8 WQA WQB WQC XL11 WA11 WQS: each text has a comment of its own. -/
import Derived.Test.YtilmobdncapnbaaGreatPe8
import Derived.WalkKit
import Derived.ProofKit
import Derived.OpenShut
import Derived.ChangeMaps5
import Derived.Carry
set_option linter.unusedVariables false
set_option linter.unusedSimpArgs false
set_option linter.constructorNameAsVariable false
set_option maxRecDepth 100000
namespace Go.Dd
open Go.Proofs
theorem aAx {w : Int} {pl : WT} (h : cO w pl ≠ 0) : eI w pl = true := by
 unfold eI
 split <;> first | rfl | skip
 rw [dPc h]
 simp
theorem sR {w : Int} {pl : WT} {k : Nat} (hk : k < 16000000) (h : eI w pl = true) : eI w (pl.set k (.ofNat 1)) = true := by
 by_cases ha : cO w pl = 0
 ·unfold eI at h ⊢
  by_cases w0 : w = 0
  ·subst w0; rfl
  ·by_cases w2 : w = 2
   ·subst w2; rfl
   ·by_cases w4 : w = 4
    ·subst w4; rfl
    ·split
     ·exact absurd rfl w0
     ·exact absurd rfl w2
     ·exact absurd rfl w4
     ·split at h
      ·exact absurd rfl w0
      ·exact absurd rfl w2
      ·exact absurd rfl w4
      ·rw [ha] at h
       have : eP w = true := by simpa using h
       rw [this]
       rfl
 ·exact aAx (by rw [qB hk ha]; exact ha)
def dLs (M : MemV) (R : List Int) (es : List (DV × DV)) : Prop := ∀ e ∈ es, ∃ s x, e = (.s s, iD x) ∧ TxO M (R.getD 13 0) x s
theorem aYs {es : List (DV × DV)} (s : List Nat) : (∀ e ∈ es, ∃ (k : List Nat) (x : Int), e = (.s k, iD x)) →
  (∃ x, dF .string (.s s) es = some (some (iD x)) ∧ (DV.s s, iD x) ∈ es) ∨ (dF .string (.s s) es = some none ∧ ∀ i, xG .string (.s s) es i = some none) := by
 induction es with
 | nil => exact fun _ => .inr ⟨rfl, fun _ => rfl⟩
 | cons e es ih =>
  intro h
  obtain ⟨k, x, he⟩ := h e (by simp)
  subst he
  cases hk : eqD s k with
  | true =>
   have := (oV s k).1 hk
   subst this
   exact .inl ⟨x, by simp only [dF, mY, hk], by simp⟩
  | false =>
   rcases ih fun e he => h e (by simp [he]) with ⟨y, h1, h2⟩ | ⟨h1, h2⟩
   ·exact .inl ⟨y, by simp only [dF, mY, hk]; exact h1, by simp [h2]⟩
   ·exact .inr ⟨by simp only [dF, mY, hk]; exact h1, fun i => by simp only [xG, mY, hk]; exact h2 _⟩
theorem cAj {es l : List (DV × DV)} {k v : DV} (h : dF .string k es = some (some v)) : dF .string k (es ++ l) = some (some v) := by
 induction es with
 | nil => cases h
 | cons e es ih =>
  simp only [List.cons_append, dF] at h ⊢
  split
  ·rename_i hk; rw [hk] at h; exact h
  ·rename_i hk; rw [hk] at h; exact ih h
  ·rename_i hk; rw [hk] at h; cases h
theorem bJp {es : List (DV × DV)} {s : List Nat} {v : DV} (h : dF .string (.s s) es = some none) : dF .string (.s s) (es ++ [(.s s, v)]) = some (some v) := by
 induction es with
 | nil =>
  have : eqD s s = true := (oV s s).2 rfl
  simp only [List.nil_append, dF, mY, this]
 | cons e es ih =>
  simp only [List.cons_append, dF] at h ⊢
  split
  ·rename_i hk; rw [hk] at h; cases h
  ·rename_i hk; rw [hk] at h; exact ih h
  ·rename_i hk; rw [hk] at h; cases h
structure Wk (h : Hp) (M : MemV) (R : List Int) (es : List (DV × DV)) : Prop where
 W : Wd h M R es
 G : Good M
 sy : dLs M R es
 r0 : eI (R.getD 0 0) M.pl = true
 rk : ∀ i, i < 16 → cO (R.getD (2 + i) 0) M.pl ≠ 0
structure Stay (k : Nat) (M M' : MemV) (R R' : List Int) (es es' : List (DV × DV)) : Prop where
 n : M'.n = M.n
 fin : M'.fin ≤ M.fin + k
 made : M'.made ≤ M.made + k
 lo : M.fin ≤ M'.fin
 tx : ∀ cls o s, TxO M cls o s → TxO M' cls o s
 at' : ∀ o, cO o M.pl ≠ 0 → cO o M'.pl = cO o M.pl
 r : ∀ i, R'.getD (i + 1) 0 = R.getD (i + 1) 0
 fd : ∀ s v, dF .string (.s s) es = some (some v) → dF .string (.s s) es' = some (some v)
 gi : ∀ CL, GI M R CL → GI M' R' CL
 old : ∀ j, j < M.fin → M'.t.get j = M.t.get j
theorem Stay.refl (k : Nat) (M : MemV) (R : List Int) (es : List (DV × DV)) : Stay k M M R R es es := ⟨rfl, by omega, by omega, by omega, fun _ _ _ h => h, fun _ _ => rfl, fun _ => rfl, fun _ _ h => h, fun _ h => h, fun _ _ => rfl⟩
theorem Stay.trans {a b : Nat} {M M' M2 : MemV} {R R' R2 : List Int} {es es' es2 : List (DV × DV)} (h : Stay a M M' R R' es es') (k : Stay b M' M2 R' R2 es' es2) : Stay (a + b) M M2 R R2 es es2 :=
 ⟨k.n.trans h.n, by have := h.fin; have := k.fin; omega, by have := h.made; have := k.made; omega, by have := h.lo; have := k.lo; omega, fun c o s t => k.tx _ _ _ (h.tx _ _ _ t),
  fun o ho => by have h1 := h.at' o ho; rw [k.at' o (by rw [h1]; exact ho), h1], fun i => (k.r i).trans (h.r i), fun s v e => k.fd s v (h.fd s v e), fun CL I => k.gi CL (h.gi CL I), fun j hj => by rw [k.old j (by have := h.lo; omega)]; exact h.old j hj⟩
theorem Grown.stay {M M' : MemV} {f : Nat} {cls : Int} {l : List Int} (g : Grown M M' f cls l) (G : Good M) (R : List Int) (es : List (DV × DV)) (N : ∀ CL, GI M R CL → NewI M R CL f cls l) : Stay (l.length + 3) M M' R R es es :=
 ⟨g.n, by rw [g.fin]; exact Nat.le_refl _, by rw [g.made]; omega, by rw [g.fin]; omega, fun _ _ _ t => g.txo G t, fun o ho => by rw [g.pl]; exact qB (by have := G.le; have := G.hi; omega) ho, fun _ => rfl, fun _ _ h => h, fun CL I => g.gi G I (N CL I), fun j hj => g.old j hj⟩
theorem Grown.wk {h h' : Hp} {M M' : MemV} {R : List Int} {es : List (DV × DV)} {f : Nat} {cls : Int} {l : List Int} (g : Grown M M' f cls l) (K : Wk h M R es) (W' : Wd h' M' R es) (hc : cO cls M.pl ≠ 0) (hf : f ≤ 2) (h256 : l.length ≤ 256) (room : M.fin + l.length + 3 ≤ M.n) (hm : M.made < 899999) : Wk h' M' R es := by
 have hk : M.fin < 16000000 := by have := K.G.le; have := K.G.hi; omega
 refine ⟨W', g.good K.G hc hf h256 room hm, fun e he => ?_, by rw [g.pl]; exact sR hk K.r0, fun i hi => by rw [g.pl, qB hk (K.rk i hi)]; exact K.rk i hi⟩
 obtain ⟨s, x, h1, h2⟩ := K.sy e he
 exact ⟨s, x, h1, g.txo K.G h2⟩
section
variable {h : Hp} {M : MemV} {R : List Int} {es : List (DV × DV)}
theorem Wd.setR0 (W : Wd h M R es) (v : Int) : aG 1 (.p (aT 4) 0) (iD v) h = some (aW, ⟨h.next, Tr.set (.row .ex ((R.set 0 v).map iD)) (aT 4) h.bl⟩) ∧ Wd ⟨h.next, Tr.set (.row .ex ((R.set 0 v).map iD)) (aT 4) h.bl⟩ M (R.set 0 v) es ∧
  Up h ⟨h.next, Tr.set (.row .ex ((R.set 0 v).map iD)) (aT 4) h.bl⟩ := by
 obtain ⟨m1, m2, m3, m4, m5, m6⟩ := iG W.mem
 have ne : ∀ b : Pos, b.toNat ≠ 1027 → (Tr.set (.row .ex ((R.set 0 v).map iD)) (aT 4) h.bl).get b = h.bl.get b := fun b hb => by
  rw [dQv]
  intro e; rw [e, pn4] at hb; exact hb rfl
 refine ⟨?_, ⟨(ne _ (by rw [pn7]; omega)).trans W.w, (by show (Tr.set _ (aT 4) _).get (aT 4) = _; exact dQw _ _ _), by simp [W.rl], (ne _ (by rw [pn5]; omega)).trans W.sy, ?_, W.nx, W.wb, W.pb⟩, ⟨Nat.le_refl _, fun b h1 h2 => ne b (by omega)⟩⟩
 ·have hp : gC 0 (R.map iD) [iD v] = some ((R.set 0 v).map iD) := by
   have hl := W.rl
   cases R with
   | nil => simp at hl
   | cons a l =>
    show kX (iD a :: l.map iD) [iD v] = _
    have : kX (l.map iD) [] = some (l.map iD) := by cases l.map iD <;> rfl
    simp only [kX, DV.one, Bool.and_self, if_true, this, Option.map_some]
    rfl
  have hw : Kind.ex.writable = true := rfl
  simp only [aG, dO, List.length_singleton, if_true, dD, W.r, hw, hp]
 ·exact kV ((ne _ (by rw [pn3]; omega)).trans m1) ((ne _ (by rw [W.wb, pn1]; omega)).trans m2) ((ne _ (by rw [W.pb, pn2]; omega)).trans m3) m4 m5 m6
theorem Wd.setS (W : Wd h M R es) (es' : List (DV × DV)) : Wd ⟨h.next, Tr.set (.mp es') (aT 5) h.bl⟩ M R es' ∧ Up h ⟨h.next, Tr.set (.mp es') (aT 5) h.bl⟩ := by
 obtain ⟨m1, m2, m3, m4, m5, m6⟩ := iG W.mem
 have ne : ∀ b : Pos, b.toNat ≠ 1028 → (Tr.set (.mp es') (aT 5) h.bl).get b = h.bl.get b := fun b hb => by
  rw [dQv]
  intro e; rw [e, pn5] at hb; exact hb rfl
 exact ⟨⟨(ne _ (by rw [pn7]; omega)).trans W.w, (ne _ (by rw [pn4]; omega)).trans W.r, W.rl, (by show (Tr.set _ (aT 5) _).get (aT 5) = _; exact dQw _ _ _),
  kV ((ne _ (by rw [pn3]; omega)).trans m1) ((ne _ (by rw [W.wb, pn1]; omega)).trans m2) ((ne _ (by rw [W.pb, pn2]; omega)).trans m3) m4 m5 m6, W.nx, W.wb, W.pb⟩, ⟨Nat.le_refl _, fun b h1 h2 => ne b (by omega)⟩⟩
theorem Wk.push (K : Wk h M R es) {x y : Int} (hx : eI x M.pl = true) (hy : eI y M.pl = true) (room : M.fin + 5 ≤ M.n) (hm : M.made < 899999) {n : Nat} (hn : 256 < n) :
  ∃ h' M', eG (n + 2) 73 [.p (aT 7) 0, .i .i64 x, .i .i64 y] h = some (.t [.i .i64 (.ofNat (M.fin * 2)), .i .i64 (.ofNat 0)], h') ∧ Wk h' M' R es ∧ Up h h' ∧ Grown M M' 0 (R.getD 11 0) [x, y] := by
 have hk : M.fin < 16000000 := by have := K.G.le; have := K.G.hi; omega
 have fl : aL [.i .i64 (Int.ofNat 0), .i .i64 (Int.ofNat 0)] 2 [(0, 1, .i .i64 x), (1, 1, .i .i64 y)] h = some (.l h.next 0 2 2, ⟨h.next.succ, Tr.set (.row .ex ([x, y].map iD)) h.next h.bl⟩) := by
  simp [aL, kJ, dO]
 obtain ⟨U1, W1⟩ := K.W.new (.row .ex ([x, y].map iD))
 have S : SlI (.l h.next 0 2 2) [x, y] ⟨h.next.succ, Tr.set (.row .ex ([x, y].map iD)) h.next h.bl⟩ := .inr ⟨h.next, 2, .ex, rfl, dQw _ _ _, .inr (Nat.le_trans (by decide) K.W.nx), by show _ < (h.next.succ).toNat; rw [dQy]; omega⟩
 have K1 : Wk ⟨h.next.succ, Tr.set (.row .ex ([x, y].map iD)) h.next h.bl⟩ M R es := ⟨W1, K.G, K.sy, K.r0, K.rk⟩
 obtain ⟨h', M', e1, W2, U2, _, g⟩ := W1.make61 K.G (K.rk 9 (by omega)) (f := 0) (by omega) S (by simp) (by simpa using room) (fun v hv => by
  simp only [List.mem_cons, List.not_mem_nil, or_false] at hv
  rcases hv with rfl | rfl
  ·exact sR hk hx
  ·exact sR hk hy) hn
 refine ⟨h', M', ?_, g.wk K1 W2 (K.rk 9 (by omega)) (by omega) (by simp) (by simpa using room) hm, U1.trans U2, g⟩
 rw [yZ 73 rfl, cRp]
 unfold s73
 simp only [g0, g1, g2, aV, K.W.known (show 9 < 16 by omega), fl]
 rw [show (2 : Nat) + 9 = 11 from rfl] at e1 ⊢
 rw [e1]
 simp only [aV, px0, px1]
theorem Wk.symbol (K : Wk h M R es) {s : List Nat} (hs : ∀ c ∈ s, c < 256) (room : M.fin + 70 ≤ M.n) (hm : M.made < 800000) {n : Nat} (hn : 300 < n) :
  ∃ a e h' M' R' es', eG (n + 3) 44 [.p (aT 7) 0, .s s] h = some (.t [.i .i64 a, .i .i64 e], h') ∧ Wk h' M' R' es' ∧ Up h h' ∧ Stay 80 M M' R R' es es' ∧
   ((¬ (1 ≤ s.length ∧ s.length ≤ 60) ∧ e = 1 ∧ a = 0) ∨ ((1 ≤ s.length ∧ s.length ≤ 60) ∧ e = 0 ∧ dF .string (.s s) es' = some (some (iD a)) ∧ TxO M' (R.getD 13 0) a s)) := by
 rw [yZ 44 rfl, cQp]
 unfold s44
 have el : ∀ h, dR (.s s) h = some (.i .i64 (s.length : Int), h) := fun h => rfl
 by_cases c1 : s.length < 1
 ·refine ⟨0, 1, h, M, R, es, ?_, K, Up.refl h, Stay.refl _ _ _ _, .inl ⟨by omega, rfl, rfl⟩⟩
  have d1 : decide ((s.length : Int) < Int.ofNat 1) = true := decide_eq_true (by simp; omega)
  simp only [g0, g1, el, aV, cH, d1, fU, cJh, cY, bT]
  rfl
 ·have d1 : decide ((s.length : Int) < Int.ofNat 1) = false := decide_eq_false (by simp; omega)
  by_cases c2 : s.length > 60
  ·refine ⟨0, 1, h, M, R, es, ?_, K, Up.refl h, Stay.refl _ _ _ _, .inl ⟨by omega, rfl, rfl⟩⟩
   have d2 : decide ((s.length : Int) > Int.ofNat 60) = true := decide_eq_true (by simp; omega)
   simp only [g0, g1, el, aV, cH, fS, d1, d2, iF, cP, bT]
   rfl
  ·have d2 : decide ((s.length : Int) > Int.ofNat 60) = false := decide_eq_false (by simp; omega)
   have hl : 1 ≤ s.length ∧ s.length ≤ 60 := by omega
   simp only [g0, g1, el, aV, cH, fS, d1, d2, iF, cP, bX, oW, fld, K.W.l2]
   rcases aYs s (fun e he => by obtain ⟨k, x, h1, _⟩ := K.sy e he; exact ⟨k, x, h1⟩) with ⟨x, f1, f2⟩ | ⟨f1, f2⟩
   ·
    obtain ⟨k, y, e1, T⟩ := K.sy _ f2
    simp only [bO, DV.s.injEq, DV.i.injEq, true_and] at e1
    obtain ⟨rfl, rfl⟩ := e1
    have hx : x ≠ 0 := fun e => T.at0 (by rw [e]; rfl)
    have z1 : (x != Int.ofNat 0) = true := by
     have : (x == Int.ofNat 0) = false := by simpa using hx
     rw [bne, this]; rfl
    have lk : dL .string (.i .i64 (Int.ofNat 0)) false (.m (aT 5)) (.s s) h = some (iD x, h) := by
     simp only [dL, fG, K.W.sy, f1, cond_false]
    refine ⟨x, 0, h, M, R, es, ?_, K, Up.refl h, Stay.refl _ _ _ _, .inr ⟨hl, rfl, f1, T⟩⟩
    simp only [lk, aV, iI, z1, bT]
    rfl
   ·
    have lk : dL .string (.i .i64 (Int.ofNat 0)) false (.m (aT 5)) (.s s) h = some (.i .i64 (Int.ofNat 0), h) := by
     simp only [dL, fG, K.W.sy, f1, cond_false]
    have z0 : (Int.ofNat 0 != Int.ofNat 0) = false := rfl
    obtain ⟨h1, M1, e1, W1, U1, g1⟩ := K.W.bytes49 K.G (K.rk 11 (by omega)) hs (by omega) (by omega) hn
    have K1 : Wk h1 M1 R es := g1.wk K W1 (K.rk 11 (by omega)) (by omega) (by simp; omega) (by simp; omega) (by omega)
    have T1 : TxO M1 (R.getD 13 0) (.ofNat (M.fin * 2)) s := g1.new_txo K.G hs (by omega)
    have hf1 := g1.fin
    have hn1 := g1.n
    have hd1 := g1.made
    rw [List.length_map] at hf1
    obtain ⟨h2, M2, e2, K2, U2, g2⟩ := K1.push (x := .ofNat (M.fin * 2)) (y := R.getD 0 0) (aAx T1.at0) K1.r0 (by omega) (by omega) (n := n) (by omega)
    have T2 := g2.txo K1.G T1
    have G1 := K1.G
    have ha : cO (.ofNat (M1.fin * 2)) M2.pl = M1.fin := by rw [g2.pl]; exact aCq G1.lo (by have := G1.le; have := G1.hi; omega)
    obtain ⟨e3, W3, U3⟩ := K2.W.setR0 (.ofNat (M1.fin * 2))
    obtain ⟨W4, U4⟩ := W3.setS (es ++ [(.s s, .i .i64 (Int.ofNat 0))])
    obtain ⟨W5, U5⟩ := W4.setS (es ++ [(.s s, .i .i64 (.ofNat (M.fin * 2)))])
    have rset : ∀ i, (R.set 0 (Int.ofNat (M1.fin * 2))).getD (i + 1) 0 = R.getD (i + 1) 0 := fun i => by
     simp [List.getD, List.getElem?_set]
    have me : fP .string (.i .i64 (Int.ofNat 0)) (.m (aT 5)) (.s s) ⟨h2.next, Tr.set (.row .ex ((R.set 0 (Int.ofNat (M1.fin * 2))).map iD)) (aT 4) h2.bl⟩ =
      some (.t [.i .i64 (Int.ofNat 0), .i .i64 (.ofNat es.length)], ⟨h2.next, Tr.set (.mp (es ++ [(.s s, .i .i64 (Int.ofNat 0))])) (aT 5) (Tr.set (.row .ex ((R.set 0 (Int.ofNat (M1.fin * 2))).map iD)) (aT 4) h2.bl)⟩) := by
     simp only [fP, W3.sy, f2]
     rfl
    have ms : dT (.m (aT 5)) (.i .i64 (.ofNat es.length)) (.i .i64 (.ofNat (M.fin * 2))) ⟨h2.next, Tr.set (.mp (es ++ [(.s s, .i .i64 (Int.ofNat 0))])) (aT 5) (Tr.set (.row .ex ((R.set 0 (Int.ofNat (M1.fin * 2))).map iD)) (aT 4) h2.bl)⟩ =
      some (aW, ⟨h2.next, Tr.set (.mp (es ++ [(.s s, .i .i64 (.ofNat (M.fin * 2)))])) (aT 5) (Tr.set (.mp (es ++ [(.s s, .i .i64 (Int.ofNat 0))])) (aT 5) (Tr.set (.row .ex ((R.set 0 (Int.ofNat (M1.fin * 2))).map iD)) (aT 4) h2.bl))⟩) := by
     have q1 : (es ++ [(DV.s s, DV.i .i64 (Int.ofNat 0))])[es.length]? = some (.s s, .i .i64 (Int.ofNat 0)) := by simp
     have q2 : (es ++ [(DV.s s, DV.i .i64 (Int.ofNat 0))]).set es.length (.s s, .i .i64 (.ofNat (M.fin * 2))) = es ++ [(.s s, .i .i64 (.ofNat (M.fin * 2)))] := by simp
     simp only [dT, W4.sy, q1, q2]
    have ix : ∀ h, aJ 1 (.l (aT 4) 0 18 18) (.i .i64 (Int.ofNat 0)) h = some (.p (aT 4) 0, h) := fun h => rfl
    refine ⟨.ofNat (M.fin * 2), 0, _, M2, R.set 0 (.ofNat (M1.fin * 2)), es ++ [(.s s, .i .i64 (.ofNat (M.fin * 2)))], ?_, ⟨W5, K2.G, ?_, ?_, ?_⟩, (((U1.trans U2).trans U3).trans U4).trans U5, ?_, .inr ⟨hl, rfl, bJp f1, T2⟩⟩
    ·simp only [lk, aV, iI, z0, bX, K.W.known (show 11 < 16 by omega), show 2 + 11 = 13 from rfl, e1, px0, px1, K1.W.l1, ix, oW, fld, K1.W.root (show 0 < 18 by omega), e2, K2.W.l1, K2.W.l2, e3, me, ms]
     rfl
    ·intro e he
     simp only [List.mem_append, List.mem_singleton] at he
     rcases he with he | rfl
     ·obtain ⟨k, y, q1, q2⟩ := K2.sy e he
      exact ⟨k, y, q1, by rw [show (13 : Nat) = 12 + 1 from rfl, rset]; exact q2⟩
     ·exact ⟨s, _, rfl, by rw [show (13 : Nat) = 12 + 1 from rfl, rset]; exact T2⟩
    ·have : (R.set 0 (Int.ofNat (M1.fin * 2))).getD 0 0 = Int.ofNat (M1.fin * 2) := by
      have hrl := K.W.rl
      cases R with
      | nil => simp at hrl
      | cons a l => rfl
     rw [this]
     exact aAx (by rw [ha]; have := G1.lo; omega)
    ·intro i hi
     rw [show 2 + i = (1 + i) + 1 by omega, rset, show (1 + i) + 1 = 2 + i by omega]
     exact K2.rk i hi
    ·have st := (g1.stay K.G R es (fun CL I => I.newK (i := 11) (.inr (.inl ⟨.inr rfl, rfl⟩)) (by rw [List.length_map]; omega) (fun _ v hv => by obtain ⟨c, q1, q2⟩ := List.mem_map.1 hv; exact ⟨c, hs c q1, q2.symm⟩))).trans (g2.stay K1.G R es (fun CL I => I.newK (i := 9) (.inl ⟨rfl, rfl⟩) (by simp) (fun q => by cases q)))
     rw [List.length_map] at st
     have hf2 := g2.fin
     have hd2 := g2.made
     refine ⟨st.n, ?_, ?_, st.lo, st.tx, st.at', rset, fun k v e => cAj e, fun CL I => (st.gi CL I).roots rset, st.old⟩
     ·simp at hf2; omega
     ·omega
theorem Wk.string (K : Wk h M R es) {s : List Nat} (hs : ∀ c ∈ s, c < 256) (room : M.fin + 260 ≤ M.n) (hm : M.made < 800000) {n : Nat} (hn : 300 < n) :
  ∃ a e h' M', eG (n + 3) 43 [.p (aT 7) 0, .s s] h = some (.t [.i .i64 a, .i .i64 e], h') ∧ Wk h' M' R es ∧ Up h h' ∧ Stay 260 M M' R R es es ∧
   ((¬ s.length ≤ 250 ∧ e = 1 ∧ a = 0) ∨ (s.length ≤ 250 ∧ e = 0 ∧ a = .ofNat (M.fin * 2) ∧ TxO M' (R.getD 12 0) a s)) := by
 rw [yZ 43 rfl, cQj]
 unfold s43
 have el : ∀ h, dR (.s s) h = some (.i .i64 (s.length : Int), h) := fun h => rfl
 by_cases c1 : s.length > 250
 ·refine ⟨0, 1, h, M, ?_, K, Up.refl h, Stay.refl _ _ _ _, .inl ⟨by omega, rfl, rfl⟩⟩
  have d1 : decide ((s.length : Int) > Int.ofNat 250) = true := decide_eq_true (by simp; omega)
  simp only [g0, g1, el, aV, fS, d1, bT]
  rfl
 ·have d1 : decide ((s.length : Int) > Int.ofNat 250) = false := decide_eq_false (by simp; omega)
  obtain ⟨h1, M1, e1, W1, U1, g1⟩ := K.W.bytes49 K.G (K.rk 10 (by omega)) hs (by omega) (by omega) hn
  have K1 : Wk h1 M1 R es := g1.wk K W1 (K.rk 10 (by omega)) (by omega) (by simp; omega) (by simp; omega) (by omega)
  have T1 : TxO M1 (R.getD 12 0) (.ofNat (M.fin * 2)) s := g1.new_txo K.G hs (by omega)
  refine ⟨.ofNat (M.fin * 2), 0, h1, M1, ?_, K1, U1, ?_, .inr ⟨by omega, rfl, rfl, T1⟩⟩
  ·simp only [g0, Dd.g1, el, aV, fS, d1, bX, K.W.known (show 10 < 16 by omega), show 2 + 10 = 12 from rfl, e1, px0, px1]
   rfl
  ·have st := g1.stay K.G R es (fun CL I => I.newK (i := 10) (.inr (.inl ⟨.inl rfl, rfl⟩)) (by rw [List.length_map]; omega) (fun _ v hv => by obtain ⟨c, q1, q2⟩ := List.mem_map.1 hv; exact ⟨c, hs c q1, q2.symm⟩))
   rw [List.length_map] at st
   exact ⟨st.n, by have := st.fin; omega, by have := st.made; omega, st.lo, st.tx, st.at', st.r, st.fd, st.gi, st.old⟩
end
end Go.Dd

namespace Go.Dd
open Go.Proofs
noncomputable def byE (t : WT) (s : List Nat) : Nat → Bool := List.rec (motive := fun _ => Nat → Bool) (fun _ => true) (fun c _ ih a => Nat.blt c 256 && (gF (t.get a) (.ofNat c) && ih (Nat.add a 1))) s
noncomputable def bZl (M : MemV) (cls : Int) (e : List Nat × Nat) : Bool :=
 !(Nat.beq (cO (.ofNat e.2) M.pl) 0) && (gF (M.t.get (cO (.ofNat e.2) M.pl)) (.ofNat (Nat.add (Nat.mul e.1.length 4) 2)) && (gF (M.t.get (Nat.add (cO (.ofNat e.2) M.pl) 1)) cls && (Nat.ble e.1.length 256 && byE M.t e.1 (Nat.add (cO (.ofNat e.2) M.pl) 3))))
theorem bZn (t : WT) : ∀ (s : List Nat) (a : Nat), byE t s a = true → (∀ c ∈ s, c < 256) ∧ ∀ i c, s[i]? = some c → t.get (a + i) = .ofNat c
 | [], a, _ => ⟨by simp, fun i c h => by simp at h⟩
 | c :: s, a, h => by
  change (Nat.blt c 256 && (gF (t.get a) (.ofNat c) && byE t s (a + 1))) = true at h
  simp only [Bool.and_eq_true, iH, decide_eq_true_eq] at h
  obtain ⟨h1, h2⟩ := bZn t s (a + 1) h.2.2
  refine ⟨fun d hd => ?_, fun i d hi => ?_⟩
  ·simp only [List.mem_cons] at hd
   rcases hd with rfl | hd
   ·exact h.1
   ·exact h1 d hd
  ·cases i with
   | zero =>
    simp only [List.getElem?_cons_zero, bE] at hi
    subst hi
    exact mU _ _ h.2.1
   | succ i =>
    rw [show a + (i + 1) = a + 1 + i by omega]
    exact h2 i d (by simpa using hi)
theorem aUq {M : MemV} {cls : Int} {e : List Nat × Nat} (h : bZl M cls e = true) : TxO M cls (.ofNat e.2) e.1 := by
 unfold bZl at h
 simp only [Bool.and_eq_true, jO, decide_eq_true_eq] at h
 obtain ⟨h1, h2, h3, h4, h5⟩ := h
 obtain ⟨b1, b2⟩ := bZn _ _ _ h5
 refine ⟨fun e => (by rw [e] at h1; cases h1), mU _ _ h2, mU _ _ h3, b1, h4, b2⟩
noncomputable def cTp (p : List Nat × Nat → Bool) (l : List (List Nat × Nat)) : Bool := List.rec (motive := fun _ => Bool) true (fun x _ ih => p x && ih) l
theorem aKd {p : List Nat × Nat → Bool} : ∀ {l : List (List Nat × Nat)}, cTp p l = true → ∀ a ∈ l, p a = true
 | [], _, a, h => by cases h
 | x :: l, hl, a, h => by
  change (p x && cTp p l) = true at hl
  simp only [Bool.and_eq_true] at hl
  simp only [List.mem_cons] at h
  rcases h with rfl | h
  ·exact hl.1
  ·exact aKd hl.2 a h
theorem xK : ∀ (l : List (List Nat × Nat)) (e : DV × DV), e ∈ bDs l → ∃ x ∈ l, e = (.s x.1, .i .i64 (.ofNat x.2))
 | [], e, h => by cases h
 | x :: l, e, h => by
  change e ∈ (DV.s x.1, DV.i .i64 (.ofNat x.2)) :: bDs l at h
  simp only [List.mem_cons] at h
  rcases h with rfl | h
  ·exact ⟨x, by simp, rfl⟩
  ·obtain ⟨y, h1, h2⟩ := xK l e h
   exact ⟨y, by simp [h1], h2⟩
theorem cJk : cTp (bZl MN (RN.getD 13 0)) syN = true := by kernel_rfl
theorem KN : Wk hW MN RN esN := ⟨WN, GN, fun e he => by
 obtain ⟨x, h1, h2⟩ := xK syN e he
 exact ⟨x.1, _, h2, aUq (aKd cJk x h1)⟩, by kernel_rfl, dDy⟩
theorem cNe (s : List Nat) (h : Hp) : dR (.s s) h = some (.i .i64 (s.length : Int), h) := rfl
theorem aKe (s : ByteArray) : ∀ c ∈ s.data.toList.map (·.toNat), c < 256 := by
 intro c hc
 obtain ⟨b, _, rfl⟩ := List.mem_map.1 hc
 exact b.toNat_lt
end Go.Dd

namespace Go.Dd
open Go.Proofs
theorem bDa (x : Int) : gF x x = true := by
 cases x with
 | ofNat n => exact Nat.beq_refl n
 | negSucc n => exact Nat.beq_refl n
theorem dE (x y : Int) : gF x y = true ↔ x = y := ⟨mU x y, fun e => by rw [e]; exact bDa y⟩
noncomputable def bUv (p : Nat → Bool) (n : Nat) : Bool := Nat.rec (motive := fun _ => Bool) true (fun i ih => p i && ih) n
theorem tP {p : Nat → Bool} : ∀ {n : Nat}, bUv p n = true → ∀ i, i < n → p i = true
 | 0, _, i, h => by omega
 | n + 1, hl, i, h => by
  change (p n && bUv p n) = true at hl
  simp only [Bool.and_eq_true] at hl
  by_cases e : i = n
  ·rw [e]; exact hl.1
  ·exact tP hl.2 i (by omega)
noncomputable def cMh (a : Nat) (l : List Nat) : Bool := List.rec (motive := fun _ => Bool) false (fun x _ ih => Nat.beq a x || ih) l
theorem xO {a : Nat} : ∀ {l : List Nat}, cMh a l = true → a ∈ l
 | [], h => by cases h
 | x :: l, h => by
  change (Nat.beq a x || cMh a l) = true at h
  simp only [Bool.or_eq_true] at h
  rcases h with h | h
  ·rw [Nat.eq_of_beq_eq_true h]; exact List.mem_cons_self
  ·exact List.mem_cons_of_mem _ (xO h)
noncomputable def byB (v : Int) : Bool := match v with
 | .ofNat c => Nat.blt c 256
 | .negSucc _ => false
noncomputable def aOo (a b : Bool) : Bool := bif a then b else true
theorem kG {a b : Bool} (h : aOo a b = true) (ha : a = true) : b = true := by rw [ha] at h; exact h
noncomputable def obB (M : MemV) (R : List Int) (CL : List Nat) (a hd : Nat) : Bool :=
 Nat.ble (Nat.div hd 4) 256 && (Nat.ble (Nat.mod hd 4) 2 && (aOo (gF (M.t.get (Nat.add a 1)) (R.getD 11 0)) (Nat.beq (Nat.mod hd 4) 0) &&
  (aOo (gF (M.t.get (Nat.add a 1)) (R.getD 12 0)) (Nat.beq (Nat.mod hd 4) 2) && (aOo (gF (M.t.get (Nat.add a 1)) (R.getD 13 0)) (Nat.beq (Nat.mod hd 4) 2) &&
  (aOo (Nat.beq (Nat.mod hd 4) 2) (bUv (fun i => byB (M.t.get (Nat.add (Nat.add a 3) i))) (Nat.div hd 4)) && (aOo (gF (M.t.get (Nat.add a 1)) (R.getD 3 0)) (cMh a CL) &&
  aMn (fun c => aOo (gF (M.t.get (Nat.add c 8)) 1) (!(gF (M.t.get (Nat.add a 1)) (.ofNat (Nat.mul 2 c))))) CL))))))
theorem cXv {M : MemV} {R : List Int} {CL : List Nat} {a hd : Nat} (h : obB M R CL a hd = true) : ObI M R CL a hd := by
 unfold obB at h
 simp only [Bool.and_eq_true, jO, decide_eq_true_eq] at h
 obtain ⟨h1, h2, h3, h4, h5, h6, h7, h8⟩ := h
 refine ⟨h1, h2, fun q => ?_, fun q => ?_, fun q i hi => ?_, fun q => ?_, fun _ c hc q1 q2 => ?_⟩
 ·exact Nat.eq_of_beq_eq_true (kG h3 ((dE _ _).2 q))
 ·rcases q with q | q
  ·exact Nat.eq_of_beq_eq_true (kG h4 ((dE _ _).2 q))
  ·exact Nat.eq_of_beq_eq_true (kG h5 ((dE _ _).2 q))
 ·have hb := tP (kG h6 (show Nat.beq (Nat.mod hd 4) 2 = true by rw [show Nat.mod hd 4 = 2 from q]; rfl)) i hi
  change byB (M.t.get (a + 3 + i)) = true at hb
  cases hv : M.t.get (a + 3 + i) with
  | ofNat c => rw [hv] at hb; exact ⟨c, by simpa [byB, iH] using hb, rfl⟩
  | negSucc c => rw [hv] at hb; cases hb
 ·exact xO (kG h7 ((dE _ _).2 q))
 ·exfalso
  have q3 := kG (jA h8 c hc) ((dE _ _).2 q1)
  rw [(dE _ _).2 (show M.t.get (Nat.add a 1) = .ofNat (Nat.mul 2 c) from q2)] at q3
  cases q3
noncomputable def zK (M : MemV) (a : Nat) (p : Nat → Bool) : Bool := match M.t.get a with
 | .ofNat hd => p hd
 | .negSucc _ => true
noncomputable def clB (M : MemV) (R : List Int) (c : Nat) : Bool :=
 Nat.ble 3 c && (Nat.ble c 131072 && (!(gF (M.pl.get c) 0) && (gF (M.t.get c) (.ofNat 24) && (gF (M.t.get (Nat.add c 1)) (R.getD 3 0) &&
  (zK M (Nat.add c 5) (fun s => Nat.ble s 33 && Nat.beq (Nat.mod s 2) 1) && (zK M (Nat.add c 8) (fun s => Nat.ble s 7 && Nat.beq (Nat.mod s 2) 1) && (byB (M.t.get (Nat.add c 5)) && byB (M.t.get (Nat.add c 8)))))))))
noncomputable def nmB (M : MemV) (R : List Int) (sy : List (List Nat × Nat)) (c : Nat) : Bool :=
 List.rec (motive := fun _ => Bool) false (fun e _ ih => (gF (M.t.get (Nat.add c 3)) (.ofNat e.2) && (bZl M (R.getD 13 0) e && (Nat.ble 1 e.1.length && Nat.ble e.1.length 60))) || ih) sy
theorem bSj {M : MemV} {R : List Int} {c : Nat} : ∀ {sy : List (List Nat × Nat)}, nmB M R sy c = true → ∃ s, TxO M (R.getD 13 0) (M.t.get (c + 3)) s ∧ 1 ≤ s.length ∧ s.length ≤ 60
 | [], h => by cases h
 | e :: sy, h => by
  change ((gF (M.t.get (c + 3)) (.ofNat e.2) && (bZl M (R.getD 13 0) e && (Nat.ble 1 e.1.length && Nat.ble e.1.length 60))) || nmB M R sy c) = true at h
  simp only [Bool.or_eq_true] at h
  rcases h with h | h
  ·simp only [Bool.and_eq_true, jO, decide_eq_true_eq] at h
   obtain ⟨q1, q2, q3, q4⟩ := h
   exact ⟨e.1, by rw [(dE _ _).1 q1]; exact aUq q2, q3, q4⟩
  ·exact bSj h
theorem dDj {M : MemV} {R : List Int} {c : Nat} {sy : List (List Nat × Nat)} (h : clB M R c = true) (hn : nmB M R sy c = true) : ClI M R c := by
 unfold clB at h
 simp only [Bool.and_eq_true, jO, decide_eq_true_eq] at h
 obtain ⟨h1, h2, h3, h4, h5, h6, h7, h8, h9⟩ := h
 have num : ∀ (j m : Nat), zK M (c + j) (fun s => decide (s ≤ 2 * m + 1) && Nat.beq (Nat.mod s 2) 1) = true → byB (M.t.get (c + j)) = true → ∃ z : Nat, z ≤ m ∧ M.t.get (c + j) = .ofNat (2 * z + 1) := fun j m q1 q2 => by
  cases hv : M.t.get (c + j) with
  | negSucc x => rw [hv] at q2; cases q2
  | ofNat x =>
   unfold zK at q1
   rw [hv] at q1
   simp only [Bool.and_eq_true, decide_eq_true_eq] at q1
   have e : x % 2 = 1 := Nat.eq_of_beq_eq_true q1.2
   exact ⟨x / 2, by omega, by rw [show 2 * (x / 2) + 1 = x by omega]⟩
 refine ⟨⟨h1, h2⟩, fun e => ?_, (dE _ _).1 h4, (dE _ _).1 h5, bSj hn, num 5 16 h6 h8, num 8 3 h7 h9⟩
 rw [e] at h3
 cases h3
noncomputable def djB (M : MemV) (l : List Nat) : Nat → Bool := List.rec (motive := fun _ => Nat → Bool) (fun _ => true) (fun a _ ih lo => Nat.ble lo a && (match M.t.get a with
 | .ofNat hd => ih (Nat.add (Nat.add a 3) (Nat.div hd 4))
 | .negSucc _ => false)) l
theorem bQf {M : MemV} : ∀ {l : List Nat} {lo : Nat}, djB M l lo = true → (∀ a ∈ l, lo ≤ a) ∧ ∀ a ∈ l, ∀ b ∈ l, a < b → ∀ hd : Nat, M.t.get a = .ofNat hd → a + 3 + hd / 4 ≤ b
 | [], lo, h => ⟨fun a ha => (by cases ha), fun a ha => (by cases ha)⟩
 | x :: l, lo, h => by
  change (Nat.ble lo x && (match M.t.get x with
   | .ofNat hd => djB M l (x + 3 + hd / 4)
   | .negSucc _ => false)) = true at h
  simp only [Bool.and_eq_true, jO, decide_eq_true_eq] at h
  obtain ⟨h1, h2⟩ := h
  cases hx : M.t.get x with
  | negSucc k => rw [hx] at h2; cases h2
  | ofNat k =>
   rw [hx] at h2
   obtain ⟨i1, i2⟩ := bQf (l := l) h2
   refine ⟨fun a ha => ?_, fun a ha b hb hab hd hh => ?_⟩
   ·rcases List.mem_cons.1 ha with rfl | ka
    ·exact h1
    ·have := i1 a ka
     omega
   ·rcases List.mem_cons.1 ha with rfl | ka
    ·rcases List.mem_cons.1 hb with rfl | kb
     ·omega
     ·rw [hx] at hh
      cases hh
      exact i1 b kb
    ·rcases List.mem_cons.1 hb with rfl | kb
     ·have := i1 a ka
      omega
     ·exact i2 a ka b kb hab hd hh
noncomputable def giB (M : MemV) (R : List Int) (CL : List Nat) (pls : List Nat) (sy : List (List Nat × Nat)) : Bool :=
 djB M pls 0 && (gF (M.t.get 0) 0 && (gF (M.t.get 1) 0 && (aMn (fun a => zK M a (obB M R CL a)) pls && (aMn (fun c => clB M R c && nmB M R sy c) CL &&
  (bUv (fun i => gF (R.getD (Nat.add 2 i) 0) (.ofNat (Nat.add 6 (Nat.mul 18 i)))) 16 && (bUv (fun i => cMh (Nat.add 3 (Nat.mul 9 i)) CL) 16 &&
  (gF (M.t.get 92) 3 && (gF (M.t.get 101) 5 && (gF (M.t.get 110) 5 && (gF (M.t.get 83) 7 && gF (M.t.get 20) 7))))))))))
theorem cZh {M : MemV} {R : List Int} {CL : List Nat} {pls : List Nat} {sy : List (List Nat × Nat)} (hp : M.pl = mkP pls .e) (hb : ∀ x ∈ pls, x < 16000000) (h : giB M R CL pls sy = true) : GI M R CL := by
 unfold giB at h
 simp only [Bool.and_eq_true] at h
 obtain ⟨h0, h1, h2, h3, h4, h5, h6, h7, h8, h9, h10, h11⟩ := h
 have mem : ∀ a, M.pl.get a ≠ 0 → a ∈ pls := fun a ha => by
  rw [hp] at ha
  rcases tU pls .e a hb ha with q | q
  ·exact q
  ·exact absurd rfl q
 refine ⟨(dE _ _).1 h1, (dE _ _).1 h2, fun a ha hd hh => ?_, fun a b ha hb' => (bQf h0).2 a (mem a ha) b (mem b hb'), fun c hc => ?_, fun i hi => (dE _ _).1 (tP h5 i hi), fun i hi => xO (tP h6 i hi), (dE _ _).1 h7, (dE _ _).1 h8, (dE _ _).1 h9, (dE _ _).1 h10, (dE _ _).1 h11⟩
 ·have hm : a ∈ pls := by
   rw [hp] at ha
   rcases tU pls .e a hb ha with q | q
   ·exact q
   ·exact absurd rfl q
  have q := jA h3 a hm
  unfold zK at q
  rw [hh] at q
  exact cXv q
 ·have q := jA h4 c hc
  simp only [Bool.and_eq_true] at q
  exact dDj q.1 q.2
def CLW : List Nat := [3, 12, 21, 30, 39, 48, 57, 66, 75, 84, 93, 102, 111, 120, 129, 138, 4357]
theorem cBe : giB MN RN CLW plN syN = true := by kernel_rfl
theorem cUp : aMn (fun x => Nat.blt x 16000000) plN = true := by kernel_rfl
theorem GIN : GI MN RN CLW := cZh cQu (fun x hx => by have := jA cUp x hx; simpa [iH] using this) cBe
end Go.Dd

namespace Go.Dd
open Go.Proofs
noncomputable def aUx (M : MemV) (o : Int) : Nat := match M.t.get (cO o M.pl) with
 | .ofNat hd => hd
 | .negSucc _ => 0
noncomputable def dFq (M : MemV) (o : Int) (i : Nat) : Int := if cO o M.pl ≠ 0 ∧ i < aUx M o / 4 then M.t.get (cO o M.pl + 3 + i) else 0
noncomputable def dIv (M : MemV) (o : Int) : Int := M.t.get (cO o M.pl + 1)
noncomputable def cMo (M : MemV) (R : List Int) (x : Int) : Option Int := if eP x = true then some (zP x) else if (cO x M.pl ≠ 0 ∧ dIv M x = R.getD 10 0) ∧ aUx M x % 4 = 1 then some (dFq M x 0) else none
section
variable {h : Hp} {M : MemV} {R : List Int} {es : List (DV × DV)} {CL : List Nat} {z : Prop}
end
end Go.Dd

namespace Go.Dd
open Go.Proofs
theorem pcf {rec : FuncId → List DV → Hp → aH} {g : FuncId} (hg : CF.I g = none) (a l b : List DV) (h : Hp) : cV CF rec (.f g a b) l h = rec g (a ++ l ++ b) h := by
 show bN CF rec g (a ++ l ++ b) h = _
 rw [gY hg]
section
variable {h : Hp} {M : MemV} {R : List Int} {es : List (DV × DV)}
theorem Wk.make0 (K : Wk h M R es) {cls : Int} (hc : cO cls M.pl ≠ 0) {f c : Nat} (hf : f ≤ 2) (h256 : c ≤ 256) (room : M.fin + c + 3 ≤ M.n) (hm : M.made < 899999) :
  ∃ h' M', iO [.p (aT 3) 0, .i .i64 cls, .i .i64 (.ofNat f), .i .i64 (.ofNat c)] h = some (.t [.i .i64 (.ofNat (M.fin * 2)), .i .i64 (.ofNat 0)], h') ∧ Wk h' M' R es ∧ Up h h' ∧ Grown M M' f cls (List.replicate c 0) := by
 have h1 := K.G.le
 have h2 := K.G.lo
 have h3 := K.G.hi
 obtain ⟨h', e1, W1, U1, _⟩ := K.W.make K.G hc hf h256 room
 have t1 : ∀ j, (M.mk1 f c cls).t.get j = if M.fin + 3 ≤ j ∧ j < M.fin + 3 + c then 0 else if j = M.fin + 2 then .ofNat (M.made + 1) else if j = M.fin + 1 then cls else if j = M.fin then .ofNat (c * 4 + f) else M.t.get j := fun j => by
  show (kH _ c (M.fin + 3)).get j = _
  rw [mN _ _ _ _ (by omega), WT.get_set _ _ _ _ (by omega), WT.get_set _ _ _ _ (by omega), WT.get_set _ _ _ _ (by omega)]
 have g : Grown M (M.mk1 f c cls) f cls (List.replicate c 0) := by
  refine ⟨rfl, by rw [List.length_replicate]; rfl, rfl, rfl, ?_, ?_, fun j hj => ?_, fun i v hi => ?_⟩
  ·rw [t1, if_neg (by omega), if_neg (by omega), if_neg (by omega), if_pos rfl, List.length_replicate]
  ·rw [t1, if_neg (by omega), if_neg (by omega), if_pos rfl]
  ·rw [t1, if_neg (by omega), if_neg (by omega), if_neg (by omega), if_neg (by omega)]
  ·have hl : i < c := by
    rcases Nat.lt_or_ge i c with q | q
    ·exact q
    ·rw [List.getElem?_eq_none (by simpa using q)] at hi; cases hi
   rw [List.getElem?_replicate, if_pos hl] at hi
   cases hi
   rw [t1, if_pos (by omega)]
 exact ⟨h', _, e1, g.wk K W1 hc hf (by rw [List.length_replicate]; exact h256) (by rw [List.length_replicate]; exact room) hm, U1, g⟩
theorem bCu {M : MemV} {R : List Int} {a n : Int} (h : eP a = true) (e : zP a = n) : cMo M R a = some n := by
 unfold cMo
 rw [if_pos h, e]
theorem Wk.num (K : Wk h M R es) (room : M.fin + 4 ≤ M.n) (hm : M.made < 899999) (n : Int) {k : Nat} (hk : 256 < k) :
  ∃ a e h' M', eG (k + 2) 42 [.p (aT 7) 0, .i .i64 n] h = some (.t [iD a, iD e], h') ∧ Wk h' M' R es ∧ Up h h' ∧ Stay 4 M M' R R es es ∧
   ((¬ (-1152921504606846976 ≤ n ∧ n ≤ 1152921504606846976) ∧ e = 2 ∧ a = 0) ∨ ((-1152921504606846976 ≤ n ∧ n ≤ 1152921504606846976) ∧ e = 0 ∧ cMo M' R a = some n ∧ eI a M'.pl = true)) := by
 obtain ⟨a, e, h', M', e1, W', G', U', hA⟩ := K.W.number K.G K.rk room hm n hk
 cases hA with
 | out h1 h2 =>
  subst h2
  exact ⟨0, 2, h', M', e1, ⟨W', G', K.sy, K.r0, K.rk⟩, U', Stay.refl _ _ _ _, .inl ⟨h1, rfl, rfl⟩⟩
 | small a h1 h2 h3 h4 =>
  subst h4
  refine ⟨a, 0, h', M', e1, ⟨W', G', K.sy, K.r0, K.rk⟩, U', Stay.refl _ _ _ _, .inr ⟨by omega, rfl, bCu h2 h3, ?_⟩⟩
  unfold eI
  split <;> first | rfl | (rw [h2]; rfl)
 | big h1 h2 g =>
  have hc : cO (R.getD 10 0) M.pl ≠ 0 := K.rk 8 (by omega)
  have st := g.stay K.G R es (fun CL I => I.newK (i := 8) (.inr (.inr ⟨rfl, rfl⟩)) (by simp) (fun q => by cases q))
  have ha : cO (.ofNat (M.fin * 2)) M'.pl = M.fin := by rw [g.pl]; exact aCq K.G.lo (by have := K.G.le; have := K.G.hi; omega)
  have h0 := K.G.lo
  have hs : eP (.ofNat (M.fin * 2)) = false := by
   rw [kW]
   refine decide_eq_false fun q => ?_
   have q1 := q.1
   simp at q1
   try omega
  refine ⟨_, 0, h', M', e1, g.wk K W' hc (by omega) (by simp) (by simp; omega) hm, U', st, .inr ⟨h1, rfl, ?_, aAx (by rw [ha]; omega)⟩⟩
  unfold cMo
  have hh : aUx M' (.ofNat (M.fin * 2)) = 5 := by unfold aUx; rw [ha, g.hd]; rfl
  rw [if_neg (by rw [hs]; simp), if_pos ⟨⟨by rw [ha]; omega, by unfold dIv; rw [ha, g.cl]⟩, by rw [hh]⟩]
  unfold dFq
  rw [ha, hh, if_pos ⟨by omega, by omega⟩]
  have := g.new 0 n rfl
  rw [Nat.add_zero] at this ⊢
  all_goals rw [this]
theorem Wd.notMay (W : Wd h M R es) {b : Pos} (hb : h.bl.get b = some (.row .ex [.p (aT 7) 0])) (v : Int) (n : Nat) : eG (n + 1) 84 [.i .i64 v, .p b 0] h = some (.b (!(eI v M.pl)), h) := by
 rw [yZ 84 rfl, cQz]
 unfold s84
 have l : aA (.p b 0) h = some (.p (aT 7) 0, h) := by simp only [aA, cellD, rowOf, hb, List.getElem?_cons_zero, DV.one, if_true]
 simp only [g0, g1, l, aV, oW, fld, W.l00, W.may, kI]
theorem aKz {l : List Int} {p : Int → Bool} {i : Nat} {v : Int} (h : l[i]? = some v) : (l.drop i).any p = (p v || (l.drop (i + 1)).any p) := by
 have hi : i < l.length := by
  rcases Nat.lt_or_ge i l.length with q | q
  ·exact q
  ·rw [List.getElem?_eq_none q] at h; cases h
 rw [List.drop_eq_getElem_cons hi, List.any_cons]
 rw [List.getElem?_eq_getElem hi] at h
 cases h
 rfl
theorem Wd.find (W : Wd h M R es) {x : DV} {l : List Int} (S : SlI x l h) {b : Pos} (hb : h.bl.get b = some (.row .ex [.p (aT 7) 0])) {n : Nat} (hl : l.length ≤ 256) : ∀ (k i m : Nat), k + i = l.length → k < m →
  ∃ r : Int, iK (eG (n + 1)) (n + 1) m x (.f 84 [] [.p b 0]) (iD l.length) (.i .i64 (Int.ofNat i)) h = some (iD r, h) ∧ (decide (r ≥ Int.ofNat 0) = (l.drop i).any fun v => !(eI v M.pl)) := by
 intro k
 induction k with
 | zero =>
  intro i m he hm
  obtain ⟨m, rfl⟩ : ∃ m', m = m' + 1 := ⟨m - 1, by omega⟩
  refine ⟨-1, ?_, ?_⟩
  ·show gI (eG (n + 1)) (n + 1) (iK (eG (n + 1)) (n + 1) m) _ _ _ _ h = _
   unfold gI
   have d : decide (Int.ofNat i < (l.length : Int)) = false := decide_eq_false (by simp; omega)
   simp only [cH, d, aV, bX]
   rfl
  ·rw [List.drop_eq_nil_of_le (by omega)]
   rfl
 | succ k ih =>
  intro i m he hm
  obtain ⟨m, rfl⟩ : ∃ m', m = m' + 1 := ⟨m - 1, by omega⟩
  have hi : i < l.length := by omega
  have hv : l[i]? = some l[i] := List.getElem?_eq_getElem hi
  obtain ⟨a, e1, e2⟩ := S.at hv
  obtain ⟨r, q1, q2⟩ := ih (i + 1) m (by omega) (by omega)
  have d : decide (Int.ofNat i < (l.length : Int)) = true := decide_eq_true (by simp; omega)
  have hc : cV CF (eG (n + 1)) (.f 84 [] [.p b 0]) [iD l[i]] h = some (.b (!(eI l[i] M.pl)), h) := by
   rw [pcf rfl]
   exact W.notMay hb l[i] n
  have ha : aD .add (.i .i64 (Int.ofNat i)) (.i .i64 (Int.ofNat 1)) h = some (.i .i64 (Int.ofNat (i + 1)), h) := gO i 1 h (by omega)
  rw [aKz hv]
  cases hmay : eI l[i] M.pl with
  | false =>
   refine ⟨Int.ofNat i, ?_, by simp⟩
   show gI (eG (n + 1)) (n + 1) (iK (eG (n + 1)) (n + 1) m) _ _ _ _ h = _
   unfold gI
   rw [hmay] at hc
   simp only [cH, d, aV, bT, e1, e2, hc, Bool.not_false]
  | true =>
   refine ⟨r, ?_, by rw [q2]; rfl⟩
   show gI (eG (n + 1)) (n + 1) (iK (eG (n + 1)) (n + 1) m) _ _ _ _ h = _
   unfold gI
   rw [hmay] at hc
   simp only [cH, d, aV, bT, e1, e2, hc, Bool.not_true, bX, ha]
   exact q1
theorem Wd.contains (W : Wd h M R es) {x : DV} {l : List Int} (S : SlI x l h) {b : Pos} (hb : h.bl.get b = some (.row .ex [.p (aT 7) 0])) (hl : l.length ≤ 256) {n : Nat} (hn : 256 < n) :
  eG (n + 3) 52 [x, .f 84 [] [.p b 0]] h = some (.b (l.any fun v => !(eI v M.pl)), h) := by
 rw [yZ 52 rfl, bSh]
 unfold s52
 obtain ⟨r, q1, q2⟩ := W.find S hb (n := n) hl l.length 0 (n + 1) (by omega) (by omega)
 have e : eG (n + 2) 89 [x, .f 84 [] [.p b 0]] h = some (iD r, h) := by
  rw [yZ 89 rfl, bOl]
  unfold s89 aMj aLp aVe
  simp only [g0, g1, S.len (h' := h), aV]
  exact q1
 simp only [g0, g1, e, aV, mG, q2, List.drop_zero]
end
end Go.Dd

namespace Go.Dd
open Go.Proofs
theorem cSs (b : Pos) (o : Nat) (h : Hp) : bH (some (.p b o, h)) (.p b o) = true := by
 unfold bH
 simp [DV.beq]
section
variable {h : Hp} {M : MemV} {R : List Int} {es : List (DV × DV)}
theorem Wk.array (K : Wk h M R es) {x : DV} {l : List Int} (S : SlI x l h) (h256 : l.length ≤ 256) (room : M.fin + l.length + 3 ≤ M.n) (hm : M.made < 899999) {n : Nat} (hn : 256 < n) :
  ∃ a e h' M', eG (n + 4) 46 [.p (aT 7) 0, x] h = some (.t [iD a, iD e], h') ∧ Wk h' M' R es ∧ Up h h' ∧
   ((¬ (l.length ≤ 250 ∧ ∀ v ∈ l, eI v M.pl = true) ∧ e = 1 ∧ a = 0 ∧ M' = M) ∨ ((l.length ≤ 250 ∧ ∀ v ∈ l, eI v M.pl = true) ∧ e = 0 ∧ a = .ofNat (M.fin * 2) ∧ Grown M M' 0 (R.getD 11 0) l)) := by
 rw [yZ 46 rfl, cRd]
 unfold s46
 obtain ⟨U1, W1⟩ := K.W.new (.row .ex [.p (aT 7) 0])
 obtain ⟨h1, hh1⟩ : ∃ h1 : Hp, (⟨h.next.succ, Tr.set (.row .ex [.p (aT 7) 0]) h.next h.bl⟩ : Hp) = h1 := ⟨_, rfl⟩
 rw [hh1] at U1 W1
 have eb : bQ (.p (aT 7) 0) h = some (.p h.next 0, h1) := by rw [← hh1]; rfl
 have hb : h1.bl.get h.next = some (.row .ex [.p (aT 7) 0]) := by rw [← hh1]; exact dQw _ _ _
 have S1 := S.up U1
 have K1 : Wk h1 M R es := ⟨W1, K.G, K.sy, K.r0, K.rk⟩
 have ld : aA (.p h.next 0) h1 = some (.p (aT 7) 0, h1) := by simp only [aA, cellD, rowOf, hb, List.getElem?_cons_zero, DV.one, if_true]
 have el : ∀ h, bV x h = some (iD l.length, h) := fun h => S.len
 by_cases c1 : l.length > 250
 ·have d1 : decide ((l.length : Int) > Int.ofNat 250) = true := decide_eq_true (by simp; omega)
  refine ⟨0, 1, h1, M, ?_, K1, U1, .inl ⟨fun q => by omega, rfl, rfl, rfl⟩⟩
  simp only [g0, g1, eb, aV, el, fS, d1, fU, cY, bT]
  rfl
 ·have d1 : decide ((l.length : Int) > Int.ofNat 250) = false := decide_eq_false (by simp; omega)
  have hc := W1.contains S1 hb h256 hn
  cases ha : l.any (fun v => !(eI v M.pl)) with
  | true =>
   rw [ha] at hc
   refine ⟨0, 1, h1, M, ?_, K1, U1, .inl ⟨fun q => ?_, rfl, rfl, rfl⟩⟩
   ·simp only [g0, g1, eb, aV, el, fS, d1, iF, hc, cP, bT]
    rfl
   ·obtain ⟨v, hv, hv2⟩ := List.any_eq_true.1 ha
    rw [q.2 v hv] at hv2
    cases hv2
  | false =>
   rw [ha] at hc
   have hall : ∀ v ∈ l, eI v M.pl = true := fun v hv => by
    cases hq : eI v M.pl with
    | true => rfl
    | false =>
     have : l.any (fun v => !(eI v M.pl)) = true := List.any_eq_true.2 ⟨v, hv, by rw [hq]; rfl⟩
     rw [this] at ha
     cases ha
   have hk : M.fin < 16000000 := by have := K.G.le; have := K.G.hi; omega
   obtain ⟨h2, M2, e2, W2, U2, _, g2⟩ := W1.make61 K.G (K.rk 9 (by omega)) (f := 0) (by omega) S1 (by omega) (by omega) (fun v hv => sR hk (hall v hv)) (n := n + 2) (by omega)
   have kn : eG (n + 3) 30 [.p (aT 7) 0, .i .i64 (Int.ofNat 9)] h1 = some (iD (R.getD 11 0), h1) := W1.known (show 9 < 16 by omega) (n + 2)
   refine ⟨.ofNat (M.fin * 2), 0, h2, M2, ?_, g2.wk K1 W2 (K.rk 9 (by omega)) (by omega) (by omega) (by omega) hm, U1.trans U2, .inr ⟨⟨by omega, hall⟩, rfl, rfl, g2⟩⟩
   simp only [g0, g1, eb, aV, el, fS, d1, iF, hc, cP, bX, ld, kn, cSs, Bool.and_self, cond_true]
   rw [show (2 + 9 : Nat) = 11 from rfl] at e2
   show cnd true _ = _
   simp only [cnd, e2, aV, px0, px1]
   rfl
end
end Go.Dd

namespace Go.Dd
open Go.Proofs
def Wc (h : Hp) (cs : List (DV × DV)) : Prop := h.bl.get (aT 6) = some (.mp cs)
noncomputable def aVl (cs : List (DV × DV)) (s : List Nat) : Int := match dF .string (.s s) cs with
 | some (some (.i .i64 v)) => v
 | _ => 0
section
variable {h : Hp} {M : MemV} {R : List Int} {es cs : List (DV × DV)} {CL : List Nat} {z : Prop}
theorem Wc.up {h' : Hp} (c : Wc h cs) (W : Wd h M R es) (u : Up h h') : Wc h' cs := by
 unfold Wc
 rw [u.get (aT 6) (.inr (by rw [pn6]; exact Nat.le_refl _)) (by have := W.nx; rw [pn6]; omega)]
 exact c
theorem Wd.classOfName (W : Wd h M R es) (c : Wc h cs) (hcs : ∀ e ∈ cs, ∃ (k : List Nat) (x : Int), e = (.s k, iD x)) (s : List Nat) (n : Nat) : eG (n + 1) 45 [.p (aT 7) 0, .s s] h = some (iD (aVl cs s), h) := by
 rw [yZ 45 rfl, cRi]
 unfold s45
 have l3 : aA (.p (aT 7) (0 + 3)) h = some (.m (aT 6), h) := by
  simp only [aA, cellD, rowOf, W.w, Nat.zero_add, List.getElem?_cons_succ, List.getElem?_cons_zero, DV.one, if_true]
 have lk : dL .string (.i .i64 (Int.ofNat 0)) false (.m (aT 6)) (.s s) h = some (iD (aVl cs s), h) := by
  have hc : h.bl.get (aT 6) = some (.mp cs) := c
  unfold aVl
  rcases aYs s hcs with ⟨x, f1, f2⟩ | ⟨f1, f2⟩
  ·simp only [dL, fG, hc, f1, cond_false]
  ·simp only [dL, fG, hc, f1, cond_false]
   rfl
 simp only [g0, g1, oW, fld, aV, l3, lk]
end
end Go.Dd

namespace Go.Dd
open Go.Proofs
structure Wv (k : Nat) (h : Hp) (M : MemV) (R : List Int) (es : List (DV × DV)) (z : Prop := True) : Prop where
 K : Wk h M R es
 I : GI M R CLW z
 c : Wc h csW
 n : M.n = 30000
 fin : M.fin + k ≤ 30000
 md : M.made + k ≤ 700000
theorem Stay.mono {a b : Nat} {M M' : MemV} {R R' : List Int} {es es' : List (DV × DV)} (h : Stay a M M' R R' es es') (hab : a ≤ b) : Stay b M M' R R' es es' :=
 ⟨h.n, Nat.le_trans h.fin (by omega), Nat.le_trans h.made (by omega), h.lo, h.tx, h.at', h.r, h.fd, h.gi, h.old⟩
section
variable {h h' : Hp} {M M' : MemV} {R R' : List Int} {es es' : List (DV × DV)} {z : Prop}
theorem Wv.stay {k j : Nat} (V : Wv (j + k) h M R es) (K' : Wk h' M' R' es') (u : Up h h') (S : Stay j M M' R R' es es') : Wv k h' M' R' es' := by
 have h1 := S.n
 have h2 := S.fin
 have h3 := S.made
 have h4 := V.n
 have h5 := V.fin
 have h6 := V.md
 exact ⟨K', S.gi _ V.I, V.c.up V.K.W u, by omega, by omega, by omega⟩
theorem Wv.less {k j : Nat} (V : Wv j h M R es z) (hk : k ≤ j) : Wv k h M R es z := ⟨V.K, V.I, V.c, V.n, by have := V.fin; omega, by have := V.md; omega⟩
theorem Wk.up (K : Wk h M R es) (W' : Wd h' M R es) : Wk h' M R es := ⟨W', K.G, K.sy, K.r0, K.rk⟩
theorem Wv.up {k : Nat} (V : Wv k h M R es z) (W' : Wd h' M R es) (u : Up h h') : Wv k h' M R es z := ⟨V.K.up W', V.I, V.c.up V.K.W u, V.n, V.fin, V.md⟩
theorem Wv.new {k : Nat} (V : Wv k h M R es z) (o : Ob) : Up h ⟨h.next.succ, Tr.set o h.next h.bl⟩ ∧ Wv k ⟨h.next.succ, Tr.set o h.next h.bl⟩ M R es z := by
 obtain ⟨u, W⟩ := V.K.W.new o
 exact ⟨u, V.up W u⟩
theorem dBd : ∀ e ∈ csW, ∃ (k : List Nat) (x : Int), e = (.s k, iD x) := fun e he => by
 obtain ⟨x, _, h2⟩ := xK (clF ++ clW) e he
 exact ⟨x.1, _, h2⟩
theorem dFd : aVl csW [80, 111, 105, 110, 116] = 8714 := by kernel_rfl
theorem Wv.point {k : Nat} (V : Wv k h M R es z) (n : Nat) : eG (n + 1) 45 [.p (aT 7) 0, .s [80, 111, 105, 110, 116]] h = some (iD 8714, h) := by
 rw [V.K.W.classOfName V.c dBd, dFd]
theorem cIw : iA 8714 = 4357 := by kernel_rfl
theorem Wv.ptAt {k : Nat} (V : Wv k h M R es z) : cO 8714 M.pl ≠ 0 := by
 rw [atN_pos, cIw]
 exact ⟨by decide, (V.I.cl 4357 (by decide)).pl⟩
theorem Wv.ptNew {k : Nat} (V : Wv k h M R es) : ∀ CL, GI M R CL → NewI M R CL 0 8714 (List.replicate 2 0) := fun CL I => by
 have r3 := I.rk 1 (by omega)
 have r12 := I.rk 10 (by omega)
 have r13 := I.rk 11 (by omega)
 refine ⟨by decide, by omega, fun _ => rfl, fun q => ?_, fun q => (by cases q), fun q => ?_, fun c hc _ _ => ⟨rfl, fun v hv => List.eq_of_mem_replicate hv⟩⟩
 ·rcases q with q | q
  ·rw [r12] at q; cases q
  ·rw [r13] at q; cases q
 ·rw [r3] at q; cases q
end
end Go.Dd

namespace Go.Dd
open Go.Proofs
theorem iJ {a b : Int} (h : a ≠ b) : (a == b) = false := by simpa using h
theorem aMq (a : Int) (h : Hp) : aD .rem (.i .i64 a) (.i .i64 (Int.ofNat 10)) h = some (.i .i64 (a.tmod 10), h) := by simp only [aD, if_true, fJ]; rfl
theorem cMy (a b : Int) (h : Hp) (hr : -9223372036854775808 ≤ a * b ∧ a * b ≤ 9223372036854775807) : aD .mul (.i .i64 a) (.i .i64 b) h = some (.i .i64 (a * b), h) := by simp only [aD, if_true, fJ, gP _ hr]
theorem cJu (a : Nat) (ha : a < 1000) (h : Hp) : aD .quo (.i .i64 (a : Int)) (.i .i64 (Int.ofNat 2)) h = some (.i .i64 (Int.ofNat (a / 2)), h) := by
 have e : (a : Int).tdiv (Int.ofNat 2) = Int.ofNat (a / 2) := rfl
 simp only [aD, if_true, fJ, e]
 rw [if_neg (by decide), gP _ (by simp; omega)]
theorem bWc (s : List Nat) (k : Nat) (hk : k ≤ s.length) (h : Hp) : fB (.s s) none (some (.i .i64 (Int.ofNat k))) h = some (.s (s.take k), h) := by
 have e : hiD (some (.i .i64 (Int.ofNat k))) s.length s.length = some k := by
  show (if (0 : Int) ≤ Int.ofNat k ∧ Int.ofNat k ≤ (s.length : Int) then some (Int.ofNat k).toNat else none) = _
  rw [if_pos ⟨by simp, by simpa using hk⟩]
  rfl
 simp only [fB, e]
 rfl
theorem bQn (l : List Int) : ∀ v ∈ l.map iD, v.one = true := by
 intro v hv
 obtain ⟨c, _, rfl⟩ := List.mem_map.1 hv
 rfl
theorem cAd {x : DV} {l : List Int} {lo : Nat} {h : Hp} (hlo : 1031 ≤ lo) (S : GrS x (l.map iD) lo h) : SlI x l h := by
 rcases S with ⟨rfl, e⟩ | ⟨b, e, hb, h2, h3⟩
 ·refine .inl ⟨rfl, ?_⟩
  simpa using e
 ·exact .inr ⟨b, l.length, .gr 1, by rw [e]; simp, hb, .inr (by omega), h3⟩
theorem aMa {rec : FuncId → List DV → Hp → aH} {n lo : Nat} {x0 : DV} {N : Int} {c : Nat} (hN : N.tmod 10 = Int.ofNat c) (hc : c ≤ 9) : ∀ (r m : Nat) (l : List Int) (x : DV) (h : Hp), GrS x (l.map iD) lo h → lo ≤ h.next.toNat → l.length + r = c → r < m →
  ∃ (x' : DV) (h' : Hp) (l' : List Int), kQ rec n m x0 (iD N) x (.i .i64 (Int.ofNat l.length)) h = dN rec n x0 x' h' ∧ GrS x' (l'.map iD) lo h' ∧ Lo lo h h' ∧ l'.length = c
 | 0, m + 1, l, x, h, S, hlo, he, hm => by
  refine ⟨x, h, l, ?_, S, Lo.refl lo h, by omega⟩
  show lG rec n (kQ rec n m) _ _ _ _ h = _
  unfold lG
  have hl : decide (Int.ofNat l.length < Int.ofNat c) = false := by simp; omega
  simp only [iD, aMq, hN, cH, aV, hl, bX]
 | r + 1, m + 1, l, x, h, S, hlo, he, hm => by
  obtain ⟨y, g, e1, x', h', e2, S', L'⟩ := S.app hlo (bQn l) (z := .i .i64 (Int.ofNat 0)) (v := iD (Int.ofNat 2 * Int.ofNat l.length + Int.ofNat 1)) rfl rfl (bytes := 8) (by simp; unfold lL; omega)
  have S2 : GrS x' ((l ++ [Int.ofNat 2 * Int.ofNat l.length + Int.ofNat 1]).map iD) lo h' := by rw [List.map_append]; exact S'
  obtain ⟨x2, h2, l2, e3, S3, L3, hl3⟩ := aMa (rec := rec) (n := n) (x0 := x0) hN hc r m (l ++ [Int.ofNat 2 * Int.ofNat l.length + Int.ofNat 1]) x' h' S2 (Nat.le_trans hlo L'.next) (by simp; omega) (by omega)
  refine ⟨x2, h2, l2, ?_, S3, L'.trans L3, hl3⟩
  rw [← e3]
  show lG rec n (kQ rec n m) _ _ _ _ h = _
  unfold lG
  have hl1 : decide (Int.ofNat l.length < Int.ofNat c) = true := by simp; omega
  have hadd : aD .add (.i .i64 (Int.ofNat l.length)) (.i .i64 (Int.ofNat 1)) h' = some (.i .i64 (Int.ofNat (l ++ [Int.ofNat 2 * Int.ofNat l.length + Int.ofNat 1]).length), h') := by
   rw [iZ _ _ _ (by simp; omega)]
   simp
  simp only [iD] at e1 e2 ⊢
  simp only [aMq, hN, cH, aV, hl1, bT, cMy (Int.ofNat 2) (Int.ofNat l.length) h (by simp; omega), iZ (Int.ofNat 2 * Int.ofNat l.length) (Int.ofNat 1) h (by simp; omega), e1, e2, hadd]
section
variable {h : Hp} {M : MemV} {R : List Int} {es : List (DV × DV)}
noncomputable def knW (R : List Int) (i : Int) : Int := if 0 ≤ i ∧ i < 16 then R.getD (2 + i.toNat) 0 else 0
theorem Wd.knownA (W : Wd h M R es) (i : Int) (n : Nat) : eG (n + 1) 30 [.p (aT 7) 0, .i .i64 i] h = some (iD (knW R i), h) := by
 unfold knW
 by_cases hi : 0 ≤ i ∧ i < 16
 ·rw [if_pos hi]
  obtain ⟨j, rfl⟩ : ∃ j : Nat, i = Int.ofNat j := ⟨i.toNat, by simp; omega⟩
  exact W.known (by simp at hi; omega) n
 ·rw [if_neg hi, yZ 30 rfl, bRf]
  unfold s30
  by_cases h1 : i < 0
  ·have d1 : decide (i < Int.ofNat 0) = true := decide_eq_true (by simpa using h1)
   simp only [g0, g1, cH, d1, aV, fU, cY, bT]
   rfl
  ·have d1 : decide (i < Int.ofNat 0) = false := decide_eq_false (by simpa using h1)
   have d2 : decide (i ≥ Int.ofNat 16) = true := decide_eq_true (by simp; omega)
   simp only [g0, g1, cH, d1, aV, iF, mG, d2, cP, bT]
   rfl
def MadeP (k : Nat) (h : Hp) (M : MemV) (R : List Int) (es : List (DV × DV)) (r : aH) : Prop :=
 ∃ v h' M' R' es', r = some (iD v, h') ∧ Wv k h' M' R' es' ∧ Up h h' ∧ Stay 260 M M' R R' es es'
theorem MadeP.same {k : Nat} (V : Wv (260 + k) h M R es) (v : Int) : MadeP k h M R es (some (iD v, h)) :=
 ⟨v, h, M, R, es, rfl, V.less (by omega), Up.refl h, Stay.refl _ _ _ _⟩
theorem bOv {k : Nat} (V : Wv (260 + k) h M R es) (n : Int) {m : Nat} (hm : 300 < m) : ∃ a e h' M', eG (m + 2) 42 [.p (aT 7) 0, .i .i64 n] h = some (.t [iD a, iD e], h') ∧ Wv k h' M' R es ∧ Up h h' ∧ Stay 260 M M' R R es es := by
 have h4 := V.n
 have h5 := V.fin
 have h6 := V.md
 obtain ⟨a, e, h', M', e1, K', U, S, _⟩ := V.K.num (by omega) (by omega) n (k := m) (by omega)
 exact ⟨a, e, h', M', e1, V.stay K' U (S.mono (by omega)), U, S.mono (by omega)⟩
theorem bVj {k : Nat} (V : Wv (260 + k) h M R es) {s : List Nat} (hs : ∀ c ∈ s, c < 256) {m : Nat} (hm : 300 < m) : ∃ a e h' M', eG (m + 3) 43 [.p (aT 7) 0, .s s] h = some (.t [iD a, iD e], h') ∧ Wv k h' M' R es ∧ Up h h' ∧ Stay 260 M M' R R es es := by
 have h4 := V.n
 have h5 := V.fin
 have h6 := V.md
 obtain ⟨a, e, h', M', e1, K', U, S, _⟩ := V.K.string hs (by omega) (by omega) (n := m) hm
 exact ⟨a, e, h', M', e1, V.stay K' U S, U, S⟩
theorem bVh {k : Nat} (V : Wv (260 + k) h M R es) {s : List Nat} (hs : ∀ c ∈ s, c < 256) {m : Nat} (hm : 300 < m) : ∃ a e h' M' R' es', eG (m + 3) 44 [.p (aT 7) 0, .s s] h = some (.t [iD a, iD e], h') ∧ Wv k h' M' R' es' ∧ Up h h' ∧ Stay 260 M M' R R' es es' := by
 have h4 := V.n
 have h5 := V.fin
 have h6 := V.md
 obtain ⟨a, e, h', M', R', es', e1, K', U, S, _⟩ := V.K.symbol hs (by omega) (by omega) (n := m) hm
 exact ⟨a, e, h', M', R', es', e1, V.stay K' U (S.mono (by omega)), U, S.mono (by omega)⟩
theorem cAe {k : Nat} (V : Wv (260 + k) h M R es) {x : DV} {l : List Int} (S : SlI x l h) (hl : l.length ≤ 9) {m : Nat} (hm : 300 < m) : ∃ a e h' M', eG (m + 4) 46 [.p (aT 7) 0, x] h = some (.t [iD a, iD e], h') ∧ Wv k h' M' R es ∧ Up h h' ∧ Stay 260 M M' R R es es := by
 have h4 := V.n
 have h5 := V.fin
 have h6 := V.md
 obtain ⟨a, e, h', M', e1, K', U, A⟩ := V.K.array S (by omega) (by omega) (by omega) (n := m) (by omega)
 have S' : Stay 260 M M' R R es es := by
  rcases A with ⟨_, _, _, rfl⟩ | ⟨_, _, _, g⟩
  ·exact Stay.refl _ _ _ _
  ·exact (g.stay V.K.G R es fun CL I => I.newK (i := 9) (.inl ⟨rfl, rfl⟩) (by omega) (fun q => by cases q)).mono (by omega)
 exact ⟨a, e, h', M', e1, V.stay K' U S', U, S'⟩
theorem cHp {k : Nat} (V : Wv (260 + k) h M R es) : ∃ a e h' M', iO [.p (aT 3) 0, iD 8714, .i .i64 (.ofNat 0), .i .i64 (.ofNat 2)] h = some (.t [iD a, iD e], h') ∧ Wv k h' M' R es ∧ Up h h' ∧ Stay 260 M M' R R es es := by
 have h4 := V.n
 have h5 := V.fin
 have h6 := V.md
 obtain ⟨h', M', e1, K', U, g⟩ := V.K.make0 V.ptAt (f := 0) (c := 2) (by omega) (by omega) (by omega) (by omega)
 have S' : Stay 260 M M' R R es es := (g.stay V.K.G R es V.ptNew).mono (by simp)
 exact ⟨_, _, h', M', e1, V.stay K' U S', U, S'⟩
end
end Go.Dd

namespace Go.Dd
open Go.Proofs
section
variable {h : Hp} {M : MemV} {R : List Int} {es : List (DV × DV)} {k m : Nat} {b : Pos} {kd N : Int} {s0 s : List Nat}
theorem xA {b : Pos} {kd : Kind} {l : List DV} {h : Hp} (hb : h.bl.get b = some (.row kd l)) {i : Nat} {v : DV} (hi : l[i]? = some v) (hv : v.one = true) : aA (.p b i) h = some (v, h) := by
 simp only [aA, cellD, rowOf, hb, hi, hv, if_true]
def Tg (h : Hp) (b : Pos) (kd N : Int) (s : List Nat) : Prop := h.bl.get b = some (.row .ex [iD kd, iD N, .s s])
theorem Tg.l0 (T : Tg h b kd N s) : aA (.p b (0 + 0)) h = some (iD kd, h) := xA (i := 0 + 0) T rfl rfl
theorem Tg.l1 (T : Tg h b kd N s) : aA (.p b (0 + 1)) h = some (iD N, h) := xA (i := 0 + 1) T rfl rfl
theorem Tg.l2 (T : Tg h b kd N s) : aA (.p b (0 + 2)) h = some (.s s, h) := xA (i := 0 + 2) T rfl rfl
theorem dMy (a b : List Nat) (h : Hp) (hl : a.length + b.length < 100000) : fH .add (.s a) (.s b) h = some (.s (a ++ b), h) := by
 have : ¬ ((a.length + b.length : Nat) : Int) > IntKind.i64.max := by
  show ¬ ((a.length + b.length : Nat) : Int) > 9223372036854775807
  omega
 simp only [fH, aOg, if_neg this]
theorem cFj (V : Wv (260 + k) h M R es) (hs : ∀ c ∈ s, c < 256) (hl : s.length ≤ 250) (hm : 300 < m) : MadeP k h M R es (aFb (eG (m + 5)) (m + 5) (.p (aT 7) 0) (.s s) h) := by
 have fin : ∀ t : List Nat, (∀ c ∈ t, c < 256) → t.length ≤ 250 → MadeP k h M R es (qD (eG (m + 5)) (m + 5) (.p (aT 7) 0) (.s t) h) := fun t ht hlt => by
  obtain ⟨a, e, h', M', R', es', e1, V', U, S⟩ := bVh V (s := [115] ++ t.take (t.length / 2)) (fun c hc => by
   simp only [List.mem_append, List.mem_singleton] at hc
   rcases hc with rfl | hc
   ·decide
   ·exact ht c (List.mem_of_mem_take hc)) (m := m + 2) (by omega)
  refine ⟨a, h', M', R', es', ?_, V', U, S⟩
  unfold qD
  simp only [cNe, aV, cJu t.length (by omega) h, bWc t (t.length / 2) (by omega) h, dMy [115] (t.take (t.length / 2)) h (by rw [List.length_take]; simp; omega), e1, px0, px1]
 unfold aFb
 by_cases c1 : (s.length : Int) > Int.ofNat 60
 ·simp only [cNe, aV, fS, decide_eq_true c1, bT, bWc s 60 (by simp at c1; omega) h]
  exact fin _ (fun c hc => hs c (List.mem_of_mem_take hc)) (by rw [List.length_take]; omega)
 ·simp only [cNe, aV, fS, decide_eq_false c1, bX]
  exact fin _ hs hl
theorem cEx (V : Wv (260 + k) h M R es) (T : Tg h b kd N s) (hN : -9223372036854775808 ≤ N ∧ N ≤ 9223372036854775807) (hm : 300 < m) : MadeP k h M R es (aEy (eG (m + 5)) (m + 5) (.p (aT 7) 0) (.p b 0) h) := by
 have fin : ∀ n : Int, 0 ≤ n → MadeP k h M R es (qX (eG (m + 5)) (m + 5) (.p (aT 7) 0) (iD n) h) := fun n hn => by
  obtain ⟨j, rfl⟩ : ∃ j : Nat, n = Int.ofNat j := ⟨n.toNat, by simp; omega⟩
  have nx := V.K.W.nx
  obtain ⟨x', h1, l', e1, S1, L1, hl1⟩ := aMa (rec := eG (m + 5)) (n := m + 5) (lo := h.next.toNat) (x0 := .p (aT 7) 0) (N := Int.ofNat j) (c := j % 10) rfl (by omega) (j % 10) (m + 5) [] .l0 h (.inl ⟨rfl, rfl⟩) (Nat.le_refl _) (by simp) (by omega)
  have V1 := V.up (V.K.W.lo L1) L1.up
  obtain ⟨a, e, h', M', e2, V', U, S⟩ := cAe V1 (cAd nx S1) (by omega) (m := m + 1) (by omega)
  refine ⟨a, h', M', R, es, ?_, V', L1.up.trans U, S⟩
  unfold qX aBq aEd aRw
  refine Eq.trans e1 ?_
  unfold dN
  simp only [e2, aV, px0, px1]
 unfold aEy aFr
 simp only [fld, T.l1, aV]
 by_cases c1 : N < Int.ofNat 0
 ·have c2 : N < 0 := c1
  have en : ∀ h, gS .neg (.i .i64 (N + Int.ofNat 1)) h = some (.i .i64 (-(N + Int.ofNat 1)), h) := fun h => by
   have : IntKind.i64.wrap (0 - (N + Int.ofNat 1)) = 0 - (N + Int.ofNat 1) := gP _ (by simp; omega)
   simp only [gS, this]
   rw [Int.zero_sub]
  simp only [iD, cH, decide_eq_true c1, aV, bT, iZ N (Int.ofNat 1) h (by simp; omega), en]
  exact fin _ (by simp; omega)
 ·have c2 : ¬ N < 0 := c1
  simp only [iD, cH, decide_eq_false c1, aV, bX]
  exact fin _ (by omega)
theorem cQx (V : Wv (260 + k) h M R es) (T : Tg h b kd N s0) (hN : -9223372036854775808 ≤ N ∧ N ≤ 9223372036854775807) (hs : ∀ c ∈ s, c < 256) (hl : s.length ≤ 250) (hm : 300 < m) :
  MadeP k h M R es (zQ (eG (m + 5)) (m + 5) (.p (aT 7) 0) (.p b 0) (.s s) h) := by
 unfold zQ aVq
 simp only [fld, T.l0, aV]
 by_cases c0 : kd = 0
 ·subst c0
  obtain ⟨a, e, h', M', e1, V', U, S⟩ := bOv V N (m := m + 3) (by omega)
  refine ⟨a, h', M', R, es, ?_, V', U, S⟩
  unfold aLg
  simp only [iD, cU, beq_self_eq_true, aV, bT, show ((0 : Int) == Int.ofNat 0) = true from rfl, fld]
  rw [T.l1]
  simp only [aV]
  rw [e1]
  simp only [aV, px0, px1, iD]
 have d0 : (kd == Int.ofNat 0) = false := iJ c0
 unfold aLg bVk
 by_cases c1 : kd = 1
 ·subst c1
  obtain ⟨a, e, h', M', e1, V', U, S⟩ := bVj V hs (m := m + 2) (by omega)
  refine ⟨a, h', M', R, es, ?_, V', U, S⟩
  unfold aKs
  simp only [iD, cU, aV, bX, bT, d0, show ((1 : Int) == Int.ofNat 1) = true from rfl]
  rw [e1]
  simp only [aV, px0, px1, iD]
 have d1 : (kd == Int.ofNat 1) = false := iJ c1
 unfold aKs bIa
 by_cases c2 : kd = 2
 ·subst c2
  have := cFj V hs hl hm
  unfold uW
  simp only [iD, cU, aV, bX, bT, d0, d1, show ((2 : Int) == Int.ofNat 2) = true from rfl]
  exact this
 have d2 : (kd == Int.ofNat 2) = false := iJ c2
 unfold uW aTv
 by_cases c3 : kd = 3
 ·subst c3
  have := cEx V T hN hm
  unfold wB
  simp only [iD, cU, aV, bX, bT, d0, d1, d2, show ((3 : Int) == Int.ofNat 3) = true from rfl]
  exact this
 have d3 : (kd == Int.ofNat 3) = false := iJ c3
 unfold wB
 by_cases c4 : kd = 4
 ·subst c4
  obtain ⟨a, e, h', M', e1, V', U, S⟩ := cHp V
  refine ⟨a, h', M', R, es, ?_, V', U, S⟩
  have em := V.K.W.memory (m + 4)
  have ep := V.point (m + 4)
  simp only [iD, cU, aV, bX, bT, d0, d1, d2, d3, show ((4 : Int) == Int.ofNat 4) = true from rfl, em]
  rw [ep]
  simp only [aV]
  rw [e1]
  simp only [aV, px0, px1, iD]
 have d4 : (kd == Int.ofNat 4) = false := iJ c4
 by_cases c5 : kd = 5
 ·subst c5
  have ep := V.point (m + 4)
  by_cases c16 : N = 16
  ·subst c16
   have : MadeP k h M R es (some (iD 8714, h)) := .same V _
   simp only [iD, cU, aV, bX, bT, d0, d1, d2, d3, d4, show ((5 : Int) == Int.ofNat 5) = true from rfl, fld]
   rw [T.l1]
   simp only [iD, cU, aV, bX, bT, show ((16 : Int) == Int.ofNat 16) = true from rfl]
   rw [ep]
   exact this
  ·have : MadeP k h M R es (some (iD (knW R N), h)) := .same V _
   have ek := V.K.W.knownA N (m + 4)
   simp only [iD, cU, aV, bX, bT, d0, d1, d2, d3, d4, show ((5 : Int) == Int.ofNat 5) = true from rfl, fld]
   have t1 : aA (.p b (0 + 1)) h = some (.i .i64 N, h) := T.l1
   simp only [t1, iD, cU, aV, bX, bT, show (N == Int.ofNat 16) = false from iJ c16]
   rw [ek]
   exact this
 have d5 : (kd == Int.ofNat 5) = false := iJ c5
 have t1 : aA (.p b (0 + 1)) h = some (.i .i64 N, h) := T.l1
 by_cases c6 : kd = 6
 ·subst c6
  simp only [iD, cU, aV, bX, bT, d0, d1, d2, d3, d4, d5, show ((6 : Int) == Int.ofNat 6) = true from rfl]
  exact .same V _
 have d6 : (kd == Int.ofNat 6) = false := iJ c6
 by_cases c7 : kd = 7
 ·subst c7
  simp only [iD, cU, aV, bX, bT, d0, d1, d2, d3, d4, d5, d6, show ((7 : Int) == Int.ofNat 7) = true from rfl]
  exact .same V _
 have d7 : (kd == Int.ofNat 7) = false := iJ c7
 by_cases c8 : kd = 8
 ·subst c8
  simp only [iD, cU, aV, bX, bT, d0, d1, d2, d3, d4, d5, d6, d7, show ((8 : Int) == Int.ofNat 8) = true from rfl]
  exact .same V _
 have d8 : (kd == Int.ofNat 8) = false := iJ c8
 unfold aY
 simp only [iD, cU, aV, bX, bT, d0, d1, d2, d3, d4, d5, d6, d7, d8, fld, t1]
 exact .same V _
theorem aWf (V : Wv (260 + k) h M R es) (kd : Int) (hN : -9223372036854775808 ≤ N ∧ N ≤ 9223372036854775807) (hs : ∀ c ∈ s, c < 256) (hm : 300 < m) :
  MadeP k h M R es (eG (m + 6) 14 [.p (aT 7) 0, .a [iD kd, iD N, .s s]] h) := by
 obtain ⟨U1, V1⟩ := V.new (.row .ex [iD kd, iD N, .s s])
 obtain ⟨h1, hh1⟩ : ∃ h1 : Hp, (⟨h.next.succ, Tr.set (.row .ex [iD kd, iD N, .s s]) h.next h.bl⟩ : Hp) = h1 := ⟨_, rfl⟩
 rw [hh1] at U1 V1
 have eb : bQ (.a [iD kd, iD N, .s s]) h = some (.p h.next 0, h1) := by rw [← hh1]; rfl
 have T : Tg h1 h.next kd N s := by rw [← hh1]; exact dQw _ _ _
 have up : ∀ r, MadeP k h1 M R es r → MadeP k h M R es r := fun r ⟨v, h', M', R', es', e, V', U, S⟩ => ⟨v, h', M', R', es', e, V', U1.trans U, S⟩
 rw [yZ 14 rfl, cQl]
 unfold s14 zS aYm
 simp only [g0, g1, eb, aV, fld, T.l2, cNe, fS]
 apply up
 by_cases c1 : (s.length : Int) > Int.ofNat 250
 ·simp only [decide_eq_true c1, bT, bWc s 250 (by simp at c1; omega) h1, aV]
  exact cQx V1 T hN (fun c hc => hs c (List.mem_of_mem_take hc)) (by rw [List.length_take]; omega) hm
 ·simp only [decide_eq_false c1, bX]
  exact cQx V1 T hN hs (by simp at c1; omega) hm
end
end Go.Dd

namespace Go.Dd
open Go.Proofs
def jG (n : Int) : Int :=
 if n = 11 ∨ n = 22 ∨ n = 23 ∨ n = 40 ∨ n = 41 then 0
 else if n = 1 ∨ n = 2 ∨ n = 3 ∨ n = 4 ∨ n = 5 ∨ n = 6 ∨ n = 7 ∨ n = 10 ∨ n = 20 ∨ n = 24 ∨ n = 25 ∨ n = 26 ∨ n = 50 then 1
 else if n = 21 ∨ n = 51 then 2 else -1
theorem aZk (n : Int) (m : Nat) (h : Hp) : eG (m + 1) 39 [iD n] h = some (iD (jG n), h) := by
 rw [yZ 39 rfl, cQo]
 by_cases q : n = 11 ∨ n = 22 ∨ n = 23 ∨ n = 40 ∨ n = 41 ∨ n = 1 ∨ n = 2 ∨ n = 3 ∨ n = 4 ∨ n = 5 ∨ n = 6 ∨ n = 7 ∨ n = 10 ∨ n = 20 ∨ n = 24 ∨ n = 25 ∨ n = 26 ∨ n = 50 ∨ n = 21 ∨ n = 51
 ·rcases q with q | q | q | q | q | q | q | q | q | q | q | q | q | q | q | q | q | q | q | q <;> subst q <;> rfl
 ·have e : jG n = -1 := by
   unfold jG
   rw [if_neg (by omega), if_neg (by omega), if_neg (by omega)]
  rw [e]
  unfold s39 aUj aYu rP bIb iP bMk aMs cM
  simp only [g0, iD, cU, aV, iJ (show n ≠ Int.ofNat 11 by simp; omega), iJ (show n ≠ Int.ofNat 22 by simp; omega), iJ (show n ≠ Int.ofNat 23 by simp; omega), iJ (show n ≠ Int.ofNat 40 by simp; omega), iJ (show n ≠ Int.ofNat 41 by simp; omega),
   iJ (show n ≠ Int.ofNat 1 by simp; omega), iJ (show n ≠ Int.ofNat 2 by simp; omega), iJ (show n ≠ Int.ofNat 3 by simp; omega), iJ (show n ≠ Int.ofNat 4 by simp; omega), iJ (show n ≠ Int.ofNat 5 by simp; omega), iJ (show n ≠ Int.ofNat 6 by simp; omega), iJ (show n ≠ Int.ofNat 7 by simp; omega),
   iJ (show n ≠ Int.ofNat 10 by simp; omega), iJ (show n ≠ Int.ofNat 20 by simp; omega), iJ (show n ≠ Int.ofNat 24 by simp; omega), iJ (show n ≠ Int.ofNat 25 by simp; omega), iJ (show n ≠ Int.ofNat 26 by simp; omega), iJ (show n ≠ Int.ofNat 50 by simp; omega), iJ (show n ≠ Int.ofNat 21 by simp; omega), iJ (show n ≠ Int.ofNat 51 by simp; omega), bX]
  rfl
section
variable {h : Hp} {M : MemV} {R : List Int} {es : List (DV × DV)}
theorem cNk {x f : DV} {l : List Int} (S : SlI x l h) {p : Int → Bool} {n : Nat} (hc : ∀ v, cV CF (eG n) f [iD v] h = some (.b (p v), h)) (hl : l.length ≤ 256) : ∀ (k i m : Nat), k + i = l.length → k < m →
  ∃ r : Int, iK (eG n) n m x f (iD l.length) (.i .i64 (Int.ofNat i)) h = some (iD r, h) ∧ (decide (r ≥ Int.ofNat 0) = (l.drop i).any p) := by
 intro k
 induction k with
 | zero =>
  intro i m he hm
  obtain ⟨m, rfl⟩ : ∃ m', m = m' + 1 := ⟨m - 1, by omega⟩
  refine ⟨-1, ?_, ?_⟩
  ·show gI (eG n) n (iK (eG n) n m) _ _ _ _ h = _
   unfold gI
   have d : decide (Int.ofNat i < (l.length : Int)) = false := decide_eq_false (by simp; omega)
   simp only [cH, d, aV, bX]
   rfl
  ·rw [List.drop_eq_nil_of_le (by omega)]
   rfl
 | succ k ih =>
  intro i m he hm
  obtain ⟨m, rfl⟩ : ∃ m', m = m' + 1 := ⟨m - 1, by omega⟩
  have hi : i < l.length := by omega
  have hv : l[i]? = some l[i] := List.getElem?_eq_getElem hi
  obtain ⟨a, e1, e2⟩ := S.at hv
  obtain ⟨r, q1, q2⟩ := ih (i + 1) m (by omega) (by omega)
  have d : decide (Int.ofNat i < (l.length : Int)) = true := decide_eq_true (by simp; omega)
  have hc := hc l[i]
  have ha : aD .add (.i .i64 (Int.ofNat i)) (.i .i64 (Int.ofNat 1)) h = some (.i .i64 (Int.ofNat (i + 1)), h) := gO i 1 h (by omega)
  rw [aKz hv]
  cases hmay : p l[i] with
  | true =>
   refine ⟨Int.ofNat i, ?_, by simp⟩
   show gI (eG n) n (iK (eG n) n m) _ _ _ _ h = _
   unfold gI
   rw [hmay] at hc
   simp only [cH, d, aV, bT, e1, e2, hc]
  | false =>
   refine ⟨r, ?_, by rw [q2]; rfl⟩
   show gI (eG n) n (iK (eG n) n m) _ _ _ _ h = _
   unfold gI
   rw [hmay] at hc
   simp only [cH, d, aV, bT, e1, e2, hc, bX, ha]
   exact q1
theorem dMr {x f : DV} {l : List Int} (S : SlI x l h) {p : Int → Bool} {n : Nat} (hc : ∀ v, cV CF (eG n) f [iD v] h = some (.b (p v), h)) (hl : l.length ≤ 256) (hn : 256 < n) : eG (n + 2) 52 [x, f] h = some (.b (l.any p), h) := by
 rw [yZ 52 rfl, bSh]
 unfold s52
 obtain ⟨r, q1, q2⟩ := cNk S (p := p) (n := n) hc hl l.length 0 n (by omega) (by omega)
 have e : eG (n + 1) 89 [x, f] h = some (iD r, h) := by
  rw [yZ 89 rfl, bOl]
  unfold s89 aMj aLp aVe
  simp only [g0, g1, S.len (h' := h), aV]
  exact q1
 simp only [g0, g1, e, aV, mG, q2, List.drop_zero]
def aYl (M : MemV) (n r : Int) (l : List Int) : Prop := jG n ≠ (l.length : Int) ∨ eI r M.pl = false ∨ ∃ v ∈ l, eI v M.pl = false
theorem cMm {k : Nat} {z : Prop} (V : Wv k h M R es z) {x : DV} {l : List Int} (S : SlI x l h) (hl : l.length ≤ 256) (n r : Int) {m : Nat} (hm : 300 < m) :
  ∃ h1, Wv k h1 M R es z ∧ Up h h1 ∧ ((aYl M n r l ∧ eG (m + 4) 16 [.p (aT 7) 0, iD n, iD r, x] h = some (.t [iD 0, iD 20], h1)) ∨
   (¬ aYl M n r l ∧ eG (m + 4) 16 [.p (aT 7) 0, iD n, iD r, x] h = aMr (eG (m + 3)) (m + 3) (.p (aT 7) 0) (iD n) (iD r) x h1)) := by
 obtain ⟨h1, hh1⟩ : ∃ h1 : Hp, (⟨h.next.succ, Tr.set (.row .ex [.p (aT 3) 0]) h.next (Tr.set (.row .ex [.p0]) h.next h.bl)⟩ : Hp) = h1 := ⟨_, rfl⟩
 have ns := dQy h.next
 have nx := V.K.W.nx
 have oth : ∀ b : Pos, b ≠ h.next → h1.bl.get b = h.bl.get b := fun b hb => by
  rw [← hh1]
  show (Tr.set _ _ (Tr.set _ _ _)).get b = _
  rw [dQv _ _ _ _ hb, dQv _ _ _ _ hb]
 have U1 : Up h h1 := ⟨by rw [← hh1]; show _ ≤ h.next.succ.toNat; omega, fun b _ hb => oth b fun e => by subst e; omega⟩
 have V1 : Wv k h1 M R es z := V.up (V.K.W.up U1 fun b hb => oth b fun e => by subst e; omega) U1
 have hg : h1.bl.get h.next = some (.row .ex [.p (aT 3) 0]) := by rw [← hh1]; exact dQw _ _ _
 have e1 : bL [.p0] h = some (.p h.next 0, ⟨h.next.succ, Tr.set (.row .ex [.p0]) h.next h.bl⟩) := rfl
 have e2 : aG 1 (.p h.next 0) (.p (aT 3) 0) ⟨h.next.succ, Tr.set (.row .ex [.p0]) h.next h.bl⟩ = some (aW, h1) := by
  rw [← hh1]
  simp only [aG, dO, dD, dQw]
  rfl
 have ld : aA (.p h.next 0) h1 = some (.p (aT 3) 0, h1) := xA hg rfl rfl
 have S1 := S.up U1
 have em := V.K.W.memory (m + 2)
 have ea := aZk n (m + 2) h1
 have el : bV x h1 = some (iD (l.length : Int), h1) := S1.len
 have ef : eG (m + 3) 54 [] h1 = some (.t [iD 0, iD 20], h1) := by rw [yZ 54 rfl, cRc]; rfl
 have hc : ∀ v, cV CF (eG (m + 1)) (.f 53 [] [.p h.next 0]) [iD v] h1 = some (.b (!(eI v M.pl)), h1) := fun v => by
  rw [pcf rfl]
  simp only [List.nil_append, List.singleton_append]
  rw [yZ 53 rfl, cQt]
  unfold s53
  simp only [g0, g1, ld, aV, V1.K.W.may, kI]
 have ec := dMr S1 (p := fun v => !(eI v M.pl)) (n := m + 1) hc hl (by omega)
 refine ⟨h1, V1, U1, ?_⟩
 rw [yZ 16 rfl, cRg]
 unfold s16 aMv aAc
 simp only [g0, g1, g2, g3, em, aV, e1, e2]
 by_cases c1 : jG n = (l.length : Int)
 ·have d1 : (jG n != (l.length : Int)) = false := by simpa using c1
  cases hr : eI r M.pl with
  | false =>
   refine .inl ⟨.inr (.inl hr), ?_⟩
   simp only [iD] at ea el ef ⊢
   simp only [ea, el, aV, iI, d1, iF, ld, V1.K.W.may, hr, kI, Bool.not_false, cP, fU, cY, bT, ef, px0, px1]
  | true =>
   cases hq : l.any (fun v => !(eI v M.pl)) with
   | true =>
    rw [hq] at ec
    obtain ⟨v, hv, hv2⟩ := List.any_eq_true.1 hq
    refine .inl ⟨.inr (.inr ⟨v, hv, by simpa using hv2⟩), ?_⟩
    simp only [iD] at ea el ef ⊢
    simp only [ea, el, aV, iI, d1, iF, ld, V1.K.W.may, hr, kI, Bool.not_true, cP, ec, bT, ef, px0, px1]
   | false =>
    rw [hq] at ec
    refine .inr ⟨fun q => ?_, ?_⟩
    ·rcases q with q | q | ⟨v, hv, hv2⟩
     ·exact q c1
     ·rw [hr] at q; cases q
     ·have : l.any (fun v => !(eI v M.pl)) = true := List.any_eq_true.2 ⟨v, hv, by rw [hv2]; rfl⟩
      rw [this] at hq
      cases hq
    ·simp only [iD] at ea el ef ⊢
     simp only [ea, el, aV, iI, d1, iF, ld, V1.K.W.may, hr, kI, Bool.not_true, cP, ec, bX]
 ·have d1 : (jG n != (l.length : Int)) = true := by simpa using c1
  refine .inl ⟨.inl c1, ?_⟩
  simp only [iD] at ea el ef ⊢
  simp only [ea, el, aV, iI, d1, fU, cJh, cY, bT, ef, px0, px1]
end
end Go.Dd

namespace Go.Dd
open Go.Proofs
theorem zT (T T' : Tr Ob) : ∀ (l : List (Pos × Ob)) (b : Pos), (∃ e ∈ l, e.1 = b) → (eR l T).get b = (eR l T').get b
 | [], b, h => by obtain ⟨e, he, _⟩ := h; cases he
 | x :: l, b, h => by
  show (Tr.set x.2 x.1 (eR l T)).get b = (Tr.set x.2 x.1 (eR l T')).get b
  by_cases e : b = x.1
  ·subst e
   rw [dQw, dQw]
  ·rw [dQv _ _ _ _ e, dQv _ _ _ _ e]
   obtain ⟨y, hy, hb⟩ := h
   simp only [List.mem_cons] at hy
   rcases hy with rfl | hy
   ·exact absurd hb.symm e
   ·exact zT T T' l b ⟨y, hy, hb⟩
theorem aMy (T : Tr Ob) : ∀ (l : List (Pos × Ob)) (b : Pos), (∀ e ∈ l, e.1 ≠ b) → (eR l T).get b = T.get b
 | [], b, h => rfl
 | x :: l, b, h => by
  show (Tr.set x.2 x.1 (eR l T)).get b = _
  rw [dQv _ _ _ _ (fun e => h x (by simp) e.symm)]
  exact aMy T l b fun e he => h e (by simp [he])
noncomputable def hWo (h : Hp) : Hp := ⟨aT nxW, eR HLW h.bl⟩
theorem dEt : hW.bl = eR HLW .e := by kernel_rfl
theorem aMf : HLW.map (·.1) = [aT 7, aT 6, aT 5, aT 4, aT 3, aT 2, aT 1] := rfl
theorem nZ (h : Hp) (i : Nat) (hi : i = 1 ∨ i = 2 ∨ i = 3 ∨ i = 4 ∨ i = 5 ∨ i = 6 ∨ i = 7) : (hWo h).bl.get (aT i) = hW.bl.get (aT i) := by
 rw [dEt]
 show (eR HLW h.bl).get (aT i) = _
 refine zT h.bl .e HLW (aT i) ?_
 have : aT i ∈ HLW.map (·.1) := by
  rw [aMf]
  rcases hi with rfl | rfl | rfl | rfl | rfl | rfl | rfl <;> simp
 obtain ⟨e, he, h2⟩ := List.mem_map.1 this
 exact ⟨e, he, h2⟩
theorem bOx (h : Hp) (b : Pos) (hb : b.toNat < 1024) : (hWo h).bl.get b = h.bl.get b := by
 show (eR HLW h.bl).get b = _
 refine aMy h.bl HLW b fun e he q => ?_
 have : e.1 ∈ HLW.map (·.1) := List.mem_map.2 ⟨e, he, rfl⟩
 rw [aMf, q] at this
 simp only [List.mem_cons, List.not_mem_nil, or_false] at this
 rcases this with e | e | e | e | e | e | e <;> subst e
 ·rw [pn7] at hb; omega
 ·rw [pn6] at hb; omega
 ·rw [pn5] at hb; omega
 ·rw [pn4] at hb; omega
 ·rw [pn3] at hb; omega
 ·rw [pn2] at hb; omega
 ·rw [pn1] at hb; omega
theorem WNo (h : Hp) : Wd (hWo h) MN RN esN := by
 have W := WN
 obtain ⟨m1, m2, m3, m4, m5, m6⟩ := iG W.mem
 refine ⟨by rw [nZ h 7 (by simp)]; exact W.w, by rw [nZ h 4 (by simp)]; exact W.r, W.rl, by rw [nZ h 5 (by simp)]; exact W.sy, ?_, W.nx, W.wb, W.pb⟩
 refine kV (by rw [nZ h 3 (by simp)]; exact m1) ?_ ?_ m4 m5 m6
 ·rw [W.wb] at m2 ⊢
  rw [nZ h 1 (by simp)]; exact m2
 ·rw [W.pb] at m3 ⊢
  rw [nZ h 2 (by simp)]; exact m3
theorem WvN (h : Hp) : Wv 20000 (hWo h) MN RN esN where
 K := ⟨WNo h, GN, KN.sy, KN.r0, KN.rk⟩
 I := GIN
 c := by
  unfold Wc
  rw [nZ h 6 (by simp)]
  kernel_rfl
 n := rfl
 fin := by show 4371 + 20000 ≤ 30000; omega
 md := by show 592 + 20000 ≤ 700000; omega
theorem bYk (h : Hp) (hn : kY h.next (aT 1) = true) : iR 12 [] h = some (.p (aT 7) 0, hWo h) := by
 have e1 : Nat.beq 12 13 = false := rfl
 have e2 : Nat.beq 12 12 = true := rfl
 have e3 : aUn [] = true := rfl
 unfold iR vA aTl uO hWo
 rw [e1, cond_false, e2, cond_true, e3, hn, Bool.and_self, cond_true]
theorem bSn (h : Hp) : iR 13 [] h = some (.b true, h) := rfl
theorem oO {g : FuncId} (h1 : Nat.beq g 13 = false) (h2 : Nat.beq g 12 = false) (args : List DV) (h : Hp) : iR g args h = eG 900 g args h := by
 unfold iR
 rw [h1, cond_false, aWc, h2, cond_false]
end Go.Dd

namespace Go.Dd
open Go.Proofs
section
variable {h : Hp} {M : MemV} {R : List Int} {es : List (DV × DV)} {k : Nat} {b : Pos} {n r : Int} {x : DV} {l : List Int}
end
end Go.Dd

namespace Go.Dd
open Go.Proofs
section
variable {h : Hp} {M : MemV} {R : List Int} {es : List (DV × DV)} {k : Nat} {b : Pos} {n r : Int} {x : DV} {l : List Int}
end
end Go.Dd

namespace Go.Dd
open Go.Proofs
def pK (k : Nat) : Pos := dIf 24 k
theorem bRl : (pK 1022).toNat = 1022 := by kernel_rfl
theorem bQc : (pK 1023).toNat = 1023 := by kernel_rfl
theorem cYr : (pK 1022).succ = pK 1023 := by kernel_rfl
theorem cZr : (pK 1023).succ = aT 1 := by kernel_rfl
abbrev th (kd N : Int) (s : List Nat) : DV := .a [iD kd, iD N, .s s]
def i64 (N : Int) : Prop := -9223372036854775808 ≤ N ∧ N ≤ 9223372036854775807
def byS (s : List Nat) : Prop := ∀ c ∈ s, c < 256
theorem dHq (kd N : Int) (s : List Nat) (h : Hp) : bQ (th kd N s) h = some (.p h.next 0, ⟨h.next.succ, Tr.set (.row .ex [iD kd, iD N, .s s]) h.next h.bl⟩) := rfl
section
variable {h h' : Hp} {M : MemV} {R : List Int} {es : List (DV × DV)} {k : Nat} {z : Prop} {b : Pos} {kd N : Int} {s : List Nat}
theorem Tg.ld (T : Tg h b kd N s) : aK 3 (.p b 0) h = some (th kd N s, h) := by
 have e : h.bl.get b = some (.row .ex [iD kd, iD N, .s s]) := T
 simp [aK, cellsAt, rowOf, e, kD, DV.one]
theorem dSj (T : Tg h b kd N s) (hb : b.toNat < 1024) : Tg (hWo h) b kd N s := by
 unfold Tg
 rw [bOx h b hb]
 exact T
theorem pE0 (t : TypeId) (h : Hp) : pEq (.pointer t) true (.p (aT 7) 0) .p0 h = some (.b false, h) := Eq.trans rfl rfl
end
theorem aXk (args : List DV) (h : Hp) : iR 14 args h = eG (894 + 6) 14 args h := oO rfl rfl args h
theorem cPc (args : List DV) (h : Hp) : iR 16 args h = eG (896 + 4) 16 args h := oO rfl rfl args h
theorem cHh (args : List DV) (h : Hp) : iR 23 args h = eG (899 + 1) 23 args h := oO rfl rfl args h
theorem cBl (args : List DV) (h : Hp) : iR 39 args h = eG (899 + 1) 39 args h := oO rfl rfl args h
end Go.Dd

namespace Go.Dd
open Go.Proofs
theorem bTi {P : Program} {W : World} {base : Nat} {t : TypeId} {v : Value} {fs : Array Field} (ht : P.underlying t = some (.struct fs)) (h : Value.okWide P W .any base t v) : ∃ cs, v = .agg cs := by
 unfold Value.okWide at h
 rw [ht] at h
 obtain ⟨cs, e, _⟩ := h
 exact ⟨cs, e⟩
theorem aJh : Tryz.prog.cellsOf 23 = 3 := by kernel_rfl
theorem bJr : Tryz.prog.cellsOf 3 = 1 := by kernel_rfl
theorem cAf : Tryz.prog.cellsOf 9 = 1 := by kernel_rfl
section
variable {H : Type} {enc : TypeId × Value → H} {W : World} {base b0 : Nat} {sp : Nat → Bool} {held : Bool}
theorem uZ {n : Nat} {cs : List Value} {x : DataW H × List MemPlace} (h : DataW.trod enc Tryz.prog W base sp held n 23 cs = some x) :
  ∃ (kd N : Int) (s : ByteArray), cs = [.int .i64 kd, .int .i64 N, .string s] ∧ x = (.agg [.lit (.int .i64 kd), .lit (.int .i64 N), .lit (.string s.data.toList)], []) ∧ (Lit.int .i64 kd).wf = true ∧ (Lit.int .i64 N).wf = true ∧ s.size ≤ maxLen := by
 obtain ⟨xs, n, rfl, hx, hl, hs, hf⟩ := DataW.trod_struct Tryz.underlying23 h
 rw [aJh] at hl
 match cs, hl with
 | [a, b, c], _ =>
  have hs : xs.length = 3 := hs
  match xs, hs with
  | [x0, x1, x2], _ =>
   have f0 := hf 0 _ rfl
   have f1 := hf 1 _ rfl
   have f2 := hf 2 _ rfl
   change DataW.trod enc Tryz.prog W base sp held n 3 (List.take (Tryz.prog.cellsOf 3) [a, b, c]) = some x0 at f0
   change DataW.trod enc Tryz.prog W base sp held n 3 (List.take (Tryz.prog.cellsOf 3) [b, c]) = some x1 at f1
   change DataW.trod enc Tryz.prog W base sp held n 9 (List.take (Tryz.prog.cellsOf 9) [c]) = some x2 at f2
   rw [bJr] at f0 f1
   rw [cAf] at f2
   obtain ⟨kd, e0, q0, w0⟩ := DataW.trod_int Tryz.underlying3 f0
   obtain ⟨N, e1, q1, w1⟩ := DataW.trod_int Tryz.underlying3 f1
   obtain ⟨s, e2, q2, w2⟩ := DataW.trod_string Tryz.underlying9 f2
   simp only [List.take, List.cons.injEq, and_true] at e0 e1 e2
   subst e0 e1 e2
   refine ⟨kd, N, s, rfl, ?_, w0, w1, w2⟩
   rw [hx, q0, q1, q2]
   rfl
theorem aSc {kd N : Int} {s : ByteArray} (w0 : (Lit.int .i64 kd).wf = true) (w1 : (Lit.int .i64 N).wf = true) (w2 : s.size ≤ maxLen) (n : Nat) :
  DataW.trod enc Tryz.prog W base sp held (n + 2) 23 [.int .i64 kd, .int .i64 N, .string s] = some (.agg [.lit (.int .i64 kd), .lit (.int .i64 N), .lit (.string s.data.toList)], []) := by
 have t0 : DataW.trod enc Tryz.prog W base sp held (n + 1) 3 [.int .i64 kd] = some (.lit (.int .i64 kd), []) := by
  rw [DataW.trod_step]; unfold DataW.trodStep; rw [Tryz.underlying3]; simp [w0]
 have t1 : DataW.trod enc Tryz.prog W base sp held (n + 1) 3 [.int .i64 N] = some (.lit (.int .i64 N), []) := by
  rw [DataW.trod_step]; unfold DataW.trodStep; rw [Tryz.underlying3]; simp [w1]
 have t2 : DataW.trod enc Tryz.prog W base sp held (n + 1) 9 [.string s] = some (.lit (.string s.data.toList), []) := by
  rw [DataW.trod_step]; unfold DataW.trodStep; rw [Tryz.underlying9]; simp [w2]
 rw [DataW.trod_step]; unfold DataW.trodStep; rw [Tryz.underlying23]
 simp [aJh, bJr, cAf, t0, t1, t2]
theorem aPi {v : Value} {d : DataW H} {ps : List MemPlace} (hval : Value.okWide Tryz.prog W .any b0 23 v) (hd : DataW.Trod enc Tryz.prog W base sp held 23 v d ps) :
  ∃ (kd N : Int) (s : ByteArray), v = .agg #[.int .i64 kd, .int .i64 N, .string s] ∧ ps = [] ∧ (Lit.int .i64 N).wf = true ∧ ∀ (W' : World) (base' : Nat) (sp' : Nat → Bool), DataW.Trod enc Tryz.prog W' base' sp' held 23 (.agg #[.int .i64 kd, .int .i64 N, .string s]) d [] := by
 obtain ⟨cs, rfl⟩ := bTi Tryz.underlying23 hval
 obtain ⟨n, hf⟩ := hd
 have hf : DataW.trod enc Tryz.prog W base sp held n 23 cs.toList = some (d, ps) := hf
 obtain ⟨kd, N, s, e, ex, w0, w1, w2⟩ := uZ hf
 have ecs : cs = #[.int .i64 kd, .int .i64 N, .string s] := by
  apply Array.toList_inj.1
  exact e
 cases ex
 exact ⟨kd, N, s, by rw [ecs], rfl, w1, fun W' base' sp' => ⟨2, aSc w0 w1 w2 0⟩⟩
end
theorem bHh {n : Int} (w : (Lit.int .i64 n).wf = true) : i64 n := Go.bounds_i64 w
theorem bRm {ρ : cZ} (kd N : Int) (s : ByteArray) : VR ρ (th kd N (s.data.toList.map (·.toNat))) (.agg #[.int .i64 kd, .int .i64 N, .string s]) :=
 .a _ _ (.cons _ _ _ _ (.i _ _) (.cons _ _ _ _ (.i _ _) (.cons _ _ _ _ (.s _ _ rfl) .nil)))
end Go.Dd

namespace Go.Dd
open Go.Proofs
section
variable {h h' : Hp} {M M' : MemV} {R R' : List Int} {es es' : List (DV × DV)} {k : Nat} {z : Prop} {CL : List Nat}
end
end Go.Dd

namespace Go.Dd
open Go.Proofs
section
variable {h h' : Hp} {M M' : MemV} {R R' : List Int} {es es' : List (DV × DV)} {k : Nat} {z : Prop} {CL : List Nat}
end
end Go.Dd

namespace Go.Dd
open Go.Proofs
section
variable {h h' : Hp} {M M' : MemV} {R R' : List Int} {es es' : List (DV × DV)} {k : Nat} {z : Prop} {CL : List Nat} {b : Pos} {n r : Int} {x : DV}
end
theorem aYz (p : Pos) (o : Ob) (T : Tr Ob) (nx : Pos) : (⟨nx, Tr.set o p T⟩ : Hp).bl.get p = some o := dQw _ _ _
theorem eqX {a b : Int} (h : a = b) : (a == b) = true := by rw [h]; exact beq_self_eq_true b
end Go.Dd

namespace Go.Dd
open Go.Proofs
theorem neF {a b : Int} (h : a = b) : (a != b) = false := by simpa using h
section
variable {h h' : Hp} {M M' : MemV} {R R' : List Int} {es es' : List (DV × DV)} {k : Nat} {z : Prop} {CL : List Nat} {b : Pos} {n r : Int} {x : DV}
end
end Go.Dd

namespace Go.Dd
open Go.Proofs
section
variable {h h' : Hp} {M M' : MemV} {R R' : List Int} {es es' : List (DV × DV)} {k : Nat} {z : Prop} {CL : List Nat} {b : Pos} {n r : Int} {x : DV}
theorem bVs (V : Wv k h M R es z) (m : Nat) : eG (m + 1) 36 [.p (aT 3) 0] h = some (iD M.made, h) := by
 obtain ⟨m1, m2, m3, m4, m5, m6⟩ := iG V.K.W.mem
 have e : aA (.p (aT 3) (0 + 2)) h = some (iD M.made, h) := xA (i := 0 + 2) m1 rfl rfl
 rw [yZ 36 rfl, cRb]
 unfold s36
 simp only [g0, oW, fld, aV, e]
end
end Go.Dd

namespace Go.Dd
open Go.Proofs
section
variable {h h' : Hp} {M M' : MemV} {R R' : List Int} {es es' : List (DV × DV)} {k : Nat} {z : Prop} {CL : List Nat} {b : Pos} {n r : Int} {x : DV} {l : List Int}
end
end Go.Dd

namespace Go.Dd
open Go.Proofs
section
variable {h h' : Hp} {M M' : MemV} {R R' : List Int} {es es' : List (DV × DV)} {k : Nat} {z : Prop} {CL : List Nat} {b : Pos} {n r : Int} {x : DV} {l : List Int}
end
end Go.Dd

namespace Go.Dd
open Go.Proofs
section
variable {h h' : Hp} {M M' : MemV} {R R' : List Int} {es es' : List (DV × DV)} {k : Nat} {z z' : Prop} {CL : List Nat} {b : Pos} {n r v : Int} {x : DV} {l : List Int} {i : Nat}
end
end Go.Dd

namespace Go.Dd
open Go.Proofs
section
variable {h h' : Hp} {M M' : MemV} {R R' : List Int} {es es' : List (DV × DV)} {k : Nat} {z z' : Prop} {CL : List Nat} {b : Pos} {n r v : Int} {x : DV} {l : List Int} {i : Nat}
end
end Go.Dd

namespace Go.Dd
open Go.Proofs
end Go.Dd

namespace Go.Dd
open Go.Proofs
noncomputable def fL (rec : FuncId → List DV → Hp → aH) (n : Nat) (x0 x7 x8 x9 x10 : DV) (h0 : Hp) : aH :=
 bnd (rec 39 [x0] h0) fun v1 h1 =>
 bnd (aD .neq v1 x8 h1) fun v2 h2 =>
 aP v2 (
  some ((.b false), h2)) (
  bnd (bV x10 h2) fun v3 h3 =>
  bnd (aD .eql x8 v3 h3) fun v4 h4 =>
  aP v4 (
   bnd (rec 13 [] h4) fun v5 h5 =>
   some (v5, h5)) (
   bnd (rec 23 [x7] h4) fun v6 h6 =>
   bnd (rec 36 [v6] h6) fun v7 h7 =>
   bnd (rec 16 [x7, x0, x9, x10] h7) fun v8 h8 =>
   bnd (aC 0 v8 h8) fun v9 h9 =>
   bnd (aC 1 v8 h9) fun v10 h10 =>
   bnd (aD .eql v9 (.i .i64 (Int.ofNat 0)) h10) fun v11 h11 =>
   bnd (gD v11 true (some (v10, h11)) h11) fun v12 h12 =>
   bnd (gD v11 true (aD .eql v12 (.i .i64 (Int.ofNat 20)) h12) h12) fun v13 h13 =>
   bnd (aR v11 v13 (.b false) h13) fun v14 h14 =>
   bnd (gD v14 true (some (x7, h14)) h14) fun v15 h15 =>
   bnd (gD v14 true (rec 23 [v15] h15) h15) fun v16 h16 =>
   bnd (gD v14 true (rec 36 [v16] h16) h16) fun v17 h17 =>
   bnd (gD v14 true (some (v7, h17)) h17) fun v18 h18 =>
   bnd (gD v14 true (aD .eql v17 v18 h18) h18) fun v19 h19 =>
   bnd (aR v14 v19 (.b false) h19) fun v20 h20 =>
   bnd (gD v20 true (rec 13 [] h20) h20) fun v21 h21 =>
   bnd (aR v20 v21 (.b false) h21) fun v22 h22 =>
   some (v22, h22)))
noncomputable def lA (rec : FuncId → List DV → Hp → aH) (n : Nat) (kk10 : DV → DV → DV → DV → DV → DV → DV → Hp → aH) (x0 x2 x7 x8 x9 x10 x11 : DV) (h0 : Hp) : aH :=
  bnd (bV x2 h0) fun v45 h45 =>
  bnd (aD .lss x11 v45 h45) fun v46 h46 =>
  bnd (gD v46 true (some (x11, h46)) h46) fun v47 h47 =>
  bnd (gD v46 true (aD .lss v47 (.i .i64 (Int.ofNat 5)) h47) h47) fun v48 h48 =>
  bnd (aR v46 v48 (.b false) h48) fun v49 h49 =>
  aP v49 (
   bnd (aJ 3 x2 x11 h49) fun v50 h50 =>
   bnd (aK 3 v50 h50) fun v51 h51 =>
   bnd (rec 14 [x7, v51] h51) fun v52 h52 =>
   bnd (aL [(.i .i64 (Int.ofNat 0))] 1 [(0, 1, v52)] h52) fun v53 h53 =>
   bnd (aZ 1 8 x10 v53 h53) fun v54 h54 =>
   bnd (aD .add x11 (.i .i64 (Int.ofNat 1)) h54) fun v55 h55 =>
   kk10 x0 x2 x7 x8 x9 v54 v55 h55) (
   fL rec n x0 x7 x8 x9 x10 h49)
noncomputable def lK (rec : FuncId → List DV → Hp → aH) (n : Nat) (m : Nat) : DV → DV → DV → DV → DV → DV → DV → Hp → aH :=
 Nat.rec (motive := fun _ => DV → DV → DV → DV → DV → DV → DV → Hp → aH) (fun _ _ _ _ _ _ _ _ => none) (fun _ ih => lA rec n ih) m
noncomputable def aQy (rec : FuncId → List DV → Hp → aH) (n : Nat) : DV → DV → DV → DV → DV → DV → DV → Hp → aH := lK rec n n
noncomputable def aVv (rec : FuncId → List DV → Hp → aH) (n : Nat) (x0 x2 x7 x8 x9 x10 x11 : DV) (h0 : Hp) : aH :=
 aQy rec n x0 x2 x7 x8 x9 x10 x11 h0
noncomputable def aVf (rec : FuncId → List DV → Hp → aH) (n : Nat) (x0 x2 x7 x8 x9 x10 : DV) (h0 : Hp) : aH :=
 aVv rec n x0 x2 x7 x8 x9 x10 (.i .i64 (Int.ofNat 0)) h0
noncomputable def aYc (rec : FuncId → List DV → Hp → aH) (n : Nat) (x0 x2 x7 x8 x9 : DV) (h0 : Hp) : aH :=
 aVf rec n x0 x2 x7 x8 x9 .l0 h0
noncomputable def cI (rec : FuncId → List DV → Hp → aH) (n : Nat) (x0 x2 x4 x7 x8 : DV) (h0 : Hp) : aH :=
 bnd (aK 3 x4 h0) fun v89 h89 =>
 bnd (rec 14 [x7, v89] h89) fun v90 h90 =>
 aYc rec n x0 x2 x7 x8 v90 h90
noncomputable def vC (rec : FuncId → List DV → Hp → aH) (n : Nat) (x0 x2 x4 x7 x8 x39 : DV) (h0 : Hp) : aH :=
 aP x39 (
  cI rec n x0 x2 x4 x7 (.i .i64 (Int.ofNat 2)) h0) (
  cI rec n x0 x2 x4 x7 x8 h0)
noncomputable def aSk (rec : FuncId → List DV → Hp → aH) (n : Nat) (x0 x2 x4 x7 x8 x18 : DV) (h0 : Hp) : aH :=
 bnd (aD .eql x18 (.i .i64 (Int.ofNat 21)) h0) fun v93 h93 =>
 aP v93 (
  vC rec n x0 x2 x4 x7 x8 v93 h93) (
  bnd (aD .eql x18 (.i .i64 (Int.ofNat 51)) h93) fun v94 h94 =>
  vC rec n x0 x2 x4 x7 x8 v94 h94)
noncomputable def fQ (rec : FuncId → List DV → Hp → aH) (n : Nat) (x0 x2 x4 x7 x8 x18 x25 : DV) (h0 : Hp) : aH :=
 aP x25 (
  cI rec n x0 x2 x4 x7 (.i .i64 (Int.ofNat 1)) h0) (
  aSk rec n x0 x2 x4 x7 x8 x18 h0)
noncomputable def aRb (rec : FuncId → List DV → Hp → aH) (n : Nat) (x0 x2 x4 x7 x8 x18 : DV) (h0 : Hp) : aH :=
 bnd (aD .eql x18 (.i .i64 (Int.ofNat 1)) h0) fun v97 h97 =>
 aP v97 (
  fQ rec n x0 x2 x4 x7 x8 x18 v97 h97) (
  bnd (aD .eql x18 (.i .i64 (Int.ofNat 2)) h97) fun v98 h98 =>
  aP v98 (
   fQ rec n x0 x2 x4 x7 x8 x18 v98 h98) (
   bnd (aD .eql x18 (.i .i64 (Int.ofNat 3)) h98) fun v99 h99 =>
   aP v99 (
    fQ rec n x0 x2 x4 x7 x8 x18 v99 h99) (
    bnd (aD .eql x18 (.i .i64 (Int.ofNat 4)) h99) fun v100 h100 =>
    aP v100 (
     fQ rec n x0 x2 x4 x7 x8 x18 v100 h100) (
     bnd (aD .eql x18 (.i .i64 (Int.ofNat 5)) h100) fun v101 h101 =>
     aP v101 (
      fQ rec n x0 x2 x4 x7 x8 x18 v101 h101) (
      bnd (aD .eql x18 (.i .i64 (Int.ofNat 6)) h101) fun v102 h102 =>
      aP v102 (
       fQ rec n x0 x2 x4 x7 x8 x18 v102 h102) (
       bnd (aD .eql x18 (.i .i64 (Int.ofNat 7)) h102) fun v103 h103 =>
       aP v103 (
        fQ rec n x0 x2 x4 x7 x8 x18 v103 h103) (
        bnd (aD .eql x18 (.i .i64 (Int.ofNat 10)) h103) fun v104 h104 =>
        aP v104 (
         fQ rec n x0 x2 x4 x7 x8 x18 v104 h104) (
         bnd (aD .eql x18 (.i .i64 (Int.ofNat 20)) h104) fun v105 h105 =>
         aP v105 (
          fQ rec n x0 x2 x4 x7 x8 x18 v105 h105) (
          bnd (aD .eql x18 (.i .i64 (Int.ofNat 24)) h105) fun v106 h106 =>
          aP v106 (
           fQ rec n x0 x2 x4 x7 x8 x18 v106 h106) (
           bnd (aD .eql x18 (.i .i64 (Int.ofNat 25)) h106) fun v107 h107 =>
           aP v107 (
            fQ rec n x0 x2 x4 x7 x8 x18 v107 h107) (
            bnd (aD .eql x18 (.i .i64 (Int.ofNat 26)) h107) fun v108 h108 =>
            aP v108 (
             fQ rec n x0 x2 x4 x7 x8 x18 v108 h108) (
             bnd (aD .eql x18 (.i .i64 (Int.ofNat 50)) h108) fun v109 h109 =>
             fQ rec n x0 x2 x4 x7 x8 x18 v109 h109))))))))))))
noncomputable def lU (rec : FuncId → List DV → Hp → aH) (n : Nat) (x0 x2 x4 x7 x8 x18 x19 : DV) (h0 : Hp) : aH :=
 aP x19 (
  cI rec n x0 x2 x4 x7 (.i .i64 (Int.ofNat 0)) h0) (
  aRb rec n x0 x2 x4 x7 x8 x18 h0)
noncomputable def aJs (rec : FuncId → List DV → Hp → aH) (n : Nat) (x0 x2 x4 x7 x8 x18 : DV) (h0 : Hp) : aH :=
 bnd (aD .eql x18 (.i .i64 (Int.ofNat 11)) h0) fun v123 h123 =>
 aP v123 (
  lU rec n x0 x2 x4 x7 x8 x18 v123 h123) (
  bnd (aD .eql x18 (.i .i64 (Int.ofNat 22)) h123) fun v124 h124 =>
  aP v124 (
   lU rec n x0 x2 x4 x7 x8 x18 v124 h124) (
   bnd (aD .eql x18 (.i .i64 (Int.ofNat 23)) h124) fun v125 h125 =>
   aP v125 (
    lU rec n x0 x2 x4 x7 x8 x18 v125 h125) (
    bnd (aD .eql x18 (.i .i64 (Int.ofNat 40)) h125) fun v126 h126 =>
    aP v126 (
     lU rec n x0 x2 x4 x7 x8 x18 v126 h126) (
     bnd (aD .eql x18 (.i .i64 (Int.ofNat 41)) h126) fun v127 h127 =>
     lU rec n x0 x2 x4 x7 x8 x18 v127 h127))))
noncomputable def zU (rec : FuncId → List DV → Hp → aH) (n : Nat) (x0 x2 x4 x7 x8 : DV) (h0 : Hp) : aH :=
 aJs rec n x0 x2 x4 x7 x8 x0 h0
noncomputable def aZt (rec : FuncId → List DV → Hp → aH) (n : Nat) (x0 x2 x4 x7 : DV) (h0 : Hp) : aH :=
 zU rec n x0 x2 x4 x7 (.i .i64 (Int.negSucc 0)) h0
noncomputable def aWv (rec : FuncId → List DV → Hp → aH) (n : Nat) (x0 x2 x4 x7 : DV) (h0 : Hp) : aH :=
 bnd (pEq (.pointer 64) true x7 .p0 h0) fun v133 h133 =>
 aP v133 (
  some ((.b false), h133)) (
  aZt rec n x0 x2 x4 x7 h133)
noncomputable def aAe (rec : FuncId → List DV → Hp → aH) (n : Nat) (x0 x2 x4 : DV) (h0 : Hp) : aH :=
 bnd (rec 12 [] h0) fun v135 h135 =>
 aWv rec n x0 x2 x4 v135 h135
noncomputable def s11 (rec : FuncId → List DV → Hp → aH) (n : Nat) (x0 x1 x2 : DV) (h0 : Hp) : aH :=
 bnd (bQ x1 h0) fun v137 h137 =>
 aAe rec n x0 x2 v137 h137
noncomputable def D11 (rec : FuncId → List DV → Hp → aH) (n : Nat) (c : Code) (X : Nat → K) (k : K) : K := aM CF rec 100 n c X (aQ CF Tryz.f11) k
theorem cZw (rec : FuncId → List DV → Hp → aH) (n : Nat) : D11 rec n (cR (cR (cR (cR (cR (cR (cR (cR (cf Tryz.f11))))))))) x0 (aQ CF Tryz.f11) = (fun (env : aU) (h : Hp) => fL rec n (env 0) (env 7) (env 8) (env 9) (env 10) h) :=
 (by kernel_rfl)
theorem bUm (rec : FuncId → List DV → Hp → aH) (n : Nat) (kk10 : DV → DV → DV → DV → DV → DV → DV → Hp → aH) (q0 : DV → DV → DV → DV → DV → Hp → aH) : D11 rec n (cL (cL (cR (cL (cR (cR (cR (cR (cR (cR (cR (cf Tryz.f11)))))))))))) (xs x0 1 (fun (env : aU) (h : Hp) => q0 (env 0) (env 7) (env 8) (env 9) (env 10) h)) (fun (env : aU) (h : Hp) => kk10 (env 0) (env 2) (env 7) (env 8) (env 9) (env 10) (env 11) h) = fun (env : aU) (h : Hp) =>
  bnd (bV (env 2) h) fun v67 h67 =>
  bnd (aD .lss (env 11) v67 h67) fun v68 h68 =>
  bnd (gD v68 true (some ((env 11), h68)) h68) fun v69 h69 =>
  bnd (gD v68 true (aD .lss v69 (.i .i64 (Int.ofNat 5)) h69) h69) fun v70 h70 =>
  bnd (aR v68 v70 (.b false) h70) fun v71 h71 =>
  aP v71 (
   bnd (aJ 3 (env 2) (env 11) h71) fun v72 h72 =>
   bnd (aK 3 v72 h72) fun v73 h73 =>
   bnd (rec 14 [(env 7), v73] h73) fun v74 h74 =>
   bnd (aL [(.i .i64 (Int.ofNat 0))] 1 [(0, 1, v74)] h74) fun v75 h75 =>
   bnd (aZ 1 8 (env 10) v75 h75) fun v76 h76 =>
   bnd (aD .add (env 11) (.i .i64 (Int.ofNat 1)) h76) fun v77 h77 =>
   kk10 (env 0) (env 2) (env 7) (env 8) (env 9) v76 v77 h77) (
   q0 (env 0) (env 7) (env 8) (env 9) (env 10) h71) := by kernel_rfl
theorem bCz (rec : FuncId → List DV → Hp → aH) (n : Nat) (kk10 : DV → DV → DV → DV → DV → DV → DV → Hp → aH) : (fun (env : aU) (h : Hp) =>
  bnd (bV (env 2) h) fun v78 h78 =>
  bnd (aD .lss (env 11) v78 h78) fun v79 h79 =>
  bnd (gD v79 true (some ((env 11), h79)) h79) fun v80 h80 =>
  bnd (gD v79 true (aD .lss v80 (.i .i64 (Int.ofNat 5)) h80) h80) fun v81 h81 =>
  bnd (aR v79 v81 (.b false) h81) fun v82 h82 =>
  aP v82 (
   bnd (aJ 3 (env 2) (env 11) h82) fun v83 h83 =>
   bnd (aK 3 v83 h83) fun v84 h84 =>
   bnd (rec 14 [(env 7), v84] h84) fun v85 h85 =>
   bnd (aL [(.i .i64 (Int.ofNat 0))] 1 [(0, 1, v85)] h85) fun v86 h86 =>
   bnd (aZ 1 8 (env 10) v86 h86) fun v87 h87 =>
   bnd (aD .add (env 11) (.i .i64 (Int.ofNat 1)) h87) fun v88 h88 =>
   kk10 (env 0) (env 2) (env 7) (env 8) (env 9) v87 v88 h88) (
   fL rec n (env 0) (env 7) (env 8) (env 9) (env 10) h82)) = (fun (env : aU) (h : Hp) => lA rec n kk10 (env 0) (env 2) (env 7) (env 8) (env 9) (env 10) (env 11) h) := by kernel_rfl
theorem bZh (rec : FuncId → List DV → Hp → aH) (n : Nat) (kk10 : DV → DV → DV → DV → DV → DV → DV → Hp → aH) : D11 rec n (cL (cL (cR (cL (cR (cR (cR (cR (cR (cR (cR (cf Tryz.f11)))))))))))) (xs x0 1 (fun (env : aU) (h : Hp) => fL rec n (env 0) (env 7) (env 8) (env 9) (env 10) h)) (fun (env : aU) (h : Hp) => kk10 (env 0) (env 2) (env 7) (env 8) (env 9) (env 10) (env 11) h) = (fun (env : aU) (h : Hp) => lA rec n kk10 (env 0) (env 2) (env 7) (env 8) (env 9) (env 10) (env 11) h) :=
 (bUm rec n kk10 (fL rec n)).trans (bCz rec n kk10)
theorem bYp (rec : FuncId → List DV → Hp → aH) (n : Nat) (m : Nat) : aN (fun kk => D11 rec n (cL (cL (cR (cL (cR (cR (cR (cR (cR (cR (cR (cf Tryz.f11)))))))))))) (xs x0 1 (fun (env : aU) (h : Hp) => fL rec n (env 0) (env 7) (env 8) (env 9) (env 10) h)) kk) m = (fun (env : aU) (h : Hp) => lK rec n m (env 0) (env 2) (env 7) (env 8) (env 9) (env 10) (env 11) h) := by
 induction m with
 | zero => exact (by kernel_rfl : aN (fun kk => D11 rec n (cL (cL (cR (cL (cR (cR (cR (cR (cR (cR (cR (cf Tryz.f11)))))))))))) (xs x0 1 (fun (env : aU) (h : Hp) => fL rec n (env 0) (env 7) (env 8) (env 9) (env 10) h)) kk) 0 = (fun (env : aU) (h : Hp) => lK rec n 0 (env 0) (env 2) (env 7) (env 8) (env 9) (env 10) (env 11) h))
 | succ m ih =>
  refine (by kernel_rfl : aN (fun kk => D11 rec n (cL (cL (cR (cL (cR (cR (cR (cR (cR (cR (cR (cf Tryz.f11)))))))))))) (xs x0 1 (fun (env : aU) (h : Hp) => fL rec n (env 0) (env 7) (env 8) (env 9) (env 10) h)) kk) (m + 1) = D11 rec n (cL (cL (cR (cL (cR (cR (cR (cR (cR (cR (cR (cf Tryz.f11)))))))))))) (xs x0 1 (fun (env : aU) (h : Hp) => fL rec n (env 0) (env 7) (env 8) (env 9) (env 10) h)) (aN (fun kk => D11 rec n (cL (cL (cR (cL (cR (cR (cR (cR (cR (cR (cR (cf Tryz.f11)))))))))))) (xs x0 1 (fun (env : aU) (h : Hp) => fL rec n (env 0) (env 7) (env 8) (env 9) (env 10) h)) kk) m)).trans ?_
  rw [ih]
  exact (bZh rec n (lK rec n m)).trans (by kernel_rfl)
theorem cPo (rec : FuncId → List DV → Hp → aH) (n : Nat) : D11 rec n (cL (cR (cL (cR (cR (cR (cR (cR (cR (cR (cf Tryz.f11))))))))))) (xs x0 1 (fun (env : aU) (h : Hp) => fL rec n (env 0) (env 7) (env 8) (env 9) (env 10) h)) (fun (env : aU) (h : Hp) => fL rec n (env 0) (env 7) (env 8) (env 9) (env 10) h) = (fun (env : aU) (h : Hp) => aQy rec n (env 0) (env 2) (env 7) (env 8) (env 9) (env 10) (env 11) h) :=
 (by kernel_rfl : D11 rec n (cL (cR (cL (cR (cR (cR (cR (cR (cR (cR (cf Tryz.f11))))))))))) (xs x0 1 (fun (env : aU) (h : Hp) => fL rec n (env 0) (env 7) (env 8) (env 9) (env 10) h)) (fun (env : aU) (h : Hp) => fL rec n (env 0) (env 7) (env 8) (env 9) (env 10) h) = aN (fun kk => D11 rec n (cL (cL (cR (cL (cR (cR (cR (cR (cR (cR (cR (cf Tryz.f11)))))))))))) (xs x0 1 (fun (env : aU) (h : Hp) => fL rec n (env 0) (env 7) (env 8) (env 9) (env 10) h)) kk) n).trans ((bYp rec n n).trans (by kernel_rfl))
theorem cSt (rec : FuncId → List DV → Hp → aH) (n : Nat) : D11 rec n (cR (cL (cR (cR (cR (cR (cR (cR (cR (cf Tryz.f11)))))))))) x0 (fun (env : aU) (h : Hp) => fL rec n (env 0) (env 7) (env 8) (env 9) (env 10) h) = (fun (env : aU) (h : Hp) => aVv rec n (env 0) (env 2) (env 7) (env 8) (env 9) (env 10) (env 11) h) :=
 (by kernel_rfl : D11 rec n (cR (cL (cR (cR (cR (cR (cR (cR (cR (cf Tryz.f11)))))))))) x0 (fun (env : aU) (h : Hp) => fL rec n (env 0) (env 7) (env 8) (env 9) (env 10) h) = D11 rec n (cL (cR (cL (cR (cR (cR (cR (cR (cR (cR (cf Tryz.f11))))))))))) (xs x0 1 (fun (env : aU) (h : Hp) => fL rec n (env 0) (env 7) (env 8) (env 9) (env 10) h)) (fun (env : aU) (h : Hp) => fL rec n (env 0) (env 7) (env 8) (env 9) (env 10) h)).trans
 ((cPo rec n).trans (by kernel_rfl))
theorem cFo (rec : FuncId → List DV → Hp → aH) (n : Nat) : D11 rec n (cR (cR (cR (cR (cR (cR (cR (cf Tryz.f11)))))))) x0 (aQ CF Tryz.f11) = D11 rec n (cL (cR (cR (cR (cR (cR (cR (cR (cf Tryz.f11))))))))) x0 (fun (env : aU) (h : Hp) => fL rec n (env 0) (env 7) (env 8) (env 9) (env 10) h) :=
 congrArg (fun k => D11 rec n (cL (cR (cR (cR (cR (cR (cR (cR (cf Tryz.f11))))))))) x0 k) (cZw rec n)
theorem cPu (rec : FuncId → List DV → Hp → aH) (n : Nat) : D11 rec n (cL (cR (cR (cR (cR (cR (cR (cR (cf Tryz.f11))))))))) x0 (fun (env : aU) (h : Hp) => fL rec n (env 0) (env 7) (env 8) (env 9) (env 10) h) = D11 rec n (cL (cL (cR (cR (cR (cR (cR (cR (cR (cf Tryz.f11)))))))))) x0 (fun (env : aU) (h : Hp) => aVv rec n (env 0) (env 2) (env 7) (env 8) (env 9) (env 10) (env 11) h) :=
 congrArg (fun k => D11 rec n (cL (cL (cR (cR (cR (cR (cR (cR (cR (cf Tryz.f11)))))))))) x0 k) (cSt rec n)
theorem cXb (rec : FuncId → List DV → Hp → aH) (n : Nat) : D11 rec n (cR (cR (cR (cR (cR (cR (cR (cf Tryz.f11)))))))) x0 (aQ CF Tryz.f11) = (fun (env : aU) (h : Hp) => aVf rec n (env 0) (env 2) (env 7) (env 8) (env 9) (env 10) h) :=
 (cFo rec n).trans
 ((cPu rec n).trans
 ((by kernel_rfl)))
theorem cCd (rec : FuncId → List DV → Hp → aH) (n : Nat) : D11 rec n (cR (cR (cR (cR (cR (cR (cf Tryz.f11))))))) x0 (aQ CF Tryz.f11) = D11 rec n (cL (cR (cR (cR (cR (cR (cR (cf Tryz.f11)))))))) x0 (fun (env : aU) (h : Hp) => aVf rec n (env 0) (env 2) (env 7) (env 8) (env 9) (env 10) h) :=
 congrArg (fun k => D11 rec n (cL (cR (cR (cR (cR (cR (cR (cf Tryz.f11)))))))) x0 k) (cXb rec n)
theorem cYv (rec : FuncId → List DV → Hp → aH) (n : Nat) : D11 rec n (cR (cR (cR (cR (cR (cR (cf Tryz.f11))))))) x0 (aQ CF Tryz.f11) = (fun (env : aU) (h : Hp) => aYc rec n (env 0) (env 2) (env 7) (env 8) (env 9) h) :=
 (cCd rec n).trans
 ((by kernel_rfl))
theorem cBj (rec : FuncId → List DV → Hp → aH) (n : Nat) : D11 rec n (cR (cR (cR (cR (cR (cf Tryz.f11)))))) x0 (aQ CF Tryz.f11) = D11 rec n (cL (cR (cR (cR (cR (cR (cf Tryz.f11))))))) x0 (fun (env : aU) (h : Hp) => aYc rec n (env 0) (env 2) (env 7) (env 8) (env 9) h) :=
 congrArg (fun k => D11 rec n (cL (cR (cR (cR (cR (cR (cf Tryz.f11))))))) x0 k) (cYv rec n)
theorem cTc (rec : FuncId → List DV → Hp → aH) (n : Nat) : D11 rec n (cR (cR (cR (cR (cR (cf Tryz.f11)))))) x0 (aQ CF Tryz.f11) = (fun (env : aU) (h : Hp) => cI rec n (env 0) (env 2) (env 4) (env 7) (env 8) h) :=
 (cBj rec n).trans
 ((by kernel_rfl))
theorem cJc (rec : FuncId → List DV → Hp → aH) (n : Nat) : D11 rec n (cR (cR (cR (cR (cR (cL (cR (cL (cR (cR (cR (cR (cf Tryz.f11))))))))))))) (xs x0 0 (fun (env : aU) (h : Hp) => cI rec n (env 0) (env 2) (env 4) (env 7) (env 8) h)) (fun (env : aU) (h : Hp) => cI rec n (env 0) (env 2) (env 4) (env 7) (env 8) h) = (fun (env : aU) (h : Hp) => vC rec n (env 0) (env 2) (env 4) (env 7) (env 8) (env 39) h) :=
 (by kernel_rfl)
theorem bOg (rec : FuncId → List DV → Hp → aH) (n : Nat) : D11 rec n (cR (cR (cR (cR (cL (cR (cL (cR (cR (cR (cR (cf Tryz.f11)))))))))))) (xs x0 0 (fun (env : aU) (h : Hp) => cI rec n (env 0) (env 2) (env 4) (env 7) (env 8) h)) (fun (env : aU) (h : Hp) => cI rec n (env 0) (env 2) (env 4) (env 7) (env 8) h) = D11 rec n (cL (cR (cR (cR (cR (cL (cR (cL (cR (cR (cR (cR (cf Tryz.f11))))))))))))) (xs x0 0 (fun (env : aU) (h : Hp) => cI rec n (env 0) (env 2) (env 4) (env 7) (env 8) h)) (fun (env : aU) (h : Hp) => vC rec n (env 0) (env 2) (env 4) (env 7) (env 8) (env 39) h) :=
 congrArg (fun k => D11 rec n (cL (cR (cR (cR (cR (cL (cR (cL (cR (cR (cR (cR (cf Tryz.f11))))))))))))) (xs x0 0 (fun (env : aU) (h : Hp) => cI rec n (env 0) (env 2) (env 4) (env 7) (env 8) h)) k) (cJc rec n)
theorem cPe (rec : FuncId → List DV → Hp → aH) (n : Nat) : D11 rec n (cR (cR (cR (cR (cL (cR (cL (cR (cR (cR (cR (cf Tryz.f11)))))))))))) (xs x0 0 (fun (env : aU) (h : Hp) => cI rec n (env 0) (env 2) (env 4) (env 7) (env 8) h)) (fun (env : aU) (h : Hp) => cI rec n (env 0) (env 2) (env 4) (env 7) (env 8) h) = (fun (env : aU) (h : Hp) => aSk rec n (env 0) (env 2) (env 4) (env 7) (env 8) (env 18) h) :=
 (bOg rec n).trans
 ((by kernel_rfl))
theorem cHu (rec : FuncId → List DV → Hp → aH) (n : Nat) : D11 rec n (cR (cR (cR (cL (cR (cL (cR (cR (cR (cR (cf Tryz.f11))))))))))) (xs x0 0 (fun (env : aU) (h : Hp) => cI rec n (env 0) (env 2) (env 4) (env 7) (env 8) h)) (fun (env : aU) (h : Hp) => cI rec n (env 0) (env 2) (env 4) (env 7) (env 8) h) = (fun (env : aU) (h : Hp) => fQ rec n (env 0) (env 2) (env 4) (env 7) (env 8) (env 18) (env 25) h) :=
 (by kernel_rfl : D11 rec n (cR (cR (cR (cL (cR (cL (cR (cR (cR (cR (cf Tryz.f11))))))))))) (xs x0 0 (fun (env : aU) (h : Hp) => cI rec n (env 0) (env 2) (env 4) (env 7) (env 8) h)) (fun (env : aU) (h : Hp) => cI rec n (env 0) (env 2) (env 4) (env 7) (env 8) h) = (fun (env : aU) (h : Hp) => aP (opr env (cC (cR (cR (cR (cL (cR (cL (cR (cR (cR (cR (cf Tryz.f11))))))))))))) (D11 rec n (cL (cR (cR (cR (cL (cR (cL (cR (cR (cR (cR (cf Tryz.f11)))))))))))) (xs x0 0 (fun (env : aU) (h : Hp) => cI rec n (env 0) (env 2) (env 4) (env 7) (env 8) h)) (fun (env : aU) (h : Hp) => cI rec n (env 0) (env 2) (env 4) (env 7) (env 8) h) env h) (D11 rec n (cR (cR (cR (cR (cL (cR (cL (cR (cR (cR (cR (cf Tryz.f11)))))))))))) (xs x0 0 (fun (env : aU) (h : Hp) => cI rec n (env 0) (env 2) (env 4) (env 7) (env 8) h)) (fun (env : aU) (h : Hp) => cI rec n (env 0) (env 2) (env 4) (env 7) (env 8) h) env h))).trans (by rw [cPe rec n]; kernel_rfl)
theorem bIv (rec : FuncId → List DV → Hp → aH) (n : Nat) : D11 rec n (cR (cR (cL (cR (cL (cR (cR (cR (cR (cf Tryz.f11)))))))))) (xs x0 0 (fun (env : aU) (h : Hp) => cI rec n (env 0) (env 2) (env 4) (env 7) (env 8) h)) (fun (env : aU) (h : Hp) => cI rec n (env 0) (env 2) (env 4) (env 7) (env 8) h) = D11 rec n (cL (cR (cR (cL (cR (cL (cR (cR (cR (cR (cf Tryz.f11))))))))))) (xs x0 0 (fun (env : aU) (h : Hp) => cI rec n (env 0) (env 2) (env 4) (env 7) (env 8) h)) (fun (env : aU) (h : Hp) => fQ rec n (env 0) (env 2) (env 4) (env 7) (env 8) (env 18) (env 25) h) :=
 congrArg (fun k => D11 rec n (cL (cR (cR (cL (cR (cL (cR (cR (cR (cR (cf Tryz.f11))))))))))) (xs x0 0 (fun (env : aU) (h : Hp) => cI rec n (env 0) (env 2) (env 4) (env 7) (env 8) h)) k) (cHu rec n)
theorem cPq (rec : FuncId → List DV → Hp → aH) (n : Nat) : D11 rec n (cR (cR (cL (cR (cL (cR (cR (cR (cR (cf Tryz.f11)))))))))) (xs x0 0 (fun (env : aU) (h : Hp) => cI rec n (env 0) (env 2) (env 4) (env 7) (env 8) h)) (fun (env : aU) (h : Hp) => cI rec n (env 0) (env 2) (env 4) (env 7) (env 8) h) = (fun (env : aU) (h : Hp) => aRb rec n (env 0) (env 2) (env 4) (env 7) (env 8) (env 18) h) :=
 (bIv rec n).trans
 ((by kernel_rfl))
theorem cOb (rec : FuncId → List DV → Hp → aH) (n : Nat) : D11 rec n (cR (cL (cR (cL (cR (cR (cR (cR (cf Tryz.f11))))))))) (xs x0 0 (fun (env : aU) (h : Hp) => cI rec n (env 0) (env 2) (env 4) (env 7) (env 8) h)) (fun (env : aU) (h : Hp) => cI rec n (env 0) (env 2) (env 4) (env 7) (env 8) h) = (fun (env : aU) (h : Hp) => lU rec n (env 0) (env 2) (env 4) (env 7) (env 8) (env 18) (env 19) h) :=
 (by kernel_rfl : D11 rec n (cR (cL (cR (cL (cR (cR (cR (cR (cf Tryz.f11))))))))) (xs x0 0 (fun (env : aU) (h : Hp) => cI rec n (env 0) (env 2) (env 4) (env 7) (env 8) h)) (fun (env : aU) (h : Hp) => cI rec n (env 0) (env 2) (env 4) (env 7) (env 8) h) = (fun (env : aU) (h : Hp) => aP (opr env (cC (cR (cL (cR (cL (cR (cR (cR (cR (cf Tryz.f11))))))))))) (D11 rec n (cL (cR (cL (cR (cL (cR (cR (cR (cR (cf Tryz.f11)))))))))) (xs x0 0 (fun (env : aU) (h : Hp) => cI rec n (env 0) (env 2) (env 4) (env 7) (env 8) h)) (fun (env : aU) (h : Hp) => cI rec n (env 0) (env 2) (env 4) (env 7) (env 8) h) env h) (D11 rec n (cR (cR (cL (cR (cL (cR (cR (cR (cR (cf Tryz.f11)))))))))) (xs x0 0 (fun (env : aU) (h : Hp) => cI rec n (env 0) (env 2) (env 4) (env 7) (env 8) h)) (fun (env : aU) (h : Hp) => cI rec n (env 0) (env 2) (env 4) (env 7) (env 8) h) env h))).trans (by rw [cPq rec n]; kernel_rfl)
theorem bJn (rec : FuncId → List DV → Hp → aH) (n : Nat) : D11 rec n (cL (cR (cL (cR (cR (cR (cR (cf Tryz.f11)))))))) (xs x0 0 (fun (env : aU) (h : Hp) => cI rec n (env 0) (env 2) (env 4) (env 7) (env 8) h)) (fun (env : aU) (h : Hp) => cI rec n (env 0) (env 2) (env 4) (env 7) (env 8) h) = D11 rec n (cL (cL (cR (cL (cR (cR (cR (cR (cf Tryz.f11))))))))) (xs x0 0 (fun (env : aU) (h : Hp) => cI rec n (env 0) (env 2) (env 4) (env 7) (env 8) h)) (fun (env : aU) (h : Hp) => lU rec n (env 0) (env 2) (env 4) (env 7) (env 8) (env 18) (env 19) h) :=
 congrArg (fun k => D11 rec n (cL (cL (cR (cL (cR (cR (cR (cR (cf Tryz.f11))))))))) (xs x0 0 (fun (env : aU) (h : Hp) => cI rec n (env 0) (env 2) (env 4) (env 7) (env 8) h)) k) (cOb rec n)
theorem cHe (rec : FuncId → List DV → Hp → aH) (n : Nat) : D11 rec n (cR (cL (cR (cR (cR (cR (cf Tryz.f11))))))) x0 (fun (env : aU) (h : Hp) => cI rec n (env 0) (env 2) (env 4) (env 7) (env 8) h) = (fun (env : aU) (h : Hp) => aJs rec n (env 0) (env 2) (env 4) (env 7) (env 8) (env 18) h) :=
 (by kernel_rfl : D11 rec n (cR (cL (cR (cR (cR (cR (cf Tryz.f11))))))) x0 (fun (env : aU) (h : Hp) => cI rec n (env 0) (env 2) (env 4) (env 7) (env 8) h) = D11 rec n (cL (cR (cL (cR (cR (cR (cR (cf Tryz.f11)))))))) (xs x0 0 (fun (env : aU) (h : Hp) => cI rec n (env 0) (env 2) (env 4) (env 7) (env 8) h)) (fun (env : aU) (h : Hp) => cI rec n (env 0) (env 2) (env 4) (env 7) (env 8) h)).trans
 ((bJn rec n).trans
 ((by kernel_rfl)))
theorem cEq (rec : FuncId → List DV → Hp → aH) (n : Nat) : D11 rec n (cR (cR (cR (cR (cf Tryz.f11))))) x0 (aQ CF Tryz.f11) = D11 rec n (cL (cR (cR (cR (cR (cf Tryz.f11)))))) x0 (fun (env : aU) (h : Hp) => cI rec n (env 0) (env 2) (env 4) (env 7) (env 8) h) :=
 congrArg (fun k => D11 rec n (cL (cR (cR (cR (cR (cf Tryz.f11)))))) x0 k) (cTc rec n)
theorem bTy (rec : FuncId → List DV → Hp → aH) (n : Nat) : D11 rec n (cL (cR (cR (cR (cR (cf Tryz.f11)))))) x0 (fun (env : aU) (h : Hp) => cI rec n (env 0) (env 2) (env 4) (env 7) (env 8) h) = D11 rec n (cL (cL (cR (cR (cR (cR (cf Tryz.f11))))))) x0 (fun (env : aU) (h : Hp) => aJs rec n (env 0) (env 2) (env 4) (env 7) (env 8) (env 18) h) :=
 congrArg (fun k => D11 rec n (cL (cL (cR (cR (cR (cR (cf Tryz.f11))))))) x0 k) (cHe rec n)
theorem cRz (rec : FuncId → List DV → Hp → aH) (n : Nat) : D11 rec n (cR (cR (cR (cR (cf Tryz.f11))))) x0 (aQ CF Tryz.f11) = (fun (env : aU) (h : Hp) => zU rec n (env 0) (env 2) (env 4) (env 7) (env 8) h) :=
 (cEq rec n).trans
 ((bTy rec n).trans
 ((by kernel_rfl)))
theorem bPc (rec : FuncId → List DV → Hp → aH) (n : Nat) : D11 rec n (cR (cR (cR (cf Tryz.f11)))) x0 (aQ CF Tryz.f11) = D11 rec n (cL (cR (cR (cR (cf Tryz.f11))))) x0 (fun (env : aU) (h : Hp) => zU rec n (env 0) (env 2) (env 4) (env 7) (env 8) h) :=
 congrArg (fun k => D11 rec n (cL (cR (cR (cR (cf Tryz.f11))))) x0 k) (cRz rec n)
theorem dBp (rec : FuncId → List DV → Hp → aH) (n : Nat) : D11 rec n (cR (cR (cR (cf Tryz.f11)))) x0 (aQ CF Tryz.f11) = (fun (env : aU) (h : Hp) => aZt rec n (env 0) (env 2) (env 4) (env 7) h) :=
 (bPc rec n).trans
 ((by kernel_rfl))
theorem bMp (rec : FuncId → List DV → Hp → aH) (n : Nat) : D11 rec n (cR (cR (cf Tryz.f11))) x0 (aQ CF Tryz.f11) = D11 rec n (cL (cR (cR (cf Tryz.f11)))) x0 (fun (env : aU) (h : Hp) => aZt rec n (env 0) (env 2) (env 4) (env 7) h) :=
 congrArg (fun k => D11 rec n (cL (cR (cR (cf Tryz.f11)))) x0 k) (dBp rec n)
theorem cVs (rec : FuncId → List DV → Hp → aH) (n : Nat) : D11 rec n (cR (cR (cf Tryz.f11))) x0 (aQ CF Tryz.f11) = (fun (env : aU) (h : Hp) => aWv rec n (env 0) (env 2) (env 4) (env 7) h) :=
 (bMp rec n).trans
 ((by kernel_rfl))
theorem bQa (rec : FuncId → List DV → Hp → aH) (n : Nat) : D11 rec n (cR (cf Tryz.f11)) x0 (aQ CF Tryz.f11) = D11 rec n (cL (cR (cf Tryz.f11))) x0 (fun (env : aU) (h : Hp) => aWv rec n (env 0) (env 2) (env 4) (env 7) h) :=
 congrArg (fun k => D11 rec n (cL (cR (cf Tryz.f11))) x0 k) (cVs rec n)
theorem dDa (rec : FuncId → List DV → Hp → aH) (n : Nat) : D11 rec n (cR (cf Tryz.f11)) x0 (aQ CF Tryz.f11) = (fun (env : aU) (h : Hp) => aAe rec n (env 0) (env 2) (env 4) h) :=
 (bQa rec n).trans
 ((by kernel_rfl))
theorem cUn (rec : FuncId → List DV → Hp → aH) (n : Nat) : D11 rec n (cf Tryz.f11) x0 (aQ CF Tryz.f11) = D11 rec n (cL (cf Tryz.f11)) x0 (fun (env : aU) (h : Hp) => aAe rec n (env 0) (env 2) (env 4) h) :=
 congrArg (fun k => D11 rec n (cL (cf Tryz.f11)) x0 k) (dDa rec n)
theorem dCa (rec : FuncId → List DV → Hp → aH) (n : Nat) (q0 : DV → DV → DV → Hp → aH) : D11 rec n (cL (cf Tryz.f11)) x0 (fun (env : aU) (h : Hp) => q0 (env 0) (env 2) (env 4) h) = fun (env : aU) (h : Hp) =>
  bnd (bQ (env 1) h) fun v139 h139 =>
  q0 (env 0) (env 2) v139 h139 := by kernel_rfl
theorem cIm (rec : FuncId → List DV → Hp → aH) (n : Nat) : (fun (env : aU) (h : Hp) =>
  bnd (bQ (env 1) h) fun v140 h140 =>
  aAe rec n (env 0) (env 2) v140 h140) = (fun (env : aU) (h : Hp) => s11 rec n (env 0) (env 1) (env 2) h) := by kernel_rfl
theorem dPd (rec : FuncId → List DV → Hp → aH) (n : Nat) : D11 rec n (cf Tryz.f11) x0 (aQ CF Tryz.f11) = (fun (env : aU) (h : Hp) => s11 rec n (env 0) (env 1) (env 2) h) :=
 (cUn rec n).trans
 ((dCa rec n (aAe rec n)).trans (cIm rec n))
theorem dEa (rec : FuncId → List DV → Hp → aH) (n : Nat) (args : List DV) (h : Hp) : aF CF rec n 11 args h = s11 rec n (args.getD 0 aW) (args.getD 1 aW) (args.getD 2 aW) h :=
 (by kernel_rfl : aF CF rec n 11 args h = D11 rec n (cf Tryz.f11) x0 (aQ CF Tryz.f11) (aI args) h).trans ((congrFun (congrFun (dPd rec n) (aI args)) h).trans (by kernel_rfl))
end Go.Dd

namespace Go.Dd
open Go.Proofs
abbrev Thg := Int × Int × List Nat
def flT (l : List Thg) : List DV := l.flatMap fun t => [iD t.1, iD t.2.1, .s t.2.2]
theorem aKb : ∀ (l : List Thg) (i : Nat) (t : Thg), l[i]? = some t → (flT l).drop (i * 3) = [iD t.1, iD t.2.1, .s t.2.2] ++ flT (l.drop (i + 1))
 | [], i, t, h => by cases i <;> cases h
 | a :: l, 0, t, h => by
  cases h
  rfl
 | a :: l, i + 1, t, h => by
  have := aKb l i t h
  have e : flT (a :: l) = [iD a.1, iD a.2.1, .s a.2.2] ++ flT l := rfl
  rw [e, show (i + 1) * 3 = 3 + i * 3 by omega, ← List.drop_drop]
  exact this
def TgS (h : Hp) (L : DV) (l : List Thg) : Prop := (L = .l0 ∧ l = []) ∨ ∃ b cap, L = .l b 0 l.length cap ∧ h.bl.get b = some (.row .ro (flT l)) ∧ b.toNat < 1024
section
variable {h h' : Hp} {M M' : MemV} {R R' : List Int} {es es' : List (DV × DV)} {k : Nat} {z z' : Prop} {L x : DV} {l : List Thg} {n r : Int}
theorem TgS.len (T : TgS h L l) (h' : Hp) : bV L h' = some (iD (l.length : Int), h') := by
 rcases T with ⟨rfl, rfl⟩ | ⟨b, cap, rfl, _⟩ <;> rfl
theorem TgS.ld (T : TgS h L l) {i : Nat} {t : Thg} (ht : l[i]? = some t) : ∃ a, aJ 3 L (.i .i64 (Int.ofNat i)) h = some (a, h) ∧ aK 3 a h = some (th t.1 t.2.1 t.2.2, h) := by
 rcases T with ⟨rfl, rfl⟩ | ⟨b, cap, rfl, e, _⟩
 ·cases ht
 ·have hi : i < l.length := by
   rcases Nat.lt_or_ge i l.length with q | q
   ·exact q
   ·rw [List.getElem?_eq_none q] at ht; cases ht
  refine ⟨.p b (0 + i * 3), ?_, ?_⟩
  ·show (if (0 : Int) ≤ Int.ofNat i ∧ Int.ofNat i < (l.length : Int) then some (DV.p b (0 + (Int.ofNat i).toNat * 3), h) else none) = _
   rw [if_pos ⟨by simp, by simp; exact hi⟩]
   rfl
  ·simp [aK, cellsAt, rowOf, e, aKb l i t ht, kD, DV.one]
theorem TgS.up (T : TgS h L l) (U : ∀ b : Pos, b.toNat < 1024 → h'.bl.get b = h.bl.get b) : TgS h' L l := by
 rcases T with q | ⟨b, cap, e, hb, hl⟩
 ·exact .inl q
 ·exact .inr ⟨b, cap, e, by rw [U b hl]; exact hb, hl⟩
theorem Wv.lo31 (V : Wv k h M R es z) (u : Lo 1031 h h') : Wv k h' M R es z := by
 have W := V.K.W
 obtain ⟨m1, m2, m3, m4, m5, m6⟩ := iG W.mem
 have g : ∀ i q, (aT i).toNat = q → q < 1031 → h'.bl.get (aT i) = h.bl.get (aT i) := fun i q e hq => u.get _ (by rw [e]; exact hq)
 refine ⟨⟨⟨by rw [g 7 _ pn7 (by omega)]; exact W.w, by rw [g 4 _ pn4 (by omega)]; exact W.r, W.rl, by rw [g 5 _ pn5 (by omega)]; exact W.sy, ?_, Nat.le_trans W.nx u.next, W.wb, W.pb⟩, V.K.G, V.K.sy, V.K.r0, V.K.rk⟩, V.I, ?_, V.n, V.fin, V.md⟩
 ·exact kV (by rw [g 3 _ pn3 (by omega)]; exact m1) (by rw [W.wb, g 1 _ pn1 (by omega), ← W.wb]; exact m2) (by rw [W.pb, g 2 _ pn2 (by omega), ← W.pb]; exact m3) m4 m5 m6
 ·unfold Wc
  rw [g 6 _ pn6 (by omega)]
  exact V.c
theorem GrS.up {l : List DV} (S : GrS x l 1031 h) (U : Up h h') : GrS x l 1031 h' := by
 rcases S with q | ⟨b, e, hb, h2, h3⟩
 ·exact .inl q
 ·exact .inr ⟨b, e, by rw [U.get b (.inr (by omega)) h3]; exact hb, h2, Nat.lt_of_lt_of_le h3 U.next⟩
theorem bEs (hl : ∀ t ∈ l, i64 t.2.1 ∧ byS t.2.2) (n w r : Int) : ∀ (j i mm : Nat) (l' : List Int) (x : DV) (h : Hp) (M : MemV) (R : List Int) (es : List (DV × DV)), Wv (260 * j + k) h M R es → TgS h L l → GrS x (l'.map iD) 1031 h →
  l'.length = i → i + j = min l.length 5 → j < mm →
  ∃ l2 x2 h2 M2 R2 es2, lK iR 900 mm (iD n) L (.p (aT 7) 0) (iD w) (iD r) x (.i .i64 (Int.ofNat i)) h = fL iR 900 (iD n) (.p (aT 7) 0) (iD w) (iD r) x2 h2 ∧ Wv k h2 M2 R2 es2 ∧ SlI x2 l2 h2 ∧ l2.length ≤ 5 := by
 intro j
 induction j with
 | zero =>
  intro i mm l' x h M R es V T G hi hij hm
  obtain ⟨mm, rfl⟩ : ∃ m', mm = m' + 1 := ⟨mm - 1, by omega⟩
  refine ⟨l', x, h, M, R, es, ?_, V.less (by omega), cAd (by omega) G, by omega⟩
  show lA iR 900 (lK iR 900 mm) _ _ _ _ _ _ _ h = _
  unfold lA
  simp only [T.len, aV, cH]
  by_cases c : Int.ofNat i < (l.length : Int)
  ·have c5 : decide (Int.ofNat i < Int.ofNat 5) = false := decide_eq_false (by simp at c ⊢; omega)
   simp only [decide_eq_true c, aQq, aV, cH, c5, cY, bX]
  ·simp only [decide_eq_false c, aLn, cJh, aV, cP, bX]
 | succ j ih =>
  intro i mm l' x h M R es V T G hi hij hm
  obtain ⟨mm, rfl⟩ : ∃ m', mm = m' + 1 := ⟨mm - 1, by omega⟩
  have hlt : i < l.length := by omega
  obtain ⟨t, ht⟩ : ∃ t, l[i]? = some t := ⟨l[i], List.getElem?_eq_getElem hlt⟩
  obtain ⟨a, a1, a2⟩ := T.ld ht
  have ok := hl t (List.mem_of_getElem? ht)
  have V' : Wv (260 + (260 * j + k)) h M R es := by
   rw [show 260 + (260 * j + k) = 260 * (j + 1) + k by omega]
   exact V
  obtain ⟨v, h1, M1, R1, es1, e1, V1, U1, S1⟩ := aWf (k := 260 * j + k) V' t.1 ok.1 ok.2 (m := 894) (by omega)
  have G1 := G.up U1
  have nx := V.K.W.nx
  obtain ⟨y, g, b1, x', h2, b2, G2, L2⟩ := G1.app (Nat.le_trans nx U1.next) (bQn _) (z := .i .i64 (Int.ofNat 0)) (v := iD v) rfl rfl (bytes := 8) (by simp; unfold lL; omega)
  have G3 : GrS x' ((l' ++ [v]).map iD) 1031 h2 := by rw [List.map_append]; exact G2
  have T2 : TgS h2 L l := T.up fun b hb => (L2.get b (by omega)).trans (U1.get b (.inl hb) (by omega))
  obtain ⟨l2, x2, h3, M2, R2, es2, e3, r3⟩ := ih (i + 1) mm (l' ++ [v]) x' h2 M1 R1 es1 (V1.lo31 L2) T2 G3 (by simp; omega) (by omega) (by omega)
  refine ⟨l2, x2, h3, M2, R2, es2, ?_, r3⟩
  rw [← e3]
  show lA iR 900 (lK iR 900 mm) _ _ _ _ _ _ _ h = _
  unfold lA
  have c : Int.ofNat i < (l.length : Int) := by simp; omega
  have c5 : Int.ofNat i < Int.ofNat 5 := by simp; omega
  have ha := gO i 1 h2 (by omega)
  simp only [iD] at e1 b1 b2 ⊢
  simp only [T.len, aV, cH, decide_eq_true c, aQq, decide_eq_true c5, cY, bT, a1, a2, aXk, th, iD, e1, b1, b2, ha]
theorem bFp (n : Int) (rec : RT) (m : Nat) (a b c : DV) (h : Hp) : zU rec m (iD n) a b c (.i .i64 (Int.negSucc 0)) h = cI rec m (iD n) a b c (iD (jG n)) h := by
 by_cases q : n = 11 ∨ n = 22 ∨ n = 23 ∨ n = 40 ∨ n = 41 ∨ n = 1 ∨ n = 2 ∨ n = 3 ∨ n = 4 ∨ n = 5 ∨ n = 6 ∨ n = 7 ∨ n = 10 ∨ n = 20 ∨ n = 24 ∨ n = 25 ∨ n = 26 ∨ n = 50 ∨ n = 21 ∨ n = 51
 ·rcases q with q | q | q | q | q | q | q | q | q | q | q | q | q | q | q | q | q | q | q | q <;> subst q <;> rfl
 ·have e : jG n = -1 := by
   unfold jG
   rw [if_neg (by omega), if_neg (by omega), if_neg (by omega)]
  rw [e]
  unfold zU aJs lU aRb fQ aSk vC
  simp only [g0, iD, cU, aV, iJ (show n ≠ Int.ofNat 11 by simp; omega), iJ (show n ≠ Int.ofNat 22 by simp; omega), iJ (show n ≠ Int.ofNat 23 by simp; omega), iJ (show n ≠ Int.ofNat 40 by simp; omega), iJ (show n ≠ Int.ofNat 41 by simp; omega),
   iJ (show n ≠ Int.ofNat 1 by simp; omega), iJ (show n ≠ Int.ofNat 2 by simp; omega), iJ (show n ≠ Int.ofNat 3 by simp; omega), iJ (show n ≠ Int.ofNat 4 by simp; omega), iJ (show n ≠ Int.ofNat 5 by simp; omega), iJ (show n ≠ Int.ofNat 6 by simp; omega), iJ (show n ≠ Int.ofNat 7 by simp; omega),
   iJ (show n ≠ Int.ofNat 10 by simp; omega), iJ (show n ≠ Int.ofNat 20 by simp; omega), iJ (show n ≠ Int.ofNat 24 by simp; omega), iJ (show n ≠ Int.ofNat 25 by simp; omega), iJ (show n ≠ Int.ofNat 26 by simp; omega), iJ (show n ≠ Int.ofNat 50 by simp; omega), iJ (show n ≠ Int.ofNat 21 by simp; omega), iJ (show n ≠ Int.ofNat 51 by simp; omega), bX]
  rfl
end
theorem cFc (args : List DV) (h : Hp) : iR 36 args h = eG (899 + 1) 36 args h := oO rfl rfl args h
theorem cOa {n k1 N1 : Int} {s1 : List Nat} {L : DV} {l : List Thg} {bl : Tr Ob} (i1 : i64 N1) (b1 : byS s1) (hl : ∀ t ∈ l, i64 t.2.1 ∧ byS t.2.2) (T : TgS ⟨pK 1023, bl⟩ L l) (ob : bl.get (pK 1023) = none) : ∃ k, aF CF iR 900 11 [iD n, th k1 N1 s1, L] ⟨pK 1023, bl⟩ = some (.b true, k) := by
 obtain ⟨h1, hh1⟩ : ∃ h1 : Hp, (⟨aT 1, Tr.set (.row .ex [iD k1, iD N1, .s s1]) (pK 1023) bl⟩ : Hp) = h1 := ⟨_, rfl⟩
 have e1 : bQ (th k1 N1 s1) ⟨pK 1023, bl⟩ = some (.p (pK 1023) 0, h1) := by
  rw [dHq, ← hh1]
  show some (DV.p (pK 1023) 0, (⟨(pK 1023).succ, Tr.set _ (pK 1023) _⟩ : Hp)) = _
  rw [cZr]
 have e2 : iR 12 [] h1 = some (.p (aT 7) 0, hWo h1) := bYk _ (by rw [← hh1]; kernel_rfl)
 have V0 := WvN h1
 have t1 : Tg (hWo h1) (pK 1023) k1 N1 s1 := dSj (by unfold Tg; rw [← hh1]; exact aYz _ _ _ _) (by rw [bQc]; omega)
 have T0 : TgS (hWo h1) L l := by
  rcases T with q | ⟨b, cap, e, hb, hlt⟩
  ·exact .inl q
  ·refine .inr ⟨b, cap, e, ?_, hlt⟩
   have ne : b ≠ pK 1023 := fun q => by
    rw [q] at hb
    have hb : bl.get (pK 1023) = _ := hb
    rw [ob] at hb
    cases hb
   rw [bOx _ _ hlt, ← hh1]
   exact (dQv _ _ _ _ ne).trans hb
 have nx : 1024 ≤ (hWo h1).next.toNat := Nat.le_trans (by omega) V0.K.W.nx
 obtain ⟨r, h2, M2, R2, es2, e3, V2, U2, S2⟩ := aWf (k := 19740) V0 k1 i1 b1 (m := 894) (by omega)
 have T2 : TgS h2 L l := T0.up fun b hb => U2.get b (.inl hb) (by omega)
 obtain ⟨l2, x2, h3, M3, R3, es3, e4, V3, S3, l3⟩ := bEs (k := 19740 - 260 * min l.length 5) hl n (jG n) r (min l.length 5) 0 900 [] .l0 h2 M2 R2 es2 (by rw [show 260 * min l.length 5 + (19740 - 260 * min l.length 5) = 19740 by omega]; exact V2) T2 (.inl ⟨rfl, rfl⟩) rfl (by omega) (by omega)
 rw [dEa]
 unfold s11 aAe aWv aZt
 simp only [iD] at e1 e2 e3
 simp only [th, iD] at e1 ⊢
 simp only [g0, g1, show ∀ (a b c : DV) (l : List DV), (a :: b :: c :: l).getD 2 aW = c from fun _ _ _ _ => rfl, e1, aV, e2, pE0, bX]
 rw [show ∀ (a b c : DV) (h : Hp), zU iR 900 (.i .i64 n) a b c (.i .i64 (Int.negSucc 0)) h = cI iR 900 (iD n) a b c (iD (jG n)) h from fun a b c h => bFp n iR 900 a b c h]
 unfold cI aYc aVf aVv aQy
 have tl := t1.ld
 simp only [th, iD] at tl e4 ⊢
 simp only [tl, aV, aXk, e3]
 rw [e4]
 have aa := aZk n 899 h3
 have lv := bSn
 have le := S3.len (h' := h3)
 unfold fL
 simp only [iD] at aa le
 simp only [cBl, aa, aV, iI, neF (rfl : jG n = jG n), bX, le, cU]
 by_cases c : jG n = (l2.length : Int)
 ·refine ⟨h3, ?_⟩
  simp only [eqX c, bT, lv, aV]
 ·have em := V3.K.W.memory 899
  have md := bVs V3 899
  obtain ⟨h4, V4, U4, q | q⟩ := cMm V3 S3 (by omega) n r (m := 896) (by omega)
  ·have em4 := V4.K.W.memory 899
   have md4 := bVs V4 899
   have q2 := q.2
   have gg : ∀ a : Int, (a == a) = true := fun a => eqX rfl
   simp only [iD] at md md4 q2
   refine ⟨h4, ?_⟩
   simp only [iJ c, bX, cHh, em, aV, cFc, md, cPc, q2, px0, px1, cU, show ((0 : Int) == Int.ofNat 0) = true from rfl, show ((20 : Int) == Int.ofNat 20) = true from rfl, aQq, cY, em4, md4, gg, lv]
  ·exact absurd (.inl c) q.1
end Go.Dd

namespace Go.Dd
open Go.Proofs
theorem bDz {w : World} {base n : Nat} {a : Addr} {cs : List Value} (h : w.cells? base a n = some cs) : cs.length = n ∧ ∀ j, j < n → w.cell? (a.add j) = cs[j]? := by
 unfold World.cells? at h
 split at h
 ·exact ⟨by simpa using mapM_some_length h, fun j hj => mapM_some_get h j j (by simp [hj])⟩
 ·cases h
theorem aWu {α : Type} {P : Nat → α → Prop} : ∀ n : Nat, (∀ i, i < n → ∃ t, P i t) → ∃ l : List α, l.length = n ∧ ∀ i t, l[i]? = some t → P i t
 | 0, _ => ⟨[], rfl, fun i t h => by cases h⟩
 | n + 1, h => by
  obtain ⟨l, h1, h2⟩ := aWu n fun i hi => h i (by omega)
  obtain ⟨t, ht⟩ := h n (by omega)
  refine ⟨l ++ [t], by simp [h1], fun i u hu => ?_⟩
  rcases Nat.lt_or_ge i n with q | q
  ·rw [List.getElem?_append_left (by omega)] at hu
   exact h2 i u hu
  ·rw [List.getElem?_append_right (by omega)] at hu
   have e : i - l.length = 0 := by
    rcases Nat.eq_zero_or_pos (i - l.length) with e | e
    ·exact e
    ·rw [List.getElem?_eq_none (by simp; omega)] at hu; cases hu
   rw [e] at hu
   cases hu
   have : i = n := by omega
   rw [this]
   exact ht
theorem aVc : ∀ (l : List Thg) (j : Nat) (v : DV), (flT l)[j]? = some v → ∃ i t, l[i]? = some t ∧ ((j = i * 3 ∧ v = iD t.1) ∨ (j = i * 3 + 1 ∧ v = iD t.2.1) ∨ (j = i * 3 + 2 ∧ v = .s t.2.2))
 | [], j, v, h => by cases h
 | a :: l, j, v, h => by
  have e : flT (a :: l) = [iD a.1, iD a.2.1, .s a.2.2] ++ flT l := rfl
  rw [e] at h
  match j, h with
  | 0, h => cases h; exact ⟨0, a, rfl, .inl ⟨rfl, rfl⟩⟩
  | 1, h => cases h; exact ⟨0, a, rfl, .inr (.inl ⟨rfl, rfl⟩)⟩
  | 2, h => cases h; exact ⟨0, a, rfl, .inr (.inr ⟨rfl, rfl⟩)⟩
  | j + 3, h =>
   obtain ⟨i, t, h1, h2⟩ := aVc l j v h
   refine ⟨i + 1, t, h1, ?_⟩
   rcases h2 with ⟨q, e⟩ | ⟨q, e⟩ | ⟨q, e⟩
   ·exact .inl ⟨by omega, e⟩
   ·exact .inr (.inl ⟨by omega, e⟩)
   ·exact .inr (.inr ⟨by omega, e⟩)
section
variable {H : Type} {enc : TypeId × Value → H} {w : World}
theorem aMh {n : Nat} {v : Value} {x : DataW H × List MemPlace} (hx : DataW.trod enc Tryz.prog w 0 (fun _ => true) true n 51 [v] = some x) :
  ∃ ρ bl L l, Ro w ρ ⟨pK 1023, bl⟩ ∧ VR ρ L v ∧ TgS ⟨pK 1023, bl⟩ L l ∧ (∀ t ∈ l, i64 t.2.1 ∧ byS t.2.2) ∧ bl.get (pK 1023) = none := by
 rcases DataW.trod_slice Tryz.underlying51 hx with ⟨h1, _⟩ | ⟨a, len, cap, elems, rest, m, _, h1, _, _, h4, h5, h6, h7, _⟩
 ·cases h1
  exact ⟨fun _ => none, .e, .l0, [], Ro.none w _, .l0, .inl ⟨rfl, rfl⟩, fun t ht => (by cases ht), by cases pK 1023 <;> rfl⟩
 ·cases h1
  rw [aJh] at h7
  let L : Loc := ⟨a.block, a.off, 0, a.spot⟩
  have ha : a = eU L 0 := rfl
  have hcell : ∀ i, i < len → ∃ t : Thg, w.cell? (eU L (i * 3)) = some (.int .i64 t.1) ∧ w.cell? (eU L (i * 3 + 1)) = some (.int .i64 t.2.1) ∧ (∃ bs : ByteArray, w.cell? (eU L (i * 3 + 2)) = some (.string bs) ∧ t.2.2 = bs.data.toList.map (·.toNat)) ∧ (Lit.int .i64 t.2.1).wf = true := by
   intro i hi
   have e := h7 i hi
   rw [show elems[i]? = some elems[i] by simp [h6, hi]] at e
   simp only [Option.bind_eq_some_iff] at e
   obtain ⟨cs, e1, e2⟩ := e
   obtain ⟨c1, c2⟩ := bDz e1
   obtain ⟨kd, N, s, rfl, _, _, w1, _⟩ := uZ e2
   have q0 := c2 0 (by omega)
   have q1 := c2 1 (by omega)
   have q2 := c2 2 (by omega)
   rw [ha, fE, fE] at q0 q1 q2
   rw [Nat.zero_add] at q0 q1 q2
   exact ⟨(kd, N, s.data.toList.map (·.toNat)), by simpa using q0, by simpa using q1, ⟨s, by simpa using q2, rfl⟩, w1⟩
  obtain ⟨l, hl, hP⟩ := aWu len hcell
  have R0 := Ro.none w (pK 1022)
  obtain ⟨R', ext⟩ := R0.add L (flT l) rfl (fun j v hv => by
   obtain ⟨i, t, h1, h2⟩ := aVc l j v hv
   obtain ⟨p1, p2, ⟨bs, p3, p4⟩, _⟩ := hP i t h1
   rcases h2 with ⟨rfl, rfl⟩ | ⟨rfl, rfl⟩ | ⟨rfl, rfl⟩
   ·exact ⟨_, p1, .i _ _⟩
   ·exact ⟨_, p2, .i _ _⟩
   ·exact ⟨_, p3, .s _ bs p4.symm⟩)
  have e1 : (pK 1022).succ = pK 1023 := cYr
  refine ⟨lO (fun _ => none) (pK 1022) L, Tr.set (.row .ro (flT l)) (pK 1022) .e, .l (pK 1022) 0 l.length cap, l, ?_, ?_, .inr ⟨pK 1022, cap, rfl, aYz _ _ _ _, by rw [bRl]; omega⟩, fun t ht => ?_, ?_⟩
  ·rw [← e1]; exact R'
  ·rw [hl]
   exact .l (pK 1022) 0 len cap L (bU _ _ _)
  ·obtain ⟨i, hi⟩ := List.getElem?_of_mem ht
   obtain ⟨_, _, ⟨bs, _, p4⟩, w1⟩ := hP i t hi
   refine ⟨bHh w1, ?_⟩
   rw [p4]
   exact aKe bs
  ·rw [dQv _ _ _ _ (fun e => by have := congrArg Pos.toNat e; rw [bQc, bRl] at this; omega)]
   cases pK 1023 <;> rfl
end
end Go.Dd

