/- A part of the proof: TX3 TX4 GN WR WM WA WC WP1 WP2 WP3 WP4 WP5 WP6 WP7 WQ1 WQ2 WQ3 WQ4 WQ5 WQ6 WQ7 WQ8 WQ9 XL8 WA8 WQR: each text has a comment of its own. -/
import Derived.Test.YtilmobdncapnbaaGreatPt8
import Derived.WalkKit
import Derived.ProofKit
import Derived.OpenShut
import Derived.ChangeMaps5
set_option linter.unusedVariables false
set_option linter.unusedSimpArgs false
set_option linter.constructorNameAsVariable false
set_option maxRecDepth 100000
namespace Go.Dd
open Go.Proofs
theorem rD {w : Int} {pl : WT} (h : bV w pl ≠ 0) : dD w pl = true := by
 unfold dD
 split <;> first | rfl | skip
 rw [cIk h]
 simp
theorem tE {w : Int} {pl : WT} {k : Nat} (hk : k < 16000000) (h : dD w pl = true) : dD w (pl.set k (.ofNat 1)) = true := by
 by_cases ha : bV w pl = 0
 ·unfold dD at h ⊢
  by_cases w0 : w = 0
  ·subst w0; rfl
  ·by_cases w2 : w = 2
   ·subst w2; rfl
   ·by_cases w4 : w = 4
    ·subst w4; rfl
    ·split
     ·exact absurd rfl w0
     ·exact absurd rfl w2
     ·exact absurd rfl w4
     ·split at h
      ·exact absurd rfl w0
      ·exact absurd rfl w2
      ·exact absurd rfl w4
      ·rw [ha] at h
       have : dF w = true := by simpa using h
       rw [this]
       rfl
 ·exact rD (by rw [qF hk ha]; exact ha)
theorem TxO.inj {M : MemV} {c1 c2 o : Int} {s t : List Nat} (h1 : TxO M c1 o s) (h2 : TxO M c2 o t) : s = t := by
 have hl : s.length = t.length := by
  have := h1.hd.symm.trans h2.hd
  have := Int.ofNat.inj this
  omega
 refine List.ext_getElem? fun i => ?_
 rcases Nat.lt_or_ge i s.length with q | q
 ·obtain ⟨c, hc⟩ : ∃ c, s[i]? = some c := ⟨s[i], by simp [q]⟩
  obtain ⟨d, hd⟩ : ∃ d, t[i]? = some d := ⟨t[i]'(by omega), by simp⟩
  have := (h1.get i c hc).symm.trans (h2.get i d hd)
  rw [hc, hd, Int.ofNat.inj this]
 ·rw [List.getElem?_eq_none q, List.getElem?_eq_none (by omega)]
def dQd (M : MemV) (R : List Int) (es : List (DV × DV)) : Prop := ∀ e ∈ es, ∃ s x, e = (.s s, iD x) ∧ TxO M (R.getD 13 0) x s
theorem aWm {es : List (DV × DV)} (s : List Nat) : (∀ e ∈ es, ∃ (k : List Nat) (x : Int), e = (.s k, iD x)) →
  (∃ x, dJ .string (.s s) es = some (some (iD x)) ∧ (DV.s s, iD x) ∈ es) ∨ (dJ .string (.s s) es = some none ∧ ∀ i, uX .string (.s s) es i = some none) := by
 induction es with
 | nil => exact fun _ => .inr ⟨rfl, fun _ => rfl⟩
 | cons e es ih =>
  intro h
  obtain ⟨k, x, he⟩ := h e (by simp)
  subst he
  cases hk : rQ s k with
  | true =>
   have := (mS s k).1 hk
   subst this
   exact .inl ⟨x, by simp only [dJ, mX, hk], by simp⟩
  | false =>
   rcases ih fun e he => h e (by simp [he]) with ⟨y, h1, h2⟩ | ⟨h1, h2⟩
   ·exact .inl ⟨y, by simp only [dJ, mX, hk]; exact h1, by simp [h2]⟩
   ·exact .inr ⟨by simp only [dJ, mX, hk]; exact h1, fun i => by simp only [uX, mX, hk]; exact h2 _⟩
theorem bNp {es l : List (DV × DV)} {k v : DV} (h : dJ .string k es = some (some v)) : dJ .string k (es ++ l) = some (some v) := by
 induction es with
 | nil => cases h
 | cons e es ih =>
  simp only [List.cons_append, dJ] at h ⊢
  split
  ·rename_i hk; rw [hk] at h; exact h
  ·rename_i hk; rw [hk] at h; exact ih h
  ·rename_i hk; rw [hk] at h; cases h
theorem bZp {es : List (DV × DV)} {s : List Nat} {v : DV} (h : dJ .string (.s s) es = some none) : dJ .string (.s s) (es ++ [(.s s, v)]) = some (some v) := by
 induction es with
 | nil =>
  have : rQ s s = true := (mS s s).2 rfl
  simp only [List.nil_append, dJ, mX, this]
 | cons e es ih =>
  simp only [List.cons_append, dJ] at h ⊢
  split
  ·rename_i hk; rw [hk] at h; cases h
  ·rename_i hk; rw [hk] at h; exact ih h
  ·rename_i hk; rw [hk] at h; cases h
structure Wk (h : Hp) (M : MemV) (R : List Int) (es : List (DV × DV)) : Prop where
 W : Wd h M R es
 G : Good M
 sy : dQd M R es
 r0 : dD (R.getD 0 0) M.pl = true
 rk : ∀ i, i < 16 → bV (R.getD (2 + i) 0) M.pl ≠ 0
structure Stay (k : Nat) (M M' : MemV) (R R' : List Int) (es es' : List (DV × DV)) : Prop where
 n : M'.n = M.n
 fin : M'.fin ≤ M.fin + k
 made : M'.made ≤ M.made + k
 lo : M.fin ≤ M'.fin
 tx : ∀ cls o s, TxO M cls o s → TxO M' cls o s
 at' : ∀ o, bV o M.pl ≠ 0 → bV o M'.pl = bV o M.pl
 r : ∀ i, R'.getD (i + 1) 0 = R.getD (i + 1) 0
 fd : ∀ s v, dJ .string (.s s) es = some (some v) → dJ .string (.s s) es' = some (some v)
 gi : ∀ CL, GI M R CL → GI M' R' CL
 old : ∀ j, j < M.fin → M'.t.get j = M.t.get j
theorem Stay.refl (k : Nat) (M : MemV) (R : List Int) (es : List (DV × DV)) : Stay k M M R R es es := ⟨rfl, by omega, by omega, by omega, fun _ _ _ h => h, fun _ _ => rfl, fun _ => rfl, fun _ _ h => h, fun _ h => h, fun _ _ => rfl⟩
theorem Stay.trans {a b : Nat} {M M' M2 : MemV} {R R' R2 : List Int} {es es' es2 : List (DV × DV)} (h : Stay a M M' R R' es es') (k : Stay b M' M2 R' R2 es' es2) : Stay (a + b) M M2 R R2 es es2 :=
 ⟨k.n.trans h.n, by have := h.fin; have := k.fin; omega, by have := h.made; have := k.made; omega, by have := h.lo; have := k.lo; omega, fun c o s t => k.tx _ _ _ (h.tx _ _ _ t),
  fun o ho => by have h1 := h.at' o ho; rw [k.at' o (by rw [h1]; exact ho), h1], fun i => (k.r i).trans (h.r i), fun s v e => k.fd s v (h.fd s v e), fun CL I => k.gi CL (h.gi CL I), fun j hj => by rw [k.old j (by have := h.lo; omega)]; exact h.old j hj⟩
theorem Grown.stay {M M' : MemV} {f : Nat} {cls : Int} {l : List Int} (g : Grown M M' f cls l) (G : Good M) (R : List Int) (es : List (DV × DV)) (N : ∀ CL, GI M R CL → NewI M R CL f cls l) : Stay (l.length + 3) M M' R R es es :=
 ⟨g.n, by rw [g.fin]; exact Nat.le_refl _, by rw [g.made]; omega, by rw [g.fin]; omega, fun _ _ _ t => g.txo G t, fun o ho => by rw [g.pl]; exact qF (by have := G.le; have := G.hi; omega) ho, fun _ => rfl, fun _ _ h => h, fun CL I => g.gi G I (N CL I), fun j hj => g.old j hj⟩
theorem Grown.wk {h h' : Hp} {M M' : MemV} {R : List Int} {es : List (DV × DV)} {f : Nat} {cls : Int} {l : List Int} (g : Grown M M' f cls l) (K : Wk h M R es) (W' : Wd h' M' R es) (hc : bV cls M.pl ≠ 0) (hf : f ≤ 2) (h256 : l.length ≤ 256) (room : M.fin + l.length + 3 ≤ M.n) (hm : M.made < 899999) : Wk h' M' R es := by
 have hk : M.fin < 16000000 := by have := K.G.le; have := K.G.hi; omega
 refine ⟨W', g.good K.G hc hf h256 room hm, fun e he => ?_, by rw [g.pl]; exact tE hk K.r0, fun i hi => by rw [g.pl, qF hk (K.rk i hi)]; exact K.rk i hi⟩
 obtain ⟨s, x, h1, h2⟩ := K.sy e he
 exact ⟨s, x, h1, g.txo K.G h2⟩
section
variable {h : Hp} {M : MemV} {R : List Int} {es : List (DV × DV)}
theorem Wd.setR0 (W : Wd h M R es) (v : Int) : aG 1 (.p (aR 4) 0) (iD v) h = some (aV, ⟨h.next, Tr.set (.row .ex ((R.set 0 v).map iD)) (aR 4) h.bl⟩) ∧ Wd ⟨h.next, Tr.set (.row .ex ((R.set 0 v).map iD)) (aR 4) h.bl⟩ M (R.set 0 v) es ∧
  Up h ⟨h.next, Tr.set (.row .ex ((R.set 0 v).map iD)) (aR 4) h.bl⟩ := by
 obtain ⟨m1, m2, m3, m4, m5, m6⟩ := kK W.mem
 have ne : ∀ b : Pos, b.toNat ≠ 1027 → (Tr.set (.row .ex ((R.set 0 v).map iD)) (aR 4) h.bl).get b = h.bl.get b := fun b hb => by
  rw [dRb]
  intro e; rw [e, pn4] at hb; exact hb rfl
 refine ⟨?_, ⟨(ne _ (by rw [pn7]; omega)).trans W.w, (by show (Tr.set _ (aR 4) _).get (aR 4) = _; exact dRc _ _ _), by simp [W.rl], (ne _ (by rw [pn5]; omega)).trans W.sy, ?_, W.nx, W.wb, W.pb⟩, ⟨Nat.le_refl _, fun b h1 h2 => ne b (by omega)⟩⟩
 ·have hp : gC 0 (R.map iD) [iD v] = some ((R.set 0 v).map iD) := by
   have hl := W.rl
   cases R with
   | nil => simp at hl
   | cons a l =>
    show kX (iD a :: l.map iD) [iD v] = _
    have : kX (l.map iD) [] = some (l.map iD) := by cases l.map iD <;> rfl
    simp only [kX, DV.one, Bool.and_self, if_true, this, Option.map_some]
    rfl
  have hw : Kind.ex.writable = true := rfl
  simp only [aG, dI, List.length_singleton, if_true, dG, W.r, hw, hp]
 ·exact mV ((ne _ (by rw [pn3]; omega)).trans m1) ((ne _ (by rw [W.wb, pn1]; omega)).trans m2) ((ne _ (by rw [W.pb, pn2]; omega)).trans m3) m4 m5 m6
theorem Wd.setS (W : Wd h M R es) (es' : List (DV × DV)) : Wd ⟨h.next, Tr.set (.mp es') (aR 5) h.bl⟩ M R es' ∧ Up h ⟨h.next, Tr.set (.mp es') (aR 5) h.bl⟩ := by
 obtain ⟨m1, m2, m3, m4, m5, m6⟩ := kK W.mem
 have ne : ∀ b : Pos, b.toNat ≠ 1028 → (Tr.set (.mp es') (aR 5) h.bl).get b = h.bl.get b := fun b hb => by
  rw [dRb]
  intro e; rw [e, pn5] at hb; exact hb rfl
 exact ⟨⟨(ne _ (by rw [pn7]; omega)).trans W.w, (ne _ (by rw [pn4]; omega)).trans W.r, W.rl, (by show (Tr.set _ (aR 5) _).get (aR 5) = _; exact dRc _ _ _),
  mV ((ne _ (by rw [pn3]; omega)).trans m1) ((ne _ (by rw [W.wb, pn1]; omega)).trans m2) ((ne _ (by rw [W.pb, pn2]; omega)).trans m3) m4 m5 m6, W.nx, W.wb, W.pb⟩, ⟨Nat.le_refl _, fun b h1 h2 => ne b (by omega)⟩⟩
theorem Wk.push (K : Wk h M R es) {x y : Int} (hx : dD x M.pl = true) (hy : dD y M.pl = true) (room : M.fin + 5 ≤ M.n) (hm : M.made < 899999) {n : Nat} (hn : 256 < n) :
  ∃ h' M', cZ (n + 2) 73 [.p (aR 7) 0, .i .i64 x, .i .i64 y] h = some (.t [.i .i64 (.ofNat (M.fin * 2)), .i .i64 (.ofNat 0)], h') ∧ Wk h' M' R es ∧ Up h h' ∧ Grown M M' 0 (R.getD 11 0) [x, y] := by
 have hk : M.fin < 16000000 := by have := K.G.le; have := K.G.hi; omega
 have fl : aL [.i .i64 (Int.ofNat 0), .i .i64 (Int.ofNat 0)] 2 [(0, 1, .i .i64 x), (1, 1, .i .i64 y)] h = some (.l h.next 0 2 2, ⟨h.next.succ, Tr.set (.row .ex ([x, y].map iD)) h.next h.bl⟩) := by
  simp [aL, iY, dI]
 obtain ⟨U1, W1⟩ := K.W.new (.row .ex ([x, y].map iD))
 have S : SlI (.l h.next 0 2 2) [x, y] ⟨h.next.succ, Tr.set (.row .ex ([x, y].map iD)) h.next h.bl⟩ := .inr ⟨h.next, 2, .ex, rfl, dRc _ _ _, .inr (Nat.le_trans (by decide) K.W.nx), by show _ < (h.next.succ).toNat; rw [dRe]; omega⟩
 have K1 : Wk ⟨h.next.succ, Tr.set (.row .ex ([x, y].map iD)) h.next h.bl⟩ M R es := ⟨W1, K.G, K.sy, K.r0, K.rk⟩
 obtain ⟨h', M', e1, W2, U2, _, g⟩ := W1.make61 K.G (K.rk 9 (by omega)) (f := 0) (by omega) S (by simp) (by simpa using room) (fun v hv => by
  simp only [List.mem_cons, List.not_mem_nil, or_false] at hv
  rcases hv with rfl | rfl
  ·exact tE hk hx
  ·exact tE hk hy) hn
 refine ⟨h', M', ?_, g.wk K1 W2 (K.rk 9 (by omega)) (by omega) (by simp) (by simpa using room) hm, U1.trans U2, g⟩
 rw [oO 73 rfl, cRe]
 unfold s73
 simp only [g0, g1, g2, aU, K.W.known (show 9 < 16 by omega), fl]
 rw [show (2 : Nat) + 9 = 11 from rfl] at e1 ⊢
 rw [e1]
 simp only [aU, oM, oN]
theorem Wk.symbol (K : Wk h M R es) {s : List Nat} (hs : ∀ c ∈ s, c < 256) (room : M.fin + 70 ≤ M.n) (hm : M.made < 800000) {n : Nat} (hn : 300 < n) :
  ∃ a e h' M' R' es', cZ (n + 3) 44 [.p (aR 7) 0, .s s] h = some (.t [.i .i64 a, .i .i64 e], h') ∧ Wk h' M' R' es' ∧ Up h h' ∧ Stay 80 M M' R R' es es' ∧
   ((¬ (1 ≤ s.length ∧ s.length ≤ 60) ∧ e = 1 ∧ a = 0) ∨ ((1 ≤ s.length ∧ s.length ≤ 60) ∧ e = 0 ∧ dJ .string (.s s) es' = some (some (iD a)) ∧ TxO M' (R.getD 13 0) a s)) := by
 rw [oO 44 rfl, cQk]
 unfold s44
 have el : ∀ h, dH (.s s) h = some (.i .i64 (s.length : Int), h) := fun h => rfl
 by_cases c1 : s.length < 1
 ·refine ⟨0, 1, h, M, R, es, ?_, K, Up.refl h, Stay.refl _ _ _ _, .inl ⟨by omega, rfl, rfl⟩⟩
  have d1 : decide ((s.length : Int) < Int.ofNat 1) = true := decide_eq_true (by simp; omega)
  simp only [g0, g1, el, aU, cK, d1, eK, xA, cJ, bO]
  rfl
 ·have d1 : decide ((s.length : Int) < Int.ofNat 1) = false := decide_eq_false (by simp; omega)
  by_cases c2 : s.length > 60
  ·refine ⟨0, 1, h, M, R, es, ?_, K, Up.refl h, Stay.refl _ _ _ _, .inl ⟨by omega, rfl, rfl⟩⟩
   have d2 : decide ((s.length : Int) > Int.ofNat 60) = true := decide_eq_true (by simp; omega)
   simp only [g0, g1, el, aU, cK, fL, d1, d2, fT, cE, bO]
   rfl
  ·have d2 : decide ((s.length : Int) > Int.ofNat 60) = false := decide_eq_false (by simp; omega)
   have hl : 1 ≤ s.length ∧ s.length ≤ 60 := by omega
   simp only [g0, g1, el, aU, cK, fL, d1, d2, fT, cE, bM, iF, sL, K.W.l2]
   rcases aWm s (fun e he => by obtain ⟨k, x, h1, _⟩ := K.sy e he; exact ⟨k, x, h1⟩) with ⟨x, f1, f2⟩ | ⟨f1, f2⟩
   ·
    obtain ⟨k, y, e1, T⟩ := K.sy _ f2
    simp only [bR, DV.s.injEq, DV.i.injEq, true_and] at e1
    obtain ⟨rfl, rfl⟩ := e1
    have hx : x ≠ 0 := fun e => T.at0 (by rw [e]; rfl)
    have z1 : (x != Int.ofNat 0) = true := by
     have : (x == Int.ofNat 0) = false := by simpa using hx
     rw [bne, this]; rfl
    have lk : dO .string (.i .i64 (Int.ofNat 0)) false (.m (aR 5)) (.s s) h = some (iD x, h) := by
     simp only [dO, fM, K.W.sy, f1, cond_false]
    refine ⟨x, 0, h, M, R, es, ?_, K, Up.refl h, Stay.refl _ _ _ _, .inr ⟨hl, rfl, f1, T⟩⟩
    simp only [lk, aU, eL, z1, bO]
    rfl
   ·
    have lk : dO .string (.i .i64 (Int.ofNat 0)) false (.m (aR 5)) (.s s) h = some (.i .i64 (Int.ofNat 0), h) := by
     simp only [dO, fM, K.W.sy, f1, cond_false]
    have z0 : (Int.ofNat 0 != Int.ofNat 0) = false := rfl
    obtain ⟨h1, M1, e1, W1, U1, g1⟩ := K.W.bytes49 K.G (K.rk 11 (by omega)) hs (by omega) (by omega) hn
    have K1 : Wk h1 M1 R es := g1.wk K W1 (K.rk 11 (by omega)) (by omega) (by simp; omega) (by simp; omega) (by omega)
    have T1 : TxO M1 (R.getD 13 0) (.ofNat (M.fin * 2)) s := g1.new_txo K.G hs (by omega)
    have hf1 := g1.fin
    have hn1 := g1.n
    have hd1 := g1.made
    rw [List.length_map] at hf1
    obtain ⟨h2, M2, e2, K2, U2, g2⟩ := K1.push (x := .ofNat (M.fin * 2)) (y := R.getD 0 0) (rD T1.at0) K1.r0 (by omega) (by omega) (n := n) (by omega)
    have T2 := g2.txo K1.G T1
    have G1 := K1.G
    have ha : bV (.ofNat (M1.fin * 2)) M2.pl = M1.fin := by rw [g2.pl]; exact aDu G1.lo (by have := G1.le; have := G1.hi; omega)
    obtain ⟨e3, W3, U3⟩ := K2.W.setR0 (.ofNat (M1.fin * 2))
    obtain ⟨W4, U4⟩ := W3.setS (es ++ [(.s s, .i .i64 (Int.ofNat 0))])
    obtain ⟨W5, U5⟩ := W4.setS (es ++ [(.s s, .i .i64 (.ofNat (M.fin * 2)))])
    have rset : ∀ i, (R.set 0 (Int.ofNat (M1.fin * 2))).getD (i + 1) 0 = R.getD (i + 1) 0 := fun i => by
     simp [List.getD, List.getElem?_set]
    have me : fQ .string (.i .i64 (Int.ofNat 0)) (.m (aR 5)) (.s s) ⟨h2.next, Tr.set (.row .ex ((R.set 0 (Int.ofNat (M1.fin * 2))).map iD)) (aR 4) h2.bl⟩ =
      some (.t [.i .i64 (Int.ofNat 0), .i .i64 (.ofNat es.length)], ⟨h2.next, Tr.set (.mp (es ++ [(.s s, .i .i64 (Int.ofNat 0))])) (aR 5) (Tr.set (.row .ex ((R.set 0 (Int.ofNat (M1.fin * 2))).map iD)) (aR 4) h2.bl)⟩) := by
     simp only [fQ, W3.sy, f2]
     rfl
    have ms : dX (.m (aR 5)) (.i .i64 (.ofNat es.length)) (.i .i64 (.ofNat (M.fin * 2))) ⟨h2.next, Tr.set (.mp (es ++ [(.s s, .i .i64 (Int.ofNat 0))])) (aR 5) (Tr.set (.row .ex ((R.set 0 (Int.ofNat (M1.fin * 2))).map iD)) (aR 4) h2.bl)⟩ =
      some (aV, ⟨h2.next, Tr.set (.mp (es ++ [(.s s, .i .i64 (.ofNat (M.fin * 2)))])) (aR 5) (Tr.set (.mp (es ++ [(.s s, .i .i64 (Int.ofNat 0))])) (aR 5) (Tr.set (.row .ex ((R.set 0 (Int.ofNat (M1.fin * 2))).map iD)) (aR 4) h2.bl))⟩) := by
     have q1 : (es ++ [(DV.s s, DV.i .i64 (Int.ofNat 0))])[es.length]? = some (.s s, .i .i64 (Int.ofNat 0)) := by simp
     have q2 : (es ++ [(DV.s s, DV.i .i64 (Int.ofNat 0))]).set es.length (.s s, .i .i64 (.ofNat (M.fin * 2))) = es ++ [(.s s, .i .i64 (.ofNat (M.fin * 2)))] := by simp
     simp only [dX, W4.sy, q1, q2]
    have ix : ∀ h, aJ 1 (.l (aR 4) 0 18 18) (.i .i64 (Int.ofNat 0)) h = some (.p (aR 4) 0, h) := fun h => rfl
    refine ⟨.ofNat (M.fin * 2), 0, _, M2, R.set 0 (.ofNat (M1.fin * 2)), es ++ [(.s s, .i .i64 (.ofNat (M.fin * 2)))], ?_, ⟨W5, K2.G, ?_, ?_, ?_⟩, (((U1.trans U2).trans U3).trans U4).trans U5, ?_, .inr ⟨hl, rfl, bZp f1, T2⟩⟩
    ·simp only [lk, aU, eL, z0, bM, K.W.known (show 11 < 16 by omega), show 2 + 11 = 13 from rfl, e1, oM, oN, K1.W.l1, ix, iF, sL, K1.W.root (show 0 < 18 by omega), e2, K2.W.l1, K2.W.l2, e3, me, ms]
     rfl
    ·intro e he
     simp only [List.mem_append, List.mem_singleton] at he
     rcases he with he | rfl
     ·obtain ⟨k, y, q1, q2⟩ := K2.sy e he
      exact ⟨k, y, q1, by rw [show (13 : Nat) = 12 + 1 from rfl, rset]; exact q2⟩
     ·exact ⟨s, _, rfl, by rw [show (13 : Nat) = 12 + 1 from rfl, rset]; exact T2⟩
    ·have : (R.set 0 (Int.ofNat (M1.fin * 2))).getD 0 0 = Int.ofNat (M1.fin * 2) := by
      have hrl := K.W.rl
      cases R with
      | nil => simp at hrl
      | cons a l => rfl
     rw [this]
     exact rD (by rw [ha]; have := G1.lo; omega)
    ·intro i hi
     rw [show 2 + i = (1 + i) + 1 by omega, rset, show (1 + i) + 1 = 2 + i by omega]
     exact K2.rk i hi
    ·have st := (g1.stay K.G R es (fun CL I => I.newK (i := 11) (.inr (.inl ⟨.inr rfl, rfl⟩)) (by rw [List.length_map]; omega) (fun _ v hv => by obtain ⟨c, q1, q2⟩ := List.mem_map.1 hv; exact ⟨c, hs c q1, q2.symm⟩))).trans (g2.stay K1.G R es (fun CL I => I.newK (i := 9) (.inl ⟨rfl, rfl⟩) (by simp) (fun q => by cases q)))
     rw [List.length_map] at st
     have hf2 := g2.fin
     have hd2 := g2.made
     refine ⟨st.n, ?_, ?_, st.lo, st.tx, st.at', rset, fun k v e => bNp e, fun CL I => (st.gi CL I).roots rset, st.old⟩
     ·simp at hf2; omega
     ·omega
theorem Wk.string (K : Wk h M R es) {s : List Nat} (hs : ∀ c ∈ s, c < 256) (room : M.fin + 260 ≤ M.n) (hm : M.made < 800000) {n : Nat} (hn : 300 < n) :
  ∃ a e h' M', cZ (n + 3) 43 [.p (aR 7) 0, .s s] h = some (.t [.i .i64 a, .i .i64 e], h') ∧ Wk h' M' R es ∧ Up h h' ∧ Stay 260 M M' R R es es ∧
   ((¬ s.length ≤ 250 ∧ e = 1 ∧ a = 0) ∨ (s.length ≤ 250 ∧ e = 0 ∧ a = .ofNat (M.fin * 2) ∧ TxO M' (R.getD 12 0) a s)) := by
 rw [oO 43 rfl, cQf]
 unfold s43
 have el : ∀ h, dH (.s s) h = some (.i .i64 (s.length : Int), h) := fun h => rfl
 by_cases c1 : s.length > 250
 ·refine ⟨0, 1, h, M, ?_, K, Up.refl h, Stay.refl _ _ _ _, .inl ⟨by omega, rfl, rfl⟩⟩
  have d1 : decide ((s.length : Int) > Int.ofNat 250) = true := decide_eq_true (by simp; omega)
  simp only [g0, g1, el, aU, fL, d1, bO]
  rfl
 ·have d1 : decide ((s.length : Int) > Int.ofNat 250) = false := decide_eq_false (by simp; omega)
  obtain ⟨h1, M1, e1, W1, U1, g1⟩ := K.W.bytes49 K.G (K.rk 10 (by omega)) hs (by omega) (by omega) hn
  have K1 : Wk h1 M1 R es := g1.wk K W1 (K.rk 10 (by omega)) (by omega) (by simp; omega) (by simp; omega) (by omega)
  have T1 : TxO M1 (R.getD 12 0) (.ofNat (M.fin * 2)) s := g1.new_txo K.G hs (by omega)
  refine ⟨.ofNat (M.fin * 2), 0, h1, M1, ?_, K1, U1, ?_, .inr ⟨by omega, rfl, rfl, T1⟩⟩
  ·simp only [g0, Dd.g1, el, aU, fL, d1, bM, K.W.known (show 10 < 16 by omega), show 2 + 10 = 12 from rfl, e1, oM, oN]
   rfl
  ·have st := g1.stay K.G R es (fun CL I => I.newK (i := 10) (.inr (.inl ⟨.inl rfl, rfl⟩)) (by rw [List.length_map]; omega) (fun _ v hv => by obtain ⟨c, q1, q2⟩ := List.mem_map.1 hv; exact ⟨c, hs c q1, q2.symm⟩))
   rw [List.length_map] at st
   exact ⟨st.n, by have := st.fin; omega, by have := st.made; omega, st.lo, st.tx, st.at', st.r, st.fd, st.gi, st.old⟩
end
end Go.Dd

namespace Go.Dd
open Go.Proofs
noncomputable def byE (t : WT) (s : List Nat) : Nat → Bool := List.rec (motive := fun _ => Nat → Bool) (fun _ => true) (fun c _ ih a => Nat.blt c 256 && (gH (t.get a) (.ofNat c) && ih (Nat.add a 1))) s
noncomputable def bXo (M : MemV) (cls : Int) (e : List Nat × Nat) : Bool :=
 !(Nat.beq (bV (.ofNat e.2) M.pl) 0) && (gH (M.t.get (bV (.ofNat e.2) M.pl)) (.ofNat (Nat.add (Nat.mul e.1.length 4) 2)) && (gH (M.t.get (Nat.add (bV (.ofNat e.2) M.pl) 1)) cls && (Nat.ble e.1.length 256 && byE M.t e.1 (Nat.add (bV (.ofNat e.2) M.pl) 3))))
theorem bJg (t : WT) : ∀ (s : List Nat) (a : Nat), byE t s a = true → (∀ c ∈ s, c < 256) ∧ ∀ i c, s[i]? = some c → t.get (a + i) = .ofNat c
 | [], a, _ => ⟨by simp, fun i c h => by simp at h⟩
 | c :: s, a, h => by
  change (Nat.blt c 256 && (gH (t.get a) (.ofNat c) && byE t s (a + 1))) = true at h
  simp only [Bool.and_eq_true, gB, decide_eq_true_eq] at h
  obtain ⟨h1, h2⟩ := bJg t s (a + 1) h.2.2
  refine ⟨fun d hd => ?_, fun i d hi => ?_⟩
  ·simp only [List.mem_cons] at hd
   rcases hd with rfl | hd
   ·exact h.1
   ·exact h1 d hd
  ·cases i with
   | zero =>
    simp only [List.getElem?_cons_zero, bE] at hi
    subst hi
    exact mM _ _ h.2.1
   | succ i =>
    rw [show a + (i + 1) = a + 1 + i by omega]
    exact h2 i d (by simpa using hi)
theorem bBj {M : MemV} {cls : Int} {e : List Nat × Nat} (h : bXo M cls e = true) : TxO M cls (.ofNat e.2) e.1 := by
 unfold bXo at h
 simp only [Bool.and_eq_true, jJ, decide_eq_true_eq] at h
 obtain ⟨h1, h2, h3, h4, h5⟩ := h
 obtain ⟨b1, b2⟩ := bJg _ _ _ h5
 refine ⟨fun e => (by rw [e] at h1; cases h1), mM _ _ h2, mM _ _ h3, b1, h4, b2⟩
noncomputable def dCw (p : List Nat × Nat → Bool) (l : List (List Nat × Nat)) : Bool := List.rec (motive := fun _ => Bool) true (fun x _ ih => p x && ih) l
theorem aNa {p : List Nat × Nat → Bool} : ∀ {l : List (List Nat × Nat)}, dCw p l = true → ∀ a ∈ l, p a = true
 | [], _, a, h => by cases h
 | x :: l, hl, a, h => by
  change (p x && dCw p l) = true at hl
  simp only [Bool.and_eq_true] at hl
  simp only [List.mem_cons] at h
  rcases h with rfl | h
  ·exact hl.1
  ·exact aNa hl.2 a h
theorem xN : ∀ (l : List (List Nat × Nat)) (e : DV × DV), e ∈ bDh l → ∃ x ∈ l, e = (.s x.1, .i .i64 (.ofNat x.2))
 | [], e, h => by cases h
 | x :: l, e, h => by
  change e ∈ (DV.s x.1, DV.i .i64 (.ofNat x.2)) :: bDh l at h
  simp only [List.mem_cons] at h
  rcases h with rfl | h
  ·exact ⟨x, by simp, rfl⟩
  ·obtain ⟨y, h1, h2⟩ := xN l e h
   exact ⟨y, by simp [h1], h2⟩
theorem cIp : dCw (bXo MN (RN.getD 13 0)) syN = true := by kernel_rfl
theorem KN : Wk hW MN RN esN := ⟨WN, GN, fun e he => by
 obtain ⟨x, h1, h2⟩ := xN syN e he
 exact ⟨x.1, _, h2, bBj (aNa cIp x h1)⟩, by kernel_rfl, dLd⟩
theorem cJk (s t : List Nat) (h : Hp) : eG .neq (.s s) (.s t) h = some (.b (!rQ s t), h) := rfl
theorem aXh (s t : List Nat) (h : Hp) : eG .eql (.s s) (.s t) h = some (.b (rQ s t), h) := rfl
theorem cFl (s : List Nat) (h : Hp) : dH (.s s) h = some (.i .i64 (s.length : Int), h) := rfl
theorem cJc (s : List Nat) : rQ s s = true := (mS s s).2 rfl
theorem aKy (s : ByteArray) : ∀ c ∈ s.data.toList.map (·.toNat), c < 256 := by
 intro c hc
 obtain ⟨b, _, rfl⟩ := List.mem_map.1 hc
 exact b.toNat_lt
end Go.Dd

namespace Go.Dd
open Go.Proofs
theorem bDb (x : Int) : gH x x = true := by
 cases x with
 | ofNat n => exact Nat.beq_refl n
 | negSucc n => exact Nat.beq_refl n
theorem dE (x y : Int) : gH x y = true ↔ x = y := ⟨mM x y, fun e => by rw [e]; exact bDb y⟩
noncomputable def bKp (p : Nat → Bool) (n : Nat) : Bool := Nat.rec (motive := fun _ => Bool) true (fun i ih => p i && ih) n
theorem tO {p : Nat → Bool} : ∀ {n : Nat}, bKp p n = true → ∀ i, i < n → p i = true
 | 0, _, i, h => by omega
 | n + 1, hl, i, h => by
  change (p n && bKp p n) = true at hl
  simp only [Bool.and_eq_true] at hl
  by_cases e : i = n
  ·rw [e]; exact hl.1
  ·exact tO hl.2 i (by omega)
noncomputable def cNf (a : Nat) (l : List Nat) : Bool := List.rec (motive := fun _ => Bool) false (fun x _ ih => Nat.beq a x || ih) l
theorem xK {a : Nat} : ∀ {l : List Nat}, cNf a l = true → a ∈ l
 | [], h => by cases h
 | x :: l, h => by
  change (Nat.beq a x || cNf a l) = true at h
  simp only [Bool.or_eq_true] at h
  rcases h with h | h
  ·rw [Nat.eq_of_beq_eq_true h]; exact List.mem_cons_self
  ·exact List.mem_cons_of_mem _ (xK h)
noncomputable def byB (v : Int) : Bool := match v with
 | .ofNat c => Nat.blt c 256
 | .negSucc _ => false
noncomputable def aQw (a b : Bool) : Bool := bif a then b else true
theorem kL {a b : Bool} (h : aQw a b = true) (ha : a = true) : b = true := by rw [ha] at h; exact h
noncomputable def obB (M : MemV) (R : List Int) (CL : List Nat) (a hd : Nat) : Bool :=
 Nat.ble (Nat.div hd 4) 256 && (Nat.ble (Nat.mod hd 4) 2 && (aQw (gH (M.t.get (Nat.add a 1)) (R.getD 11 0)) (Nat.beq (Nat.mod hd 4) 0) &&
  (aQw (gH (M.t.get (Nat.add a 1)) (R.getD 12 0)) (Nat.beq (Nat.mod hd 4) 2) && (aQw (gH (M.t.get (Nat.add a 1)) (R.getD 13 0)) (Nat.beq (Nat.mod hd 4) 2) &&
  (aQw (Nat.beq (Nat.mod hd 4) 2) (bKp (fun i => byB (M.t.get (Nat.add (Nat.add a 3) i))) (Nat.div hd 4)) && (aQw (gH (M.t.get (Nat.add a 1)) (R.getD 3 0)) (cNf a CL) &&
  aLp (fun c => aQw (gH (M.t.get (Nat.add c 8)) 1) (!(gH (M.t.get (Nat.add a 1)) (.ofNat (Nat.mul 2 c))))) CL))))))
theorem dDj {M : MemV} {R : List Int} {CL : List Nat} {a hd : Nat} (h : obB M R CL a hd = true) : ObI M R CL a hd := by
 unfold obB at h
 simp only [Bool.and_eq_true, jJ, decide_eq_true_eq] at h
 obtain ⟨h1, h2, h3, h4, h5, h6, h7, h8⟩ := h
 refine ⟨h1, h2, fun q => ?_, fun q => ?_, fun q i hi => ?_, fun q => ?_, fun _ c hc q1 q2 => ?_⟩
 ·exact Nat.eq_of_beq_eq_true (kL h3 ((dE _ _).2 q))
 ·rcases q with q | q
  ·exact Nat.eq_of_beq_eq_true (kL h4 ((dE _ _).2 q))
  ·exact Nat.eq_of_beq_eq_true (kL h5 ((dE _ _).2 q))
 ·have hb := tO (kL h6 (show Nat.beq (Nat.mod hd 4) 2 = true by rw [show Nat.mod hd 4 = 2 from q]; rfl)) i hi
  change byB (M.t.get (a + 3 + i)) = true at hb
  cases hv : M.t.get (a + 3 + i) with
  | ofNat c => rw [hv] at hb; exact ⟨c, by simpa [byB, gB] using hb, rfl⟩
  | negSucc c => rw [hv] at hb; cases hb
 ·exact xK (kL h7 ((dE _ _).2 q))
 ·exfalso
  have q3 := kL (iX h8 c hc) ((dE _ _).2 q1)
  rw [(dE _ _).2 (show M.t.get (Nat.add a 1) = .ofNat (Nat.mul 2 c) from q2)] at q3
  cases q3
noncomputable def aAq (M : MemV) (a : Nat) (p : Nat → Bool) : Bool := match M.t.get a with
 | .ofNat hd => p hd
 | .negSucc _ => true
noncomputable def clB (M : MemV) (R : List Int) (c : Nat) : Bool :=
 Nat.ble 3 c && (Nat.ble c 131072 && (!(gH (M.pl.get c) 0) && (gH (M.t.get c) (.ofNat 24) && (gH (M.t.get (Nat.add c 1)) (R.getD 3 0) &&
  (aAq M (Nat.add c 5) (fun s => Nat.ble s 33 && Nat.beq (Nat.mod s 2) 1) && (aAq M (Nat.add c 8) (fun s => Nat.ble s 7 && Nat.beq (Nat.mod s 2) 1) && (byB (M.t.get (Nat.add c 5)) && byB (M.t.get (Nat.add c 8)))))))))
noncomputable def nmB (M : MemV) (R : List Int) (sy : List (List Nat × Nat)) (c : Nat) : Bool :=
 List.rec (motive := fun _ => Bool) false (fun e _ ih => (gH (M.t.get (Nat.add c 3)) (.ofNat e.2) && (bXo M (R.getD 13 0) e && (Nat.ble 1 e.1.length && Nat.ble e.1.length 60))) || ih) sy
theorem bZw {M : MemV} {R : List Int} {c : Nat} : ∀ {sy : List (List Nat × Nat)}, nmB M R sy c = true → ∃ s, TxO M (R.getD 13 0) (M.t.get (c + 3)) s ∧ 1 ≤ s.length ∧ s.length ≤ 60
 | [], h => by cases h
 | e :: sy, h => by
  change ((gH (M.t.get (c + 3)) (.ofNat e.2) && (bXo M (R.getD 13 0) e && (Nat.ble 1 e.1.length && Nat.ble e.1.length 60))) || nmB M R sy c) = true at h
  simp only [Bool.or_eq_true] at h
  rcases h with h | h
  ·simp only [Bool.and_eq_true, jJ, decide_eq_true_eq] at h
   obtain ⟨q1, q2, q3, q4⟩ := h
   exact ⟨e.1, by rw [(dE _ _).1 q1]; exact bBj q2, q3, q4⟩
  ·exact bZw h
theorem dCx {M : MemV} {R : List Int} {c : Nat} {sy : List (List Nat × Nat)} (h : clB M R c = true) (hn : nmB M R sy c = true) : ClI M R c := by
 unfold clB at h
 simp only [Bool.and_eq_true, jJ, decide_eq_true_eq] at h
 obtain ⟨h1, h2, h3, h4, h5, h6, h7, h8, h9⟩ := h
 have num : ∀ (j m : Nat), aAq M (c + j) (fun s => decide (s ≤ 2 * m + 1) && Nat.beq (Nat.mod s 2) 1) = true → byB (M.t.get (c + j)) = true → ∃ z : Nat, z ≤ m ∧ M.t.get (c + j) = .ofNat (2 * z + 1) := fun j m q1 q2 => by
  cases hv : M.t.get (c + j) with
  | negSucc x => rw [hv] at q2; cases q2
  | ofNat x =>
   unfold aAq at q1
   rw [hv] at q1
   simp only [Bool.and_eq_true, decide_eq_true_eq] at q1
   have e : x % 2 = 1 := Nat.eq_of_beq_eq_true q1.2
   exact ⟨x / 2, by omega, by rw [show 2 * (x / 2) + 1 = x by omega]⟩
 refine ⟨⟨h1, h2⟩, fun e => ?_, (dE _ _).1 h4, (dE _ _).1 h5, bZw hn, num 5 16 h6 h8, num 8 3 h7 h9⟩
 rw [e] at h3
 cases h3
noncomputable def djB (M : MemV) (l : List Nat) : Nat → Bool := List.rec (motive := fun _ => Nat → Bool) (fun _ => true) (fun a _ ih lo => Nat.ble lo a && (match M.t.get a with
 | .ofNat hd => ih (Nat.add (Nat.add a 3) (Nat.div hd 4))
 | .negSucc _ => false)) l
theorem bUy {M : MemV} : ∀ {l : List Nat} {lo : Nat}, djB M l lo = true → (∀ a ∈ l, lo ≤ a) ∧ ∀ a ∈ l, ∀ b ∈ l, a < b → ∀ hd : Nat, M.t.get a = .ofNat hd → a + 3 + hd / 4 ≤ b
 | [], lo, h => ⟨fun a ha => (by cases ha), fun a ha => (by cases ha)⟩
 | x :: l, lo, h => by
  change (Nat.ble lo x && (match M.t.get x with
   | .ofNat hd => djB M l (x + 3 + hd / 4)
   | .negSucc _ => false)) = true at h
  simp only [Bool.and_eq_true, jJ, decide_eq_true_eq] at h
  obtain ⟨h1, h2⟩ := h
  cases hx : M.t.get x with
  | negSucc k => rw [hx] at h2; cases h2
  | ofNat k =>
   rw [hx] at h2
   obtain ⟨i1, i2⟩ := bUy (l := l) h2
   refine ⟨fun a ha => ?_, fun a ha b hb hab hd hh => ?_⟩
   ·rcases List.mem_cons.1 ha with rfl | ka
    ·exact h1
    ·have := i1 a ka
     omega
   ·rcases List.mem_cons.1 ha with rfl | ka
    ·rcases List.mem_cons.1 hb with rfl | kb
     ·omega
     ·rw [hx] at hh
      cases hh
      exact i1 b kb
    ·rcases List.mem_cons.1 hb with rfl | kb
     ·have := i1 a ka
      omega
     ·exact i2 a ka b kb hab hd hh
noncomputable def giB (M : MemV) (R : List Int) (CL : List Nat) (pls : List Nat) (sy : List (List Nat × Nat)) : Bool :=
 djB M pls 0 && (gH (M.t.get 0) 0 && (gH (M.t.get 1) 0 && (aLp (fun a => aAq M a (obB M R CL a)) pls && (aLp (fun c => clB M R c && nmB M R sy c) CL &&
  (bKp (fun i => gH (R.getD (Nat.add 2 i) 0) (.ofNat (Nat.add 6 (Nat.mul 18 i)))) 16 && (bKp (fun i => cNf (Nat.add 3 (Nat.mul 9 i)) CL) 16 &&
  (gH (M.t.get 92) 3 && (gH (M.t.get 101) 5 && (gH (M.t.get 110) 5 && (gH (M.t.get 83) 7 && gH (M.t.get 20) 7))))))))))
theorem dAo {M : MemV} {R : List Int} {CL : List Nat} {pls : List Nat} {sy : List (List Nat × Nat)} (hp : M.pl = mkP pls .e) (hb : ∀ x ∈ pls, x < 16000000) (h : giB M R CL pls sy = true) : GI M R CL := by
 unfold giB at h
 simp only [Bool.and_eq_true] at h
 obtain ⟨h0, h1, h2, h3, h4, h5, h6, h7, h8, h9, h10, h11⟩ := h
 have mem : ∀ a, M.pl.get a ≠ 0 → a ∈ pls := fun a ha => by
  rw [hp] at ha
  rcases uG pls .e a hb ha with q | q
  ·exact q
  ·exact absurd rfl q
 refine ⟨(dE _ _).1 h1, (dE _ _).1 h2, fun a ha hd hh => ?_, fun a b ha hb' => (bUy h0).2 a (mem a ha) b (mem b hb'), fun c hc => ?_, fun i hi => (dE _ _).1 (tO h5 i hi), fun i hi => xK (tO h6 i hi), (dE _ _).1 h7, (dE _ _).1 h8, (dE _ _).1 h9, (dE _ _).1 h10, (dE _ _).1 h11⟩
 ·have hm : a ∈ pls := by
   rw [hp] at ha
   rcases uG pls .e a hb ha with q | q
   ·exact q
   ·exact absurd rfl q
  have q := iX h3 a hm
  unfold aAq at q
  rw [hh] at q
  exact dDj q
 ·have q := iX h4 c hc
  simp only [Bool.and_eq_true] at q
  exact dCx q.1 q.2
def CLW : List Nat := [3, 12, 21, 30, 39, 48, 57, 66, 75, 84, 93, 102, 111, 120, 129, 138, 4357]
theorem cBy : giB MN RN CLW plN syN = true := by kernel_rfl
theorem cWu : aLp (fun x => Nat.blt x 16000000) plN = true := by kernel_rfl
theorem GIN : GI MN RN CLW := dAo cRa (fun x hx => by have := iX cWu x hx; simpa [gB] using this) cBy
end Go.Dd

namespace Go.Dd
open Go.Proofs
noncomputable def jI (M : MemV) (o : Int) : Nat := match M.t.get (bV o M.pl) with
 | .ofNat hd => hd
 | .negSucc _ => 0
noncomputable def dEu (M : MemV) (o : Int) (i : Nat) : Int := if bV o M.pl ≠ 0 ∧ i < jI M o / 4 then M.t.get (bV o M.pl + 3 + i) else 0
noncomputable def hC (M : MemV) (o : Int) : Int := M.t.get (bV o M.pl + 1)
noncomputable def cCn (M : MemV) (R : List Int) (x : Int) : Option Int := if dF x = true then some (aAo x) else if (bV x M.pl ≠ 0 ∧ hC M x = R.getD 10 0) ∧ jI M x % 4 = 1 then some (dEu M x 0) else none
def isTx (M : MemV) (R : List Int) (x : Int) : Prop := bV x M.pl ≠ 0 ∧ (hC M x = R.getD 12 0 ∨ hC M x = R.getD 13 0)
section
variable {h : Hp} {M : MemV} {R : List Int} {es : List (DV × DV)} {CL : List Nat} {z : Prop}
theorem bIz {M : MemV} {o : Int} (h : bV o M.pl ≠ 0) : M.pl.get (bV o M.pl) ≠ 0 := by
 rcases jR o M.pl with e | ⟨e, _⟩
 ·exact absurd e h
 ·have := (atN_pos (o := o) (pl := M.pl)).1 h
  rw [e]
  exact this.2
theorem GI.head (I : GI M R CL z) (G : Good M) (o : Int) (k : Nat → aH) : gY M o k = k (jI M o) := by
 by_cases e : bV o M.pl = 0
 ·have b1 : Nat.blt (Nat.add (bV o M.pl) 1) M.n = true := by
   rw [gB, e]
   have := G.lo; have := G.le
   exact decide_eq_true (show 0 + 1 < M.n by omega)
  unfold gY jI
  rw [b1, e, I.z0]
  rfl
 ·obtain ⟨h3, hd, h1, h2, h4, _⟩ := G.ob _ (bIz e)
  have hl := G.le
  have b1 : Nat.blt (Nat.add (bV o M.pl) 1) M.n = true := by
   rw [gB]; exact decide_eq_true (show bV o M.pl + 1 < M.n by omega)
  have b2 : Nat.blt hd 1000000000000 = true := by rw [gB]; exact decide_eq_true h2
  unfold gY jI
  rw [b1, h1]
  simp only [cond_true, b2]
theorem GI.headOb (I : GI M R CL z) (G : Good M) {o : Int} (e : bV o M.pl ≠ 0) : M.t.get (bV o M.pl) = .ofNat (jI M o) ∧ ObI M R CL (bV o M.pl) (jI M o) z ∧ bV o M.pl + 3 + jI M o / 4 ≤ M.fin ∧ 3 ≤ bV o M.pl := by
 obtain ⟨h3, hd, h1, h2, h4, _⟩ := G.ob _ (bIz e)
 have eh : jI M o = hd := by unfold jI; rw [h1]
 rw [eh]
 exact ⟨h1, I.ob _ (bIz e) _ h1, h4, h3⟩
theorem Wd.clsA (W : Wd h M R es) (G : Good M) (I : GI M R CL z) (o : Int) : iK [.p (aR 3) 0, .i .i64 o] h = some (iD (hC M o), h) := by
 simp only [iK, jK, W.mem, I.head G, Nat.add_eq, hC]
theorem GI.tx (I : GI M R CL z) (G : Good M) {x : Int} (h : isTx M R x) : ∃ s, TxO M (hC M x) x s := by
 obtain ⟨h1, O, h4, h3⟩ := I.headOb G h.1
 have h2 := O.str h.2
 refine ⟨(List.range (jI M x / 4)).map fun i => (M.t.get (bV x M.pl + 3 + i)).toNat, h.1, ?_, rfl, ?_, ?_, ?_⟩
 ·rw [h1, List.length_map, List.length_range]
  congr 1
  omega
 ·intro c hc
  obtain ⟨i, hi, rfl⟩ := List.mem_map.1 hc
  obtain ⟨d, q1, q2⟩ := O.by8 h2 i (List.mem_range.1 hi)
  rw [q2]
  exact q1
 ·rw [List.length_map, List.length_range]
  exact O.len
 ·intro i c hi
  rw [List.getElem?_map] at hi
  have hl : i < jI M x / 4 := by
   rcases Nat.lt_or_ge i (jI M x / 4) with q | q
   ·exact q
   ·rw [List.getElem?_eq_none (by simpa using q)] at hi; cases hi
  rw [List.getElem?_eq_getElem (by simpa using hl)] at hi
  simp only [List.getElem_range, Option.map_some, bE] at hi
  obtain ⟨d, q1, q2⟩ := O.by8 h2 i hl
  rw [q2] at hi ⊢
  rw [← hi]
  rfl
theorem Wd.textN (W : Wd h M R es) (G : Good M) (I : GI M R CL z) {x : Int} (hx : ¬ isTx M R x) (n : Nat) : cZ (n + 2) 33 [.p (aR 7) 0, .i .i64 x] h = some (.t [.s [], .b false], h) := by
 rw [oO 33 rfl, bUu]
 unfold s33 aNi aNg
 have k0 : cZ (n + 1) 30 [.p (aR 7) 0, .i .i64 (Int.ofNat 10)] h = some (iD (R.getD 12 0), h) := W.known (show 10 < 16 by omega) n
 have k1 : cZ (n + 1) 30 [.p (aR 7) 0, .i .i64 (Int.ofNat 11)] h = some (iD (R.getD 13 0), h) := W.known (show 11 < 16 by omega) n
 by_cases e : bV x M.pl = 0
 ·have b : (!(Nat.beq (bV x M.pl) 0)) = false := by rw [e]; rfl
  simp only [g0, g1, iF, sL, aU, W.l00, W.clsA G I, W.is, b, gE, Bool.not_false, eK, xA, nN, cJ, bO]
 ·have b : (!(Nat.beq (bV x M.pl) 0)) = true := by rw [cIk e]; rfl
  have n0 : ¬ hC M x = R.getD 12 0 := fun q => hx ⟨e, .inl q⟩
  have n1 : ¬ hC M x = R.getD 13 0 := fun q => hx ⟨e, .inr q⟩
  have z0 : (hC M x != R.getD 12 0) = true := by simpa using n0
  have z1 : (hC M x != R.getD 13 0) = true := by simpa using n1
  simp only [g0, g1, iF, sL, aU, W.l00, W.clsA G I, W.is, b, gE, Bool.not_true, fT, k0, k1, eL, z0, z1, nN, cJ, cE, eK, xA, bO]
theorem Wd.textA (W : Wd h M R es) (G : Good M) (I : GI M R CL z) (x : Int) {n : Nat} (hn : 300 < n) :
  ∃ s b h', cZ (n + 2) 33 [.p (aR 7) 0, .i .i64 x] h = some (.t [.s s, .b b], h') ∧ Wd h' M R es ∧ Up h h' ∧ ((b = true ∧ isTx M R x ∧ TxO M (hC M x) x s) ∨ (b = false ∧ ¬ isTx M R x ∧ s = [])) := by
 by_cases hx : isTx M R x
 ·obtain ⟨s, T⟩ := I.tx G hx
  obtain ⟨h', e1, W1, U1⟩ := W.text G T hx.2 hn
  exact ⟨s, true, h', e1, W1, U1, .inl ⟨rfl, hx, T⟩⟩
 ·exact ⟨[], false, h, W.textN G I hx n, W, Up.refl h, .inr ⟨rfl, hx, rfl⟩⟩
end
end Go.Dd

namespace Go.Dd
open Go.Proofs
theorem pcf {rec : FuncId → List DV → Hp → aH} {g : FuncId} (hg : CF.I g = none) (a l b : List DV) (h : Hp) : cV CF rec (.f g a b) l h = rec g (a ++ l ++ b) h := by
 show bP CF rec g (a ++ l ++ b) h = _
 rw [gZ hg]
section
variable {h : Hp} {M : MemV} {R : List Int} {es : List (DV × DV)}
theorem Wk.make0 (K : Wk h M R es) {cls : Int} (hc : bV cls M.pl ≠ 0) {f c : Nat} (hf : f ≤ 2) (h256 : c ≤ 256) (room : M.fin + c + 3 ≤ M.n) (hm : M.made < 899999) :
  ∃ h' M', iP [.p (aR 3) 0, .i .i64 cls, .i .i64 (.ofNat f), .i .i64 (.ofNat c)] h = some (.t [.i .i64 (.ofNat (M.fin * 2)), .i .i64 (.ofNat 0)], h') ∧ Wk h' M' R es ∧ Up h h' ∧ Grown M M' f cls (List.replicate c 0) := by
 have h1 := K.G.le
 have h2 := K.G.lo
 have h3 := K.G.hi
 obtain ⟨h', e1, W1, U1, _⟩ := K.W.make K.G hc hf h256 room
 have t1 : ∀ j, (M.mk1 f c cls).t.get j = if M.fin + 3 ≤ j ∧ j < M.fin + 3 + c then 0 else if j = M.fin + 2 then .ofNat (M.made + 1) else if j = M.fin + 1 then cls else if j = M.fin then .ofNat (c * 4 + f) else M.t.get j := fun j => by
  show (kD _ c (M.fin + 3)).get j = _
  rw [mP _ _ _ _ (by omega), WT.get_set _ _ _ _ (by omega), WT.get_set _ _ _ _ (by omega), WT.get_set _ _ _ _ (by omega)]
 have g : Grown M (M.mk1 f c cls) f cls (List.replicate c 0) := by
  refine ⟨rfl, by rw [List.length_replicate]; rfl, rfl, rfl, ?_, ?_, fun j hj => ?_, fun i v hi => ?_⟩
  ·rw [t1, if_neg (by omega), if_neg (by omega), if_neg (by omega), if_pos rfl, List.length_replicate]
  ·rw [t1, if_neg (by omega), if_neg (by omega), if_pos rfl]
  ·rw [t1, if_neg (by omega), if_neg (by omega), if_neg (by omega), if_neg (by omega)]
  ·have hl : i < c := by
    rcases Nat.lt_or_ge i c with q | q
    ·exact q
    ·rw [List.getElem?_eq_none (by simpa using q)] at hi; cases hi
   rw [List.getElem?_replicate, if_pos hl] at hi
   cases hi
   rw [t1, if_pos (by omega)]
 exact ⟨h', _, e1, g.wk K W1 hc hf (by rw [List.length_replicate]; exact h256) (by rw [List.length_replicate]; exact room) hm, U1, g⟩
theorem bCq {M : MemV} {R : List Int} {a n : Int} (h : dF a = true) (e : aAo a = n) : cCn M R a = some n := by
 unfold cCn
 rw [if_pos h, e]
theorem Wk.num (K : Wk h M R es) (room : M.fin + 4 ≤ M.n) (hm : M.made < 899999) (n : Int) {k : Nat} (hk : 256 < k) :
  ∃ a e h' M', cZ (k + 2) 42 [.p (aR 7) 0, .i .i64 n] h = some (.t [iD a, iD e], h') ∧ Wk h' M' R es ∧ Up h h' ∧ Stay 4 M M' R R es es ∧
   ((¬ (-1152921504606846976 ≤ n ∧ n ≤ 1152921504606846976) ∧ e = 2 ∧ a = 0) ∨ ((-1152921504606846976 ≤ n ∧ n ≤ 1152921504606846976) ∧ e = 0 ∧ cCn M' R a = some n ∧ dD a M'.pl = true)) := by
 obtain ⟨a, e, h', M', e1, W', G', U', hA⟩ := K.W.number K.G K.rk room hm n hk
 cases hA with
 | out h1 h2 =>
  subst h2
  exact ⟨0, 2, h', M', e1, ⟨W', G', K.sy, K.r0, K.rk⟩, U', Stay.refl _ _ _ _, .inl ⟨h1, rfl, rfl⟩⟩
 | small a h1 h2 h3 h4 =>
  subst h4
  refine ⟨a, 0, h', M', e1, ⟨W', G', K.sy, K.r0, K.rk⟩, U', Stay.refl _ _ _ _, .inr ⟨by omega, rfl, bCq h2 h3, ?_⟩⟩
  unfold dD
  split <;> first | rfl | (rw [h2]; rfl)
 | big h1 h2 g =>
  have hc : bV (R.getD 10 0) M.pl ≠ 0 := K.rk 8 (by omega)
  have st := g.stay K.G R es (fun CL I => I.newK (i := 8) (.inr (.inr ⟨rfl, rfl⟩)) (by simp) (fun q => by cases q))
  have ha : bV (.ofNat (M.fin * 2)) M'.pl = M.fin := by rw [g.pl]; exact aDu K.G.lo (by have := K.G.le; have := K.G.hi; omega)
  have h0 := K.G.lo
  have hs : dF (.ofNat (M.fin * 2)) = false := by
   rw [jH]
   refine decide_eq_false fun q => ?_
   have q1 := q.1
   simp at q1
   try omega
  refine ⟨_, 0, h', M', e1, g.wk K W' hc (by omega) (by simp) (by simp; omega) hm, U', st, .inr ⟨h1, rfl, ?_, rD (by rw [ha]; omega)⟩⟩
  unfold cCn
  have hh : jI M' (.ofNat (M.fin * 2)) = 5 := by unfold jI; rw [ha, g.hd]; rfl
  rw [if_neg (by rw [hs]; simp), if_pos ⟨⟨by rw [ha]; omega, by unfold hC; rw [ha, g.cl]⟩, by rw [hh]⟩]
  unfold dEu
  rw [ha, hh, if_pos ⟨by omega, by omega⟩]
  have := g.new 0 n rfl
  rw [Nat.add_zero] at this ⊢
  all_goals rw [this]
theorem Wd.notMay (W : Wd h M R es) {b : Pos} (hb : h.bl.get b = some (.row .ex [.p (aR 7) 0])) (v : Int) (n : Nat) : cZ (n + 1) 84 [.i .i64 v, .p b 0] h = some (.b (!(dD v M.pl)), h) := by
 rw [oO 84 rfl, cQl]
 unfold s84
 have l : aA (.p b 0) h = some (.p (aR 7) 0, h) := by simp only [aA, cellD, rowOf, hb, List.getElem?_cons_zero, DV.one, if_true]
 simp only [g0, g1, l, aU, iF, sL, W.l00, W.may, gE]
theorem aMy {l : List Int} {p : Int → Bool} {i : Nat} {v : Int} (h : l[i]? = some v) : (l.drop i).any p = (p v || (l.drop (i + 1)).any p) := by
 have hi : i < l.length := by
  rcases Nat.lt_or_ge i l.length with q | q
  ·exact q
  ·rw [List.getElem?_eq_none q] at h; cases h
 rw [List.drop_eq_getElem_cons hi, List.any_cons]
 rw [List.getElem?_eq_getElem hi] at h
 cases h
 rfl
theorem Wd.find (W : Wd h M R es) {x : DV} {l : List Int} (S : SlI x l h) {b : Pos} (hb : h.bl.get b = some (.row .ex [.p (aR 7) 0])) {n : Nat} (hl : l.length ≤ 256) : ∀ (k i m : Nat), k + i = l.length → k < m →
  ∃ r : Int, iL (cZ (n + 1)) (n + 1) m x (.f 84 [] [.p b 0]) (iD l.length) (.i .i64 (Int.ofNat i)) h = some (iD r, h) ∧ (decide (r ≥ Int.ofNat 0) = (l.drop i).any fun v => !(dD v M.pl)) := by
 intro k
 induction k with
 | zero =>
  intro i m he hm
  obtain ⟨m, rfl⟩ : ∃ m', m = m' + 1 := ⟨m - 1, by omega⟩
  refine ⟨-1, ?_, ?_⟩
  ·show gR (cZ (n + 1)) (n + 1) (iL (cZ (n + 1)) (n + 1) m) _ _ _ _ h = _
   unfold gR
   have d : decide (Int.ofNat i < (l.length : Int)) = false := decide_eq_false (by simp; omega)
   simp only [cK, d, aU, bM]
   rfl
  ·rw [List.drop_eq_nil_of_le (by omega)]
   rfl
 | succ k ih =>
  intro i m he hm
  obtain ⟨m, rfl⟩ : ∃ m', m = m' + 1 := ⟨m - 1, by omega⟩
  have hi : i < l.length := by omega
  have hv : l[i]? = some l[i] := List.getElem?_eq_getElem hi
  obtain ⟨a, e1, e2⟩ := S.at hv
  obtain ⟨r, q1, q2⟩ := ih (i + 1) m (by omega) (by omega)
  have d : decide (Int.ofNat i < (l.length : Int)) = true := decide_eq_true (by simp; omega)
  have hc : cV CF (cZ (n + 1)) (.f 84 [] [.p b 0]) [iD l[i]] h = some (.b (!(dD l[i] M.pl)), h) := by
   rw [pcf rfl]
   exact W.notMay hb l[i] n
  have ha : aD .add (.i .i64 (Int.ofNat i)) (.i .i64 (Int.ofNat 1)) h = some (.i .i64 (Int.ofNat (i + 1)), h) := iC i 1 h (by omega)
  rw [aMy hv]
  cases hmay : dD l[i] M.pl with
  | false =>
   refine ⟨Int.ofNat i, ?_, by simp⟩
   show gR (cZ (n + 1)) (n + 1) (iL (cZ (n + 1)) (n + 1) m) _ _ _ _ h = _
   unfold gR
   rw [hmay] at hc
   simp only [cK, d, aU, bO, e1, e2, hc, Bool.not_false]
  | true =>
   refine ⟨r, ?_, by rw [q2]; rfl⟩
   show gR (cZ (n + 1)) (n + 1) (iL (cZ (n + 1)) (n + 1) m) _ _ _ _ h = _
   unfold gR
   rw [hmay] at hc
   simp only [cK, d, aU, bO, e1, e2, hc, Bool.not_true, bM, ha]
   exact q1
theorem Wd.contains (W : Wd h M R es) {x : DV} {l : List Int} (S : SlI x l h) {b : Pos} (hb : h.bl.get b = some (.row .ex [.p (aR 7) 0])) (hl : l.length ≤ 256) {n : Nat} (hn : 256 < n) :
  cZ (n + 3) 52 [x, .f 84 [] [.p b 0]] h = some (.b (l.any fun v => !(dD v M.pl)), h) := by
 rw [oO 52 rfl, bLx]
 unfold s52
 obtain ⟨r, q1, q2⟩ := W.find S hb (n := n) hl l.length 0 (n + 1) (by omega) (by omega)
 have e : cZ (n + 2) 89 [x, .f 84 [] [.p b 0]] h = some (iD r, h) := by
  rw [oO 89 rfl, bKm]
  unfold s89 aMb aLk aYf
  simp only [g0, g1, S.len (h' := h), aU]
  exact q1
 simp only [g0, g1, e, aU, lW, q2, List.drop_zero]
end
end Go.Dd

namespace Go.Dd
open Go.Proofs
theorem cXk (b : Pos) (o : Nat) (h : Hp) : bI (some (.p b o, h)) (.p b o) = true := by
 unfold bI
 simp [DV.beq]
section
variable {h : Hp} {M : MemV} {R : List Int} {es : List (DV × DV)}
theorem Wk.array (K : Wk h M R es) {x : DV} {l : List Int} (S : SlI x l h) (h256 : l.length ≤ 256) (room : M.fin + l.length + 3 ≤ M.n) (hm : M.made < 899999) {n : Nat} (hn : 256 < n) :
  ∃ a e h' M', cZ (n + 4) 46 [.p (aR 7) 0, x] h = some (.t [iD a, iD e], h') ∧ Wk h' M' R es ∧ Up h h' ∧
   ((¬ (l.length ≤ 250 ∧ ∀ v ∈ l, dD v M.pl = true) ∧ e = 1 ∧ a = 0 ∧ M' = M) ∨ ((l.length ≤ 250 ∧ ∀ v ∈ l, dD v M.pl = true) ∧ e = 0 ∧ a = .ofNat (M.fin * 2) ∧ Grown M M' 0 (R.getD 11 0) l)) := by
 rw [oO 46 rfl, cQb]
 unfold s46
 obtain ⟨U1, W1⟩ := K.W.new (.row .ex [.p (aR 7) 0])
 obtain ⟨h1, hh1⟩ : ∃ h1 : Hp, (⟨h.next.succ, Tr.set (.row .ex [.p (aR 7) 0]) h.next h.bl⟩ : Hp) = h1 := ⟨_, rfl⟩
 rw [hh1] at U1 W1
 have eb : bQ (.p (aR 7) 0) h = some (.p h.next 0, h1) := by rw [← hh1]; rfl
 have hb : h1.bl.get h.next = some (.row .ex [.p (aR 7) 0]) := by rw [← hh1]; exact dRc _ _ _
 have S1 := S.up U1
 have K1 : Wk h1 M R es := ⟨W1, K.G, K.sy, K.r0, K.rk⟩
 have ld : aA (.p h.next 0) h1 = some (.p (aR 7) 0, h1) := by simp only [aA, cellD, rowOf, hb, List.getElem?_cons_zero, DV.one, if_true]
 have el : ∀ h, bX x h = some (iD l.length, h) := fun h => S.len
 by_cases c1 : l.length > 250
 ·have d1 : decide ((l.length : Int) > Int.ofNat 250) = true := decide_eq_true (by simp; omega)
  refine ⟨0, 1, h1, M, ?_, K1, U1, .inl ⟨fun q => by omega, rfl, rfl, rfl⟩⟩
  simp only [g0, g1, eb, aU, el, fL, d1, eK, cJ, bO]
  rfl
 ·have d1 : decide ((l.length : Int) > Int.ofNat 250) = false := decide_eq_false (by simp; omega)
  have hc := W1.contains S1 hb h256 hn
  cases ha : l.any (fun v => !(dD v M.pl)) with
  | true =>
   rw [ha] at hc
   refine ⟨0, 1, h1, M, ?_, K1, U1, .inl ⟨fun q => ?_, rfl, rfl, rfl⟩⟩
   ·simp only [g0, g1, eb, aU, el, fL, d1, fT, hc, cE, bO]
    rfl
   ·obtain ⟨v, hv, hv2⟩ := List.any_eq_true.1 ha
    rw [q.2 v hv] at hv2
    cases hv2
  | false =>
   rw [ha] at hc
   have hall : ∀ v ∈ l, dD v M.pl = true := fun v hv => by
    cases hq : dD v M.pl with
    | true => rfl
    | false =>
     have : l.any (fun v => !(dD v M.pl)) = true := List.any_eq_true.2 ⟨v, hv, by rw [hq]; rfl⟩
     rw [this] at ha
     cases ha
   have hk : M.fin < 16000000 := by have := K.G.le; have := K.G.hi; omega
   obtain ⟨h2, M2, e2, W2, U2, _, g2⟩ := W1.make61 K.G (K.rk 9 (by omega)) (f := 0) (by omega) S1 (by omega) (by omega) (fun v hv => tE hk (hall v hv)) (n := n + 2) (by omega)
   have kn : cZ (n + 3) 30 [.p (aR 7) 0, .i .i64 (Int.ofNat 9)] h1 = some (iD (R.getD 11 0), h1) := W1.known (show 9 < 16 by omega) (n + 2)
   refine ⟨.ofNat (M.fin * 2), 0, h2, M2, ?_, g2.wk K1 W2 (K.rk 9 (by omega)) (by omega) (by omega) (by omega) hm, U1.trans U2, .inr ⟨⟨by omega, hall⟩, rfl, rfl, g2⟩⟩
   simp only [g0, g1, eb, aU, el, fL, d1, fT, hc, cE, bM, ld, kn, cXk, Bool.and_self, cond_true]
   rw [show (2 + 9 : Nat) = 11 from rfl] at e2
   show cnd true _ = _
   simp only [cnd, e2, aU, oM, oN]
   rfl
end
end Go.Dd

namespace Go.Dd
open Go.Proofs
def Wc (h : Hp) (cs : List (DV × DV)) : Prop := h.bl.get (aR 6) = some (.mp cs)
noncomputable def aWj (cs : List (DV × DV)) (s : List Nat) : Int := match dJ .string (.s s) cs with
 | some (some (.i .i64 v)) => v
 | _ => 0
section
variable {h : Hp} {M : MemV} {R : List Int} {es cs : List (DV × DV)} {CL : List Nat} {z : Prop}
theorem Wc.up {h' : Hp} (c : Wc h cs) (W : Wd h M R es) (u : Up h h') : Wc h' cs := by
 unfold Wc
 rw [u.get (aR 6) (.inr (by rw [pn6]; exact Nat.le_refl _)) (by have := W.nx; rw [pn6]; omega)]
 exact c
theorem Wd.classOfName (W : Wd h M R es) (c : Wc h cs) (hcs : ∀ e ∈ cs, ∃ (k : List Nat) (x : Int), e = (.s k, iD x)) (s : List Nat) (n : Nat) : cZ (n + 1) 45 [.p (aR 7) 0, .s s] h = some (iD (aWj cs s), h) := by
 rw [oO 45 rfl, cQh]
 unfold s45
 have l3 : aA (.p (aR 7) (0 + 3)) h = some (.m (aR 6), h) := by
  simp only [aA, cellD, rowOf, W.w, Nat.zero_add, List.getElem?_cons_succ, List.getElem?_cons_zero, DV.one, if_true]
 have lk : dO .string (.i .i64 (Int.ofNat 0)) false (.m (aR 6)) (.s s) h = some (iD (aWj cs s), h) := by
  have hc : h.bl.get (aR 6) = some (.mp cs) := c
  unfold aWj
  rcases aWm s hcs with ⟨x, f1, f2⟩ | ⟨f1, f2⟩
  ·simp only [dO, fM, hc, f1, cond_false]
  ·simp only [dO, fM, hc, f1, cond_false]
   rfl
 simp only [g0, g1, iF, sL, aU, l3, lk]
end
end Go.Dd

namespace Go.Dd
open Go.Proofs
structure Wv (k : Nat) (h : Hp) (M : MemV) (R : List Int) (es : List (DV × DV)) (z : Prop := True) : Prop where
 K : Wk h M R es
 I : GI M R CLW z
 c : Wc h csW
 n : M.n = 30000
 fin : M.fin + k ≤ 30000
 md : M.made + k ≤ 700000
theorem Stay.mono {a b : Nat} {M M' : MemV} {R R' : List Int} {es es' : List (DV × DV)} (h : Stay a M M' R R' es es') (hab : a ≤ b) : Stay b M M' R R' es es' :=
 ⟨h.n, Nat.le_trans h.fin (by omega), Nat.le_trans h.made (by omega), h.lo, h.tx, h.at', h.r, h.fd, h.gi, h.old⟩
section
variable {h h' : Hp} {M M' : MemV} {R R' : List Int} {es es' : List (DV × DV)} {z : Prop}
theorem Wv.stay {k j : Nat} (V : Wv (j + k) h M R es) (K' : Wk h' M' R' es') (u : Up h h') (S : Stay j M M' R R' es es') : Wv k h' M' R' es' := by
 have h1 := S.n
 have h2 := S.fin
 have h3 := S.made
 have h4 := V.n
 have h5 := V.fin
 have h6 := V.md
 exact ⟨K', S.gi _ V.I, V.c.up V.K.W u, by omega, by omega, by omega⟩
theorem Wv.less {k j : Nat} (V : Wv j h M R es z) (hk : k ≤ j) : Wv k h M R es z := ⟨V.K, V.I, V.c, V.n, by have := V.fin; omega, by have := V.md; omega⟩
theorem Wk.up (K : Wk h M R es) (W' : Wd h' M R es) : Wk h' M R es := ⟨W', K.G, K.sy, K.r0, K.rk⟩
theorem Wv.up {k : Nat} (V : Wv k h M R es z) (W' : Wd h' M R es) (u : Up h h') : Wv k h' M R es z := ⟨V.K.up W', V.I, V.c.up V.K.W u, V.n, V.fin, V.md⟩
theorem Wv.new {k : Nat} (V : Wv k h M R es z) (o : Ob) : Up h ⟨h.next.succ, Tr.set o h.next h.bl⟩ ∧ Wv k ⟨h.next.succ, Tr.set o h.next h.bl⟩ M R es z := by
 obtain ⟨u, W⟩ := V.K.W.new o
 exact ⟨u, V.up W u⟩
theorem cTn : ∀ e ∈ csW, ∃ (k : List Nat) (x : Int), e = (.s k, iD x) := fun e he => by
 obtain ⟨x, _, h2⟩ := xN (clF ++ clW) e he
 exact ⟨x.1, _, h2⟩
theorem dIu : aWj csW [80, 111, 105, 110, 116] = 8714 := by kernel_rfl
theorem Wv.point {k : Nat} (V : Wv k h M R es z) (n : Nat) : cZ (n + 1) 45 [.p (aR 7) 0, .s [80, 111, 105, 110, 116]] h = some (iD 8714, h) := by
 rw [V.K.W.classOfName V.c cTn, dIu]
theorem cNx : hD 8714 = 4357 := by kernel_rfl
theorem Wv.ptAt {k : Nat} (V : Wv k h M R es z) : bV 8714 M.pl ≠ 0 := by
 rw [atN_pos, cNx]
 exact ⟨by decide, (V.I.cl 4357 (by decide)).pl⟩
theorem Wv.ptNew {k : Nat} (V : Wv k h M R es) : ∀ CL, GI M R CL → NewI M R CL 0 8714 (List.replicate 2 0) := fun CL I => by
 have r3 := I.rk 1 (by omega)
 have r12 := I.rk 10 (by omega)
 have r13 := I.rk 11 (by omega)
 refine ⟨by decide, by omega, fun _ => rfl, fun q => ?_, fun q => (by cases q), fun q => ?_, fun c hc _ _ => ⟨rfl, fun v hv => List.eq_of_mem_replicate hv⟩⟩
 ·rcases q with q | q
  ·rw [r12] at q; cases q
  ·rw [r13] at q; cases q
 ·rw [r3] at q; cases q
end
end Go.Dd

namespace Go.Dd
open Go.Proofs
theorem nE {a b : Int} (h : a ≠ b) : (a == b) = false := by simpa using h
theorem aMs (a : Int) (h : Hp) : aD .rem (.i .i64 a) (.i .i64 (Int.ofNat 10)) h = some (.i .i64 (a.tmod 10), h) := by simp only [aD, if_true, fN]; rfl
theorem cIz (a b : Int) (h : Hp) (hr : -9223372036854775808 ≤ a * b ∧ a * b ≤ 9223372036854775807) : aD .mul (.i .i64 a) (.i .i64 b) h = some (.i .i64 (a * b), h) := by simp only [aD, if_true, fN, gL _ hr]
theorem cLk (a : Nat) (ha : a < 1000) (h : Hp) : aD .quo (.i .i64 (a : Int)) (.i .i64 (Int.ofNat 2)) h = some (.i .i64 (Int.ofNat (a / 2)), h) := by
 have e : (a : Int).tdiv (Int.ofNat 2) = Int.ofNat (a / 2) := rfl
 simp only [aD, if_true, fN, e]
 rw [if_neg (by decide), gL _ (by simp; omega)]
theorem bXd (s : List Nat) (k : Nat) (hk : k ≤ s.length) (h : Hp) : fC (.s s) none (some (.i .i64 (Int.ofNat k))) h = some (.s (s.take k), h) := by
 have e : hiD (some (.i .i64 (Int.ofNat k))) s.length s.length = some k := by
  show (if (0 : Int) ≤ Int.ofNat k ∧ Int.ofNat k ≤ (s.length : Int) then some (Int.ofNat k).toNat else none) = _
  rw [if_pos ⟨by simp, by simpa using hk⟩]
  rfl
 simp only [fC, e]
 rfl
theorem dCv (l : List Int) : ∀ v ∈ l.map iD, v.one = true := by
 intro v hv
 obtain ⟨c, _, rfl⟩ := List.mem_map.1 hv
 rfl
theorem cVs {x : DV} {l : List Int} {lo : Nat} {h : Hp} (hlo : 1031 ≤ lo) (S : GrS x (l.map iD) lo h) : SlI x l h := by
 rcases S with ⟨rfl, e⟩ | ⟨b, e, hb, h2, h3⟩
 ·refine .inl ⟨rfl, ?_⟩
  simpa using e
 ·exact .inr ⟨b, l.length, .gr 1, by rw [e]; simp, hb, .inr (by omega), h3⟩
theorem aKm {rec : FuncId → List DV → Hp → aH} {n lo : Nat} {x0 : DV} {N : Int} {c : Nat} (hN : N.tmod 10 = Int.ofNat c) (hc : c ≤ 9) : ∀ (r m : Nat) (l : List Int) (x : DV) (h : Hp), GrS x (l.map iD) lo h → lo ≤ h.next.toNat → l.length + r = c → r < m →
  ∃ (x' : DV) (h' : Hp) (l' : List Int), kR rec n m x0 (iD N) x (.i .i64 (Int.ofNat l.length)) h = dR rec n x0 x' h' ∧ GrS x' (l'.map iD) lo h' ∧ Lo lo h h' ∧ l'.length = c
 | 0, m + 1, l, x, h, S, hlo, he, hm => by
  refine ⟨x, h, l, ?_, S, Lo.refl lo h, by omega⟩
  show lA rec n (kR rec n m) _ _ _ _ h = _
  unfold lA
  have hl : decide (Int.ofNat l.length < Int.ofNat c) = false := by simp; omega
  simp only [iD, aMs, hN, cK, aU, hl, bM]
 | r + 1, m + 1, l, x, h, S, hlo, he, hm => by
  obtain ⟨y, g, e1, x', h', e2, S', L'⟩ := S.app hlo (dCv l) (z := .i .i64 (Int.ofNat 0)) (v := iD (Int.ofNat 2 * Int.ofNat l.length + Int.ofNat 1)) rfl rfl (bytes := 8) (by simp; unfold lK; omega)
  have S2 : GrS x' ((l ++ [Int.ofNat 2 * Int.ofNat l.length + Int.ofNat 1]).map iD) lo h' := by rw [List.map_append]; exact S'
  obtain ⟨x2, h2, l2, e3, S3, L3, hl3⟩ := aKm (rec := rec) (n := n) (x0 := x0) hN hc r m (l ++ [Int.ofNat 2 * Int.ofNat l.length + Int.ofNat 1]) x' h' S2 (Nat.le_trans hlo L'.next) (by simp; omega) (by omega)
  refine ⟨x2, h2, l2, ?_, S3, L'.trans L3, hl3⟩
  rw [← e3]
  show lA rec n (kR rec n m) _ _ _ _ h = _
  unfold lA
  have hl1 : decide (Int.ofNat l.length < Int.ofNat c) = true := by simp; omega
  have hadd : aD .add (.i .i64 (Int.ofNat l.length)) (.i .i64 (Int.ofNat 1)) h' = some (.i .i64 (Int.ofNat (l ++ [Int.ofNat 2 * Int.ofNat l.length + Int.ofNat 1]).length), h') := by
   rw [gO _ _ _ (by simp; omega)]
   simp
  simp only [iD] at e1 e2 ⊢
  simp only [aMs, hN, cK, aU, hl1, bO, cIz (Int.ofNat 2) (Int.ofNat l.length) h (by simp; omega), gO (Int.ofNat 2 * Int.ofNat l.length) (Int.ofNat 1) h (by simp; omega), e1, e2, hadd]
section
variable {h : Hp} {M : MemV} {R : List Int} {es : List (DV × DV)}
noncomputable def knW (R : List Int) (i : Int) : Int := if 0 ≤ i ∧ i < 16 then R.getD (2 + i.toNat) 0 else 0
theorem Wd.knownA (W : Wd h M R es) (i : Int) (n : Nat) : cZ (n + 1) 30 [.p (aR 7) 0, .i .i64 i] h = some (iD (knW R i), h) := by
 unfold knW
 by_cases hi : 0 ≤ i ∧ i < 16
 ·rw [if_pos hi]
  obtain ⟨j, rfl⟩ : ∃ j : Nat, i = Int.ofNat j := ⟨i.toNat, by simp; omega⟩
  exact W.known (by simp at hi; omega) n
 ·rw [if_neg hi, oO 30 rfl, bYb]
  unfold s30
  by_cases h1 : i < 0
  ·have d1 : decide (i < Int.ofNat 0) = true := decide_eq_true (by simpa using h1)
   simp only [g0, g1, cK, d1, aU, eK, cJ, bO]
   rfl
  ·have d1 : decide (i < Int.ofNat 0) = false := decide_eq_false (by simpa using h1)
   have d2 : decide (i ≥ Int.ofNat 16) = true := decide_eq_true (by simp; omega)
   simp only [g0, g1, cK, d1, aU, fT, lW, d2, cE, bO]
   rfl
def MadeP (k : Nat) (h : Hp) (M : MemV) (R : List Int) (es : List (DV × DV)) (r : aH) : Prop :=
 ∃ v h' M' R' es', r = some (iD v, h') ∧ Wv k h' M' R' es' ∧ Up h h' ∧ Stay 260 M M' R R' es es'
theorem MadeP.same {k : Nat} (V : Wv (260 + k) h M R es) (v : Int) : MadeP k h M R es (some (iD v, h)) :=
 ⟨v, h, M, R, es, rfl, V.less (by omega), Up.refl h, Stay.refl _ _ _ _⟩
theorem bJl {k : Nat} (V : Wv (260 + k) h M R es) (n : Int) {m : Nat} (hm : 300 < m) : ∃ a e h' M', cZ (m + 2) 42 [.p (aR 7) 0, .i .i64 n] h = some (.t [iD a, iD e], h') ∧ Wv k h' M' R es ∧ Up h h' ∧ Stay 260 M M' R R es es := by
 have h4 := V.n
 have h5 := V.fin
 have h6 := V.md
 obtain ⟨a, e, h', M', e1, K', U, S, _⟩ := V.K.num (by omega) (by omega) n (k := m) (by omega)
 exact ⟨a, e, h', M', e1, V.stay K' U (S.mono (by omega)), U, S.mono (by omega)⟩
theorem bLn {k : Nat} (V : Wv (260 + k) h M R es) {s : List Nat} (hs : ∀ c ∈ s, c < 256) {m : Nat} (hm : 300 < m) : ∃ a e h' M', cZ (m + 3) 43 [.p (aR 7) 0, .s s] h = some (.t [iD a, iD e], h') ∧ Wv k h' M' R es ∧ Up h h' ∧ Stay 260 M M' R R es es := by
 have h4 := V.n
 have h5 := V.fin
 have h6 := V.md
 obtain ⟨a, e, h', M', e1, K', U, S, _⟩ := V.K.string hs (by omega) (by omega) (n := m) hm
 exact ⟨a, e, h', M', e1, V.stay K' U S, U, S⟩
theorem bRi {k : Nat} (V : Wv (260 + k) h M R es) {s : List Nat} (hs : ∀ c ∈ s, c < 256) {m : Nat} (hm : 300 < m) : ∃ a e h' M' R' es', cZ (m + 3) 44 [.p (aR 7) 0, .s s] h = some (.t [iD a, iD e], h') ∧ Wv k h' M' R' es' ∧ Up h h' ∧ Stay 260 M M' R R' es es' := by
 have h4 := V.n
 have h5 := V.fin
 have h6 := V.md
 obtain ⟨a, e, h', M', R', es', e1, K', U, S, _⟩ := V.K.symbol hs (by omega) (by omega) (n := m) hm
 exact ⟨a, e, h', M', R', es', e1, V.stay K' U (S.mono (by omega)), U, S.mono (by omega)⟩
theorem bQw {k : Nat} (V : Wv (260 + k) h M R es) {x : DV} {l : List Int} (S : SlI x l h) (hl : l.length ≤ 9) {m : Nat} (hm : 300 < m) : ∃ a e h' M', cZ (m + 4) 46 [.p (aR 7) 0, x] h = some (.t [iD a, iD e], h') ∧ Wv k h' M' R es ∧ Up h h' ∧ Stay 260 M M' R R es es := by
 have h4 := V.n
 have h5 := V.fin
 have h6 := V.md
 obtain ⟨a, e, h', M', e1, K', U, A⟩ := V.K.array S (by omega) (by omega) (by omega) (n := m) (by omega)
 have S' : Stay 260 M M' R R es es := by
  rcases A with ⟨_, _, _, rfl⟩ | ⟨_, _, _, g⟩
  ·exact Stay.refl _ _ _ _
  ·exact (g.stay V.K.G R es fun CL I => I.newK (i := 9) (.inl ⟨rfl, rfl⟩) (by omega) (fun q => by cases q)).mono (by omega)
 exact ⟨a, e, h', M', e1, V.stay K' U S', U, S'⟩
theorem cKa {k : Nat} (V : Wv (260 + k) h M R es) : ∃ a e h' M', iP [.p (aR 3) 0, iD 8714, .i .i64 (.ofNat 0), .i .i64 (.ofNat 2)] h = some (.t [iD a, iD e], h') ∧ Wv k h' M' R es ∧ Up h h' ∧ Stay 260 M M' R R es es := by
 have h4 := V.n
 have h5 := V.fin
 have h6 := V.md
 obtain ⟨h', M', e1, K', U, g⟩ := V.K.make0 V.ptAt (f := 0) (c := 2) (by omega) (by omega) (by omega) (by omega)
 have S' : Stay 260 M M' R R es es := (g.stay V.K.G R es V.ptNew).mono (by simp)
 exact ⟨_, _, h', M', e1, V.stay K' U S', U, S'⟩
end
end Go.Dd

namespace Go.Dd
open Go.Proofs
section
variable {h : Hp} {M : MemV} {R : List Int} {es : List (DV × DV)} {k m : Nat} {b : Pos} {kd N : Int} {s0 s : List Nat}
theorem mE {b : Pos} {kd : Kind} {l : List DV} {h : Hp} (hb : h.bl.get b = some (.row kd l)) {i : Nat} {v : DV} (hi : l[i]? = some v) (hv : v.one = true) : aA (.p b i) h = some (v, h) := by
 simp only [aA, cellD, rowOf, hb, hi, hv, if_true]
def Tg (h : Hp) (b : Pos) (kd N : Int) (s : List Nat) : Prop := h.bl.get b = some (.row .ex [iD kd, iD N, .s s])
theorem Tg.l0 (T : Tg h b kd N s) : aA (.p b (0 + 0)) h = some (iD kd, h) := mE (i := 0 + 0) T rfl rfl
theorem Tg.l1 (T : Tg h b kd N s) : aA (.p b (0 + 1)) h = some (iD N, h) := mE (i := 0 + 1) T rfl rfl
theorem Tg.l2 (T : Tg h b kd N s) : aA (.p b (0 + 2)) h = some (.s s, h) := mE (i := 0 + 2) T rfl rfl
theorem cSt (a b : List Nat) (h : Hp) (hl : a.length + b.length < 100000) : eG .add (.s a) (.s b) h = some (.s (a ++ b), h) := by
 have : ¬ ((a.length + b.length : Nat) : Int) > IntKind.i64.max := by
  show ¬ ((a.length + b.length : Nat) : Int) > 9223372036854775807
  omega
 simp only [eG, aQx, if_neg this]
theorem cCh (V : Wv (260 + k) h M R es) (hs : ∀ c ∈ s, c < 256) (hl : s.length ≤ 250) (hm : 300 < m) : MadeP k h M R es (aIg (cZ (m + 5)) (m + 5) (.p (aR 7) 0) (.s s) h) := by
 have fin : ∀ t : List Nat, (∀ c ∈ t, c < 256) → t.length ≤ 250 → MadeP k h M R es (pS (cZ (m + 5)) (m + 5) (.p (aR 7) 0) (.s t) h) := fun t ht hlt => by
  obtain ⟨a, e, h', M', R', es', e1, V', U, S⟩ := bRi V (s := [115] ++ t.take (t.length / 2)) (fun c hc => by
   simp only [List.mem_append, List.mem_singleton] at hc
   rcases hc with rfl | hc
   ·decide
   ·exact ht c (List.mem_of_mem_take hc)) (m := m + 2) (by omega)
  refine ⟨a, h', M', R', es', ?_, V', U, S⟩
  unfold pS
  simp only [cFl, aU, cLk t.length (by omega) h, bXd t (t.length / 2) (by omega) h, cSt [115] (t.take (t.length / 2)) h (by rw [List.length_take]; simp; omega), e1, oM, oN]
 unfold aIg
 by_cases c1 : (s.length : Int) > Int.ofNat 60
 ·simp only [cFl, aU, fL, decide_eq_true c1, bO, bXd s 60 (by simp at c1; omega) h]
  exact fin _ (fun c hc => hs c (List.mem_of_mem_take hc)) (by rw [List.length_take]; omega)
 ·simp only [cFl, aU, fL, decide_eq_false c1, bM]
  exact fin _ hs hl
theorem cFv (V : Wv (260 + k) h M R es) (T : Tg h b kd N s) (hN : -9223372036854775808 ≤ N ∧ N ≤ 9223372036854775807) (hm : 300 < m) : MadeP k h M R es (aCy (cZ (m + 5)) (m + 5) (.p (aR 7) 0) (.p b 0) h) := by
 have fin : ∀ n : Int, 0 ≤ n → MadeP k h M R es (pX (cZ (m + 5)) (m + 5) (.p (aR 7) 0) (iD n) h) := fun n hn => by
  obtain ⟨j, rfl⟩ : ∃ j : Nat, n = Int.ofNat j := ⟨n.toNat, by simp; omega⟩
  have nx := V.K.W.nx
  obtain ⟨x', h1, l', e1, S1, L1, hl1⟩ := aKm (rec := cZ (m + 5)) (n := m + 5) (lo := h.next.toNat) (x0 := .p (aR 7) 0) (N := Int.ofNat j) (c := j % 10) rfl (by omega) (j % 10) (m + 5) [] .l0 h (.inl ⟨rfl, rfl⟩) (Nat.le_refl _) (by simp) (by omega)
  have V1 := V.up (V.K.W.lo L1) L1.up
  obtain ⟨a, e, h', M', e2, V', U, S⟩ := bQw V1 (cVs nx S1) (by omega) (m := m + 1) (by omega)
  refine ⟨a, h', M', R, es, ?_, V', L1.up.trans U, S⟩
  unfold pX aAu aEb aTw
  refine Eq.trans e1 ?_
  unfold dR
  simp only [e2, aU, oM, oN]
 unfold aCy aFe
 simp only [sL, T.l1, aU]
 by_cases c1 : N < Int.ofNat 0
 ·have c2 : N < 0 := c1
  have en : ∀ h, gU .neg (.i .i64 (N + Int.ofNat 1)) h = some (.i .i64 (-(N + Int.ofNat 1)), h) := fun h => by
   have : IntKind.i64.wrap (0 - (N + Int.ofNat 1)) = 0 - (N + Int.ofNat 1) := gL _ (by simp; omega)
   simp only [gU, this]
   rw [Int.zero_sub]
  simp only [iD, cK, decide_eq_true c1, aU, bO, gO N (Int.ofNat 1) h (by simp; omega), en]
  exact fin _ (by simp; omega)
 ·have c2 : ¬ N < 0 := c1
  simp only [iD, cK, decide_eq_false c1, aU, bM]
  exact fin _ (by omega)
theorem cRj (V : Wv (260 + k) h M R es) (T : Tg h b kd N s0) (hN : -9223372036854775808 ≤ N ∧ N ≤ 9223372036854775807) (hs : ∀ c ∈ s, c < 256) (hl : s.length ≤ 250) (hm : 300 < m) :
  MadeP k h M R es (aAj (cZ (m + 5)) (m + 5) (.p (aR 7) 0) (.p b 0) (.s s) h) := by
 unfold aAj aXv
 simp only [sL, T.l0, aU]
 by_cases c0 : kd = 0
 ·subst c0
  obtain ⟨a, e, h', M', e1, V', U, S⟩ := bJl V N (m := m + 3) (by omega)
  refine ⟨a, h', M', R, es, ?_, V', U, S⟩
  unfold aLv
  simp only [iD, cM, beq_self_eq_true, aU, bO, show ((0 : Int) == Int.ofNat 0) = true from rfl, sL]
  rw [T.l1]
  simp only [aU]
  rw [e1]
  simp only [aU, oM, oN, iD]
 have d0 : (kd == Int.ofNat 0) = false := nE c0
 unfold aLv bOn
 by_cases c1 : kd = 1
 ·subst c1
  obtain ⟨a, e, h', M', e1, V', U, S⟩ := bLn V hs (m := m + 2) (by omega)
  refine ⟨a, h', M', R, es, ?_, V', U, S⟩
  unfold aKj
  simp only [iD, cM, aU, bM, bO, d0, show ((1 : Int) == Int.ofNat 1) = true from rfl]
  rw [e1]
  simp only [aU, oM, oN, iD]
 have d1 : (kd == Int.ofNat 1) = false := nE c1
 unfold aKj bOp
 by_cases c2 : kd = 2
 ·subst c2
  have := cCh V hs hl hm
  unfold yO
  simp only [iD, cM, aU, bM, bO, d0, d1, show ((2 : Int) == Int.ofNat 2) = true from rfl]
  exact this
 have d2 : (kd == Int.ofNat 2) = false := nE c2
 unfold yO aSw
 by_cases c3 : kd = 3
 ·subst c3
  have := cFv V T hN hm
  unfold wJ
  simp only [iD, cM, aU, bM, bO, d0, d1, d2, show ((3 : Int) == Int.ofNat 3) = true from rfl]
  exact this
 have d3 : (kd == Int.ofNat 3) = false := nE c3
 unfold wJ
 by_cases c4 : kd = 4
 ·subst c4
  obtain ⟨a, e, h', M', e1, V', U, S⟩ := cKa V
  refine ⟨a, h', M', R, es, ?_, V', U, S⟩
  have em := V.K.W.memory (m + 4)
  have ep := V.point (m + 4)
  simp only [iD, cM, aU, bM, bO, d0, d1, d2, d3, show ((4 : Int) == Int.ofNat 4) = true from rfl, em]
  rw [ep]
  simp only [aU]
  rw [e1]
  simp only [aU, oM, oN, iD]
 have d4 : (kd == Int.ofNat 4) = false := nE c4
 by_cases c5 : kd = 5
 ·subst c5
  have ep := V.point (m + 4)
  by_cases c16 : N = 16
  ·subst c16
   have : MadeP k h M R es (some (iD 8714, h)) := .same V _
   simp only [iD, cM, aU, bM, bO, d0, d1, d2, d3, d4, show ((5 : Int) == Int.ofNat 5) = true from rfl, sL]
   rw [T.l1]
   simp only [iD, cM, aU, bM, bO, show ((16 : Int) == Int.ofNat 16) = true from rfl]
   rw [ep]
   exact this
  ·have : MadeP k h M R es (some (iD (knW R N), h)) := .same V _
   have ek := V.K.W.knownA N (m + 4)
   simp only [iD, cM, aU, bM, bO, d0, d1, d2, d3, d4, show ((5 : Int) == Int.ofNat 5) = true from rfl, sL]
   have t1 : aA (.p b (0 + 1)) h = some (.i .i64 N, h) := T.l1
   simp only [t1, iD, cM, aU, bM, bO, show (N == Int.ofNat 16) = false from nE c16]
   rw [ek]
   exact this
 have d5 : (kd == Int.ofNat 5) = false := nE c5
 have t1 : aA (.p b (0 + 1)) h = some (.i .i64 N, h) := T.l1
 by_cases c6 : kd = 6
 ·subst c6
  simp only [iD, cM, aU, bM, bO, d0, d1, d2, d3, d4, d5, show ((6 : Int) == Int.ofNat 6) = true from rfl]
  exact .same V _
 have d6 : (kd == Int.ofNat 6) = false := nE c6
 by_cases c7 : kd = 7
 ·subst c7
  simp only [iD, cM, aU, bM, bO, d0, d1, d2, d3, d4, d5, d6, show ((7 : Int) == Int.ofNat 7) = true from rfl]
  exact .same V _
 have d7 : (kd == Int.ofNat 7) = false := nE c7
 by_cases c8 : kd = 8
 ·subst c8
  simp only [iD, cM, aU, bM, bO, d0, d1, d2, d3, d4, d5, d6, d7, show ((8 : Int) == Int.ofNat 8) = true from rfl]
  exact .same V _
 have d8 : (kd == Int.ofNat 8) = false := nE c8
 unfold aX
 simp only [iD, cM, aU, bM, bO, d0, d1, d2, d3, d4, d5, d6, d7, d8, sL, t1]
 exact .same V _
theorem bBo (V : Wv (260 + k) h M R es) (kd : Int) (hN : -9223372036854775808 ≤ N ∧ N ≤ 9223372036854775807) (hs : ∀ c ∈ s, c < 256) (hm : 300 < m) :
  MadeP k h M R es (cZ (m + 6) 14 [.p (aR 7) 0, .a [iD kd, iD N, .s s]] h) := by
 obtain ⟨U1, V1⟩ := V.new (.row .ex [iD kd, iD N, .s s])
 obtain ⟨h1, hh1⟩ : ∃ h1 : Hp, (⟨h.next.succ, Tr.set (.row .ex [iD kd, iD N, .s s]) h.next h.bl⟩ : Hp) = h1 := ⟨_, rfl⟩
 rw [hh1] at U1 V1
 have eb : bQ (.a [iD kd, iD N, .s s]) h = some (.p h.next 0, h1) := by rw [← hh1]; rfl
 have T : Tg h1 h.next kd N s := by rw [← hh1]; exact dRc _ _ _
 have up : ∀ r, MadeP k h1 M R es r → MadeP k h M R es r := fun r ⟨v, h', M', R', es', e, V', U, S⟩ => ⟨v, h', M', R', es', e, V', U1.trans U, S⟩
 rw [oO 14 rfl, cQr]
 unfold s14 aAi aXz
 simp only [g0, g1, eb, aU, sL, T.l2, cFl, fL]
 apply up
 by_cases c1 : (s.length : Int) > Int.ofNat 250
 ·simp only [decide_eq_true c1, bO, bXd s 250 (by simp at c1; omega) h1, aU]
  exact cRj V1 T hN (fun c hc => hs c (List.mem_of_mem_take hc)) (by rw [List.length_take]; omega) hm
 ·simp only [decide_eq_false c1, bM]
  exact cRj V1 T hN hs (by simp at c1; omega) hm
end
end Go.Dd

namespace Go.Dd
open Go.Proofs
def rO (n : Int) : Int :=
 if n = 11 ∨ n = 22 ∨ n = 23 ∨ n = 40 ∨ n = 41 then 0
 else if n = 1 ∨ n = 2 ∨ n = 3 ∨ n = 4 ∨ n = 5 ∨ n = 6 ∨ n = 7 ∨ n = 10 ∨ n = 20 ∨ n = 24 ∨ n = 25 ∨ n = 26 ∨ n = 50 then 1
 else if n = 21 ∨ n = 51 then 2 else -1
theorem cBo (n : Int) (m : Nat) (h : Hp) : cZ (m + 1) 39 [iD n] h = some (iD (rO n), h) := by
 rw [oO 39 rfl, cQt]
 by_cases q : n = 11 ∨ n = 22 ∨ n = 23 ∨ n = 40 ∨ n = 41 ∨ n = 1 ∨ n = 2 ∨ n = 3 ∨ n = 4 ∨ n = 5 ∨ n = 6 ∨ n = 7 ∨ n = 10 ∨ n = 20 ∨ n = 24 ∨ n = 25 ∨ n = 26 ∨ n = 50 ∨ n = 21 ∨ n = 51
 ·rcases q with q | q | q | q | q | q | q | q | q | q | q | q | q | q | q | q | q | q | q | q <;> subst q <;> rfl
 ·have e : rO n = -1 := by
   unfold rO
   rw [if_neg (by omega), if_neg (by omega), if_neg (by omega)]
  rw [e]
  unfold s39 aVj bBx sB bRx iO bHc aMx cP
  simp only [g0, iD, cM, aU, nE (show n ≠ Int.ofNat 11 by simp; omega), nE (show n ≠ Int.ofNat 22 by simp; omega), nE (show n ≠ Int.ofNat 23 by simp; omega), nE (show n ≠ Int.ofNat 40 by simp; omega), nE (show n ≠ Int.ofNat 41 by simp; omega),
   nE (show n ≠ Int.ofNat 1 by simp; omega), nE (show n ≠ Int.ofNat 2 by simp; omega), nE (show n ≠ Int.ofNat 3 by simp; omega), nE (show n ≠ Int.ofNat 4 by simp; omega), nE (show n ≠ Int.ofNat 5 by simp; omega), nE (show n ≠ Int.ofNat 6 by simp; omega), nE (show n ≠ Int.ofNat 7 by simp; omega),
   nE (show n ≠ Int.ofNat 10 by simp; omega), nE (show n ≠ Int.ofNat 20 by simp; omega), nE (show n ≠ Int.ofNat 24 by simp; omega), nE (show n ≠ Int.ofNat 25 by simp; omega), nE (show n ≠ Int.ofNat 26 by simp; omega), nE (show n ≠ Int.ofNat 50 by simp; omega), nE (show n ≠ Int.ofNat 21 by simp; omega), nE (show n ≠ Int.ofNat 51 by simp; omega), bM]
  rfl
section
variable {h : Hp} {M : MemV} {R : List Int} {es : List (DV × DV)}
theorem cKb {x f : DV} {l : List Int} (S : SlI x l h) {p : Int → Bool} {n : Nat} (hc : ∀ v, cV CF (cZ n) f [iD v] h = some (.b (p v), h)) (hl : l.length ≤ 256) : ∀ (k i m : Nat), k + i = l.length → k < m →
  ∃ r : Int, iL (cZ n) n m x f (iD l.length) (.i .i64 (Int.ofNat i)) h = some (iD r, h) ∧ (decide (r ≥ Int.ofNat 0) = (l.drop i).any p) := by
 intro k
 induction k with
 | zero =>
  intro i m he hm
  obtain ⟨m, rfl⟩ : ∃ m', m = m' + 1 := ⟨m - 1, by omega⟩
  refine ⟨-1, ?_, ?_⟩
  ·show gR (cZ n) n (iL (cZ n) n m) _ _ _ _ h = _
   unfold gR
   have d : decide (Int.ofNat i < (l.length : Int)) = false := decide_eq_false (by simp; omega)
   simp only [cK, d, aU, bM]
   rfl
  ·rw [List.drop_eq_nil_of_le (by omega)]
   rfl
 | succ k ih =>
  intro i m he hm
  obtain ⟨m, rfl⟩ : ∃ m', m = m' + 1 := ⟨m - 1, by omega⟩
  have hi : i < l.length := by omega
  have hv : l[i]? = some l[i] := List.getElem?_eq_getElem hi
  obtain ⟨a, e1, e2⟩ := S.at hv
  obtain ⟨r, q1, q2⟩ := ih (i + 1) m (by omega) (by omega)
  have d : decide (Int.ofNat i < (l.length : Int)) = true := decide_eq_true (by simp; omega)
  have hc := hc l[i]
  have ha : aD .add (.i .i64 (Int.ofNat i)) (.i .i64 (Int.ofNat 1)) h = some (.i .i64 (Int.ofNat (i + 1)), h) := iC i 1 h (by omega)
  rw [aMy hv]
  cases hmay : p l[i] with
  | true =>
   refine ⟨Int.ofNat i, ?_, by simp⟩
   show gR (cZ n) n (iL (cZ n) n m) _ _ _ _ h = _
   unfold gR
   rw [hmay] at hc
   simp only [cK, d, aU, bO, e1, e2, hc]
  | false =>
   refine ⟨r, ?_, by rw [q2]; rfl⟩
   show gR (cZ n) n (iL (cZ n) n m) _ _ _ _ h = _
   unfold gR
   rw [hmay] at hc
   simp only [cK, d, aU, bO, e1, e2, hc, bM, ha]
   exact q1
theorem dPk {x f : DV} {l : List Int} (S : SlI x l h) {p : Int → Bool} {n : Nat} (hc : ∀ v, cV CF (cZ n) f [iD v] h = some (.b (p v), h)) (hl : l.length ≤ 256) (hn : 256 < n) : cZ (n + 2) 52 [x, f] h = some (.b (l.any p), h) := by
 rw [oO 52 rfl, bLx]
 unfold s52
 obtain ⟨r, q1, q2⟩ := cKb S (p := p) (n := n) hc hl l.length 0 n (by omega) (by omega)
 have e : cZ (n + 1) 89 [x, f] h = some (iD r, h) := by
  rw [oO 89 rfl, bKm]
  unfold s89 aMb aLk aYf
  simp only [g0, g1, S.len (h' := h), aU]
  exact q1
 simp only [g0, g1, e, aU, lW, q2, List.drop_zero]
def tH (M : MemV) (n r : Int) (l : List Int) : Prop := rO n ≠ (l.length : Int) ∨ dD r M.pl = false ∨ ∃ v ∈ l, dD v M.pl = false
theorem cGe {k : Nat} {z : Prop} (V : Wv k h M R es z) {x : DV} {l : List Int} (S : SlI x l h) (hl : l.length ≤ 256) (n r : Int) {m : Nat} (hm : 300 < m) :
  ∃ h1, Wv k h1 M R es z ∧ Up h h1 ∧ ((tH M n r l ∧ cZ (m + 4) 16 [.p (aR 7) 0, iD n, iD r, x] h = some (.t [iD 0, iD 20], h1)) ∨
   (¬ tH M n r l ∧ cZ (m + 4) 16 [.p (aR 7) 0, iD n, iD r, x] h = yK (cZ (m + 3)) (m + 3) (.p (aR 7) 0) (iD n) (iD r) x h1)) := by
 obtain ⟨h1, hh1⟩ : ∃ h1 : Hp, (⟨h.next.succ, Tr.set (.row .ex [.p (aR 3) 0]) h.next (Tr.set (.row .ex [.p0]) h.next h.bl)⟩ : Hp) = h1 := ⟨_, rfl⟩
 have ns := dRe h.next
 have nx := V.K.W.nx
 have oth : ∀ b : Pos, b ≠ h.next → h1.bl.get b = h.bl.get b := fun b hb => by
  rw [← hh1]
  show (Tr.set _ _ (Tr.set _ _ _)).get b = _
  rw [dRb _ _ _ _ hb, dRb _ _ _ _ hb]
 have U1 : Up h h1 := ⟨by rw [← hh1]; show _ ≤ h.next.succ.toNat; omega, fun b _ hb => oth b fun e => by subst e; omega⟩
 have V1 : Wv k h1 M R es z := V.up (V.K.W.up U1 fun b hb => oth b fun e => by subst e; omega) U1
 have hg : h1.bl.get h.next = some (.row .ex [.p (aR 3) 0]) := by rw [← hh1]; exact dRc _ _ _
 have e1 : bL [.p0] h = some (.p h.next 0, ⟨h.next.succ, Tr.set (.row .ex [.p0]) h.next h.bl⟩) := rfl
 have e2 : aG 1 (.p h.next 0) (.p (aR 3) 0) ⟨h.next.succ, Tr.set (.row .ex [.p0]) h.next h.bl⟩ = some (aV, h1) := by
  rw [← hh1]
  simp only [aG, dI, dG, dRc]
  rfl
 have ld : aA (.p h.next 0) h1 = some (.p (aR 3) 0, h1) := mE hg rfl rfl
 have S1 := S.up U1
 have em := V.K.W.memory (m + 2)
 have ea := cBo n (m + 2) h1
 have el : bX x h1 = some (iD (l.length : Int), h1) := S1.len
 have ef : cZ (m + 3) 54 [] h1 = some (.t [iD 0, iD 20], h1) := by rw [oO 54 rfl, bYn]; rfl
 have hc : ∀ v, cV CF (cZ (m + 1)) (.f 53 [] [.p h.next 0]) [iD v] h1 = some (.b (!(dD v M.pl)), h1) := fun v => by
  rw [pcf rfl]
  simp only [List.nil_append, List.singleton_append]
  rw [oO 53 rfl, cQv]
  unfold s53
  simp only [g0, g1, ld, aU, V1.K.W.may, gE]
 have ec := dPk S1 (p := fun v => !(dD v M.pl)) (n := m + 1) hc hl (by omega)
 refine ⟨h1, V1, U1, ?_⟩
 rw [oO 16 rfl, cQm]
 unfold s16 aKu zZ
 simp only [g0, g1, g2, g3, em, aU, e1, e2]
 by_cases c1 : rO n = (l.length : Int)
 ·have d1 : (rO n != (l.length : Int)) = false := by simpa using c1
  cases hr : dD r M.pl with
  | false =>
   refine .inl ⟨.inr (.inl hr), ?_⟩
   simp only [iD] at ea el ef ⊢
   simp only [ea, el, aU, eL, d1, fT, ld, V1.K.W.may, hr, gE, Bool.not_false, cE, eK, cJ, bO, ef, oM, oN]
  | true =>
   cases hq : l.any (fun v => !(dD v M.pl)) with
   | true =>
    rw [hq] at ec
    obtain ⟨v, hv, hv2⟩ := List.any_eq_true.1 hq
    refine .inl ⟨.inr (.inr ⟨v, hv, by simpa using hv2⟩), ?_⟩
    simp only [iD] at ea el ef ⊢
    simp only [ea, el, aU, eL, d1, fT, ld, V1.K.W.may, hr, gE, Bool.not_true, cE, ec, bO, ef, oM, oN]
   | false =>
    rw [hq] at ec
    refine .inr ⟨fun q => ?_, ?_⟩
    ·rcases q with q | q | ⟨v, hv, hv2⟩
     ·exact q c1
     ·rw [hr] at q; cases q
     ·have : l.any (fun v => !(dD v M.pl)) = true := List.any_eq_true.2 ⟨v, hv, by rw [hv2]; rfl⟩
      rw [this] at hq
      cases hq
    ·simp only [iD] at ea el ef ⊢
     simp only [ea, el, aU, eL, d1, fT, ld, V1.K.W.may, hr, gE, Bool.not_true, cE, ec, bM]
 ·have d1 : (rO n != (l.length : Int)) = true := by simpa using c1
  refine .inl ⟨.inl c1, ?_⟩
  simp only [iD] at ea el ef ⊢
  simp only [ea, el, aU, eL, d1, eK, xA, cJ, bO, ef, oM, oN]
end
end Go.Dd

namespace Go.Dd
open Go.Proofs
theorem aAa (T T' : Tr Ob) : ∀ (l : List (Pos × Ob)) (b : Pos), (∃ e ∈ l, e.1 = b) → (eT l T).get b = (eT l T').get b
 | [], b, h => by obtain ⟨e, he, _⟩ := h; cases he
 | x :: l, b, h => by
  show (Tr.set x.2 x.1 (eT l T)).get b = (Tr.set x.2 x.1 (eT l T')).get b
  by_cases e : b = x.1
  ·subst e
   rw [dRc, dRc]
  ·rw [dRb _ _ _ _ e, dRb _ _ _ _ e]
   obtain ⟨y, hy, hb⟩ := h
   simp only [List.mem_cons] at hy
   rcases hy with rfl | hy
   ·exact absurd hb.symm e
   ·exact aAa T T' l b ⟨y, hy, hb⟩
theorem aKs (T : Tr Ob) : ∀ (l : List (Pos × Ob)) (b : Pos), (∀ e ∈ l, e.1 ≠ b) → (eT l T).get b = T.get b
 | [], b, h => rfl
 | x :: l, b, h => by
  show (Tr.set x.2 x.1 (eT l T)).get b = _
  rw [dRb _ _ _ _ (fun e => h x (by simp) e.symm)]
  exact aKs T l b fun e he => h e (by simp [he])
noncomputable def hWo (h : Hp) : Hp := ⟨aR nxW, eT HLW h.bl⟩
theorem dFu : hW.bl = eT HLW .e := by kernel_rfl
theorem aNc : HLW.map (·.1) = [aR 7, aR 6, aR 5, aR 4, aR 3, aR 2, aR 1] := rfl
theorem nU (h : Hp) (i : Nat) (hi : i = 1 ∨ i = 2 ∨ i = 3 ∨ i = 4 ∨ i = 5 ∨ i = 6 ∨ i = 7) : (hWo h).bl.get (aR i) = hW.bl.get (aR i) := by
 rw [dFu]
 show (eT HLW h.bl).get (aR i) = _
 refine aAa h.bl .e HLW (aR i) ?_
 have : aR i ∈ HLW.map (·.1) := by
  rw [aNc]
  rcases hi with rfl | rfl | rfl | rfl | rfl | rfl | rfl <;> simp
 obtain ⟨e, he, h2⟩ := List.mem_map.1 this
 exact ⟨e, he, h2⟩
theorem cUj (h : Hp) (b : Pos) (hb : b.toNat < 1024) : (hWo h).bl.get b = h.bl.get b := by
 show (eT HLW h.bl).get b = _
 refine aKs h.bl HLW b fun e he q => ?_
 have : e.1 ∈ HLW.map (·.1) := List.mem_map.2 ⟨e, he, rfl⟩
 rw [aNc, q] at this
 simp only [List.mem_cons, List.not_mem_nil, or_false] at this
 rcases this with e | e | e | e | e | e | e <;> subst e
 ·rw [pn7] at hb; omega
 ·rw [pn6] at hb; omega
 ·rw [pn5] at hb; omega
 ·rw [pn4] at hb; omega
 ·rw [pn3] at hb; omega
 ·rw [pn2] at hb; omega
 ·rw [pn1] at hb; omega
theorem WNo (h : Hp) : Wd (hWo h) MN RN esN := by
 have W := WN
 obtain ⟨m1, m2, m3, m4, m5, m6⟩ := kK W.mem
 refine ⟨by rw [nU h 7 (by simp)]; exact W.w, by rw [nU h 4 (by simp)]; exact W.r, W.rl, by rw [nU h 5 (by simp)]; exact W.sy, ?_, W.nx, W.wb, W.pb⟩
 refine mV (by rw [nU h 3 (by simp)]; exact m1) ?_ ?_ m4 m5 m6
 ·rw [W.wb] at m2 ⊢
  rw [nU h 1 (by simp)]; exact m2
 ·rw [W.pb] at m3 ⊢
  rw [nU h 2 (by simp)]; exact m3
theorem WvN (h : Hp) : Wv 20000 (hWo h) MN RN esN where
 K := ⟨WNo h, GN, KN.sy, KN.r0, KN.rk⟩
 I := GIN
 c := by
  unfold Wc
  rw [nU h 6 (by simp)]
  kernel_rfl
 n := rfl
 fin := by show 4371 + 20000 ≤ 30000; omega
 md := by show 592 + 20000 ≤ 700000; omega
theorem bMh (h : Hp) (hn : kY h.next (aR 1) = true) : jX 12 [] h = some (.p (aR 7) 0, hWo h) := by
 have e1 : Nat.beq 12 13 = false := rfl
 have e2 : Nat.beq 12 12 = true := rfl
 have e3 : aUm [] = true := rfl
 unfold jX yC aRa yG hWo
 rw [e1, cond_false, e2, cond_true, e3, hn, Bool.and_self, cond_true]
theorem aMq (h : Hp) : jX 13 [] h = some (.b true, h) := rfl
theorem lD {g : FuncId} (h1 : Nat.beq g 13 = false) (h2 : Nat.beq g 12 = false) (args : List DV) (h : Hp) : jX g args h = cZ 900 g args h := by
 unfold jX
 rw [h1, cond_false, aXi, h2, cond_false]
end Go.Dd

namespace Go.Dd
open Go.Proofs
section
variable {h : Hp} {M : MemV} {R : List Int} {es : List (DV × DV)} {k : Nat} {b : Pos} {n r : Int} {x : DV} {l : List Int}
def Dr (h : Hp) (b : Pos) (n r : Int) (x : DV) : Prop := h.bl.get b = some (.row .ex [.p (aR 7) 0, iD n, iD r, x]) ∧ 1029 ≤ b.toNat ∧ b.toNat < h.next.toNat
theorem Dr.up {h' : Hp} (D : Dr h b n r x) (U : Up h h') : Dr h' b n r x := ⟨by rw [U.get b (.inr D.2.1) D.2.2]; exact D.1, D.2.1, Nat.lt_of_lt_of_le D.2.2 U.next⟩
theorem Dr.l0 (D : Dr h b n r x) : aA (.p b (0 + 0)) h = some (.p (aR 7) 0, h) := mE (i := 0 + 0) D.1 rfl rfl
theorem Dr.l1 (D : Dr h b n r x) : aA (.p b (0 + 1)) h = some (iD n, h) := mE (i := 0 + 1) D.1 rfl rfl
theorem Dr.l2 (D : Dr h b n r x) : aA (.p b (0 + 2)) h = some (iD r, h) := mE (i := 0 + 2) D.1 rfl rfl
theorem Dr.l3 (D : Dr h b n r x) (S : SlI x l h) : aA (.p b (0 + 3)) h = some (x, h) := by
 refine mE (i := 0 + 3) D.1 rfl ?_
 rcases S with ⟨rfl, _⟩ | ⟨_, _, _, rfl, _⟩ <;> rfl
theorem cBj {z : Prop} (V : Wv k h M R es z) (S : SlI x l h) (n r : Int) (m : Nat) :
  ∃ b h1, Wv k h1 M R es z ∧ Up h h1 ∧ Dr h1 b n r x ∧ SlI x l h1 ∧ yK (cZ m) m (.p (aR 7) 0) (iD n) (iD r) x h = nB (cZ m) m (iD n) (.p b 0) h1 := by
 obtain ⟨U1, V1⟩ := V.new (.row .ex [.p (aR 7) 0, iD n, iD r, x])
 refine ⟨h.next, _, V1, U1, ⟨dRc _ _ _, by have := V.K.W.nx; omega, by show h.next.toNat < h.next.succ.toNat; rw [dRe]; omega⟩, S.up U1, ?_⟩
 have hx : dI x = some [x] := by
  rcases S with ⟨rfl, _⟩ | ⟨_, _, _, rfl, _⟩ <;> rfl
 have e1 : bC [.p0, .i .i64 (Int.ofNat 0), .i .i64 (Int.ofNat 0), .l0] [(0, 1, .p (aR 7) 0), (1, 1, iD n), (2, 1, iD r), (3, 1, x)] h = some (.a [.p (aR 7) 0, iD n, iD r, x], h) := by
  rcases S with ⟨rfl, _⟩ | ⟨_, _, _, rfl, _⟩ <;> simp [bC, iY, dI, iD]
 unfold yK
 rw [e1, aU]
 rfl
theorem aMf (t : Bool) (m : Nat) (h : Hp) : cZ (m + 1) 95 [.b t] h = some (.t [iD (if t then 2 else 4), iD 0], h) := by
 rw [oO 95 rfl, cQi]
 cases t <;> rfl
end
end Go.Dd

namespace Go.Dd
open Go.Proofs
section
variable {h : Hp} {M : MemV} {R : List Int} {es : List (DV × DV)} {k : Nat} {b : Pos} {n r : Int} {x : DV} {l : List Int}
end
end Go.Dd

namespace Go.Dd
open Go.Proofs
def pK (k : Nat) : Pos := dDv 24 k
def hK (k : Nat) : Hp := ⟨pK k, .e⟩
theorem aDq : (pK 1022).toNat = 1022 := by kernel_rfl
theorem aBo : (pK 1023).toNat = 1023 := by kernel_rfl
theorem cWv : (pK 1022).succ = pK 1023 := by kernel_rfl
theorem dBk : (pK 1023).succ = aR 1 := by kernel_rfl
abbrev th (kd N : Int) (s : List Nat) : DV := .a [iD kd, iD N, .s s]
def i64 (N : Int) : Prop := -9223372036854775808 ≤ N ∧ N ≤ 9223372036854775807
def byS (s : List Nat) : Prop := ∀ c ∈ s, c < 256
theorem cQu (kd N : Int) (s : List Nat) (h : Hp) : bQ (th kd N s) h = some (.p h.next 0, ⟨h.next.succ, Tr.set (.row .ex [iD kd, iD N, .s s]) h.next h.bl⟩) := rfl
section
variable {h h' : Hp} {M : MemV} {R : List Int} {es : List (DV × DV)} {k : Nat} {z : Prop} {b : Pos} {kd N : Int} {s : List Nat}
theorem Tg.ld (T : Tg h b kd N s) : aK 3 (.p b 0) h = some (th kd N s, h) := by
 have e : h.bl.get b = some (.row .ex [iD kd, iD N, .s s]) := T
 simp [aK, cellsAt, rowOf, e, lL, DV.one]
theorem Tg.up (T : Tg h b kd N s) (U : Up h h') (hb : b.toNat < 1024) (hn : b.toNat < h.next.toNat) : Tg h' b kd N s := by
 unfold Tg
 rw [U.get b (.inl hb) hn]
 exact T
theorem dSp (T : Tg h b kd N s) (hb : b.toNat < 1024) : Tg (hWo h) b kd N s := by
 unfold Tg
 rw [cUj h b hb]
 exact T
theorem pE0 (t : TypeId) (h : Hp) : pEq (.pointer t) true (.p (aR 7) 0) .p0 h = some (.b false, h) := Eq.trans rfl rfl
theorem bQt (V : Wv k h M R es z) (v : Int) : ∃ y h', aL [(.i .i64 (Int.ofNat 0))] 1 [(0, 1, iD v)] h = some (y, h') ∧ SlI y [v] h' ∧ Up h h' ∧ Wv k h' M R es z := by
 obtain ⟨U1, V1⟩ := V.new (.row .ex [iD v])
 refine ⟨.l h.next 0 1 1, _, ?_, .inr ⟨h.next, 1, .ex, rfl, dRc _ _ _, .inr (by have := V.K.W.nx; omega), ?_⟩, U1, V1⟩
 ·simp [aL, iY, dI, iD]
 ·show h.next.toNat < h.next.succ.toNat
  rw [dRe]; omega
theorem bAy (t : Bool) (m : Nat) (h : Hp) : cZ (m + 1) 17 [.b t] h = some (iD (if t then 2 else 4), h) := by
 rw [oO 17 rfl, cRb]
 cases t <;> rfl
end
theorem cBg (args : List DV) (h : Hp) : jX 14 args h = cZ (894 + 6) 14 args h := lD rfl rfl args h
theorem aVo (args : List DV) (h : Hp) : jX 16 args h = cZ (896 + 4) 16 args h := lD rfl rfl args h
theorem aVw (args : List DV) (h : Hp) : jX 17 args h = cZ (899 + 1) 17 args h := lD rfl rfl args h
theorem aXs (args : List DV) (h : Hp) : jX 23 args h = cZ (899 + 1) 23 args h := lD rfl rfl args h
theorem cOw (args : List DV) (h : Hp) : jX 25 args h = cZ (898 + 2) 25 args h := lD rfl rfl args h
theorem cPo (args : List DV) (h : Hp) : jX 30 args h = cZ (899 + 1) 30 args h := lD rfl rfl args h
theorem aZz (args : List DV) (h : Hp) : jX 33 args h = cZ (898 + 2) 33 args h := lD rfl rfl args h
structure Two (h : Hp) (k1 N1 : Int) (s1 : List Nat) (k2 N2 : Int) (s2 : List Nat) : Prop where
 t1 : Tg h (pK 1022) k1 N1 s1
 t2 : Tg h (pK 1023) k2 N2 s2
 nx : 1024 ≤ h.next.toNat
theorem Two.up {h h' : Hp} {k1 N1 k2 N2 : Int} {s1 s2 : List Nat} (T : Two h k1 N1 s1 k2 N2 s2) (U : Up h h') : Two h' k1 N1 s1 k2 N2 s2 := by
 have := T.nx
 exact ⟨T.t1.up U (by rw [aDq]; omega) (by rw [aDq]; omega), T.t2.up U (by rw [aBo]; omega) (by rw [aBo]; omega), Nat.le_trans T.nx U.next⟩
theorem aMg {p q : Pos} (ne : p ≠ q) (o1 o2 : Ob) (T : Tr Ob) (nx : Pos) : (⟨nx, Tr.set o2 q (Tr.set o1 p T)⟩ : Hp).bl.get p = some o1 ∧ (⟨nx, Tr.set o2 q (Tr.set o1 p T)⟩ : Hp).bl.get q = some o2 :=
 ⟨(dRb _ _ _ _ ne).trans (dRc _ _ _), dRc _ _ _⟩
theorem bEl (k1 N1 : Int) (s1 : List Nat) (k2 N2 : Int) (s2 : List Nat) : ∃ h1 h2, bQ (th k1 N1 s1) (hK 1022) = some (.p (pK 1022) 0, h1) ∧ bQ (th k2 N2 s2) h1 = some (.p (pK 1023) 0, h2) ∧
  jX 12 [] h2 = some (.p (aR 7) 0, hWo h2) ∧ Wv 20000 (hWo h2) MN RN esN ∧ Two (hWo h2) k1 N1 s1 k2 N2 s2 := by
 refine ⟨_, ⟨aR 1, Tr.set (.row .ex [iD k2, iD N2, .s s2]) (pK 1023) (Tr.set (.row .ex [iD k1, iD N1, .s s1]) (pK 1022) .e)⟩, cQu _ _ _ _, ?_, ?_, WvN _, ?_⟩
 ·rw [cQu]
  show some (DV.p (pK 1022).succ 0, (⟨(pK 1022).succ.succ, Tr.set _ (pK 1022).succ _⟩ : Hp)) = _
  rw [cWv, dBk]
  rfl
 ·exact bMh _ (by kernel_rfl)
 ·have ne : pK 1022 ≠ pK 1023 := fun e => by have := congrArg Pos.toNat e; rw [aDq, aBo] at this; omega
  refine ⟨dSp ?_ (by rw [aDq]; omega), dSp ?_ (by rw [aBo]; omega), ?_⟩
  ·exact (aMg ne _ _ _ _).1
  ·exact (aMg ne _ _ _ _).2
  ·exact Nat.le_trans (by omega) (WNo _).nx
end Go.Dd

namespace Go.Dd
open Go.Proofs
theorem bFb {x : Int} {pl : WT} (h : dD x pl = true) : bV x pl ≠ 0 ∨ (bV x pl = 0 ∧ (dF x = true ∨ x = 0 ∨ x = 2 ∨ x = 4)) := by
 by_cases ha : bV x pl = 0
 ·refine .inr ⟨ha, ?_⟩
  unfold dD at h
  split at h
  ·exact .inr (.inl rfl)
  ·exact .inr (.inr (.inl rfl))
  ·exact .inr (.inr (.inr rfl))
  ·cases hs : dF x with
   | true => exact .inl rfl
   | false =>
    rw [hs, ha] at h
    cases h
 ·exact .inl ha
theorem bQp {x : Int} (h : dF x = true ∨ x = 0 ∨ x = 2 ∨ x = 4) (pl : WT) : bV x pl = 0 := by
 rcases h with h | rfl | rfl | rfl
 ·exact bGr h
 ·rfl
 ·rfl
 ·rfl
section
variable {h h' : Hp} {M M' : MemV} {R R' : List Int} {es es' : List (DV × DV)} {k : Nat} {z : Prop} {CL : List Nat}
theorem Stay.clo (S : Stay k M M' R R' es es') (I : GI M R CL z) (G : Good M) {o : Int} (ho : bV o M.pl ≠ 0) : hC M' o = hC M o := by
 obtain ⟨h1, _, h4, h3⟩ := I.headOb G ho
 unfold hC
 rw [S.at' o ho, S.old _ (by omega)]
theorem Stay.isTx (S : Stay k M M' R R' es es') (I : GI M R CL z) (G : Good M) {x : Int} (hx : dD x M.pl = true) : isTx M' R' x ↔ isTx M R x := by
 unfold Go.Dd.isTx
 rcases bFb hx with ha | ⟨ha, hc⟩
 ·rw [S.at' x ha, S.clo I G ha, S.r 11, S.r 12]
 ·rw [bQp hc, ha]
  simp
theorem Wv.str (V : Wv (260 + k) h M R es) {s : List Nat} (hs : ∀ c ∈ s, c < 256) {m : Nat} (hm : 300 < m) : ∃ a e h' M', cZ (m + 3) 43 [.p (aR 7) 0, .s s] h = some (.t [iD a, iD e], h') ∧ Wv k h' M' R es ∧ Up h h' ∧ Stay 260 M M' R R es es ∧
  ((¬ s.length ≤ 250 ∧ e = 1 ∧ a = 0) ∨ (s.length ≤ 250 ∧ e = 0 ∧ a = .ofNat (M.fin * 2) ∧ TxO M' (R.getD 12 0) a s)) := by
 have h4 := V.n
 have h5 := V.fin
 have h6 := V.md
 obtain ⟨a, e, h', M', e1, K', U, S, A⟩ := V.K.string hs (by omega) (by omega) (n := m) hm
 exact ⟨a, e, h', M', e1, V.stay K' U S, U, S, A⟩
end
end Go.Dd

namespace Go.Dd
open Go.Proofs
theorem cLf (rec : RT) (n : Nat) (x : DV) (h : Hp) : nB rec n (iD 25) x h = bB rec n (.f 59 [x] []) h := by rfl
theorem cNy (rec : RT) (n : Nat) (x : DV) (h : Hp) : nB rec n (iD 26) x h = bB rec n (.f 59 [x] []) h := by rfl
section
variable {h h' : Hp} {M M' : MemV} {R R' : List Int} {es es' : List (DV × DV)} {k : Nat} {z : Prop} {CL : List Nat}
theorem dFh {n : Int} {K : FuncId} (hd : ∀ (rec : RT) (m : Nat) (x : DV) (h : Hp), nB rec m (iD n) x h = bB rec m (.f K [x] []) h) (hK : CF.I K = none) (V : Wv k h M R es z) {x : DV} {l : List Int} (S : SlI x l h) (hl : l.length ≤ 256) (r : Int) {m : Nat} (hm : 300 < m) :
  (tH M n r l ∧ ∃ h', cZ (m + 4) 16 [.p (aR 7) 0, iD n, iD r, x] h = some (.t [iD 0, iD 20], h') ∧ Wv k h' M R es z ∧ Up h h') ∨
  (¬ tH M n r l ∧ ∃ b h1, Wv k h1 M R es z ∧ Up h h1 ∧ Dr h1 b n r x ∧ SlI x l h1 ∧
   ∀ a e h', cZ (m + 3) K [.p b 0] h1 = some (.t [a, e], h') → cZ (m + 4) 16 [.p (aR 7) 0, iD n, iD r, x] h = some (.t [a, e], h')) := by
 obtain ⟨h1, V1, U1, q | q⟩ := cGe V S hl n r hm
 ·exact .inl ⟨q.1, h1, q.2, V1, U1⟩
 ·obtain ⟨b, h2, V2, U2, D, S2, e2⟩ := cBj V1 (S.up U1) n r (m + 3)
  refine .inr ⟨q.1, b, h2, V2, U1.trans U2, D, S2, fun a e h' e3 => ?_⟩
  rw [q.2, e2, hd]
  unfold bB
  rw [pcf hK]
  simp only [List.append_nil, List.nil_append] at e3 ⊢
  rw [e3]
  simp only [aU, oM, oN]
end
end Go.Dd

namespace Go.Dd
open Go.Proofs
theorem bGl {M : MemV} {R : List Int} {o : Int} (h : bV o M.pl ≠ 0) : cSn M R o = hC M o := if_pos h
section
variable {h h' : Hp} {M M' : MemV} {R R' : List Int} {es es' : List (DV × DV)} {k : Nat} {z : Prop} {CL : List Nat} {b : Pos} {n r : Int} {x : DV}
end
theorem eqX {a b : Int} (h : a = b) : (a == b) = true := by rw [h]; exact beq_self_eq_true b
end Go.Dd

namespace Go.Dd
open Go.Proofs
theorem bJa : Int.ofNat 250 = (250 : Int) := rfl
theorem neF {a b : Int} (h : a = b) : (a != b) = false := by simpa using h
theorem cHt (m : Nat) (h : Hp) : cZ (m + 1) 54 [] h = some (.t [iD 0, iD 20], h) := by rw [oO 54 rfl, bYn]; rfl
section
variable {h h' : Hp} {M M' : MemV} {R R' : List Int} {es es' : List (DV × DV)} {k : Nat} {z : Prop} {CL : List Nat} {b : Pos} {n r : Int} {x : DV}
end
end Go.Dd

namespace Go.Dd
open Go.Proofs
section
variable {h h' : Hp} {M M' : MemV} {R R' : List Int} {es es' : List (DV × DV)} {k : Nat} {z : Prop} {CL : List Nat} {b : Pos} {n r : Int} {x : DV}
end
end Go.Dd

namespace Go.Dd
open Go.Proofs
section
variable {h h' : Hp} {M M' : MemV} {R R' : List Int} {es es' : List (DV × DV)} {k : Nat} {z : Prop} {CL : List Nat} {b : Pos} {n r : Int} {x : DV} {l : List Int}
end
end Go.Dd

namespace Go.Dd
open Go.Proofs
section
variable {h h' : Hp} {M M' : MemV} {R R' : List Int} {es es' : List (DV × DV)} {k : Nat} {z : Prop} {CL : List Nat} {b : Pos} {n r : Int} {x : DV} {l : List Int}
end
end Go.Dd

namespace Go.Dd
open Go.Proofs
section
variable {h h' : Hp} {M M' : MemV} {R R' : List Int} {es es' : List (DV × DV)} {k : Nat} {z : Prop} {CL : List Nat} {b : Pos} {n r : Int} {x : DV} {l : List Int}
theorem Wv.text (V : Wv k h M R es z) (x : Int) {n : Nat} (hn : 300 < n) :
  ∃ s b h', cZ (n + 2) 33 [.p (aR 7) 0, .i .i64 x] h = some (.t [.s s, .b b], h') ∧ Wv k h' M R es z ∧ Up h h' ∧ ((b = true ∧ isTx M R x ∧ TxO M (hC M x) x s) ∨ (b = false ∧ ¬ isTx M R x ∧ s = [])) := by
 obtain ⟨s, b, h', e1, W', U, A⟩ := V.K.W.textA V.K.G V.I x hn
 exact ⟨s, b, h', e1, V.up W' U, U, A⟩
theorem cQs (s : List Nat) (h : Hp) : dH (.s s) h = some (.i .i64 (s.length : Int), h) := rfl
inductive TxtA (M M' : MemV) (R : List Int) (n r v : Int) : Int → Int → Prop
 | no : (n = 26 → ¬ (isTx M R r ∧ dD v M.pl = true)) → (n = 25 → ¬ (isTx M R r ∧ isTx M R v ∧ ∃ s t, TxO M (hC M r) r s ∧ TxO M (hC M v) v t ∧ s.length + t.length ≤ 250)) → M' = M → TxtA M M' R n r v 0 20
 | eq (s t : List Nat) : n = 26 → isTx M R r → dD v M.pl = true → TxO M (hC M r) r s → isTx M R v → TxO M (hC M v) v t → M' = M → TxtA M M' R n r v (if rQ s t then 2 else 4) 0
 | ne : n = 26 → isTx M R r → dD v M.pl = true → ¬ isTx M R v → M' = M → TxtA M M' R n r v 4 0
 | cat (a : Int) (s t : List Nat) : n = 25 → isTx M R r → isTx M R v → TxO M (hC M r) r s → TxO M (hC M v) v t → s.length + t.length ≤ 250 → TxO M' (R.getD 12 0) a (s ++ t) → a = .ofNat (M.fin * 2) → TxtA M M' R n r v a 0
theorem dLo (V : Wv (260 + k) h M R es) {v : Int} (D : Dr h b n r x) (S : SlI x [v] h) (hn : n = 25 ∨ n = 26) (hv : dD v M.pl = true) {m : Nat} (hm : 300 < m) :
  ∃ a e h' M', cZ (m + 4) 59 [.p b 0] h = some (.t [iD a, iD e], h') ∧ Wv k h' M' R es ∧ Up h h' ∧ Stay 260 M M' R R es es ∧ TxtA M M' R n r v a e := by
 obtain ⟨s, b1, h1, e1, V1, U1, A1⟩ := V.text r (n := m + 1) (by omega)
 have D1 := D.up U1
 obtain ⟨a, g1', g2'⟩ := (S.up U1).at (i := 0) rfl
 obtain ⟨t, b2, h2, e2, V2, U2, A2⟩ := V1.text v (n := m + 1) (by omega)
 have D2 := D1.up U2
 have ef : ∀ h, cZ (m + 3) 54 [] h = some (.t [iD 0, iD 20], h) := fun h => cHt _ _
 have l2 := D.l2
 have l1 := D2.l1
 rw [oO 59 rfl, cRf]
 unfold s59
 simp only [iD] at l1 l2 ef g2' ⊢
 simp only [g0, iF, sL, D.l0, aU, l2, e1, oM, oN, D1.l0, D1.l3 (S.up U1), g1', g2', e2, gE]
 rcases A1 with ⟨rfl, tr, T1⟩ | ⟨rfl, tr, rfl⟩
 ·simp only [Bool.not_true, bM, l1, aU, cM]
  rcases hn with rfl | rfl
  ·have d : ((25 : Int) == Int.ofNat 26) = false := rfl
   simp only [d, bM, gE, aU]
   rcases A2 with ⟨rfl, tv, T2⟩ | ⟨rfl, tv, rfl⟩
   ·have z1 := T1.len
    have z2 := T2.len
    simp only [Bool.not_true, fT, cQs, aU, gO _ _ _ (show (-9223372036854775808 : Int) ≤ (s.length : Int) + t.length ∧ (s.length : Int) + t.length ≤ 9223372036854775807 by omega), fL, cE]
    by_cases c : s.length + t.length ≤ 250
    ·have d2 : decide ((s.length : Int) + t.length > Int.ofNat 250) = false := decide_eq_false (by rw [bJa]; omega)
     have by8 : ∀ c ∈ s ++ t, c < 256 := fun c hc => (List.mem_append.1 hc).elim (T1.by8 c) (T2.by8 c)
     obtain ⟨a, e, h3, M3, e3, V3, U3, S3, A3⟩ := V2.str (k := k) by8 (m := m) hm
     rcases A3 with ⟨q, _⟩ | ⟨_, rfl, q2, q3⟩
     ·exact absurd (by rw [List.length_append]; exact c) q
     ·refine ⟨a, 0, h3, M3, ?_, V3, (U1.trans U2).trans U3, S3, .cat a s t rfl tr tv T1 T2 c q3 q2⟩
      simp only [iD] at e3 ⊢
      simp only [d2, bM, D2.l0, aU, cSt s t _ (by omega), e3, oM, oN]
    ·have d2 : decide ((s.length : Int) + t.length > Int.ofNat 250) = true := decide_eq_true (by rw [bJa]; omega)
     refine ⟨0, 20, h2, M, ?_, V2.less (by omega), U1.trans U2, Stay.refl _ _ _ _, .no (fun q => by cases q) (fun _ q => ?_) rfl⟩
     ·simp only [d2, bO, ef, aU, oM, oN]
     ·obtain ⟨_, _, s', t', q1, q2, q3⟩ := q
      rw [q1.inj T1, q2.inj T2] at q3
      exact c q3
   ·refine ⟨0, 20, h2, M, ?_, V2.less (by omega), U1.trans U2, Stay.refl _ _ _ _, .no (fun q => by cases q) (fun _ q => tv q.2.1) rfl⟩
    simp only [Bool.not_false, eK, xA, cJ, aU, bO, ef, oM, oN]
  ·have d : ((26 : Int) == Int.ofNat 26) = true := rfl
   simp only [d, bO]
   rcases A2 with ⟨rfl, tv, T2⟩ | ⟨rfl, tv, rfl⟩
   ·have t2 := aMf (rQ s t) (m + 2) h2
    refine ⟨_, 0, h2, M, ?_, V2.less (by omega), U1.trans U2, Stay.refl _ _ _ _, .eq s t rfl tr hv T1 tv T2 rfl⟩
    simp only [iD] at t2 ⊢
    simp only [nN, aU, aXh, cJ, t2, oM, oN]
   ·have t2 := aMf false (m + 2) h2
    refine ⟨4, 0, h2, M, ?_, V2.less (by omega), U1.trans U2, Stay.refl _ _ _ _, .ne rfl tr hv tv rfl⟩
    simp only [iD] at t2 ⊢
    simp only [nF, aU, cE, t2, oM, oN]
    rfl
 ·refine ⟨0, 20, h2, M, ?_, V2.less (by omega), U1.trans U2, Stay.refl _ _ _ _, .no (fun _ q => tr q.1) (fun _ q => tr q.1) rfl⟩
  simp only [Bool.not_false, bO, ef, aU, oM, oN]
theorem doT (hn : n = 25 ∨ n = 26) {v : Int} (V : Wv (260 + k) h M R es) (S : SlI x [v] h) (r : Int) {m : Nat} (hm : 300 < m) :
  ∃ a e h' M', cZ (m + 5) 16 [.p (aR 7) 0, iD n, iD r, x] h = some (.t [iD a, iD e], h') ∧ Wv k h' M' R es ∧ Up h h' ∧ Stay 260 M M' R R es es ∧ TxtA M M' R n r v a e := by
 have dd : ∀ (rec : RT) (m : Nat) (x : DV) (h : Hp), nB rec m (iD n) x h = bB rec m (.f 59 [x] []) h := by
  rcases hn with rfl | rfl
  ·exact cLf
  ·exact cNy
 have na : rO n = 1 := by rcases hn with rfl | rfl <;> rfl
 rcases dFh dd rfl V S (by simp) r (m := m + 1) (by omega) with ⟨q, h', e1, V1, U1⟩ | ⟨q, b, h1, V1, U1, D, S1, cont⟩
 ·have rf : dD r M.pl = false ∨ dD v M.pl = false := by
   rcases q with q | q | ⟨v', hv, q⟩
   ·exact absurd na q
   ·exact .inl q
   ·simp only [List.mem_singleton] at hv; subst hv; exact .inr q
  have mt : ∀ {x : Int}, isTx M R x → dD x M.pl = true := fun q => rD q.1
  refine ⟨0, 20, h', M, e1, V1.less (by omega), U1, Stay.refl _ _ _ _, .no (fun _ q => ?_) (fun _ q => ?_) rfl⟩
  ·rcases rf with rf | rf
   ·rw [mt q.1] at rf; cases rf
   ·rw [q.2] at rf; cases rf
  ·rcases rf with rf | rf
   ·rw [mt q.1] at rf; cases rf
   ·rw [mt q.2.1] at rf; cases rf
 ·have hv : dD v M.pl = true := by
   cases hv : dD v M.pl with
   | true => rfl
   | false => exact absurd (.inr (.inr ⟨v, by simp, hv⟩)) q
  obtain ⟨a, e, h2, M2, e2, V2, U2, S2, A⟩ := dLo V1 D S1 hn hv (m := m) hm
  exact ⟨a, e, h2, M2, cont _ _ _ e2, V2, U1.trans U2, S2, A⟩
theorem Good.atNew (G : Good M) : bV (.ofNat (M.fin * 2)) M.pl = 0 := by
 have h1 := G.lo
 have h2 := G.le
 have h3 := G.hi
 have hp : hD (.ofNat (M.fin * 2)) = M.fin := aWn h1 (by omega)
 rcases jR (.ofNat (M.fin * 2)) M.pl with e | ⟨e, h⟩
 ·exact e
 ·have hc : M.pl.get M.fin ≠ 0 := by
   have := (atN_pos (o := .ofNat (M.fin * 2)) (pl := M.pl)).1 (by rw [e, hp]; omega)
   rw [hp] at this
   exact this.2
  obtain ⟨_, hd, _, _, h5, _⟩ := G.ob _ hc
  omega
end
end Go.Dd

namespace Go.Dd
open Go.Proofs
noncomputable def zX (rec : FuncId → List DV → Hp → aH) (n : Nat) (x5 x6 x7 x8 x9 x10 x11 : DV) (h0 : Hp) : aH :=
 bnd (aL [(.i .i64 (Int.ofNat 0))] 1 [(0, 1, x7)] h0) fun v1 h1 =>
 bnd (rec 16 [x5, (.i .i64 (Int.ofNat 26)), x6, v1] h1) fun v2 h2 =>
 bnd (aC 0 v2 h2) fun v3 h3 =>
 bnd (aC 1 v2 h3) fun v4 h4 =>
 bnd (aD .eql v4 (.i .i64 (Int.ofNat 0)) h4) fun v5 h5 =>
 bnd (gD x9 true (some (x5, h5)) h5) fun v6 h6 =>
 bnd (gD x9 true (rec 23 [v6] h6) h6) fun v7 h7 =>
 bnd (gD x9 true (some (x7, h7)) h7) fun v8 h8 =>
 bnd (gD x9 true (zM [v7, v8] h8) h8) fun v9 h9 =>
 bnd (aP x9 v9 (.b false) h9) fun v10 h10 =>
 bnd (pEq .bool false v5 v10 h10) fun v11 h11 =>
 aS v11 (
  some ((.b false), h11)) (
  bnd (aD .neq v4 (.i .i64 (Int.ofNat 0)) h11) fun v12 h12 =>
  bnd (gD v12 false (some (v3, h12)) h12) fun v13 h13 =>
  bnd (gD v12 false (some (x11, h13)) h13) fun v14 h14 =>
  bnd (gD v12 false (some (v14, h14)) h14) fun v15 h15 =>
  bnd (gD v15 true (some (x8, h15)) h15) fun v16 h16 =>
  bnd (gD v15 true (some (x10, h16)) h16) fun v17 h17 =>
  bnd (gD v15 true (eG .eql v16 v17 h17) h17) fun v18 h18 =>
  bnd (gD v12 false (aP v15 v18 (.b false) h18) h18) fun v19 h19 =>
  bnd (gD v12 false (rec 17 [v19] h19) h19) fun v20 h20 =>
  bnd (gD v12 false (aD .eql v13 v20 h20) h20) fun v21 h21 =>
  bnd (aP v12 (.b true) v21 h21) fun v22 h22 =>
  bnd (gD v22 true (rec 13 [] h22) h22) fun v23 h23 =>
  bnd (aP v22 v23 (.b false) h23) fun v24 h24 =>
  some (v24, h24))
noncomputable def aLl (rec : FuncId → List DV → Hp → aH) (n : Nat) (x5 x6 x7 x8 x9 x10 x11 x12 x14 : DV) (h0 : Hp) : aH :=
 aS x14 (
  bnd (rec 33 [x5, x12] h0) fun v49 h49 =>
  bnd (aC 0 v49 h49) fun v50 h50 =>
  bnd (aC 1 v49 h50) fun v51 h51 =>
  bnd (gU .not v51 h51) fun v52 h52 =>
  bnd (gD v52 false (some (v50, h52)) h52) fun v53 h53 =>
  bnd (gD v52 false (some (x8, h53)) h53) fun v54 h54 =>
  bnd (gD v52 false (some (x10, h54)) h54) fun v55 h55 =>
  bnd (gD v52 false (eG .add v54 v55 h55) h55) fun v56 h56 =>
  bnd (gD v52 false (eG .neq v53 v56 h56) h56) fun v57 h57 =>
  bnd (aP v52 (.b true) v57 h57) fun v58 h58 =>
  bnd (gD v58 false (some (x5, h58)) h58) fun v59 h59 =>
  bnd (gD v58 false (some (x12, h59)) h59) fun v60 h60 =>
  bnd (gD v58 false (rec 25 [v59, v60] h60) h60) fun v61 h61 =>
  bnd (gD v58 false (some (x5, h61)) h61) fun v62 h62 =>
  bnd (gD v58 false (rec 30 [v62, (.i .i64 (Int.ofNat 10))] h62) h62) fun v63 h63 =>
  bnd (gD v58 false (aD .neq v61 v63 h63) h63) fun v64 h64 =>
  bnd (aP v58 (.b true) v64 h64) fun v65 h65 =>
  bnd (gD v65 false (some (x12, h65)) h65) fun v66 h66 =>
  bnd (gD v65 false (some (x6, h66)) h66) fun v67 h67 =>
  bnd (gD v65 false (aD .eql v66 v67 h67) h67) fun v68 h68 =>
  bnd (aP v65 (.b true) v68 h68) fun v69 h69 =>
  bnd (gD v69 false (some (x12, h69)) h69) fun v70 h70 =>
  bnd (gD v69 false (some (x7, h70)) h70) fun v71 h71 =>
  bnd (gD v69 false (aD .eql v70 v71 h71) h71) fun v72 h72 =>
  bnd (aP v69 (.b true) v72 h72) fun v73 h73 =>
  aS v73 (
   some ((.b false), h73)) (
   zX rec n x5 x6 x7 x8 x9 x10 x11 h73)) (
  zX rec n x5 x6 x7 x8 x9 x10 x11 h0)
noncomputable def bPi (rec : FuncId → List DV → Hp → aH) (n : Nat) (x5 x6 x7 x8 x9 x10 x11 x12 x13 x14 : DV) (h0 : Hp) : aH :=
 bnd (aD .eql x13 (.i .i64 (Int.ofNat 0)) h0) fun v99 h99 =>
 bnd (pEq .bool false x14 v99 h99) fun v100 h100 =>
 aS v100 (
  some ((.b false), h100)) (
  aLl rec n x5 x6 x7 x8 x9 x10 x11 x12 x14 h100)
noncomputable def aKp (rec : FuncId → List DV → Hp → aH) (n : Nat) (x5 x6 x7 x8 x9 x10 x11 x12 x13 : DV) (h0 : Hp) : aH :=
 bnd (gD x9 true (some (x11, h0)) h0) fun v103 h103 =>
 bnd (aP x9 v103 (.b false) h103) fun v104 h104 =>
 bnd (gD v104 true (some (x8, h104)) h104) fun v105 h105 =>
 bnd (gD v104 true (dH v105 h105) h105) fun v106 h106 =>
 bnd (gD v104 true (some (x10, h106)) h106) fun v107 h107 =>
 bnd (gD v104 true (dH v107 h107) h107) fun v108 h108 =>
 bnd (gD v104 true (aD .add v106 v108 h108) h108) fun v109 h109 =>
 bnd (gD v104 true (aD .leq v109 (.i .i64 (Int.ofNat 250)) h109) h109) fun v110 h110 =>
 bnd (aP v104 v110 (.b false) h110) fun v111 h111 =>
 bPi rec n x5 x6 x7 x8 x9 x10 x11 x12 x13 v111 h111
noncomputable def bYy (rec : FuncId → List DV → Hp → aH) (n : Nat) (x5 x6 x7 x8 x9 x10 x11 : DV) (h0 : Hp) : aH :=
 bnd (aL [(.i .i64 (Int.ofNat 0))] 1 [(0, 1, x7)] h0) fun v121 h121 =>
 bnd (rec 16 [x5, (.i .i64 (Int.ofNat 25)), x6, v121] h121) fun v122 h122 =>
 bnd (aC 0 v122 h122) fun v123 h123 =>
 bnd (aC 1 v122 h123) fun v124 h124 =>
 aKp rec n x5 x6 x7 x8 x9 x10 x11 v123 v124 h124
noncomputable def cIj (rec : FuncId → List DV → Hp → aH) (n : Nat) (x5 x6 x7 x8 x9 : DV) (h0 : Hp) : aH :=
 bnd (rec 33 [x5, x7] h0) fun v137 h137 =>
 bnd (aC 0 v137 h137) fun v138 h138 =>
 bnd (aC 1 v137 h138) fun v139 h139 =>
 bYy rec n x5 x6 x7 x8 x9 v138 v139 h139
noncomputable def cIo (rec : FuncId → List DV → Hp → aH) (n : Nat) (x5 x6 x7 : DV) (h0 : Hp) : aH :=
 bnd (rec 33 [x5, x6] h0) fun v143 h143 =>
 bnd (aC 0 v143 h143) fun v144 h144 =>
 bnd (aC 1 v143 h144) fun v145 h145 =>
 cIj rec n x5 x6 x7 v144 v145 h145
noncomputable def cEz (rec : FuncId → List DV → Hp → aH) (n : Nat) (x3 x5 x6 : DV) (h0 : Hp) : aH :=
 bnd (aK 3 x3 h0) fun v149 h149 =>
 bnd (rec 14 [x5, v149] h149) fun v150 h150 =>
 cIo rec n x5 x6 v150 h150
noncomputable def cGw (rec : FuncId → List DV → Hp → aH) (n : Nat) (x2 x3 x5 : DV) (h0 : Hp) : aH :=
 bnd (aK 3 x2 h0) fun v153 h153 =>
 bnd (rec 14 [x5, v153] h153) fun v154 h154 =>
 cEz rec n x3 x5 v154 h154
noncomputable def cGn (rec : FuncId → List DV → Hp → aH) (n : Nat) (x2 x3 x5 : DV) (h0 : Hp) : aH :=
 bnd (pEq (.pointer 64) true x5 .p0 h0) fun v157 h157 =>
 aS v157 (
  some ((.b false), h157)) (
  cGw rec n x2 x3 x5 h157)
noncomputable def bEj (rec : FuncId → List DV → Hp → aH) (n : Nat) (x2 x3 : DV) (h0 : Hp) : aH :=
 bnd (rec 12 [] h0) fun v159 h159 =>
 cGn rec n x2 x3 v159 h159
noncomputable def s8 (rec : FuncId → List DV → Hp → aH) (n : Nat) (x0 x1 : DV) (h0 : Hp) : aH :=
 bnd (bQ x0 h0) fun v161 h161 =>
 bnd (bQ x1 h161) fun v162 h162 =>
 bEj rec n v161 v162 h162
noncomputable def D8 (rec : FuncId → List DV → Hp → aH) (n : Nat) (c : Code) (X : Nat → K) (k : K) : K := aM CF rec 132 n c X (aQ CF Tryz.f8) k
theorem cUo (rec : FuncId → List DV → Hp → aH) (n : Nat) : D8 rec n (cR (cR (cR (cR (cR (cR (cR (cR (cR (cR (cR (cf Tryz.f8)))))))))))) x0 (aQ CF Tryz.f8) = (fun (env : aW) (h : Hp) => zX rec n (env 5) (env 6) (env 7) (env 8) (env 9) (env 10) (env 11) h) :=
 (by kernel_rfl)
theorem cDd (rec : FuncId → List DV → Hp → aH) (n : Nat) : D8 rec n (cR (cR (cR (cR (cR (cR (cR (cR (cR (cR (cf Tryz.f8))))))))))) x0 (aQ CF Tryz.f8) = D8 rec n (cL (cR (cR (cR (cR (cR (cR (cR (cR (cR (cR (cf Tryz.f8)))))))))))) x0 (fun (env : aW) (h : Hp) => zX rec n (env 5) (env 6) (env 7) (env 8) (env 9) (env 10) (env 11) h) :=
 congrArg (fun k => D8 rec n (cL (cR (cR (cR (cR (cR (cR (cR (cR (cR (cR (cf Tryz.f8)))))))))))) x0 k) (cUo rec n)
theorem cRr (rec : FuncId → List DV → Hp → aH) (n : Nat) : D8 rec n (cR (cR (cR (cR (cR (cR (cR (cR (cR (cR (cf Tryz.f8))))))))))) x0 (aQ CF Tryz.f8) = (fun (env : aW) (h : Hp) => aLl rec n (env 5) (env 6) (env 7) (env 8) (env 9) (env 10) (env 11) (env 12) (env 14) h) :=
 (cDd rec n).trans
 ((by kernel_rfl))
theorem cTf (rec : FuncId → List DV → Hp → aH) (n : Nat) : D8 rec n (cR (cR (cR (cR (cR (cR (cR (cR (cR (cf Tryz.f8)))))))))) x0 (aQ CF Tryz.f8) = D8 rec n (cL (cR (cR (cR (cR (cR (cR (cR (cR (cR (cf Tryz.f8))))))))))) x0 (fun (env : aW) (h : Hp) => aLl rec n (env 5) (env 6) (env 7) (env 8) (env 9) (env 10) (env 11) (env 12) (env 14) h) :=
 congrArg (fun k => D8 rec n (cL (cR (cR (cR (cR (cR (cR (cR (cR (cR (cf Tryz.f8))))))))))) x0 k) (cRr rec n)
theorem dJw (rec : FuncId → List DV → Hp → aH) (n : Nat) : D8 rec n (cR (cR (cR (cR (cR (cR (cR (cR (cR (cf Tryz.f8)))))))))) x0 (aQ CF Tryz.f8) = (fun (env : aW) (h : Hp) => bPi rec n (env 5) (env 6) (env 7) (env 8) (env 9) (env 10) (env 11) (env 12) (env 13) (env 14) h) :=
 (cTf rec n).trans
 ((by kernel_rfl))
theorem dCc (rec : FuncId → List DV → Hp → aH) (n : Nat) : D8 rec n (cR (cR (cR (cR (cR (cR (cR (cR (cf Tryz.f8))))))))) x0 (aQ CF Tryz.f8) = D8 rec n (cL (cR (cR (cR (cR (cR (cR (cR (cR (cf Tryz.f8)))))))))) x0 (fun (env : aW) (h : Hp) => bPi rec n (env 5) (env 6) (env 7) (env 8) (env 9) (env 10) (env 11) (env 12) (env 13) (env 14) h) :=
 congrArg (fun k => D8 rec n (cL (cR (cR (cR (cR (cR (cR (cR (cR (cf Tryz.f8)))))))))) x0 k) (dJw rec n)
theorem dGy (rec : FuncId → List DV → Hp → aH) (n : Nat) : D8 rec n (cR (cR (cR (cR (cR (cR (cR (cR (cf Tryz.f8))))))))) x0 (aQ CF Tryz.f8) = (fun (env : aW) (h : Hp) => aKp rec n (env 5) (env 6) (env 7) (env 8) (env 9) (env 10) (env 11) (env 12) (env 13) h) :=
 (dCc rec n).trans
 ((by kernel_rfl))
theorem cXv (rec : FuncId → List DV → Hp → aH) (n : Nat) : D8 rec n (cR (cR (cR (cR (cR (cR (cR (cf Tryz.f8)))))))) x0 (aQ CF Tryz.f8) = D8 rec n (cL (cR (cR (cR (cR (cR (cR (cR (cf Tryz.f8))))))))) x0 (fun (env : aW) (h : Hp) => aKp rec n (env 5) (env 6) (env 7) (env 8) (env 9) (env 10) (env 11) (env 12) (env 13) h) :=
 congrArg (fun k => D8 rec n (cL (cR (cR (cR (cR (cR (cR (cR (cf Tryz.f8))))))))) x0 k) (dGy rec n)
theorem dAq (rec : FuncId → List DV → Hp → aH) (n : Nat) (q0 : DV → DV → DV → DV → DV → DV → DV → DV → DV → Hp → aH) : D8 rec n (cL (cR (cR (cR (cR (cR (cR (cR (cf Tryz.f8))))))))) x0 (fun (env : aW) (h : Hp) => q0 (env 5) (env 6) (env 7) (env 8) (env 9) (env 10) (env 11) (env 12) (env 13) h) = fun (env : aW) (h : Hp) =>
  bnd (aL [(.i .i64 (Int.ofNat 0))] 1 [(0, 1, (env 7))] h) fun v129 h129 =>
  bnd (rec 16 [(env 5), (.i .i64 (Int.ofNat 25)), (env 6), v129] h129) fun v130 h130 =>
  bnd (aC 0 v130 h130) fun v131 h131 =>
  bnd (aC 1 v130 h131) fun v132 h132 =>
  q0 (env 5) (env 6) (env 7) (env 8) (env 9) (env 10) (env 11) v131 v132 h132 := by kernel_rfl
theorem cIb (rec : FuncId → List DV → Hp → aH) (n : Nat) : (fun (env : aW) (h : Hp) =>
  bnd (aL [(.i .i64 (Int.ofNat 0))] 1 [(0, 1, (env 7))] h) fun v133 h133 =>
  bnd (rec 16 [(env 5), (.i .i64 (Int.ofNat 25)), (env 6), v133] h133) fun v134 h134 =>
  bnd (aC 0 v134 h134) fun v135 h135 =>
  bnd (aC 1 v134 h135) fun v136 h136 =>
  aKp rec n (env 5) (env 6) (env 7) (env 8) (env 9) (env 10) (env 11) v135 v136 h136) = (fun (env : aW) (h : Hp) => bYy rec n (env 5) (env 6) (env 7) (env 8) (env 9) (env 10) (env 11) h) := by kernel_rfl
theorem dGu (rec : FuncId → List DV → Hp → aH) (n : Nat) : D8 rec n (cR (cR (cR (cR (cR (cR (cR (cf Tryz.f8)))))))) x0 (aQ CF Tryz.f8) = (fun (env : aW) (h : Hp) => bYy rec n (env 5) (env 6) (env 7) (env 8) (env 9) (env 10) (env 11) h) :=
 (cXv rec n).trans
 ((dAq rec n (aKp rec n)).trans (cIb rec n))
theorem cYu (rec : FuncId → List DV → Hp → aH) (n : Nat) : D8 rec n (cR (cR (cR (cR (cR (cR (cf Tryz.f8))))))) x0 (aQ CF Tryz.f8) = D8 rec n (cL (cR (cR (cR (cR (cR (cR (cf Tryz.f8)))))))) x0 (fun (env : aW) (h : Hp) => bYy rec n (env 5) (env 6) (env 7) (env 8) (env 9) (env 10) (env 11) h) :=
 congrArg (fun k => D8 rec n (cL (cR (cR (cR (cR (cR (cR (cf Tryz.f8)))))))) x0 k) (dGu rec n)
theorem dGw (rec : FuncId → List DV → Hp → aH) (n : Nat) : D8 rec n (cR (cR (cR (cR (cR (cR (cf Tryz.f8))))))) x0 (aQ CF Tryz.f8) = (fun (env : aW) (h : Hp) => cIj rec n (env 5) (env 6) (env 7) (env 8) (env 9) h) :=
 (cYu rec n).trans
 ((by kernel_rfl))
theorem dBq (rec : FuncId → List DV → Hp → aH) (n : Nat) : D8 rec n (cR (cR (cR (cR (cR (cf Tryz.f8)))))) x0 (aQ CF Tryz.f8) = D8 rec n (cL (cR (cR (cR (cR (cR (cf Tryz.f8))))))) x0 (fun (env : aW) (h : Hp) => cIj rec n (env 5) (env 6) (env 7) (env 8) (env 9) h) :=
 congrArg (fun k => D8 rec n (cL (cR (cR (cR (cR (cR (cf Tryz.f8))))))) x0 k) (dGw rec n)
theorem dJt (rec : FuncId → List DV → Hp → aH) (n : Nat) : D8 rec n (cR (cR (cR (cR (cR (cf Tryz.f8)))))) x0 (aQ CF Tryz.f8) = (fun (env : aW) (h : Hp) => cIo rec n (env 5) (env 6) (env 7) h) :=
 (dBq rec n).trans
 ((by kernel_rfl))
theorem cSw (rec : FuncId → List DV → Hp → aH) (n : Nat) : D8 rec n (cR (cR (cR (cR (cf Tryz.f8))))) x0 (aQ CF Tryz.f8) = D8 rec n (cL (cR (cR (cR (cR (cf Tryz.f8)))))) x0 (fun (env : aW) (h : Hp) => cIo rec n (env 5) (env 6) (env 7) h) :=
 congrArg (fun k => D8 rec n (cL (cR (cR (cR (cR (cf Tryz.f8)))))) x0 k) (dJt rec n)
theorem dGm (rec : FuncId → List DV → Hp → aH) (n : Nat) : D8 rec n (cR (cR (cR (cR (cf Tryz.f8))))) x0 (aQ CF Tryz.f8) = (fun (env : aW) (h : Hp) => cEz rec n (env 3) (env 5) (env 6) h) :=
 (cSw rec n).trans
 ((by kernel_rfl))
theorem cZj (rec : FuncId → List DV → Hp → aH) (n : Nat) : D8 rec n (cR (cR (cR (cf Tryz.f8)))) x0 (aQ CF Tryz.f8) = D8 rec n (cL (cR (cR (cR (cf Tryz.f8))))) x0 (fun (env : aW) (h : Hp) => cEz rec n (env 3) (env 5) (env 6) h) :=
 congrArg (fun k => D8 rec n (cL (cR (cR (cR (cf Tryz.f8))))) x0 k) (dGm rec n)
theorem dHt (rec : FuncId → List DV → Hp → aH) (n : Nat) : D8 rec n (cR (cR (cR (cf Tryz.f8)))) x0 (aQ CF Tryz.f8) = (fun (env : aW) (h : Hp) => cGw rec n (env 2) (env 3) (env 5) h) :=
 (cZj rec n).trans
 ((by kernel_rfl))
theorem cKd (rec : FuncId → List DV → Hp → aH) (n : Nat) : D8 rec n (cR (cR (cf Tryz.f8))) x0 (aQ CF Tryz.f8) = D8 rec n (cL (cR (cR (cf Tryz.f8)))) x0 (fun (env : aW) (h : Hp) => cGw rec n (env 2) (env 3) (env 5) h) :=
 congrArg (fun k => D8 rec n (cL (cR (cR (cf Tryz.f8)))) x0 k) (dHt rec n)
theorem dGx (rec : FuncId → List DV → Hp → aH) (n : Nat) : D8 rec n (cR (cR (cf Tryz.f8))) x0 (aQ CF Tryz.f8) = (fun (env : aW) (h : Hp) => cGn rec n (env 2) (env 3) (env 5) h) :=
 (cKd rec n).trans
 ((by kernel_rfl))
theorem cDa (rec : FuncId → List DV → Hp → aH) (n : Nat) : D8 rec n (cR (cf Tryz.f8)) x0 (aQ CF Tryz.f8) = D8 rec n (cL (cR (cf Tryz.f8))) x0 (fun (env : aW) (h : Hp) => cGn rec n (env 2) (env 3) (env 5) h) :=
 congrArg (fun k => D8 rec n (cL (cR (cf Tryz.f8))) x0 k) (dGx rec n)
theorem dEz (rec : FuncId → List DV → Hp → aH) (n : Nat) : D8 rec n (cR (cf Tryz.f8)) x0 (aQ CF Tryz.f8) = (fun (env : aW) (h : Hp) => bEj rec n (env 2) (env 3) h) :=
 (cDa rec n).trans
 ((by kernel_rfl))
theorem dLe (rec : FuncId → List DV → Hp → aH) (n : Nat) : D8 rec n (cf Tryz.f8) x0 (aQ CF Tryz.f8) = D8 rec n (cL (cf Tryz.f8)) x0 (fun (env : aW) (h : Hp) => bEj rec n (env 2) (env 3) h) :=
 congrArg (fun k => D8 rec n (cL (cf Tryz.f8)) x0 k) (dEz rec n)
theorem dFj (rec : FuncId → List DV → Hp → aH) (n : Nat) (q0 : DV → DV → Hp → aH) : D8 rec n (cL (cf Tryz.f8)) x0 (fun (env : aW) (h : Hp) => q0 (env 2) (env 3) h) = fun (env : aW) (h : Hp) =>
  bnd (bQ (env 0) h) fun v165 h165 =>
  bnd (bQ (env 1) h165) fun v166 h166 =>
  q0 v165 v166 h166 := by kernel_rfl
theorem cUp (rec : FuncId → List DV → Hp → aH) (n : Nat) : (fun (env : aW) (h : Hp) =>
  bnd (bQ (env 0) h) fun v167 h167 =>
  bnd (bQ (env 1) h167) fun v168 h168 =>
  bEj rec n v167 v168 h168) = (fun (env : aW) (h : Hp) => s8 rec n (env 0) (env 1) h) := by kernel_rfl
theorem s8m (rec : FuncId → List DV → Hp → aH) (n : Nat) : D8 rec n (cf Tryz.f8) x0 (aQ CF Tryz.f8) = (fun (env : aW) (h : Hp) => s8 rec n (env 0) (env 1) h) :=
 (dLe rec n).trans
 ((dFj rec n (bEj rec n)).trans (cUp rec n))
theorem dNo (rec : FuncId → List DV → Hp → aH) (n : Nat) (args : List DV) (h : Hp) : aF CF rec n 8 args h = s8 rec n (args.getD 0 aV) (args.getD 1 aV) h :=
 (by kernel_rfl : aF CF rec n 8 args h = D8 rec n (cf Tryz.f8) x0 (aQ CF Tryz.f8) (aI args) h).trans ((congrFun (congrFun (s8m rec n) (aI args)) h).trans (by kernel_rfl))
end Go.Dd

namespace Go.Dd
open Go.Proofs
section
variable {h h' : Hp} {M M' : MemV} {R R' : List Int} {es es' : List (DV × DV)} {k : Nat} {z : Prop} {CL : List Nat} {b : Pos} {n r : Int} {x : DV} {l : List Int}
def TxQ (M : MemV) (R : List Int) (x : Int) (s : List Nat) (b : Bool) : Prop := (b = true ∧ isTx M R x ∧ TxO M (hC M x) x s) ∨ (b = false ∧ ¬ isTx M R x ∧ s = [])
theorem bnn (b : Bool) : (b != b) = false := by cases b <;> rfl
theorem bTf (V : Wv (260 + k) h M R es) {r x : Int} {s t : List Nat} {b1 b2 : Bool} (A1 : TxQ M R r s b1) (A2 : TxQ M R x t b2) : ∃ k, zX jX 900 (.p (aR 7) 0) (iD r) (iD x) (.s s) (.b b1) (.s t) (.b b2) h = some (.b true, k) := by
 obtain ⟨y, h1, e1, S1, U1, V1⟩ := bQt V x
 obtain ⟨a, e, h2, M2, e2, V2, U2, S2, A⟩ := doT (k := k) (.inr rfl) V1 S1 r (m := 895) (by omega)
 have em := V2.K.W.memory 899
 have my := V2.K.W.may x
 have lv := aMq
 have o26 : Int.ofNat 26 = (26 : Int) := rfl
 have hM : M2 = M := by
  cases A with
  | no _ _ q => exact q
  | eq _ _ _ _ _ _ _ _ q => exact q
  | ne _ _ _ _ q => exact q
  | cat _ _ _ q => cases q
 subst hM
 unfold zX
 simp only [iD] at e1 e2 em my ⊢
 simp only [e1, aU, aVo, o26, e2, oM, oN, aXs, em, cM]
 rcases A1 with ⟨rfl, tr, T1⟩ | ⟨rfl, tr, rfl⟩
 ·simp only [nN, aU, aXs, em, my, cJ]
  cases A with
  | no q _ _ =>
   have m0 : dD x M2.pl = false := by
    cases hm : dD x M2.pl with
    | false => rfl
    | true => exact absurd ⟨tr, hm⟩ (q rfl)
   have d : ((20 : Int) == Int.ofNat 0) = false := rfl
   have d2 : ((20 : Int) != Int.ofNat 0) = true := rfl
   refine ⟨h2, ?_⟩
   simp only [m0, d, bFo, bnn, aU, bM, eL, d2, eK, xA, cJ, nN, lv]
  | eq s' t' _ _ hm T1' tv T2' _ =>
   have d : ((0 : Int) == Int.ofNat 0) = true := rfl
   have d2 : ((0 : Int) != Int.ofNat 0) = false := rfl
   rcases A2 with ⟨rfl, _, T2⟩ | ⟨rfl, q, _⟩
   ·rw [T1'.inj T1, T2'.inj T2]
    have tt := bAy (rQ s t) 899 h2
    have gg : ∀ a : Int, (a == a) = true := fun a => eqX rfl
    refine ⟨h2, ?_⟩
    simp only [iD] at tt
    simp only [hm, d, bFo, bnn, aU, bM, eL, d2, fT, nN, aXh, cJ, cE, aVw, tt, cM, gg, lv]
   ·exact absurd tv q
  | ne _ _ hm tv _ =>
   have d : ((0 : Int) == Int.ofNat 0) = true := rfl
   have d2 : ((0 : Int) != Int.ofNat 0) = false := rfl
   rcases A2 with ⟨rfl, q, _⟩ | ⟨rfl, q, _⟩
   ·exact absurd q tv
   ·have tt := bAy false 899 h2
    have gg : ((4 : Int) == (if (false : Bool) = true then 2 else 4)) = true := rfl
    refine ⟨h2, ?_⟩
    simp only [iD] at tt
    simp only [hm, d, bFo, bnn, aU, bM, eL, d2, fT, nF, nN, cJ, cE, aVw, tt, cM, gg, lv]
  | cat _ _ _ q => cases q
 ·have e20 : e = 20 := by
   cases A with
   | no => rfl
   | eq _ _ _ q => exact absurd q tr
   | ne _ q => exact absurd q tr
   | cat _ _ _ q => cases q
  subst e20
  have d : ((20 : Int) == Int.ofNat 0) = false := rfl
  have d2 : ((20 : Int) != Int.ofNat 0) = true := rfl
  refine ⟨h2, ?_⟩
  simp only [nF, xA, aU, cE, d, bFo, bnn, bM, eL, d2, eK, cJ, nN, lv]
theorem TxQ.up {j : Nat} {x : Int} {s : List Nat} {b : Bool} (S : Stay j M M' R R' es es') (I : GI M R CL z) (G : Good M) (A : TxQ M R x s true) : TxQ M' R' x s true := by
 rcases A with ⟨_, t, T⟩ | ⟨q, _⟩
 ·exact .inl ⟨rfl, (S.isTx I G (rD t.1)).2 t, by rw [S.clo I G t.1]; exact S.tx _ _ _ T⟩
 ·cases q
end
theorem bTw {k1 N1 k2 N2 : Int} {s1 s2 : List Nat} (i1 : i64 N1) (i2 : i64 N2) (b1 : byS s1) (b2 : byS s2) : ∃ k, aF CF jX 900 8 [th k1 N1 s1, th k2 N2 s2] (hK 1022) = some (.b true, k) := by
 obtain ⟨h1, h2, e1, e2, e3, V0, T0⟩ := bEl k1 N1 s1 k2 N2 s2
 obtain ⟨r, h3, M3, R3, es3, e4, V3, U3, S3⟩ := bBo (k := 19740) V0 k1 i1 b1 (m := 894) (by omega)
 have T3 := T0.up U3
 obtain ⟨x, h4, M4, R4, es4, e5, V4, U4, S4⟩ := bBo (k := 19480) V3 k2 i2 b2 (m := 894) (by omega)
 obtain ⟨s, q1, h5, e6, V5, U5, A1⟩ := V4.text r (n := 898) (by omega)
 obtain ⟨t, q2, h6, e7, V6, U6, A2⟩ := V5.text x (n := 898) (by omega)
 obtain ⟨y, h7, e8, S7, U7, V7⟩ := bQt V6 x
 obtain ⟨a, e, h8, M8, e9, V8, U8, S8, A8⟩ := doT (k := 19220) (.inl rfl) V7 S7 r (m := 895) (by omega)
 have lv := aMq
 have o25 : Int.ofNat 25 = (25 : Int) := rfl
 have tail : ∃ k, aKp jX 900 (.p (aR 7) 0) (iD r) (iD x) (.s s) (.b q1) (.s t) (.b q2) (iD a) (iD e) h8 = some (.b true, k) := by
  have le : ∀ {x : Int} {s : List Nat} {q : Bool}, TxQ M4 R4 x s q → s.length ≤ 256 := fun A => by
   rcases A with ⟨_, _, T⟩ | ⟨_, _, rfl⟩
   ·exact T.len
   ·simp
  have l1 := le A1
  have l2 := le A2
  have rt : ∃ q : Bool, aKp jX 900 (.p (aR 7) 0) (iD r) (iD x) (.s s) (.b q1) (.s t) (.b q2) (iD a) (iD e) h8 = bPi jX 900 (.p (aR 7) 0) (iD r) (iD x) (.s s) (.b q1) (.s t) (.b q2) (iD a) (iD e) (.b q) h8 ∧
    (q = true ↔ (q1 = true ∧ q2 = true ∧ s.length + t.length ≤ 250)) := by
   unfold aKp
   cases q1 with
   | false =>
    refine ⟨false, ?_, by simp⟩
    simp only [nF, xA, cE, aU]
   | true =>
    simp only [nN, aU, cJ]
    cases q2 with
    | false =>
     refine ⟨false, ?_, by simp⟩
     simp only [nF, xA, cE, aU]
    | true =>
     refine ⟨decide (s.length + t.length ≤ 250), ?_, by simp⟩
     have d : decide ((s.length : Int) + t.length ≤ Int.ofNat 250) = decide (s.length + t.length ≤ 250) := by
      rw [bJa]
      exact decide_eq_decide.2 (by omega)
     simp only [nN, cQs, aU, gO _ _ _ (show (-9223372036854775808 : Int) ≤ (s.length : Int) + t.length ∧ (s.length : Int) + t.length ≤ 9223372036854775807 by omega), bLr, cJ, d]
  obtain ⟨q, eq1, eq2⟩ := rt
  rw [eq1]
  unfold bPi
  cases A8 with
  | no _ c hM =>
   subst hM
   have hq : q = false := by
    cases q with
    | false => rfl
    | true =>
     obtain ⟨rfl, rfl, c3⟩ := eq2.1 rfl
     rcases A1 with ⟨_, t1, T1⟩ | ⟨q, _⟩
     ·rcases A2 with ⟨_, t2, T2⟩ | ⟨q, _⟩
      ·exact absurd ⟨t1, t2, s, t, T1, T2, c3⟩ (c rfl)
      ·cases q
     ·cases q
   subst hq
   have d : ((20 : Int) == Int.ofNat 0) = false := rfl
   simp only [iD, cM, d, aU, bFo, bnn, bM]
   unfold aLl
   simp only [bM]
   exact bTf (k := 18960) V8 A1 A2
  | eq _ _ q => cases q
  | ne q => cases q
  | cat _ s' t' _ t1 t2 T1' T2' c3 T8 ea =>
   have h1 : q1 = true := by
    rcases A1 with ⟨q, _⟩ | ⟨_, q, _⟩
    ·exact q
    ·exact absurd t1 q
   have h2 : q2 = true := by
    rcases A2 with ⟨q, _⟩ | ⟨_, q, _⟩
    ·exact q
    ·exact absurd t2 q
   subst h1; subst h2
   have T1 : TxO M4 (hC M4 r) r s := by
    rcases A1 with ⟨_, _, T⟩ | ⟨q, _⟩
    ·exact T
    ·cases q
   have T2 : TxO M4 (hC M4 x) x t := by
    rcases A2 with ⟨_, _, T⟩ | ⟨q, _⟩
    ·exact T
    ·cases q
   have es1 := T1'.inj T1
   have es2 := T2'.inj T2
   subst es1; subst es2
   have hq : q = true := eq2.2 ⟨rfl, rfl, c3⟩
   subst hq
   have d : ((0 : Int) == Int.ofNat 0) = true := rfl
   simp only [iD, cM, d, aU, bFo, bnn, bM]
   obtain ⟨u, q9, h9, e10, V9, U9, A9⟩ := V8.text a (n := 898) (by omega)
   have tx8 : isTx M8 R4 a := ⟨T8.at0, .inl T8.cls⟩
   have q9t : q9 = true ∧ u = s' ++ t' := by
    rcases A9 with ⟨q, _, T⟩ | ⟨_, q, _⟩
    ·exact ⟨q, T.inj T8⟩
    ·exact absurd tx8 q
   obtain ⟨rfl, rfl⟩ := q9t
   have co := V9.K.W.classOf V9.K.G a 898
   rw [bGl T8.at0, show hC M8 a = R4.getD 12 0 from T8.cls] at co
   have k10 : cZ (899 + 1) 30 [.p (aR 7) 0, .i .i64 (Int.ofNat 10)] h9 = some (iD (R4.getD 12 0), h9) := V9.K.W.known (show 10 < 16 by omega) 899
   have n1 : ¬ (a = r) := fun e => by rw [← e, ea] at t1; exact t1.1 V7.K.G.atNew
   have n2 : ¬ (a = x) := fun e => by rw [← e, ea] at t2; exact t2.1 V7.K.G.atNew
   have nn : ∀ a : Int, (a != a) = false := fun a => neF rfl
   have eqr : rQ (s' ++ t') (s' ++ t') = true := cJc _
   unfold aLl
   simp only [iD] at e10 co k10 ⊢
   simp only [bO, aZz, e10, aU, oM, oN, gE, Bool.not_true, fT, cSt _ _ _ (show s'.length + t'.length < 100000 by omega), cJk, eqr, cE, cOw, co, cPo, k10, eL, nn, cM, nE n1, nE n2, bM]
   exact bTf (k := 18960) V9 (TxQ.up (b := true) S8 V7.I V7.K.G A1) (TxQ.up (b := true) S8 V7.I V7.K.G A2)
 obtain ⟨kf, tail⟩ := tail
 refine ⟨kf, ?_⟩
 rw [dNo]
 unfold s8 bEj cGn cGw cEz cIo cIj bYy
 simp only [iD] at e1 e2 e4 e5 e6 e7 e8 e9
 simp only [th, iD] at e1 e2 ⊢
 simp only [g0, g1, e1, aU, e2, e3, pE0, bM, T0.t1.ld, cBg, e4, T3.t2.ld, e5, aZz, e6, e7, oM, oN, e8, aVo, o25, e9]
 exact tail
end Go.Dd

namespace Go.Dd
open Go.Proofs
theorem bOg {P : Program} {W : World} {base : Nat} {t : TypeId} {v : Value} {fs : Array Field} (ht : P.underlying t = some (.struct fs)) (h : Value.okWide P W .any base t v) : ∃ cs, v = .agg cs := by
 unfold Value.okWide at h
 rw [ht] at h
 obtain ⟨cs, e, _⟩ := h
 exact ⟨cs, e⟩
theorem bBk : Tryz.prog.cellsOf 23 = 3 := by kernel_rfl
theorem bQl : Tryz.prog.cellsOf 3 = 1 := by kernel_rfl
theorem bVb : Tryz.prog.cellsOf 9 = 1 := by kernel_rfl
section
variable {H : Type} {enc : TypeId × Value → H} {W : World} {base b0 : Nat} {sp : Nat → Bool} {held : Bool}
theorem aPm {n : Nat} {cs : List Value} {x : DataW H × List MemPlace} (h : DataW.trod enc Tryz.prog W base sp held n 23 cs = some x) :
  ∃ (kd N : Int) (s : ByteArray), cs = [.int .i64 kd, .int .i64 N, .string s] ∧ x = (.agg [.lit (.int .i64 kd), .lit (.int .i64 N), .lit (.string s.data.toList)], []) ∧ (Lit.int .i64 kd).wf = true ∧ (Lit.int .i64 N).wf = true ∧ s.size ≤ maxLen := by
 obtain ⟨xs, n, rfl, hx, hl, hs, hf⟩ := DataW.trod_struct Tryz.underlying23 h
 rw [bBk] at hl
 match cs, hl with
 | [a, b, c], _ =>
  have hs : xs.length = 3 := hs
  match xs, hs with
  | [x0, x1, x2], _ =>
   have f0 := hf 0 _ rfl
   have f1 := hf 1 _ rfl
   have f2 := hf 2 _ rfl
   change DataW.trod enc Tryz.prog W base sp held n 3 (List.take (Tryz.prog.cellsOf 3) [a, b, c]) = some x0 at f0
   change DataW.trod enc Tryz.prog W base sp held n 3 (List.take (Tryz.prog.cellsOf 3) [b, c]) = some x1 at f1
   change DataW.trod enc Tryz.prog W base sp held n 9 (List.take (Tryz.prog.cellsOf 9) [c]) = some x2 at f2
   rw [bQl] at f0 f1
   rw [bVb] at f2
   obtain ⟨kd, e0, q0, w0⟩ := DataW.trod_int Tryz.underlying3 f0
   obtain ⟨N, e1, q1, w1⟩ := DataW.trod_int Tryz.underlying3 f1
   obtain ⟨s, e2, q2, w2⟩ := DataW.trod_string Tryz.underlying9 f2
   simp only [List.take, List.cons.injEq, and_true] at e0 e1 e2
   subst e0 e1 e2
   refine ⟨kd, N, s, rfl, ?_, w0, w1, w2⟩
   rw [hx, q0, q1, q2]
   rfl
theorem aOb {kd N : Int} {s : ByteArray} (w0 : (Lit.int .i64 kd).wf = true) (w1 : (Lit.int .i64 N).wf = true) (w2 : s.size ≤ maxLen) (n : Nat) :
  DataW.trod enc Tryz.prog W base sp held (n + 2) 23 [.int .i64 kd, .int .i64 N, .string s] = some (.agg [.lit (.int .i64 kd), .lit (.int .i64 N), .lit (.string s.data.toList)], []) := by
 have t0 : DataW.trod enc Tryz.prog W base sp held (n + 1) 3 [.int .i64 kd] = some (.lit (.int .i64 kd), []) := by
  rw [DataW.trod_step]; unfold DataW.trodStep; rw [Tryz.underlying3]; simp [w0]
 have t1 : DataW.trod enc Tryz.prog W base sp held (n + 1) 3 [.int .i64 N] = some (.lit (.int .i64 N), []) := by
  rw [DataW.trod_step]; unfold DataW.trodStep; rw [Tryz.underlying3]; simp [w1]
 have t2 : DataW.trod enc Tryz.prog W base sp held (n + 1) 9 [.string s] = some (.lit (.string s.data.toList), []) := by
  rw [DataW.trod_step]; unfold DataW.trodStep; rw [Tryz.underlying9]; simp [w2]
 rw [DataW.trod_step]; unfold DataW.trodStep; rw [Tryz.underlying23]
 simp [bBk, bQl, bVb, t0, t1, t2]
theorem zA {v : Value} {d : DataW H} {ps : List MemPlace} (hval : Value.okWide Tryz.prog W .any b0 23 v) (hd : DataW.Trod enc Tryz.prog W base sp held 23 v d ps) :
  ∃ (kd N : Int) (s : ByteArray), v = .agg #[.int .i64 kd, .int .i64 N, .string s] ∧ ps = [] ∧ (Lit.int .i64 N).wf = true ∧ ∀ (W' : World) (base' : Nat) (sp' : Nat → Bool), DataW.Trod enc Tryz.prog W' base' sp' held 23 (.agg #[.int .i64 kd, .int .i64 N, .string s]) d [] := by
 obtain ⟨cs, rfl⟩ := bOg Tryz.underlying23 hval
 obtain ⟨n, hf⟩ := hd
 have hf : DataW.trod enc Tryz.prog W base sp held n 23 cs.toList = some (d, ps) := hf
 obtain ⟨kd, N, s, e, ex, w0, w1, w2⟩ := aPm hf
 have ecs : cs = #[.int .i64 kd, .int .i64 N, .string s] := by
  apply Array.toList_inj.1
  exact e
 cases ex
 exact ⟨kd, N, s, by rw [ecs], rfl, w1, fun W' base' sp' => ⟨2, aOb w0 w1 w2 0⟩⟩
end
theorem bMl {n : Int} (w : (Lit.int .i64 n).wf = true) : i64 n := Go.bounds_i64 w
theorem aLr {ρ : cY} (kd N : Int) (s : ByteArray) : VR ρ (th kd N (s.data.toList.map (·.toNat))) (.agg #[.int .i64 kd, .int .i64 N, .string s]) :=
 .a _ _ (.cons _ _ _ _ (.i _ _) (.cons _ _ _ _ (.i _ _) (.cons _ _ _ _ (.s _ _ rfl) .nil)))
end Go.Dd

