/- A part of the proof: TX3 TX4 GN WR WM WA WC WP1 WP2 WP3 WP4 WP5 WP6 WP7 WQ1 WQ2 WQ3 WQ4 XL9 WA9 WQR: each text has a comment of its own. -/
import Derived.Test.YtilmobdncapnbaaGreatPc8
import Derived.WalkKit
import Derived.ProofKit
import Derived.OpenShut
import Derived.ChangeMaps5
set_option linter.unusedVariables false
set_option linter.unusedSimpArgs false
set_option linter.constructorNameAsVariable false
set_option maxRecDepth 100000
namespace Go.Dd
open Go.Proofs
theorem xS {w : Int} {pl : WT} (h : bU w pl ≠ 0) : eJ w pl = true := by
 unfold eJ
 split <;> first | rfl | skip
 rw [bGh h]
 simp
theorem tA {w : Int} {pl : WT} {k : Nat} (hk : k < 16000000) (h : eJ w pl = true) : eJ w (pl.set k (.ofNat 1)) = true := by
 by_cases ha : bU w pl = 0
 ·unfold eJ at h ⊢
  by_cases w0 : w = 0
  ·subst w0; rfl
  ·by_cases w2 : w = 2
   ·subst w2; rfl
   ·by_cases w4 : w = 4
    ·subst w4; rfl
    ·split
     ·exact absurd rfl w0
     ·exact absurd rfl w2
     ·exact absurd rfl w4
     ·split at h
      ·exact absurd rfl w0
      ·exact absurd rfl w2
      ·exact absurd rfl w4
      ·rw [ha] at h
       have : dE w = true := by simpa using h
       rw [this]
       rfl
 ·exact xS (by rw [qK hk ha]; exact ha)
theorem TxO.inj {M : MemV} {c1 c2 o : Int} {s t : List Nat} (h1 : TxO M c1 o s) (h2 : TxO M c2 o t) : s = t := by
 have hl : s.length = t.length := by
  have := h1.hd.symm.trans h2.hd
  have := Int.ofNat.inj this
  omega
 refine List.ext_getElem? fun i => ?_
 rcases Nat.lt_or_ge i s.length with q | q
 ·obtain ⟨c, hc⟩ : ∃ c, s[i]? = some c := ⟨s[i], by simp [q]⟩
  obtain ⟨d, hd⟩ : ∃ d, t[i]? = some d := ⟨t[i]'(by omega), by simp⟩
  have := (h1.get i c hc).symm.trans (h2.get i d hd)
  rw [hc, hd, Int.ofNat.inj this]
 ·rw [List.getElem?_eq_none q, List.getElem?_eq_none (by omega)]
def dNt (M : MemV) (R : List Int) (es : List (DV × DV)) : Prop := ∀ e ∈ es, ∃ s x, e = (.s s, iD x) ∧ TxO M (R.getD 13 0) x s
theorem bBj {es : List (DV × DV)} (s : List Nat) : (∀ e ∈ es, ∃ (k : List Nat) (x : Int), e = (.s k, iD x)) →
  (∃ x, dH .string (.s s) es = some (some (iD x)) ∧ (DV.s s, iD x) ∈ es) ∨ (dH .string (.s s) es = some none ∧ ∀ i, yM .string (.s s) es i = some none) := by
 induction es with
 | nil => exact fun _ => .inr ⟨rfl, fun _ => rfl⟩
 | cons e es ih =>
  intro h
  obtain ⟨k, x, he⟩ := h e (by simp)
  subst he
  cases hk : zZ s k with
  | true =>
   have := (mT s k).1 hk
   subst this
   exact .inl ⟨x, by simp only [dH, nB, hk], by simp⟩
  | false =>
   rcases ih fun e he => h e (by simp [he]) with ⟨y, h1, h2⟩ | ⟨h1, h2⟩
   ·exact .inl ⟨y, by simp only [dH, nB, hk]; exact h1, by simp [h2]⟩
   ·exact .inr ⟨by simp only [dH, nB, hk]; exact h1, fun i => by simp only [yM, nB, hk]; exact h2 _⟩
theorem bSs {es l : List (DV × DV)} {k v : DV} (h : dH .string k es = some (some v)) : dH .string k (es ++ l) = some (some v) := by
 induction es with
 | nil => cases h
 | cons e es ih =>
  simp only [List.cons_append, dH] at h ⊢
  split
  ·rename_i hk; rw [hk] at h; exact h
  ·rename_i hk; rw [hk] at h; exact ih h
  ·rename_i hk; rw [hk] at h; cases h
theorem bYp {es : List (DV × DV)} {s : List Nat} {v : DV} (h : dH .string (.s s) es = some none) : dH .string (.s s) (es ++ [(.s s, v)]) = some (some v) := by
 induction es with
 | nil =>
  have : zZ s s = true := (mT s s).2 rfl
  simp only [List.nil_append, dH, nB, this]
 | cons e es ih =>
  simp only [List.cons_append, dH] at h ⊢
  split
  ·rename_i hk; rw [hk] at h; cases h
  ·rename_i hk; rw [hk] at h; exact ih h
  ·rename_i hk; rw [hk] at h; cases h
structure Wk (h : Hp) (M : MemV) (R : List Int) (es : List (DV × DV)) : Prop where
 W : Wd h M R es
 G : Good M
 sy : dNt M R es
 r0 : eJ (R.getD 0 0) M.pl = true
 rk : ∀ i, i < 16 → bU (R.getD (2 + i) 0) M.pl ≠ 0
structure Stay (k : Nat) (M M' : MemV) (R R' : List Int) (es es' : List (DV × DV)) : Prop where
 n : M'.n = M.n
 fin : M'.fin ≤ M.fin + k
 made : M'.made ≤ M.made + k
 lo : M.fin ≤ M'.fin
 tx : ∀ cls o s, TxO M cls o s → TxO M' cls o s
 at' : ∀ o, bU o M.pl ≠ 0 → bU o M'.pl = bU o M.pl
 r : ∀ i, R'.getD (i + 1) 0 = R.getD (i + 1) 0
 fd : ∀ s v, dH .string (.s s) es = some (some v) → dH .string (.s s) es' = some (some v)
 gi : ∀ CL, GI M R CL → GI M' R' CL
 old : ∀ j, j < M.fin → M'.t.get j = M.t.get j
theorem Stay.refl (k : Nat) (M : MemV) (R : List Int) (es : List (DV × DV)) : Stay k M M R R es es := ⟨rfl, by omega, by omega, by omega, fun _ _ _ h => h, fun _ _ => rfl, fun _ => rfl, fun _ _ h => h, fun _ h => h, fun _ _ => rfl⟩
theorem Stay.trans {a b : Nat} {M M' M2 : MemV} {R R' R2 : List Int} {es es' es2 : List (DV × DV)} (h : Stay a M M' R R' es es') (k : Stay b M' M2 R' R2 es' es2) : Stay (a + b) M M2 R R2 es es2 :=
 ⟨k.n.trans h.n, by have := h.fin; have := k.fin; omega, by have := h.made; have := k.made; omega, by have := h.lo; have := k.lo; omega, fun c o s t => k.tx _ _ _ (h.tx _ _ _ t),
  fun o ho => by have h1 := h.at' o ho; rw [k.at' o (by rw [h1]; exact ho), h1], fun i => (k.r i).trans (h.r i), fun s v e => k.fd s v (h.fd s v e), fun CL I => k.gi CL (h.gi CL I), fun j hj => by rw [k.old j (by have := h.lo; omega)]; exact h.old j hj⟩
theorem Grown.stay {M M' : MemV} {f : Nat} {cls : Int} {l : List Int} (g : Grown M M' f cls l) (G : Good M) (R : List Int) (es : List (DV × DV)) (N : ∀ CL, GI M R CL → NewI M R CL f cls l) : Stay (l.length + 3) M M' R R es es :=
 ⟨g.n, by rw [g.fin]; exact Nat.le_refl _, by rw [g.made]; omega, by rw [g.fin]; omega, fun _ _ _ t => g.txo G t, fun o ho => by rw [g.pl]; exact qK (by have := G.le; have := G.hi; omega) ho, fun _ => rfl, fun _ _ h => h, fun CL I => g.gi G I (N CL I), fun j hj => g.old j hj⟩
theorem Grown.wk {h h' : Hp} {M M' : MemV} {R : List Int} {es : List (DV × DV)} {f : Nat} {cls : Int} {l : List Int} (g : Grown M M' f cls l) (K : Wk h M R es) (W' : Wd h' M' R es) (hc : bU cls M.pl ≠ 0) (hf : f ≤ 2) (h256 : l.length ≤ 256) (room : M.fin + l.length + 3 ≤ M.n) (hm : M.made < 899999) : Wk h' M' R es := by
 have hk : M.fin < 16000000 := by have := K.G.le; have := K.G.hi; omega
 refine ⟨W', g.good K.G hc hf h256 room hm, fun e he => ?_, by rw [g.pl]; exact tA hk K.r0, fun i hi => by rw [g.pl, qK hk (K.rk i hi)]; exact K.rk i hi⟩
 obtain ⟨s, x, h1, h2⟩ := K.sy e he
 exact ⟨s, x, h1, g.txo K.G h2⟩
section
variable {h : Hp} {M : MemV} {R : List Int} {es : List (DV × DV)}
theorem Wd.setR0 (W : Wd h M R es) (v : Int) : aG 1 (.p (aP 4) 0) (iD v) h = some (aV, ⟨h.next, Tr.set (.row .ex ((R.set 0 v).map iD)) (aP 4) h.bl⟩) ∧ Wd ⟨h.next, Tr.set (.row .ex ((R.set 0 v).map iD)) (aP 4) h.bl⟩ M (R.set 0 v) es ∧
  Up h ⟨h.next, Tr.set (.row .ex ((R.set 0 v).map iD)) (aP 4) h.bl⟩ := by
 obtain ⟨m1, m2, m3, m4, m5, m6⟩ := kF W.mem
 have ne : ∀ b : Pos, b.toNat ≠ 1027 → (Tr.set (.row .ex ((R.set 0 v).map iD)) (aP 4) h.bl).get b = h.bl.get b := fun b hb => by
  rw [dSe]
  intro e; rw [e, pn4] at hb; exact hb rfl
 refine ⟨?_, ⟨(ne _ (by rw [pn7]; omega)).trans W.w, (by show (Tr.set _ (aP 4) _).get (aP 4) = _; exact dSf _ _ _), by simp [W.rl], (ne _ (by rw [pn5]; omega)).trans W.sy, ?_, W.nx, W.wb, W.pb⟩, ⟨Nat.le_refl _, fun b h1 h2 => ne b (by omega)⟩⟩
 ·have hp : gH 0 (R.map iD) [iD v] = some ((R.set 0 v).map iD) := by
   have hl := W.rl
   cases R with
   | nil => simp at hl
   | cons a l =>
    show lG (iD a :: l.map iD) [iD v] = _
    have : lG (l.map iD) [] = some (l.map iD) := by cases l.map iD <;> rfl
    simp only [lG, DV.one, Bool.and_self, if_true, this, Option.map_some]
    rfl
  have hw : Kind.ex.writable = true := rfl
  simp only [aG, dI, List.length_singleton, if_true, dG, W.r, hw, hp]
 ·exact mX ((ne _ (by rw [pn3]; omega)).trans m1) ((ne _ (by rw [W.wb, pn1]; omega)).trans m2) ((ne _ (by rw [W.pb, pn2]; omega)).trans m3) m4 m5 m6
theorem Wd.setS (W : Wd h M R es) (es' : List (DV × DV)) : Wd ⟨h.next, Tr.set (.mp es') (aP 5) h.bl⟩ M R es' ∧ Up h ⟨h.next, Tr.set (.mp es') (aP 5) h.bl⟩ := by
 obtain ⟨m1, m2, m3, m4, m5, m6⟩ := kF W.mem
 have ne : ∀ b : Pos, b.toNat ≠ 1028 → (Tr.set (.mp es') (aP 5) h.bl).get b = h.bl.get b := fun b hb => by
  rw [dSe]
  intro e; rw [e, pn5] at hb; exact hb rfl
 exact ⟨⟨(ne _ (by rw [pn7]; omega)).trans W.w, (ne _ (by rw [pn4]; omega)).trans W.r, W.rl, (by show (Tr.set _ (aP 5) _).get (aP 5) = _; exact dSf _ _ _),
  mX ((ne _ (by rw [pn3]; omega)).trans m1) ((ne _ (by rw [W.wb, pn1]; omega)).trans m2) ((ne _ (by rw [W.pb, pn2]; omega)).trans m3) m4 m5 m6, W.nx, W.wb, W.pb⟩, ⟨Nat.le_refl _, fun b h1 h2 => ne b (by omega)⟩⟩
theorem Wk.push (K : Wk h M R es) {x y : Int} (hx : eJ x M.pl = true) (hy : eJ y M.pl = true) (room : M.fin + 5 ≤ M.n) (hm : M.made < 899999) {n : Nat} (hn : 256 < n) :
  ∃ h' M', dD (n + 2) 73 [.p (aP 7) 0, .i .i64 x, .i .i64 y] h = some (.t [.i .i64 (.ofNat (M.fin * 2)), .i .i64 (.ofNat 0)], h') ∧ Wk h' M' R es ∧ Up h h' ∧ Grown M M' 0 (R.getD 11 0) [x, y] := by
 have hk : M.fin < 16000000 := by have := K.G.le; have := K.G.hi; omega
 have fl : aL [.i .i64 (Int.ofNat 0), .i .i64 (Int.ofNat 0)] 2 [(0, 1, .i .i64 x), (1, 1, .i .i64 y)] h = some (.l h.next 0 2 2, ⟨h.next.succ, Tr.set (.row .ex ([x, y].map iD)) h.next h.bl⟩) := by
  simp [aL, jS, dI]
 obtain ⟨U1, W1⟩ := K.W.new (.row .ex ([x, y].map iD))
 have S : SlI (.l h.next 0 2 2) [x, y] ⟨h.next.succ, Tr.set (.row .ex ([x, y].map iD)) h.next h.bl⟩ := .inr ⟨h.next, 2, .ex, rfl, dSf _ _ _, .inr (Nat.le_trans (by decide) K.W.nx), by show _ < (h.next.succ).toNat; rw [dSh]; omega⟩
 have K1 : Wk ⟨h.next.succ, Tr.set (.row .ex ([x, y].map iD)) h.next h.bl⟩ M R es := ⟨W1, K.G, K.sy, K.r0, K.rk⟩
 obtain ⟨h', M', e1, W2, U2, _, g⟩ := W1.make61 K.G (K.rk 9 (by omega)) (f := 0) (by omega) S (by simp) (by simpa using room) (fun v hv => by
  simp only [List.mem_cons, List.not_mem_nil, or_false] at hv
  rcases hv with rfl | rfl
  ·exact tA hk hx
  ·exact tA hk hy) hn
 refine ⟨h', M', ?_, g.wk K1 W2 (K.rk 9 (by omega)) (by omega) (by simp) (by simpa using room) hm, U1.trans U2, g⟩
 rw [nX 73 rfl, cTw]
 unfold s73
 simp only [g0, g1, g2, aU, K.W.known (show 9 < 16 by omega), fl]
 rw [show (2 : Nat) + 9 = 11 from rfl] at e1 ⊢
 rw [e1]
 simp only [aU, sA, rN]
theorem Wk.symbol (K : Wk h M R es) {s : List Nat} (hs : ∀ c ∈ s, c < 256) (room : M.fin + 70 ≤ M.n) (hm : M.made < 800000) {n : Nat} (hn : 300 < n) :
  ∃ a e h' M' R' es', dD (n + 3) 44 [.p (aP 7) 0, .s s] h = some (.t [.i .i64 a, .i .i64 e], h') ∧ Wk h' M' R' es' ∧ Up h h' ∧ Stay 80 M M' R R' es es' ∧
   ((¬ (1 ≤ s.length ∧ s.length ≤ 60) ∧ e = 1 ∧ a = 0) ∨ ((1 ≤ s.length ∧ s.length ≤ 60) ∧ e = 0 ∧ dH .string (.s s) es' = some (some (iD a)) ∧ TxO M' (R.getD 13 0) a s)) := by
 rw [nX 44 rfl, cTa]
 unfold s44
 have el : ∀ h, dT (.s s) h = some (.i .i64 (s.length : Int), h) := fun h => rfl
 by_cases c1 : s.length < 1
 ·refine ⟨0, 1, h, M, R, es, ?_, K, Up.refl h, Stay.refl _ _ _ _, .inl ⟨by omega, rfl, rfl⟩⟩
  have d1 : decide ((s.length : Int) < Int.ofNat 1) = true := decide_eq_true (by simp; omega)
  simp only [g0, g1, el, aU, cJ, d1, fZ, bFj, cS, bN]
  rfl
 ·have d1 : decide ((s.length : Int) < Int.ofNat 1) = false := decide_eq_false (by simp; omega)
  by_cases c2 : s.length > 60
  ·refine ⟨0, 1, h, M, R, es, ?_, K, Up.refl h, Stay.refl _ _ _ _, .inl ⟨by omega, rfl, rfl⟩⟩
   have d2 : decide ((s.length : Int) > Int.ofNat 60) = true := decide_eq_true (by simp; omega)
   simp only [g0, g1, el, aU, cJ, fV, d1, d2, hD, cN, bN]
   rfl
  ·have d2 : decide ((s.length : Int) > Int.ofNat 60) = false := decide_eq_false (by simp; omega)
   have hl : 1 ≤ s.length ∧ s.length ≤ 60 := by omega
   simp only [g0, g1, el, aU, cJ, fV, d1, d2, hD, cN, bQ, gM, rY, K.W.l2]
   rcases bBj s (fun e he => by obtain ⟨k, x, h1, _⟩ := K.sy e he; exact ⟨k, x, h1⟩) with ⟨x, f1, f2⟩ | ⟨f1, f2⟩
   ·
    obtain ⟨k, y, e1, T⟩ := K.sy _ f2
    simp only [bP, DV.s.injEq, DV.i.injEq, true_and] at e1
    obtain ⟨rfl, rfl⟩ := e1
    have hx : x ≠ 0 := fun e => T.at0 (by rw [e]; rfl)
    have z1 : (x != Int.ofNat 0) = true := by
     have : (x == Int.ofNat 0) = false := by simpa using hx
     rw [bne, this]; rfl
    have lk : dN .string (.i .i64 (Int.ofNat 0)) false (.m (aP 5)) (.s s) h = some (iD x, h) := by
     simp only [dN, fL, K.W.sy, f1, cond_false]
    refine ⟨x, 0, h, M, R, es, ?_, K, Up.refl h, Stay.refl _ _ _ _, .inr ⟨hl, rfl, f1, T⟩⟩
    simp only [lk, aU, hZ, z1, bN]
    rfl
   ·
    have lk : dN .string (.i .i64 (Int.ofNat 0)) false (.m (aP 5)) (.s s) h = some (.i .i64 (Int.ofNat 0), h) := by
     simp only [dN, fL, K.W.sy, f1, cond_false]
    have z0 : (Int.ofNat 0 != Int.ofNat 0) = false := rfl
    obtain ⟨h1, M1, e1, W1, U1, g1⟩ := K.W.bytes49 K.G (K.rk 11 (by omega)) hs (by omega) (by omega) hn
    have K1 : Wk h1 M1 R es := g1.wk K W1 (K.rk 11 (by omega)) (by omega) (by simp; omega) (by simp; omega) (by omega)
    have T1 : TxO M1 (R.getD 13 0) (.ofNat (M.fin * 2)) s := g1.new_txo K.G hs (by omega)
    have hf1 := g1.fin
    have hn1 := g1.n
    have hd1 := g1.made
    rw [List.length_map] at hf1
    obtain ⟨h2, M2, e2, K2, U2, g2⟩ := K1.push (x := .ofNat (M.fin * 2)) (y := R.getD 0 0) (xS T1.at0) K1.r0 (by omega) (by omega) (n := n) (by omega)
    have T2 := g2.txo K1.G T1
    have G1 := K1.G
    have ha : bU (.ofNat (M1.fin * 2)) M2.pl = M1.fin := by rw [g2.pl]; exact aFx G1.lo (by have := G1.le; have := G1.hi; omega)
    obtain ⟨e3, W3, U3⟩ := K2.W.setR0 (.ofNat (M1.fin * 2))
    obtain ⟨W4, U4⟩ := W3.setS (es ++ [(.s s, .i .i64 (Int.ofNat 0))])
    obtain ⟨W5, U5⟩ := W4.setS (es ++ [(.s s, .i .i64 (.ofNat (M.fin * 2)))])
    have rset : ∀ i, (R.set 0 (Int.ofNat (M1.fin * 2))).getD (i + 1) 0 = R.getD (i + 1) 0 := fun i => by
     simp [List.getD, List.getElem?_set]
    have me : fP .string (.i .i64 (Int.ofNat 0)) (.m (aP 5)) (.s s) ⟨h2.next, Tr.set (.row .ex ((R.set 0 (Int.ofNat (M1.fin * 2))).map iD)) (aP 4) h2.bl⟩ =
      some (.t [.i .i64 (Int.ofNat 0), .i .i64 (.ofNat es.length)], ⟨h2.next, Tr.set (.mp (es ++ [(.s s, .i .i64 (Int.ofNat 0))])) (aP 5) (Tr.set (.row .ex ((R.set 0 (Int.ofNat (M1.fin * 2))).map iD)) (aP 4) h2.bl)⟩) := by
     simp only [fP, W3.sy, f2]
     rfl
    have ms : dY (.m (aP 5)) (.i .i64 (.ofNat es.length)) (.i .i64 (.ofNat (M.fin * 2))) ⟨h2.next, Tr.set (.mp (es ++ [(.s s, .i .i64 (Int.ofNat 0))])) (aP 5) (Tr.set (.row .ex ((R.set 0 (Int.ofNat (M1.fin * 2))).map iD)) (aP 4) h2.bl)⟩ =
      some (aV, ⟨h2.next, Tr.set (.mp (es ++ [(.s s, .i .i64 (.ofNat (M.fin * 2)))])) (aP 5) (Tr.set (.mp (es ++ [(.s s, .i .i64 (Int.ofNat 0))])) (aP 5) (Tr.set (.row .ex ((R.set 0 (Int.ofNat (M1.fin * 2))).map iD)) (aP 4) h2.bl))⟩) := by
     have q1 : (es ++ [(DV.s s, DV.i .i64 (Int.ofNat 0))])[es.length]? = some (.s s, .i .i64 (Int.ofNat 0)) := by simp
     have q2 : (es ++ [(DV.s s, DV.i .i64 (Int.ofNat 0))]).set es.length (.s s, .i .i64 (.ofNat (M.fin * 2))) = es ++ [(.s s, .i .i64 (.ofNat (M.fin * 2)))] := by simp
     simp only [dY, W4.sy, q1, q2]
    have ix : ∀ h, aH 1 (.l (aP 4) 0 18 18) (.i .i64 (Int.ofNat 0)) h = some (.p (aP 4) 0, h) := fun h => rfl
    refine ⟨.ofNat (M.fin * 2), 0, _, M2, R.set 0 (.ofNat (M1.fin * 2)), es ++ [(.s s, .i .i64 (.ofNat (M.fin * 2)))], ?_, ⟨W5, K2.G, ?_, ?_, ?_⟩, (((U1.trans U2).trans U3).trans U4).trans U5, ?_, .inr ⟨hl, rfl, bYp f1, T2⟩⟩
    ·simp only [lk, aU, hZ, z0, bQ, K.W.known (show 11 < 16 by omega), show 2 + 11 = 13 from rfl, e1, sA, rN, K1.W.l1, ix, gM, rY, K1.W.root (show 0 < 18 by omega), e2, K2.W.l1, K2.W.l2, e3, me, ms]
     rfl
    ·intro e he
     simp only [List.mem_append, List.mem_singleton] at he
     rcases he with he | rfl
     ·obtain ⟨k, y, q1, q2⟩ := K2.sy e he
      exact ⟨k, y, q1, by rw [show (13 : Nat) = 12 + 1 from rfl, rset]; exact q2⟩
     ·exact ⟨s, _, rfl, by rw [show (13 : Nat) = 12 + 1 from rfl, rset]; exact T2⟩
    ·have : (R.set 0 (Int.ofNat (M1.fin * 2))).getD 0 0 = Int.ofNat (M1.fin * 2) := by
      have hrl := K.W.rl
      cases R with
      | nil => simp at hrl
      | cons a l => rfl
     rw [this]
     exact xS (by rw [ha]; have := G1.lo; omega)
    ·intro i hi
     rw [show 2 + i = (1 + i) + 1 by omega, rset, show (1 + i) + 1 = 2 + i by omega]
     exact K2.rk i hi
    ·have st := (g1.stay K.G R es (fun CL I => I.newK (i := 11) (.inr (.inl ⟨.inr rfl, rfl⟩)) (by rw [List.length_map]; omega) (fun _ v hv => by obtain ⟨c, q1, q2⟩ := List.mem_map.1 hv; exact ⟨c, hs c q1, q2.symm⟩))).trans (g2.stay K1.G R es (fun CL I => I.newK (i := 9) (.inl ⟨rfl, rfl⟩) (by simp) (fun q => by cases q)))
     rw [List.length_map] at st
     have hf2 := g2.fin
     have hd2 := g2.made
     refine ⟨st.n, ?_, ?_, st.lo, st.tx, st.at', rset, fun k v e => bSs e, fun CL I => (st.gi CL I).roots rset, st.old⟩
     ·simp at hf2; omega
     ·omega
theorem Wk.string (K : Wk h M R es) {s : List Nat} (hs : ∀ c ∈ s, c < 256) (room : M.fin + 260 ≤ M.n) (hm : M.made < 800000) {n : Nat} (hn : 300 < n) :
  ∃ a e h' M', dD (n + 3) 43 [.p (aP 7) 0, .s s] h = some (.t [.i .i64 a, .i .i64 e], h') ∧ Wk h' M' R es ∧ Up h h' ∧ Stay 260 M M' R R es es ∧
   ((¬ s.length ≤ 250 ∧ e = 1 ∧ a = 0) ∨ (s.length ≤ 250 ∧ e = 0 ∧ a = .ofNat (M.fin * 2) ∧ TxO M' (R.getD 12 0) a s)) := by
 rw [nX 43 rfl, cSr]
 unfold s43
 have el : ∀ h, dT (.s s) h = some (.i .i64 (s.length : Int), h) := fun h => rfl
 by_cases c1 : s.length > 250
 ·refine ⟨0, 1, h, M, ?_, K, Up.refl h, Stay.refl _ _ _ _, .inl ⟨by omega, rfl, rfl⟩⟩
  have d1 : decide ((s.length : Int) > Int.ofNat 250) = true := decide_eq_true (by simp; omega)
  simp only [g0, g1, el, aU, fV, d1, bN]
  rfl
 ·have d1 : decide ((s.length : Int) > Int.ofNat 250) = false := decide_eq_false (by simp; omega)
  obtain ⟨h1, M1, e1, W1, U1, g1⟩ := K.W.bytes49 K.G (K.rk 10 (by omega)) hs (by omega) (by omega) hn
  have K1 : Wk h1 M1 R es := g1.wk K W1 (K.rk 10 (by omega)) (by omega) (by simp; omega) (by simp; omega) (by omega)
  have T1 : TxO M1 (R.getD 12 0) (.ofNat (M.fin * 2)) s := g1.new_txo K.G hs (by omega)
  refine ⟨.ofNat (M.fin * 2), 0, h1, M1, ?_, K1, U1, ?_, .inr ⟨by omega, rfl, rfl, T1⟩⟩
  ·simp only [g0, Dd.g1, el, aU, fV, d1, bQ, K.W.known (show 10 < 16 by omega), show 2 + 10 = 12 from rfl, e1, sA, rN]
   rfl
  ·have st := g1.stay K.G R es (fun CL I => I.newK (i := 10) (.inr (.inl ⟨.inl rfl, rfl⟩)) (by rw [List.length_map]; omega) (fun _ v hv => by obtain ⟨c, q1, q2⟩ := List.mem_map.1 hv; exact ⟨c, hs c q1, q2.symm⟩))
   rw [List.length_map] at st
   exact ⟨st.n, by have := st.fin; omega, by have := st.made; omega, st.lo, st.tx, st.at', st.r, st.fd, st.gi, st.old⟩
end
end Go.Dd

namespace Go.Dd
open Go.Proofs
noncomputable def byE (t : WT) (s : List Nat) : Nat → Bool := List.rec (motive := fun _ => Nat → Bool) (fun _ => true) (fun c _ ih a => Nat.blt c 256 && (gK (t.get a) (.ofNat c) && ih (Nat.add a 1))) s
noncomputable def bNc (M : MemV) (cls : Int) (e : List Nat × Nat) : Bool :=
 !(Nat.beq (bU (.ofNat e.2) M.pl) 0) && (gK (M.t.get (bU (.ofNat e.2) M.pl)) (.ofNat (Nat.add (Nat.mul e.1.length 4) 2)) && (gK (M.t.get (Nat.add (bU (.ofNat e.2) M.pl) 1)) cls && (Nat.ble e.1.length 256 && byE M.t e.1 (Nat.add (bU (.ofNat e.2) M.pl) 3))))
theorem bOe (t : WT) : ∀ (s : List Nat) (a : Nat), byE t s a = true → (∀ c ∈ s, c < 256) ∧ ∀ i c, s[i]? = some c → t.get (a + i) = .ofNat c
 | [], a, _ => ⟨by simp, fun i c h => by simp at h⟩
 | c :: s, a, h => by
  change (Nat.blt c 256 && (gK (t.get a) (.ofNat c) && byE t s (a + 1))) = true at h
  simp only [Bool.and_eq_true, fX, decide_eq_true_eq] at h
  obtain ⟨h1, h2⟩ := bOe t s (a + 1) h.2.2
  refine ⟨fun d hd => ?_, fun i d hi => ?_⟩
  ·simp only [List.mem_cons] at hd
   rcases hd with rfl | hd
   ·exact h.1
   ·exact h1 d hd
  ·cases i with
   | zero =>
    simp only [List.getElem?_cons_zero, bE] at hi
    subst hi
    exact mV _ _ h.2.1
   | succ i =>
    rw [show a + (i + 1) = a + 1 + i by omega]
    exact h2 i d (by simpa using hi)
theorem aZz {M : MemV} {cls : Int} {e : List Nat × Nat} (h : bNc M cls e = true) : TxO M cls (.ofNat e.2) e.1 := by
 unfold bNc at h
 simp only [Bool.and_eq_true, iY, decide_eq_true_eq] at h
 obtain ⟨h1, h2, h3, h4, h5⟩ := h
 obtain ⟨b1, b2⟩ := bOe _ _ _ h5
 refine ⟨fun e => (by rw [e] at h1; cases h1), mV _ _ h2, mV _ _ h3, b1, h4, b2⟩
noncomputable def dCd (p : List Nat × Nat → Bool) (l : List (List Nat × Nat)) : Bool := List.rec (motive := fun _ => Bool) true (fun x _ ih => p x && ih) l
theorem aNg {p : List Nat × Nat → Bool} : ∀ {l : List (List Nat × Nat)}, dCd p l = true → ∀ a ∈ l, p a = true
 | [], _, a, h => by cases h
 | x :: l, hl, a, h => by
  change (p x && dCd p l) = true at hl
  simp only [Bool.and_eq_true] at hl
  simp only [List.mem_cons] at h
  rcases h with rfl | h
  ·exact hl.1
  ·exact aNg hl.2 a h
theorem wJ : ∀ (l : List (List Nat × Nat)) (e : DV × DV), e ∈ bEi l → ∃ x ∈ l, e = (.s x.1, .i .i64 (.ofNat x.2))
 | [], e, h => by cases h
 | x :: l, e, h => by
  change e ∈ (DV.s x.1, DV.i .i64 (.ofNat x.2)) :: bEi l at h
  simp only [List.mem_cons] at h
  rcases h with rfl | h
  ·exact ⟨x, by simp, rfl⟩
  ·obtain ⟨y, h1, h2⟩ := wJ l e h
   exact ⟨y, by simp [h1], h2⟩
theorem cDy : dCd (bNc MN (RN.getD 13 0)) syN = true := by kernel_rfl
theorem KN : Wk hW MN RN esN := ⟨WN, GN, fun e he => by
 obtain ⟨x, h1, h2⟩ := wJ syN e he
 exact ⟨x.1, _, h2, aZz (aNg cDy x h1)⟩, by kernel_rfl, dLf⟩
theorem cRa (s t : List Nat) (h : Hp) : eM .eql (.s s) (.s t) h = some (.b (zZ s t), h) := rfl
theorem cRr (s : List Nat) (h : Hp) : dT (.s s) h = some (.i .i64 (s.length : Int), h) := rfl
theorem cOt (s : List Nat) : zZ s s = true := (mT s s).2 rfl
theorem dBe {M : MemV} {R : List Int} {cls o : Int} {s : List Nat} (T : TxO M cls o s) : bNd M R o = cls := by
 unfold bNd
 rw [if_pos T.at0, T.cls]
theorem bJg (s : ByteArray) : ∀ c ∈ s.data.toList.map (·.toNat), c < 256 := by
 intro c hc
 obtain ⟨b, _, rfl⟩ := List.mem_map.1 hc
 exact b.toNat_lt
end Go.Dd

namespace Go.Dd
open Go.Proofs
theorem bDk (x : Int) : gK x x = true := by
 cases x with
 | ofNat n => exact Nat.beq_refl n
 | negSucc n => exact Nat.beq_refl n
theorem dF (x y : Int) : gK x y = true ↔ x = y := ⟨mV x y, fun e => by rw [e]; exact bDk y⟩
noncomputable def bUw (p : Nat → Bool) (n : Nat) : Bool := Nat.rec (motive := fun _ => Bool) true (fun i ih => p i && ih) n
theorem uW {p : Nat → Bool} : ∀ {n : Nat}, bUw p n = true → ∀ i, i < n → p i = true
 | 0, _, i, h => by omega
 | n + 1, hl, i, h => by
  change (p n && bUw p n) = true at hl
  simp only [Bool.and_eq_true] at hl
  by_cases e : i = n
  ·rw [e]; exact hl.1
  ·exact uW hl.2 i (by omega)
noncomputable def cPt (a : Nat) (l : List Nat) : Bool := List.rec (motive := fun _ => Bool) false (fun x _ ih => Nat.beq a x || ih) l
theorem xP {a : Nat} : ∀ {l : List Nat}, cPt a l = true → a ∈ l
 | [], h => by cases h
 | x :: l, h => by
  change (Nat.beq a x || cPt a l) = true at h
  simp only [Bool.or_eq_true] at h
  rcases h with h | h
  ·rw [Nat.eq_of_beq_eq_true h]; exact List.mem_cons_self
  ·exact List.mem_cons_of_mem _ (xP h)
noncomputable def byB (v : Int) : Bool := match v with
 | .ofNat c => Nat.blt c 256
 | .negSucc _ => false
noncomputable def aSs (a b : Bool) : Bool := bif a then b else true
theorem kQ {a b : Bool} (h : aSs a b = true) (ha : a = true) : b = true := by rw [ha] at h; exact h
noncomputable def obB (M : MemV) (R : List Int) (CL : List Nat) (a hd : Nat) : Bool :=
 Nat.ble (Nat.div hd 4) 256 && (Nat.ble (Nat.mod hd 4) 2 && (aSs (gK (M.t.get (Nat.add a 1)) (R.getD 11 0)) (Nat.beq (Nat.mod hd 4) 0) &&
  (aSs (gK (M.t.get (Nat.add a 1)) (R.getD 12 0)) (Nat.beq (Nat.mod hd 4) 2) && (aSs (gK (M.t.get (Nat.add a 1)) (R.getD 13 0)) (Nat.beq (Nat.mod hd 4) 2) &&
  (aSs (Nat.beq (Nat.mod hd 4) 2) (bUw (fun i => byB (M.t.get (Nat.add (Nat.add a 3) i))) (Nat.div hd 4)) && (aSs (gK (M.t.get (Nat.add a 1)) (R.getD 3 0)) (cPt a CL) &&
  aLu (fun c => aSs (gK (M.t.get (Nat.add c 8)) 1) (!(gK (M.t.get (Nat.add a 1)) (.ofNat (Nat.mul 2 c))))) CL))))))
theorem dDq {M : MemV} {R : List Int} {CL : List Nat} {a hd : Nat} (h : obB M R CL a hd = true) : ObI M R CL a hd := by
 unfold obB at h
 simp only [Bool.and_eq_true, iY, decide_eq_true_eq] at h
 obtain ⟨h1, h2, h3, h4, h5, h6, h7, h8⟩ := h
 refine ⟨h1, h2, fun q => ?_, fun q => ?_, fun q i hi => ?_, fun q => ?_, fun _ c hc q1 q2 => ?_⟩
 ·exact Nat.eq_of_beq_eq_true (kQ h3 ((dF _ _).2 q))
 ·rcases q with q | q
  ·exact Nat.eq_of_beq_eq_true (kQ h4 ((dF _ _).2 q))
  ·exact Nat.eq_of_beq_eq_true (kQ h5 ((dF _ _).2 q))
 ·have hb := uW (kQ h6 (show Nat.beq (Nat.mod hd 4) 2 = true by rw [show Nat.mod hd 4 = 2 from q]; rfl)) i hi
  change byB (M.t.get (a + 3 + i)) = true at hb
  cases hv : M.t.get (a + 3 + i) with
  | ofNat c => rw [hv] at hb; exact ⟨c, by simpa [byB, fX] using hb, rfl⟩
  | negSucc c => rw [hv] at hb; cases hb
 ·exact xP (kQ h7 ((dF _ _).2 q))
 ·exfalso
  have q3 := kQ (jD h8 c hc) ((dF _ _).2 q1)
  rw [(dF _ _).2 (show M.t.get (Nat.add a 1) = .ofNat (Nat.mul 2 c) from q2)] at q3
  cases q3
noncomputable def aBa (M : MemV) (a : Nat) (p : Nat → Bool) : Bool := match M.t.get a with
 | .ofNat hd => p hd
 | .negSucc _ => true
noncomputable def clB (M : MemV) (R : List Int) (c : Nat) : Bool :=
 Nat.ble 3 c && (Nat.ble c 131072 && (!(gK (M.pl.get c) 0) && (gK (M.t.get c) (.ofNat 24) && (gK (M.t.get (Nat.add c 1)) (R.getD 3 0) &&
  (aBa M (Nat.add c 5) (fun s => Nat.ble s 33 && Nat.beq (Nat.mod s 2) 1) && (aBa M (Nat.add c 8) (fun s => Nat.ble s 7 && Nat.beq (Nat.mod s 2) 1) && (byB (M.t.get (Nat.add c 5)) && byB (M.t.get (Nat.add c 8)))))))))
noncomputable def nmB (M : MemV) (R : List Int) (sy : List (List Nat × Nat)) (c : Nat) : Bool :=
 List.rec (motive := fun _ => Bool) false (fun e _ ih => (gK (M.t.get (Nat.add c 3)) (.ofNat e.2) && (bNc M (R.getD 13 0) e && (Nat.ble 1 e.1.length && Nat.ble e.1.length 60))) || ih) sy
theorem bJm {M : MemV} {R : List Int} {c : Nat} : ∀ {sy : List (List Nat × Nat)}, nmB M R sy c = true → ∃ s, TxO M (R.getD 13 0) (M.t.get (c + 3)) s ∧ 1 ≤ s.length ∧ s.length ≤ 60
 | [], h => by cases h
 | e :: sy, h => by
  change ((gK (M.t.get (c + 3)) (.ofNat e.2) && (bNc M (R.getD 13 0) e && (Nat.ble 1 e.1.length && Nat.ble e.1.length 60))) || nmB M R sy c) = true at h
  simp only [Bool.or_eq_true] at h
  rcases h with h | h
  ·simp only [Bool.and_eq_true, iY, decide_eq_true_eq] at h
   obtain ⟨q1, q2, q3, q4⟩ := h
   exact ⟨e.1, by rw [(dF _ _).1 q1]; exact aZz q2, q3, q4⟩
  ·exact bJm h
theorem dBl {M : MemV} {R : List Int} {c : Nat} {sy : List (List Nat × Nat)} (h : clB M R c = true) (hn : nmB M R sy c = true) : ClI M R c := by
 unfold clB at h
 simp only [Bool.and_eq_true, iY, decide_eq_true_eq] at h
 obtain ⟨h1, h2, h3, h4, h5, h6, h7, h8, h9⟩ := h
 have num : ∀ (j m : Nat), aBa M (c + j) (fun s => decide (s ≤ 2 * m + 1) && Nat.beq (Nat.mod s 2) 1) = true → byB (M.t.get (c + j)) = true → ∃ z : Nat, z ≤ m ∧ M.t.get (c + j) = .ofNat (2 * z + 1) := fun j m q1 q2 => by
  cases hv : M.t.get (c + j) with
  | negSucc x => rw [hv] at q2; cases q2
  | ofNat x =>
   unfold aBa at q1
   rw [hv] at q1
   simp only [Bool.and_eq_true, decide_eq_true_eq] at q1
   have e : x % 2 = 1 := Nat.eq_of_beq_eq_true q1.2
   exact ⟨x / 2, by omega, by rw [show 2 * (x / 2) + 1 = x by omega]⟩
 refine ⟨⟨h1, h2⟩, fun e => ?_, (dF _ _).1 h4, (dF _ _).1 h5, bJm hn, num 5 16 h6 h8, num 8 3 h7 h9⟩
 rw [e] at h3
 cases h3
noncomputable def djB (M : MemV) (l : List Nat) : Nat → Bool := List.rec (motive := fun _ => Nat → Bool) (fun _ => true) (fun a _ ih lo => Nat.ble lo a && (match M.t.get a with
 | .ofNat hd => ih (Nat.add (Nat.add a 3) (Nat.div hd 4))
 | .negSucc _ => false)) l
theorem cBk {M : MemV} : ∀ {l : List Nat} {lo : Nat}, djB M l lo = true → (∀ a ∈ l, lo ≤ a) ∧ ∀ a ∈ l, ∀ b ∈ l, a < b → ∀ hd : Nat, M.t.get a = .ofNat hd → a + 3 + hd / 4 ≤ b
 | [], lo, h => ⟨fun a ha => (by cases ha), fun a ha => (by cases ha)⟩
 | x :: l, lo, h => by
  change (Nat.ble lo x && (match M.t.get x with
   | .ofNat hd => djB M l (x + 3 + hd / 4)
   | .negSucc _ => false)) = true at h
  simp only [Bool.and_eq_true, iY, decide_eq_true_eq] at h
  obtain ⟨h1, h2⟩ := h
  cases hx : M.t.get x with
  | negSucc k => rw [hx] at h2; cases h2
  | ofNat k =>
   rw [hx] at h2
   obtain ⟨i1, i2⟩ := cBk (l := l) h2
   refine ⟨fun a ha => ?_, fun a ha b hb hab hd hh => ?_⟩
   ·rcases List.mem_cons.1 ha with rfl | ka
    ·exact h1
    ·have := i1 a ka
     omega
   ·rcases List.mem_cons.1 ha with rfl | ka
    ·rcases List.mem_cons.1 hb with rfl | kb
     ·omega
     ·rw [hx] at hh
      cases hh
      exact i1 b kb
    ·rcases List.mem_cons.1 hb with rfl | kb
     ·have := i1 a ka
      omega
     ·exact i2 a ka b kb hab hd hh
noncomputable def giB (M : MemV) (R : List Int) (CL : List Nat) (pls : List Nat) (sy : List (List Nat × Nat)) : Bool :=
 djB M pls 0 && (gK (M.t.get 0) 0 && (gK (M.t.get 1) 0 && (aLu (fun a => aBa M a (obB M R CL a)) pls && (aLu (fun c => clB M R c && nmB M R sy c) CL &&
  (bUw (fun i => gK (R.getD (Nat.add 2 i) 0) (.ofNat (Nat.add 6 (Nat.mul 18 i)))) 16 && (bUw (fun i => cPt (Nat.add 3 (Nat.mul 9 i)) CL) 16 &&
  (gK (M.t.get 92) 3 && (gK (M.t.get 101) 5 && (gK (M.t.get 110) 5 && (gK (M.t.get 83) 7 && gK (M.t.get 20) 7))))))))))
theorem cVy {M : MemV} {R : List Int} {CL : List Nat} {pls : List Nat} {sy : List (List Nat × Nat)} (hp : M.pl = mkP pls .e) (hb : ∀ x ∈ pls, x < 16000000) (h : giB M R CL pls sy = true) : GI M R CL := by
 unfold giB at h
 simp only [Bool.and_eq_true] at h
 obtain ⟨h0, h1, h2, h3, h4, h5, h6, h7, h8, h9, h10, h11⟩ := h
 have mem : ∀ a, M.pl.get a ≠ 0 → a ∈ pls := fun a ha => by
  rw [hp] at ha
  rcases sU pls .e a hb ha with q | q
  ·exact q
  ·exact absurd rfl q
 refine ⟨(dF _ _).1 h1, (dF _ _).1 h2, fun a ha hd hh => ?_, fun a b ha hb' => (cBk h0).2 a (mem a ha) b (mem b hb'), fun c hc => ?_, fun i hi => (dF _ _).1 (uW h5 i hi), fun i hi => xP (uW h6 i hi), (dF _ _).1 h7, (dF _ _).1 h8, (dF _ _).1 h9, (dF _ _).1 h10, (dF _ _).1 h11⟩
 ·have hm : a ∈ pls := by
   rw [hp] at ha
   rcases sU pls .e a hb ha with q | q
   ·exact q
   ·exact absurd rfl q
  have q := jD h3 a hm
  unfold aBa at q
  rw [hh] at q
  exact dDq q
 ·have q := jD h4 c hc
  simp only [Bool.and_eq_true] at q
  exact dBl q.1 q.2
def CLW : List Nat := [3, 12, 21, 30, 39, 48, 57, 66, 75, 84, 93, 102, 111, 120, 129, 138, 4357]
theorem cNf : giB MN RN CLW plN syN = true := by kernel_rfl
theorem dEy : aLu (fun x => Nat.blt x 16000000) plN = true := by kernel_rfl
theorem GIN : GI MN RN CLW := cVy cTx (fun x hx => by have := jD dEy x hx; simpa [fX] using this) cNf
end Go.Dd

namespace Go.Dd
open Go.Proofs
noncomputable def eY (M : MemV) (o : Int) : Nat := match M.t.get (bU o M.pl) with
 | .ofNat hd => hd
 | .negSucc _ => 0
noncomputable def oM (M : MemV) (o : Int) (i : Nat) : Int := if bU o M.pl ≠ 0 ∧ i < eY M o / 4 then M.t.get (bU o M.pl + 3 + i) else 0
noncomputable def xI (M : MemV) (o : Int) : Int := M.t.get (bU o M.pl + 1)
noncomputable def isC (M : MemV) (R : List Int) (c : Int) : Bool := decide (bU c M.pl ≠ 0 ∧ xI M c = R.getD 3 0)
noncomputable def cFm (w : Int) : Int := if dE w = true then rX w else 0
noncomputable def aAm (M : MemV) (R : List Int) (c : Int) : Int := if isC M R c = true then cFm (oM M c 5) else -1
noncomputable def kU (M : MemV) (R : List Int) (c : Int) : Int := if isC M R c = true then oM M c 1 else 0
noncomputable def cMw (M : MemV) (R : List Int) (x : Int) : Option Int := if dE x = true then some (rX x) else if (bU x M.pl ≠ 0 ∧ xI M x = R.getD 10 0) ∧ eY M x % 4 = 1 then some (oM M x 0) else none
section
variable {h : Hp} {M : MemV} {R : List Int} {es : List (DV × DV)} {CL : List Nat} {z : Prop}
theorem bIh {M : MemV} {o : Int} (h : bU o M.pl ≠ 0) : M.pl.get (bU o M.pl) ≠ 0 := by
 rcases mB o M.pl with e | ⟨e, _⟩
 ·exact absurd e h
 ·have := (atN_pos (o := o) (pl := M.pl)).1 h
  rw [e]
  exact this.2
theorem GI.head (I : GI M R CL z) (G : Good M) (o : Int) (k : Nat → aJ) : hU M o k = k (eY M o) := by
 by_cases e : bU o M.pl = 0
 ·have b1 : Nat.blt (Nat.add (bU o M.pl) 1) M.n = true := by
   rw [fX, e]
   have := G.lo; have := G.le
   exact decide_eq_true (show 0 + 1 < M.n by omega)
  unfold hU eY
  rw [b1, e, I.z0]
  rfl
 ·obtain ⟨h3, hd, h1, h2, h4, _⟩ := G.ob _ (bIh e)
  have hl := G.le
  have b1 : Nat.blt (Nat.add (bU o M.pl) 1) M.n = true := by
   rw [fX]; exact decide_eq_true (show bU o M.pl + 1 < M.n by omega)
  have b2 : Nat.blt hd 1000000000000 = true := by rw [fX]; exact decide_eq_true h2
  unfold hU eY
  rw [b1, h1]
  simp only [cond_true, b2]
theorem GI.headOb (I : GI M R CL z) (G : Good M) {o : Int} (e : bU o M.pl ≠ 0) : M.t.get (bU o M.pl) = .ofNat (eY M o) ∧ ObI M R CL (bU o M.pl) (eY M o) z ∧ bU o M.pl + 3 + eY M o / 4 ≤ M.fin ∧ 3 ≤ bU o M.pl := by
 obtain ⟨h3, hd, h1, h2, h4, _⟩ := G.ob _ (bIh e)
 have eh : eY M o = hd := by unfold eY; rw [h1]
 rw [eh]
 exact ⟨h1, I.ob _ (bIh e) _ h1, h4, h3⟩
theorem Wd.clsA (W : Wd h M R es) (G : Good M) (I : GI M R CL z) (o : Int) : iR [.p (aP 3) 0, .i .i64 o] h = some (iD (xI M o), h) := by
 simp only [iR, iJ, W.mem, I.head G, Nat.add_eq, xI]
theorem Wd.fieldsA (W : Wd h M R es) (G : Good M) (I : GI M R CL z) (o : Int) : gO [.p (aP 3) 0, .i .i64 o] h = some (.i .i64 (.ofNat (eY M o / 4)), h) := by
 simp only [gO, iJ, W.mem, I.head G]
 rfl
theorem Wd.getA (W : Wd h M R es) (G : Good M) (I : GI M R CL z) (o : Int) (i : Nat) : ∃ e, yG [.p (aP 3) 0, .i .i64 o, .i .i64 (.ofNat i)] h = some (.t [iD (oM M o i), iD e], h) ∧ (e = 0 ↔ (bU o M.pl ≠ 0 ∧ i < eY M o / 4)) := by
 unfold oM
 by_cases e : bU o M.pl = 0
 ·refine ⟨1, ?_, by simp [e]⟩
  rw [if_neg (by simp [e])]
  simp only [yG, iJ, W.mem, gE, e, err]
  rfl
 ·obtain ⟨h1, _, h4, h3⟩ := I.headOb G e
  have hl := G.le
  by_cases hi : i < eY M o / 4
  ·refine ⟨0, ?_, by simp [e, hi]⟩
   rw [if_pos ⟨e, hi⟩]
   have b1 : Nat.ble (Nat.div (eY M o) 4) i = false := by
    rw [iY]; exact decide_eq_false (show ¬ (eY M o / 4 ≤ i) by omega)
   have b2 : Nat.blt (Nat.add (Nat.add (bU o M.pl) 3) i) M.n = true := by
    rw [fX]; exact decide_eq_true (show bU o M.pl + 3 + i < M.n by omega)
   simp only [yG, iJ, W.mem, gE, bGh e, cond_false, I.head G, b1, b2, cond_true]
   rfl
  ·refine ⟨5, ?_, by simp [hi]⟩
   rw [if_neg (by simp [hi])]
   have b1 : Nat.ble (Nat.div (eY M o) 4) i = true := by
    rw [iY]; exact decide_eq_true (show eY M o / 4 ≤ i by omega)
   simp only [yG, iJ, W.mem, gE, bGh e, cond_false, I.head G, b1, cond_true, err]
   rfl
theorem Wd.getG (W : Wd h M R es) (G : Good M) (I : GI M R CL z) (o : Int) (i n : Nat) : dD (n + 1) 51 [.p (aP 7) 0, .i .i64 o, .i .i64 (.ofNat i)] h = some (iD (oM M o i), h) := by
 rw [nX 51 rfl, bNx]
 unfold s51
 obtain ⟨e, h1, _⟩ := W.getA G I o i
 have g2 : ∀ (a b c : DV) (l : List DV), (a :: b :: c :: l).getD 2 aV = c := fun _ _ _ _ => rfl
 simp only [g0, g1, g2, gM, rY, aU, W.l00, h1, sA, rN]
theorem Wd.isClass (W : Wd h M R es) (G : Good M) (I : GI M R CL z) (c : Int) (n : Nat) : dD (n + 2) 67 [.p (aP 7) 0, .i .i64 c] h = some (.b (isC M R c), h) := by
 rw [nX 67 rfl, cTv]
 unfold s67
 by_cases e : bU c M.pl = 0
 ·have b : (!(Nat.beq (bU c M.pl) 0)) = false := by rw [e]; rfl
  have d : isC M R c = false := decide_eq_false (fun q => q.1 e)
  simp only [g0, g1, gM, rY, aU, W.l00, W.is, b, zG, bFj, cN, d]
 ·have b : (!(Nat.beq (bU c M.pl) 0)) = true := by rw [bGh e]; rfl
  have k : dD (n + 1) 30 [.p (aP 7) 0, .i .i64 (Int.ofNat 1)] h = some (iD (R.getD 3 0), h) := W.known (show 1 < 16 by omega) n
  by_cases e2 : xI M c = R.getD 3 0
  ·have d : isC M R c = true := decide_eq_true ⟨e, e2⟩
   obtain ⟨h1, O, _, _⟩ := I.headOb G e
   have hm := O.cls e2
   have h6 : eY M c / 4 = 6 := by
    have := (I.cl _ hm).hd
    rw [h1] at this
    have := Int.ofNat.inj this
    omega
   have z : (Int.ofNat 6 == Int.ofNat 6) = true := rfl
   have zz : (xI M c == R.getD 3 0) = true := by rw [e2]; exact beq_self_eq_true _
   simp only [g0, g1, gM, rY, aU, W.l00, W.is, b, aAb, W.clsA G I, k, cK, zz, cS, W.fieldsA G I, h6, z, d]
  ·have d : isC M R c = false := decide_eq_false (fun q => e2 q.2)
   have zz : (xI M c == R.getD 3 0) = false := by simpa using e2
   simp only [g0, g1, gM, rY, aU, W.l00, W.is, b, aAb, W.clsA G I, k, cK, zz, cS, cN, zG, bFj, d]
theorem dQz (w : Int) (h : Hp) : jZ [.i .i64 w] h = some (iD (cFm w), h) := by
 show ((bif dE w then some (DV.i .i64 (rX w), h) else some (DV.i .i64 (.ofNat 0), h)) : aJ) = _
 unfold cFm
 cases dE w <;> rfl
theorem Wd.kind (W : Wd h M R es) (G : Good M) (I : GI M R CL z) (c : Int) (n : Nat) : dD (n + 3) 32 [.p (aP 7) 0, .i .i64 c] h = some (iD (aAm M R c), h) := by
 rw [nX 32 rfl, cTj]
 unfold s32 aAm
 cases hc : isC M R c with
 | false => simp only [g0, g1, W.isClass G I c n, hc, aU, fY, Bool.not_false, bN]; rfl
 | true => simp only [g0, g1, W.isClass G I c n, hc, aU, fY, Bool.not_true, bQ, W.getG G I c 5 (n + 1), dQz, if_true]
theorem Wd.super (W : Wd h M R es) (G : Good M) (I : GI M R CL z) (c : Int) (n : Nat) : dD (n + 3) 35 [.p (aP 7) 0, .i .i64 c] h = some (iD (kU M R c), h) := by
 rw [nX 35 rfl, cSx]
 unfold s35 kU
 cases hc : isC M R c with
 | false => simp only [g0, g1, W.isClass G I c n, hc, aU, fY, Bool.not_false, bN]; rfl
 | true => simp only [g0, g1, W.isClass G I c n, hc, aU, fY, Bool.not_true, bQ, W.getG G I c 1 (n + 1), if_true]
end
end Go.Dd

namespace Go.Dd
open Go.Proofs
theorem pcf {rec : FuncId → List DV → Hp → aJ} {g : FuncId} (hg : CF.I g = none) (a l b : List DV) (h : Hp) : cU CF rec (.f g a b) l h = rec g (a ++ l ++ b) h := by
 show bO CF rec g (a ++ l ++ b) h = _
 rw [iA hg]
section
variable {h : Hp} {M : MemV} {R : List Int} {es : List (DV × DV)}
theorem Wk.make0 (K : Wk h M R es) {cls : Int} (hc : bU cls M.pl ≠ 0) {f c : Nat} (hf : f ≤ 2) (h256 : c ≤ 256) (room : M.fin + c + 3 ≤ M.n) (hm : M.made < 899999) :
  ∃ h' M', kL [.p (aP 3) 0, .i .i64 cls, .i .i64 (.ofNat f), .i .i64 (.ofNat c)] h = some (.t [.i .i64 (.ofNat (M.fin * 2)), .i .i64 (.ofNat 0)], h') ∧ Wk h' M' R es ∧ Up h h' ∧ Grown M M' f cls (List.replicate c 0) := by
 have h1 := K.G.le
 have h2 := K.G.lo
 have h3 := K.G.hi
 obtain ⟨h', e1, W1, U1, _⟩ := K.W.make K.G hc hf h256 room
 have t1 : ∀ j, (M.mk1 f c cls).t.get j = if M.fin + 3 ≤ j ∧ j < M.fin + 3 + c then 0 else if j = M.fin + 2 then .ofNat (M.made + 1) else if j = M.fin + 1 then cls else if j = M.fin then .ofNat (c * 4 + f) else M.t.get j := fun j => by
  show (kM _ c (M.fin + 3)).get j = _
  rw [mU _ _ _ _ (by omega), WT.get_set _ _ _ _ (by omega), WT.get_set _ _ _ _ (by omega), WT.get_set _ _ _ _ (by omega)]
 have g : Grown M (M.mk1 f c cls) f cls (List.replicate c 0) := by
  refine ⟨rfl, by rw [List.length_replicate]; rfl, rfl, rfl, ?_, ?_, fun j hj => ?_, fun i v hi => ?_⟩
  ·rw [t1, if_neg (by omega), if_neg (by omega), if_neg (by omega), if_pos rfl, List.length_replicate]
  ·rw [t1, if_neg (by omega), if_neg (by omega), if_pos rfl]
  ·rw [t1, if_neg (by omega), if_neg (by omega), if_neg (by omega), if_neg (by omega)]
  ·have hl : i < c := by
    rcases Nat.lt_or_ge i c with q | q
    ·exact q
    ·rw [List.getElem?_eq_none (by simpa using q)] at hi; cases hi
   rw [List.getElem?_replicate, if_pos hl] at hi
   cases hi
   rw [t1, if_pos (by omega)]
 exact ⟨h', _, e1, g.wk K W1 hc hf (by rw [List.length_replicate]; exact h256) (by rw [List.length_replicate]; exact room) hm, U1, g⟩
theorem bGi {M : MemV} {R : List Int} {a n : Int} (h : dE a = true) (e : rX a = n) : cMw M R a = some n := by
 unfold cMw
 rw [if_pos h, e]
theorem Wk.num (K : Wk h M R es) (room : M.fin + 4 ≤ M.n) (hm : M.made < 899999) (n : Int) {k : Nat} (hk : 256 < k) :
  ∃ a e h' M', dD (k + 2) 42 [.p (aP 7) 0, .i .i64 n] h = some (.t [iD a, iD e], h') ∧ Wk h' M' R es ∧ Up h h' ∧ Stay 4 M M' R R es es ∧
   ((¬ (-1152921504606846976 ≤ n ∧ n ≤ 1152921504606846976) ∧ e = 2 ∧ a = 0) ∨ ((-1152921504606846976 ≤ n ∧ n ≤ 1152921504606846976) ∧ e = 0 ∧ cMw M' R a = some n ∧ eJ a M'.pl = true)) := by
 obtain ⟨a, e, h', M', e1, W', G', U', hA⟩ := K.W.number K.G K.rk room hm n hk
 cases hA with
 | out h1 h2 =>
  subst h2
  exact ⟨0, 2, h', M', e1, ⟨W', G', K.sy, K.r0, K.rk⟩, U', Stay.refl _ _ _ _, .inl ⟨h1, rfl, rfl⟩⟩
 | small a h1 h2 h3 h4 =>
  subst h4
  refine ⟨a, 0, h', M', e1, ⟨W', G', K.sy, K.r0, K.rk⟩, U', Stay.refl _ _ _ _, .inr ⟨by omega, rfl, bGi h2 h3, ?_⟩⟩
  unfold eJ
  split <;> first | rfl | (rw [h2]; rfl)
 | big h1 h2 g =>
  have hc : bU (R.getD 10 0) M.pl ≠ 0 := K.rk 8 (by omega)
  have st := g.stay K.G R es (fun CL I => I.newK (i := 8) (.inr (.inr ⟨rfl, rfl⟩)) (by simp) (fun q => by cases q))
  have ha : bU (.ofNat (M.fin * 2)) M'.pl = M.fin := by rw [g.pl]; exact aFx K.G.lo (by have := K.G.le; have := K.G.hi; omega)
  have h0 := K.G.lo
  have hs : dE (.ofNat (M.fin * 2)) = false := by
   rw [jL]
   refine decide_eq_false fun q => ?_
   have q1 := q.1
   simp at q1
   try omega
  refine ⟨_, 0, h', M', e1, g.wk K W' hc (by omega) (by simp) (by simp; omega) hm, U', st, .inr ⟨h1, rfl, ?_, xS (by rw [ha]; omega)⟩⟩
  unfold cMw
  have hh : eY M' (.ofNat (M.fin * 2)) = 5 := by unfold eY; rw [ha, g.hd]; rfl
  rw [if_neg (by rw [hs]; simp), if_pos ⟨⟨by rw [ha]; omega, by unfold xI; rw [ha, g.cl]⟩, by rw [hh]⟩]
  unfold oM
  rw [ha, hh, if_pos ⟨by omega, by omega⟩]
  have := g.new 0 n rfl
  rw [Nat.add_zero] at this ⊢
  all_goals rw [this]
theorem Wd.notMay (W : Wd h M R es) {b : Pos} (hb : h.bl.get b = some (.row .ex [.p (aP 7) 0])) (v : Int) (n : Nat) : dD (n + 1) 84 [.i .i64 v, .p b 0] h = some (.b (!(eJ v M.pl)), h) := by
 rw [nX 84 rfl, cSu]
 unfold s84
 have l : aA (.p b 0) h = some (.p (aP 7) 0, h) := by simp only [aA, cellD, rowOf, hb, List.getElem?_cons_zero, DV.one, if_true]
 simp only [g0, g1, l, aU, gM, rY, W.l00, W.may, fY]
theorem aMb {l : List Int} {p : Int → Bool} {i : Nat} {v : Int} (h : l[i]? = some v) : (l.drop i).any p = (p v || (l.drop (i + 1)).any p) := by
 have hi : i < l.length := by
  rcases Nat.lt_or_ge i l.length with q | q
  ·exact q
  ·rw [List.getElem?_eq_none q] at h; cases h
 rw [List.drop_eq_getElem_cons hi, List.any_cons]
 rw [List.getElem?_eq_getElem hi] at h
 cases h
 rfl
theorem Wd.find (W : Wd h M R es) {x : DV} {l : List Int} (S : SlI x l h) {b : Pos} (hb : h.bl.get b = some (.row .ex [.p (aP 7) 0])) {n : Nat} (hl : l.length ≤ 256) : ∀ (k i m : Nat), k + i = l.length → k < m →
  ∃ r : Int, iQ (dD (n + 1)) (n + 1) m x (.f 84 [] [.p b 0]) (iD l.length) (.i .i64 (Int.ofNat i)) h = some (iD r, h) ∧ (decide (r ≥ Int.ofNat 0) = (l.drop i).any fun v => !(eJ v M.pl)) := by
 intro k
 induction k with
 | zero =>
  intro i m he hm
  obtain ⟨m, rfl⟩ : ∃ m', m = m' + 1 := ⟨m - 1, by omega⟩
  refine ⟨-1, ?_, ?_⟩
  ·show gU (dD (n + 1)) (n + 1) (iQ (dD (n + 1)) (n + 1) m) _ _ _ _ h = _
   unfold gU
   have d : decide (Int.ofNat i < (l.length : Int)) = false := decide_eq_false (by simp; omega)
   simp only [cJ, d, aU, bQ]
   rfl
  ·rw [List.drop_eq_nil_of_le (by omega)]
   rfl
 | succ k ih =>
  intro i m he hm
  obtain ⟨m, rfl⟩ : ∃ m', m = m' + 1 := ⟨m - 1, by omega⟩
  have hi : i < l.length := by omega
  have hv : l[i]? = some l[i] := List.getElem?_eq_getElem hi
  obtain ⟨a, e1, e2⟩ := S.at hv
  obtain ⟨r, q1, q2⟩ := ih (i + 1) m (by omega) (by omega)
  have d : decide (Int.ofNat i < (l.length : Int)) = true := decide_eq_true (by simp; omega)
  have hc : cU CF (dD (n + 1)) (.f 84 [] [.p b 0]) [iD l[i]] h = some (.b (!(eJ l[i] M.pl)), h) := by
   rw [pcf rfl]
   exact W.notMay hb l[i] n
  have ha : aD .add (.i .i64 (Int.ofNat i)) (.i .i64 (Int.ofNat 1)) h = some (.i .i64 (Int.ofNat (i + 1)), h) := iF i 1 h (by omega)
  rw [aMb hv]
  cases hmay : eJ l[i] M.pl with
  | false =>
   refine ⟨Int.ofNat i, ?_, by simp⟩
   show gU (dD (n + 1)) (n + 1) (iQ (dD (n + 1)) (n + 1) m) _ _ _ _ h = _
   unfold gU
   rw [hmay] at hc
   simp only [cJ, d, aU, bN, e1, e2, hc, Bool.not_false]
  | true =>
   refine ⟨r, ?_, by rw [q2]; rfl⟩
   show gU (dD (n + 1)) (n + 1) (iQ (dD (n + 1)) (n + 1) m) _ _ _ _ h = _
   unfold gU
   rw [hmay] at hc
   simp only [cJ, d, aU, bN, e1, e2, hc, Bool.not_true, bQ, ha]
   exact q1
theorem Wd.contains (W : Wd h M R es) {x : DV} {l : List Int} (S : SlI x l h) {b : Pos} (hb : h.bl.get b = some (.row .ex [.p (aP 7) 0])) (hl : l.length ≤ 256) {n : Nat} (hn : 256 < n) :
  dD (n + 3) 52 [x, .f 84 [] [.p b 0]] h = some (.b (l.any fun v => !(eJ v M.pl)), h) := by
 rw [nX 52 rfl, bWu]
 unfold s52
 obtain ⟨r, q1, q2⟩ := W.find S hb (n := n) hl l.length 0 (n + 1) (by omega) (by omega)
 have e : dD (n + 2) 89 [x, .f 84 [] [.p b 0]] h = some (iD r, h) := by
  rw [nX 89 rfl, bJl]
  unfold s89 aMd aMs bCe
  simp only [g0, g1, S.len (h' := h), aU]
  exact q1
 simp only [g0, g1, e, aU, mI, q2, List.drop_zero]
end
end Go.Dd

namespace Go.Dd
open Go.Proofs
theorem bTq (b : Pos) (o : Nat) (h : Hp) : bK (some (.p b o, h)) (.p b o) = true := by
 unfold bK
 simp [DV.beq]
section
variable {h : Hp} {M : MemV} {R : List Int} {es : List (DV × DV)}
theorem Wk.array (K : Wk h M R es) {x : DV} {l : List Int} (S : SlI x l h) (h256 : l.length ≤ 256) (room : M.fin + l.length + 3 ≤ M.n) (hm : M.made < 899999) {n : Nat} (hn : 256 < n) :
  ∃ a e h' M', dD (n + 4) 46 [.p (aP 7) 0, x] h = some (.t [iD a, iD e], h') ∧ Wk h' M' R es ∧ Up h h' ∧
   ((¬ (l.length ≤ 250 ∧ ∀ v ∈ l, eJ v M.pl = true) ∧ e = 1 ∧ a = 0 ∧ M' = M) ∨ ((l.length ≤ 250 ∧ ∀ v ∈ l, eJ v M.pl = true) ∧ e = 0 ∧ a = .ofNat (M.fin * 2) ∧ Grown M M' 0 (R.getD 11 0) l)) := by
 rw [nX 46 rfl, cSt]
 unfold s46
 obtain ⟨U1, W1⟩ := K.W.new (.row .ex [.p (aP 7) 0])
 obtain ⟨h1, hh1⟩ : ∃ h1 : Hp, (⟨h.next.succ, Tr.set (.row .ex [.p (aP 7) 0]) h.next h.bl⟩ : Hp) = h1 := ⟨_, rfl⟩
 rw [hh1] at U1 W1
 have eb : bS (.p (aP 7) 0) h = some (.p h.next 0, h1) := by rw [← hh1]; rfl
 have hb : h1.bl.get h.next = some (.row .ex [.p (aP 7) 0]) := by rw [← hh1]; exact dSf _ _ _
 have S1 := S.up U1
 have K1 : Wk h1 M R es := ⟨W1, K.G, K.sy, K.r0, K.rk⟩
 have ld : aA (.p h.next 0) h1 = some (.p (aP 7) 0, h1) := by simp only [aA, cellD, rowOf, hb, List.getElem?_cons_zero, DV.one, if_true]
 have el : ∀ h, bX x h = some (iD l.length, h) := fun h => S.len
 by_cases c1 : l.length > 250
 ·have d1 : decide ((l.length : Int) > Int.ofNat 250) = true := decide_eq_true (by simp; omega)
  refine ⟨0, 1, h1, M, ?_, K1, U1, .inl ⟨fun q => by omega, rfl, rfl, rfl⟩⟩
  simp only [g0, g1, eb, aU, el, fV, d1, fZ, cS, bN]
  rfl
 ·have d1 : decide ((l.length : Int) > Int.ofNat 250) = false := decide_eq_false (by simp; omega)
  have hc := W1.contains S1 hb h256 hn
  cases ha : l.any (fun v => !(eJ v M.pl)) with
  | true =>
   rw [ha] at hc
   refine ⟨0, 1, h1, M, ?_, K1, U1, .inl ⟨fun q => ?_, rfl, rfl, rfl⟩⟩
   ·simp only [g0, g1, eb, aU, el, fV, d1, hD, hc, cN, bN]
    rfl
   ·obtain ⟨v, hv, hv2⟩ := List.any_eq_true.1 ha
    rw [q.2 v hv] at hv2
    cases hv2
  | false =>
   rw [ha] at hc
   have hall : ∀ v ∈ l, eJ v M.pl = true := fun v hv => by
    cases hq : eJ v M.pl with
    | true => rfl
    | false =>
     have : l.any (fun v => !(eJ v M.pl)) = true := List.any_eq_true.2 ⟨v, hv, by rw [hq]; rfl⟩
     rw [this] at ha
     cases ha
   have hk : M.fin < 16000000 := by have := K.G.le; have := K.G.hi; omega
   obtain ⟨h2, M2, e2, W2, U2, _, g2⟩ := W1.make61 K.G (K.rk 9 (by omega)) (f := 0) (by omega) S1 (by omega) (by omega) (fun v hv => tA hk (hall v hv)) (n := n + 2) (by omega)
   have kn : dD (n + 3) 30 [.p (aP 7) 0, .i .i64 (Int.ofNat 9)] h1 = some (iD (R.getD 11 0), h1) := W1.known (show 9 < 16 by omega) (n + 2)
   refine ⟨.ofNat (M.fin * 2), 0, h2, M2, ?_, g2.wk K1 W2 (K.rk 9 (by omega)) (by omega) (by omega) (by omega) hm, U1.trans U2, .inr ⟨⟨by omega, hall⟩, rfl, rfl, g2⟩⟩
   simp only [g0, g1, eb, aU, el, fV, d1, hD, hc, cN, bQ, ld, kn, bTq, Bool.and_self, cond_true]
   rw [show (2 + 9 : Nat) = 11 from rfl] at e2
   show cnd true _ = _
   simp only [cnd, e2, aU, sA, rN]
   rfl
end
end Go.Dd

namespace Go.Dd
open Go.Proofs
def Wc (h : Hp) (cs : List (DV × DV)) : Prop := h.bl.get (aP 6) = some (.mp cs)
noncomputable def aVx (cs : List (DV × DV)) (s : List Nat) : Int := match dH .string (.s s) cs with
 | some (some (.i .i64 v)) => v
 | _ => 0
section
variable {h : Hp} {M : MemV} {R : List Int} {es cs : List (DV × DV)} {CL : List Nat} {z : Prop}
theorem Wc.up {h' : Hp} (c : Wc h cs) (W : Wd h M R es) (u : Up h h') : Wc h' cs := by
 unfold Wc
 rw [u.get (aP 6) (.inr (by rw [pn6]; exact Nat.le_refl _)) (by have := W.nx; rw [pn6]; omega)]
 exact c
theorem Wd.classOfName (W : Wd h M R es) (c : Wc h cs) (hcs : ∀ e ∈ cs, ∃ (k : List Nat) (x : Int), e = (.s k, iD x)) (s : List Nat) (n : Nat) : dD (n + 1) 45 [.p (aP 7) 0, .s s] h = some (iD (aVx cs s), h) := by
 rw [nX 45 rfl, cSy]
 unfold s45
 have l3 : aA (.p (aP 7) (0 + 3)) h = some (.m (aP 6), h) := by
  simp only [aA, cellD, rowOf, W.w, Nat.zero_add, List.getElem?_cons_succ, List.getElem?_cons_zero, DV.one, if_true]
 have lk : dN .string (.i .i64 (Int.ofNat 0)) false (.m (aP 6)) (.s s) h = some (iD (aVx cs s), h) := by
  have hc : h.bl.get (aP 6) = some (.mp cs) := c
  unfold aVx
  rcases bBj s hcs with ⟨x, f1, f2⟩ | ⟨f1, f2⟩
  ·simp only [dN, fL, hc, f1, cond_false]
  ·simp only [dN, fL, hc, f1, cond_false]
   rfl
 simp only [g0, g1, gM, rY, aU, l3, lk]
theorem GI.clsAt (I : GI M R CL z) (G : Good M) {c : Int} (hc : isC M R c = true) : bU c M.pl ≠ 0 ∧ bU c M.pl ∈ CL ∧ ClI M R (bU c M.pl) := by
 have q := of_decide_eq_true hc
 obtain ⟨_, O, _, _⟩ := I.headOb G q.1
 have hm := O.cls q.2
 exact ⟨q.1, hm, I.cl _ hm⟩
theorem GI.clsGet (I : GI M R CL z) (G : Good M) {c : Int} (hc : isC M R c = true) {i : Nat} (hi : i < 6) : oM M c i = M.t.get (bU c M.pl + 3 + i) := by
 obtain ⟨h1, h2, C⟩ := I.clsAt G hc
 unfold oM eY
 rw [C.hd]
 exact if_pos ⟨h1, by show i < 24 / 4; omega⟩
theorem Wd.name (W : Wd h M R es) (G : Good M) (I : GI M R CL z) (c : Int) {n : Nat} (hn : 300 < n) :
  ∃ s h', dD (n + 3) 34 [.p (aP 7) 0, .i .i64 c] h = some (.s s, h') ∧ Wd h' M R es ∧ Up h h' ∧ ((isC M R c = true ∧ TxO M (R.getD 13 0) (oM M c 0) s ∧ 1 ≤ s.length ∧ s.length ≤ 60) ∨ (isC M R c = false ∧ s = [])) := by
 rw [nX 34 rfl, cTb]
 unfold s34
 have hi := W.isClass G I c n
 cases hc : isC M R c with
 | false =>
  rw [hc] at hi
  refine ⟨[], h, ?_, W, Up.refl h, .inr ⟨rfl, rfl⟩⟩
  simp only [g0, g1, hi, aU, fY, Bool.not_false, bN]
 | true =>
  rw [hc] at hi
  obtain ⟨h1, h2, C⟩ := I.clsAt G hc
  obtain ⟨s, T, l1, l2⟩ := C.nm
  have eg : oM M c 0 = M.t.get (bU c M.pl + 3) := I.clsGet G hc (by omega)
  obtain ⟨h', e1, W1, U1⟩ := W.text G T (.inr rfl) hn
  refine ⟨s, h', ?_, W1, U1, .inl ⟨rfl, by rw [eg]; exact T, l1, l2⟩⟩
  simp only [g0, g1, hi, aU, fY, Bool.not_true, bQ, W.getG G I c 0 (n + 1), eg, e1, sA, rN]
theorem GI.kindC (I : GI M R CL z) (G : Good M) {c : Int} (hc : isC M R c = true) : ∃ k : Nat, k ≤ 3 ∧ aAm M R c = k ∧ M.t.get (bU c M.pl + 8) = .ofNat (2 * k + 1) := by
 obtain ⟨h1, h2, C⟩ := I.clsAt G hc
 obtain ⟨k, q1, q2⟩ := C.kd
 refine ⟨k, q1, ?_, q2⟩
 unfold aAm
 rw [if_pos hc, I.clsGet G hc (by omega), show bU c M.pl + 3 + 5 = bU c M.pl + 8 by omega, q2]
 unfold cFm
 have hs : dE (.ofNat (2 * k + 1)) = true := by
  rw [jL]
  refine decide_eq_true ?_
  have : (Int.ofNat (2 * k + 1)) = 2 * (k : Int) + 1 := by simp
  omega
 rw [if_pos hs]
 show Int.ofNat (Nat.div (2 * k + 1) 2) = _
 have : Nat.div (2 * k + 1) 2 = k := by show (2 * k + 1) / 2 = k; omega
 rw [this]
 rfl
end
end Go.Dd

namespace Go.Dd
open Go.Proofs
structure Wv (k : Nat) (h : Hp) (M : MemV) (R : List Int) (es : List (DV × DV)) (z : Prop := True) : Prop where
 K : Wk h M R es
 I : GI M R CLW z
 c : Wc h csW
 n : M.n = 30000
 fin : M.fin + k ≤ 30000
 md : M.made + k ≤ 700000
theorem Stay.mono {a b : Nat} {M M' : MemV} {R R' : List Int} {es es' : List (DV × DV)} (h : Stay a M M' R R' es es') (hab : a ≤ b) : Stay b M M' R R' es es' :=
 ⟨h.n, Nat.le_trans h.fin (by omega), Nat.le_trans h.made (by omega), h.lo, h.tx, h.at', h.r, h.fd, h.gi, h.old⟩
section
variable {h h' : Hp} {M M' : MemV} {R R' : List Int} {es es' : List (DV × DV)} {z : Prop}
theorem Wv.stay {k j : Nat} (V : Wv (j + k) h M R es) (K' : Wk h' M' R' es') (u : Up h h') (S : Stay j M M' R R' es es') : Wv k h' M' R' es' := by
 have h1 := S.n
 have h2 := S.fin
 have h3 := S.made
 have h4 := V.n
 have h5 := V.fin
 have h6 := V.md
 exact ⟨K', S.gi _ V.I, V.c.up V.K.W u, by omega, by omega, by omega⟩
theorem Wv.less {k j : Nat} (V : Wv j h M R es z) (hk : k ≤ j) : Wv k h M R es z := ⟨V.K, V.I, V.c, V.n, by have := V.fin; omega, by have := V.md; omega⟩
theorem Wk.up (K : Wk h M R es) (W' : Wd h' M R es) : Wk h' M R es := ⟨W', K.G, K.sy, K.r0, K.rk⟩
theorem Wv.up {k : Nat} (V : Wv k h M R es z) (W' : Wd h' M R es) (u : Up h h') : Wv k h' M R es z := ⟨V.K.up W', V.I, V.c.up V.K.W u, V.n, V.fin, V.md⟩
theorem Wv.new {k : Nat} (V : Wv k h M R es z) (o : Ob) : Up h ⟨h.next.succ, Tr.set o h.next h.bl⟩ ∧ Wv k ⟨h.next.succ, Tr.set o h.next h.bl⟩ M R es z := by
 obtain ⟨u, W⟩ := V.K.W.new o
 exact ⟨u, V.up W u⟩
theorem cZj : ∀ e ∈ csW, ∃ (k : List Nat) (x : Int), e = (.s k, iD x) := fun e he => by
 obtain ⟨x, _, h2⟩ := wJ (clF ++ clW) e he
 exact ⟨x.1, _, h2⟩
theorem dJs : aVx csW [80, 111, 105, 110, 116] = 8714 := by kernel_rfl
theorem Wv.point {k : Nat} (V : Wv k h M R es z) (n : Nat) : dD (n + 1) 45 [.p (aP 7) 0, .s [80, 111, 105, 110, 116]] h = some (iD 8714, h) := by
 rw [V.K.W.classOfName V.c cZj, dJs]
theorem cNr : iM 8714 = 4357 := by kernel_rfl
theorem Wv.ptAt {k : Nat} (V : Wv k h M R es z) : bU 8714 M.pl ≠ 0 := by
 rw [atN_pos, cNr]
 exact ⟨by decide, (V.I.cl 4357 (by decide)).pl⟩
theorem Wv.ptNew {k : Nat} (V : Wv k h M R es) : ∀ CL, GI M R CL → NewI M R CL 0 8714 (List.replicate 2 0) := fun CL I => by
 have r3 := I.rk 1 (by omega)
 have r12 := I.rk 10 (by omega)
 have r13 := I.rk 11 (by omega)
 refine ⟨by decide, by omega, fun _ => rfl, fun q => ?_, fun q => (by cases q), fun q => ?_, fun c hc _ _ => ⟨rfl, fun v hv => List.eq_of_mem_replicate hv⟩⟩
 ·rcases q with q | q
  ·rw [r12] at q; cases q
  ·rw [r13] at q; cases q
 ·rw [r3] at q; cases q
end
end Go.Dd

namespace Go.Dd
open Go.Proofs
theorem nY {a b : Int} (h : a ≠ b) : (a == b) = false := by simpa using h
theorem aOb (a : Int) (h : Hp) : aD .rem (.i .i64 a) (.i .i64 (Int.ofNat 10)) h = some (.i .i64 (a.tmod 10), h) := by simp only [aD, if_true, fK]; rfl
theorem cRt (a b : Int) (h : Hp) (hr : -9223372036854775808 ≤ a * b ∧ a * b ≤ 9223372036854775807) : aD .mul (.i .i64 a) (.i .i64 b) h = some (.i .i64 (a * b), h) := by simp only [aD, if_true, fK, gQ _ hr]
theorem cMl (a : Nat) (ha : a < 1000) (h : Hp) : aD .quo (.i .i64 (a : Int)) (.i .i64 (Int.ofNat 2)) h = some (.i .i64 (Int.ofNat (a / 2)), h) := by
 have e : (a : Int).tdiv (Int.ofNat 2) = Int.ofNat (a / 2) := rfl
 simp only [aD, if_true, fK, e]
 rw [if_neg (by decide), gQ _ (by simp; omega)]
theorem bLu (s : List Nat) (k : Nat) (hk : k ≤ s.length) (h : Hp) : fD (.s s) none (some (.i .i64 (Int.ofNat k))) h = some (.s (s.take k), h) := by
 have e : hiD (some (.i .i64 (Int.ofNat k))) s.length s.length = some k := by
  show (if (0 : Int) ≤ Int.ofNat k ∧ Int.ofNat k ≤ (s.length : Int) then some (Int.ofNat k).toNat else none) = _
  rw [if_pos ⟨by simp, by simpa using hk⟩]
  rfl
 simp only [fD, e]
 rfl
theorem cYf (l : List Int) : ∀ v ∈ l.map iD, v.one = true := by
 intro v hv
 obtain ⟨c, _, rfl⟩ := List.mem_map.1 hv
 rfl
theorem dAy {x : DV} {l : List Int} {lo : Nat} {h : Hp} (hlo : 1031 ≤ lo) (S : GrS x (l.map iD) lo h) : SlI x l h := by
 rcases S with ⟨rfl, e⟩ | ⟨b, e, hb, h2, h3⟩
 ·refine .inl ⟨rfl, ?_⟩
  simpa using e
 ·exact .inr ⟨b, l.length, .gr 1, by rw [e]; simp, hb, .inr (by omega), h3⟩
theorem aNu {rec : FuncId → List DV → Hp → aJ} {n lo : Nat} {x0 : DV} {N : Int} {c : Nat} (hN : N.tmod 10 = Int.ofNat c) (hc : c ≤ 9) : ∀ (r m : Nat) (l : List Int) (x : DV) (h : Hp), GrS x (l.map iD) lo h → lo ≤ h.next.toNat → l.length + r = c → r < m →
  ∃ (x' : DV) (h' : Hp) (l' : List Int), kZ rec n m x0 (iD N) x (.i .i64 (Int.ofNat l.length)) h = dP rec n x0 x' h' ∧ GrS x' (l'.map iD) lo h' ∧ Lo lo h h' ∧ l'.length = c
 | 0, m + 1, l, x, h, S, hlo, he, hm => by
  refine ⟨x, h, l, ?_, S, Lo.refl lo h, by omega⟩
  show kT rec n (kZ rec n m) _ _ _ _ h = _
  unfold kT
  have hl : decide (Int.ofNat l.length < Int.ofNat c) = false := by simp; omega
  simp only [iD, aOb, hN, cJ, aU, hl, bQ]
 | r + 1, m + 1, l, x, h, S, hlo, he, hm => by
  obtain ⟨y, g, e1, x', h', e2, S', L'⟩ := S.app hlo (cYf l) (z := .i .i64 (Int.ofNat 0)) (v := iD (Int.ofNat 2 * Int.ofNat l.length + Int.ofNat 1)) rfl rfl (bytes := 8) (by simp; unfold lM; omega)
  have S2 : GrS x' ((l ++ [Int.ofNat 2 * Int.ofNat l.length + Int.ofNat 1]).map iD) lo h' := by rw [List.map_append]; exact S'
  obtain ⟨x2, h2, l2, e3, S3, L3, hl3⟩ := aNu (rec := rec) (n := n) (x0 := x0) hN hc r m (l ++ [Int.ofNat 2 * Int.ofNat l.length + Int.ofNat 1]) x' h' S2 (Nat.le_trans hlo L'.next) (by simp; omega) (by omega)
  refine ⟨x2, h2, l2, ?_, S3, L'.trans L3, hl3⟩
  rw [← e3]
  show kT rec n (kZ rec n m) _ _ _ _ h = _
  unfold kT
  have hl1 : decide (Int.ofNat l.length < Int.ofNat c) = true := by simp; omega
  have hadd : aD .add (.i .i64 (Int.ofNat l.length)) (.i .i64 (Int.ofNat 1)) h' = some (.i .i64 (Int.ofNat (l ++ [Int.ofNat 2 * Int.ofNat l.length + Int.ofNat 1]).length), h') := by
   rw [iS _ _ _ (by simp; omega)]
   simp
  simp only [iD] at e1 e2 ⊢
  simp only [aOb, hN, cJ, aU, hl1, bN, cRt (Int.ofNat 2) (Int.ofNat l.length) h (by simp; omega), iS (Int.ofNat 2 * Int.ofNat l.length) (Int.ofNat 1) h (by simp; omega), e1, e2, hadd]
section
variable {h : Hp} {M : MemV} {R : List Int} {es : List (DV × DV)}
noncomputable def knW (R : List Int) (i : Int) : Int := if 0 ≤ i ∧ i < 16 then R.getD (2 + i.toNat) 0 else 0
theorem Wd.knownA (W : Wd h M R es) (i : Int) (n : Nat) : dD (n + 1) 30 [.p (aP 7) 0, .i .i64 i] h = some (iD (knW R i), h) := by
 unfold knW
 by_cases hi : 0 ≤ i ∧ i < 16
 ·rw [if_pos hi]
  obtain ⟨j, rfl⟩ : ∃ j : Nat, i = Int.ofNat j := ⟨i.toNat, by simp; omega⟩
  exact W.known (by simp at hi; omega) n
 ·rw [if_neg hi, nX 30 rfl, cCu]
  unfold s30
  by_cases h1 : i < 0
  ·have d1 : decide (i < Int.ofNat 0) = true := decide_eq_true (by simpa using h1)
   simp only [g0, g1, cJ, d1, aU, fZ, cS, bN]
   rfl
  ·have d1 : decide (i < Int.ofNat 0) = false := decide_eq_false (by simpa using h1)
   have d2 : decide (i ≥ Int.ofNat 16) = true := decide_eq_true (by simp; omega)
   simp only [g0, g1, cJ, d1, aU, hD, mI, d2, cN, bN]
   rfl
def MadeP (k : Nat) (h : Hp) (M : MemV) (R : List Int) (es : List (DV × DV)) (r : aJ) : Prop :=
 ∃ v h' M' R' es', r = some (iD v, h') ∧ Wv k h' M' R' es' ∧ Up h h' ∧ Stay 260 M M' R R' es es'
theorem MadeP.same {k : Nat} (V : Wv (260 + k) h M R es) (v : Int) : MadeP k h M R es (some (iD v, h)) :=
 ⟨v, h, M, R, es, rfl, V.less (by omega), Up.refl h, Stay.refl _ _ _ _⟩
theorem cAs {k : Nat} (V : Wv (260 + k) h M R es) (n : Int) {m : Nat} (hm : 300 < m) : ∃ a e h' M', dD (m + 2) 42 [.p (aP 7) 0, .i .i64 n] h = some (.t [iD a, iD e], h') ∧ Wv k h' M' R es ∧ Up h h' ∧ Stay 260 M M' R R es es := by
 have h4 := V.n
 have h5 := V.fin
 have h6 := V.md
 obtain ⟨a, e, h', M', e1, K', U, S, _⟩ := V.K.num (by omega) (by omega) n (k := m) (by omega)
 exact ⟨a, e, h', M', e1, V.stay K' U (S.mono (by omega)), U, S.mono (by omega)⟩
theorem bZs {k : Nat} (V : Wv (260 + k) h M R es) {s : List Nat} (hs : ∀ c ∈ s, c < 256) {m : Nat} (hm : 300 < m) : ∃ a e h' M', dD (m + 3) 43 [.p (aP 7) 0, .s s] h = some (.t [iD a, iD e], h') ∧ Wv k h' M' R es ∧ Up h h' ∧ Stay 260 M M' R R es es := by
 have h4 := V.n
 have h5 := V.fin
 have h6 := V.md
 obtain ⟨a, e, h', M', e1, K', U, S, _⟩ := V.K.string hs (by omega) (by omega) (n := m) hm
 exact ⟨a, e, h', M', e1, V.stay K' U S, U, S⟩
theorem cAr {k : Nat} (V : Wv (260 + k) h M R es) {s : List Nat} (hs : ∀ c ∈ s, c < 256) {m : Nat} (hm : 300 < m) : ∃ a e h' M' R' es', dD (m + 3) 44 [.p (aP 7) 0, .s s] h = some (.t [iD a, iD e], h') ∧ Wv k h' M' R' es' ∧ Up h h' ∧ Stay 260 M M' R R' es es' := by
 have h4 := V.n
 have h5 := V.fin
 have h6 := V.md
 obtain ⟨a, e, h', M', R', es', e1, K', U, S, _⟩ := V.K.symbol hs (by omega) (by omega) (n := m) hm
 exact ⟨a, e, h', M', R', es', e1, V.stay K' U (S.mono (by omega)), U, S.mono (by omega)⟩
theorem bWd {k : Nat} (V : Wv (260 + k) h M R es) {x : DV} {l : List Int} (S : SlI x l h) (hl : l.length ≤ 9) {m : Nat} (hm : 300 < m) : ∃ a e h' M', dD (m + 4) 46 [.p (aP 7) 0, x] h = some (.t [iD a, iD e], h') ∧ Wv k h' M' R es ∧ Up h h' ∧ Stay 260 M M' R R es es := by
 have h4 := V.n
 have h5 := V.fin
 have h6 := V.md
 obtain ⟨a, e, h', M', e1, K', U, A⟩ := V.K.array S (by omega) (by omega) (by omega) (n := m) (by omega)
 have S' : Stay 260 M M' R R es es := by
  rcases A with ⟨_, _, _, rfl⟩ | ⟨_, _, _, g⟩
  ·exact Stay.refl _ _ _ _
  ·exact (g.stay V.K.G R es fun CL I => I.newK (i := 9) (.inl ⟨rfl, rfl⟩) (by omega) (fun q => by cases q)).mono (by omega)
 exact ⟨a, e, h', M', e1, V.stay K' U S', U, S'⟩
theorem cJo {k : Nat} (V : Wv (260 + k) h M R es) : ∃ a e h' M', kL [.p (aP 3) 0, iD 8714, .i .i64 (.ofNat 0), .i .i64 (.ofNat 2)] h = some (.t [iD a, iD e], h') ∧ Wv k h' M' R es ∧ Up h h' ∧ Stay 260 M M' R R es es := by
 have h4 := V.n
 have h5 := V.fin
 have h6 := V.md
 obtain ⟨h', M', e1, K', U, g⟩ := V.K.make0 V.ptAt (f := 0) (c := 2) (by omega) (by omega) (by omega) (by omega)
 have S' : Stay 260 M M' R R es es := (g.stay V.K.G R es V.ptNew).mono (by simp)
 exact ⟨_, _, h', M', e1, V.stay K' U S', U, S'⟩
end
end Go.Dd

namespace Go.Dd
open Go.Proofs
section
variable {h : Hp} {M : MemV} {R : List Int} {es : List (DV × DV)} {k m : Nat} {b : Pos} {kd N : Int} {s0 s : List Nat}
theorem oL {b : Pos} {kd : Kind} {l : List DV} {h : Hp} (hb : h.bl.get b = some (.row kd l)) {i : Nat} {v : DV} (hi : l[i]? = some v) (hv : v.one = true) : aA (.p b i) h = some (v, h) := by
 simp only [aA, cellD, rowOf, hb, hi, hv, if_true]
def Tg (h : Hp) (b : Pos) (kd N : Int) (s : List Nat) : Prop := h.bl.get b = some (.row .ex [iD kd, iD N, .s s])
theorem Tg.l0 (T : Tg h b kd N s) : aA (.p b (0 + 0)) h = some (iD kd, h) := oL (i := 0 + 0) T rfl rfl
theorem Tg.l1 (T : Tg h b kd N s) : aA (.p b (0 + 1)) h = some (iD N, h) := oL (i := 0 + 1) T rfl rfl
theorem Tg.l2 (T : Tg h b kd N s) : aA (.p b (0 + 2)) h = some (.s s, h) := oL (i := 0 + 2) T rfl rfl
theorem dRe (a b : List Nat) (h : Hp) (hl : a.length + b.length < 100000) : eM .add (.s a) (.s b) h = some (.s (a ++ b), h) := by
 have : ¬ ((a.length + b.length : Nat) : Int) > IntKind.i64.max := by
  show ¬ ((a.length + b.length : Nat) : Int) > 9223372036854775807
  omega
 simp only [eM, aSg, if_neg this]
theorem cRl (V : Wv (260 + k) h M R es) (hs : ∀ c ∈ s, c < 256) (hl : s.length ≤ 250) (hm : 300 < m) : MadeP k h M R es (aLc (dD (m + 5)) (m + 5) (.p (aP 7) 0) (.s s) h) := by
 have fin : ∀ t : List Nat, (∀ c ∈ t, c < 256) → t.length ≤ 250 → MadeP k h M R es (qW (dD (m + 5)) (m + 5) (.p (aP 7) 0) (.s t) h) := fun t ht hlt => by
  obtain ⟨a, e, h', M', R', es', e1, V', U, S⟩ := cAr V (s := [115] ++ t.take (t.length / 2)) (fun c hc => by
   simp only [List.mem_append, List.mem_singleton] at hc
   rcases hc with rfl | hc
   ·decide
   ·exact ht c (List.mem_of_mem_take hc)) (m := m + 2) (by omega)
  refine ⟨a, h', M', R', es', ?_, V', U, S⟩
  unfold qW
  simp only [cRr, aU, cMl t.length (by omega) h, bLu t (t.length / 2) (by omega) h, dRe [115] (t.take (t.length / 2)) h (by rw [List.length_take]; simp; omega), e1, sA, rN]
 unfold aLc
 by_cases c1 : (s.length : Int) > Int.ofNat 60
 ·simp only [cRr, aU, fV, decide_eq_true c1, bN, bLu s 60 (by simp at c1; omega) h]
  exact fin _ (fun c hc => hs c (List.mem_of_mem_take hc)) (by rw [List.length_take]; omega)
 ·simp only [cRr, aU, fV, decide_eq_false c1, bQ]
  exact fin _ hs hl
theorem cKf (V : Wv (260 + k) h M R es) (T : Tg h b kd N s) (hN : -9223372036854775808 ≤ N ∧ N ≤ 9223372036854775807) (hm : 300 < m) : MadeP k h M R es (aIz (dD (m + 5)) (m + 5) (.p (aP 7) 0) (.p b 0) h) := by
 have fin : ∀ n : Int, 0 ≤ n → MadeP k h M R es (qN (dD (m + 5)) (m + 5) (.p (aP 7) 0) (iD n) h) := fun n hn => by
  obtain ⟨j, rfl⟩ : ∃ j : Nat, n = Int.ofNat j := ⟨n.toNat, by simp; omega⟩
  have nx := V.K.W.nx
  obtain ⟨x', h1, l', e1, S1, L1, hl1⟩ := aNu (rec := dD (m + 5)) (n := m + 5) (lo := h.next.toNat) (x0 := .p (aP 7) 0) (N := Int.ofNat j) (c := j % 10) rfl (by omega) (j % 10) (m + 5) [] .l0 h (.inl ⟨rfl, rfl⟩) (Nat.le_refl _) (by simp) (by omega)
  have V1 := V.up (V.K.W.lo L1) L1.up
  obtain ⟨a, e, h', M', e2, V', U, S⟩ := bWd V1 (dAy nx S1) (by omega) (m := m + 1) (by omega)
  refine ⟨a, h', M', R, es, ?_, V', L1.up.trans U, S⟩
  unfold qN aBo aFq aUq
  refine Eq.trans e1 ?_
  unfold dP
  simp only [e2, aU, sA, rN]
 unfold aIz aBz
 simp only [rY, T.l1, aU]
 by_cases c1 : N < Int.ofNat 0
 ·have c2 : N < 0 := c1
  have en : ∀ h, gI .neg (.i .i64 (N + Int.ofNat 1)) h = some (.i .i64 (-(N + Int.ofNat 1)), h) := fun h => by
   have : IntKind.i64.wrap (0 - (N + Int.ofNat 1)) = 0 - (N + Int.ofNat 1) := gQ _ (by simp; omega)
   simp only [gI, this]
   rw [Int.zero_sub]
  simp only [iD, cJ, decide_eq_true c1, aU, bN, iS N (Int.ofNat 1) h (by simp; omega), en]
  exact fin _ (by simp; omega)
 ·have c2 : ¬ N < 0 := c1
  simp only [iD, cJ, decide_eq_false c1, aU, bQ]
  exact fin _ (by omega)
theorem cTt (V : Wv (260 + k) h M R es) (T : Tg h b kd N s0) (hN : -9223372036854775808 ≤ N ∧ N ≤ 9223372036854775807) (hs : ∀ c ∈ s, c < 256) (hl : s.length ≤ 250) (hm : 300 < m) :
  MadeP k h M R es (aAp (dD (m + 5)) (m + 5) (.p (aP 7) 0) (.p b 0) (.s s) h) := by
 unfold aAp aZv
 simp only [rY, T.l0, aU]
 by_cases c0 : kd = 0
 ·subst c0
  obtain ⟨a, e, h', M', e1, V', U, S⟩ := cAs V N (m := m + 3) (by omega)
  refine ⟨a, h', M', R, es, ?_, V', U, S⟩
  unfold aNj
  simp only [iD, cK, beq_self_eq_true, aU, bN, show ((0 : Int) == Int.ofNat 0) = true from rfl, rY]
  rw [T.l1]
  simp only [aU]
  rw [e1]
  simp only [aU, sA, rN, iD]
 have d0 : (kd == Int.ofNat 0) = false := nY c0
 unfold aNj bWh
 by_cases c1 : kd = 1
 ·subst c1
  obtain ⟨a, e, h', M', e1, V', U, S⟩ := bZs V hs (m := m + 2) (by omega)
  refine ⟨a, h', M', R, es, ?_, V', U, S⟩
  unfold aNv
  simp only [iD, cK, aU, bQ, bN, d0, show ((1 : Int) == Int.ofNat 1) = true from rfl]
  rw [e1]
  simp only [aU, sA, rN, iD]
 have d1 : (kd == Int.ofNat 1) = false := nY c1
 unfold aNv bUk
 by_cases c2 : kd = 2
 ·subst c2
  have := cRl V hs hl hm
  unfold zC
  simp only [iD, cK, aU, bQ, bN, d0, d1, show ((2 : Int) == Int.ofNat 2) = true from rfl]
  exact this
 have d2 : (kd == Int.ofNat 2) = false := nY c2
 unfold zC aOh
 by_cases c3 : kd = 3
 ·subst c3
  have := cKf V T hN hm
  unfold vG
  simp only [iD, cK, aU, bQ, bN, d0, d1, d2, show ((3 : Int) == Int.ofNat 3) = true from rfl]
  exact this
 have d3 : (kd == Int.ofNat 3) = false := nY c3
 unfold vG
 by_cases c4 : kd = 4
 ·subst c4
  obtain ⟨a, e, h', M', e1, V', U, S⟩ := cJo V
  refine ⟨a, h', M', R, es, ?_, V', U, S⟩
  have em := V.K.W.memory (m + 4)
  have ep := V.point (m + 4)
  simp only [iD, cK, aU, bQ, bN, d0, d1, d2, d3, show ((4 : Int) == Int.ofNat 4) = true from rfl, em]
  rw [ep]
  simp only [aU]
  rw [e1]
  simp only [aU, sA, rN, iD]
 have d4 : (kd == Int.ofNat 4) = false := nY c4
 by_cases c5 : kd = 5
 ·subst c5
  have ep := V.point (m + 4)
  by_cases c16 : N = 16
  ·subst c16
   have : MadeP k h M R es (some (iD 8714, h)) := .same V _
   simp only [iD, cK, aU, bQ, bN, d0, d1, d2, d3, d4, show ((5 : Int) == Int.ofNat 5) = true from rfl, rY]
   rw [T.l1]
   simp only [iD, cK, aU, bQ, bN, show ((16 : Int) == Int.ofNat 16) = true from rfl]
   rw [ep]
   exact this
  ·have : MadeP k h M R es (some (iD (knW R N), h)) := .same V _
   have ek := V.K.W.knownA N (m + 4)
   simp only [iD, cK, aU, bQ, bN, d0, d1, d2, d3, d4, show ((5 : Int) == Int.ofNat 5) = true from rfl, rY]
   have t1 : aA (.p b (0 + 1)) h = some (.i .i64 N, h) := T.l1
   simp only [t1, iD, cK, aU, bQ, bN, show (N == Int.ofNat 16) = false from nY c16]
   rw [ek]
   exact this
 have d5 : (kd == Int.ofNat 5) = false := nY c5
 have t1 : aA (.p b (0 + 1)) h = some (.i .i64 N, h) := T.l1
 by_cases c6 : kd = 6
 ·subst c6
  simp only [iD, cK, aU, bQ, bN, d0, d1, d2, d3, d4, d5, show ((6 : Int) == Int.ofNat 6) = true from rfl]
  exact .same V _
 have d6 : (kd == Int.ofNat 6) = false := nY c6
 by_cases c7 : kd = 7
 ·subst c7
  simp only [iD, cK, aU, bQ, bN, d0, d1, d2, d3, d4, d5, d6, show ((7 : Int) == Int.ofNat 7) = true from rfl]
  exact .same V _
 have d7 : (kd == Int.ofNat 7) = false := nY c7
 by_cases c8 : kd = 8
 ·subst c8
  simp only [iD, cK, aU, bQ, bN, d0, d1, d2, d3, d4, d5, d6, d7, show ((8 : Int) == Int.ofNat 8) = true from rfl]
  exact .same V _
 have d8 : (kd == Int.ofNat 8) = false := nY c8
 unfold aW
 simp only [iD, cK, aU, bQ, bN, d0, d1, d2, d3, d4, d5, d6, d7, d8, rY, t1]
 exact .same V _
theorem cJw (V : Wv (260 + k) h M R es) (kd : Int) (hN : -9223372036854775808 ≤ N ∧ N ≤ 9223372036854775807) (hs : ∀ c ∈ s, c < 256) (hm : 300 < m) :
  MadeP k h M R es (dD (m + 6) 14 [.p (aP 7) 0, .a [iD kd, iD N, .s s]] h) := by
 obtain ⟨U1, V1⟩ := V.new (.row .ex [iD kd, iD N, .s s])
 obtain ⟨h1, hh1⟩ : ∃ h1 : Hp, (⟨h.next.succ, Tr.set (.row .ex [iD kd, iD N, .s s]) h.next h.bl⟩ : Hp) = h1 := ⟨_, rfl⟩
 rw [hh1] at U1 V1
 have eb : bS (.a [iD kd, iD N, .s s]) h = some (.p h.next 0, h1) := by rw [← hh1]; rfl
 have T : Tg h1 h.next kd N s := by rw [← hh1]; exact dSf _ _ _
 have up : ∀ r, MadeP k h1 M R es r → MadeP k h M R es r := fun r ⟨v, h', M', R', es', e, V', U, S⟩ => ⟨v, h', M', R', es', e, V', U1.trans U, S⟩
 rw [nX 14 rfl, cTd]
 unfold s14 aAq aXp
 simp only [g0, g1, eb, aU, rY, T.l2, cRr, fV]
 apply up
 by_cases c1 : (s.length : Int) > Int.ofNat 250
 ·simp only [decide_eq_true c1, bN, bLu s 250 (by simp at c1; omega) h1, aU]
  exact cTt V1 T hN (fun c hc => hs c (List.mem_of_mem_take hc)) (by rw [List.length_take]; omega) hm
 ·simp only [decide_eq_false c1, bQ]
  exact cTt V1 T hN hs (by simp at c1; omega) hm
end
end Go.Dd

namespace Go.Dd
open Go.Proofs
def sB (n : Int) : Int :=
 if n = 11 ∨ n = 22 ∨ n = 23 ∨ n = 40 ∨ n = 41 then 0
 else if n = 1 ∨ n = 2 ∨ n = 3 ∨ n = 4 ∨ n = 5 ∨ n = 6 ∨ n = 7 ∨ n = 10 ∨ n = 20 ∨ n = 24 ∨ n = 25 ∨ n = 26 ∨ n = 50 then 1
 else if n = 21 ∨ n = 51 then 2 else -1
theorem cKe (n : Int) (m : Nat) (h : Hp) : dD (m + 1) 39 [iD n] h = some (iD (sB n), h) := by
 rw [nX 39 rfl, cTf]
 by_cases q : n = 11 ∨ n = 22 ∨ n = 23 ∨ n = 40 ∨ n = 41 ∨ n = 1 ∨ n = 2 ∨ n = 3 ∨ n = 4 ∨ n = 5 ∨ n = 6 ∨ n = 7 ∨ n = 10 ∨ n = 20 ∨ n = 24 ∨ n = 25 ∨ n = 26 ∨ n = 50 ∨ n = 21 ∨ n = 51
 ·rcases q with q | q | q | q | q | q | q | q | q | q | q | q | q | q | q | q | q | q | q | q <;> subst q <;> rfl
 ·have e : sB n = -1 := by
   unfold sB
   rw [if_neg (by omega), if_neg (by omega), if_neg (by omega)]
  rw [e]
  unfold s39 aYh bBn rW bTx iT cBt aNc cP
  simp only [g0, iD, cK, aU, nY (show n ≠ Int.ofNat 11 by simp; omega), nY (show n ≠ Int.ofNat 22 by simp; omega), nY (show n ≠ Int.ofNat 23 by simp; omega), nY (show n ≠ Int.ofNat 40 by simp; omega), nY (show n ≠ Int.ofNat 41 by simp; omega),
   nY (show n ≠ Int.ofNat 1 by simp; omega), nY (show n ≠ Int.ofNat 2 by simp; omega), nY (show n ≠ Int.ofNat 3 by simp; omega), nY (show n ≠ Int.ofNat 4 by simp; omega), nY (show n ≠ Int.ofNat 5 by simp; omega), nY (show n ≠ Int.ofNat 6 by simp; omega), nY (show n ≠ Int.ofNat 7 by simp; omega),
   nY (show n ≠ Int.ofNat 10 by simp; omega), nY (show n ≠ Int.ofNat 20 by simp; omega), nY (show n ≠ Int.ofNat 24 by simp; omega), nY (show n ≠ Int.ofNat 25 by simp; omega), nY (show n ≠ Int.ofNat 26 by simp; omega), nY (show n ≠ Int.ofNat 50 by simp; omega), nY (show n ≠ Int.ofNat 21 by simp; omega), nY (show n ≠ Int.ofNat 51 by simp; omega), bQ]
  rfl
section
variable {h : Hp} {M : MemV} {R : List Int} {es : List (DV × DV)}
theorem cHu {x f : DV} {l : List Int} (S : SlI x l h) {p : Int → Bool} {n : Nat} (hc : ∀ v, cU CF (dD n) f [iD v] h = some (.b (p v), h)) (hl : l.length ≤ 256) : ∀ (k i m : Nat), k + i = l.length → k < m →
  ∃ r : Int, iQ (dD n) n m x f (iD l.length) (.i .i64 (Int.ofNat i)) h = some (iD r, h) ∧ (decide (r ≥ Int.ofNat 0) = (l.drop i).any p) := by
 intro k
 induction k with
 | zero =>
  intro i m he hm
  obtain ⟨m, rfl⟩ : ∃ m', m = m' + 1 := ⟨m - 1, by omega⟩
  refine ⟨-1, ?_, ?_⟩
  ·show gU (dD n) n (iQ (dD n) n m) _ _ _ _ h = _
   unfold gU
   have d : decide (Int.ofNat i < (l.length : Int)) = false := decide_eq_false (by simp; omega)
   simp only [cJ, d, aU, bQ]
   rfl
  ·rw [List.drop_eq_nil_of_le (by omega)]
   rfl
 | succ k ih =>
  intro i m he hm
  obtain ⟨m, rfl⟩ : ∃ m', m = m' + 1 := ⟨m - 1, by omega⟩
  have hi : i < l.length := by omega
  have hv : l[i]? = some l[i] := List.getElem?_eq_getElem hi
  obtain ⟨a, e1, e2⟩ := S.at hv
  obtain ⟨r, q1, q2⟩ := ih (i + 1) m (by omega) (by omega)
  have d : decide (Int.ofNat i < (l.length : Int)) = true := decide_eq_true (by simp; omega)
  have hc := hc l[i]
  have ha : aD .add (.i .i64 (Int.ofNat i)) (.i .i64 (Int.ofNat 1)) h = some (.i .i64 (Int.ofNat (i + 1)), h) := iF i 1 h (by omega)
  rw [aMb hv]
  cases hmay : p l[i] with
  | true =>
   refine ⟨Int.ofNat i, ?_, by simp⟩
   show gU (dD n) n (iQ (dD n) n m) _ _ _ _ h = _
   unfold gU
   rw [hmay] at hc
   simp only [cJ, d, aU, bN, e1, e2, hc]
  | false =>
   refine ⟨r, ?_, by rw [q2]; rfl⟩
   show gU (dD n) n (iQ (dD n) n m) _ _ _ _ h = _
   unfold gU
   rw [hmay] at hc
   simp only [cJ, d, aU, bN, e1, e2, hc, bQ, ha]
   exact q1
theorem dNn {x f : DV} {l : List Int} (S : SlI x l h) {p : Int → Bool} {n : Nat} (hc : ∀ v, cU CF (dD n) f [iD v] h = some (.b (p v), h)) (hl : l.length ≤ 256) (hn : 256 < n) : dD (n + 2) 52 [x, f] h = some (.b (l.any p), h) := by
 rw [nX 52 rfl, bWu]
 unfold s52
 obtain ⟨r, q1, q2⟩ := cHu S (p := p) (n := n) hc hl l.length 0 n (by omega) (by omega)
 have e : dD (n + 1) 89 [x, f] h = some (iD r, h) := by
  rw [nX 89 rfl, bJl]
  unfold s89 aMd aMs bCe
  simp only [g0, g1, S.len (h' := h), aU]
  exact q1
 simp only [g0, g1, e, aU, mI, q2, List.drop_zero]
def tG (M : MemV) (n r : Int) (l : List Int) : Prop := sB n ≠ (l.length : Int) ∨ eJ r M.pl = false ∨ ∃ v ∈ l, eJ v M.pl = false
theorem cLg {k : Nat} {z : Prop} (V : Wv k h M R es z) {x : DV} {l : List Int} (S : SlI x l h) (hl : l.length ≤ 256) (n r : Int) {m : Nat} (hm : 300 < m) :
  ∃ h1, Wv k h1 M R es z ∧ Up h h1 ∧ ((tG M n r l ∧ dD (m + 4) 16 [.p (aP 7) 0, iD n, iD r, x] h = some (.t [iD 0, iD 20], h1)) ∨
   (¬ tG M n r l ∧ dD (m + 4) 16 [.p (aP 7) 0, iD n, iD r, x] h = wA (dD (m + 3)) (m + 3) (.p (aP 7) 0) (iD n) (iD r) x h1)) := by
 obtain ⟨h1, hh1⟩ : ∃ h1 : Hp, (⟨h.next.succ, Tr.set (.row .ex [.p (aP 3) 0]) h.next (Tr.set (.row .ex [.p0]) h.next h.bl)⟩ : Hp) = h1 := ⟨_, rfl⟩
 have ns := dSh h.next
 have nx := V.K.W.nx
 have oth : ∀ b : Pos, b ≠ h.next → h1.bl.get b = h.bl.get b := fun b hb => by
  rw [← hh1]
  show (Tr.set _ _ (Tr.set _ _ _)).get b = _
  rw [dSe _ _ _ _ hb, dSe _ _ _ _ hb]
 have U1 : Up h h1 := ⟨by rw [← hh1]; show _ ≤ h.next.succ.toNat; omega, fun b _ hb => oth b fun e => by subst e; omega⟩
 have V1 : Wv k h1 M R es z := V.up (V.K.W.up U1 fun b hb => oth b fun e => by subst e; omega) U1
 have hg : h1.bl.get h.next = some (.row .ex [.p (aP 3) 0]) := by rw [← hh1]; exact dSf _ _ _
 have e1 : bL [.p0] h = some (.p h.next 0, ⟨h.next.succ, Tr.set (.row .ex [.p0]) h.next h.bl⟩) := rfl
 have e2 : aG 1 (.p h.next 0) (.p (aP 3) 0) ⟨h.next.succ, Tr.set (.row .ex [.p0]) h.next h.bl⟩ = some (aV, h1) := by
  rw [← hh1]
  simp only [aG, dI, dG, dSf]
  rfl
 have ld : aA (.p h.next 0) h1 = some (.p (aP 3) 0, h1) := oL hg rfl rfl
 have S1 := S.up U1
 have em := V.K.W.memory (m + 2)
 have ea := cKe n (m + 2) h1
 have el : bX x h1 = some (iD (l.length : Int), h1) := S1.len
 have ef : dD (m + 3) 54 [] h1 = some (.t [iD 0, iD 20], h1) := by rw [nX 54 rfl, bOm]; rfl
 have hc : ∀ v, cU CF (dD (m + 1)) (.f 53 [] [.p h.next 0]) [iD v] h1 = some (.b (!(eJ v M.pl)), h1) := fun v => by
  rw [pcf rfl]
  simp only [List.nil_append, List.singleton_append]
  rw [nX 53 rfl, cSw]
  unfold s53
  simp only [g0, g1, ld, aU, V1.K.W.may, fY]
 have ec := dNn S1 (p := fun v => !(eJ v M.pl)) (n := m + 1) hc hl (by omega)
 refine ⟨h1, V1, U1, ?_⟩
 rw [nX 16 rfl, cSv]
 unfold s16 aMj aAz
 simp only [g0, g1, g2, g3, em, aU, e1, e2]
 by_cases c1 : sB n = (l.length : Int)
 ·have d1 : (sB n != (l.length : Int)) = false := by simpa using c1
  cases hr : eJ r M.pl with
  | false =>
   refine .inl ⟨.inr (.inl hr), ?_⟩
   simp only [iD] at ea el ef ⊢
   simp only [ea, el, aU, hZ, d1, hD, ld, V1.K.W.may, hr, fY, Bool.not_false, cN, fZ, cS, bN, ef, sA, rN]
  | true =>
   cases hq : l.any (fun v => !(eJ v M.pl)) with
   | true =>
    rw [hq] at ec
    obtain ⟨v, hv, hv2⟩ := List.any_eq_true.1 hq
    refine .inl ⟨.inr (.inr ⟨v, hv, by simpa using hv2⟩), ?_⟩
    simp only [iD] at ea el ef ⊢
    simp only [ea, el, aU, hZ, d1, hD, ld, V1.K.W.may, hr, fY, Bool.not_true, cN, ec, bN, ef, sA, rN]
   | false =>
    rw [hq] at ec
    refine .inr ⟨fun q => ?_, ?_⟩
    ·rcases q with q | q | ⟨v, hv, hv2⟩
     ·exact q c1
     ·rw [hr] at q; cases q
     ·have : l.any (fun v => !(eJ v M.pl)) = true := List.any_eq_true.2 ⟨v, hv, by rw [hv2]; rfl⟩
      rw [this] at hq
      cases hq
    ·simp only [iD] at ea el ef ⊢
     simp only [ea, el, aU, hZ, d1, hD, ld, V1.K.W.may, hr, fY, Bool.not_true, cN, ec, bQ]
 ·have d1 : (sB n != (l.length : Int)) = true := by simpa using c1
  refine .inl ⟨.inl c1, ?_⟩
  simp only [iD] at ea el ef ⊢
  simp only [ea, el, aU, hZ, d1, fZ, bFj, cS, bN, ef, sA, rN]
end
end Go.Dd

namespace Go.Dd
open Go.Proofs
theorem aAh (T T' : Tr Ob) : ∀ (l : List (Pos × Ob)) (b : Pos), (∃ e ∈ l, e.1 = b) → (eV l T).get b = (eV l T').get b
 | [], b, h => by obtain ⟨e, he, _⟩ := h; cases he
 | x :: l, b, h => by
  show (Tr.set x.2 x.1 (eV l T)).get b = (Tr.set x.2 x.1 (eV l T')).get b
  by_cases e : b = x.1
  ·subst e
   rw [dSf, dSf]
  ·rw [dSe _ _ _ _ e, dSe _ _ _ _ e]
   obtain ⟨y, hy, hb⟩ := h
   simp only [List.mem_cons] at hy
   rcases hy with rfl | hy
   ·exact absurd hb.symm e
   ·exact aAh T T' l b ⟨y, hy, hb⟩
theorem aMk (T : Tr Ob) : ∀ (l : List (Pos × Ob)) (b : Pos), (∀ e ∈ l, e.1 ≠ b) → (eV l T).get b = T.get b
 | [], b, h => rfl
 | x :: l, b, h => by
  show (Tr.set x.2 x.1 (eV l T)).get b = _
  rw [dSe _ _ _ _ (fun e => h x (by simp) e.symm)]
  exact aMk T l b fun e he => h e (by simp [he])
noncomputable def hWo (h : Hp) : Hp := ⟨aP nxW, eV HLW h.bl⟩
theorem dGc : hW.bl = eV HLW .e := by kernel_rfl
theorem aMu : HLW.map (·.1) = [aP 7, aP 6, aP 5, aP 4, aP 3, aP 2, aP 1] := rfl
theorem oI (h : Hp) (i : Nat) (hi : i = 1 ∨ i = 2 ∨ i = 3 ∨ i = 4 ∨ i = 5 ∨ i = 6 ∨ i = 7) : (hWo h).bl.get (aP i) = hW.bl.get (aP i) := by
 rw [dGc]
 show (eV HLW h.bl).get (aP i) = _
 refine aAh h.bl .e HLW (aP i) ?_
 have : aP i ∈ HLW.map (·.1) := by
  rw [aMu]
  rcases hi with rfl | rfl | rfl | rfl | rfl | rfl | rfl <;> simp
 obtain ⟨e, he, h2⟩ := List.mem_map.1 this
 exact ⟨e, he, h2⟩
theorem cYd (h : Hp) (b : Pos) (hb : b.toNat < 1024) : (hWo h).bl.get b = h.bl.get b := by
 show (eV HLW h.bl).get b = _
 refine aMk h.bl HLW b fun e he q => ?_
 have : e.1 ∈ HLW.map (·.1) := List.mem_map.2 ⟨e, he, rfl⟩
 rw [aMu, q] at this
 simp only [List.mem_cons, List.not_mem_nil, or_false] at this
 rcases this with e | e | e | e | e | e | e <;> subst e
 ·rw [pn7] at hb; omega
 ·rw [pn6] at hb; omega
 ·rw [pn5] at hb; omega
 ·rw [pn4] at hb; omega
 ·rw [pn3] at hb; omega
 ·rw [pn2] at hb; omega
 ·rw [pn1] at hb; omega
theorem WNo (h : Hp) : Wd (hWo h) MN RN esN := by
 have W := WN
 obtain ⟨m1, m2, m3, m4, m5, m6⟩ := kF W.mem
 refine ⟨by rw [oI h 7 (by simp)]; exact W.w, by rw [oI h 4 (by simp)]; exact W.r, W.rl, by rw [oI h 5 (by simp)]; exact W.sy, ?_, W.nx, W.wb, W.pb⟩
 refine mX (by rw [oI h 3 (by simp)]; exact m1) ?_ ?_ m4 m5 m6
 ·rw [W.wb] at m2 ⊢
  rw [oI h 1 (by simp)]; exact m2
 ·rw [W.pb] at m3 ⊢
  rw [oI h 2 (by simp)]; exact m3
theorem WvN (h : Hp) : Wv 20000 (hWo h) MN RN esN where
 K := ⟨WNo h, GN, KN.sy, KN.r0, KN.rk⟩
 I := GIN
 c := by
  unfold Wc
  rw [oI h 6 (by simp)]
  kernel_rfl
 n := rfl
 fin := by show 4371 + 20000 ≤ 30000; omega
 md := by show 592 + 20000 ≤ 700000; omega
theorem bWc (h : Hp) (hn : lI h.next (aP 1) = true) : lO 12 [] h = some (.p (aP 7) 0, hWo h) := by
 have e1 : Nat.beq 12 13 = false := rfl
 have e2 : Nat.beq 12 12 = true := rfl
 have e3 : aYa [] = true := rfl
 unfold lO wT aOe vI hWo
 rw [e1, cond_false, e2, cond_true, e3, hn, Bool.and_self, cond_true]
theorem bSm (h : Hp) : lO 13 [] h = some (.b true, h) := rfl
theorem jO {g : FuncId} (h1 : Nat.beq g 13 = false) (h2 : Nat.beq g 12 = false) (args : List DV) (h : Hp) : lO g args h = dD 900 g args h := by
 unfold lO
 rw [h1, cond_false, aVu, h2, cond_false]
end Go.Dd

namespace Go.Dd
open Go.Proofs
section
variable {h : Hp} {M : MemV} {R : List Int} {es : List (DV × DV)} {k : Nat} {b : Pos} {n r : Int} {x : DV} {l : List Int}
def Dr (h : Hp) (b : Pos) (n r : Int) (x : DV) : Prop := h.bl.get b = some (.row .ex [.p (aP 7) 0, iD n, iD r, x]) ∧ 1029 ≤ b.toNat ∧ b.toNat < h.next.toNat
theorem Dr.up {h' : Hp} (D : Dr h b n r x) (U : Up h h') : Dr h' b n r x := ⟨by rw [U.get b (.inr D.2.1) D.2.2]; exact D.1, D.2.1, Nat.lt_of_lt_of_le D.2.2 U.next⟩
theorem Dr.l0 (D : Dr h b n r x) : aA (.p b (0 + 0)) h = some (.p (aP 7) 0, h) := oL (i := 0 + 0) D.1 rfl rfl
theorem Dr.l1 (D : Dr h b n r x) : aA (.p b (0 + 1)) h = some (iD n, h) := oL (i := 0 + 1) D.1 rfl rfl
theorem Dr.l2 (D : Dr h b n r x) : aA (.p b (0 + 2)) h = some (iD r, h) := oL (i := 0 + 2) D.1 rfl rfl
theorem cJd {z : Prop} (V : Wv k h M R es z) (S : SlI x l h) (n r : Int) (m : Nat) :
  ∃ b h1, Wv k h1 M R es z ∧ Up h h1 ∧ Dr h1 b n r x ∧ SlI x l h1 ∧ wA (dD m) m (.p (aP 7) 0) (iD n) (iD r) x h = nC (dD m) m (iD n) (.p b 0) h1 := by
 obtain ⟨U1, V1⟩ := V.new (.row .ex [.p (aP 7) 0, iD n, iD r, x])
 refine ⟨h.next, _, V1, U1, ⟨dSf _ _ _, by have := V.K.W.nx; omega, by show h.next.toNat < h.next.succ.toNat; rw [dSh]; omega⟩, S.up U1, ?_⟩
 have hx : dI x = some [x] := by
  rcases S with ⟨rfl, _⟩ | ⟨_, _, _, rfl, _⟩ <;> rfl
 have e1 : bB [.p0, .i .i64 (Int.ofNat 0), .i .i64 (Int.ofNat 0), .l0] [(0, 1, .p (aP 7) 0), (1, 1, iD n), (2, 1, iD r), (3, 1, x)] h = some (.a [.p (aP 7) 0, iD n, iD r, x], h) := by
  rcases S with ⟨rfl, _⟩ | ⟨_, _, _, rfl, _⟩ <;> simp [bB, jS, dI, iD]
 unfold wA
 rw [e1, aU]
 rfl
end
end Go.Dd

namespace Go.Dd
open Go.Proofs
section
variable {h : Hp} {M : MemV} {R : List Int} {es : List (DV × DV)} {k : Nat} {b : Pos} {n r : Int} {x : DV} {l : List Int}
end
end Go.Dd

namespace Go.Dd
open Go.Proofs
def pK (k : Nat) : Pos := dKm 24 k
def hK (k : Nat) : Hp := ⟨pK k, .e⟩
theorem dCi : (pK 1023).toNat = 1023 := by kernel_rfl
abbrev th (kd N : Int) (s : List Nat) : DV := .a [iD kd, iD N, .s s]
def i64 (N : Int) : Prop := -9223372036854775808 ≤ N ∧ N ≤ 9223372036854775807
def byS (s : List Nat) : Prop := ∀ c ∈ s, c < 256
theorem dLv (kd N : Int) (s : List Nat) (h : Hp) : bS (th kd N s) h = some (.p h.next 0, ⟨h.next.succ, Tr.set (.row .ex [iD kd, iD N, .s s]) h.next h.bl⟩) := rfl
section
variable {h h' : Hp} {M : MemV} {R : List Int} {es : List (DV × DV)} {k : Nat} {z : Prop} {b : Pos} {kd N : Int} {s : List Nat}
theorem Tg.ld (T : Tg h b kd N s) : aK 3 (.p b 0) h = some (th kd N s, h) := by
 have e : h.bl.get b = some (.row .ex [iD kd, iD N, .s s]) := T
 simp [aK, cellsAt, rowOf, e, lN, DV.one]
theorem dTs (T : Tg h b kd N s) (hb : b.toNat < 1024) : Tg (hWo h) b kd N s := by
 unfold Tg
 rw [cYd h b hb]
 exact T
theorem pE0 (t : TypeId) (h : Hp) : pEq (.pointer t) true (.p (aP 7) 0) .p0 h = some (.b false, h) := Eq.trans rfl rfl
end
theorem cRd (args : List DV) (h : Hp) : lO 14 args h = dD (894 + 6) 14 args h := jO rfl rfl args h
theorem cJy (args : List DV) (h : Hp) : lO 16 args h = dD (896 + 4) 16 args h := jO rfl rfl args h
theorem cJv (args : List DV) (h : Hp) : lO 25 args h = dD (898 + 2) 25 args h := jO rfl rfl args h
theorem cNi (args : List DV) (h : Hp) : lO 30 args h = dD (899 + 1) 30 args h := jO rfl rfl args h
theorem cQw (args : List DV) (h : Hp) : lO 32 args h = dD (897 + 3) 32 args h := jO rfl rfl args h
theorem cQd (args : List DV) (h : Hp) : lO 33 args h = dD (898 + 2) 33 args h := jO rfl rfl args h
theorem cLd (args : List DV) (h : Hp) : lO 34 args h = dD (897 + 3) 34 args h := jO rfl rfl args h
theorem cLc (args : List DV) (h : Hp) : lO 35 args h = dD (897 + 3) 35 args h := jO rfl rfl args h
end Go.Dd

namespace Go.Dd
open Go.Proofs
section
variable {h h' : Hp} {M M' : MemV} {R R' : List Int} {es es' : List (DV × DV)} {k : Nat} {z : Prop} {CL : List Nat}
theorem Stay.head (S : Stay k M M' R R' es es') (I : GI M R CL z) (G : Good M) {o : Int} (ho : bU o M.pl ≠ 0) : eY M' o = eY M o := by
 obtain ⟨h1, _, h4, h3⟩ := I.headOb G ho
 unfold eY
 rw [S.at' o ho, S.old _ (by omega)]
theorem Stay.clo (S : Stay k M M' R R' es es') (I : GI M R CL z) (G : Good M) {o : Int} (ho : bU o M.pl ≠ 0) : xI M' o = xI M o := by
 obtain ⟨h1, _, h4, h3⟩ := I.headOb G ho
 unfold xI
 rw [S.at' o ho, S.old _ (by omega)]
theorem Stay.get (S : Stay k M M' R R' es es') (I : GI M R CL z) (G : Good M) {o : Int} (ho : bU o M.pl ≠ 0) (i : Nat) : oM M' o i = oM M o i := by
 obtain ⟨h1, _, h4, h3⟩ := I.headOb G ho
 unfold oM
 rw [S.head I G ho, S.at' o ho]
 by_cases c : bU o M.pl ≠ 0 ∧ i < eY M o / 4
 ·rw [if_pos c, if_pos c, S.old _ (by omega)]
 ·rw [if_neg c, if_neg c]
theorem Stay.isC (S : Stay k M M' R R' es es') (I : GI M R CL z) (G : Good M) {o : Int} (ho : bU o M.pl ≠ 0) : isC M' R' o = isC M R o := by
 unfold Go.Dd.isC
 rw [S.at' o ho, S.clo I G ho, S.r 2]
theorem Stay.super (S : Stay k M M' R R' es es') (I : GI M R CL z) (G : Good M) {o : Int} (ho : bU o M.pl ≠ 0) : kU M' R' o = kU M R o := by
 unfold kU
 rw [S.isC I G ho, S.get I G ho]
theorem Wv.sym (V : Wv (80 + k) h M R es) {s : List Nat} (hs : ∀ c ∈ s, c < 256) {m : Nat} (hm : 300 < m) : ∃ a e h' M' R' es', dD (m + 3) 44 [.p (aP 7) 0, .s s] h = some (.t [iD a, iD e], h') ∧ Wv k h' M' R' es' ∧ Up h h' ∧ Stay 80 M M' R R' es es' ∧
  ((¬ (1 ≤ s.length ∧ s.length ≤ 60) ∧ e = 1 ∧ a = 0) ∨ ((1 ≤ s.length ∧ s.length ≤ 60) ∧ e = 0 ∧ dH .string (.s s) es' = some (some (iD a)) ∧ TxO M' (R.getD 13 0) a s)) := by
 have h4 := V.n
 have h5 := V.fin
 have h6 := V.md
 obtain ⟨a, e, h', M', R', es', e1, K', U, S, A⟩ := V.K.symbol hs (by omega) (by omega) (n := m) hm
 exact ⟨a, e, h', M', R', es', e1, V.stay K' U S, U, S, A⟩
end
end Go.Dd

namespace Go.Dd
open Go.Proofs
theorem cMr (rec : RT) (n : Nat) (x : DV) (h : Hp) : nC rec n (iD 40) x h = bC rec n (.f 60 [x] []) h := by rfl
theorem cGl (rec : RT) (n : Nat) (x : DV) (h : Hp) : nC rec n (iD 41) x h = bC rec n (.f 60 [x] []) h := by rfl
section
variable {h h' : Hp} {M M' : MemV} {R R' : List Int} {es es' : List (DV × DV)} {k : Nat} {z : Prop} {CL : List Nat}
theorem dHn {n : Int} {K : FuncId} (hd : ∀ (rec : RT) (m : Nat) (x : DV) (h : Hp), nC rec m (iD n) x h = bC rec m (.f K [x] []) h) (hK : CF.I K = none) (V : Wv k h M R es z) {x : DV} {l : List Int} (S : SlI x l h) (hl : l.length ≤ 256) (r : Int) {m : Nat} (hm : 300 < m) :
  (tG M n r l ∧ ∃ h', dD (m + 4) 16 [.p (aP 7) 0, iD n, iD r, x] h = some (.t [iD 0, iD 20], h') ∧ Wv k h' M R es z ∧ Up h h') ∨
  (¬ tG M n r l ∧ ∃ b h1, Wv k h1 M R es z ∧ Up h h1 ∧ Dr h1 b n r x ∧ SlI x l h1 ∧
   ∀ a e h', dD (m + 3) K [.p b 0] h1 = some (.t [a, e], h') → dD (m + 4) 16 [.p (aP 7) 0, iD n, iD r, x] h = some (.t [a, e], h')) := by
 obtain ⟨h1, V1, U1, q | q⟩ := cLg V S hl n r hm
 ·exact .inl ⟨q.1, h1, q.2, V1, U1⟩
 ·obtain ⟨b, h2, V2, U2, D, S2, e2⟩ := cJd V1 (S.up U1) n r (m + 3)
  refine .inr ⟨q.1, b, h2, V2, U1.trans U2, D, S2, fun a e h' e3 => ?_⟩
  rw [q.2, e2, hd]
  unfold bC
  rw [pcf hK]
  simp only [List.append_nil, List.nil_append] at e3 ⊢
  rw [e3]
  simp only [aU, sA, rN]
end
end Go.Dd

namespace Go.Dd
open Go.Proofs
section
variable {h h' : Hp} {M M' : MemV} {R R' : List Int} {es es' : List (DV × DV)} {k : Nat} {z : Prop} {CL : List Nat} {b : Pos} {n r : Int} {x : DV}
theorem dCf {c : Int} (h : isC M R c = true) : bU c M.pl ≠ 0 := (of_decide_eq_true h).1
theorem GI.kindNeg (I : GI M R CL z) (G : Good M) (c : Int) : decide (aAm M R c < 0) = !(isC M R c) := by
 cases hc : isC M R c with
 | false => unfold aAm; rw [hc]; rfl
 | true =>
  obtain ⟨k, _, e, _⟩ := I.kindC G hc
  rw [e]
  exact decide_eq_false (by omega)
inductive ClsA (M M' : MemV) (R R' : List Int) (n r : Int) : Int → Int → Prop
 | no : isC M R r = false → M' = M → R' = R → ClsA M M' R R' n r 0 20
 | up : isC M R r = true → n = 41 → ClsA M M' R R' n r (kU M R r) 0
 | nm (a : Int) (s : List Nat) : isC M R r = true → n ≠ 41 → TxO M (R.getD 13 0) (oM M r 0) s → TxO M' (R.getD 13 0) a s → ClsA M M' R R' n r a 0
theorem dHj (V : Wv (80 + k) h M R es) (D : Dr h b n r x) {m : Nat} (hm : 300 < m) :
  ∃ a e h' M' R' es', dD (m + 4) 60 [.p b 0] h = some (.t [iD a, iD e], h') ∧ Wv k h' M' R' es' ∧ Up h h' ∧ Stay 80 M M' R R' es es' ∧ ClsA M M' R R' n r a e := by
 have hk := V.K.W.kind V.K.G V.I r m
 have hneg := V.I.kindNeg V.K.G r
 have l0 := D.l0
 have l1 := D.l1
 have l2 := D.l2
 have ef : ∀ h, dD (m + 3) 54 [] h = some (.t [iD 0, iD 20], h) := fun h => by rw [nX 54 rfl, bOm]; rfl
 rw [nX 60 rfl, cTg]
 unfold s60
 simp only [iD] at hk l1 l2 ef ⊢
 simp only [g0, gM, rY, l0, l2, aU, hk, cJ, show (Int.ofNat 0 : Int) = 0 from rfl, hneg]
 cases hc : isC M R r with
 | false =>
  refine ⟨0, 20, h, M, R, es, ?_, V.less (by omega), Up.refl h, Stay.refl _ _ _ _, .no hc rfl rfl⟩
  simp only [Bool.not_false, bN, ef, aU, sA, rN]
 | true =>
  simp only [Bool.not_true, bQ, l1, aU, cK]
  by_cases hn : n = 41
  ·have d : (n == Int.ofNat 41) = true := by rw [hn]; rfl
   have su := V.K.W.super V.K.G V.I r m
   refine ⟨kU M R r, 0, h, M, R, es, ?_, V.less (by omega), Up.refl h, Stay.refl _ _ _ _, .up hc hn⟩
   simp only [iD] at su ⊢
   simp only [d, bN, l0, l2, su, aU]
  ·have d : (n == Int.ofNat 41) = false := nY hn
   obtain ⟨s, h1, e1, W1, U1, A⟩ := V.K.W.name V.K.G V.I r (n := m) hm
   rcases A with ⟨_, T, s1, s2⟩ | ⟨q, _⟩
   ·have V1 := V.up W1 U1
    have D1 := D.up U1
    obtain ⟨a, e, h2, M2, R2, es2, e2, V2, U2, S2, A2⟩ := V1.sym (k := k) T.by8 (m := m) hm
    rcases A2 with ⟨q, _⟩ | ⟨_, rfl, _, T2⟩
    ·exact absurd ⟨s1, s2⟩ q
    ·refine ⟨a, 0, h2, M2, R2, es2, ?_, V2, U1.trans U2, S2, .nm a s hc hn T T2⟩
     have sm : bK (aA (.p b (0 + 0)) h1) (.p (aP 7) 0) = true := by rw [D1.l0]; exact bTq _ _ _
     simp only [iD] at e1 e2 ⊢
     simp only [d, bQ, l0, l2, e1, aU, sm, Bool.and_self, cnd, cond_true, e2, sA, rN]
   ·rw [hc] at q; cases q
theorem dFz (hn : n = 40 ∨ n = 41) (V : Wv (80 + k) h M R es) (r : Int) {m : Nat} (hm : 300 < m) :
  ∃ a e h' M' R' es', dD (m + 5) 16 [.p (aP 7) 0, iD n, iD r, .l0] h = some (.t [iD a, iD e], h') ∧ Wv k h' M' R' es' ∧ Up h h' ∧ Stay 80 M M' R R' es es' ∧ ClsA M M' R R' n r a e := by
 have S : SlI .l0 [] h := .inl ⟨rfl, rfl⟩
 have dd : ∀ (rec : RT) (m : Nat) (x : DV) (h : Hp), nC rec m (iD n) x h = bC rec m (.f 60 [x] []) h := by
  rcases hn with rfl | rfl
  ·exact cMr
  ·exact cGl
 have na : sB n = 0 := by rcases hn with rfl | rfl <;> rfl
 rcases dHn dd rfl V S (by simp) r (m := m + 1) (by omega) with ⟨q, h', e1, V1, U1⟩ | ⟨q, b, h1, V1, U1, D, S1, cont⟩
 ·refine ⟨0, 20, h', M, R, es, e1, V1.less (by omega), U1, Stay.refl _ _ _ _, .no ?_ rfl rfl⟩
  rcases q with q | q | ⟨v, hv, _⟩
  ·exact absurd na q
  ·cases hc : isC M R r with
   | false => rfl
   | true => rw [xS (dCf hc)] at q; cases q
  ·cases hv
 ·obtain ⟨a, e, h2, M2, R2, es2, e2, V2, U2, S2, A⟩ := dHj V1 D (m := m) hm
  exact ⟨a, e, h2, M2, R2, es2, cont _ _ _ e2, V2, U1.trans U2, S2, A⟩
end
theorem cGe (p : Pos) (o : Ob) (T : Tr Ob) (nx : Pos) : (⟨nx, Tr.set o p T⟩ : Hp).bl.get p = some o := dSf _ _ _
theorem dOu (k1 N1 : Int) (s1 : List Nat) : ∃ h1, bS (th k1 N1 s1) (hK 1023) = some (.p (pK 1023) 0, h1) ∧
  lO 12 [] h1 = some (.p (aP 7) 0, hWo h1) ∧ Wv 20000 (hWo h1) MN RN esN ∧ Tg (hWo h1) (pK 1023) k1 N1 s1 := by
 refine ⟨_, dLv _ _ _ _, ?_, WvN _, dTs (cGe _ _ _ _) (by rw [dCi]; omega)⟩
 exact bWc _ (by kernel_rfl)
end Go.Dd

namespace Go.Dd
open Go.Proofs
noncomputable def s9 (rec : FuncId → List DV → Hp → aJ) (n : Nat) (x0 : DV) (h0 : Hp) : aJ :=
 bnd (bS x0 h0) fun v1 h1 =>
 bnd (rec 12 [] h1) fun v2 h2 =>
 bnd (pEq (.pointer 64) true v2 .p0 h2) fun v3 h3 =>
 aQ v3 (
  some ((.b false), h3)) (
  bnd (aK 3 v1 h3) fun v4 h4 =>
  bnd (rec 14 [v2, v4] h4) fun v5 h5 =>
  bnd (rec 16 [v2, (.i .i64 (Int.ofNat 40)), v5, .l0] h5) fun v6 h6 =>
  bnd (aC 0 v6 h6) fun v7 h7 =>
  bnd (aC 1 v6 h7) fun v8 h8 =>
  bnd (rec 16 [v2, (.i .i64 (Int.ofNat 41)), v5, .l0] h8) fun v9 h9 =>
  bnd (aC 0 v9 h9) fun v10 h10 =>
  bnd (aC 1 v9 h10) fun v11 h11 =>
  bnd (rec 32 [v2, v5] h11) fun v12 h12 =>
  bnd (aD .lss v12 (.i .i64 (Int.ofNat 0)) h12) fun v13 h13 =>
  aQ v13 (
   bnd (aD .eql v8 (.i .i64 (Int.ofNat 20)) h13) fun v14 h14 =>
   bnd (gD v14 true (some (v11, h14)) h14) fun v15 h15 =>
   bnd (gD v14 true (aD .eql v15 (.i .i64 (Int.ofNat 20)) h15) h15) fun v16 h16 =>
   bnd (aO v14 v16 (.b false) h16) fun v17 h17 =>
   bnd (gD v17 true (rec 13 [] h17) h17) fun v18 h18 =>
   bnd (aO v17 v18 (.b false) h18) fun v19 h19 =>
   some (v19, h19)) (
   bnd (rec 33 [v2, v7] h13) fun v20 h20 =>
   bnd (aC 0 v20 h20) fun v21 h21 =>
   bnd (aC 1 v20 h21) fun v22 h22 =>
   bnd (aD .eql v8 (.i .i64 (Int.ofNat 0)) h22) fun v23 h23 =>
   bnd (gD v23 true (some (v22, h23)) h23) fun v24 h24 =>
   bnd (aO v23 v24 (.b false) h24) fun v25 h25 =>
   bnd (gD v25 true (some (v21, h25)) h25) fun v26 h26 =>
   bnd (gD v25 true (some (v2, h26)) h26) fun v27 h27 =>
   bnd (gD v25 true (some (v5, h27)) h27) fun v28 h28 =>
   bnd (gD v25 true (rec 34 [v27, v28] h28) h28) fun v29 h29 =>
   bnd (gD v25 true (eM .eql v26 v29 h29) h29) fun v30 h30 =>
   bnd (aO v25 v30 (.b false) h30) fun v31 h31 =>
   bnd (gD v31 true (some (v2, h31)) h31) fun v32 h32 =>
   bnd (gD v31 true (some (v7, h32)) h32) fun v33 h33 =>
   bnd (gD v31 true (rec 25 [v32, v33] h33) h33) fun v34 h34 =>
   bnd (gD v31 true (some (v2, h34)) h34) fun v35 h35 =>
   bnd (gD v31 true (rec 30 [v35, (.i .i64 (Int.ofNat 11))] h35) h35) fun v36 h36 =>
   bnd (gD v31 true (aD .eql v34 v36 h36) h36) fun v37 h37 =>
   bnd (aO v31 v37 (.b false) h37) fun v38 h38 =>
   bnd (gD v38 true (some (v11, h38)) h38) fun v39 h39 =>
   bnd (gD v38 true (aD .eql v39 (.i .i64 (Int.ofNat 0)) h39) h39) fun v40 h40 =>
   bnd (aO v38 v40 (.b false) h40) fun v41 h41 =>
   bnd (gD v41 true (some (v10, h41)) h41) fun v42 h42 =>
   bnd (gD v41 true (some (v2, h42)) h42) fun v43 h43 =>
   bnd (gD v41 true (some (v5, h43)) h43) fun v44 h44 =>
   bnd (gD v41 true (rec 35 [v43, v44] h44) h44) fun v45 h45 =>
   bnd (gD v41 true (aD .eql v42 v45 h45) h45) fun v46 h46 =>
   bnd (aO v41 v46 (.b false) h46) fun v47 h47 =>
   bnd (gD v47 true (rec 13 [] h47) h47) fun v48 h48 =>
   bnd (aO v47 v48 (.b false) h48) fun v49 h49 =>
   some (v49, h49)))
noncomputable def D9 (rec : FuncId → List DV → Hp → aJ) (n : Nat) (c : Code) (X : Nat → K) (k : K) : K := aM CF rec 82 n c X (aT CF Tryz.f9) k
theorem s9m (rec : FuncId → List DV → Hp → aJ) (n : Nat) : D9 rec n (cf Tryz.f9) x0 (aT CF Tryz.f9) = (fun (env : aY) (h : Hp) => s9 rec n (env 0) h) :=
 (by kernel_rfl)
theorem dSa (rec : FuncId → List DV → Hp → aJ) (n : Nat) (args : List DV) (h : Hp) : aF CF rec n 9 args h = s9 rec n (args.getD 0 aV) h :=
 (by kernel_rfl : aF CF rec n 9 args h = D9 rec n (cf Tryz.f9) x0 (aT CF Tryz.f9) (aI args) h).trans ((congrFun (congrFun (s9m rec n) (aI args)) h).trans (by kernel_rfl))
end Go.Dd

namespace Go.Dd
open Go.Proofs
theorem aOi {k1 N1 : Int} {s1 : List Nat} (i1 : i64 N1) (b1 : byS s1) : ∃ k, aF CF lO 900 9 [th k1 N1 s1] (hK 1023) = some (.b true, k) := by
 obtain ⟨h1, e1, e3, V0, T0⟩ := dOu k1 N1 s1
 obtain ⟨r, h3, M3, R3, es3, e4, V3, U3, S3⟩ := cJw (k := 19740) V0 k1 i1 b1 (m := 894) (by omega)
 obtain ⟨a, e, h4, M4, R4, es4, e5, V4, U4, S4, A4⟩ := dFz (k := 19660) (.inl rfl) V3 r (m := 895) (by omega)
 obtain ⟨a2, f, h5, M5, R5, es5, e6, V5, U5, S5, A5⟩ := dFz (k := 19580) (.inr rfl) V4 r (m := 895) (by omega)
 have lv := bSm
 have hk := V5.K.W.kind V5.K.G V5.I r 897
 have hneg := V5.I.kindNeg V5.K.G r
 have o40 : Int.ofNat 40 = (40 : Int) := rfl
 have o41 : Int.ofNat 41 = (41 : Int) := rfl
 have o0 : Int.ofNat 0 = (0 : Int) := rfl
 simp only [iD] at e1 e4 e5 e6 hk
 rw [dSa]
 unfold s9
 simp only [th, iD] at e1 ⊢
 simp only [g0, g1, e1, aU, e3, pE0, bQ, T0.ld, cRd, e4, cJy, o40, o41, e5, e6, sA, rN, cQw, hk, cJ, o0, hneg]
 by_cases ha : bU r M3.pl ≠ 0
 ·have ha4 : bU r M4.pl ≠ 0 := by rw [S4.at' r ha]; exact ha
  have c4 : isC M4 R4 r = isC M3 R3 r := S4.isC V3.I V3.K.G ha
  have c5 : isC M5 R5 r = isC M4 R4 r := S5.isC V4.I V4.K.G ha4
  cases hc : isC M3 R3 r with
  | false =>
   rw [c5, c4, hc]
   cases A4 with
   | up q _ => rw [hc] at q; cases q
   | nm _ _ q _ _ _ => rw [hc] at q; cases q
   | no _ _ _ =>
    cases A5 with
    | up q _ => rw [c4, hc] at q; cases q
    | nm _ _ q _ _ _ => rw [c4, hc] at q; cases q
    | no _ _ _ =>
     refine ⟨h5, ?_⟩
     simp only [Bool.not_false, bN, cK, show ((20 : Int) == Int.ofNat 20) = true from rfl, aAb, aU, cS, lv]
  | true =>
   rw [c5, c4, hc]
   cases A4 with
   | no q => rw [hc] at q; cases q
   | up _ q => cases q
   | nm _ s _ _ T T' =>
    cases A5 with
    | no q => rw [c4, hc] at q; cases q
    | nm _ _ _ q _ _ => exact absurd rfl q
    | up _ _ =>
     obtain ⟨h6, e7, W6, U6⟩ := V5.K.W.text V5.K.G (S5.tx _ _ _ T') (.inr (by rw [S5.r 12, S4.r 12])) (k := 898) (by omega)
     have V6 := V5.up W6 U6
     obtain ⟨s2, h7, e8, W7, U7, A7⟩ := V6.K.W.name V6.K.G V6.I r (n := 897) (by omega)
     have V7 := V6.up W7 U7
     rcases A7 with ⟨_, T7, _, _⟩ | ⟨q, _⟩
     ·have es2 : s2 = s := by
       refine T7.inj (c2 := R3.getD 13 0) ?_
       have := S5.tx _ _ _ (S4.tx _ _ _ T)
       rw [S5.get V4.I V4.K.G ha4, S4.get V3.I V3.K.G ha]
       exact this
      subst es2
      have co := V7.K.W.classOf V7.K.G a 898
      have kn := V7.K.W.known (show 11 < 16 by omega) 899
      have su := V7.K.W.super V7.K.G V7.I r 897
      have ce : bNd M5 R5 a = R5.getD (2 + 11) 0 := by rw [dBe (S5.tx _ _ _ T'), S5.r 12, S4.r 12]
      have se : kU M5 R5 r = kU M4 R4 r := S5.super V4.I V4.K.G ha4
      rw [se] at su
      rw [ce] at co
      have eqr : ∀ v : Int, (v == v) = true := fun v => beq_self_eq_true v
      simp only [iD] at co kn su e7 e8
      refine ⟨h7, ?_⟩
      simp only [Bool.not_true, bQ, cQd, e7, aU, sA, rN, cK, show ((0 : Int) == 0) = true from rfl, aAb, cS, cLd, e8, cRa, cOt, cJv, co, cNi, kn, eqr, cLc, su, lv]
     ·rw [c5, c4, hc] at q; cases q
 ·have hc3 : isC M3 R3 r = false := decide_eq_false (fun q => ha q.1)
  cases A4 with
  | up q _ => rw [hc3] at q; cases q
  | nm _ _ q _ _ _ => rw [hc3] at q; cases q
  | no _ q1 q2 =>
   subst q1; subst q2
   cases A5 with
   | up q _ => rw [hc3] at q; cases q
   | nm _ _ q _ _ _ => rw [hc3] at q; cases q
   | no _ q1 q2 =>
    subst q1; subst q2
    refine ⟨h5, ?_⟩
    rw [hc3]
    simp only [Bool.not_false, bN, cK, show ((20 : Int) == Int.ofNat 20) = true from rfl, aAb, aU, cS, lv]
end Go.Dd

namespace Go.Dd
open Go.Proofs
theorem bWl {P : Program} {W : World} {base : Nat} {t : TypeId} {v : Value} {fs : Array Field} (ht : P.underlying t = some (.struct fs)) (h : Value.okWide P W .any base t v) : ∃ cs, v = .agg cs := by
 unfold Value.okWide at h
 rw [ht] at h
 obtain ⟨cs, e, _⟩ := h
 exact ⟨cs, e⟩
theorem aZr : Tryz.prog.cellsOf 23 = 3 := by kernel_rfl
theorem bVo : Tryz.prog.cellsOf 3 = 1 := by kernel_rfl
theorem bXc : Tryz.prog.cellsOf 9 = 1 := by kernel_rfl
section
variable {H : Type} {enc : TypeId × Value → H} {W : World} {base b0 : Nat} {sp : Nat → Bool} {held : Bool}
theorem aTz {n : Nat} {cs : List Value} {x : DataW H × List MemPlace} (h : DataW.trod enc Tryz.prog W base sp held n 23 cs = some x) :
  ∃ (kd N : Int) (s : ByteArray), cs = [.int .i64 kd, .int .i64 N, .string s] ∧ x = (.agg [.lit (.int .i64 kd), .lit (.int .i64 N), .lit (.string s.data.toList)], []) ∧ (Lit.int .i64 kd).wf = true ∧ (Lit.int .i64 N).wf = true ∧ s.size ≤ maxLen := by
 obtain ⟨xs, n, rfl, hx, hl, hs, hf⟩ := DataW.trod_struct Tryz.underlying23 h
 rw [aZr] at hl
 match cs, hl with
 | [a, b, c], _ =>
  have hs : xs.length = 3 := hs
  match xs, hs with
  | [x0, x1, x2], _ =>
   have f0 := hf 0 _ rfl
   have f1 := hf 1 _ rfl
   have f2 := hf 2 _ rfl
   change DataW.trod enc Tryz.prog W base sp held n 3 (List.take (Tryz.prog.cellsOf 3) [a, b, c]) = some x0 at f0
   change DataW.trod enc Tryz.prog W base sp held n 3 (List.take (Tryz.prog.cellsOf 3) [b, c]) = some x1 at f1
   change DataW.trod enc Tryz.prog W base sp held n 9 (List.take (Tryz.prog.cellsOf 9) [c]) = some x2 at f2
   rw [bVo] at f0 f1
   rw [bXc] at f2
   obtain ⟨kd, e0, q0, w0⟩ := DataW.trod_int Tryz.underlying3 f0
   obtain ⟨N, e1, q1, w1⟩ := DataW.trod_int Tryz.underlying3 f1
   obtain ⟨s, e2, q2, w2⟩ := DataW.trod_string Tryz.underlying9 f2
   simp only [List.take, List.cons.injEq, and_true] at e0 e1 e2
   subst e0 e1 e2
   refine ⟨kd, N, s, rfl, ?_, w0, w1, w2⟩
   rw [hx, q0, q1, q2]
   rfl
theorem aSf {kd N : Int} {s : ByteArray} (w0 : (Lit.int .i64 kd).wf = true) (w1 : (Lit.int .i64 N).wf = true) (w2 : s.size ≤ maxLen) (n : Nat) :
  DataW.trod enc Tryz.prog W base sp held (n + 2) 23 [.int .i64 kd, .int .i64 N, .string s] = some (.agg [.lit (.int .i64 kd), .lit (.int .i64 N), .lit (.string s.data.toList)], []) := by
 have t0 : DataW.trod enc Tryz.prog W base sp held (n + 1) 3 [.int .i64 kd] = some (.lit (.int .i64 kd), []) := by
  rw [DataW.trod_step]; unfold DataW.trodStep; rw [Tryz.underlying3]; simp [w0]
 have t1 : DataW.trod enc Tryz.prog W base sp held (n + 1) 3 [.int .i64 N] = some (.lit (.int .i64 N), []) := by
  rw [DataW.trod_step]; unfold DataW.trodStep; rw [Tryz.underlying3]; simp [w1]
 have t2 : DataW.trod enc Tryz.prog W base sp held (n + 1) 9 [.string s] = some (.lit (.string s.data.toList), []) := by
  rw [DataW.trod_step]; unfold DataW.trodStep; rw [Tryz.underlying9]; simp [w2]
 rw [DataW.trod_step]; unfold DataW.trodStep; rw [Tryz.underlying23]
 simp [aZr, bVo, bXc, t0, t1, t2]
theorem aUr {v : Value} {d : DataW H} {ps : List MemPlace} (hval : Value.okWide Tryz.prog W .any b0 23 v) (hd : DataW.Trod enc Tryz.prog W base sp held 23 v d ps) :
  ∃ (kd N : Int) (s : ByteArray), v = .agg #[.int .i64 kd, .int .i64 N, .string s] ∧ ps = [] ∧ (Lit.int .i64 N).wf = true ∧ ∀ (W' : World) (base' : Nat) (sp' : Nat → Bool), DataW.Trod enc Tryz.prog W' base' sp' held 23 (.agg #[.int .i64 kd, .int .i64 N, .string s]) d [] := by
 obtain ⟨cs, rfl⟩ := bWl Tryz.underlying23 hval
 obtain ⟨n, hf⟩ := hd
 have hf : DataW.trod enc Tryz.prog W base sp held n 23 cs.toList = some (d, ps) := hf
 obtain ⟨kd, N, s, e, ex, w0, w1, w2⟩ := aTz hf
 have ecs : cs = #[.int .i64 kd, .int .i64 N, .string s] := by
  apply Array.toList_inj.1
  exact e
 cases ex
 exact ⟨kd, N, s, by rw [ecs], rfl, w1, fun W' base' sp' => ⟨2, aSf w0 w1 w2 0⟩⟩
end
theorem cZh {n : Int} (w : (Lit.int .i64 n).wf = true) : i64 n := Go.bounds_i64 w
theorem bMw {ρ : cZ} (kd N : Int) (s : ByteArray) : VR ρ (th kd N (s.data.toList.map (·.toNat))) (.agg #[.int .i64 kd, .int .i64 N, .string s]) :=
 .a _ _ (.cons _ _ _ _ (.i _ _) (.cons _ _ _ _ (.i _ _) (.cons _ _ _ _ (.s _ _ rfl) .nil)))
end Go.Dd

