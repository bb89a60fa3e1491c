/- A part of the proof: TX3 TX4 GN WR WM WA WC WP1 WP2 WP3 WP4 WP5 WP6 WP7 WQ1 WQ2 WQ3 WQ4 WQ5 WQ6 WQ7 WQ8 WQA WQB WQC WQD XL6 WA6 WQR: each text has a comment of its own. -/
import Derived.Test.YtilmobdncapnbaaGreatPu8
import Derived.WalkKit
import Derived.ProofKit
import Derived.OpenShut
import Derived.ChangeMaps5
set_option linter.unusedVariables false
set_option linter.unusedSimpArgs false
set_option linter.constructorNameAsVariable false
set_option maxRecDepth 100000
namespace Go.Dd
open Go.Proofs
theorem sC {w : Int} {pl : WT} (h : bQ w pl ≠ 0) : dK w pl = true := by
 unfold dK
 split <;> first | rfl | skip
 rw [bDd h]
 simp
theorem tC {w : Int} {pl : WT} {k : Nat} (hk : k < 16000000) (h : dK w pl = true) : dK w (pl.set k (.ofNat 1)) = true := by
 by_cases ha : bQ w pl = 0
 ·unfold dK at h ⊢
  by_cases w0 : w = 0
  ·subst w0; rfl
  ·by_cases w2 : w = 2
   ·subst w2; rfl
   ·by_cases w4 : w = 4
    ·subst w4; rfl
    ·split
     ·exact absurd rfl w0
     ·exact absurd rfl w2
     ·exact absurd rfl w4
     ·split at h
      ·exact absurd rfl w0
      ·exact absurd rfl w2
      ·exact absurd rfl w4
      ·rw [ha] at h
       have : dI w = true := by simpa using h
       rw [this]
       rfl
 ·exact sC (by rw [rT hk ha]; exact ha)
def dPs (M : MemV) (R : List Int) (es : List (DV × DV)) : Prop := ∀ e ∈ es, ∃ s x, e = (.s s, iD x) ∧ TxO M (R.getD 13 0) x s
theorem aVq {es : List (DV × DV)} (s : List Nat) : (∀ e ∈ es, ∃ (k : List Nat) (x : Int), e = (.s k, iD x)) →
  (∃ x, dL .string (.s s) es = some (some (iD x)) ∧ (DV.s s, iD x) ∈ es) ∨ (dL .string (.s s) es = some none ∧ ∀ i, xO .string (.s s) es i = some none) := by
 induction es with
 | nil => exact fun _ => .inr ⟨rfl, fun _ => rfl⟩
 | cons e es ih =>
  intro h
  obtain ⟨k, x, he⟩ := h e (by simp)
  subst he
  cases hk : eqD s k with
  | true =>
   have := (pR s k).1 hk
   subst this
   exact .inl ⟨x, by simp only [dL, nK, hk], by simp⟩
  | false =>
   rcases ih fun e he => h e (by simp [he]) with ⟨y, h1, h2⟩ | ⟨h1, h2⟩
   ·exact .inl ⟨y, by simp only [dL, nK, hk]; exact h1, by simp [h2]⟩
   ·exact .inr ⟨by simp only [dL, nK, hk]; exact h1, fun i => by simp only [xO, nK, hk]; exact h2 _⟩
theorem bVh {es l : List (DV × DV)} {k v : DV} (h : dL .string k es = some (some v)) : dL .string k (es ++ l) = some (some v) := by
 induction es with
 | nil => cases h
 | cons e es ih =>
  simp only [List.cons_append, dL] at h ⊢
  split
  ·rename_i hk; rw [hk] at h; exact h
  ·rename_i hk; rw [hk] at h; exact ih h
  ·rename_i hk; rw [hk] at h; cases h
theorem bWe {es : List (DV × DV)} {s : List Nat} {v : DV} (h : dL .string (.s s) es = some none) : dL .string (.s s) (es ++ [(.s s, v)]) = some (some v) := by
 induction es with
 | nil =>
  have : eqD s s = true := (pR s s).2 rfl
  simp only [List.nil_append, dL, nK, this]
 | cons e es ih =>
  simp only [List.cons_append, dL] at h ⊢
  split
  ·rename_i hk; rw [hk] at h; cases h
  ·rename_i hk; rw [hk] at h; exact ih h
  ·rename_i hk; rw [hk] at h; cases h
structure Wk (h : Hp) (M : MemV) (R : List Int) (es : List (DV × DV)) : Prop where
 W : Wd h M R es
 G : Good M
 sy : dPs M R es
 r0 : dK (R.getD 0 0) M.pl = true
 rk : ∀ i, i < 16 → bQ (R.getD (2 + i) 0) M.pl ≠ 0
structure Stay (k : Nat) (M M' : MemV) (R R' : List Int) (es es' : List (DV × DV)) : Prop where
 n : M'.n = M.n
 fin : M'.fin ≤ M.fin + k
 made : M'.made ≤ M.made + k
 lo : M.fin ≤ M'.fin
 tx : ∀ cls o s, TxO M cls o s → TxO M' cls o s
 at' : ∀ o, bQ o M.pl ≠ 0 → bQ o M'.pl = bQ o M.pl
 r : ∀ i, R'.getD (i + 1) 0 = R.getD (i + 1) 0
 fd : ∀ s v, dL .string (.s s) es = some (some v) → dL .string (.s s) es' = some (some v)
 gi : ∀ CL, GI M R CL → GI M' R' CL
 old : ∀ j, j < M.fin → M'.t.get j = M.t.get j
theorem Stay.refl (k : Nat) (M : MemV) (R : List Int) (es : List (DV × DV)) : Stay k M M R R es es := ⟨rfl, by omega, by omega, by omega, fun _ _ _ h => h, fun _ _ => rfl, fun _ => rfl, fun _ _ h => h, fun _ h => h, fun _ _ => rfl⟩
theorem Stay.trans {a b : Nat} {M M' M2 : MemV} {R R' R2 : List Int} {es es' es2 : List (DV × DV)} (h : Stay a M M' R R' es es') (k : Stay b M' M2 R' R2 es' es2) : Stay (a + b) M M2 R R2 es es2 :=
 ⟨k.n.trans h.n, by have := h.fin; have := k.fin; omega, by have := h.made; have := k.made; omega, by have := h.lo; have := k.lo; omega, fun c o s t => k.tx _ _ _ (h.tx _ _ _ t),
  fun o ho => by have h1 := h.at' o ho; rw [k.at' o (by rw [h1]; exact ho), h1], fun i => (k.r i).trans (h.r i), fun s v e => k.fd s v (h.fd s v e), fun CL I => k.gi CL (h.gi CL I), fun j hj => by rw [k.old j (by have := h.lo; omega)]; exact h.old j hj⟩
theorem Grown.stay {M M' : MemV} {f : Nat} {cls : Int} {l : List Int} (g : Grown M M' f cls l) (G : Good M) (R : List Int) (es : List (DV × DV)) (N : ∀ CL, GI M R CL → NewI M R CL f cls l) : Stay (l.length + 3) M M' R R es es :=
 ⟨g.n, by rw [g.fin]; exact Nat.le_refl _, by rw [g.made]; omega, by rw [g.fin]; omega, fun _ _ _ t => g.txo G t, fun o ho => by rw [g.pl]; exact rT (by have := G.le; have := G.hi; omega) ho, fun _ => rfl, fun _ _ h => h, fun CL I => g.gi G I (N CL I), fun j hj => g.old j hj⟩
theorem Grown.wk {h h' : Hp} {M M' : MemV} {R : List Int} {es : List (DV × DV)} {f : Nat} {cls : Int} {l : List Int} (g : Grown M M' f cls l) (K : Wk h M R es) (W' : Wd h' M' R es) (hc : bQ cls M.pl ≠ 0) (hf : f ≤ 2) (h256 : l.length ≤ 256) (room : M.fin + l.length + 3 ≤ M.n) (hm : M.made < 899999) : Wk h' M' R es := by
 have hk : M.fin < 16000000 := by have := K.G.le; have := K.G.hi; omega
 refine ⟨W', g.good K.G hc hf h256 room hm, fun e he => ?_, by rw [g.pl]; exact tC hk K.r0, fun i hi => by rw [g.pl, rT hk (K.rk i hi)]; exact K.rk i hi⟩
 obtain ⟨s, x, h1, h2⟩ := K.sy e he
 exact ⟨s, x, h1, g.txo K.G h2⟩
section
variable {h : Hp} {M : MemV} {R : List Int} {es : List (DV × DV)}
theorem Wd.setR0 (W : Wd h M R es) (v : Int) : aG 1 (.p (aS 4) 0) (iD v) h = some (aW, ⟨h.next, Tr.set (.row .ex ((R.set 0 v).map iD)) (aS 4) h.bl⟩) ∧ Wd ⟨h.next, Tr.set (.row .ex ((R.set 0 v).map iD)) (aS 4) h.bl⟩ M (R.set 0 v) es ∧
  Up h ⟨h.next, Tr.set (.row .ex ((R.set 0 v).map iD)) (aS 4) h.bl⟩ := by
 obtain ⟨m1, m2, m3, m4, m5, m6⟩ := kP W.mem
 have ne : ∀ b : Pos, b.toNat ≠ 1027 → (Tr.set (.row .ex ((R.set 0 v).map iD)) (aS 4) h.bl).get b = h.bl.get b := fun b hb => by
  rw [dSq]
  intro e; rw [e, pn4] at hb; exact hb rfl
 refine ⟨?_, ⟨(ne _ (by rw [pn7]; omega)).trans W.w, (by show (Tr.set _ (aS 4) _).get (aS 4) = _; exact dSr _ _ _), by simp [W.rl], (ne _ (by rw [pn5]; omega)).trans W.sy, ?_, W.nx, W.wb, W.pb⟩, ⟨Nat.le_refl _, fun b h1 h2 => ne b (by omega)⟩⟩
 ·have hp : gO 0 (R.map iD) [iD v] = some ((R.set 0 v).map iD) := by
   have hl := W.rl
   cases R with
   | nil => simp at hl
   | cons a l =>
    show lO (iD a :: l.map iD) [iD v] = _
    have : lO (l.map iD) [] = some (l.map iD) := by cases l.map iD <;> rfl
    simp only [lO, DV.one, Bool.and_self, if_true, this, Option.map_some]
    rfl
  have hw : Kind.ex.writable = true := rfl
  simp only [aG, cY, List.length_singleton, if_true, dE, W.r, hw, hp]
 ·exact nG ((ne _ (by rw [pn3]; omega)).trans m1) ((ne _ (by rw [W.wb, pn1]; omega)).trans m2) ((ne _ (by rw [W.pb, pn2]; omega)).trans m3) m4 m5 m6
theorem Wd.setS (W : Wd h M R es) (es' : List (DV × DV)) : Wd ⟨h.next, Tr.set (.mp es') (aS 5) h.bl⟩ M R es' ∧ Up h ⟨h.next, Tr.set (.mp es') (aS 5) h.bl⟩ := by
 obtain ⟨m1, m2, m3, m4, m5, m6⟩ := kP W.mem
 have ne : ∀ b : Pos, b.toNat ≠ 1028 → (Tr.set (.mp es') (aS 5) h.bl).get b = h.bl.get b := fun b hb => by
  rw [dSq]
  intro e; rw [e, pn5] at hb; exact hb rfl
 exact ⟨⟨(ne _ (by rw [pn7]; omega)).trans W.w, (ne _ (by rw [pn4]; omega)).trans W.r, W.rl, (by show (Tr.set _ (aS 5) _).get (aS 5) = _; exact dSr _ _ _),
  nG ((ne _ (by rw [pn3]; omega)).trans m1) ((ne _ (by rw [W.wb, pn1]; omega)).trans m2) ((ne _ (by rw [W.pb, pn2]; omega)).trans m3) m4 m5 m6, W.nx, W.wb, W.pb⟩, ⟨Nat.le_refl _, fun b h1 h2 => ne b (by omega)⟩⟩
theorem Wk.push (K : Wk h M R es) {x y : Int} (hx : dK x M.pl = true) (hy : dK y M.pl = true) (room : M.fin + 5 ≤ M.n) (hm : M.made < 899999) {n : Nat} (hn : 256 < n) :
  ∃ h' M', dC (n + 2) 73 [.p (aS 7) 0, .i .i64 x, .i .i64 y] h = some (.t [.i .i64 (.ofNat (M.fin * 2)), .i .i64 (.ofNat 0)], h') ∧ Wk h' M' R es ∧ Up h h' ∧ Grown M M' 0 (R.getD 11 0) [x, y] := by
 have hk : M.fin < 16000000 := by have := K.G.le; have := K.G.hi; omega
 have fl : aL [.i .i64 (Int.ofNat 0), .i .i64 (Int.ofNat 0)] 2 [(0, 1, .i .i64 x), (1, 1, .i .i64 y)] h = some (.l h.next 0 2 2, ⟨h.next.succ, Tr.set (.row .ex ([x, y].map iD)) h.next h.bl⟩) := by
  simp [aL, iS, cY]
 obtain ⟨U1, W1⟩ := K.W.new (.row .ex ([x, y].map iD))
 have S : SlI (.l h.next 0 2 2) [x, y] ⟨h.next.succ, Tr.set (.row .ex ([x, y].map iD)) h.next h.bl⟩ := .inr ⟨h.next, 2, .ex, rfl, dSr _ _ _, .inr (Nat.le_trans (by decide) K.W.nx), by show _ < (h.next.succ).toNat; rw [dSs]; omega⟩
 have K1 : Wk ⟨h.next.succ, Tr.set (.row .ex ([x, y].map iD)) h.next h.bl⟩ M R es := ⟨W1, K.G, K.sy, K.r0, K.rk⟩
 obtain ⟨h', M', e1, W2, U2, _, g⟩ := W1.make61 K.G (K.rk 9 (by omega)) (f := 0) (by omega) S (by simp) (by simpa using room) (fun v hv => by
  simp only [List.mem_cons, List.not_mem_nil, or_false] at hv
  rcases hv with rfl | rfl
  ·exact tC hk hx
  ·exact tC hk hy) hn
 refine ⟨h', M', ?_, g.wk K1 W2 (K.rk 9 (by omega)) (by omega) (by simp) (by simpa using room) hm, U1.trans U2, g⟩
 rw [nN 73 rfl, cSp]
 unfold s73
 simp only [g0, g1, g2, aQ, K.W.known (show 9 < 16 by omega), fl]
 rw [show (2 : Nat) + 9 = 11 from rfl] at e1 ⊢
 rw [e1]
 simp only [aQ, nV, oZ]
theorem Wk.symbol (K : Wk h M R es) {s : List Nat} (hs : ∀ c ∈ s, c < 256) (room : M.fin + 70 ≤ M.n) (hm : M.made < 800000) {n : Nat} (hn : 300 < n) :
  ∃ a e h' M' R' es', dC (n + 3) 44 [.p (aS 7) 0, .s s] h = some (.t [.i .i64 a, .i .i64 e], h') ∧ Wk h' M' R' es' ∧ Up h h' ∧ Stay 80 M M' R R' es es' ∧
   ((¬ (1 ≤ s.length ∧ s.length ≤ 60) ∧ e = 1 ∧ a = 0) ∨ ((1 ≤ s.length ∧ s.length ≤ 60) ∧ e = 0 ∧ dL .string (.s s) es' = some (some (iD a)) ∧ TxO M' (R.getD 13 0) a s)) := by
 rw [nN 44 rfl, cSa]
 unfold s44
 have el : ∀ h, dW (.s s) h = some (.i .i64 (s.length : Int), h) := fun h => rfl
 by_cases c1 : s.length < 1
 ·refine ⟨0, 1, h, M, R, es, ?_, K, Up.refl h, Stay.refl _ _ _ _, .inl ⟨by omega, rfl, rfl⟩⟩
  have d1 : decide ((s.length : Int) < Int.ofNat 1) = true := decide_eq_true (by simp; omega)
  simp only [g0, g1, el, aQ, cM, d1, fH, jJ, bZ, bM]
  rfl
 ·have d1 : decide ((s.length : Int) < Int.ofNat 1) = false := decide_eq_false (by simp; omega)
  by_cases c2 : s.length > 60
  ·refine ⟨0, 1, h, M, R, es, ?_, K, Up.refl h, Stay.refl _ _ _ _, .inl ⟨by omega, rfl, rfl⟩⟩
   have d2 : decide ((s.length : Int) > Int.ofNat 60) = true := decide_eq_true (by simp; omega)
   simp only [g0, g1, el, aQ, cM, fZ, d1, d2, gF, bT, bM]
   rfl
  ·have d2 : decide ((s.length : Int) > Int.ofNat 60) = false := decide_eq_false (by simp; omega)
   have hl : 1 ≤ s.length ∧ s.length ≤ 60 := by omega
   simp only [g0, g1, el, aQ, cM, fZ, d1, d2, gF, bT, bH, eY, nR, K.W.l2]
   rcases aVq s (fun e he => by obtain ⟨k, x, h1, _⟩ := K.sy e he; exact ⟨k, x, h1⟩) with ⟨x, f1, f2⟩ | ⟨f1, f2⟩
   ·
    obtain ⟨k, y, e1, T⟩ := K.sy _ f2
    simp only [bS, DV.s.injEq, DV.i.injEq, true_and] at e1
    obtain ⟨rfl, rfl⟩ := e1
    have hx : x ≠ 0 := fun e => T.at0 (by rw [e]; rfl)
    have z1 : (x != Int.ofNat 0) = true := by
     have : (x == Int.ofNat 0) = false := by simpa using hx
     rw [bne, this]; rfl
    have lk : dQ .string (.i .i64 (Int.ofNat 0)) false (.m (aS 5)) (.s s) h = some (iD x, h) := by
     simp only [dQ, fP, K.W.sy, f1, cond_false]
    refine ⟨x, 0, h, M, R, es, ?_, K, Up.refl h, Stay.refl _ _ _ _, .inr ⟨hl, rfl, f1, T⟩⟩
    simp only [lk, aQ, eW, z1, bM]
    rfl
   ·
    have lk : dQ .string (.i .i64 (Int.ofNat 0)) false (.m (aS 5)) (.s s) h = some (.i .i64 (Int.ofNat 0), h) := by
     simp only [dQ, fP, K.W.sy, f1, cond_false]
    have z0 : (Int.ofNat 0 != Int.ofNat 0) = false := rfl
    obtain ⟨h1, M1, e1, W1, U1, g1⟩ := K.W.bytes49 K.G (K.rk 11 (by omega)) hs (by omega) (by omega) hn
    have K1 : Wk h1 M1 R es := g1.wk K W1 (K.rk 11 (by omega)) (by omega) (by simp; omega) (by simp; omega) (by omega)
    have T1 : TxO M1 (R.getD 13 0) (.ofNat (M.fin * 2)) s := g1.new_txo K.G hs (by omega)
    have hf1 := g1.fin
    have hn1 := g1.n
    have hd1 := g1.made
    rw [List.length_map] at hf1
    obtain ⟨h2, M2, e2, K2, U2, g2⟩ := K1.push (x := .ofNat (M.fin * 2)) (y := R.getD 0 0) (sC T1.at0) K1.r0 (by omega) (by omega) (n := n) (by omega)
    have T2 := g2.txo K1.G T1
    have G1 := K1.G
    have ha : bQ (.ofNat (M1.fin * 2)) M2.pl = M1.fin := by rw [g2.pl]; exact aDw G1.lo (by have := G1.le; have := G1.hi; omega)
    obtain ⟨e3, W3, U3⟩ := K2.W.setR0 (.ofNat (M1.fin * 2))
    obtain ⟨W4, U4⟩ := W3.setS (es ++ [(.s s, .i .i64 (Int.ofNat 0))])
    obtain ⟨W5, U5⟩ := W4.setS (es ++ [(.s s, .i .i64 (.ofNat (M.fin * 2)))])
    have rset : ∀ i, (R.set 0 (Int.ofNat (M1.fin * 2))).getD (i + 1) 0 = R.getD (i + 1) 0 := fun i => by
     simp [List.getD, List.getElem?_set]
    have me : fU .string (.i .i64 (Int.ofNat 0)) (.m (aS 5)) (.s s) ⟨h2.next, Tr.set (.row .ex ((R.set 0 (Int.ofNat (M1.fin * 2))).map iD)) (aS 4) h2.bl⟩ =
      some (.t [.i .i64 (Int.ofNat 0), .i .i64 (.ofNat es.length)], ⟨h2.next, Tr.set (.mp (es ++ [(.s s, .i .i64 (Int.ofNat 0))])) (aS 5) (Tr.set (.row .ex ((R.set 0 (Int.ofNat (M1.fin * 2))).map iD)) (aS 4) h2.bl)⟩) := by
     simp only [fU, W3.sy, f2]
     rfl
    have ms : eA (.m (aS 5)) (.i .i64 (.ofNat es.length)) (.i .i64 (.ofNat (M.fin * 2))) ⟨h2.next, Tr.set (.mp (es ++ [(.s s, .i .i64 (Int.ofNat 0))])) (aS 5) (Tr.set (.row .ex ((R.set 0 (Int.ofNat (M1.fin * 2))).map iD)) (aS 4) h2.bl)⟩ =
      some (aW, ⟨h2.next, Tr.set (.mp (es ++ [(.s s, .i .i64 (.ofNat (M.fin * 2)))])) (aS 5) (Tr.set (.mp (es ++ [(.s s, .i .i64 (Int.ofNat 0))])) (aS 5) (Tr.set (.row .ex ((R.set 0 (Int.ofNat (M1.fin * 2))).map iD)) (aS 4) h2.bl))⟩) := by
     have q1 : (es ++ [(DV.s s, DV.i .i64 (Int.ofNat 0))])[es.length]? = some (.s s, .i .i64 (Int.ofNat 0)) := by simp
     have q2 : (es ++ [(DV.s s, DV.i .i64 (Int.ofNat 0))]).set es.length (.s s, .i .i64 (.ofNat (M.fin * 2))) = es ++ [(.s s, .i .i64 (.ofNat (M.fin * 2)))] := by simp
     simp only [eA, W4.sy, q1, q2]
    have ix : ∀ h, aJ 1 (.l (aS 4) 0 18 18) (.i .i64 (Int.ofNat 0)) h = some (.p (aS 4) 0, h) := fun h => rfl
    refine ⟨.ofNat (M.fin * 2), 0, _, M2, R.set 0 (.ofNat (M1.fin * 2)), es ++ [(.s s, .i .i64 (.ofNat (M.fin * 2)))], ?_, ⟨W5, K2.G, ?_, ?_, ?_⟩, (((U1.trans U2).trans U3).trans U4).trans U5, ?_, .inr ⟨hl, rfl, bWe f1, T2⟩⟩
    ·simp only [lk, aQ, eW, z0, bH, K.W.known (show 11 < 16 by omega), show 2 + 11 = 13 from rfl, e1, nV, oZ, K1.W.l1, ix, eY, nR, K1.W.root (show 0 < 18 by omega), e2, K2.W.l1, K2.W.l2, e3, me, ms]
     rfl
    ·intro e he
     simp only [List.mem_append, List.mem_singleton] at he
     rcases he with he | rfl
     ·obtain ⟨k, y, q1, q2⟩ := K2.sy e he
      exact ⟨k, y, q1, by rw [show (13 : Nat) = 12 + 1 from rfl, rset]; exact q2⟩
     ·exact ⟨s, _, rfl, by rw [show (13 : Nat) = 12 + 1 from rfl, rset]; exact T2⟩
    ·have : (R.set 0 (Int.ofNat (M1.fin * 2))).getD 0 0 = Int.ofNat (M1.fin * 2) := by
      have hrl := K.W.rl
      cases R with
      | nil => simp at hrl
      | cons a l => rfl
     rw [this]
     exact sC (by rw [ha]; have := G1.lo; omega)
    ·intro i hi
     rw [show 2 + i = (1 + i) + 1 by omega, rset, show (1 + i) + 1 = 2 + i by omega]
     exact K2.rk i hi
    ·have st := (g1.stay K.G R es (fun CL I => I.newK (i := 11) (.inr (.inl ⟨.inr rfl, rfl⟩)) (by rw [List.length_map]; omega) (fun _ v hv => by obtain ⟨c, q1, q2⟩ := List.mem_map.1 hv; exact ⟨c, hs c q1, q2.symm⟩))).trans (g2.stay K1.G R es (fun CL I => I.newK (i := 9) (.inl ⟨rfl, rfl⟩) (by simp) (fun q => by cases q)))
     rw [List.length_map] at st
     have hf2 := g2.fin
     have hd2 := g2.made
     refine ⟨st.n, ?_, ?_, st.lo, st.tx, st.at', rset, fun k v e => bVh e, fun CL I => (st.gi CL I).roots rset, st.old⟩
     ·simp at hf2; omega
     ·omega
theorem Wk.string (K : Wk h M R es) {s : List Nat} (hs : ∀ c ∈ s, c < 256) (room : M.fin + 260 ≤ M.n) (hm : M.made < 800000) {n : Nat} (hn : 300 < n) :
  ∃ a e h' M', dC (n + 3) 43 [.p (aS 7) 0, .s s] h = some (.t [.i .i64 a, .i .i64 e], h') ∧ Wk h' M' R es ∧ Up h h' ∧ Stay 260 M M' R R es es ∧
   ((¬ s.length ≤ 250 ∧ e = 1 ∧ a = 0) ∨ (s.length ≤ 250 ∧ e = 0 ∧ a = .ofNat (M.fin * 2) ∧ TxO M' (R.getD 12 0) a s)) := by
 rw [nN 43 rfl, cRl]
 unfold s43
 have el : ∀ h, dW (.s s) h = some (.i .i64 (s.length : Int), h) := fun h => rfl
 by_cases c1 : s.length > 250
 ·refine ⟨0, 1, h, M, ?_, K, Up.refl h, Stay.refl _ _ _ _, .inl ⟨by omega, rfl, rfl⟩⟩
  have d1 : decide ((s.length : Int) > Int.ofNat 250) = true := decide_eq_true (by simp; omega)
  simp only [g0, g1, el, aQ, fZ, d1, bM]
  rfl
 ·have d1 : decide ((s.length : Int) > Int.ofNat 250) = false := decide_eq_false (by simp; omega)
  obtain ⟨h1, M1, e1, W1, U1, g1⟩ := K.W.bytes49 K.G (K.rk 10 (by omega)) hs (by omega) (by omega) hn
  have K1 : Wk h1 M1 R es := g1.wk K W1 (K.rk 10 (by omega)) (by omega) (by simp; omega) (by simp; omega) (by omega)
  have T1 : TxO M1 (R.getD 12 0) (.ofNat (M.fin * 2)) s := g1.new_txo K.G hs (by omega)
  refine ⟨.ofNat (M.fin * 2), 0, h1, M1, ?_, K1, U1, ?_, .inr ⟨by omega, rfl, rfl, T1⟩⟩
  ·simp only [g0, Dd.g1, el, aQ, fZ, d1, bH, K.W.known (show 10 < 16 by omega), show 2 + 10 = 12 from rfl, e1, nV, oZ]
   rfl
  ·have st := g1.stay K.G R es (fun CL I => I.newK (i := 10) (.inr (.inl ⟨.inl rfl, rfl⟩)) (by rw [List.length_map]; omega) (fun _ v hv => by obtain ⟨c, q1, q2⟩ := List.mem_map.1 hv; exact ⟨c, hs c q1, q2.symm⟩))
   rw [List.length_map] at st
   exact ⟨st.n, by have := st.fin; omega, by have := st.made; omega, st.lo, st.tx, st.at', st.r, st.fd, st.gi, st.old⟩
end
end Go.Dd

namespace Go.Dd
open Go.Proofs
noncomputable def byE (t : WT) (s : List Nat) : Nat → Bool := List.rec (motive := fun _ => Nat → Bool) (fun _ => true) (fun c _ ih a => Nat.blt c 256 && (gR (t.get a) (.ofNat c) && ih (Nat.add a 1))) s
noncomputable def bIo (M : MemV) (cls : Int) (e : List Nat × Nat) : Bool :=
 !(Nat.beq (bQ (.ofNat e.2) M.pl) 0) && (gR (M.t.get (bQ (.ofNat e.2) M.pl)) (.ofNat (Nat.add (Nat.mul e.1.length 4) 2)) && (gR (M.t.get (Nat.add (bQ (.ofNat e.2) M.pl) 1)) cls && (Nat.ble e.1.length 256 && byE M.t e.1 (Nat.add (bQ (.ofNat e.2) M.pl) 3))))
theorem bXn (t : WT) : ∀ (s : List Nat) (a : Nat), byE t s a = true → (∀ c ∈ s, c < 256) ∧ ∀ i c, s[i]? = some c → t.get (a + i) = .ofNat c
 | [], a, _ => ⟨by simp, fun i c h => by simp at h⟩
 | c :: s, a, h => by
  change (Nat.blt c 256 && (gR (t.get a) (.ofNat c) && byE t s (a + 1))) = true at h
  simp only [Bool.and_eq_true, fV, decide_eq_true_eq] at h
  obtain ⟨h1, h2⟩ := bXn t s (a + 1) h.2.2
  refine ⟨fun d hd => ?_, fun i d hi => ?_⟩
  ·simp only [List.mem_cons] at hd
   rcases hd with rfl | hd
   ·exact h.1
   ·exact h1 d hd
  ·cases i with
   | zero =>
    simp only [List.getElem?_cons_zero, bE] at hi
    subst hi
    exact nH _ _ h.2.1
   | succ i =>
    rw [show a + (i + 1) = a + 1 + i by omega]
    exact h2 i d (by simpa using hi)
theorem bAo {M : MemV} {cls : Int} {e : List Nat × Nat} (h : bIo M cls e = true) : TxO M cls (.ofNat e.2) e.1 := by
 unfold bIo at h
 simp only [Bool.and_eq_true, iV, decide_eq_true_eq] at h
 obtain ⟨h1, h2, h3, h4, h5⟩ := h
 obtain ⟨b1, b2⟩ := bXn _ _ _ h5
 refine ⟨fun e => (by rw [e] at h1; cases h1), nH _ _ h2, nH _ _ h3, b1, h4, b2⟩
noncomputable def cUw (p : List Nat × Nat → Bool) (l : List (List Nat × Nat)) : Bool := List.rec (motive := fun _ => Bool) true (fun x _ ih => p x && ih) l
theorem aMt {p : List Nat × Nat → Bool} : ∀ {l : List (List Nat × Nat)}, cUw p l = true → ∀ a ∈ l, p a = true
 | [], _, a, h => by cases h
 | x :: l, hl, a, h => by
  change (p x && cUw p l) = true at hl
  simp only [Bool.and_eq_true] at hl
  simp only [List.mem_cons] at h
  rcases h with rfl | h
  ·exact hl.1
  ·exact aMt hl.2 a h
theorem wP : ∀ (l : List (List Nat × Nat)) (e : DV × DV), e ∈ bFv l → ∃ x ∈ l, e = (.s x.1, .i .i64 (.ofNat x.2))
 | [], e, h => by cases h
 | x :: l, e, h => by
  change e ∈ (DV.s x.1, DV.i .i64 (.ofNat x.2)) :: bFv l at h
  simp only [List.mem_cons] at h
  rcases h with rfl | h
  ·exact ⟨x, by simp, rfl⟩
  ·obtain ⟨y, h1, h2⟩ := wP l e h
   exact ⟨y, by simp [h1], h2⟩
theorem cMe : cUw (bIo MN (RN.getD 13 0)) syN = true := by kernel_rfl
theorem KN : Wk hW MN RN esN := ⟨WN, GN, fun e he => by
 obtain ⟨x, h1, h2⟩ := wP syN e he
 exact ⟨x.1, _, h2, bAo (aMt cMe x h1)⟩, by kernel_rfl, dLz⟩
theorem cDe (s : List Nat) (h : Hp) : dW (.s s) h = some (.i .i64 (s.length : Int), h) := rfl
theorem wW (s : ByteArray) : ∀ c ∈ s.data.toList.map (·.toNat), c < 256 := by
 intro c hc
 obtain ⟨b, _, rfl⟩ := List.mem_map.1 hc
 exact b.toNat_lt
end Go.Dd

namespace Go.Dd
open Go.Proofs
theorem bGh (x : Int) : gR x x = true := by
 cases x with
 | ofNat n => exact Nat.beq_refl n
 | negSucc n => exact Nat.beq_refl n
theorem dJ (x y : Int) : gR x y = true ↔ x = y := ⟨nH x y, fun e => by rw [e]; exact bGh y⟩
noncomputable def bNh (p : Nat → Bool) (n : Nat) : Bool := Nat.rec (motive := fun _ => Bool) true (fun i ih => p i && ih) n
theorem tJ {p : Nat → Bool} : ∀ {n : Nat}, bNh p n = true → ∀ i, i < n → p i = true
 | 0, _, i, h => by omega
 | n + 1, hl, i, h => by
  change (p n && bNh p n) = true at hl
  simp only [Bool.and_eq_true] at hl
  by_cases e : i = n
  ·rw [e]; exact hl.1
  ·exact tJ hl.2 i (by omega)
noncomputable def cKh (a : Nat) (l : List Nat) : Bool := List.rec (motive := fun _ => Bool) false (fun x _ ih => Nat.beq a x || ih) l
theorem vK {a : Nat} : ∀ {l : List Nat}, cKh a l = true → a ∈ l
 | [], h => by cases h
 | x :: l, h => by
  change (Nat.beq a x || cKh a l) = true at h
  simp only [Bool.or_eq_true] at h
  rcases h with h | h
  ·rw [Nat.eq_of_beq_eq_true h]; exact List.mem_cons_self
  ·exact List.mem_cons_of_mem _ (vK h)
noncomputable def byB (v : Int) : Bool := match v with
 | .ofNat c => Nat.blt c 256
 | .negSucc _ => false
noncomputable def aOg (a b : Bool) : Bool := bif a then b else true
theorem kV {a b : Bool} (h : aOg a b = true) (ha : a = true) : b = true := by rw [ha] at h; exact h
noncomputable def obB (M : MemV) (R : List Int) (CL : List Nat) (a hd : Nat) : Bool :=
 Nat.ble (Nat.div hd 4) 256 && (Nat.ble (Nat.mod hd 4) 2 && (aOg (gR (M.t.get (Nat.add a 1)) (R.getD 11 0)) (Nat.beq (Nat.mod hd 4) 0) &&
  (aOg (gR (M.t.get (Nat.add a 1)) (R.getD 12 0)) (Nat.beq (Nat.mod hd 4) 2) && (aOg (gR (M.t.get (Nat.add a 1)) (R.getD 13 0)) (Nat.beq (Nat.mod hd 4) 2) &&
  (aOg (Nat.beq (Nat.mod hd 4) 2) (bNh (fun i => byB (M.t.get (Nat.add (Nat.add a 3) i))) (Nat.div hd 4)) && (aOg (gR (M.t.get (Nat.add a 1)) (R.getD 3 0)) (cKh a CL) &&
  aMn (fun c => aOg (gR (M.t.get (Nat.add c 8)) 1) (!(gR (M.t.get (Nat.add a 1)) (.ofNat (Nat.mul 2 c))))) CL))))))
theorem dBt {M : MemV} {R : List Int} {CL : List Nat} {a hd : Nat} (h : obB M R CL a hd = true) : ObI M R CL a hd := by
 unfold obB at h
 simp only [Bool.and_eq_true, iV, decide_eq_true_eq] at h
 obtain ⟨h1, h2, h3, h4, h5, h6, h7, h8⟩ := h
 refine ⟨h1, h2, fun q => ?_, fun q => ?_, fun q i hi => ?_, fun q => ?_, fun _ c hc q1 q2 => ?_⟩
 ·exact Nat.eq_of_beq_eq_true (kV h3 ((dJ _ _).2 q))
 ·rcases q with q | q
  ·exact Nat.eq_of_beq_eq_true (kV h4 ((dJ _ _).2 q))
  ·exact Nat.eq_of_beq_eq_true (kV h5 ((dJ _ _).2 q))
 ·have hb := tJ (kV h6 (show Nat.beq (Nat.mod hd 4) 2 = true by rw [show Nat.mod hd 4 = 2 from q]; rfl)) i hi
  change byB (M.t.get (a + 3 + i)) = true at hb
  cases hv : M.t.get (a + 3 + i) with
  | ofNat c => rw [hv] at hb; exact ⟨c, by simpa [byB, fV] using hb, rfl⟩
  | negSucc c => rw [hv] at hb; cases hb
 ·exact vK (kV h7 ((dJ _ _).2 q))
 ·exfalso
  have q3 := kV (jR h8 c hc) ((dJ _ _).2 q1)
  rw [(dJ _ _).2 (show M.t.get (Nat.add a 1) = .ofNat (Nat.mul 2 c) from q2)] at q3
  cases q3
noncomputable def aAq (M : MemV) (a : Nat) (p : Nat → Bool) : Bool := match M.t.get a with
 | .ofNat hd => p hd
 | .negSucc _ => true
noncomputable def clB (M : MemV) (R : List Int) (c : Nat) : Bool :=
 Nat.ble 3 c && (Nat.ble c 131072 && (!(gR (M.pl.get c) 0) && (gR (M.t.get c) (.ofNat 24) && (gR (M.t.get (Nat.add c 1)) (R.getD 3 0) &&
  (aAq M (Nat.add c 5) (fun s => Nat.ble s 33 && Nat.beq (Nat.mod s 2) 1) && (aAq M (Nat.add c 8) (fun s => Nat.ble s 7 && Nat.beq (Nat.mod s 2) 1) && (byB (M.t.get (Nat.add c 5)) && byB (M.t.get (Nat.add c 8)))))))))
noncomputable def nmB (M : MemV) (R : List Int) (sy : List (List Nat × Nat)) (c : Nat) : Bool :=
 List.rec (motive := fun _ => Bool) false (fun e _ ih => (gR (M.t.get (Nat.add c 3)) (.ofNat e.2) && (bIo M (R.getD 13 0) e && (Nat.ble 1 e.1.length && Nat.ble e.1.length 60))) || ih) sy
theorem bVe {M : MemV} {R : List Int} {c : Nat} : ∀ {sy : List (List Nat × Nat)}, nmB M R sy c = true → ∃ s, TxO M (R.getD 13 0) (M.t.get (c + 3)) s ∧ 1 ≤ s.length ∧ s.length ≤ 60
 | [], h => by cases h
 | e :: sy, h => by
  change ((gR (M.t.get (c + 3)) (.ofNat e.2) && (bIo M (R.getD 13 0) e && (Nat.ble 1 e.1.length && Nat.ble e.1.length 60))) || nmB M R sy c) = true at h
  simp only [Bool.or_eq_true] at h
  rcases h with h | h
  ·simp only [Bool.and_eq_true, iV, decide_eq_true_eq] at h
   obtain ⟨q1, q2, q3, q4⟩ := h
   exact ⟨e.1, by rw [(dJ _ _).1 q1]; exact bAo q2, q3, q4⟩
  ·exact bVe h
theorem cXk {M : MemV} {R : List Int} {c : Nat} {sy : List (List Nat × Nat)} (h : clB M R c = true) (hn : nmB M R sy c = true) : ClI M R c := by
 unfold clB at h
 simp only [Bool.and_eq_true, iV, decide_eq_true_eq] at h
 obtain ⟨h1, h2, h3, h4, h5, h6, h7, h8, h9⟩ := h
 have num : ∀ (j m : Nat), aAq M (c + j) (fun s => decide (s ≤ 2 * m + 1) && Nat.beq (Nat.mod s 2) 1) = true → byB (M.t.get (c + j)) = true → ∃ z : Nat, z ≤ m ∧ M.t.get (c + j) = .ofNat (2 * z + 1) := fun j m q1 q2 => by
  cases hv : M.t.get (c + j) with
  | negSucc x => rw [hv] at q2; cases q2
  | ofNat x =>
   unfold aAq at q1
   rw [hv] at q1
   simp only [Bool.and_eq_true, decide_eq_true_eq] at q1
   have e : x % 2 = 1 := Nat.eq_of_beq_eq_true q1.2
   exact ⟨x / 2, by omega, by rw [show 2 * (x / 2) + 1 = x by omega]⟩
 refine ⟨⟨h1, h2⟩, fun e => ?_, (dJ _ _).1 h4, (dJ _ _).1 h5, bVe hn, num 5 16 h6 h8, num 8 3 h7 h9⟩
 rw [e] at h3
 cases h3
noncomputable def djB (M : MemV) (l : List Nat) : Nat → Bool := List.rec (motive := fun _ => Nat → Bool) (fun _ => true) (fun a _ ih lo => Nat.ble lo a && (match M.t.get a with
 | .ofNat hd => ih (Nat.add (Nat.add a 3) (Nat.div hd 4))
 | .negSucc _ => false)) l
theorem bSo {M : MemV} : ∀ {l : List Nat} {lo : Nat}, djB M l lo = true → (∀ a ∈ l, lo ≤ a) ∧ ∀ a ∈ l, ∀ b ∈ l, a < b → ∀ hd : Nat, M.t.get a = .ofNat hd → a + 3 + hd / 4 ≤ b
 | [], lo, h => ⟨fun a ha => (by cases ha), fun a ha => (by cases ha)⟩
 | x :: l, lo, h => by
  change (Nat.ble lo x && (match M.t.get x with
   | .ofNat hd => djB M l (x + 3 + hd / 4)
   | .negSucc _ => false)) = true at h
  simp only [Bool.and_eq_true, iV, decide_eq_true_eq] at h
  obtain ⟨h1, h2⟩ := h
  cases hx : M.t.get x with
  | negSucc k => rw [hx] at h2; cases h2
  | ofNat k =>
   rw [hx] at h2
   obtain ⟨i1, i2⟩ := bSo (l := l) h2
   refine ⟨fun a ha => ?_, fun a ha b hb hab hd hh => ?_⟩
   ·rcases List.mem_cons.1 ha with rfl | ka
    ·exact h1
    ·have := i1 a ka
     omega
   ·rcases List.mem_cons.1 ha with rfl | ka
    ·rcases List.mem_cons.1 hb with rfl | kb
     ·omega
     ·rw [hx] at hh
      cases hh
      exact i1 b kb
    ·rcases List.mem_cons.1 hb with rfl | kb
     ·have := i1 a ka
      omega
     ·exact i2 a ka b kb hab hd hh
noncomputable def giB (M : MemV) (R : List Int) (CL : List Nat) (pls : List Nat) (sy : List (List Nat × Nat)) : Bool :=
 djB M pls 0 && (gR (M.t.get 0) 0 && (gR (M.t.get 1) 0 && (aMn (fun a => aAq M a (obB M R CL a)) pls && (aMn (fun c => clB M R c && nmB M R sy c) CL &&
  (bNh (fun i => gR (R.getD (Nat.add 2 i) 0) (.ofNat (Nat.add 6 (Nat.mul 18 i)))) 16 && (bNh (fun i => cKh (Nat.add 3 (Nat.mul 9 i)) CL) 16 &&
  (gR (M.t.get 92) 3 && (gR (M.t.get 101) 5 && (gR (M.t.get 110) 5 && (gR (M.t.get 83) 7 && gR (M.t.get 20) 7))))))))))
theorem cWc {M : MemV} {R : List Int} {CL : List Nat} {pls : List Nat} {sy : List (List Nat × Nat)} (hp : M.pl = mkP pls .e) (hb : ∀ x ∈ pls, x < 16000000) (h : giB M R CL pls sy = true) : GI M R CL := by
 unfold giB at h
 simp only [Bool.and_eq_true] at h
 obtain ⟨h0, h1, h2, h3, h4, h5, h6, h7, h8, h9, h10, h11⟩ := h
 have mem : ∀ a, M.pl.get a ≠ 0 → a ∈ pls := fun a ha => by
  rw [hp] at ha
  rcases uK pls .e a hb ha with q | q
  ·exact q
  ·exact absurd rfl q
 refine ⟨(dJ _ _).1 h1, (dJ _ _).1 h2, fun a ha hd hh => ?_, fun a b ha hb' => (bSo h0).2 a (mem a ha) b (mem b hb'), fun c hc => ?_, fun i hi => (dJ _ _).1 (tJ h5 i hi), fun i hi => vK (tJ h6 i hi), (dJ _ _).1 h7, (dJ _ _).1 h8, (dJ _ _).1 h9, (dJ _ _).1 h10, (dJ _ _).1 h11⟩
 ·have hm : a ∈ pls := by
   rw [hp] at ha
   rcases uK pls .e a hb ha with q | q
   ·exact q
   ·exact absurd rfl q
  have q := jR h3 a hm
  unfold aAq at q
  rw [hh] at q
  exact dBt q
 ·have q := jR h4 c hc
  simp only [Bool.and_eq_true] at q
  exact cXk q.1 q.2
def CLW : List Nat := [3, 12, 21, 30, 39, 48, 57, 66, 75, 84, 93, 102, 111, 120, 129, 138, 4357]
theorem cLu : giB MN RN CLW plN syN = true := by kernel_rfl
theorem cVt : aMn (fun x => Nat.blt x 16000000) plN = true := by kernel_rfl
theorem GIN : GI MN RN CLW := cWc cRk (fun x hx => by have := jR cVt x hx; simpa [fV] using this) cLu
end Go.Dd

namespace Go.Dd
open Go.Proofs
noncomputable def bV (M : MemV) (o : Int) : Nat := match M.t.get (bQ o M.pl) with
 | .ofNat hd => hd
 | .negSucc _ => 0
noncomputable def nJ (M : MemV) (o : Int) (i : Nat) : Int := if bQ o M.pl ≠ 0 ∧ i < bV M o / 4 then M.t.get (bQ o M.pl + 3 + i) else 0
noncomputable def kH (M : MemV) (o : Int) : Int := M.t.get (bQ o M.pl + 1)
noncomputable def dEz (w : Int) : Int := if dI w = true then qB w else 0
noncomputable def gM (M : MemV) (R : List Int) (x : Int) : Option Int := if dI x = true then some (qB x) else if (bQ x M.pl ≠ 0 ∧ kH M x = R.getD 10 0) ∧ bV M x % 4 = 1 then some (nJ M x 0) else none
section
variable {h : Hp} {M : MemV} {R : List Int} {es : List (DV × DV)} {CL : List Nat} {z : Prop}
theorem xW {M : MemV} {o : Int} (h : bQ o M.pl ≠ 0) : M.pl.get (bQ o M.pl) ≠ 0 := by
 rcases mX o M.pl with e | ⟨e, _⟩
 ·exact absurd e h
 ·have := (atN_pos (o := o) (pl := M.pl)).1 h
  rw [e]
  exact this.2
theorem GI.head (I : GI M R CL z) (G : Good M) (o : Int) (k : Nat → aH) : hC M o k = k (bV M o) := by
 by_cases e : bQ o M.pl = 0
 ·have b1 : Nat.blt (Nat.add (bQ o M.pl) 1) M.n = true := by
   rw [fV, e]
   have := G.lo; have := G.le
   exact decide_eq_true (show 0 + 1 < M.n by omega)
  unfold hC bV
  rw [b1, e, I.z0]
  rfl
 ·obtain ⟨h3, hd, h1, h2, h4, _⟩ := G.ob _ (xW e)
  have hl := G.le
  have b1 : Nat.blt (Nat.add (bQ o M.pl) 1) M.n = true := by
   rw [fV]; exact decide_eq_true (show bQ o M.pl + 1 < M.n by omega)
  have b2 : Nat.blt hd 1000000000000 = true := by rw [fV]; exact decide_eq_true h2
  unfold hC bV
  rw [b1, h1]
  simp only [cond_true, b2]
theorem GI.headOb (I : GI M R CL z) (G : Good M) {o : Int} (e : bQ o M.pl ≠ 0) : M.t.get (bQ o M.pl) = .ofNat (bV M o) ∧ ObI M R CL (bQ o M.pl) (bV M o) z ∧ bQ o M.pl + 3 + bV M o / 4 ≤ M.fin ∧ 3 ≤ bQ o M.pl := by
 obtain ⟨h3, hd, h1, h2, h4, _⟩ := G.ob _ (xW e)
 have eh : bV M o = hd := by unfold bV; rw [h1]
 rw [eh]
 exact ⟨h1, I.ob _ (xW e) _ h1, h4, h3⟩
theorem Wd.clsA (W : Wd h M R es) (G : Good M) (I : GI M R CL z) (o : Int) : iX [.p (aS 3) 0, .i .i64 o] h = some (iD (kH M o), h) := by
 simp only [iX, iU, W.mem, I.head G, Nat.add_eq, kH]
theorem Wd.fmtA (W : Wd h M R es) (G : Good M) (I : GI M R CL z) (o : Int) : kA [.p (aS 3) 0, .i .i64 o] h = some (.i .i64 (.ofNat (bV M o % 4)), h) := by
 simp only [kA, iU, W.mem, I.head G]
 rfl
theorem Wd.fieldsA (W : Wd h M R es) (G : Good M) (I : GI M R CL z) (o : Int) : fF [.p (aS 3) 0, .i .i64 o] h = some (.i .i64 (.ofNat (bV M o / 4)), h) := by
 simp only [fF, iU, W.mem, I.head G]
 rfl
theorem Wd.getA (W : Wd h M R es) (G : Good M) (I : GI M R CL z) (o : Int) (i : Nat) : ∃ e, qJ [.p (aS 3) 0, .i .i64 o, .i .i64 (.ofNat i)] h = some (.t [iD (nJ M o i), iD e], h) ∧ (e = 0 ↔ (bQ o M.pl ≠ 0 ∧ i < bV M o / 4)) := by
 unfold nJ
 by_cases e : bQ o M.pl = 0
 ·refine ⟨1, ?_, by simp [e]⟩
  rw [if_neg (by simp [e])]
  simp only [qJ, iU, W.mem, gL, e, err]
  rfl
 ·obtain ⟨h1, _, h4, h3⟩ := I.headOb G e
  have hl := G.le
  by_cases hi : i < bV M o / 4
  ·refine ⟨0, ?_, by simp [e, hi]⟩
   rw [if_pos ⟨e, hi⟩]
   have b1 : Nat.ble (Nat.div (bV M o) 4) i = false := by
    rw [iV]; exact decide_eq_false (show ¬ (bV M o / 4 ≤ i) by omega)
   have b2 : Nat.blt (Nat.add (Nat.add (bQ o M.pl) 3) i) M.n = true := by
    rw [fV]; exact decide_eq_true (show bQ o M.pl + 3 + i < M.n by omega)
   simp only [qJ, iU, W.mem, gL, bDd e, cond_false, I.head G, b1, b2, cond_true]
   rfl
  ·refine ⟨5, ?_, by simp [hi]⟩
   rw [if_neg (by simp [hi])]
   have b1 : Nat.ble (Nat.div (bV M o) 4) i = true := by
    rw [iV]; exact decide_eq_true (show bV M o / 4 ≤ i by omega)
   simp only [qJ, iU, W.mem, gL, bDd e, cond_false, I.head G, b1, cond_true, err]
   rfl
theorem Wd.getG (W : Wd h M R es) (G : Good M) (I : GI M R CL z) (o : Int) (i n : Nat) : dC (n + 1) 51 [.p (aS 7) 0, .i .i64 o, .i .i64 (.ofNat i)] h = some (iD (nJ M o i), h) := by
 rw [nN 51 rfl, cSo]
 unfold s51
 obtain ⟨e, h1, _⟩ := W.getA G I o i
 have g2 : ∀ (a b c : DV) (l : List DV), (a :: b :: c :: l).getD 2 aW = c := fun _ _ _ _ => rfl
 simp only [g0, g1, g2, eY, nR, aQ, W.l00, h1, nV, oZ]
theorem dPz (w : Int) (h : Hp) : jQ [.i .i64 w] h = some (iD (dEz w), h) := by
 show ((bif dI w then some (DV.i .i64 (qB w), h) else some (DV.i .i64 (.ofNat 0), h)) : aH) = _
 unfold dEz
 cases dI w <;> rfl
theorem Wd.value (W : Wd h M R es) (G : Good M) (I : GI M R CL z) (x : Int) (n : Nat) : dC (n + 2) 15 [.p (aS 7) 0, .i .i64 x] h = some (.t [iD ((gM M R x).getD 0), .b (gM M R x).isSome], h) := by
 rw [nN 15 rfl, cRr]
 unfold s15 gM
 cases hs : dI x with
 | true =>
  have e1 : ∀ h, eM [.i .i64 x] h = some (.b true, h) := fun h => by rw [eM, hs]
  have e2 : ∀ h, jQ [.i .i64 x] h = some (iD (qB x), h) := fun h => by rw [dPz, dEz, hs]; rfl
  simp only [g0, g1, e1, e2, aQ, bM, if_true, Option.getD_some, Option.isSome_some]
 | false =>
  have e1 : ∀ h, eM [.i .i64 x] h = some (.b false, h) := fun h => by rw [eM, hs]
  have k : dC (n + 1) 30 [.p (aS 7) 0, .i .i64 (Int.ofNat 8)] h = some (iD (R.getD 10 0), h) := W.known (show 8 < 16 by omega) n
  simp only [Bool.false_eq_true, if_false]
  by_cases e : bQ x M.pl = 0
  ·have b : (!(Nat.beq (bQ x M.pl) 0)) = false := by rw [e]; rfl
   rw [if_neg (fun q => q.1.1 e)]
   simp only [g0, g1, e1, aQ, bH, eY, nR, W.l00, W.is, b, gB, jJ, bT]
   rfl
  ·have b : (!(Nat.beq (bQ x M.pl) 0)) = true := by rw [bDd e]; rfl
   by_cases e2 : kH M x = R.getD 10 0
   ·have zz : (kH M x == R.getD 10 0) = true := by rw [e2]; exact beq_self_eq_true _
    by_cases e3 : bV M x % 4 = 1
    ·have z3 : (Int.ofNat (bV M x % 4) == Int.ofNat 1) = true := by rw [e3]; rfl
     rw [if_pos ⟨⟨e, e2⟩, e3⟩]
     simp only [g0, g1, e1, aQ, bH, eY, nR, W.l00, W.is, b, jE, W.clsA G I, k, cB, zz, bZ, W.fmtA G I, z3, bM, W.getG G I x 0 n, Option.getD_some, Option.isSome_some]
    ·have z3 : (Int.ofNat (bV M x % 4) == Int.ofNat 1) = false := by
      have : ¬ (Int.ofNat (bV M x % 4) = Int.ofNat 1) := fun q => e3 (Int.ofNat.inj q)
      simpa using this
     rw [if_neg (fun q => e3 q.2)]
     simp only [g0, g1, e1, aQ, bH, eY, nR, W.l00, W.is, b, jE, W.clsA G I, k, cB, zz, bZ, W.fmtA G I, z3, bH]
     rfl
   ·have zz : (kH M x == R.getD 10 0) = false := by simpa using e2
    rw [if_neg (fun q => e2 q.1.2)]
    simp only [g0, g1, e1, aQ, bH, eY, nR, W.l00, W.is, b, jE, W.clsA G I, k, cB, zz, bZ, bT, gB, jJ, bH]
    rfl
end
end Go.Dd

namespace Go.Dd
open Go.Proofs
theorem pcf {rec : FuncId → List DV → Hp → aH} {g : FuncId} (hg : CF.I g = none) (a l b : List DV) (h : Hp) : cX CF rec (.f g a b) l h = rec g (a ++ l ++ b) h := by
 show bR CF rec g (a ++ l ++ b) h = _
 rw [iF hg]
section
variable {h : Hp} {M : MemV} {R : List Int} {es : List (DV × DV)}
theorem Wk.make0 (K : Wk h M R es) {cls : Int} (hc : bQ cls M.pl ≠ 0) {f c : Nat} (hf : f ≤ 2) (h256 : c ≤ 256) (room : M.fin + c + 3 ≤ M.n) (hm : M.made < 899999) :
  ∃ h' M', iZ [.p (aS 3) 0, .i .i64 cls, .i .i64 (.ofNat f), .i .i64 (.ofNat c)] h = some (.t [.i .i64 (.ofNat (M.fin * 2)), .i .i64 (.ofNat 0)], h') ∧ Wk h' M' R es ∧ Up h h' ∧ Grown M M' f cls (List.replicate c 0) := by
 have h1 := K.G.le
 have h2 := K.G.lo
 have h3 := K.G.hi
 obtain ⟨h', e1, W1, U1, _⟩ := K.W.make K.G hc hf h256 room
 have t1 : ∀ j, (M.mk1 f c cls).t.get j = if M.fin + 3 ≤ j ∧ j < M.fin + 3 + c then 0 else if j = M.fin + 2 then .ofNat (M.made + 1) else if j = M.fin + 1 then cls else if j = M.fin then .ofNat (c * 4 + f) else M.t.get j := fun j => by
  show (kW _ c (M.fin + 3)).get j = _
  rw [nA _ _ _ _ (by omega), WT.get_set _ _ _ _ (by omega), WT.get_set _ _ _ _ (by omega), WT.get_set _ _ _ _ (by omega)]
 have g : Grown M (M.mk1 f c cls) f cls (List.replicate c 0) := by
  refine ⟨rfl, by rw [List.length_replicate]; rfl, rfl, rfl, ?_, ?_, fun j hj => ?_, fun i v hi => ?_⟩
  ·rw [t1, if_neg (by omega), if_neg (by omega), if_neg (by omega), if_pos rfl, List.length_replicate]
  ·rw [t1, if_neg (by omega), if_neg (by omega), if_pos rfl]
  ·rw [t1, if_neg (by omega), if_neg (by omega), if_neg (by omega), if_neg (by omega)]
  ·have hl : i < c := by
    rcases Nat.lt_or_ge i c with q | q
    ·exact q
    ·rw [List.getElem?_eq_none (by simpa using q)] at hi; cases hi
   rw [List.getElem?_replicate, if_pos hl] at hi
   cases hi
   rw [t1, if_pos (by omega)]
 exact ⟨h', _, e1, g.wk K W1 hc hf (by rw [List.length_replicate]; exact h256) (by rw [List.length_replicate]; exact room) hm, U1, g⟩
theorem bEc {M : MemV} {R : List Int} {a n : Int} (h : dI a = true) (e : qB a = n) : gM M R a = some n := by
 unfold gM
 rw [if_pos h, e]
theorem Wk.num (K : Wk h M R es) (room : M.fin + 4 ≤ M.n) (hm : M.made < 899999) (n : Int) {k : Nat} (hk : 256 < k) :
  ∃ a e h' M', dC (k + 2) 42 [.p (aS 7) 0, .i .i64 n] h = some (.t [iD a, iD e], h') ∧ Wk h' M' R es ∧ Up h h' ∧ Stay 4 M M' R R es es ∧
   ((¬ (-1152921504606846976 ≤ n ∧ n ≤ 1152921504606846976) ∧ e = 2 ∧ a = 0) ∨ ((-1152921504606846976 ≤ n ∧ n ≤ 1152921504606846976) ∧ e = 0 ∧ gM M' R a = some n ∧ dK a M'.pl = true)) := by
 obtain ⟨a, e, h', M', e1, W', G', U', hA⟩ := K.W.number K.G K.rk room hm n hk
 cases hA with
 | out h1 h2 =>
  subst h2
  exact ⟨0, 2, h', M', e1, ⟨W', G', K.sy, K.r0, K.rk⟩, U', Stay.refl _ _ _ _, .inl ⟨h1, rfl, rfl⟩⟩
 | small a h1 h2 h3 h4 =>
  subst h4
  refine ⟨a, 0, h', M', e1, ⟨W', G', K.sy, K.r0, K.rk⟩, U', Stay.refl _ _ _ _, .inr ⟨by omega, rfl, bEc h2 h3, ?_⟩⟩
  unfold dK
  split <;> first | rfl | (rw [h2]; rfl)
 | big h1 h2 g =>
  have hc : bQ (R.getD 10 0) M.pl ≠ 0 := K.rk 8 (by omega)
  have st := g.stay K.G R es (fun CL I => I.newK (i := 8) (.inr (.inr ⟨rfl, rfl⟩)) (by simp) (fun q => by cases q))
  have ha : bQ (.ofNat (M.fin * 2)) M'.pl = M.fin := by rw [g.pl]; exact aDw K.G.lo (by have := K.G.le; have := K.G.hi; omega)
  have h0 := K.G.lo
  have hs : dI (.ofNat (M.fin * 2)) = false := by
   rw [lI]
   refine decide_eq_false fun q => ?_
   have q1 := q.1
   simp at q1
   try omega
  refine ⟨_, 0, h', M', e1, g.wk K W' hc (by omega) (by simp) (by simp; omega) hm, U', st, .inr ⟨h1, rfl, ?_, sC (by rw [ha]; omega)⟩⟩
  unfold gM
  have hh : bV M' (.ofNat (M.fin * 2)) = 5 := by unfold bV; rw [ha, g.hd]; rfl
  rw [if_neg (by rw [hs]; simp), if_pos ⟨⟨by rw [ha]; omega, by unfold kH; rw [ha, g.cl]⟩, by rw [hh]⟩]
  unfold nJ
  rw [ha, hh, if_pos ⟨by omega, by omega⟩]
  have := g.new 0 n rfl
  rw [Nat.add_zero] at this ⊢
  all_goals rw [this]
theorem Wd.notMay (W : Wd h M R es) {b : Pos} (hb : h.bl.get b = some (.row .ex [.p (aS 7) 0])) (v : Int) (n : Nat) : dC (n + 1) 84 [.i .i64 v, .p b 0] h = some (.b (!(dK v M.pl)), h) := by
 rw [nN 84 rfl, cRw]
 unfold s84
 have l : aA (.p b 0) h = some (.p (aS 7) 0, h) := by simp only [aA, cellD, rowOf, hb, List.getElem?_cons_zero, DV.one, if_true]
 simp only [g0, g1, l, aQ, eY, nR, W.l00, W.may, iC]
theorem aLx {l : List Int} {p : Int → Bool} {i : Nat} {v : Int} (h : l[i]? = some v) : (l.drop i).any p = (p v || (l.drop (i + 1)).any p) := by
 have hi : i < l.length := by
  rcases Nat.lt_or_ge i l.length with q | q
  ·exact q
  ·rw [List.getElem?_eq_none q] at h; cases h
 rw [List.drop_eq_getElem_cons hi, List.any_cons]
 rw [List.getElem?_eq_getElem hi] at h
 cases h
 rfl
theorem Wd.find (W : Wd h M R es) {x : DV} {l : List Int} (S : SlI x l h) {b : Pos} (hb : h.bl.get b = some (.row .ex [.p (aS 7) 0])) {n : Nat} (hl : l.length ≤ 256) : ∀ (k i m : Nat), k + i = l.length → k < m →
  ∃ r : Int, iW (dC (n + 1)) (n + 1) m x (.f 84 [] [.p b 0]) (iD l.length) (.i .i64 (Int.ofNat i)) h = some (iD r, h) ∧ (decide (r ≥ Int.ofNat 0) = (l.drop i).any fun v => !(dK v M.pl)) := by
 intro k
 induction k with
 | zero =>
  intro i m he hm
  obtain ⟨m, rfl⟩ : ∃ m', m = m' + 1 := ⟨m - 1, by omega⟩
  refine ⟨-1, ?_, ?_⟩
  ·show gS (dC (n + 1)) (n + 1) (iW (dC (n + 1)) (n + 1) m) _ _ _ _ h = _
   unfold gS
   have d : decide (Int.ofNat i < (l.length : Int)) = false := decide_eq_false (by simp; omega)
   simp only [cM, d, aQ, bH]
   rfl
  ·rw [List.drop_eq_nil_of_le (by omega)]
   rfl
 | succ k ih =>
  intro i m he hm
  obtain ⟨m, rfl⟩ : ∃ m', m = m' + 1 := ⟨m - 1, by omega⟩
  have hi : i < l.length := by omega
  have hv : l[i]? = some l[i] := List.getElem?_eq_getElem hi
  obtain ⟨a, e1, e2⟩ := S.at hv
  obtain ⟨r, q1, q2⟩ := ih (i + 1) m (by omega) (by omega)
  have d : decide (Int.ofNat i < (l.length : Int)) = true := decide_eq_true (by simp; omega)
  have hc : cX CF (dC (n + 1)) (.f 84 [] [.p b 0]) [iD l[i]] h = some (.b (!(dK l[i] M.pl)), h) := by
   rw [pcf rfl]
   exact W.notMay hb l[i] n
  have ha : aD .add (.i .i64 (Int.ofNat i)) (.i .i64 (Int.ofNat 1)) h = some (.i .i64 (Int.ofNat (i + 1)), h) := gG i 1 h (by omega)
  rw [aLx hv]
  cases hmay : dK l[i] M.pl with
  | false =>
   refine ⟨Int.ofNat i, ?_, by simp⟩
   show gS (dC (n + 1)) (n + 1) (iW (dC (n + 1)) (n + 1) m) _ _ _ _ h = _
   unfold gS
   rw [hmay] at hc
   simp only [cM, d, aQ, bM, e1, e2, hc, Bool.not_false]
  | true =>
   refine ⟨r, ?_, by rw [q2]; rfl⟩
   show gS (dC (n + 1)) (n + 1) (iW (dC (n + 1)) (n + 1) m) _ _ _ _ h = _
   unfold gS
   rw [hmay] at hc
   simp only [cM, d, aQ, bM, e1, e2, hc, Bool.not_true, bH, ha]
   exact q1
theorem Wd.contains (W : Wd h M R es) {x : DV} {l : List Int} (S : SlI x l h) {b : Pos} (hb : h.bl.get b = some (.row .ex [.p (aS 7) 0])) (hl : l.length ≤ 256) {n : Nat} (hn : 256 < n) :
  dC (n + 3) 52 [x, .f 84 [] [.p b 0]] h = some (.b (l.any fun v => !(dK v M.pl)), h) := by
 rw [nN 52 rfl, bUr]
 unfold s52
 obtain ⟨r, q1, q2⟩ := W.find S hb (n := n) hl l.length 0 (n + 1) (by omega) (by omega)
 have e : dC (n + 2) 89 [x, .f 84 [] [.p b 0]] h = some (iD r, h) := by
  rw [nN 89 rfl, bOe]
  unfold s89 aMv aLr bBp
  simp only [g0, g1, S.len (h' := h), aQ]
  exact q1
 simp only [g0, g1, e, aQ, jG, q2, List.drop_zero]
end
end Go.Dd

namespace Go.Dd
open Go.Proofs
theorem dBm (b : Pos) (o : Nat) (h : Hp) : bG (some (.p b o, h)) (.p b o) = true := by
 unfold bG
 simp [DV.beq]
section
variable {h : Hp} {M : MemV} {R : List Int} {es : List (DV × DV)}
theorem Wk.array (K : Wk h M R es) {x : DV} {l : List Int} (S : SlI x l h) (h256 : l.length ≤ 256) (room : M.fin + l.length + 3 ≤ M.n) (hm : M.made < 899999) {n : Nat} (hn : 256 < n) :
  ∃ a e h' M', dC (n + 4) 46 [.p (aS 7) 0, x] h = some (.t [iD a, iD e], h') ∧ Wk h' M' R es ∧ Up h h' ∧
   ((¬ (l.length ≤ 250 ∧ ∀ v ∈ l, dK v M.pl = true) ∧ e = 1 ∧ a = 0 ∧ M' = M) ∨ ((l.length ≤ 250 ∧ ∀ v ∈ l, dK v M.pl = true) ∧ e = 0 ∧ a = .ofNat (M.fin * 2) ∧ Grown M M' 0 (R.getD 11 0) l)) := by
 rw [nN 46 rfl, cRx]
 unfold s46
 obtain ⟨U1, W1⟩ := K.W.new (.row .ex [.p (aS 7) 0])
 obtain ⟨h1, hh1⟩ : ∃ h1 : Hp, (⟨h.next.succ, Tr.set (.row .ex [.p (aS 7) 0]) h.next h.bl⟩ : Hp) = h1 := ⟨_, rfl⟩
 rw [hh1] at U1 W1
 have eb : bO (.p (aS 7) 0) h = some (.p h.next 0, h1) := by rw [← hh1]; rfl
 have hb : h1.bl.get h.next = some (.row .ex [.p (aS 7) 0]) := by rw [← hh1]; exact dSr _ _ _
 have S1 := S.up U1
 have K1 : Wk h1 M R es := ⟨W1, K.G, K.sy, K.r0, K.rk⟩
 have ld : aA (.p h.next 0) h1 = some (.p (aS 7) 0, h1) := by simp only [aA, cellD, rowOf, hb, List.getElem?_cons_zero, DV.one, if_true]
 have el : ∀ h, cA x h = some (iD l.length, h) := fun h => S.len
 by_cases c1 : l.length > 250
 ·have d1 : decide ((l.length : Int) > Int.ofNat 250) = true := decide_eq_true (by simp; omega)
  refine ⟨0, 1, h1, M, ?_, K1, U1, .inl ⟨fun q => by omega, rfl, rfl, rfl⟩⟩
  simp only [g0, g1, eb, aQ, el, fZ, d1, fH, bZ, bM]
  rfl
 ·have d1 : decide ((l.length : Int) > Int.ofNat 250) = false := decide_eq_false (by simp; omega)
  have hc := W1.contains S1 hb h256 hn
  cases ha : l.any (fun v => !(dK v M.pl)) with
  | true =>
   rw [ha] at hc
   refine ⟨0, 1, h1, M, ?_, K1, U1, .inl ⟨fun q => ?_, rfl, rfl, rfl⟩⟩
   ·simp only [g0, g1, eb, aQ, el, fZ, d1, gF, hc, bT, bM]
    rfl
   ·obtain ⟨v, hv, hv2⟩ := List.any_eq_true.1 ha
    rw [q.2 v hv] at hv2
    cases hv2
  | false =>
   rw [ha] at hc
   have hall : ∀ v ∈ l, dK v M.pl = true := fun v hv => by
    cases hq : dK v M.pl with
    | true => rfl
    | false =>
     have : l.any (fun v => !(dK v M.pl)) = true := List.any_eq_true.2 ⟨v, hv, by rw [hq]; rfl⟩
     rw [this] at ha
     cases ha
   have hk : M.fin < 16000000 := by have := K.G.le; have := K.G.hi; omega
   obtain ⟨h2, M2, e2, W2, U2, _, g2⟩ := W1.make61 K.G (K.rk 9 (by omega)) (f := 0) (by omega) S1 (by omega) (by omega) (fun v hv => tC hk (hall v hv)) (n := n + 2) (by omega)
   have kn : dC (n + 3) 30 [.p (aS 7) 0, .i .i64 (Int.ofNat 9)] h1 = some (iD (R.getD 11 0), h1) := W1.known (show 9 < 16 by omega) (n + 2)
   refine ⟨.ofNat (M.fin * 2), 0, h2, M2, ?_, g2.wk K1 W2 (K.rk 9 (by omega)) (by omega) (by omega) (by omega) hm, U1.trans U2, .inr ⟨⟨by omega, hall⟩, rfl, rfl, g2⟩⟩
   simp only [g0, g1, eb, aQ, el, fZ, d1, gF, hc, bT, bH, ld, kn, dBm, Bool.and_self, cond_true]
   rw [show (2 + 9 : Nat) = 11 from rfl] at e2
   show cnd true _ = _
   simp only [cnd, e2, aQ, nV, oZ]
   rfl
end
end Go.Dd

namespace Go.Dd
open Go.Proofs
def Wc (h : Hp) (cs : List (DV × DV)) : Prop := h.bl.get (aS 6) = some (.mp cs)
noncomputable def bCg (cs : List (DV × DV)) (s : List Nat) : Int := match dL .string (.s s) cs with
 | some (some (.i .i64 v)) => v
 | _ => 0
section
variable {h : Hp} {M : MemV} {R : List Int} {es cs : List (DV × DV)} {CL : List Nat} {z : Prop}
theorem Wc.up {h' : Hp} (c : Wc h cs) (W : Wd h M R es) (u : Up h h') : Wc h' cs := by
 unfold Wc
 rw [u.get (aS 6) (.inr (by rw [pn6]; exact Nat.le_refl _)) (by have := W.nx; rw [pn6]; omega)]
 exact c
theorem Wd.classOfName (W : Wd h M R es) (c : Wc h cs) (hcs : ∀ e ∈ cs, ∃ (k : List Nat) (x : Int), e = (.s k, iD x)) (s : List Nat) (n : Nat) : dC (n + 1) 45 [.p (aS 7) 0, .s s] h = some (iD (bCg cs s), h) := by
 rw [nN 45 rfl, cRj]
 unfold s45
 have l3 : aA (.p (aS 7) (0 + 3)) h = some (.m (aS 6), h) := by
  simp only [aA, cellD, rowOf, W.w, Nat.zero_add, List.getElem?_cons_succ, List.getElem?_cons_zero, DV.one, if_true]
 have lk : dQ .string (.i .i64 (Int.ofNat 0)) false (.m (aS 6)) (.s s) h = some (iD (bCg cs s), h) := by
  have hc : h.bl.get (aS 6) = some (.mp cs) := c
  unfold bCg
  rcases aVq s hcs with ⟨x, f1, f2⟩ | ⟨f1, f2⟩
  ·simp only [dQ, fP, hc, f1, cond_false]
  ·simp only [dQ, fP, hc, f1, cond_false]
   rfl
 simp only [g0, g1, eY, nR, aQ, l3, lk]
end
end Go.Dd

namespace Go.Dd
open Go.Proofs
structure Wv (k : Nat) (h : Hp) (M : MemV) (R : List Int) (es : List (DV × DV)) (z : Prop := True) : Prop where
 K : Wk h M R es
 I : GI M R CLW z
 c : Wc h csW
 n : M.n = 30000
 fin : M.fin + k ≤ 30000
 md : M.made + k ≤ 700000
theorem Stay.mono {a b : Nat} {M M' : MemV} {R R' : List Int} {es es' : List (DV × DV)} (h : Stay a M M' R R' es es') (hab : a ≤ b) : Stay b M M' R R' es es' :=
 ⟨h.n, Nat.le_trans h.fin (by omega), Nat.le_trans h.made (by omega), h.lo, h.tx, h.at', h.r, h.fd, h.gi, h.old⟩
section
variable {h h' : Hp} {M M' : MemV} {R R' : List Int} {es es' : List (DV × DV)} {z : Prop}
theorem Wv.stay {k j : Nat} (V : Wv (j + k) h M R es) (K' : Wk h' M' R' es') (u : Up h h') (S : Stay j M M' R R' es es') : Wv k h' M' R' es' := by
 have h1 := S.n
 have h2 := S.fin
 have h3 := S.made
 have h4 := V.n
 have h5 := V.fin
 have h6 := V.md
 exact ⟨K', S.gi _ V.I, V.c.up V.K.W u, by omega, by omega, by omega⟩
theorem Wv.less {k j : Nat} (V : Wv j h M R es z) (hk : k ≤ j) : Wv k h M R es z := ⟨V.K, V.I, V.c, V.n, by have := V.fin; omega, by have := V.md; omega⟩
theorem Wk.up (K : Wk h M R es) (W' : Wd h' M R es) : Wk h' M R es := ⟨W', K.G, K.sy, K.r0, K.rk⟩
theorem Wv.up {k : Nat} (V : Wv k h M R es z) (W' : Wd h' M R es) (u : Up h h') : Wv k h' M R es z := ⟨V.K.up W', V.I, V.c.up V.K.W u, V.n, V.fin, V.md⟩
theorem Wv.new {k : Nat} (V : Wv k h M R es z) (o : Ob) : Up h ⟨h.next.succ, Tr.set o h.next h.bl⟩ ∧ Wv k ⟨h.next.succ, Tr.set o h.next h.bl⟩ M R es z := by
 obtain ⟨u, W⟩ := V.K.W.new o
 exact ⟨u, V.up W u⟩
theorem cUg : ∀ e ∈ csW, ∃ (k : List Nat) (x : Int), e = (.s k, iD x) := fun e he => by
 obtain ⟨x, _, h2⟩ := wP (clF ++ clW) e he
 exact ⟨x.1, _, h2⟩
theorem dMq : bCg csW [80, 111, 105, 110, 116] = 8714 := by kernel_rfl
theorem Wv.point {k : Nat} (V : Wv k h M R es z) (n : Nat) : dC (n + 1) 45 [.p (aS 7) 0, .s [80, 111, 105, 110, 116]] h = some (iD 8714, h) := by
 rw [V.K.W.classOfName V.c cUg, dMq]
theorem cPy : iM 8714 = 4357 := by kernel_rfl
theorem Wv.ptAt {k : Nat} (V : Wv k h M R es z) : bQ 8714 M.pl ≠ 0 := by
 rw [atN_pos, cPy]
 exact ⟨by decide, (V.I.cl 4357 (by decide)).pl⟩
theorem Wv.ptNew {k : Nat} (V : Wv k h M R es) : ∀ CL, GI M R CL → NewI M R CL 0 8714 (List.replicate 2 0) := fun CL I => by
 have r3 := I.rk 1 (by omega)
 have r12 := I.rk 10 (by omega)
 have r13 := I.rk 11 (by omega)
 refine ⟨by decide, by omega, fun _ => rfl, fun q => ?_, fun q => (by cases q), fun q => ?_, fun c hc _ _ => ⟨rfl, fun v hv => List.eq_of_mem_replicate hv⟩⟩
 ·rcases q with q | q
  ·rw [r12] at q; cases q
  ·rw [r13] at q; cases q
 ·rw [r3] at q; cases q
end
end Go.Dd

namespace Go.Dd
open Go.Proofs
theorem lY {a b : Int} (h : a ≠ b) : (a == b) = false := by simpa using h
theorem aMz (a : Int) (h : Hp) : aD .rem (.i .i64 a) (.i .i64 (Int.ofNat 10)) h = some (.i .i64 (a.tmod 10), h) := by simp only [aD, if_true, fD]; rfl
theorem cGm (a b : Int) (h : Hp) (hr : -9223372036854775808 ≤ a * b ∧ a * b ≤ 9223372036854775807) : aD .mul (.i .i64 a) (.i .i64 b) h = some (.i .i64 (a * b), h) := by simp only [aD, if_true, fD, gT _ hr]
theorem cQb (a : Nat) (ha : a < 1000) (h : Hp) : aD .quo (.i .i64 (a : Int)) (.i .i64 (Int.ofNat 2)) h = some (.i .i64 (Int.ofNat (a / 2)), h) := by
 have e : (a : Int).tdiv (Int.ofNat 2) = Int.ofNat (a / 2) := rfl
 simp only [aD, if_true, fD, e]
 rw [if_neg (by decide), gT _ (by simp; omega)]
theorem bIr (s : List Nat) (k : Nat) (hk : k ≤ s.length) (h : Hp) : fG (.s s) none (some (.i .i64 (Int.ofNat k))) h = some (.s (s.take k), h) := by
 have e : hiD (some (.i .i64 (Int.ofNat k))) s.length s.length = some k := by
  show (if (0 : Int) ≤ Int.ofNat k ∧ Int.ofNat k ≤ (s.length : Int) then some (Int.ofNat k).toNat else none) = _
  rw [if_pos ⟨by simp, by simpa using hk⟩]
  rfl
 simp only [fG, e]
 rfl
theorem bIp (l : List Int) : ∀ v ∈ l.map iD, v.one = true := by
 intro v hv
 obtain ⟨c, _, rfl⟩ := List.mem_map.1 hv
 rfl
theorem bZz {x : DV} {l : List Int} {lo : Nat} {h : Hp} (hlo : 1031 ≤ lo) (S : GrS x (l.map iD) lo h) : SlI x l h := by
 rcases S with ⟨rfl, e⟩ | ⟨b, e, hb, h2, h3⟩
 ·refine .inl ⟨rfl, ?_⟩
  simpa using e
 ·exact .inr ⟨b, l.length, .gr 1, by rw [e]; simp, hb, .inr (by omega), h3⟩
theorem aLe {rec : FuncId → List DV → Hp → aH} {n lo : Nat} {x0 : DV} {N : Int} {c : Nat} (hN : N.tmod 10 = Int.ofNat c) (hc : c ≤ 9) : ∀ (r m : Nat) (l : List Int) (x : DV) (h : Hp), GrS x (l.map iD) lo h → lo ≤ h.next.toNat → l.length + r = c → r < m →
  ∃ (x' : DV) (h' : Hp) (l' : List Int), lG rec n m x0 (iD N) x (.i .i64 (Int.ofNat l.length)) h = dT rec n x0 x' h' ∧ GrS x' (l'.map iD) lo h' ∧ Lo lo h h' ∧ l'.length = c
 | 0, m + 1, l, x, h, S, hlo, he, hm => by
  refine ⟨x, h, l, ?_, S, Lo.refl lo h, by omega⟩
  show lF rec n (lG rec n m) _ _ _ _ h = _
  unfold lF
  have hl : decide (Int.ofNat l.length < Int.ofNat c) = false := by simp; omega
  simp only [iD, aMz, hN, cM, aQ, hl, bH]
 | r + 1, m + 1, l, x, h, S, hlo, he, hm => by
  obtain ⟨y, g, e1, x', h', e2, S', L'⟩ := S.app hlo (bIp l) (z := .i .i64 (Int.ofNat 0)) (v := iD (Int.ofNat 2 * Int.ofNat l.length + Int.ofNat 1)) rfl rfl (bytes := 8) (by simp; unfold lX; omega)
  have S2 : GrS x' ((l ++ [Int.ofNat 2 * Int.ofNat l.length + Int.ofNat 1]).map iD) lo h' := by rw [List.map_append]; exact S'
  obtain ⟨x2, h2, l2, e3, S3, L3, hl3⟩ := aLe (rec := rec) (n := n) (x0 := x0) hN hc r m (l ++ [Int.ofNat 2 * Int.ofNat l.length + Int.ofNat 1]) x' h' S2 (Nat.le_trans hlo L'.next) (by simp; omega) (by omega)
  refine ⟨x2, h2, l2, ?_, S3, L'.trans L3, hl3⟩
  rw [← e3]
  show lF rec n (lG rec n m) _ _ _ _ h = _
  unfold lF
  have hl1 : decide (Int.ofNat l.length < Int.ofNat c) = true := by simp; omega
  have hadd : aD .add (.i .i64 (Int.ofNat l.length)) (.i .i64 (Int.ofNat 1)) h' = some (.i .i64 (Int.ofNat (l ++ [Int.ofNat 2 * Int.ofNat l.length + Int.ofNat 1]).length), h') := by
   rw [jI _ _ _ (by simp; omega)]
   simp
  simp only [iD] at e1 e2 ⊢
  simp only [aMz, hN, cM, aQ, hl1, bM, cGm (Int.ofNat 2) (Int.ofNat l.length) h (by simp; omega), jI (Int.ofNat 2 * Int.ofNat l.length) (Int.ofNat 1) h (by simp; omega), e1, e2, hadd]
section
variable {h : Hp} {M : MemV} {R : List Int} {es : List (DV × DV)}
noncomputable def knW (R : List Int) (i : Int) : Int := if 0 ≤ i ∧ i < 16 then R.getD (2 + i.toNat) 0 else 0
theorem Wd.knownA (W : Wd h M R es) (i : Int) (n : Nat) : dC (n + 1) 30 [.p (aS 7) 0, .i .i64 i] h = some (iD (knW R i), h) := by
 unfold knW
 by_cases hi : 0 ≤ i ∧ i < 16
 ·rw [if_pos hi]
  obtain ⟨j, rfl⟩ : ∃ j : Nat, i = Int.ofNat j := ⟨i.toNat, by simp; omega⟩
  exact W.known (by simp at hi; omega) n
 ·rw [if_neg hi, nN 30 rfl, bQw]
  unfold s30
  by_cases h1 : i < 0
  ·have d1 : decide (i < Int.ofNat 0) = true := decide_eq_true (by simpa using h1)
   simp only [g0, g1, cM, d1, aQ, fH, bZ, bM]
   rfl
  ·have d1 : decide (i < Int.ofNat 0) = false := decide_eq_false (by simpa using h1)
   have d2 : decide (i ≥ Int.ofNat 16) = true := decide_eq_true (by simp; omega)
   simp only [g0, g1, cM, d1, aQ, gF, jG, d2, bT, bM]
   rfl
def MadeP (k : Nat) (h : Hp) (M : MemV) (R : List Int) (es : List (DV × DV)) (r : aH) : Prop :=
 ∃ v h' M' R' es', r = some (iD v, h') ∧ Wv k h' M' R' es' ∧ Up h h' ∧ Stay 260 M M' R R' es es'
theorem MadeP.same {k : Nat} (V : Wv (260 + k) h M R es) (v : Int) : MadeP k h M R es (some (iD v, h)) :=
 ⟨v, h, M, R, es, rfl, V.less (by omega), Up.refl h, Stay.refl _ _ _ _⟩
theorem bIk {k : Nat} (V : Wv (260 + k) h M R es) (n : Int) {m : Nat} (hm : 300 < m) : ∃ a e h' M', dC (m + 2) 42 [.p (aS 7) 0, .i .i64 n] h = some (.t [iD a, iD e], h') ∧ Wv k h' M' R es ∧ Up h h' ∧ Stay 260 M M' R R es es := by
 have h4 := V.n
 have h5 := V.fin
 have h6 := V.md
 obtain ⟨a, e, h', M', e1, K', U, S, _⟩ := V.K.num (by omega) (by omega) n (k := m) (by omega)
 exact ⟨a, e, h', M', e1, V.stay K' U (S.mono (by omega)), U, S.mono (by omega)⟩
theorem bZj {k : Nat} (V : Wv (260 + k) h M R es) {s : List Nat} (hs : ∀ c ∈ s, c < 256) {m : Nat} (hm : 300 < m) : ∃ a e h' M', dC (m + 3) 43 [.p (aS 7) 0, .s s] h = some (.t [iD a, iD e], h') ∧ Wv k h' M' R es ∧ Up h h' ∧ Stay 260 M M' R R es es := by
 have h4 := V.n
 have h5 := V.fin
 have h6 := V.md
 obtain ⟨a, e, h', M', e1, K', U, S, _⟩ := V.K.string hs (by omega) (by omega) (n := m) hm
 exact ⟨a, e, h', M', e1, V.stay K' U S, U, S⟩
theorem bLy {k : Nat} (V : Wv (260 + k) h M R es) {s : List Nat} (hs : ∀ c ∈ s, c < 256) {m : Nat} (hm : 300 < m) : ∃ a e h' M' R' es', dC (m + 3) 44 [.p (aS 7) 0, .s s] h = some (.t [iD a, iD e], h') ∧ Wv k h' M' R' es' ∧ Up h h' ∧ Stay 260 M M' R R' es es' := by
 have h4 := V.n
 have h5 := V.fin
 have h6 := V.md
 obtain ⟨a, e, h', M', R', es', e1, K', U, S, _⟩ := V.K.symbol hs (by omega) (by omega) (n := m) hm
 exact ⟨a, e, h', M', R', es', e1, V.stay K' U (S.mono (by omega)), U, S.mono (by omega)⟩
theorem bIu {k : Nat} (V : Wv (260 + k) h M R es) {x : DV} {l : List Int} (S : SlI x l h) (hl : l.length ≤ 9) {m : Nat} (hm : 300 < m) : ∃ a e h' M', dC (m + 4) 46 [.p (aS 7) 0, x] h = some (.t [iD a, iD e], h') ∧ Wv k h' M' R es ∧ Up h h' ∧ Stay 260 M M' R R es es := by
 have h4 := V.n
 have h5 := V.fin
 have h6 := V.md
 obtain ⟨a, e, h', M', e1, K', U, A⟩ := V.K.array S (by omega) (by omega) (by omega) (n := m) (by omega)
 have S' : Stay 260 M M' R R es es := by
  rcases A with ⟨_, _, _, rfl⟩ | ⟨_, _, _, g⟩
  ·exact Stay.refl _ _ _ _
  ·exact (g.stay V.K.G R es fun CL I => I.newK (i := 9) (.inl ⟨rfl, rfl⟩) (by omega) (fun q => by cases q)).mono (by omega)
 exact ⟨a, e, h', M', e1, V.stay K' U S', U, S'⟩
theorem cJm {k : Nat} (V : Wv (260 + k) h M R es) : ∃ a e h' M', iZ [.p (aS 3) 0, iD 8714, .i .i64 (.ofNat 0), .i .i64 (.ofNat 2)] h = some (.t [iD a, iD e], h') ∧ Wv k h' M' R es ∧ Up h h' ∧ Stay 260 M M' R R es es := by
 have h4 := V.n
 have h5 := V.fin
 have h6 := V.md
 obtain ⟨h', M', e1, K', U, g⟩ := V.K.make0 V.ptAt (f := 0) (c := 2) (by omega) (by omega) (by omega) (by omega)
 have S' : Stay 260 M M' R R es es := (g.stay V.K.G R es V.ptNew).mono (by simp)
 exact ⟨_, _, h', M', e1, V.stay K' U S', U, S'⟩
end
end Go.Dd

namespace Go.Dd
open Go.Proofs
section
variable {h : Hp} {M : MemV} {R : List Int} {es : List (DV × DV)} {k m : Nat} {b : Pos} {kd N : Int} {s0 s : List Nat}
theorem jM {b : Pos} {kd : Kind} {l : List DV} {h : Hp} (hb : h.bl.get b = some (.row kd l)) {i : Nat} {v : DV} (hi : l[i]? = some v) (hv : v.one = true) : aA (.p b i) h = some (v, h) := by
 simp only [aA, cellD, rowOf, hb, hi, hv, if_true]
def Tg (h : Hp) (b : Pos) (kd N : Int) (s : List Nat) : Prop := h.bl.get b = some (.row .ex [iD kd, iD N, .s s])
theorem Tg.l0 (T : Tg h b kd N s) : aA (.p b (0 + 0)) h = some (iD kd, h) := jM (i := 0 + 0) T rfl rfl
theorem Tg.l1 (T : Tg h b kd N s) : aA (.p b (0 + 1)) h = some (iD N, h) := jM (i := 0 + 1) T rfl rfl
theorem Tg.l2 (T : Tg h b kd N s) : aA (.p b (0 + 2)) h = some (.s s, h) := jM (i := 0 + 2) T rfl rfl
theorem dQw (a b : List Nat) (h : Hp) (hl : a.length + b.length < 100000) : fN .add (.s a) (.s b) h = some (.s (a ++ b), h) := by
 have : ¬ ((a.length + b.length : Nat) : Int) > IntKind.i64.max := by
  show ¬ ((a.length + b.length : Nat) : Int) > 9223372036854775807
  omega
 simp only [fN, aPs, if_neg this]
theorem cHb (V : Wv (260 + k) h M R es) (hs : ∀ c ∈ s, c < 256) (hl : s.length ≤ 250) (hm : 300 < m) : MadeP k h M R es (aEj (dC (m + 5)) (m + 5) (.p (aS 7) 0) (.s s) h) := by
 have fin : ∀ t : List Nat, (∀ c ∈ t, c < 256) → t.length ≤ 250 → MadeP k h M R es (rF (dC (m + 5)) (m + 5) (.p (aS 7) 0) (.s t) h) := fun t ht hlt => by
  obtain ⟨a, e, h', M', R', es', e1, V', U, S⟩ := bLy V (s := [115] ++ t.take (t.length / 2)) (fun c hc => by
   simp only [List.mem_append, List.mem_singleton] at hc
   rcases hc with rfl | hc
   ·decide
   ·exact ht c (List.mem_of_mem_take hc)) (m := m + 2) (by omega)
  refine ⟨a, h', M', R', es', ?_, V', U, S⟩
  unfold rF
  simp only [cDe, aQ, cQb t.length (by omega) h, bIr t (t.length / 2) (by omega) h, dQw [115] (t.take (t.length / 2)) h (by rw [List.length_take]; simp; omega), e1, nV, oZ]
 unfold aEj
 by_cases c1 : (s.length : Int) > Int.ofNat 60
 ·simp only [cDe, aQ, fZ, decide_eq_true c1, bM, bIr s 60 (by simp at c1; omega) h]
  exact fin _ (fun c hc => hs c (List.mem_of_mem_take hc)) (by rw [List.length_take]; omega)
 ·simp only [cDe, aQ, fZ, decide_eq_false c1, bH]
  exact fin _ hs hl
theorem cEj (V : Wv (260 + k) h M R es) (T : Tg h b kd N s) (hN : -9223372036854775808 ≤ N ∧ N ≤ 9223372036854775807) (hm : 300 < m) : MadeP k h M R es (aGo (dC (m + 5)) (m + 5) (.p (aS 7) 0) (.p b 0) h) := by
 have fin : ∀ n : Int, 0 ≤ n → MadeP k h M R es (rY (dC (m + 5)) (m + 5) (.p (aS 7) 0) (iD n) h) := fun n hn => by
  obtain ⟨j, rfl⟩ : ∃ j : Nat, n = Int.ofNat j := ⟨n.toNat, by simp; omega⟩
  have nx := V.K.W.nx
  obtain ⟨x', h1, l', e1, S1, L1, hl1⟩ := aLe (rec := dC (m + 5)) (n := m + 5) (lo := h.next.toNat) (x0 := .p (aS 7) 0) (N := Int.ofNat j) (c := j % 10) rfl (by omega) (j % 10) (m + 5) [] .l0 h (.inl ⟨rfl, rfl⟩) (Nat.le_refl _) (by simp) (by omega)
  have V1 := V.up (V.K.W.lo L1) L1.up
  obtain ⟨a, e, h', M', e2, V', U, S⟩ := bIu V1 (bZz nx S1) (by omega) (m := m + 1) (by omega)
  refine ⟨a, h', M', R, es, ?_, V', L1.up.trans U, S⟩
  unfold rY aJu aEc aRl
  refine Eq.trans e1 ?_
  unfold dT
  simp only [e2, aQ, nV, oZ]
 unfold aGo aKo
 simp only [nR, T.l1, aQ]
 by_cases c1 : N < Int.ofNat 0
 ·have c2 : N < 0 := c1
  have en : ∀ h, gQ .neg (.i .i64 (N + Int.ofNat 1)) h = some (.i .i64 (-(N + Int.ofNat 1)), h) := fun h => by
   have : IntKind.i64.wrap (0 - (N + Int.ofNat 1)) = 0 - (N + Int.ofNat 1) := gT _ (by simp; omega)
   simp only [gQ, this]
   rw [Int.zero_sub]
  simp only [iD, cM, decide_eq_true c1, aQ, bM, jI N (Int.ofNat 1) h (by simp; omega), en]
  exact fin _ (by simp; omega)
 ·have c2 : ¬ N < 0 := c1
  simp only [iD, cM, decide_eq_false c1, aQ, bH]
  exact fin _ (by omega)
theorem cSh (V : Wv (260 + k) h M R es) (T : Tg h b kd N s0) (hN : -9223372036854775808 ≤ N ∧ N ≤ 9223372036854775807) (hs : ∀ c ∈ s, c < 256) (hl : s.length ≤ 250) (hm : 300 < m) :
  MadeP k h M R es (aBh (dC (m + 5)) (m + 5) (.p (aS 7) 0) (.p b 0) (.s s) h) := by
 unfold aBh bCb
 simp only [nR, T.l0, aQ]
 by_cases c0 : kd = 0
 ·subst c0
  obtain ⟨a, e, h', M', e1, V', U, S⟩ := bIk V N (m := m + 3) (by omega)
  refine ⟨a, h', M', R, es, ?_, V', U, S⟩
  unfold aLg
  simp only [iD, cB, beq_self_eq_true, aQ, bM, show ((0 : Int) == Int.ofNat 0) = true from rfl, nR]
  rw [T.l1]
  simp only [aQ]
  rw [e1]
  simp only [aQ, nV, oZ, iD]
 have d0 : (kd == Int.ofNat 0) = false := lY c0
 unfold aLg bLn
 by_cases c1 : kd = 1
 ·subst c1
  obtain ⟨a, e, h', M', e1, V', U, S⟩ := bZj V hs (m := m + 2) (by omega)
  refine ⟨a, h', M', R, es, ?_, V', U, S⟩
  unfold aLf
  simp only [iD, cB, aQ, bH, bM, d0, show ((1 : Int) == Int.ofNat 1) = true from rfl]
  rw [e1]
  simp only [aQ, nV, oZ, iD]
 have d1 : (kd == Int.ofNat 1) = false := lY c1
 unfold aLf bOn
 by_cases c2 : kd = 2
 ·subst c2
  have := cHb V hs hl hm
  unfold aAe
  simp only [iD, cB, aQ, bH, bM, d0, d1, show ((2 : Int) == Int.ofNat 2) = true from rfl]
  exact this
 have d2 : (kd == Int.ofNat 2) = false := lY c2
 unfold aAe aSt
 by_cases c3 : kd = 3
 ·subst c3
  have := cEj V T hN hm
  unfold zA
  simp only [iD, cB, aQ, bH, bM, d0, d1, d2, show ((3 : Int) == Int.ofNat 3) = true from rfl]
  exact this
 have d3 : (kd == Int.ofNat 3) = false := lY c3
 unfold zA
 by_cases c4 : kd = 4
 ·subst c4
  obtain ⟨a, e, h', M', e1, V', U, S⟩ := cJm V
  refine ⟨a, h', M', R, es, ?_, V', U, S⟩
  have em := V.K.W.memory (m + 4)
  have ep := V.point (m + 4)
  simp only [iD, cB, aQ, bH, bM, d0, d1, d2, d3, show ((4 : Int) == Int.ofNat 4) = true from rfl, em]
  rw [ep]
  simp only [aQ]
  rw [e1]
  simp only [aQ, nV, oZ, iD]
 have d4 : (kd == Int.ofNat 4) = false := lY c4
 by_cases c5 : kd = 5
 ·subst c5
  have ep := V.point (m + 4)
  by_cases c16 : N = 16
  ·subst c16
   have : MadeP k h M R es (some (iD 8714, h)) := .same V _
   simp only [iD, cB, aQ, bH, bM, d0, d1, d2, d3, d4, show ((5 : Int) == Int.ofNat 5) = true from rfl, nR]
   rw [T.l1]
   simp only [iD, cB, aQ, bH, bM, show ((16 : Int) == Int.ofNat 16) = true from rfl]
   rw [ep]
   exact this
  ·have : MadeP k h M R es (some (iD (knW R N), h)) := .same V _
   have ek := V.K.W.knownA N (m + 4)
   simp only [iD, cB, aQ, bH, bM, d0, d1, d2, d3, d4, show ((5 : Int) == Int.ofNat 5) = true from rfl, nR]
   have t1 : aA (.p b (0 + 1)) h = some (.i .i64 N, h) := T.l1
   simp only [t1, iD, cB, aQ, bH, bM, show (N == Int.ofNat 16) = false from lY c16]
   rw [ek]
   exact this
 have d5 : (kd == Int.ofNat 5) = false := lY c5
 have t1 : aA (.p b (0 + 1)) h = some (.i .i64 N, h) := T.l1
 by_cases c6 : kd = 6
 ·subst c6
  simp only [iD, cB, aQ, bH, bM, d0, d1, d2, d3, d4, d5, show ((6 : Int) == Int.ofNat 6) = true from rfl]
  exact .same V _
 have d6 : (kd == Int.ofNat 6) = false := lY c6
 by_cases c7 : kd = 7
 ·subst c7
  simp only [iD, cB, aQ, bH, bM, d0, d1, d2, d3, d4, d5, d6, show ((7 : Int) == Int.ofNat 7) = true from rfl]
  exact .same V _
 have d7 : (kd == Int.ofNat 7) = false := lY c7
 by_cases c8 : kd = 8
 ·subst c8
  simp only [iD, cB, aQ, bH, bM, d0, d1, d2, d3, d4, d5, d6, d7, show ((8 : Int) == Int.ofNat 8) = true from rfl]
  exact .same V _
 have d8 : (kd == Int.ofNat 8) = false := lY c8
 unfold aX
 simp only [iD, cB, aQ, bH, bM, d0, d1, d2, d3, d4, d5, d6, d7, d8, nR, t1]
 exact .same V _
theorem aCw (V : Wv (260 + k) h M R es) (kd : Int) (hN : -9223372036854775808 ≤ N ∧ N ≤ 9223372036854775807) (hs : ∀ c ∈ s, c < 256) (hm : 300 < m) :
  MadeP k h M R es (dC (m + 6) 14 [.p (aS 7) 0, .a [iD kd, iD N, .s s]] h) := by
 obtain ⟨U1, V1⟩ := V.new (.row .ex [iD kd, iD N, .s s])
 obtain ⟨h1, hh1⟩ : ∃ h1 : Hp, (⟨h.next.succ, Tr.set (.row .ex [iD kd, iD N, .s s]) h.next h.bl⟩ : Hp) = h1 := ⟨_, rfl⟩
 rw [hh1] at U1 V1
 have eb : bO (.a [iD kd, iD N, .s s]) h = some (.p h.next 0, h1) := by rw [← hh1]; rfl
 have T : Tg h1 h.next kd N s := by rw [← hh1]; exact dSr _ _ _
 have up : ∀ r, MadeP k h1 M R es r → MadeP k h M R es r := fun r ⟨v, h', M', R', es', e, V', U, S⟩ => ⟨v, h', M', R', es', e, V', U1.trans U, S⟩
 rw [nN 14 rfl, cRq]
 unfold s14 aAw aWv
 simp only [g0, g1, eb, aQ, nR, T.l2, cDe, fZ]
 apply up
 by_cases c1 : (s.length : Int) > Int.ofNat 250
 ·simp only [decide_eq_true c1, bM, bIr s 250 (by simp at c1; omega) h1, aQ]
  exact cSh V1 T hN (fun c hc => hs c (List.mem_of_mem_take hc)) (by rw [List.length_take]; omega) hm
 ·simp only [decide_eq_false c1, bH]
  exact cSh V1 T hN hs (by simp at c1; omega) hm
end
end Go.Dd

namespace Go.Dd
open Go.Proofs
def vU (n : Int) : Int :=
 if n = 11 ∨ n = 22 ∨ n = 23 ∨ n = 40 ∨ n = 41 then 0
 else if n = 1 ∨ n = 2 ∨ n = 3 ∨ n = 4 ∨ n = 5 ∨ n = 6 ∨ n = 7 ∨ n = 10 ∨ n = 20 ∨ n = 24 ∨ n = 25 ∨ n = 26 ∨ n = 50 then 1
 else if n = 21 ∨ n = 51 then 2 else -1
theorem cHy (n : Int) (m : Nat) (h : Hp) : dC (m + 1) 39 [iD n] h = some (iD (vU n), h) := by
 rw [nN 39 rfl, cSb]
 by_cases q : n = 11 ∨ n = 22 ∨ n = 23 ∨ n = 40 ∨ n = 41 ∨ n = 1 ∨ n = 2 ∨ n = 3 ∨ n = 4 ∨ n = 5 ∨ n = 6 ∨ n = 7 ∨ n = 10 ∨ n = 20 ∨ n = 24 ∨ n = 25 ∨ n = 26 ∨ n = 50 ∨ n = 21 ∨ n = 51
 ·rcases q with q | q | q | q | q | q | q | q | q | q | q | q | q | q | q | q | q | q | q | q <;> subst q <;> rfl
 ·have e : vU n = -1 := by
   unfold vU
   rw [if_neg (by omega), if_neg (by omega), if_neg (by omega)]
  rw [e]
  unfold s39 bCd aVr sQ bWg jB bYp aLw cP
  simp only [g0, iD, cB, aQ, lY (show n ≠ Int.ofNat 11 by simp; omega), lY (show n ≠ Int.ofNat 22 by simp; omega), lY (show n ≠ Int.ofNat 23 by simp; omega), lY (show n ≠ Int.ofNat 40 by simp; omega), lY (show n ≠ Int.ofNat 41 by simp; omega),
   lY (show n ≠ Int.ofNat 1 by simp; omega), lY (show n ≠ Int.ofNat 2 by simp; omega), lY (show n ≠ Int.ofNat 3 by simp; omega), lY (show n ≠ Int.ofNat 4 by simp; omega), lY (show n ≠ Int.ofNat 5 by simp; omega), lY (show n ≠ Int.ofNat 6 by simp; omega), lY (show n ≠ Int.ofNat 7 by simp; omega),
   lY (show n ≠ Int.ofNat 10 by simp; omega), lY (show n ≠ Int.ofNat 20 by simp; omega), lY (show n ≠ Int.ofNat 24 by simp; omega), lY (show n ≠ Int.ofNat 25 by simp; omega), lY (show n ≠ Int.ofNat 26 by simp; omega), lY (show n ≠ Int.ofNat 50 by simp; omega), lY (show n ≠ Int.ofNat 21 by simp; omega), lY (show n ≠ Int.ofNat 51 by simp; omega), bH]
  rfl
section
variable {h : Hp} {M : MemV} {R : List Int} {es : List (DV × DV)}
theorem cLd {x f : DV} {l : List Int} (S : SlI x l h) {p : Int → Bool} {n : Nat} (hc : ∀ v, cX CF (dC n) f [iD v] h = some (.b (p v), h)) (hl : l.length ≤ 256) : ∀ (k i m : Nat), k + i = l.length → k < m →
  ∃ r : Int, iW (dC n) n m x f (iD l.length) (.i .i64 (Int.ofNat i)) h = some (iD r, h) ∧ (decide (r ≥ Int.ofNat 0) = (l.drop i).any p) := by
 intro k
 induction k with
 | zero =>
  intro i m he hm
  obtain ⟨m, rfl⟩ : ∃ m', m = m' + 1 := ⟨m - 1, by omega⟩
  refine ⟨-1, ?_, ?_⟩
  ·show gS (dC n) n (iW (dC n) n m) _ _ _ _ h = _
   unfold gS
   have d : decide (Int.ofNat i < (l.length : Int)) = false := decide_eq_false (by simp; omega)
   simp only [cM, d, aQ, bH]
   rfl
  ·rw [List.drop_eq_nil_of_le (by omega)]
   rfl
 | succ k ih =>
  intro i m he hm
  obtain ⟨m, rfl⟩ : ∃ m', m = m' + 1 := ⟨m - 1, by omega⟩
  have hi : i < l.length := by omega
  have hv : l[i]? = some l[i] := List.getElem?_eq_getElem hi
  obtain ⟨a, e1, e2⟩ := S.at hv
  obtain ⟨r, q1, q2⟩ := ih (i + 1) m (by omega) (by omega)
  have d : decide (Int.ofNat i < (l.length : Int)) = true := decide_eq_true (by simp; omega)
  have hc := hc l[i]
  have ha : aD .add (.i .i64 (Int.ofNat i)) (.i .i64 (Int.ofNat 1)) h = some (.i .i64 (Int.ofNat (i + 1)), h) := gG i 1 h (by omega)
  rw [aLx hv]
  cases hmay : p l[i] with
  | true =>
   refine ⟨Int.ofNat i, ?_, by simp⟩
   show gS (dC n) n (iW (dC n) n m) _ _ _ _ h = _
   unfold gS
   rw [hmay] at hc
   simp only [cM, d, aQ, bM, e1, e2, hc]
  | false =>
   refine ⟨r, ?_, by rw [q2]; rfl⟩
   show gS (dC n) n (iW (dC n) n m) _ _ _ _ h = _
   unfold gS
   rw [hmay] at hc
   simp only [cM, d, aQ, bM, e1, e2, hc, bH, ha]
   exact q1
theorem dKr {x f : DV} {l : List Int} (S : SlI x l h) {p : Int → Bool} {n : Nat} (hc : ∀ v, cX CF (dC n) f [iD v] h = some (.b (p v), h)) (hl : l.length ≤ 256) (hn : 256 < n) : dC (n + 2) 52 [x, f] h = some (.b (l.any p), h) := by
 rw [nN 52 rfl, bUr]
 unfold s52
 obtain ⟨r, q1, q2⟩ := cLd S (p := p) (n := n) hc hl l.length 0 n (by omega) (by omega)
 have e : dC (n + 1) 89 [x, f] h = some (iD r, h) := by
  rw [nN 89 rfl, bOe]
  unfold s89 aMv aLr bBp
  simp only [g0, g1, S.len (h' := h), aQ]
  exact q1
 simp only [g0, g1, e, aQ, jG, q2, List.drop_zero]
def uZ (M : MemV) (n r : Int) (l : List Int) : Prop := vU n ≠ (l.length : Int) ∨ dK r M.pl = false ∨ ∃ v ∈ l, dK v M.pl = false
theorem cGw {k : Nat} {z : Prop} (V : Wv k h M R es z) {x : DV} {l : List Int} (S : SlI x l h) (hl : l.length ≤ 256) (n r : Int) {m : Nat} (hm : 300 < m) :
  ∃ h1, Wv k h1 M R es z ∧ Up h h1 ∧ ((uZ M n r l ∧ dC (m + 4) 16 [.p (aS 7) 0, iD n, iD r, x] h = some (.t [iD 0, iD 20], h1)) ∨
   (¬ uZ M n r l ∧ dC (m + 4) 16 [.p (aS 7) 0, iD n, iD r, x] h = yO (dC (m + 3)) (m + 3) (.p (aS 7) 0) (iD n) (iD r) x h1)) := by
 obtain ⟨h1, hh1⟩ : ∃ h1 : Hp, (⟨h.next.succ, Tr.set (.row .ex [.p (aS 3) 0]) h.next (Tr.set (.row .ex [.p0]) h.next h.bl)⟩ : Hp) = h1 := ⟨_, rfl⟩
 have ns := dSs h.next
 have nx := V.K.W.nx
 have oth : ∀ b : Pos, b ≠ h.next → h1.bl.get b = h.bl.get b := fun b hb => by
  rw [← hh1]
  show (Tr.set _ _ (Tr.set _ _ _)).get b = _
  rw [dSq _ _ _ _ hb, dSq _ _ _ _ hb]
 have U1 : Up h h1 := ⟨by rw [← hh1]; show _ ≤ h.next.succ.toNat; omega, fun b _ hb => oth b fun e => by subst e; omega⟩
 have V1 : Wv k h1 M R es z := V.up (V.K.W.up U1 fun b hb => oth b fun e => by subst e; omega) U1
 have hg : h1.bl.get h.next = some (.row .ex [.p (aS 3) 0]) := by rw [← hh1]; exact dSr _ _ _
 have e1 : bN [.p0] h = some (.p h.next 0, ⟨h.next.succ, Tr.set (.row .ex [.p0]) h.next h.bl⟩) := rfl
 have e2 : aG 1 (.p h.next 0) (.p (aS 3) 0) ⟨h.next.succ, Tr.set (.row .ex [.p0]) h.next h.bl⟩ = some (aW, h1) := by
  rw [← hh1]
  simp only [aG, cY, dE, dSr]
  rfl
 have ld : aA (.p h.next 0) h1 = some (.p (aS 3) 0, h1) := jM hg rfl rfl
 have S1 := S.up U1
 have em := V.K.W.memory (m + 2)
 have ea := cHy n (m + 2) h1
 have el : cA x h1 = some (iD (l.length : Int), h1) := S1.len
 have ef : dC (m + 3) 54 [] h1 = some (.t [iD 0, iD 20], h1) := by rw [nN 54 rfl, bGz]; rfl
 have hc : ∀ v, cX CF (dC (m + 1)) (.f 53 [] [.p h.next 0]) [iD v] h1 = some (.b (!(dK v M.pl)), h1) := fun v => by
  rw [pcf rfl]
  simp only [List.nil_append, List.singleton_append]
  rw [nN 53 rfl, cSg]
  unfold s53
  simp only [g0, g1, ld, aQ, V1.K.W.may, iC]
 have ec := dKr S1 (p := fun v => !(dK v M.pl)) (n := m + 1) hc hl (by omega)
 refine ⟨h1, V1, U1, ?_⟩
 rw [nN 16 rfl, cRc]
 unfold s16 aLm aAp
 simp only [g0, g1, g2, g3, em, aQ, e1, e2]
 by_cases c1 : vU n = (l.length : Int)
 ·have d1 : (vU n != (l.length : Int)) = false := by simpa using c1
  cases hr : dK r M.pl with
  | false =>
   refine .inl ⟨.inr (.inl hr), ?_⟩
   simp only [iD] at ea el ef ⊢
   simp only [ea, el, aQ, eW, d1, gF, ld, V1.K.W.may, hr, iC, Bool.not_false, bT, fH, bZ, bM, ef, nV, oZ]
  | true =>
   cases hq : l.any (fun v => !(dK v M.pl)) with
   | true =>
    rw [hq] at ec
    obtain ⟨v, hv, hv2⟩ := List.any_eq_true.1 hq
    refine .inl ⟨.inr (.inr ⟨v, hv, by simpa using hv2⟩), ?_⟩
    simp only [iD] at ea el ef ⊢
    simp only [ea, el, aQ, eW, d1, gF, ld, V1.K.W.may, hr, iC, Bool.not_true, bT, ec, bM, ef, nV, oZ]
   | false =>
    rw [hq] at ec
    refine .inr ⟨fun q => ?_, ?_⟩
    ·rcases q with q | q | ⟨v, hv, hv2⟩
     ·exact q c1
     ·rw [hr] at q; cases q
     ·have : l.any (fun v => !(dK v M.pl)) = true := List.any_eq_true.2 ⟨v, hv, by rw [hv2]; rfl⟩
      rw [this] at hq
      cases hq
    ·simp only [iD] at ea el ef ⊢
     simp only [ea, el, aQ, eW, d1, gF, ld, V1.K.W.may, hr, iC, Bool.not_true, bT, ec, bH]
 ·have d1 : (vU n != (l.length : Int)) = true := by simpa using c1
  refine .inl ⟨.inl c1, ?_⟩
  simp only [iD] at ea el ef ⊢
  simp only [ea, el, aQ, eW, d1, fH, jJ, bZ, bM, ef, nV, oZ]
end
end Go.Dd

namespace Go.Dd
open Go.Proofs
theorem aAy (T T' : Tr Ob) : ∀ (l : List (Pos × Ob)) (b : Pos), (∃ e ∈ l, e.1 = b) → (eU l T).get b = (eU l T').get b
 | [], b, h => by obtain ⟨e, he, _⟩ := h; cases he
 | x :: l, b, h => by
  show (Tr.set x.2 x.1 (eU l T)).get b = (Tr.set x.2 x.1 (eU l T')).get b
  by_cases e : b = x.1
  ·subst e
   rw [dSr, dSr]
  ·rw [dSq _ _ _ _ e, dSq _ _ _ _ e]
   obtain ⟨y, hy, hb⟩ := h
   simp only [List.mem_cons] at hy
   rcases hy with rfl | hy
   ·exact absurd hb.symm e
   ·exact aAy T T' l b ⟨y, hy, hb⟩
theorem aMw (T : Tr Ob) : ∀ (l : List (Pos × Ob)) (b : Pos), (∀ e ∈ l, e.1 ≠ b) → (eU l T).get b = T.get b
 | [], b, h => rfl
 | x :: l, b, h => by
  show (Tr.set x.2 x.1 (eU l T)).get b = _
  rw [dSq _ _ _ _ (fun e => h x (by simp) e.symm)]
  exact aMw T l b fun e he => h e (by simp [he])
noncomputable def hWo (h : Hp) : Hp := ⟨aS nxW, eU HLW h.bl⟩
theorem dJo : hW.bl = eU HLW .e := by kernel_rfl
theorem aLz : HLW.map (·.1) = [aS 7, aS 6, aS 5, aS 4, aS 3, aS 2, aS 1] := rfl
theorem oY (h : Hp) (i : Nat) (hi : i = 1 ∨ i = 2 ∨ i = 3 ∨ i = 4 ∨ i = 5 ∨ i = 6 ∨ i = 7) : (hWo h).bl.get (aS i) = hW.bl.get (aS i) := by
 rw [dJo]
 show (eU HLW h.bl).get (aS i) = _
 refine aAy h.bl .e HLW (aS i) ?_
 have : aS i ∈ HLW.map (·.1) := by
  rw [aLz]
  rcases hi with rfl | rfl | rfl | rfl | rfl | rfl | rfl <;> simp
 obtain ⟨e, he, h2⟩ := List.mem_map.1 this
 exact ⟨e, he, h2⟩
theorem cTo (h : Hp) (b : Pos) (hb : b.toNat < 1024) : (hWo h).bl.get b = h.bl.get b := by
 show (eU HLW h.bl).get b = _
 refine aMw h.bl HLW b fun e he q => ?_
 have : e.1 ∈ HLW.map (·.1) := List.mem_map.2 ⟨e, he, rfl⟩
 rw [aLz, q] at this
 simp only [List.mem_cons, List.not_mem_nil, or_false] at this
 rcases this with e | e | e | e | e | e | e <;> subst e
 ·rw [pn7] at hb; omega
 ·rw [pn6] at hb; omega
 ·rw [pn5] at hb; omega
 ·rw [pn4] at hb; omega
 ·rw [pn3] at hb; omega
 ·rw [pn2] at hb; omega
 ·rw [pn1] at hb; omega
theorem WNo (h : Hp) : Wd (hWo h) MN RN esN := by
 have W := WN
 obtain ⟨m1, m2, m3, m4, m5, m6⟩ := kP W.mem
 refine ⟨by rw [oY h 7 (by simp)]; exact W.w, by rw [oY h 4 (by simp)]; exact W.r, W.rl, by rw [oY h 5 (by simp)]; exact W.sy, ?_, W.nx, W.wb, W.pb⟩
 refine nG (by rw [oY h 3 (by simp)]; exact m1) ?_ ?_ m4 m5 m6
 ·rw [W.wb] at m2 ⊢
  rw [oY h 1 (by simp)]; exact m2
 ·rw [W.pb] at m3 ⊢
  rw [oY h 2 (by simp)]; exact m3
theorem WvN (h : Hp) : Wv 20000 (hWo h) MN RN esN where
 K := ⟨WNo h, GN, KN.sy, KN.r0, KN.rk⟩
 I := GIN
 c := by
  unfold Wc
  rw [oY h 6 (by simp)]
  kernel_rfl
 n := rfl
 fin := by show 4371 + 20000 ≤ 30000; omega
 md := by show 592 + 20000 ≤ 700000; omega
theorem bLq (h : Hp) (hn : lD h.next (aS 1) = true) : iG 12 [] h = some (.p (aS 7) 0, hWo h) := by
 have e1 : Nat.beq 12 13 = false := rfl
 have e2 : Nat.beq 12 12 = true := rfl
 have e3 : bBi [] = true := rfl
 unfold iG zX aSa yD hWo
 rw [e1, cond_false, e2, cond_true, e3, hn, Bool.and_self, cond_true]
theorem bNa (h : Hp) : iG 13 [] h = some (.b true, h) := rfl
theorem kB {g : FuncId} (h1 : Nat.beq g 13 = false) (h2 : Nat.beq g 12 = false) (args : List DV) (h : Hp) : iG g args h = dC 900 g args h := by
 unfold iG
 rw [h1, cond_false, aWy, h2, cond_false]
end Go.Dd

namespace Go.Dd
open Go.Proofs
section
variable {h : Hp} {M : MemV} {R : List Int} {es : List (DV × DV)} {k : Nat} {b : Pos} {n r : Int} {x : DV} {l : List Int}
def Dr (h : Hp) (b : Pos) (n r : Int) (x : DV) : Prop := h.bl.get b = some (.row .ex [.p (aS 7) 0, iD n, iD r, x]) ∧ 1029 ≤ b.toNat ∧ b.toNat < h.next.toNat
theorem Dr.up {h' : Hp} (D : Dr h b n r x) (U : Up h h') : Dr h' b n r x := ⟨by rw [U.get b (.inr D.2.1) D.2.2]; exact D.1, D.2.1, Nat.lt_of_lt_of_le D.2.2 U.next⟩
theorem Dr.l0 (D : Dr h b n r x) : aA (.p b (0 + 0)) h = some (.p (aS 7) 0, h) := jM (i := 0 + 0) D.1 rfl rfl
theorem Dr.l1 (D : Dr h b n r x) : aA (.p b (0 + 1)) h = some (iD n, h) := jM (i := 0 + 1) D.1 rfl rfl
theorem Dr.l2 (D : Dr h b n r x) : aA (.p b (0 + 2)) h = some (iD r, h) := jM (i := 0 + 2) D.1 rfl rfl
theorem Dr.l3 (D : Dr h b n r x) (S : SlI x l h) : aA (.p b (0 + 3)) h = some (x, h) := by
 refine jM (i := 0 + 3) D.1 rfl ?_
 rcases S with ⟨rfl, _⟩ | ⟨_, _, _, rfl, _⟩ <;> rfl
theorem cHj {z : Prop} (V : Wv k h M R es z) (S : SlI x l h) (n r : Int) (m : Nat) :
  ∃ b h1, Wv k h1 M R es z ∧ Up h h1 ∧ Dr h1 b n r x ∧ SlI x l h1 ∧ yO (dC m) m (.p (aS 7) 0) (iD n) (iD r) x h = sF (dC m) m (iD n) (.p b 0) h1 := by
 obtain ⟨U1, V1⟩ := V.new (.row .ex [.p (aS 7) 0, iD n, iD r, x])
 refine ⟨h.next, _, V1, U1, ⟨dSr _ _ _, by have := V.K.W.nx; omega, by show h.next.toNat < h.next.succ.toNat; rw [dSs]; omega⟩, S.up U1, ?_⟩
 have hx : cY x = some [x] := by
  rcases S with ⟨rfl, _⟩ | ⟨_, _, _, rfl, _⟩ <;> rfl
 have e1 : bB [.p0, .i .i64 (Int.ofNat 0), .i .i64 (Int.ofNat 0), .l0] [(0, 1, .p (aS 7) 0), (1, 1, iD n), (2, 1, iD r), (3, 1, x)] h = some (.a [.p (aS 7) 0, iD n, iD r, x], h) := by
  rcases S with ⟨rfl, _⟩ | ⟨_, _, _, rfl, _⟩ <;> simp [bB, iS, cY, iD]
 unfold yO
 rw [e1, aQ]
 rfl
end
end Go.Dd

namespace Go.Dd
open Go.Proofs
section
variable {h : Hp} {M : MemV} {R : List Int} {es : List (DV × DV)} {k : Nat} {b : Pos} {n r : Int} {x : DV} {l : List Int}
end
end Go.Dd

namespace Go.Dd
open Go.Proofs
def pK (k : Nat) : Pos := dFk 24 k
def hK (k : Nat) : Hp := ⟨pK k, .e⟩
theorem wZ : (pK 1021).toNat = 1021 := by kernel_rfl
theorem wV : (pK 1022).toNat = 1022 := by kernel_rfl
theorem vS : (pK 1023).toNat = 1023 := by kernel_rfl
theorem cXz : (pK 1021).succ = pK 1022 := by kernel_rfl
theorem cXt : (pK 1022).succ = pK 1023 := by kernel_rfl
theorem cVb : (pK 1023).succ = aS 1 := by kernel_rfl
abbrev th (kd N : Int) (s : List Nat) : DV := .a [iD kd, iD N, .s s]
def i64 (N : Int) : Prop := -9223372036854775808 ≤ N ∧ N ≤ 9223372036854775807
def byS (s : List Nat) : Prop := ∀ c ∈ s, c < 256
theorem bZn (kd N : Int) (s : List Nat) (h : Hp) : bO (th kd N s) h = some (.p h.next 0, ⟨h.next.succ, Tr.set (.row .ex [iD kd, iD N, .s s]) h.next h.bl⟩) := rfl
section
variable {h h' : Hp} {M : MemV} {R : List Int} {es : List (DV × DV)} {k : Nat} {z : Prop} {b : Pos} {kd N : Int} {s : List Nat}
theorem Tg.ld (T : Tg h b kd N s) : aK 3 (.p b 0) h = some (th kd N s, h) := by
 have e : h.bl.get b = some (.row .ex [iD kd, iD N, .s s]) := T
 simp [aK, cellsAt, rowOf, e, lW, DV.one]
theorem Tg.up (T : Tg h b kd N s) (U : Up h h') (hb : b.toNat < 1024) (hn : b.toNat < h.next.toNat) : Tg h' b kd N s := by
 unfold Tg
 rw [U.get b (.inl hb) hn]
 exact T
theorem dUe (T : Tg h b kd N s) (hb : b.toNat < 1024) : Tg (hWo h) b kd N s := by
 unfold Tg
 rw [cTo h b hb]
 exact T
theorem pE0 (t : TypeId) (h : Hp) : pEq (.pointer t) true (.p (aS 7) 0) .p0 h = some (.b false, h) := Eq.trans rfl rfl
theorem cYd (V : Wv k h M R es z) (v : Int) : ∃ y h', aL [(.i .i64 (Int.ofNat 0))] 1 [(0, 1, iD v)] h = some (y, h') ∧ SlI y [v] h' ∧ Up h h' ∧ Wv k h' M R es z := by
 obtain ⟨U1, V1⟩ := V.new (.row .ex [iD v])
 refine ⟨.l h.next 0 1 1, _, ?_, .inr ⟨h.next, 1, .ex, rfl, dSr _ _ _, .inr (by have := V.K.W.nx; omega), ?_⟩, U1, V1⟩
 ·simp [aL, iS, cY, iD]
 ·show h.next.toNat < h.next.succ.toNat
  rw [dSs]; omega
theorem dAd (V : Wv k h M R es z) (v w : Int) : ∃ y h', aL [(.i .i64 (Int.ofNat 0)), (.i .i64 (Int.ofNat 0))] 2 [(0, 1, iD v), (1, 1, iD w)] h = some (y, h') ∧ SlI y [v, w] h' ∧ Up h h' ∧ Wv k h' M R es z := by
 obtain ⟨U1, V1⟩ := V.new (.row .ex [iD v, iD w])
 refine ⟨.l h.next 0 2 2, _, ?_, .inr ⟨h.next, 2, .ex, rfl, dSr _ _ _, .inr (by have := V.K.W.nx; omega), ?_⟩, U1, V1⟩
 ·simp [aL, iS, cY, iD]
 ·show h.next.toNat < h.next.succ.toNat
  rw [dSs]; omega
end
theorem cHm (args : List DV) (h : Hp) : iG 14 args h = dC (894 + 6) 14 args h := kB rfl rfl args h
theorem cCn (args : List DV) (h : Hp) : iG 15 args h = dC (898 + 2) 15 args h := kB rfl rfl args h
theorem cGy (args : List DV) (h : Hp) : iG 16 args h = dC (896 + 4) 16 args h := kB rfl rfl args h
theorem cIa (args : List DV) (h : Hp) : iG 23 args h = dC (899 + 1) 23 args h := kB rfl rfl args h
theorem cFs (args : List DV) (h : Hp) : iG 25 args h = dC (898 + 2) 25 args h := kB rfl rfl args h
theorem cQq (args : List DV) (h : Hp) : iG 30 args h = dC (899 + 1) 30 args h := kB rfl rfl args h
end Go.Dd

namespace Go.Dd
open Go.Proofs
section
variable {h h' : Hp} {M M' : MemV} {R R' : List Int} {es es' : List (DV × DV)} {k : Nat} {z : Prop} {CL : List Nat}
end
end Go.Dd

namespace Go.Dd
open Go.Proofs
theorem cCl (rec : RT) (n : Nat) (x : DV) (h : Hp) : sF rec n (iD 21) x h = bD rec n (.f 57 [x] []) h := by rfl
section
variable {h h' : Hp} {M M' : MemV} {R R' : List Int} {es es' : List (DV × DV)} {k : Nat} {z : Prop} {CL : List Nat}
theorem dIs {n : Int} {K : FuncId} (hd : ∀ (rec : RT) (m : Nat) (x : DV) (h : Hp), sF rec m (iD n) x h = bD rec m (.f K [x] []) h) (hK : CF.I K = none) (V : Wv k h M R es z) {x : DV} {l : List Int} (S : SlI x l h) (hl : l.length ≤ 256) (r : Int) {m : Nat} (hm : 300 < m) :
  (uZ M n r l ∧ ∃ h', dC (m + 4) 16 [.p (aS 7) 0, iD n, iD r, x] h = some (.t [iD 0, iD 20], h') ∧ Wv k h' M R es z ∧ Up h h') ∨
  (¬ uZ M n r l ∧ ∃ b h1, Wv k h1 M R es z ∧ Up h h1 ∧ Dr h1 b n r x ∧ SlI x l h1 ∧
   ∀ a e h', dC (m + 3) K [.p b 0] h1 = some (.t [a, e], h') → dC (m + 4) 16 [.p (aS 7) 0, iD n, iD r, x] h = some (.t [a, e], h')) := by
 obtain ⟨h1, V1, U1, q | q⟩ := cGw V S hl n r hm
 ·exact .inl ⟨q.1, h1, q.2, V1, U1⟩
 ·obtain ⟨b, h2, V2, U2, D, S2, e2⟩ := cHj V1 (S.up U1) n r (m + 3)
  refine .inr ⟨q.1, b, h2, V2, U1.trans U2, D, S2, fun a e h' e3 => ?_⟩
  rw [q.2, e2, hd]
  unfold bD
  rw [pcf hK]
  simp only [List.append_nil, List.nil_append] at e3 ⊢
  rw [e3]
  simp only [aQ, nV, oZ]
end
end Go.Dd

namespace Go.Dd
open Go.Proofs
theorem iP {M : MemV} {R : List Int} {o : Int} (h : bQ o M.pl ≠ 0) : cW M R o = kH M o := if_pos h
section
variable {h h' : Hp} {M M' : MemV} {R R' : List Int} {es es' : List (DV × DV)} {k : Nat} {z : Prop} {CL : List Nat} {b : Pos} {n r : Int} {x : DV}
end
theorem eqX {a b : Int} (h : a = b) : (a == b) = true := by rw [h]; exact beq_self_eq_true b
end Go.Dd

namespace Go.Dd
open Go.Proofs
theorem aRt (n : Int) (h : Hp) : bG (some (iD n, h)) (iD n) = true := by
 unfold bG
 simp [DV.beq]
theorem neF {a b : Int} (h : a = b) : (a != b) = false := by simpa using h
theorem bAb (m : Nat) (h : Hp) : dC (m + 1) 54 [] h = some (.t [iD 0, iD 20], h) := by rw [nN 54 rfl, bGz]; rfl
section
variable {h h' : Hp} {M M' : MemV} {R R' : List Int} {es es' : List (DV × DV)} {k : Nat} {z : Prop} {CL : List Nat} {b : Pos} {n r : Int} {x : DV}
end
end Go.Dd

namespace Go.Dd
open Go.Proofs
section
variable {h h' : Hp} {M M' : MemV} {R R' : List Int} {es es' : List (DV × DV)} {k : Nat} {z : Prop} {CL : List Nat} {b : Pos} {n r : Int} {x : DV}
theorem cIv {v w : Int} (h : gM M R v = some w) : dK v M.pl = true := by
 unfold gM at h
 by_cases hs : dI v = true
 ·unfold dK
  split <;> first | rfl | (rw [hs]; rfl)
 ·rw [if_neg hs] at h
  by_cases hc : (bQ v M.pl ≠ 0 ∧ kH M v = R.getD 10 0) ∧ bV M v % 4 = 1
  ·exact sC hc.1.1
  ·rw [if_neg hc] at h; cases h
noncomputable def qA (M : MemV) (o : Int) : List Int := (List.range (bV M o / 4)).map fun i => nJ M o i
theorem aSw (f : Nat → Int) (i : Nat) : (List.range (i + 1)).map f = (List.range i).map f ++ [f i] := by
 rw [List.range_succ, List.map_append]
 rfl
theorem bCz (V : Wv k h M R es z) (o : Int) (hlen : bV M o / 4 ≤ 256) {m : Nat} : ∀ (j i : Nat) (mm : Nat) (x : DV) (h1 : Hp), i + j = bV M o / 4 → j < mm → Lo h.next.toNat h h1 → GrS x (((List.range i).map fun i => nJ M o i).map iD) h.next.toNat h1 →
  ∃ x' h2, nX (dC (m + 2)) (m + 2) mm (.p (aS 7) 0) (iD o) x (.i .i64 (Int.ofNat i)) h1 = some (x', h2) ∧ Lo h.next.toNat h h2 ∧ GrS x' ((qA M o).map iD) h.next.toNat h2 := by
 intro j
 induction j with
 | zero =>
  intro i mm x h1 hij hm L G
  obtain ⟨mm, rfl⟩ : ∃ m', mm = m' + 1 := ⟨mm - 1, by omega⟩
  have V1 := V.up (V.K.W.lo L) L.up
  have ei : i = bV M o / 4 := by omega
  subst ei
  refine ⟨x, h1, ?_, L, G⟩
  show oE _ _ (nX _ _ mm) _ _ _ _ h1 = _
  unfold oE fW
  have em := V1.K.W.memory (m + 1)
  have ef := V1.K.W.fieldsA V1.K.G V1.I o
  have d : decide (Int.ofNat (bV M o / 4) < Int.ofNat (bV M o / 4)) = false := decide_eq_false (by omega)
  simp only [iD] at ef em ⊢
  simp only [em, aQ, ef, cM, d, bH]
 | succ j ih =>
  intro i mm x h1 hij hm L G
  obtain ⟨mm, rfl⟩ : ∃ m', mm = m' + 1 := ⟨mm - 1, by omega⟩
  have V1 := V.up (V.K.W.lo L) L.up
  have em := V1.K.W.memory (m + 1)
  have ef := V1.K.W.fieldsA V1.K.G V1.I o
  obtain ⟨er, eg, _⟩ := V1.K.W.getA V1.K.G V1.I o i
  have d : decide (Int.ofNat i < Int.ofNat (bV M o / 4)) = true := decide_eq_true (by simp; omega)
  obtain ⟨y, g, a1, x', h', a2, G', L'⟩ := G.app (Nat.le_trans (Nat.le_refl _) L.next) (bIp _) (z := .i .i64 (Int.ofNat 0)) (v := iD (nJ M o i)) rfl rfl (bytes := 8) (by simp; unfold lX; omega)
  have G2 : GrS x' (((List.range (i + 1)).map fun i => nJ M o i).map iD) h.next.toNat h' := by
   rw [aSw, List.map_append]
   exact G'
  obtain ⟨x2, h2, e2, L2, G3⟩ := ih (i + 1) mm x' h' (by omega) (by omega) (L.trans L') G2
  refine ⟨x2, h2, ?_, L2, G3⟩
  rw [← e2]
  show oE _ _ (nX _ _ mm) _ _ _ _ h1 = _
  unfold oE
  have ha := gG i 1 h' (by omega)
  simp only [iD] at em ef eg a1 a2 ⊢
  simp only [em, aQ, ef, cM, d, bM, eg, nV, oZ, a1, a2]
  show bnd (aD .add (.i .i64 (Int.ofNat i)) (.i .i64 (Int.ofNat 1)) h') _ = _
  rw [ha]
  rfl
theorem bUl (V : Wv k h M R es z) (o : Int) (hlen : bV M o / 4 ≤ 256) {m : Nat} (hm : 300 < m) :
  ∃ x h2, dC (m + 3) 29 [.p (aS 7) 0, iD o] h = some (x, h2) ∧ Wv k h2 M R es z ∧ Up h h2 ∧ SlI x (qA M o) h2 := by
 obtain ⟨x, h2, e, L, G⟩ := bCz V o hlen (m := m) (bV M o / 4) 0 (m + 2) .l0 h (by omega) (by omega) (Lo.refl _ _) (.inl ⟨rfl, rfl⟩)
 refine ⟨x, h2, ?_, V.up (V.K.W.lo L) L.up, L.up, bZz V.K.W.nx G⟩
 rw [nN 29 rfl, cSe]
 unfold s29 aWz aYc aUz bWr
 exact e
theorem GI.len256 (I : GI M R CL z) (G : Good M) (o : Int) : bV M o / 4 ≤ 256 := by
 by_cases e : bQ o M.pl = 0
 ·unfold bV
  rw [e, I.z0]
  decide
 ·exact (I.headOb G e).2.1.len
end
end Go.Dd

namespace Go.Dd
open Go.Proofs
theorem aOc (h : Hp) : bG (some (aW, h)) aW = true := Eq.trans rfl rfl
section
variable {h h' : Hp} {M M' : MemV} {R R' : List Int} {es es' : List (DV × DV)} {k : Nat} {z : Prop} {CL : List Nat} {b : Pos} {n r : Int} {x : DV} {l : List Int}
theorem aLq (V : Wv k h M R es z) (D : Dr h b n r x) {y : DV} {ks : List Int} (S : SlI y ks h) (hl : ks.length ≤ 256) {m : Nat} (hm : 300 < m) :
  ∃ h', dC (m + 4) 96 [.p b 0, y] h = some (.b (ks.any fun i => knW R i == cW M R r), h') ∧ Wv k h' M R es z ∧ Up h h' := by
 obtain ⟨h1, hh1⟩ : ∃ h1 : Hp, (⟨h.next.succ, Tr.set (.row .ex [.p b 0]) h.next h.bl⟩ : Hp) = h1 := ⟨_, rfl⟩
 obtain ⟨h2, hh2⟩ : ∃ h2 : Hp, (⟨h.next.succ.succ, Tr.set (.row .ex [.p b 0]) h.next h.bl⟩ : Hp) = h2 := ⟨_, rfl⟩
 obtain ⟨h3, hh3⟩ : ∃ h3 : Hp, (⟨h.next.succ.succ, Tr.set (.row .ex [iD (cW M R r)]) h.next.succ (Tr.set (.row .ex [.i .i64 (Int.ofNat 0)]) h.next.succ h2.bl)⟩ : Hp) = h3 := ⟨_, rfl⟩
 have ns := dSs h.next
 have ns2 := dSs h.next.succ
 have nx := V.K.W.nx
 have ne1 : h.next ≠ h.next.succ := fun e => by have := congrArg Pos.toNat e; omega
 have oth2 : ∀ p : Pos, p ≠ h.next → h2.bl.get p = h.bl.get p := fun p hp => by
  rw [← hh2]
  exact dSq _ _ _ _ hp
 have oth3 : ∀ p : Pos, p ≠ h.next.succ → h3.bl.get p = h2.bl.get p := fun p hp => by
  rw [← hh3]
  show (Tr.set _ _ (Tr.set _ _ _)).get p = _
  rw [dSq _ _ _ _ hp, dSq _ _ _ _ hp]
 have n2 : h2.next = h.next.succ.succ := by rw [← hh2]
 have n3 : h3.next = h.next.succ.succ := by rw [← hh3]
 have U2 : Up h h2 := ⟨by rw [n2]; omega, fun p _ hp => oth2 p fun e => by subst e; omega⟩
 have U3 : Up h h3 := ⟨by rw [n3]; omega, fun p _ hp => (oth3 p fun e => by subst e; omega).trans (oth2 p fun e => by subst e; omega)⟩
 have V2 : Wv k h2 M R es z := V.up (V.K.W.up U2 fun p hp => oth2 p fun e => by subst e; omega) U2
 have V3 : Wv k h3 M R es z := V.up (V.K.W.up U3 fun p hp => (oth3 p fun e => by subst e; omega).trans (oth2 p fun e => by subst e; omega)) U3
 have D2 := D.up U2
 have D3 := D.up U3
 have S3 := S.up U3
 have g2 : h2.bl.get h.next = some (.row .ex [.p b 0]) := by rw [← hh2]; exact dSr _ _ _
 have g3 : h3.bl.get h.next = some (.row .ex [.p b 0]) := (oth3 _ ne1).trans g2
 have g4 : h3.bl.get h.next.succ = some (.row .ex [iD (cW M R r)]) := by rw [← hh3]; exact dSr _ _ _
 have e1 : bO (.p b 0) h = some (.p h.next 0, h1) := by rw [← hh1]; rfl
 have er : resv 1 h1 = h2 := by rw [← hh1, ← hh2]; rfl
 have n1 : h1.next = h.next.succ := by rw [← hh1]
 have l2 : aA (.p h.next 0) h2 = some (.p b 0, h2) := jM g2 rfl rfl
 have l3 : aA (.p h.next 0) h3 = some (.p b 0, h3) := jM g3 rfl rfl
 have l4 : aA (.p h.next.succ 0) h3 = some (iD (cW M R r), h3) := jM g4 rfl rfl
 have co := V2.K.W.classOf V2.K.G r (m + 1)
 have e2 : iY (bX 0 h1.next) [(.i .i64 (Int.ofNat 0))] h2 = some (.p h.next.succ 0, ⟨h.next.succ.succ, Tr.set (.row .ex [.i .i64 (Int.ofNat 0)]) h.next.succ h2.bl⟩) := by
  rw [n1]
  unfold iY
  rw [n2]
  rfl
 have e3 : aG 1 (.p h.next.succ 0) (iD (cW M R r)) ⟨h.next.succ.succ, Tr.set (.row .ex [.i .i64 (Int.ofNat 0)]) h.next.succ h2.bl⟩ = some (aW, h3) := by
  rw [← hh3]
  simp only [aG, cY, dE, dSr]
  rfl
 obtain ⟨m', rfl⟩ : ∃ m', m = m' + 1 := ⟨m - 1, by omega⟩
 have hc : ∀ v, cX CF (dC (m' + 2)) (.f 109 [] [.p h.next 0, .p h.next.succ 0]) [iD v] h3 = some (.b (knW R v == cW M R r), h3) := fun v => by
  rw [pcf rfl]
  simp only [List.nil_append, List.singleton_append]
  rw [nN 109 rfl, bKn]
  unfold s109
  have kn := V3.K.W.knownA v m'
  have g2' : ∀ (a b c : DV) (l : List DV), (a :: b :: c :: l).getD 2 aW = c := fun _ _ _ _ => rfl
  have sm := aRt (cW M R r) h3
  simp only [iD] at kn l4 sm ⊢
  simp only [g0, g1, g2', l3, aQ, eY, nR, D3.l0, kn, l4, sm, Bool.and_self, cnd, cond_true, cB]
 have ec := dKr S3 (p := fun v => knW R v == cW M R r) (n := m' + 2) hc hl (by omega)
 refine ⟨h3, ?_, V3, U3⟩
 rw [nN 96 rfl, cSl]
 unfold s96
 have dl2 := D2.l2
 simp only [iD] at co dl2 e3
 simp only [g0, g1, e1, aQ, er, l2, eY, nR, D2.l0, dl2, co, e2, e3, ec]
def ixW (M : MemV) (R : List Int) (r : Int) : Prop := cW M R r = R.getD 11 0 ∨ cW M R r = R.getD 12 0 ∨ cW M R r = R.getD 13 0
noncomputable def ixB (M : MemV) (R : List Int) (r : Int) : Bool := R.getD 11 0 == cW M R r || (R.getD 12 0 == cW M R r || (R.getD 13 0 == cW M R r || false))
theorem ixB_iff : ixB M R r = true ↔ ixW M R r := by
 unfold ixB ixW
 simp only [Bool.or_false, Bool.or_eq_true, beq_iff_eq]
 constructor
 ·rintro (q | q | q)
  ·exact .inl q.symm
  ·exact .inr (.inl q.symm)
  ·exact .inr (.inr q.symm)
 ·rintro (q | q | q)
  ·exact .inl q.symm
  ·exact .inr (.inl q.symm)
  ·exact .inr (.inr q.symm)
theorem ixW.at (I : GI M R CL z) (q : ixW M R r) : bQ r M.pl ≠ 0 := by
 have hr : ∀ i, i < 16 → R.getD (2 + i) 0 = .ofNat (6 + 18 * i) := I.rk
 have h9 := hr 9 (by omega)
 have h10 := hr 10 (by omega)
 have h11 := hr 11 (by omega)
 have h7 := hr 7 (by omega)
 have h2 := hr 2 (by omega)
 have h4 := hr 4 (by omega)
 have h5 := hr 5 (by omega)
 simp only [Nat.reduceAdd, Nat.reduceMul] at h9 h10 h11 h7 h2 h4 h5
 intro e
 unfold ixW cW at q
 rw [if_neg (by simp [e])] at q
 rw [h9, h10, h11, h7, h2, h4, h5] at q
 split at q
 ·rcases q with q | q | q <;> cases q
 ·split at q
  ·rcases q with q | q | q <;> cases q
  ·split at q
   ·rcases q with q | q | q <;> cases q
   ·split at q
    ·rcases q with q | q | q <;> cases q
    ·rcases q with q | q | q <;> cases q
theorem bVn (V : Wv k h M R es z) (D : Dr h b n r x) {v : Int} (S : SlI x (v :: l) h) (m : Nat) :
  ∃ (p : Int) (q : Bool), dC (m + 3) 97 [.p b 0] h = some (.t [iD p, .b q], h) ∧ (q = true ↔ ∃ i : Nat, gM M R v = some (Int.ofNat (i + 1)) ∧ i < bV M r / 4) ∧ (∀ i : Nat, gM M R v = some (Int.ofNat (i + 1)) → i < bV M r / 4 → p = Int.ofNat i) := by
 obtain ⟨a, e1, e2⟩ := S.at (i := 0) rfl
 have va := V.K.W.value V.K.G V.I v m
 have em := V.K.W.memory (m + 1)
 have fl := V.K.W.fieldsA V.K.G V.I r
 have l2 := D.l2
 have sm := aRt r h
 have sb : ∀ w : Int, ∃ p, aD .sub (.i .i64 w) (.i .i64 (Int.ofNat 1)) h = some (.i .i64 p, h) ∧ (∀ i : Nat, w = Int.ofNat (i + 1) → i ≤ 256 → p = Int.ofNat i) := fun w => by
  by_cases hw : -9223372036854775808 ≤ w - 1 ∧ w - 1 ≤ 9223372036854775807
  ·exact ⟨w - Int.ofNat 1, aTi _ _ _ hw, fun i hi _ => by rw [hi]; simp⟩
  ·refine ⟨IntKind.i64.wrap (w - Int.ofNat 1), by simp only [aD, if_true, fD], fun i hi h2 => absurd ?_ hw⟩
   rw [hi]
   constructor <;> simp <;> omega
 obtain ⟨p, es1, ps⟩ := sb ((gM M R v).getD 0)
 have ps' : ∀ i : Nat, gM M R v = some (Int.ofNat (i + 1)) → i < bV M r / 4 → p = Int.ofNat i := fun i hi h2 => ps i (by rw [hi]; rfl) (by have := V.I.len256 V.K.G r; omega)
 rw [nN 97 rfl, cRo]
 unfold s97
 simp only [iD] at va em fl l2 sm e2 ⊢
 simp only [g0, eY, nR, D.l0, aQ, D.l3 S, e1, e2, va, nV, oZ, es1]
 cases hv : gM M R v with
 | none =>
  refine ⟨p, false, ?_, by simp, fun i hi => by cases hi⟩
  simp only [Option.isSome_none, gB, jJ, bT, aQ, aOc, Bool.and_self, cnd, cond_true]
 | some w =>
  rw [hv] at ps'
  simp only [Option.isSome_some, Option.getD_some, jE, jG, aQ, bZ]
  by_cases c1 : w ≥ Int.ofNat 1
  ·obtain ⟨i, rfl⟩ : ∃ i : Nat, w = Int.ofNat (i + 1) := ⟨w.toNat - 1, by show w = ((w.toNat - 1 + 1 : Nat) : Int); have c2 : (1 : Int) ≤ w := c1; omega⟩
   simp only [decide_eq_true c1, jE, eY, nR, D.l0, aQ, em, l2, sm, Bool.and_self, cnd, cond_true, fl, aBr, bZ]
   by_cases c2 : Int.ofNat (i + 1) ≤ Int.ofNat (bV M r / 4)
   ·refine ⟨p, true, by simp only [decide_eq_true c2], by simp; exact ⟨i, rfl, by simp at c2; omega⟩, ps'⟩
   ·refine ⟨p, false, by simp only [decide_eq_false c2], by simp; intro i' e; simp at c2; omega, ps'⟩
  ·refine ⟨p, false, ?_, by simp; intro i e; have c2 : ¬ ((1 : Int) ≤ w) := c1; omega, ps'⟩
   simp only [decide_eq_false c1, gB, jJ, bT, aQ, aOc, Bool.and_self, cnd, cond_true]
end
end Go.Dd

namespace Go.Dd
open Go.Proofs
section
variable {h h' : Hp} {M M' : MemV} {R R' : List Int} {es es' : List (DV × DV)} {k : Nat} {z : Prop} {CL : List Nat} {b : Pos} {n r : Int} {x : DV} {l : List Int}
theorem cWj (V : Wv k h M R es z) (u v w : Int) : ∃ y h', aL [(.i .i64 (Int.ofNat 0)), (.i .i64 (Int.ofNat 0)), (.i .i64 (Int.ofNat 0))] 3 [(0, 1, iD u), (1, 1, iD v), (2, 1, iD w)] h = some (y, h') ∧ SlI y [u, v, w] h' ∧ Up h h' ∧ Wv k h' M R es z := by
 obtain ⟨U1, V1⟩ := V.new (.row .ex [iD u, iD v, iD w])
 refine ⟨.l h.next 0 3 3, _, ?_, .inr ⟨h.next, 3, .ex, rfl, dSr _ _ _, .inr (by have := V.K.W.nx; omega), ?_⟩, U1, V1⟩
 ·simp [aL, iS, cY, iD]
 ·show h.next.toNat < h.next.succ.toNat
  rw [dSs]; omega
theorem ks3 : ([9, 10, 11] : List Int).any (fun i => knW R i == cW M R r) = ixB M R r := rfl
theorem ks1 (i : Int) : ([i] : List Int).any (fun i => knW R i == cW M R r) = (knW R i == cW M R r) := by simp
theorem dRf (V : Wv k h M R es z) (D : Dr h b n r x) {m : Nat} (hm : 300 < m) :
  ∃ y h1 h', aL [(.i .i64 (Int.ofNat 0)), (.i .i64 (Int.ofNat 0)), (.i .i64 (Int.ofNat 0))] 3 [(0, 1, (.i .i64 (Int.ofNat 9))), (1, 1, (.i .i64 (Int.ofNat 10))), (2, 1, (.i .i64 (Int.ofNat 11)))] h = some (y, h1) ∧
   dC (m + 4) 96 [.p b 0, y] h1 = some (.b (ixB M R r), h') ∧ Wv k h' M R es z ∧ Up h h' := by
 obtain ⟨y, h1, e1, S1, U1, V1⟩ := cWj V 9 10 11
 obtain ⟨h2, e2, V2, U2⟩ := aLq V1 (D.up U1) S1 (by simp) hm
 rw [ks3] at e2
 exact ⟨y, h1, h2, e1, e2, V2, U1.trans U2⟩
theorem dJc (V : Wv k h M R es z) (D : Dr h b n r x) (i : Nat) {m : Nat} (hm : 300 < m) :
  ∃ y h1 h', aL [(.i .i64 (Int.ofNat 0))] 1 [(0, 1, (.i .i64 (Int.ofNat i)))] h = some (y, h1) ∧
   dC (m + 4) 96 [.p b 0, y] h1 = some (.b (knW R i == cW M R r), h') ∧ Wv k h' M R es z ∧ Up h h' := by
 obtain ⟨y, h1, e1, S1, U1, V1⟩ := cYd V (Int.ofNat i)
 obtain ⟨h2, e2, V2, U2⟩ := aLq V1 (D.up U1) S1 (by simp) hm
 rw [ks1] at e2
 exact ⟨y, h1, h2, e1, e2, V2, U1.trans U2⟩
end
end Go.Dd

namespace Go.Dd
open Go.Proofs
noncomputable def MemV.putW (M : MemV) (r : Int) (i : Nat) (v : Int) : MemV := { M with t := M.t.set (bQ r M.pl + 3 + i) v }
section
variable {h h' : Hp} {M M' : MemV} {R R' : List Int} {es es' : List (DV × DV)} {k : Nat} {z z' : Prop} {CL : List Nat} {b : Pos} {n r v : Int} {x : DV} {l : List Int} {i : Nat}
theorem aEh : (M.putW r i v).pl = M.pl := rfl
structure PutI (M : MemV) (R : List Int) (CL : List Nat) (r : Int) (i : Nat) : Prop where
 at0 : bQ r M.pl ≠ 0
 hi : i < bV M r / 4
 ncl : bQ r M.pl ∉ CL
 nsy : kH M r ≠ R.getD 13 0
theorem nF (I : GI M R CL z) (G : Good M) (P : PutI M R CL r i) (j : Nat) : (M.putW r i v).t.get j = if j = bQ r M.pl + 3 + i then v else M.t.get j := by
 obtain ⟨_, _, h4, h3⟩ := I.headOb G P.at0
 have h1 := P.hi
 have h5 := G.le
 have h6 := G.hi
 exact WT.get_set _ _ _ _ (by omega)
theorem gI (I : GI M R CL z) (G : Good M) (P : PutI M R CL r i) {a hd : Nat} (ha : M.pl.get a ≠ 0) (hh : M.t.get a = .ofNat hd) {j : Nat} (hj : j < 3 + hd / 4) (hne : a ≠ bQ r M.pl ∨ j < 3) : (M.putW r i v).t.get (a + j) = M.t.get (a + j) := by
 rw [nF I G P]
 obtain ⟨h1, _, h4, h3⟩ := I.headOb G P.at0
 have hi := P.hi
 rw [if_neg]
 intro e
 by_cases c : a = bQ r M.pl
 ·rcases hne with q | q
  ·exact q c
  ·omega
 ·rcases Nat.lt_or_ge a (bQ r M.pl) with q | q
  ·have := I.dj a (bQ r M.pl) ha (xW P.at0) q hd hh
   omega
  ·have := I.dj (bQ r M.pl) a (xW P.at0) ha (by omega) (bV M r) h1
   omega
theorem Good.put (I : GI M R CL z) (G : Good M) (P : PutI M R CL r i) : Good (M.putW r i v) := by
 refine ⟨G.n, G.le, G.lo, G.hi, G.md, fun a ha => ?_⟩
 obtain ⟨h3, hd, h1, h2, h4, h5⟩ := G.ob a ha
 have e0 := gI (v := v) I G P ha h1 (j := 0) (by omega) (.inr (by omega))
 have e1 := gI (v := v) I G P ha h1 (j := 1) (by omega) (.inr (by omega))
 rw [Nat.add_zero] at e0
 refine ⟨h3, hd, by rw [e0]; exact h1, h2, h4, ?_⟩
 rw [e1]
 exact h5
theorem bBu (I : GI M R CL z) (G : Good M) (P : PutI M R CL r i) {o : Int} {s : List Nat} (T : TxO M (R.getD 13 0) o s) : TxO (M.putW r i v) (R.getD 13 0) o s := by
 have ne : bQ o M.pl ≠ bQ r M.pl := fun e => P.nsy (by unfold kH; rw [← e]; exact T.cls)
 have ho := xW T.at0
 have hl : (s.length * 4 + 2) / 4 = s.length := by omega
 have e0 := gI (v := v) I G P ho T.hd (j := 0) (by omega) (.inr (by omega))
 have e1 := gI (v := v) I G P ho T.hd (j := 1) (by omega) (.inr (by omega))
 rw [Nat.add_zero] at e0
 refine ⟨T.at0, by show (M.putW r i v).t.get (bQ o M.pl) = _; rw [e0]; exact T.hd, by show (M.putW r i v).t.get (bQ o M.pl + 1) = _; rw [e1]; exact T.cls, T.by8, T.len, fun j c hj => ?_⟩
 have hjl : j < s.length := by
  rcases Nat.lt_or_ge j s.length with q | q
  ·exact q
  ·rw [List.getElem?_eq_none q] at hj; cases hj
 have e2 := gI (v := v) I G P ho T.hd (j := 3 + j) (by omega) (.inl ne)
 show (M.putW r i v).t.get (bQ o M.pl + 3 + j) = _
 rw [show bQ o M.pl + 3 + j = bQ o M.pl + (3 + j) by omega, e2, ← show bQ o M.pl + 3 + j = bQ o M.pl + (3 + j) by omega]
 exact T.get j c hj
theorem GI.put (I : GI M R CL z) (G : Good M) (P : PutI M R CL r i) (hb : bV M r % 4 = 2 → ∃ c : Nat, c < 256 ∧ v = .ofNat c)
  (hz : z' → z ∧ ∀ c ∈ CL, M.t.get (c + 8) = 1 → kH M r ≠ .ofNat (2 * c)) : GI (M.putW r i v) R CL z' := by
 have cl8 : ∀ c ∈ CL, ∀ j, j < 9 → (M.putW r i v).t.get (c + j) = M.t.get (c + j) := fun c hc j hj => by
  have C := I.cl c hc
  exact gI I G P C.pl C.hd (by omega) (.inl fun e => P.ncl (e ▸ hc))
 have lo : ∀ j, j < 3 → (M.putW r i v).t.get j = M.t.get j := fun j hj => by
  rw [nF I G P, if_neg (by omega)]
 have kn : ∀ q, q < 16 → ∀ j, j < 9 → (M.putW r i v).t.get (3 + 9 * q + j) = M.t.get (3 + 9 * q + j) := fun q hq j hj => cl8 _ (I.kn q hq) j hj
 refine ⟨by rw [lo 0 (by omega)]; exact I.z0, by rw [lo 1 (by omega)]; exact I.z1, fun a ha hd hh => ?_, fun a b' ha hb' hab hd hh => ?_, fun c hc => ?_, I.rk, I.kn, ?_, ?_, ?_, ?_, ?_⟩
 ·have ha' : M.pl.get a ≠ 0 := ha
  obtain ⟨h3, hd', h1, h2, h4, _⟩ := G.ob a ha'
  have e0 := gI (v := v) I G P ha' h1 (j := 0) (by omega) (.inr (by omega))
  rw [Nat.add_zero] at e0
  rw [e0] at hh
  have e : hd' = hd := Int.ofNat.inj (h1.symm.trans hh)
  subst e
  have O := I.ob a ha' hd' hh
  have e1 := gI (v := v) I G P ha' h1 (j := 1) (by omega) (.inr (by omega))
  refine ⟨O.len, O.fmt, by rw [e1]; exact O.arr, by rw [e1]; exact O.str, fun q j hj => ?_, by rw [e1]; exact O.cls, fun q c hc q1 q2 => ?_⟩
  ·by_cases ea : a = bQ r M.pl ∧ j = i
   ·obtain ⟨rfl, rfl⟩ := ea
    have hw : bV M r = hd' := by unfold bV; rw [h1]
    rw [hw] at hb
    obtain ⟨c, c1, c2⟩ := hb q
    exact ⟨c, c1, by rw [nF I G P, if_pos rfl]; exact c2⟩
   ·by_cases ea2 : a = bQ r M.pl
    ·rw [nF I G P, if_neg (fun e => ea ⟨ea2, by omega⟩)]
     exact O.by8 q j hj
    ·have e2 := gI (v := v) I G P ha' h1 (j := 3 + j) (by omega) (.inl ea2)
     rw [show a + 3 + j = a + (3 + j) by omega, e2, ← show a + 3 + j = a + (3 + j) by omega]
     exact O.by8 q j hj
  ·obtain ⟨hz1, hz2⟩ := hz q
   rw [cl8 c hc 8 (by omega)] at q1
   rw [e1] at q2
   obtain ⟨w1, w2⟩ := O.pl hz1 c hc q1 q2
   refine ⟨w1, fun j hj => ?_⟩
   have ea2 : a ≠ bQ r M.pl := fun e => hz2 c hc q1 (by unfold kH; rw [← e]; exact q2)
   have e2 := gI (v := v) I G P ha' h1 (j := 3 + j) (by omega) (.inl ea2)
   rw [show a + 3 + j = a + (3 + j) by omega, e2, ← show a + 3 + j = a + (3 + j) by omega]
   exact w2 j hj
 ·have ha' : M.pl.get a ≠ 0 := ha
  obtain ⟨h3, hd', h1, h2, h4, _⟩ := G.ob a ha'
  have e0 := gI (v := v) I G P ha' h1 (j := 0) (by omega) (.inr (by omega))
  rw [Nat.add_zero] at e0
  rw [e0] at hh
  exact I.dj a b' ha' hb' hab hd hh
 ·have C := I.cl c hc
  have e0 := cl8 c hc 0 (by omega)
  rw [Nat.add_zero] at e0
  refine ⟨C.pt, C.pl, by rw [e0]; exact C.hd, by rw [cl8 c hc 1 (by omega)]; exact C.cl, ?_, by rw [cl8 c hc 5 (by omega)]; exact C.sz, by rw [cl8 c hc 8 (by omega)]; exact C.kd⟩
  obtain ⟨s, q1, q2⟩ := C.nm
  rw [cl8 c hc 3 (by omega)]
  exact ⟨s, bBu I G P q1, q2⟩
 ·have := kn 9 (by omega) 8 (by omega); rw [show 3 + 9 * 9 + 8 = 92 from rfl] at this; rw [this]; exact I.k9
 ·have := kn 10 (by omega) 8 (by omega); rw [show 3 + 9 * 10 + 8 = 101 from rfl] at this; rw [this]; exact I.k10
 ·have := kn 11 (by omega) 8 (by omega); rw [show 3 + 9 * 11 + 8 = 110 from rfl] at this; rw [this]; exact I.k11
 ·have := kn 8 (by omega) 8 (by omega); rw [show 3 + 9 * 8 + 8 = 83 from rfl] at this; rw [this]; exact I.k8
 ·have := kn 1 (by omega) 8 (by omega); rw [show 3 + 9 * 1 + 8 = 20 from rfl] at this; rw [this]; exact I.k1
theorem Wv.put (V : Wv k h M R es z) (P : PutI M R CLW r i) (hb : bV M r % 4 = 2 → ∃ c : Nat, c < 256 ∧ v = .ofNat c) (hv : okV (bV M r % 4) M.pl v)
  (hz : z' → z ∧ ∀ c ∈ CLW, M.t.get (c + 8) = 1 → kH M r ≠ .ofNat (2 * c)) :
  ∃ h', nL [.p (aS 3) 0, iD r, .i .i64 (.ofNat i), iD v] h = some (.i .i64 (.ofNat 0), h') ∧ Wv k h' (M.putW r i v) R es z' ∧ Up h h' := by
 obtain ⟨h1, O, h4, h3⟩ := V.I.headOb V.K.G P.at0
 have e1 := V.K.W.put (v := v) P.at0 h1 (by have := O.len; omega) P.hi (by have := V.K.G.le; omega) hv
 obtain ⟨W1, U1⟩ := V.K.W.setT (M.t.set (bQ r M.pl + 3 + i) v)
 refine ⟨_, e1, ⟨⟨W1, V.K.G.put V.I P, fun e he => ?_, V.K.r0, V.K.rk⟩, V.I.put V.K.G P hb hz, V.c.up V.K.W U1, V.n, V.fin, V.md⟩, U1⟩
 obtain ⟨s, x, q1, q2⟩ := V.K.sy e he
 exact ⟨s, x, q1, bBu V.I V.K.G P q2⟩
end
end Go.Dd

namespace Go.Dd
open Go.Proofs
section
variable {h h' : Hp} {M M' : MemV} {R R' : List Int} {es es' : List (DV × DV)} {k : Nat} {z z' : Prop} {CL : List Nat} {b : Pos} {n r v : Int} {x : DV} {l : List Int} {i : Nat}
theorem aXi (I : GI M R CL z) (G : Good M) (P : PutI M R CL r i) (o : Int) {j : Nat} (hj : j < 2) : (M.putW r i v).t.get (bQ o M.pl + j) = M.t.get (bQ o M.pl + j) := by
 by_cases e : bQ o M.pl = 0
 ·rw [nF I G P, if_neg (by omega)]
 ·obtain ⟨h1, _⟩ := I.headOb G e
  exact gI I G P (xW e) h1 (by omega) (.inr (by omega))
theorem aNs (I : GI M R CL z) (G : Good M) (P : PutI M R CL r i) (o : Int) : bV (M.putW r i v) o = bV M o := by
 have := aXi (v := v) I G P o (j := 0) (by omega)
 rw [Nat.add_zero] at this
 unfold bV
 rw [aEh, this]
theorem cBt (I : GI M R CL z) (G : Good M) (P : PutI M R CL r i) (o : Int) : kH (M.putW r i v) o = kH M o := aXi I G P o (by omega)
theorem cOt (I : GI M R CL z) (G : Good M) (P : PutI M R CL r i) (o : Int) : cW (M.putW r i v) R o = cW M R o := by
 unfold cW
 rw [aEh]
 by_cases e : bQ o M.pl = 0
 ·simp only [e, ne_eq, not_true_eq_false, if_false]
 ·rw [if_pos e, if_pos e]
  exact cBt I G P o
theorem bVj (I : GI M R CL z) (G : Good M) (P : PutI M R CL r i) (j : Nat) : nJ (M.putW r i v) r j = if j = i then v else nJ M r j := by
 have hi := P.hi
 unfold nJ
 rw [aNs I G P, aEh, nF I G P]
 by_cases e : j = i
 ·subst e
  rw [if_pos ⟨P.at0, hi⟩, if_pos rfl, if_pos rfl]
 ·rw [if_neg (by omega : ¬ (bQ r M.pl + 3 + j = bQ r M.pl + 3 + i)), if_neg e]
end
end Go.Dd

namespace Go.Dd
open Go.Proofs
structure Three (h : Hp) (k1 N1 : Int) (s1 : List Nat) (k2 N2 : Int) (s2 : List Nat) (k3 N3 : Int) (s3 : List Nat) : Prop where
 t1 : Tg h (pK 1021) k1 N1 s1
 t2 : Tg h (pK 1022) k2 N2 s2
 t3 : Tg h (pK 1023) k3 N3 s3
 nx : 1024 ≤ h.next.toNat
theorem Three.up {h h' : Hp} {k1 N1 k2 N2 k3 N3 : Int} {s1 s2 s3 : List Nat} (T : Three h k1 N1 s1 k2 N2 s2 k3 N3 s3) (U : Up h h') : Three h' k1 N1 s1 k2 N2 s2 k3 N3 s3 := by
 have := T.nx
 exact ⟨T.t1.up U (by rw [wZ]; omega) (by rw [wZ]; omega), T.t2.up U (by rw [wV]; omega) (by rw [wV]; omega), T.t3.up U (by rw [vS]; omega) (by rw [vS]; omega), Nat.le_trans T.nx U.next⟩
theorem oQ {p q s : Pos} (n1 : p ≠ q) (n2 : p ≠ s) (n3 : q ≠ s) (o1 o2 o3 : Ob) (T : Tr Ob) (nx : Pos) : (⟨nx, Tr.set o3 s (Tr.set o2 q (Tr.set o1 p T))⟩ : Hp).bl.get p = some o1 ∧ (⟨nx, Tr.set o3 s (Tr.set o2 q (Tr.set o1 p T))⟩ : Hp).bl.get q = some o2 ∧ (⟨nx, Tr.set o3 s (Tr.set o2 q (Tr.set o1 p T))⟩ : Hp).bl.get s = some o3 :=
 ⟨(dSq _ _ _ _ n2).trans ((dSq _ _ _ _ n1).trans (dSr _ _ _)), (dSq _ _ _ _ n3).trans (dSr _ _ _), dSr _ _ _⟩
theorem aNo (k1 N1 : Int) (s1 : List Nat) (k2 N2 : Int) (s2 : List Nat) (k3 N3 : Int) (s3 : List Nat) : ∃ h1 h2 h3, bO (th k1 N1 s1) (hK 1021) = some (.p (pK 1021) 0, h1) ∧ bO (th k2 N2 s2) h1 = some (.p (pK 1022) 0, h2) ∧ bO (th k3 N3 s3) h2 = some (.p (pK 1023) 0, h3) ∧
  iG 12 [] h3 = some (.p (aS 7) 0, hWo h3) ∧ Wv 20000 (hWo h3) MN RN esN ∧ Three (hWo h3) k1 N1 s1 k2 N2 s2 k3 N3 s3 := by
 refine ⟨_, ⟨pK 1023, Tr.set (.row .ex [iD k2, iD N2, .s s2]) (pK 1022) (Tr.set (.row .ex [iD k1, iD N1, .s s1]) (pK 1021) .e)⟩,
  ⟨aS 1, Tr.set (.row .ex [iD k3, iD N3, .s s3]) (pK 1023) (Tr.set (.row .ex [iD k2, iD N2, .s s2]) (pK 1022) (Tr.set (.row .ex [iD k1, iD N1, .s s1]) (pK 1021) .e))⟩, bZn _ _ _ _, ?_, ?_, ?_, WvN _, ?_⟩
 ·rw [bZn]
  show some (DV.p (pK 1021).succ 0, (⟨(pK 1021).succ.succ, Tr.set _ (pK 1021).succ _⟩ : Hp)) = _
  rw [cXz, cXt]
  rfl
 ·rw [bZn]
  show some (DV.p (pK 1023) 0, (⟨(pK 1023).succ, Tr.set _ (pK 1023) _⟩ : Hp)) = _
  rw [cVb]
 ·exact bLq _ (by kernel_rfl)
 ·have n1 : pK 1021 ≠ pK 1022 := fun e => by have := congrArg Pos.toNat e; rw [wZ, wV] at this; omega
  have n2 : pK 1021 ≠ pK 1023 := fun e => by have := congrArg Pos.toNat e; rw [wZ, vS] at this; omega
  have n3 : pK 1022 ≠ pK 1023 := fun e => by have := congrArg Pos.toNat e; rw [wV, vS] at this; omega
  refine ⟨dUe ?_ (by rw [wZ]; omega), dUe ?_ (by rw [wV]; omega), dUe ?_ (by rw [vS]; omega), ?_⟩
  ·exact (oQ n1 n2 n3 _ _ _ _ _).1
  ·exact (oQ n1 n2 n3 _ _ _ _ _).2.1
  ·exact (oQ n1 n2 n3 _ _ _ _ _).2.2
  ·exact Nat.le_trans (by omega) (WNo _).nx
end Go.Dd

namespace Go.Dd
open Go.Proofs
section
variable {h h' : Hp} {M M' : MemV} {R R' : List Int} {es es' : List (DV × DV)} {k : Nat} {z z' : Prop} {CL : List Nat} {b : Pos} {n r v y : Int} {x : DV} {l : List Int} {i : Nat}
theorem bsa (zs : List DV) (n : Nat) (p : List (Nat × Nat × DV)) (h : Hp) : bJ (bX 0 h.next) zs n p (resv 1 h) = aL zs n p h := rfl
theorem Wd.putNo (W : Wd h M R es) {o v : Int} {i hd : Nat} (ho : bQ o M.pl ≠ 0) (hh : M.t.get (bQ o M.pl) = .ofNat hd) (hb : hd < 1000000000000) (hi : i < hd / 4) (hn : bQ o M.pl + 3 + hd / 4 ≤ M.n) (h2 : hd % 4 = 2) (hv : ¬ (0 ≤ v ∧ v ≤ 255)) :
  nL [.p (aS 3) 0, .i .i64 o, .i .i64 (.ofNat i), .i .i64 v] h = some (.i .i64 (.ofNat 6), h) := by
 have b0 : Nat.beq (bQ o M.pl) 0 = false := bDd ho
 have b1 : Nat.blt (Nat.add (bQ o M.pl) 1) M.n = true := by
  rw [fV]; exact decide_eq_true (show bQ o M.pl + 1 < M.n by omega)
 have b2 : Nat.blt hd 1000000000000 = true := by rw [fV]; exact decide_eq_true hb
 have b3 : Nat.ble (Nat.div hd 4) i = false := by rw [iV]; exact decide_eq_false (show ¬ hd / 4 ≤ i by omega)
 have b4 : Nat.blt (Nat.add (Nat.add (bQ o M.pl) 3) i) M.n = true := by rw [fV]; exact decide_eq_true (show bQ o M.pl + 3 + i < M.n by omega)
 simp only [nL, iU, W.mem, gL, b0, cond_false, hC, b1, cond_true, hh, b2, b3, b4]
 show (match hd % 4 with
  | 0 => bif dK v M.pl then kU M (bQ o M.pl + 3 + i) v h else some (.i .i64 (.ofNat 6), h)
  | 2 => (match (generalizing := false) v with
   | .ofNat c => bif Nat.ble c 255 then kU M (bQ o M.pl + 3 + i) v h else some (.i .i64 (.ofNat 6), h)
   | .negSucc _ => some (.i .i64 (.ofNat 6), h))
  | _ => kU M (bQ o M.pl + 3 + i) v h) = _
 rw [h2]
 cases v with
 | negSucc c => rfl
 | ofNat c =>
  have : Nat.ble c 255 = false := by rw [iV]; exact decide_eq_false (by simp at hv; omega)
  simp only [this, cond_false]
def putV (M : MemV) (R : List Int) (r y w : Int) : Prop := (cW M R r = R.getD 11 0 ∧ w = y) ∨ (cW M R r = R.getD 12 0 ∧ ∃ c : Nat, c ≤ 255 ∧ gM M R y = some (Int.ofNat c) ∧ w = Int.ofNat c)
theorem kno (I : GI M R CL z) {a b : Nat} (ha : a < 16) (hb : b < 16) (h : R.getD (2 + a) 0 = R.getD (2 + b) 0) : a = b := by
 rw [I.rk a ha, I.rk b hb] at h
 have := Int.ofNat.inj h
 omega
theorem putV.ix {w : Int} (q : putV M R r y w) : ixW M R r := by
 rcases q with ⟨q, _⟩ | ⟨q, _⟩
 ·exact .inl q
 ·exact .inr (.inl q)
theorem putV.can (I : GI M R CL z) (G : Good M) {w : Int} (q : putV M R r y w) (hi : i < bV M r / 4) : PutI M R CL r i := by
 have ha := q.ix.at I
 have hc : kH M r = R.getD (2 + 9) 0 ∨ kH M r = R.getD (2 + 10) 0 := by
  rcases q with ⟨q, _⟩ | ⟨q, _⟩
  ·rw [iP ha] at q; exact .inl q
  ·rw [iP ha] at q; exact .inr q
 refine ⟨ha, hi, fun hm => ?_, fun e => ?_⟩
 ·have c1 : kH M r = R.getD (2 + 1) 0 := (I.cl _ hm).cl
  rcases hc with hc | hc
  ·have := kno I (by omega) (by omega) (hc.symm.trans c1); omega
  ·have := kno I (by omega) (by omega) (hc.symm.trans c1); omega
 ·have c1 : kH M r = R.getD (2 + 11) 0 := e
  rcases hc with hc | hc
  ·have := kno I (by omega) (by omega) (hc.symm.trans c1); omega
  ·have := kno I (by omega) (by omega) (hc.symm.trans c1); omega
theorem Wv.putV (V : Wv k h M R es) {w : Int} (q : putV M R r y w) (hi : i < bV M r / 4) (my : dK y M.pl = true) :
  ∃ h', nL [.p (aS 3) 0, iD r, .i .i64 (.ofNat i), iD w] h = some (.i .i64 (.ofNat 0), h') ∧ Wv k h' (M.putW r i w) R es ∧ Up h h' := by
 have P := q.can V.I V.K.G hi
 obtain ⟨h1, O, h4, h3⟩ := V.I.headOb V.K.G P.at0
 refine V.put P (fun f2 => ?_) ?_ (fun _ => ⟨trivial, fun c hc k1 e => ?_⟩)
 ·rcases q with ⟨q, _⟩ | ⟨_, c, c1, _, c3⟩
  ·rw [iP P.at0] at q
   rw [O.arr q] at f2
   cases f2
  ·exact ⟨c, by omega, c3⟩
 ·rcases q with ⟨q, rfl⟩ | ⟨q, c, c1, _, rfl⟩
  ·rw [iP P.at0] at q
   rw [O.arr q]
   exact my
  ·rw [iP P.at0] at q
   rw [O.str (.inl q)]
   show (0 : Int) ≤ (c : Int) ∧ (c : Int) ≤ 255
   omega
 ·have hk : ∀ j, j < 16 → kH M r = R.getD (2 + j) 0 → c = 3 + 9 * j := fun j hj e2 => by
   rw [e2, V.I.rk j hj] at e
   have := Int.ofNat.inj e
   omega
  rcases q with ⟨q, _⟩ | ⟨q, _⟩
  ·rw [iP P.at0] at q
   rw [hk 9 (by omega) q, show 3 + 9 * 9 + 8 = 92 from rfl, V.I.k9] at k1; cases k1
  ·rw [iP P.at0] at q
   rw [hk 10 (by omega) q, show 3 + 9 * 10 + 8 = 101 from rfl, V.I.k10] at k1; cases k1
theorem dIi (V : Wv k h M R es) (D : Dr h b n r x) {v : Int} (S : SlI x [v, y] h) (hi : i < bV M r / 4) (hx : ixW M R r) (my : dK y M.pl = true) {m : Nat} (hm : 300 < m) :
  ∃ a e h', dC (m + 5) 98 [.p b 0, .i .i64 (.ofNat i)] h = some (.t [iD a, iD e], h') ∧ Up h h' ∧
   (((¬ ∃ w, putV M R r y w) ∧ a = 0 ∧ e = 20 ∧ Wv k h' M R es) ∨ (∃ w, putV M R r y w ∧ a = y ∧ e = 0 ∧ Wv k h' (M.putW r i w) R es)) := by
 obtain ⟨a1, g1', g2'⟩ := S.at (i := 1) rfl
 obtain ⟨y1, h1, h2, e1, e2, V2, U2⟩ := dJc V D 10 (m := m) hm
 rw [show knW R ((10 : Nat) : Int) = R.getD 12 0 from rfl] at e2
 have D2 := D.up U2
 have S2 := S.up U2
 have ef : ∀ h, dC (m + 4) 54 [] h = some (.t [iD 0, iD 20], h) := fun h => bAb _ _
 have ha := hx.at V.I
 obtain ⟨hd1, O, hd4, hd3⟩ := V.I.headOb V.K.G ha
 have gle := V.K.G.le
 have part3 : ∀ w : Int, (∀ w', putV M R r y w' → w' = w) → (putV M R r y w ∨ cW M R r = R.getD 13 0 ∨ (cW M R r = R.getD 12 0 ∧ ¬ (0 ≤ w ∧ w ≤ 255))) →
   ∃ a e h', pS (dC (m + 4)) (m + 4) (.p b 0) (.i .i64 (.ofNat i)) (iD w) h2 = some (.t [iD a, iD e], h') ∧ Up h2 h' ∧
   (((¬ ∃ w, putV M R r y w) ∧ a = 0 ∧ e = 20 ∧ Wv k h' M R es) ∨ (∃ w, putV M R r y w ∧ a = y ∧ e = 0 ∧ Wv k h' (M.putW r i w) R es)) := by
  intro w uniq hq
  obtain ⟨y3, h3, h4, e3, e4, V4, U4⟩ := dJc V2 D2 11 (m := m) hm
  rw [show knW R ((11 : Nat) : Int) = R.getD 13 0 from rfl] at e4
  have D4 := D2.up U4
  have S4 := S2.up U4
  have em4 := V4.K.W.memory (m + 3)
  have l2 := D4.l2
  have sm := aRt r h4
  unfold pS
  rw [bsa]
  simp only [iD] at l2 ef sm ⊢
  simp only [e3, aQ, e4]
  by_cases c : cW M R r = R.getD 13 0
  ·refine ⟨0, 20, h4, ?_, U4, .inl ⟨fun ⟨w', q⟩ => ?_, rfl, rfl, V4⟩⟩
   ·simp only [eqX c.symm, fH, jJ, aQ, aOc, Bool.and_self, cnd, cond_true, bZ, bM, ef, nV, oZ]
   ·rcases q with ⟨q, _⟩ | ⟨q, _⟩
    ·have := kno V.I (a := 9) (b := 11) (by omega) (by omega) (q.symm.trans c); omega
    ·have := kno V.I (a := 10) (b := 11) (by omega) (by omega) (q.symm.trans c); omega
  ·have cn : ¬ (R.getD 13 0 = cW M R r) := fun q => c q.symm
   by_cases q : putV M R r y w
   ·obtain ⟨h5, e5, V5, U5⟩ := V4.putV q hi my
    have D5 := D4.up U5
    have S5 := S4.up U5
    obtain ⟨a2, g3', g4'⟩ := S5.at (i := 1) rfl
    refine ⟨y, 0, h5, ?_, U4.trans U5, .inr ⟨w, q, rfl, rfl, V5⟩⟩
    simp only [iD] at e5 g4' ⊢
    simp only [lY cn, gF, eY, nR, D4.l0, aQ, em4, l2, sm, Bool.and_self, cnd, cond_true, e5, eW, neF (rfl : Int.ofNat 0 = Int.ofNat 0), bT, bH, D5.l3 S5, g3', g4']
    rfl
   ·rcases hq with hq | hq | ⟨hq, hw⟩
    ·exact absurd hq q
    ·exact absurd hq c
    ·have cl := hq
     rw [iP ha] at hq
     have e5 := V4.K.W.putNo (v := w) ha hd1 (by have := O.len; omega) hi (by omega) (O.str (.inl hq)) hw
     refine ⟨0, 20, h4, ?_, U4, .inl ⟨fun ⟨w', q'⟩ => q (uniq w' q' ▸ q'), rfl, rfl, V4⟩⟩
     have n6 : (Int.ofNat 6 != Int.ofNat 0) = true := rfl
     simp only [lY cn, gF, eY, nR, D4.l0, aQ, em4, l2, sm, Bool.and_self, cnd, cond_true, e5, eW, n6, bT, bM, ef, nV, oZ]
 rw [nN 98 rfl, cRz]
 unfold s98 bAd aNl
 simp only [iD] at g2' ⊢
 simp only [g0, g1, eY, nR, D.l3 S, aQ, g1', g2', e1, e2]
 by_cases c : cW M R r = R.getD 12 0
 ·have va := V2.K.W.value V2.K.G V2.I y (m + 2)
  simp only [iD] at va
  simp only [eqX c.symm, bM, D2.l0, aQ, va, nV, oZ, iC]
  have n9 : ¬ (cW M R r = R.getD 11 0) := fun q => by
   have := kno V.I (a := 9) (b := 10) (by omega) (by omega) (q.symm.trans c); omega
  cases hv : gM M R y with
  | none =>
   refine ⟨0, 20, h2, ?_, U2, .inl ⟨fun ⟨w, q⟩ => ?_, rfl, rfl, V2⟩⟩
   ·simp only [iD] at ef
    simp only [Option.isSome_none, Bool.not_false, bM, ef, aQ, nV, oZ, eY, nR]
   ·rcases q with ⟨q, _⟩ | ⟨_, c', _, q, _⟩
    ·exact n9 q
    ·rw [hv] at q; cases q
  | some w =>
   have un : ∀ w', putV M R r y w' → w' = w := fun w' q => by
    rcases q with ⟨q, _⟩ | ⟨_, c', _, q, e⟩
    ·exact absurd q n9
    ·rw [hv] at q
     rw [e]
     exact (Option.some.inj q).symm
   have pq : putV M R r y w ∨ cW M R r = R.getD 13 0 ∨ (cW M R r = R.getD 12 0 ∧ ¬ (0 ≤ w ∧ w ≤ 255)) := by
    by_cases hw : 0 ≤ w ∧ w ≤ 255
    ·obtain ⟨cc, rfl⟩ : ∃ cc : Nat, w = Int.ofNat cc := ⟨w.toNat, by show w = (w.toNat : Int); omega⟩
     exact .inl (.inr ⟨c, cc, by have := hw.2; simp at this; omega, hv, rfl⟩)
    ·exact .inr (.inr ⟨c, hw⟩)
   obtain ⟨a, e, h3, e3, U3, A⟩ := part3 w un pq
   refine ⟨a, e, h3, ?_, U2.trans U3, A⟩
   simp only [iD] at e3
   simp only [Option.isSome_some, Option.getD_some, Bool.not_true, bH, e3, eY, nR, aQ]
 ·have cn : ¬ (R.getD 12 0 = cW M R r) := fun q => c q.symm
  have un : ∀ w', putV M R r y w' → w' = y := fun w' q => by
   rcases q with ⟨_, q⟩ | ⟨q, _⟩
   ·exact q
   ·exact absurd q c
  have pq : putV M R r y y ∨ cW M R r = R.getD 13 0 ∨ (cW M R r = R.getD 12 0 ∧ ¬ (0 ≤ y ∧ y ≤ 255)) := by
   rcases hx with hx | hx | hx
   ·exact .inl (.inl ⟨hx, rfl⟩)
   ·exact absurd hx c
   ·exact .inr (.inl hx)
  obtain ⟨a, e, h3, e3, U3, A⟩ := part3 y un pq
  refine ⟨a, e, h3, ?_, U2.trans U3, A⟩
  simp only [iD] at e3
  simp only [lY cn, bH, e3]
def mW (M : MemV) (R : List Int) (r x y : Int) (i : Nat) (w : Int) : Prop := gM M R x = some (Int.ofNat (i + 1)) ∧ i < bV M r / 4 ∧ dK y M.pl = true ∧ putV M R r y w
theorem dOt (V : Wv k h M R es) {v : Int} (S : SlI x [v, y] h) (r : Int) {m : Nat} (hm : 300 < m) :
  ∃ a e h', dC (m + 7) 16 [.p (aS 7) 0, iD 21, iD r, x] h = some (.t [iD a, iD e], h') ∧ Up h h' ∧
   (((¬ ∃ i w, mW M R r v y i w) ∧ a = 0 ∧ e = 20 ∧ Wv k h' M R es) ∨ (∃ i w, mW M R r v y i w ∧ a = y ∧ e = 0 ∧ Wv k h' (M.putW r i w) R es)) := by
 rcases dIs cCl rfl V S (by simp) r (m := m + 3) (by omega) with ⟨q, h', e1, V1, U1⟩ | ⟨q, b, h1, V1, U1, D, S1, cont⟩
 ·refine ⟨0, 20, h', e1, U1, .inl ⟨fun ⟨i, w, q1, q2, q3, q4⟩ => ?_, rfl, rfl, V1⟩⟩
  rcases q with q | q | ⟨v', hv, q⟩
  ·exact q rfl
  ·rw [sC (q4.ix.at V.I)] at q; cases q
  ·simp only [List.mem_cons, List.not_mem_nil, or_false] at hv
   rcases hv with rfl | rfl
   ·rw [cIv q1] at q; cases q
   ·rw [q3] at q; cases q
 ·have my : dK y M.pl = true := by
   cases hv : dK y M.pl with
   | true => rfl
   | false => exact absurd (.inr (.inr ⟨y, by simp, hv⟩)) q
  have em := V1.K.W.memory (m + 4)
  obtain ⟨y2, h2, h3, e1, e2, V3, U3⟩ := dRf V1 D (m := m + 1) (by omega)
  have ef : ∀ h, dC (m + 5) 54 [] h = some (.t [iD 0, iD 20], h) := fun h => bAb _ _
  have D3 := D.up U3
  have S3 := S1.up U3
  have l1 := D3.l1
  suffices hs : ∃ a e h', dC (m + 6) 57 [.p b 0] h1 = some (.t [iD a, iD e], h') ∧ Up h1 h' ∧
    (((¬ ∃ i w, mW M R r v y i w) ∧ a = 0 ∧ e = 20 ∧ Wv k h' M R es) ∨ (∃ i w, mW M R r v y i w ∧ a = y ∧ e = 0 ∧ Wv k h' (M.putW r i w) R es)) by
   obtain ⟨a, e, h', q1, q2, q3⟩ := hs
   exact ⟨a, e, h', cont _ _ _ q1, U1.trans q2, q3⟩
  rw [nN 57 rfl, cRe]
  unfold s57
  simp only [iD] at l1 ef ⊢
  simp only [g0, eY, nR, D.l0, aQ, em, e1, e2, iC]
  cases hi : ixB M R r with
  | false =>
   refine ⟨0, 20, h3, ?_, U3, .inl ⟨fun ⟨i, w, _, _, _, q⟩ => ?_, rfl, rfl, V3⟩⟩
   ·simp only [Bool.not_false, bM, ef, aQ, nV, oZ]
   ·rw [ixB_iff.2 q.ix] at hi; cases hi
  | true =>
   have hx := ixB_iff.1 hi
   have d : ((21 : Int) == Int.ofNat 22) = false := rfl
   have d2 : ((21 : Int) == Int.ofNat 21) = true := rfl
   obtain ⟨p, q, e3, q1, q2⟩ := bVn V3 D3 S3 (m + 2)
   simp only [iD] at e3
   simp only [Bool.not_true, bH, l1, aQ, cB, d, e3, nV, oZ, iC]
   cases q with
   | false =>
    refine ⟨0, 20, h3, ?_, U3, .inl ⟨fun ⟨i, w, w1, w2, _⟩ => ?_, rfl, rfl, V3⟩⟩
    ·simp only [Bool.not_false, bM, ef, aQ, nV, oZ]
    ·have := q1.2 ⟨i, w1, w2⟩
     cases this
   | true =>
    obtain ⟨i, w1, w2⟩ := q1.1 rfl
    have hp := q2 i w1 w2
    subst hp
    obtain ⟨a, e, h4, e4, U4, A⟩ := dIi V3 D3 S3 w2 hx my (m := m) hm
    refine ⟨a, e, h4, ?_, U3.trans U4, ?_⟩
    ·simp only [iD] at e4
     simp only [Bool.not_true, bH, bM, l1, aQ, cB, d2, e4, nV, oZ]
    ·rcases A with ⟨A, r1⟩ | ⟨w, A, r1⟩
     ·refine .inl ⟨fun ⟨j, w, _, _, _, q⟩ => A ⟨w, q⟩, r1⟩
     ·exact .inr ⟨i, w, ⟨w1, w2, my, A⟩, r1⟩
end
end Go.Dd

namespace Go.Dd
open Go.Proofs
noncomputable def dA (rec : FuncId → List DV → Hp → aH) (n : Nat) (h0 : Hp) : aH :=
 bnd (rec 13 [] h0) fun v1 h1 =>
 some (v1, h1)
noncomputable def fX (rec : FuncId → List DV → Hp → aH) (n : Nat) (kk18 : DV → DV → DV → DV → DV → DV → DV → DV → Hp → aH) (x10 x11 x13 x14 x16 x20 x21 x22 : DV) (h0 : Hp) : aH :=
 bnd (aD .add x22 (.i .i64 (Int.ofNat 1)) h0) fun v3 h3 =>
 kk18 x10 x11 x13 x14 x16 x20 x21 v3 h3
noncomputable def qE (rec : FuncId → List DV → Hp → aH) (n : Nat) (kk18 : DV → DV → DV → DV → DV → DV → DV → DV → Hp → aH) (x10 x11 x13 x14 x16 x20 x21 x22 x23 : DV) (h0 : Hp) : aH :=
 bnd (aJ 1 x20 x22 h0) fun v5 h5 =>
 bnd (aA v5 h5) fun v6 h6 =>
 bnd (aD .neq v6 x23 h6) fun v7 h7 =>
 aT v7 (
  some ((.b false), h7)) (
  fX rec n kk18 x10 x11 x13 x14 x16 x20 x21 x22 h7)
noncomputable def aYz (rec : FuncId → List DV → Hp → aH) (n : Nat) (kk18 : DV → DV → DV → DV → DV → DV → DV → DV → Hp → aH) (x10 x11 x13 x14 x16 x20 x21 x22 x23 : DV) (h0 : Hp) : aH :=
 bnd (gD x21 true (some (x22, h0)) h0) fun v11 h11 =>
 bnd (gD x21 true (some (x14, h11)) h11) fun v12 h12 =>
 bnd (gD x21 true (aD .sub v12 (.i .i64 (Int.ofNat 1)) h12) h12) fun v13 h13 =>
 bnd (gD x21 true (aD .eql v11 v13 h13) h13) fun v14 h14 =>
 bnd (aP x21 v14 (.b false) h14) fun v15 h15 =>
 aT v15 (
  bnd (gQ .not x13 h15) fun v16 h16 =>
  aT v16 (
   qE rec n kk18 x10 x11 x13 x14 x16 x20 x21 x22 x16 h16) (
   qE rec n kk18 x10 x11 x13 x14 x16 x20 x21 x22 x10 h16)) (
  qE rec n kk18 x10 x11 x13 x14 x16 x20 x21 x22 x23 h15)
noncomputable def aYd (rec : FuncId → List DV → Hp → aH) (n : Nat) (kk18 : DV → DV → DV → DV → DV → DV → DV → DV → Hp → aH) (x10 x11 x13 x14 x16 x20 x21 x22 : DV) (h0 : Hp) : aH :=
 bnd (aJ 1 x11 x22 h0) fun v23 h23 =>
 bnd (aA v23 h23) fun v24 h24 =>
 aYz rec n kk18 x10 x11 x13 x14 x16 x20 x21 x22 v24 h24
noncomputable def qQ (rec : FuncId → List DV → Hp → aH) (n : Nat) (kk18 : DV → DV → DV → DV → DV → DV → DV → DV → Hp → aH) (x10 x11 x13 x14 x16 x20 x21 x22 : DV) (h0 : Hp) : aH :=
  bnd (cA x20 h0) fun v27 h27 =>
  bnd (aD .lss x22 v27 h27) fun v28 h28 =>
  aT v28 (
   aYd rec n kk18 x10 x11 x13 x14 x16 x20 x21 x22 h28) (
   dA rec n h28)
noncomputable def oU (rec : FuncId → List DV → Hp → aH) (n : Nat) (m : Nat) : DV → DV → DV → DV → DV → DV → DV → DV → Hp → aH :=
 Nat.rec (motive := fun _ => DV → DV → DV → DV → DV → DV → DV → DV → Hp → aH) (fun _ _ _ _ _ _ _ _ _ => none) (fun _ ih => qQ rec n ih) m
noncomputable def bJd (rec : FuncId → List DV → Hp → aH) (n : Nat) : DV → DV → DV → DV → DV → DV → DV → DV → Hp → aH := oU rec n n
noncomputable def aZh (rec : FuncId → List DV → Hp → aH) (n : Nat) (x10 x11 x13 x14 x16 x20 x21 x22 : DV) (h0 : Hp) : aH :=
 bJd rec n x10 x11 x13 x14 x16 x20 x21 x22 h0
noncomputable def aNc (rec : FuncId → List DV → Hp → aH) (n : Nat) (x10 x11 x13 x14 x16 x20 x21 : DV) (h0 : Hp) : aH :=
 aZh rec n x10 x11 x13 x14 x16 x20 x21 (.i .i64 (Int.ofNat 0)) h0
noncomputable def aBa (rec : FuncId → List DV → Hp → aH) (n : Nat) (x10 x11 x13 x14 x16 x18 x19 x20 x21 : DV) (h0 : Hp) : aH :=
 bnd (aD .eql x19 (.i .i64 (Int.ofNat 0)) h0) fun v31 h31 =>
 bnd (pEq .bool false x21 v31 h31) fun v32 h32 =>
 bnd (gD v32 false (some (x19, h32)) h32) fun v33 h33 =>
 bnd (gD v32 false (aD .neq v33 (.i .i64 (Int.ofNat 0)) h33) h33) fun v34 h34 =>
 bnd (gD v32 false (some (v34, h34)) h34) fun v35 h35 =>
 bnd (gD v35 true (some (x19, h35)) h35) fun v36 h36 =>
 bnd (gD v35 true (aD .neq v36 (.i .i64 (Int.ofNat 20)) h36) h36) fun v37 h37 =>
 bnd (gD v35 true (some (v37, h37)) h37) fun v38 h38 =>
 bnd (gD v38 false (some (x18, h38)) h38) fun v39 h39 =>
 bnd (gD v38 false (aD .neq v39 (.i .i64 (Int.ofNat 0)) h39) h39) fun v40 h40 =>
 bnd (gD v35 true (aP v38 (.b true) v40 h40) h40) fun v41 h41 =>
 bnd (gD v32 false (aP v35 v41 (.b false) h41) h41) fun v42 h42 =>
 bnd (aP v32 (.b true) v42 h42) fun v43 h43 =>
 bnd (gD v43 false (some (x19, h43)) h43) fun v44 h44 =>
 bnd (gD v43 false (aD .eql v44 (.i .i64 (Int.ofNat 0)) h44) h44) fun v45 h45 =>
 bnd (gD v43 false (some (v45, h45)) h45) fun v46 h46 =>
 bnd (gD v46 true (some (x18, h46)) h46) fun v47 h47 =>
 bnd (gD v46 true (some (x10, h47)) h47) fun v48 h48 =>
 bnd (gD v46 true (aD .neq v47 v48 h48) h48) fun v49 h49 =>
 bnd (gD v43 false (aP v46 v49 (.b false) h49) h49) fun v50 h50 =>
 bnd (aP v43 (.b true) v50 h50) fun v51 h51 =>
 bnd (gD v51 false (some (x20, h51)) h51) fun v52 h52 =>
 bnd (gD v51 false (cA v52 h52) h52) fun v53 h53 =>
 bnd (gD v51 false (some (x11, h53)) h53) fun v54 h54 =>
 bnd (gD v51 false (cA v54 h54) h54) fun v55 h55 =>
 bnd (gD v51 false (aD .neq v53 v55 h55) h55) fun v56 h56 =>
 bnd (aP v51 (.b true) v56 h56) fun v57 h57 =>
 aT v57 (
  some ((.b false), h57)) (
  aNc rec n x10 x11 x13 x14 x16 x20 x21 h57)
noncomputable def pL (rec : FuncId → List DV → Hp → aH) (n : Nat) (x7 x8 x10 x11 x13 x14 x16 x17 x18 x19 x20 x21 : DV) (h0 : Hp) : aH :=
 bnd (gD x21 true (some (x13, h0)) h0) fun v85 h85 =>
 bnd (gD x21 true (gQ .not v85 h85) h85) fun v86 h86 =>
 bnd (aP x21 v86 (.b false) h86) fun v87 h87 =>
 aT v87 (
  bnd (rec 25 [x7, x8] h87) fun v88 h88 =>
  bnd (rec 30 [x7, (.i .i64 (Int.ofNat 10))] h88) fun v89 h89 =>
  bnd (aD .eql v88 v89 h89) fun v90 h90 =>
  bnd (gD v90 true (some (x17, h90)) h90) fun v91 h91 =>
  bnd (aP v90 v91 (.b false) h91) fun v92 h92 =>
  bnd (gD v92 true (some (x16, h92)) h92) fun v93 h93 =>
  bnd (gD v92 true (aD .geq v93 (.i .i64 (Int.ofNat 0)) h93) h93) fun v94 h94 =>
  bnd (aP v92 v94 (.b false) h94) fun v95 h95 =>
  bnd (gD v95 true (some (x16, h95)) h95) fun v96 h96 =>
  bnd (gD v95 true (aD .leq v96 (.i .i64 (Int.ofNat 255)) h96) h96) fun v97 h97 =>
  bnd (aP v95 v97 (.b false) h97) fun v98 h98 =>
  aBa rec n x10 x11 x13 x14 x16 x18 x19 x20 v98 h98) (
  aBa rec n x10 x11 x13 x14 x16 x18 x19 x20 x21 h87)
noncomputable def aNq (rec : FuncId → List DV → Hp → aH) (n : Nat) (x7 x8 x10 x11 x12 x13 x14 x15 x16 x17 x18 x19 x20 : DV) (h0 : Hp) : aH :=
 bnd (gD x12 true (some (x15, h0)) h0) fun v113 h113 =>
 bnd (aP x12 v113 (.b false) h113) fun v114 h114 =>
 bnd (gD v114 true (some (x14, h114)) h114) fun v115 h115 =>
 bnd (gD v114 true (aD .geq v115 (.i .i64 (Int.ofNat 1)) h115) h115) fun v116 h116 =>
 bnd (aP v114 v116 (.b false) h116) fun v117 h117 =>
 bnd (gD v117 true (some (x14, h117)) h117) fun v118 h118 =>
 bnd (gD v117 true (some (x11, h118)) h118) fun v119 h119 =>
 bnd (gD v117 true (cA v119 h119) h119) fun v120 h120 =>
 bnd (gD v117 true (aD .leq v118 v120 h120) h120) fun v121 h121 =>
 bnd (aP v117 v121 (.b false) h121) fun v122 h122 =>
 bnd (gD v122 true (some (x7, h122)) h122) fun v123 h123 =>
 bnd (gD v122 true (rec 23 [v123] h123) h123) fun v124 h124 =>
 bnd (gD v122 true (some (x10, h124)) h124) fun v125 h125 =>
 bnd (gD v122 true (aAg [v124, v125] h125) h125) fun v126 h126 =>
 bnd (aP v122 v126 (.b false) h126) fun v127 h127 =>
 pL rec n x7 x8 x10 x11 x13 x14 x16 x17 x18 x19 x20 v127 h127
noncomputable def zF (rec : FuncId → List DV → Hp → aH) (n : Nat) (x7 x8 x10 x11 x12 x13 x14 x15 x16 x17 x18 x19 : DV) (h0 : Hp) : aH :=
 bnd (rec 29 [x7, x8] h0) fun v143 h143 =>
 aNq rec n x7 x8 x10 x11 x12 x13 x14 x15 x16 x17 x18 x19 v143 h143
noncomputable def aMy (rec : FuncId → List DV → Hp → aH) (n : Nat) (x7 x8 x9 x10 x11 x12 x13 x14 x15 x16 x17 : DV) (h0 : Hp) : aH :=
 bnd (aL [(.i .i64 (Int.ofNat 0)), (.i .i64 (Int.ofNat 0))] 2 [(0, 1, x9), (1, 1, x10)] h0) fun v145 h145 =>
 bnd (rec 16 [x7, (.i .i64 (Int.ofNat 21)), x8, v145] h145) fun v146 h146 =>
 bnd (aC 0 v146 h146) fun v147 h147 =>
 bnd (aC 1 v146 h147) fun v148 h148 =>
 zF rec n x7 x8 x10 x11 x12 x13 x14 x15 x16 x17 v147 v148 h148
noncomputable def cIk (rec : FuncId → List DV → Hp → aH) (n : Nat) (x7 x8 x9 x10 x11 x12 x13 x14 x15 : DV) (h0 : Hp) : aH :=
 bnd (rec 15 [x7, x10] h0) fun v161 h161 =>
 bnd (aC 0 v161 h161) fun v162 h162 =>
 bnd (aC 1 v161 h162) fun v163 h163 =>
 aMy rec n x7 x8 x9 x10 x11 x12 x13 x14 x15 v162 v163 h163
noncomputable def cCy (rec : FuncId → List DV → Hp → aH) (n : Nat) (x7 x8 x9 x10 x11 x12 x13 : DV) (h0 : Hp) : aH :=
 bnd (rec 15 [x7, x9] h0) fun v167 h167 =>
 bnd (aC 0 v167 h167) fun v168 h168 =>
 bnd (aC 1 v167 h168) fun v169 h169 =>
 cIk rec n x7 x8 x9 x10 x11 x12 x13 v168 v169 h169
noncomputable def cJg (rec : FuncId → List DV → Hp → aH) (n : Nat) (x7 x8 x9 x10 x11 : DV) (h0 : Hp) : aH :=
 bnd (rec 26 [x7, x8] h0) fun v173 h173 =>
 bnd (aC 0 v173 h173) fun v174 h174 =>
 bnd (aC 1 v173 h174) fun v175 h175 =>
 cCy rec n x7 x8 x9 x10 x11 v174 v175 h175
noncomputable def cPl (rec : FuncId → List DV → Hp → aH) (n : Nat) (x7 x8 x9 x10 : DV) (h0 : Hp) : aH :=
 bnd (rec 29 [x7, x8] h0) fun v179 h179 =>
 cJg rec n x7 x8 x9 x10 v179 h179
noncomputable def cBm (rec : FuncId → List DV → Hp → aH) (n : Nat) (x5 x7 x8 x9 : DV) (h0 : Hp) : aH :=
 bnd (aK 3 x5 h0) fun v181 h181 =>
 bnd (rec 14 [x7, v181] h181) fun v182 h182 =>
 cPl rec n x7 x8 x9 v182 h182
noncomputable def cNs (rec : FuncId → List DV → Hp → aH) (n : Nat) (x4 x5 x7 x8 : DV) (h0 : Hp) : aH :=
 bnd (aK 3 x4 h0) fun v185 h185 =>
 bnd (rec 14 [x7, v185] h185) fun v186 h186 =>
 cBm rec n x5 x7 x8 v186 h186
noncomputable def cMa (rec : FuncId → List DV → Hp → aH) (n : Nat) (x3 x4 x5 x7 : DV) (h0 : Hp) : aH :=
 bnd (aK 3 x3 h0) fun v189 h189 =>
 bnd (rec 14 [x7, v189] h189) fun v190 h190 =>
 cNs rec n x4 x5 x7 v190 h190
noncomputable def cMd (rec : FuncId → List DV → Hp → aH) (n : Nat) (x3 x4 x5 x7 : DV) (h0 : Hp) : aH :=
 bnd (pEq (.pointer 64) true x7 .p0 h0) fun v193 h193 =>
 aT v193 (
  some ((.b false), h193)) (
  cMa rec n x3 x4 x5 x7 h193)
noncomputable def bDj (rec : FuncId → List DV → Hp → aH) (n : Nat) (x3 x4 x5 : DV) (h0 : Hp) : aH :=
 bnd (rec 12 [] h0) fun v195 h195 =>
 cMd rec n x3 x4 x5 v195 h195
noncomputable def s6 (rec : FuncId → List DV → Hp → aH) (n : Nat) (x0 x1 x2 : DV) (h0 : Hp) : aH :=
 bnd (bO x0 h0) fun v197 h197 =>
 bnd (bO x1 h197) fun v198 h198 =>
 bnd (bO x2 h198) fun v199 h199 =>
 bDj rec n v197 v198 v199 h199
noncomputable def D6 (rec : FuncId → List DV → Hp → aH) (n : Nat) (c : Code) (X : Nat → K) (k : K) : K := aM CF rec 171 n c X (aR CF Tryz.f6) k
theorem cUd (rec : FuncId → List DV → Hp → aH) (n : Nat) : D6 rec n (cR (cR (cR (cR (cR (cR (cR (cR (cR (cR (cR (cR (cR (cR (cR (cR (cf Tryz.f6))))))))))))))))) x0 (aR CF Tryz.f6) = (fun (env : aV) (h : Hp) => dA rec n h) :=
 (by kernel_rfl)
theorem dAn (rec : FuncId → List DV → Hp → aH) (n : Nat) (kk18 : DV → DV → DV → DV → DV → DV → DV → DV → Hp → aH) : D6 rec n (cR (cR (cL (cL (cR (cL (cR (cR (cR (cR (cR (cR (cR (cR (cR (cR (cR (cR (cR (cR (cR (cf Tryz.f6)))))))))))))))))))))) (xs x0 0 (fun (env : aV) (h : Hp) => dA rec n h)) (fun (env : aV) (h : Hp) => kk18 (env 10) (env 11) (env 13) (env 14) (env 16) (env 20) (env 21) (env 22) h) = (fun (env : aV) (h : Hp) => fX rec n kk18 (env 10) (env 11) (env 13) (env 14) (env 16) (env 20) (env 21) (env 22) h) :=
 (by kernel_rfl)
theorem cYs (rec : FuncId → List DV → Hp → aH) (n : Nat) (kk18 : DV → DV → DV → DV → DV → DV → DV → DV → Hp → aH) : D6 rec n (cR (cR (cL (cL (cR (cL (cL (cR (cL (cR (cR (cR (cR (cR (cR (cR (cR (cR (cR (cR (cR (cR (cR (cR (cf Tryz.f6))))))))))))))))))))))))) (xs (xs x0 0 (fun (env : aV) (h : Hp) => dA rec n h)) 1 (fun (env : aV) (h : Hp) => fX rec n kk18 (env 10) (env 11) (env 13) (env 14) (env 16) (env 20) (env 21) (env 22) h)) (fun (env : aV) (h : Hp) => fX rec n kk18 (env 10) (env 11) (env 13) (env 14) (env 16) (env 20) (env 21) (env 22) h) = (fun (env : aV) (h : Hp) => qE rec n kk18 (env 10) (env 11) (env 13) (env 14) (env 16) (env 20) (env 21) (env 22) (env 23) h) :=
 (by kernel_rfl)
theorem cPo (rec : FuncId → List DV → Hp → aH) (n : Nat) (kk18 : DV → DV → DV → DV → DV → DV → DV → DV → Hp → aH) : D6 rec n (cR (cL (cL (cR (cL (cL (cR (cL (cR (cR (cR (cR (cR (cR (cR (cR (cR (cR (cR (cR (cR (cR (cR (cf Tryz.f6)))))))))))))))))))))))) (xs (xs x0 0 (fun (env : aV) (h : Hp) => dA rec n h)) 1 (fun (env : aV) (h : Hp) => fX rec n kk18 (env 10) (env 11) (env 13) (env 14) (env 16) (env 20) (env 21) (env 22) h)) (fun (env : aV) (h : Hp) => fX rec n kk18 (env 10) (env 11) (env 13) (env 14) (env 16) (env 20) (env 21) (env 22) h) = D6 rec n (cL (cR (cL (cL (cR (cL (cL (cR (cL (cR (cR (cR (cR (cR (cR (cR (cR (cR (cR (cR (cR (cR (cR (cR (cf Tryz.f6))))))))))))))))))))))))) (xs (xs x0 0 (fun (env : aV) (h : Hp) => dA rec n h)) 1 (fun (env : aV) (h : Hp) => fX rec n kk18 (env 10) (env 11) (env 13) (env 14) (env 16) (env 20) (env 21) (env 22) h)) (fun (env : aV) (h : Hp) => qE rec n kk18 (env 10) (env 11) (env 13) (env 14) (env 16) (env 20) (env 21) (env 22) (env 23) h) :=
 congrArg (fun k => D6 rec n (cL (cR (cL (cL (cR (cL (cL (cR (cL (cR (cR (cR (cR (cR (cR (cR (cR (cR (cR (cR (cR (cR (cR (cR (cf Tryz.f6))))))))))))))))))))))))) (xs (xs x0 0 (fun (env : aV) (h : Hp) => dA rec n h)) 1 (fun (env : aV) (h : Hp) => fX rec n kk18 (env 10) (env 11) (env 13) (env 14) (env 16) (env 20) (env 21) (env 22) h)) k) (cYs rec n kk18)
theorem dBs (rec : FuncId → List DV → Hp → aH) (n : Nat) (kk18 : DV → DV → DV → DV → DV → DV → DV → DV → Hp → aH) : D6 rec n (cR (cL (cL (cR (cL (cL (cR (cL (cR (cR (cR (cR (cR (cR (cR (cR (cR (cR (cR (cR (cR (cR (cR (cf Tryz.f6)))))))))))))))))))))))) (xs (xs x0 0 (fun (env : aV) (h : Hp) => dA rec n h)) 1 (fun (env : aV) (h : Hp) => fX rec n kk18 (env 10) (env 11) (env 13) (env 14) (env 16) (env 20) (env 21) (env 22) h)) (fun (env : aV) (h : Hp) => fX rec n kk18 (env 10) (env 11) (env 13) (env 14) (env 16) (env 20) (env 21) (env 22) h) = (fun (env : aV) (h : Hp) => aYz rec n kk18 (env 10) (env 11) (env 13) (env 14) (env 16) (env 20) (env 21) (env 22) (env 23) h) :=
 (cPo rec n kk18).trans
 ((by kernel_rfl))
theorem cMz (rec : FuncId → List DV → Hp → aH) (n : Nat) (kk18 : DV → DV → DV → DV → DV → DV → DV → DV → Hp → aH) : D6 rec n (cR (cL (cL (cR (cL (cR (cR (cR (cR (cR (cR (cR (cR (cR (cR (cR (cR (cR (cR (cR (cf Tryz.f6))))))))))))))))))))) (xs x0 0 (fun (env : aV) (h : Hp) => dA rec n h)) (fun (env : aV) (h : Hp) => kk18 (env 10) (env 11) (env 13) (env 14) (env 16) (env 20) (env 21) (env 22) h) = D6 rec n (cL (cR (cL (cL (cR (cL (cR (cR (cR (cR (cR (cR (cR (cR (cR (cR (cR (cR (cR (cR (cR (cf Tryz.f6)))))))))))))))))))))) (xs x0 0 (fun (env : aV) (h : Hp) => dA rec n h)) (fun (env : aV) (h : Hp) => fX rec n kk18 (env 10) (env 11) (env 13) (env 14) (env 16) (env 20) (env 21) (env 22) h) :=
 congrArg (fun k => D6 rec n (cL (cR (cL (cL (cR (cL (cR (cR (cR (cR (cR (cR (cR (cR (cR (cR (cR (cR (cR (cR (cR (cf Tryz.f6)))))))))))))))))))))) (xs x0 0 (fun (env : aV) (h : Hp) => dA rec n h)) k) (dAn rec n kk18)
theorem cGv (rec : FuncId → List DV → Hp → aH) (n : Nat) (kk18 : DV → DV → DV → DV → DV → DV → DV → DV → Hp → aH) : D6 rec n (cL (cL (cR (cL (cL (cR (cL (cR (cR (cR (cR (cR (cR (cR (cR (cR (cR (cR (cR (cR (cR (cR (cf Tryz.f6))))))))))))))))))))))) (xs (xs x0 0 (fun (env : aV) (h : Hp) => dA rec n h)) 1 (fun (env : aV) (h : Hp) => fX rec n kk18 (env 10) (env 11) (env 13) (env 14) (env 16) (env 20) (env 21) (env 22) h)) (fun (env : aV) (h : Hp) => fX rec n kk18 (env 10) (env 11) (env 13) (env 14) (env 16) (env 20) (env 21) (env 22) h) = D6 rec n (cL (cL (cL (cR (cL (cL (cR (cL (cR (cR (cR (cR (cR (cR (cR (cR (cR (cR (cR (cR (cR (cR (cR (cf Tryz.f6)))))))))))))))))))))))) (xs (xs x0 0 (fun (env : aV) (h : Hp) => dA rec n h)) 1 (fun (env : aV) (h : Hp) => fX rec n kk18 (env 10) (env 11) (env 13) (env 14) (env 16) (env 20) (env 21) (env 22) h)) (fun (env : aV) (h : Hp) => aYz rec n kk18 (env 10) (env 11) (env 13) (env 14) (env 16) (env 20) (env 21) (env 22) (env 23) h) :=
 congrArg (fun k => D6 rec n (cL (cL (cL (cR (cL (cL (cR (cL (cR (cR (cR (cR (cR (cR (cR (cR (cR (cR (cR (cR (cR (cR (cR (cf Tryz.f6)))))))))))))))))))))))) (xs (xs x0 0 (fun (env : aV) (h : Hp) => dA rec n h)) 1 (fun (env : aV) (h : Hp) => fX rec n kk18 (env 10) (env 11) (env 13) (env 14) (env 16) (env 20) (env 21) (env 22) h)) k) (dBs rec n kk18)
theorem dBw (rec : FuncId → List DV → Hp → aH) (n : Nat) (kk18 : DV → DV → DV → DV → DV → DV → DV → DV → Hp → aH) : D6 rec n (cR (cL (cL (cR (cL (cR (cR (cR (cR (cR (cR (cR (cR (cR (cR (cR (cR (cR (cR (cR (cf Tryz.f6))))))))))))))))))))) (xs x0 0 (fun (env : aV) (h : Hp) => dA rec n h)) (fun (env : aV) (h : Hp) => kk18 (env 10) (env 11) (env 13) (env 14) (env 16) (env 20) (env 21) (env 22) h) = (fun (env : aV) (h : Hp) => aYd rec n kk18 (env 10) (env 11) (env 13) (env 14) (env 16) (env 20) (env 21) (env 22) h) :=
 (cMz rec n kk18).trans
 ((by kernel_rfl : D6 rec n (cL (cR (cL (cL (cR (cL (cR (cR (cR (cR (cR (cR (cR (cR (cR (cR (cR (cR (cR (cR (cR (cf Tryz.f6)))))))))))))))))))))) (xs x0 0 (fun (env : aV) (h : Hp) => dA rec n h)) (fun (env : aV) (h : Hp) => fX rec n kk18 (env 10) (env 11) (env 13) (env 14) (env 16) (env 20) (env 21) (env 22) h) = D6 rec n (cL (cL (cR (cL (cL (cR (cL (cR (cR (cR (cR (cR (cR (cR (cR (cR (cR (cR (cR (cR (cR (cR (cf Tryz.f6))))))))))))))))))))))) (xs (xs x0 0 (fun (env : aV) (h : Hp) => dA rec n h)) 1 (fun (env : aV) (h : Hp) => fX rec n kk18 (env 10) (env 11) (env 13) (env 14) (env 16) (env 20) (env 21) (env 22) h)) (fun (env : aV) (h : Hp) => fX rec n kk18 (env 10) (env 11) (env 13) (env 14) (env 16) (env 20) (env 21) (env 22) h)).trans
 ((cGv rec n kk18).trans
 ((by kernel_rfl))))
theorem cHs (rec : FuncId → List DV → Hp → aH) (n : Nat) (kk18 : DV → DV → DV → DV → DV → DV → DV → DV → Hp → aH) : D6 rec n (cL (cL (cR (cL (cR (cR (cR (cR (cR (cR (cR (cR (cR (cR (cR (cR (cR (cR (cR (cf Tryz.f6)))))))))))))))))))) (xs x0 0 (fun (env : aV) (h : Hp) => dA rec n h)) (fun (env : aV) (h : Hp) => kk18 (env 10) (env 11) (env 13) (env 14) (env 16) (env 20) (env 21) (env 22) h) = D6 rec n (cL (cL (cL (cR (cL (cR (cR (cR (cR (cR (cR (cR (cR (cR (cR (cR (cR (cR (cR (cR (cf Tryz.f6))))))))))))))))))))) (xs x0 0 (fun (env : aV) (h : Hp) => dA rec n h)) (fun (env : aV) (h : Hp) => aYd rec n kk18 (env 10) (env 11) (env 13) (env 14) (env 16) (env 20) (env 21) (env 22) h) :=
 congrArg (fun k => D6 rec n (cL (cL (cL (cR (cL (cR (cR (cR (cR (cR (cR (cR (cR (cR (cR (cR (cR (cR (cR (cR (cf Tryz.f6))))))))))))))))))))) (xs x0 0 (fun (env : aV) (h : Hp) => dA rec n h)) k) (dBw rec n kk18)
theorem cGo (rec : FuncId → List DV → Hp → aH) (n : Nat) (kk18 : DV → DV → DV → DV → DV → DV → DV → DV → Hp → aH) : D6 rec n (cL (cL (cR (cL (cR (cR (cR (cR (cR (cR (cR (cR (cR (cR (cR (cR (cR (cR (cR (cf Tryz.f6)))))))))))))))))))) (xs x0 0 (fun (env : aV) (h : Hp) => dA rec n h)) (fun (env : aV) (h : Hp) => kk18 (env 10) (env 11) (env 13) (env 14) (env 16) (env 20) (env 21) (env 22) h) = (fun (env : aV) (h : Hp) => qQ rec n kk18 (env 10) (env 11) (env 13) (env 14) (env 16) (env 20) (env 21) (env 22) h) :=
 (cHs rec n kk18).trans
 ((by kernel_rfl))
theorem cNp (rec : FuncId → List DV → Hp → aH) (n : Nat) (m : Nat) : aO (fun kk => D6 rec n (cL (cL (cR (cL (cR (cR (cR (cR (cR (cR (cR (cR (cR (cR (cR (cR (cR (cR (cR (cf Tryz.f6)))))))))))))))))))) (xs x0 0 (fun (env : aV) (h : Hp) => dA rec n h)) kk) m = (fun (env : aV) (h : Hp) => oU rec n m (env 10) (env 11) (env 13) (env 14) (env 16) (env 20) (env 21) (env 22) h) := by
 induction m with
 | zero => exact (by kernel_rfl : aO (fun kk => D6 rec n (cL (cL (cR (cL (cR (cR (cR (cR (cR (cR (cR (cR (cR (cR (cR (cR (cR (cR (cR (cf Tryz.f6)))))))))))))))))))) (xs x0 0 (fun (env : aV) (h : Hp) => dA rec n h)) kk) 0 = (fun (env : aV) (h : Hp) => oU rec n 0 (env 10) (env 11) (env 13) (env 14) (env 16) (env 20) (env 21) (env 22) h))
 | succ m ih =>
  refine (by kernel_rfl : aO (fun kk => D6 rec n (cL (cL (cR (cL (cR (cR (cR (cR (cR (cR (cR (cR (cR (cR (cR (cR (cR (cR (cR (cf Tryz.f6)))))))))))))))))))) (xs x0 0 (fun (env : aV) (h : Hp) => dA rec n h)) kk) (m + 1) = D6 rec n (cL (cL (cR (cL (cR (cR (cR (cR (cR (cR (cR (cR (cR (cR (cR (cR (cR (cR (cR (cf Tryz.f6)))))))))))))))))))) (xs x0 0 (fun (env : aV) (h : Hp) => dA rec n h)) (aO (fun kk => D6 rec n (cL (cL (cR (cL (cR (cR (cR (cR (cR (cR (cR (cR (cR (cR (cR (cR (cR (cR (cR (cf Tryz.f6)))))))))))))))))))) (xs x0 0 (fun (env : aV) (h : Hp) => dA rec n h)) kk) m)).trans ?_
  rw [ih]
  exact (cGo rec n (oU rec n m)).trans (by kernel_rfl)
theorem dBr (rec : FuncId → List DV → Hp → aH) (n : Nat) : D6 rec n (cL (cR (cL (cR (cR (cR (cR (cR (cR (cR (cR (cR (cR (cR (cR (cR (cR (cR (cf Tryz.f6))))))))))))))))))) (xs x0 0 (fun (env : aV) (h : Hp) => dA rec n h)) (fun (env : aV) (h : Hp) => dA rec n h) = (fun (env : aV) (h : Hp) => bJd rec n (env 10) (env 11) (env 13) (env 14) (env 16) (env 20) (env 21) (env 22) h) :=
 (by kernel_rfl : D6 rec n (cL (cR (cL (cR (cR (cR (cR (cR (cR (cR (cR (cR (cR (cR (cR (cR (cR (cR (cf Tryz.f6))))))))))))))))))) (xs x0 0 (fun (env : aV) (h : Hp) => dA rec n h)) (fun (env : aV) (h : Hp) => dA rec n h) = aO (fun kk => D6 rec n (cL (cL (cR (cL (cR (cR (cR (cR (cR (cR (cR (cR (cR (cR (cR (cR (cR (cR (cR (cf Tryz.f6)))))))))))))))))))) (xs x0 0 (fun (env : aV) (h : Hp) => dA rec n h)) kk) n).trans ((cNp rec n n).trans (by kernel_rfl))
theorem dCs (rec : FuncId → List DV → Hp → aH) (n : Nat) : D6 rec n (cR (cL (cR (cR (cR (cR (cR (cR (cR (cR (cR (cR (cR (cR (cR (cR (cR (cf Tryz.f6)))))))))))))))))) x0 (fun (env : aV) (h : Hp) => dA rec n h) = (fun (env : aV) (h : Hp) => aZh rec n (env 10) (env 11) (env 13) (env 14) (env 16) (env 20) (env 21) (env 22) h) :=
 (by kernel_rfl : D6 rec n (cR (cL (cR (cR (cR (cR (cR (cR (cR (cR (cR (cR (cR (cR (cR (cR (cR (cf Tryz.f6)))))))))))))))))) x0 (fun (env : aV) (h : Hp) => dA rec n h) = D6 rec n (cL (cR (cL (cR (cR (cR (cR (cR (cR (cR (cR (cR (cR (cR (cR (cR (cR (cR (cf Tryz.f6))))))))))))))))))) (xs x0 0 (fun (env : aV) (h : Hp) => dA rec n h)) (fun (env : aV) (h : Hp) => dA rec n h)).trans
 ((dBr rec n).trans (by kernel_rfl))
theorem cEm (rec : FuncId → List DV → Hp → aH) (n : Nat) : D6 rec n (cR (cR (cR (cR (cR (cR (cR (cR (cR (cR (cR (cR (cR (cR (cR (cf Tryz.f6)))))))))))))))) x0 (aR CF Tryz.f6) = D6 rec n (cL (cR (cR (cR (cR (cR (cR (cR (cR (cR (cR (cR (cR (cR (cR (cR (cf Tryz.f6))))))))))))))))) x0 (fun (env : aV) (h : Hp) => dA rec n h) :=
 congrArg (fun k => D6 rec n (cL (cR (cR (cR (cR (cR (cR (cR (cR (cR (cR (cR (cR (cR (cR (cR (cf Tryz.f6))))))))))))))))) x0 k) (cUd rec n)
theorem cQo (rec : FuncId → List DV → Hp → aH) (n : Nat) : D6 rec n (cL (cR (cR (cR (cR (cR (cR (cR (cR (cR (cR (cR (cR (cR (cR (cR (cf Tryz.f6))))))))))))))))) x0 (fun (env : aV) (h : Hp) => dA rec n h) = D6 rec n (cL (cL (cR (cR (cR (cR (cR (cR (cR (cR (cR (cR (cR (cR (cR (cR (cR (cf Tryz.f6)))))))))))))))))) x0 (fun (env : aV) (h : Hp) => aZh rec n (env 10) (env 11) (env 13) (env 14) (env 16) (env 20) (env 21) (env 22) h) :=
 congrArg (fun k => D6 rec n (cL (cL (cR (cR (cR (cR (cR (cR (cR (cR (cR (cR (cR (cR (cR (cR (cR (cf Tryz.f6)))))))))))))))))) x0 k) (dCs rec n)
theorem cVs (rec : FuncId → List DV → Hp → aH) (n : Nat) : D6 rec n (cR (cR (cR (cR (cR (cR (cR (cR (cR (cR (cR (cR (cR (cR (cR (cf Tryz.f6)))))))))))))))) x0 (aR CF Tryz.f6) = (fun (env : aV) (h : Hp) => aNc rec n (env 10) (env 11) (env 13) (env 14) (env 16) (env 20) (env 21) h) :=
 (cEm rec n).trans
 ((cQo rec n).trans
 ((by kernel_rfl)))
theorem cNi (rec : FuncId → List DV → Hp → aH) (n : Nat) : D6 rec n (cR (cR (cR (cR (cR (cR (cR (cR (cR (cR (cR (cR (cR (cR (cf Tryz.f6))))))))))))))) x0 (aR CF Tryz.f6) = D6 rec n (cL (cR (cR (cR (cR (cR (cR (cR (cR (cR (cR (cR (cR (cR (cR (cf Tryz.f6)))))))))))))))) x0 (fun (env : aV) (h : Hp) => aNc rec n (env 10) (env 11) (env 13) (env 14) (env 16) (env 20) (env 21) h) :=
 congrArg (fun k => D6 rec n (cL (cR (cR (cR (cR (cR (cR (cR (cR (cR (cR (cR (cR (cR (cR (cf Tryz.f6)))))))))))))))) x0 k) (cVs rec n)
theorem cUx (rec : FuncId → List DV → Hp → aH) (n : Nat) : D6 rec n (cR (cR (cR (cR (cR (cR (cR (cR (cR (cR (cR (cR (cR (cR (cf Tryz.f6))))))))))))))) x0 (aR CF Tryz.f6) = (fun (env : aV) (h : Hp) => aBa rec n (env 10) (env 11) (env 13) (env 14) (env 16) (env 18) (env 19) (env 20) (env 21) h) :=
 (cNi rec n).trans
 ((by kernel_rfl))
theorem cPx (rec : FuncId → List DV → Hp → aH) (n : Nat) : D6 rec n (cR (cR (cR (cR (cR (cR (cR (cR (cR (cR (cR (cR (cR (cf Tryz.f6)))))))))))))) x0 (aR CF Tryz.f6) = D6 rec n (cL (cR (cR (cR (cR (cR (cR (cR (cR (cR (cR (cR (cR (cR (cf Tryz.f6))))))))))))))) x0 (fun (env : aV) (h : Hp) => aBa rec n (env 10) (env 11) (env 13) (env 14) (env 16) (env 18) (env 19) (env 20) (env 21) h) :=
 congrArg (fun k => D6 rec n (cL (cR (cR (cR (cR (cR (cR (cR (cR (cR (cR (cR (cR (cR (cf Tryz.f6))))))))))))))) x0 k) (cUx rec n)
theorem cUb (rec : FuncId → List DV → Hp → aH) (n : Nat) : D6 rec n (cR (cR (cR (cR (cR (cR (cR (cR (cR (cR (cR (cR (cR (cf Tryz.f6)))))))))))))) x0 (aR CF Tryz.f6) = (fun (env : aV) (h : Hp) => pL rec n (env 7) (env 8) (env 10) (env 11) (env 13) (env 14) (env 16) (env 17) (env 18) (env 19) (env 20) (env 21) h) :=
 (cPx rec n).trans
 ((by kernel_rfl))
theorem cCt (rec : FuncId → List DV → Hp → aH) (n : Nat) : D6 rec n (cR (cR (cR (cR (cR (cR (cR (cR (cR (cR (cR (cR (cf Tryz.f6))))))))))))) x0 (aR CF Tryz.f6) = D6 rec n (cL (cR (cR (cR (cR (cR (cR (cR (cR (cR (cR (cR (cR (cf Tryz.f6)))))))))))))) x0 (fun (env : aV) (h : Hp) => pL rec n (env 7) (env 8) (env 10) (env 11) (env 13) (env 14) (env 16) (env 17) (env 18) (env 19) (env 20) (env 21) h) :=
 congrArg (fun k => D6 rec n (cL (cR (cR (cR (cR (cR (cR (cR (cR (cR (cR (cR (cR (cf Tryz.f6)))))))))))))) x0 k) (cUb rec n)
theorem cWq (rec : FuncId → List DV → Hp → aH) (n : Nat) : D6 rec n (cR (cR (cR (cR (cR (cR (cR (cR (cR (cR (cR (cR (cf Tryz.f6))))))))))))) x0 (aR CF Tryz.f6) = (fun (env : aV) (h : Hp) => aNq rec n (env 7) (env 8) (env 10) (env 11) (env 12) (env 13) (env 14) (env 15) (env 16) (env 17) (env 18) (env 19) (env 20) h) :=
 (cCt rec n).trans
 ((by kernel_rfl))
theorem bLf (rec : FuncId → List DV → Hp → aH) (n : Nat) : D6 rec n (cR (cR (cR (cR (cR (cR (cR (cR (cR (cR (cR (cf Tryz.f6)))))))))))) x0 (aR CF Tryz.f6) = D6 rec n (cL (cR (cR (cR (cR (cR (cR (cR (cR (cR (cR (cR (cf Tryz.f6))))))))))))) x0 (fun (env : aV) (h : Hp) => aNq rec n (env 7) (env 8) (env 10) (env 11) (env 12) (env 13) (env 14) (env 15) (env 16) (env 17) (env 18) (env 19) (env 20) h) :=
 congrArg (fun k => D6 rec n (cL (cR (cR (cR (cR (cR (cR (cR (cR (cR (cR (cR (cf Tryz.f6))))))))))))) x0 k) (cWq rec n)
theorem cXn (rec : FuncId → List DV → Hp → aH) (n : Nat) : D6 rec n (cR (cR (cR (cR (cR (cR (cR (cR (cR (cR (cR (cf Tryz.f6)))))))))))) x0 (aR CF Tryz.f6) = (fun (env : aV) (h : Hp) => zF rec n (env 7) (env 8) (env 10) (env 11) (env 12) (env 13) (env 14) (env 15) (env 16) (env 17) (env 18) (env 19) h) :=
 (bLf rec n).trans
 ((by kernel_rfl))
theorem bMb (rec : FuncId → List DV → Hp → aH) (n : Nat) : D6 rec n (cR (cR (cR (cR (cR (cR (cR (cR (cR (cR (cf Tryz.f6))))))))))) x0 (aR CF Tryz.f6) = D6 rec n (cL (cR (cR (cR (cR (cR (cR (cR (cR (cR (cR (cf Tryz.f6)))))))))))) x0 (fun (env : aV) (h : Hp) => zF rec n (env 7) (env 8) (env 10) (env 11) (env 12) (env 13) (env 14) (env 15) (env 16) (env 17) (env 18) (env 19) h) :=
 congrArg (fun k => D6 rec n (cL (cR (cR (cR (cR (cR (cR (cR (cR (cR (cR (cf Tryz.f6)))))))))))) x0 k) (cXn rec n)
theorem bNe (rec : FuncId → List DV → Hp → aH) (n : Nat) (q0 : DV → DV → DV → DV → DV → DV → DV → DV → DV → DV → DV → DV → Hp → aH) : D6 rec n (cL (cR (cR (cR (cR (cR (cR (cR (cR (cR (cR (cf Tryz.f6)))))))))))) x0 (fun (env : aV) (h : Hp) => q0 (env 7) (env 8) (env 10) (env 11) (env 12) (env 13) (env 14) (env 15) (env 16) (env 17) (env 18) (env 19) h) = fun (env : aV) (h : Hp) =>
  bnd (aL [(.i .i64 (Int.ofNat 0)), (.i .i64 (Int.ofNat 0))] 2 [(0, 1, (env 9)), (1, 1, (env 10))] h) fun v153 h153 =>
  bnd (rec 16 [(env 7), (.i .i64 (Int.ofNat 21)), (env 8), v153] h153) fun v154 h154 =>
  bnd (aC 0 v154 h154) fun v155 h155 =>
  bnd (aC 1 v154 h155) fun v156 h156 =>
  q0 (env 7) (env 8) (env 10) (env 11) (env 12) (env 13) (env 14) (env 15) (env 16) (env 17) v155 v156 h156 := by kernel_rfl
theorem bEe (rec : FuncId → List DV → Hp → aH) (n : Nat) : (fun (env : aV) (h : Hp) =>
  bnd (aL [(.i .i64 (Int.ofNat 0)), (.i .i64 (Int.ofNat 0))] 2 [(0, 1, (env 9)), (1, 1, (env 10))] h) fun v157 h157 =>
  bnd (rec 16 [(env 7), (.i .i64 (Int.ofNat 21)), (env 8), v157] h157) fun v158 h158 =>
  bnd (aC 0 v158 h158) fun v159 h159 =>
  bnd (aC 1 v158 h159) fun v160 h160 =>
  zF rec n (env 7) (env 8) (env 10) (env 11) (env 12) (env 13) (env 14) (env 15) (env 16) (env 17) v159 v160 h160) = (fun (env : aV) (h : Hp) => aMy rec n (env 7) (env 8) (env 9) (env 10) (env 11) (env 12) (env 13) (env 14) (env 15) (env 16) (env 17) h) := by kernel_rfl
theorem cUq (rec : FuncId → List DV → Hp → aH) (n : Nat) : D6 rec n (cR (cR (cR (cR (cR (cR (cR (cR (cR (cR (cf Tryz.f6))))))))))) x0 (aR CF Tryz.f6) = (fun (env : aV) (h : Hp) => aMy rec n (env 7) (env 8) (env 9) (env 10) (env 11) (env 12) (env 13) (env 14) (env 15) (env 16) (env 17) h) :=
 (bMb rec n).trans
 ((bNe rec n (zF rec n)).trans (bEe rec n))
theorem cKa (rec : FuncId → List DV → Hp → aH) (n : Nat) : D6 rec n (cR (cR (cR (cR (cR (cR (cR (cR (cR (cf Tryz.f6)))))))))) x0 (aR CF Tryz.f6) = D6 rec n (cL (cR (cR (cR (cR (cR (cR (cR (cR (cR (cf Tryz.f6))))))))))) x0 (fun (env : aV) (h : Hp) => aMy rec n (env 7) (env 8) (env 9) (env 10) (env 11) (env 12) (env 13) (env 14) (env 15) (env 16) (env 17) h) :=
 congrArg (fun k => D6 rec n (cL (cR (cR (cR (cR (cR (cR (cR (cR (cR (cf Tryz.f6))))))))))) x0 k) (cUq rec n)
theorem dIh (rec : FuncId → List DV → Hp → aH) (n : Nat) : D6 rec n (cR (cR (cR (cR (cR (cR (cR (cR (cR (cf Tryz.f6)))))))))) x0 (aR CF Tryz.f6) = (fun (env : aV) (h : Hp) => cIk rec n (env 7) (env 8) (env 9) (env 10) (env 11) (env 12) (env 13) (env 14) (env 15) h) :=
 (cKa rec n).trans
 ((by kernel_rfl))
theorem cOo (rec : FuncId → List DV → Hp → aH) (n : Nat) : D6 rec n (cR (cR (cR (cR (cR (cR (cR (cR (cf Tryz.f6))))))))) x0 (aR CF Tryz.f6) = D6 rec n (cL (cR (cR (cR (cR (cR (cR (cR (cR (cf Tryz.f6)))))))))) x0 (fun (env : aV) (h : Hp) => cIk rec n (env 7) (env 8) (env 9) (env 10) (env 11) (env 12) (env 13) (env 14) (env 15) h) :=
 congrArg (fun k => D6 rec n (cL (cR (cR (cR (cR (cR (cR (cR (cR (cf Tryz.f6)))))))))) x0 k) (dIh rec n)
theorem dMv (rec : FuncId → List DV → Hp → aH) (n : Nat) : D6 rec n (cR (cR (cR (cR (cR (cR (cR (cR (cf Tryz.f6))))))))) x0 (aR CF Tryz.f6) = (fun (env : aV) (h : Hp) => cCy rec n (env 7) (env 8) (env 9) (env 10) (env 11) (env 12) (env 13) h) :=
 (cOo rec n).trans
 ((by kernel_rfl))
theorem cPz (rec : FuncId → List DV → Hp → aH) (n : Nat) : D6 rec n (cR (cR (cR (cR (cR (cR (cR (cf Tryz.f6)))))))) x0 (aR CF Tryz.f6) = D6 rec n (cL (cR (cR (cR (cR (cR (cR (cR (cf Tryz.f6))))))))) x0 (fun (env : aV) (h : Hp) => cCy rec n (env 7) (env 8) (env 9) (env 10) (env 11) (env 12) (env 13) h) :=
 congrArg (fun k => D6 rec n (cL (cR (cR (cR (cR (cR (cR (cR (cf Tryz.f6))))))))) x0 k) (dMv rec n)
theorem dJg (rec : FuncId → List DV → Hp → aH) (n : Nat) : D6 rec n (cR (cR (cR (cR (cR (cR (cR (cf Tryz.f6)))))))) x0 (aR CF Tryz.f6) = (fun (env : aV) (h : Hp) => cJg rec n (env 7) (env 8) (env 9) (env 10) (env 11) h) :=
 (cPz rec n).trans
 ((by kernel_rfl))
theorem cOf (rec : FuncId → List DV → Hp → aH) (n : Nat) : D6 rec n (cR (cR (cR (cR (cR (cR (cf Tryz.f6))))))) x0 (aR CF Tryz.f6) = D6 rec n (cL (cR (cR (cR (cR (cR (cR (cf Tryz.f6)))))))) x0 (fun (env : aV) (h : Hp) => cJg rec n (env 7) (env 8) (env 9) (env 10) (env 11) h) :=
 congrArg (fun k => D6 rec n (cL (cR (cR (cR (cR (cR (cR (cf Tryz.f6)))))))) x0 k) (dJg rec n)
theorem dLo (rec : FuncId → List DV → Hp → aH) (n : Nat) : D6 rec n (cR (cR (cR (cR (cR (cR (cf Tryz.f6))))))) x0 (aR CF Tryz.f6) = (fun (env : aV) (h : Hp) => cPl rec n (env 7) (env 8) (env 9) (env 10) h) :=
 (cOf rec n).trans
 ((by kernel_rfl))
theorem cOc (rec : FuncId → List DV → Hp → aH) (n : Nat) : D6 rec n (cR (cR (cR (cR (cR (cf Tryz.f6)))))) x0 (aR CF Tryz.f6) = D6 rec n (cL (cR (cR (cR (cR (cR (cf Tryz.f6))))))) x0 (fun (env : aV) (h : Hp) => cPl rec n (env 7) (env 8) (env 9) (env 10) h) :=
 congrArg (fun k => D6 rec n (cL (cR (cR (cR (cR (cR (cf Tryz.f6))))))) x0 k) (dLo rec n)
theorem dIz (rec : FuncId → List DV → Hp → aH) (n : Nat) : D6 rec n (cR (cR (cR (cR (cR (cf Tryz.f6)))))) x0 (aR CF Tryz.f6) = (fun (env : aV) (h : Hp) => cBm rec n (env 5) (env 7) (env 8) (env 9) h) :=
 (cOc rec n).trans
 ((by kernel_rfl))
theorem cFf (rec : FuncId → List DV → Hp → aH) (n : Nat) : D6 rec n (cR (cR (cR (cR (cf Tryz.f6))))) x0 (aR CF Tryz.f6) = D6 rec n (cL (cR (cR (cR (cR (cf Tryz.f6)))))) x0 (fun (env : aV) (h : Hp) => cBm rec n (env 5) (env 7) (env 8) (env 9) h) :=
 congrArg (fun k => D6 rec n (cL (cR (cR (cR (cR (cf Tryz.f6)))))) x0 k) (dIz rec n)
theorem dLy (rec : FuncId → List DV → Hp → aH) (n : Nat) : D6 rec n (cR (cR (cR (cR (cf Tryz.f6))))) x0 (aR CF Tryz.f6) = (fun (env : aV) (h : Hp) => cNs rec n (env 4) (env 5) (env 7) (env 8) h) :=
 (cFf rec n).trans
 ((by kernel_rfl))
theorem cLo (rec : FuncId → List DV → Hp → aH) (n : Nat) : D6 rec n (cR (cR (cR (cf Tryz.f6)))) x0 (aR CF Tryz.f6) = D6 rec n (cL (cR (cR (cR (cf Tryz.f6))))) x0 (fun (env : aV) (h : Hp) => cNs rec n (env 4) (env 5) (env 7) (env 8) h) :=
 congrArg (fun k => D6 rec n (cL (cR (cR (cR (cf Tryz.f6))))) x0 k) (dLy rec n)
theorem dLv (rec : FuncId → List DV → Hp → aH) (n : Nat) : D6 rec n (cR (cR (cR (cf Tryz.f6)))) x0 (aR CF Tryz.f6) = (fun (env : aV) (h : Hp) => cMa rec n (env 3) (env 4) (env 5) (env 7) h) :=
 (cLo rec n).trans
 ((by kernel_rfl))
theorem cJt (rec : FuncId → List DV → Hp → aH) (n : Nat) : D6 rec n (cR (cR (cf Tryz.f6))) x0 (aR CF Tryz.f6) = D6 rec n (cL (cR (cR (cf Tryz.f6)))) x0 (fun (env : aV) (h : Hp) => cMa rec n (env 3) (env 4) (env 5) (env 7) h) :=
 congrArg (fun k => D6 rec n (cL (cR (cR (cf Tryz.f6)))) x0 k) (dLv rec n)
theorem dGm (rec : FuncId → List DV → Hp → aH) (n : Nat) : D6 rec n (cR (cR (cf Tryz.f6))) x0 (aR CF Tryz.f6) = (fun (env : aV) (h : Hp) => cMd rec n (env 3) (env 4) (env 5) (env 7) h) :=
 (cJt rec n).trans
 ((by kernel_rfl))
theorem cJq (rec : FuncId → List DV → Hp → aH) (n : Nat) : D6 rec n (cR (cf Tryz.f6)) x0 (aR CF Tryz.f6) = D6 rec n (cL (cR (cf Tryz.f6))) x0 (fun (env : aV) (h : Hp) => cMd rec n (env 3) (env 4) (env 5) (env 7) h) :=
 congrArg (fun k => D6 rec n (cL (cR (cf Tryz.f6))) x0 k) (dGm rec n)
theorem dKg (rec : FuncId → List DV → Hp → aH) (n : Nat) : D6 rec n (cR (cf Tryz.f6)) x0 (aR CF Tryz.f6) = (fun (env : aV) (h : Hp) => bDj rec n (env 3) (env 4) (env 5) h) :=
 (cJq rec n).trans
 ((by kernel_rfl))
theorem dJi (rec : FuncId → List DV → Hp → aH) (n : Nat) : D6 rec n (cf Tryz.f6) x0 (aR CF Tryz.f6) = D6 rec n (cL (cf Tryz.f6)) x0 (fun (env : aV) (h : Hp) => bDj rec n (env 3) (env 4) (env 5) h) :=
 congrArg (fun k => D6 rec n (cL (cf Tryz.f6)) x0 k) (dKg rec n)
theorem dHm (rec : FuncId → List DV → Hp → aH) (n : Nat) (q0 : DV → DV → DV → Hp → aH) : D6 rec n (cL (cf Tryz.f6)) x0 (fun (env : aV) (h : Hp) => q0 (env 3) (env 4) (env 5) h) = fun (env : aV) (h : Hp) =>
  bnd (bO (env 0) h) fun v203 h203 =>
  bnd (bO (env 1) h203) fun v204 h204 =>
  bnd (bO (env 2) h204) fun v205 h205 =>
  q0 v203 v204 v205 h205 := by kernel_rfl
theorem cYi (rec : FuncId → List DV → Hp → aH) (n : Nat) : (fun (env : aV) (h : Hp) =>
  bnd (bO (env 0) h) fun v206 h206 =>
  bnd (bO (env 1) h206) fun v207 h207 =>
  bnd (bO (env 2) h207) fun v208 h208 =>
  bDj rec n v206 v207 v208 h208) = (fun (env : aV) (h : Hp) => s6 rec n (env 0) (env 1) (env 2) h) := by kernel_rfl
theorem s6m (rec : FuncId → List DV → Hp → aH) (n : Nat) : D6 rec n (cf Tryz.f6) x0 (aR CF Tryz.f6) = (fun (env : aV) (h : Hp) => s6 rec n (env 0) (env 1) (env 2) h) :=
 (dJi rec n).trans
 ((dHm rec n (bDj rec n)).trans (cYi rec n))
theorem dNj (rec : FuncId → List DV → Hp → aH) (n : Nat) (args : List DV) (h : Hp) : aF CF rec n 6 args h = s6 rec n (args.getD 0 aW) (args.getD 1 aW) (args.getD 2 aW) h :=
 (by kernel_rfl : aF CF rec n 6 args h = D6 rec n (cf Tryz.f6) x0 (aR CF Tryz.f6) (aI args) h).trans ((congrFun (congrFun (s6m rec n) (aI args)) h).trans (by kernel_rfl))
end Go.Dd

namespace Go.Dd
open Go.Proofs
theorem dMi (b : Bool) : (b != b) = false := by cases b <;> rfl
section
variable {h h' : Hp} {M M' : MemV} {R R' : List Int} {es es' : List (DV × DV)} {k : Nat} {z z' : Prop} {CL : List Nat} {b : Pos} {n r v y : Int} {x : DV} {l : List Int} {i : Nat}
theorem bFc (V : Wv k h M R es z) (r : Int) (m : Nat) : dC (m + 3) 26 [.p (aS 7) 0, iD r] h = some (.t [.b (ixB M R r), .b (R.getD 11 0 == cW M R r)], h) := by
 have em := V.K.W.memory (m + 1)
 have co := V.K.W.classOf V.K.G r m
 have is := V.K.W.is r
 have k9 : dC (m + 1 + 1) 30 [.p (aS 7) 0, .i .i64 (Int.ofNat 9)] h = some (iD (R.getD 11 0), h) := V.K.W.known (show 9 < 16 by omega) (m + 1)
 have k10 : dC (m + 1 + 1) 30 [.p (aS 7) 0, .i .i64 (Int.ofNat 10)] h = some (iD (R.getD 12 0), h) := V.K.W.known (show 10 < 16 by omega) (m + 1)
 have k11 : dC (m + 1 + 1) 30 [.p (aS 7) 0, .i .i64 (Int.ofNat 11)] h = some (iD (R.getD 13 0), h) := V.K.W.known (show 11 < 16 by omega) (m + 1)
 have cm : ∀ a b : Int, (a == b) = (b == a) := fun a b => by rw [Bool.eq_iff_iff]; simp only [beq_iff_eq]; exact eq_comm
 rw [nN 26 rfl, cRg]
 unfold s26
 simp only [iD] at co is k9 k10 k11 ⊢
 simp only [g0, g1, co, aQ, em, is]
 by_cases e : bQ r M.pl = 0
 ·have hb : (!(Nat.beq (bQ r M.pl) 0)) = false := by rw [e]; rfl
  have i0 : ixB M R r = false := by
   cases hi : ixB M R r with
   | false => rfl
   | true => exact absurd e ((ixB_iff.1 hi).at V.I)
  have i9 : (R.getD 11 0 == cW M R r) = false := by
   unfold ixB at i0
   revert i0
   cases (R.getD 11 0 == cW M R r) <;> simp
  simp only [hb, gB, jJ, bT, aQ, i0, i9]
 ·have hb : (!(Nat.beq (bQ r M.pl) 0)) = true := by rw [bDd e]; rfl
  simp only [hb, jE, k9, aQ, cB]
  unfold ixB
  rw [cm (cW M R r) (R.getD 11 0)]
  cases c9 : (R.getD 11 0 == cW M R r) with
  | true =>
   simp only [fH, jJ, bZ, aQ, jE, k9, cB, Bool.true_or]
   rw [cm (cW M R r) (R.getD 11 0), c9]
  | false =>
   simp only [gF, k10, aQ, cB, bT]
   rw [cm (cW M R r) (R.getD 12 0)]
   cases c10 : (R.getD 12 0 == cW M R r) with
   | true =>
    simp only [fH, jJ, bZ, aQ, jE, k9, cB, Bool.true_or, Bool.false_or]
    rw [cm (cW M R r) (R.getD 11 0), c9]
   | false =>
    simp only [gF, k11, aQ, cB, bT]
    rw [cm (cW M R r) (R.getD 13 0)]
    cases c11 : (R.getD 13 0 == cW M R r) with
    | true =>
     simp only [bZ, aQ, jE, k9, cB, Bool.true_or, Bool.false_or]
     rw [cm (cW M R r) (R.getD 11 0), c9]
    | false =>
     simp only [bZ, bT, aQ, gB, jJ, Bool.false_or]
theorem bCy {ax bx : DV} {la lb : List Int} {h : Hp} (S1 : SlI ax la h) (S2 : SlI bx lb h) {q ar : Bool} {i0 v0 w : Int} {p : Nat} (hl : la.length = lb.length) (h256 : la.length ≤ 256)
  (hq : q = true → i0 = Int.ofNat (p + 1) ∧ p ≤ 256 ∧ w = (if ar = true then y else v0)) (hv : ∀ k a, la[k]? = some a → lb[k]? = some (if q = true ∧ k = p then w else a)) :
  ∀ (j i mm : Nat), i + j = la.length → j < mm → oU iG 900 mm (iD y) ax (.b ar) (iD i0) (iD v0) bx (.b q) (.i .i64 (Int.ofNat i)) h = some (.b true, h) := by
 intro j
 induction j with
 | zero =>
  intro i mm hij hm
  obtain ⟨mm, rfl⟩ : ∃ m', mm = m' + 1 := ⟨mm - 1, by omega⟩
  show qQ iG 900 (oU iG 900 mm) _ _ _ _ _ _ _ _ h = _
  unfold qQ dA
  have le := S2.len (h' := h)
  have d : decide (Int.ofNat i < (lb.length : Int)) = false := decide_eq_false (by simp; omega)
  simp only [iD] at le
  simp only [le, aQ, cM, d, bH, bNa]
 | succ j ih =>
  intro i mm hij hm
  obtain ⟨mm, rfl⟩ : ∃ m', mm = m' + 1 := ⟨mm - 1, by omega⟩
  rw [← ih (i + 1) mm (by omega) (by omega)]
  show qQ iG 900 (oU iG 900 mm) _ _ _ _ _ _ _ _ h = _
  unfold qQ
  have le := S2.len (h' := h)
  have d : decide (Int.ofNat i < (lb.length : Int)) = true := decide_eq_true (by simp; omega)
  have ha : la[i]? = some la[i] := List.getElem?_eq_getElem (by omega)
  obtain ⟨a1, g1', g2'⟩ := S1.at ha
  obtain ⟨a2, g3', g4'⟩ := S2.at (hv i _ ha)
  have add := gG i 1 h (by omega)
  simp only [iD] at le g2' g4'
  simp only [le, aQ, cM, d, bM]
  unfold aYd
  simp only [g1', aQ, g2']
  unfold aYz
  cases q with
  | false =>
   have g4 : aA a2 h = some (DV.i .i64 la[i], h) := by simpa using g4'
   simp only [gB, jJ, aQ, bT, bH]
   unfold qE
   simp only [g3', aQ, g4, eW, neF (rfl : la[i] = la[i]), bH]
   unfold fX
   simp only [add, aQ]
  | true =>
   obtain ⟨e1, e2, e3⟩ := hq rfl
   subst e1
   have ps : ∀ h, aD .sub (.i .i64 (Int.ofNat (p + 1))) (.i .i64 (Int.ofNat 1)) h = some (.i .i64 (Int.ofNat p), h) := fun h => by
    rw [aTi _ _ _ ⟨by simp only [Int.ofNat_eq_natCast]; omega, by simp only [Int.ofNat_eq_natCast]; omega⟩]
    simp
   simp only [jE, ps, aQ, cB, bZ]
   by_cases c : i = p
   ·have g4 : aA a2 h = some (DV.i .i64 w, h) := by
     rw [g4', if_pos ⟨rfl, c⟩]
    simp only [eqX (show Int.ofNat i = Int.ofNat p by rw [c]), bM, iC, aQ]
    cases ar with
    | false =>
     have e4 : w = v0 := e3
     subst e4
     simp only [Bool.not_false, bM]
     unfold qE
     simp only [g3', aQ, g4, eW, neF (rfl : w = w), bH]
     unfold fX
     simp only [add, aQ]
    | true =>
     have e4 : w = y := e3
     subst e4
     simp only [Bool.not_true, bH]
     unfold qE
     simp only [g3', aQ, g4, eW, neF (rfl : w = w), bH]
     unfold fX
     simp only [add, aQ]
   ·have g4 : aA a2 h = some (DV.i .i64 la[i], h) := by
     rw [g4', if_neg (fun q => c q.2)]
    simp only [lY (show Int.ofNat i ≠ Int.ofNat p from fun q => c (Int.ofNat.inj q)), bH]
    unfold qE
    simp only [g3', aQ, g4, eW, neF (rfl : la[i] = la[i]), bH]
    unfold fX
    simp only [add, aQ]
theorem kX (M : MemV) (r : Int) : (qA M r).length = bV M r / 4 := by
 unfold qA
 rw [List.length_map, List.length_range]
theorem bDr {M : MemV} {r : Int} {k : Nat} {a : Int} (h : (qA M r)[k]? = some a) : k < bV M r / 4 ∧ a = nJ M r k := by
 unfold qA at h
 rw [List.getElem?_map] at h
 have hl : k < bV M r / 4 := by
  rcases Nat.lt_or_ge k (bV M r / 4) with q | q
  ·exact q
  ·rw [List.getElem?_eq_none (by simpa using q)] at h; cases h
 rw [List.getElem?_eq_getElem (by simpa using hl)] at h
 simp at h
 exact ⟨hl, h.symm⟩
theorem bOj {M : MemV} {r : Int} {k : Nat} (hl : k < bV M r / 4) : (qA M r)[k]? = some (nJ M r k) := by
 unfold qA
 rw [List.getElem?_map, List.getElem?_eq_getElem (by simpa using hl)]
 simp
end
theorem cKo (args : List DV) (h : Hp) : iG 26 args h = dC (897 + 3) 26 args h := kB rfl rfl args h
theorem aUr (args : List DV) (h : Hp) : iG 29 args h = dC (897 + 3) 29 args h := kB rfl rfl args h
theorem cFd {k1 N1 k2 N2 k3 N3 : Int} {s1 s2 s3 : List Nat} (i1 : i64 N1) (i2 : i64 N2) (i3 : i64 N3) (b1 : byS s1) (b2 : byS s2) (b3 : byS s3) : ∃ k, aF CF iG 900 6 [th k1 N1 s1, th k2 N2 s2, th k3 N3 s3] (hK 1021) = some (.b true, k) := by
 obtain ⟨h1, h2, h3, e1, e2, e3, e4, V0, T0⟩ := aNo k1 N1 s1 k2 N2 s2 k3 N3 s3
 obtain ⟨r, h5, M5, R5, es5, e5, V5, U5, S5⟩ := aCw (k := 19740) V0 k1 i1 b1 (m := 894) (by omega)
 have T5 := T0.up U5
 obtain ⟨x, h6, M6, R6, es6, e6, V6, U6, S6⟩ := aCw (k := 19480) V5 k2 i2 b2 (m := 894) (by omega)
 have T6 := T5.up U6
 obtain ⟨y, h7, M7, R7, es7, e7, V7, U7, S7⟩ := aCw (k := 19220) V6 k3 i3 b3 (m := 894) (by omega)
 have l256 := V7.I.len256 V7.K.G r
 obtain ⟨fx, h8, e8, V8, U8, F8⟩ := bUl V7 r l256 (m := 897) (by omega)
 have ix := bFc V8 r 897
 have vx := V8.K.W.value V8.K.G V8.I x 898
 have vy := V8.K.W.value V8.K.G V8.I y 898
 obtain ⟨sl, h9, e9, S9, U9, V9⟩ := dAd V8 x y
 obtain ⟨a, e, h10, e10, U10, A10⟩ := dOt V9 S9 r (m := 893) (by omega)
 have o21 : Int.ofNat 21 = (21 : Int) := rfl
 have rest : ∃ k, zF iG 900 (.p (aS 7) 0) (iD r) (iD y) fx (.b (ixB M7 R7 r)) (.b (R7.getD 11 0 == cW M7 R7 r)) (iD ((gM M7 R7 x).getD 0)) (.b (gM M7 R7 x).isSome) (iD ((gM M7 R7 y).getD 0)) (.b (gM M7 R7 y).isSome) (iD a) (iD e) h10 = some (.b true, k) := by
  obtain ⟨M10, q, w, p, V10, hq, hM, ha, he, hh, hmay, hcls⟩ : ∃ (M10 : MemV) (q : Bool) (w : Int) (p : Nat), Wv 19220 h10 M10 R7 es7 ∧ (q = true ↔ ∃ i w, mW M7 R7 r x y i w) ∧
    ((q = true ∧ mW M7 R7 r x y p w ∧ (∀ k, nJ M10 r k = if k = p then w else nJ M7 r k)) ∨ (q = false ∧ M10 = M7)) ∧ a = (if q then y else 0) ∧ e = (if q then 0 else 20) ∧ bV M10 r = bV M7 r ∧ dK y M10.pl = dK y M7.pl ∧ cW M10 R7 r = cW M7 R7 r := by
   rcases A10 with ⟨A, rfl, rfl, V10⟩ | ⟨i, w, A, rfl, rfl, V10⟩
   ·exact ⟨M7, false, 0, 0, V10, ⟨fun q => (by cases q), fun q => absurd q A⟩, .inr ⟨rfl, rfl⟩, rfl, rfl, rfl, rfl, rfl⟩
   ·have P := A.2.2.2.can V7.I V7.K.G A.2.1
    exact ⟨_, true, w, i, V10, ⟨fun _ => ⟨i, w, A⟩, fun _ => rfl⟩, .inl ⟨rfl, A, fun k => bVj V7.I V7.K.G P k⟩, rfl, rfl, aNs V7.I V7.K.G P r, rfl, cOt V7.I V7.K.G P r⟩
  obtain ⟨fy, h11, e11, V11, U11, F11⟩ := bUl V10 r (by rw [hh]; exact l256) (m := 897) (by omega)
  have F8' := ((F8.up U9).up U10).up U11
  have em := V11.K.W.memory 899
  have my := V11.K.W.may y
  rw [hmay] at my
  have co := V11.K.W.classOf V11.K.G r 898
  rw [hcls] at co
  have k10 : dC (899 + 1) 30 [.p (aS 7) 0, .i .i64 (Int.ofNat 10)] h11 = some (iD (R7.getD 12 0), h11) := V11.K.W.known (show 10 < 16 by omega) 899
  have l8 := F8'.len (h' := h11)
  have l11 := F11.len (h' := h11)
  rw [kX] at l8 l11
  rw [hh] at l11
  have rt : aNq iG 900 (.p (aS 7) 0) (iD r) (iD y) fx (.b (ixB M7 R7 r)) (.b (R7.getD 11 0 == cW M7 R7 r)) (iD ((gM M7 R7 x).getD 0)) (.b (gM M7 R7 x).isSome) (iD ((gM M7 R7 y).getD 0)) (.b (gM M7 R7 y).isSome) (iD a) (iD e) fy h11 =
    aBa iG 900 (iD y) fx (.b (R7.getD 11 0 == cW M7 R7 r)) (iD ((gM M7 R7 x).getD 0)) (iD ((gM M7 R7 y).getD 0)) (iD a) (iD e) fy (.b q) h11 := by
   have no : (¬ ∃ i w, mW M7 R7 r x y i w) → q = false := fun hn => by
    cases q with
    | false => rfl
    | true => exact absurd (hq.1 rfl) hn
   have yes : (∃ i w, mW M7 R7 r x y i w) → q = true := hq.2
   unfold aNq
   simp only [iD] at l8 my co k10 ⊢
   cases hi : ixB M7 R7 r with
   | false =>
    rw [no fun ⟨i, w, _, _, _, q⟩ => by rw [ixB_iff.2 q.ix] at hi; cases hi]
    unfold pL
    simp only [gB, jJ, aQ, bT, bH]
   | true =>
    simp only [jE, aQ, bZ]
    cases hv : gM M7 R7 x with
    | none =>
     rw [no fun ⟨i, w, q, _⟩ => by rw [hv] at q; cases q]
     unfold pL
     simp only [Option.isSome_none, gB, jJ, aQ, bT, bH]
    | some ww =>
     simp only [Option.isSome_some, Option.getD_some, jE, aQ, bZ, jG]
     by_cases c1 : ww ≥ Int.ofNat 1
     ·obtain ⟨i, rfl⟩ : ∃ i : Nat, ww = Int.ofNat (i + 1) := ⟨ww.toNat - 1, by show ww = ((ww.toNat - 1 + 1 : Nat) : Int); have c2 : (1 : Int) ≤ ww := c1; omega⟩
      simp only [decide_eq_true c1, jE, aQ, bZ, l8, aBr]
      by_cases c2 : Int.ofNat (i + 1) ≤ ((bV M7 r / 4 : Nat) : Int)
      ·simp only [decide_eq_true c2, jE, aQ, bZ, cIa, em, my]
       have hl : i < bV M7 r / 4 := by simp at c2; omega
       cases hm : dK y M7.pl with
       | false =>
        rw [no fun ⟨i, w, _, _, q, _⟩ => by rw [hm] at q; cases q]
        unfold pL
        simp only [gB, jJ, aQ, bT, bH]
       | true =>
        unfold pL
        simp only [jE, aQ, bZ, iC]
        by_cases c9 : cW M7 R7 r = R7.getD 11 0
        ·rw [yes ⟨i, y, hv, hl, hm, .inl ⟨c9, rfl⟩⟩]
         simp only [eqX c9.symm, Bool.not_true, bH]
        ·have c9' : ¬ (R7.getD 11 0 = cW M7 R7 r) := fun q => c9 q.symm
         simp only [lY c9', Bool.not_false, bM, cFs, co, aQ, cQq, k10, cB]
         by_cases c10 : cW M7 R7 r = R7.getD 12 0
         ·simp only [eqX c10, jE, aQ, bZ]
          cases hw : gM M7 R7 y with
          | none =>
           rw [no fun ⟨i, w, _, _, _, q⟩ => by
            rcases q with ⟨q, _⟩ | ⟨_, c, _, q, _⟩
            ·exact c9 q
            ·rw [hw] at q; cases q]
           simp only [Option.isSome_none, gB, jJ, aQ, bT]
          | some u =>
           simp only [Option.isSome_some, Option.getD_some, jE, aQ, bZ, jG]
           by_cases d0 : u ≥ Int.ofNat 0
           ·obtain ⟨c, rfl⟩ : ∃ c : Nat, u = Int.ofNat c := ⟨u.toNat, by show u = (u.toNat : Int); have d1 : (0 : Int) ≤ u := d0; omega⟩
            simp only [decide_eq_true d0, jE, aQ, bZ, aBr]
            by_cases d1 : Int.ofNat c ≤ Int.ofNat 255
            ·rw [yes ⟨i, Int.ofNat c, hv, hl, hm, .inr ⟨c10, c, by simp at d1; omega, hw, rfl⟩⟩]
             simp only [decide_eq_true d1]
            ·rw [no fun ⟨i, w, _, _, _, q⟩ => by
              rcases q with ⟨q, _⟩ | ⟨_, c', c1, q, _⟩
              ·exact c9 q
              ·rw [hw] at q
               have := Int.ofNat.inj (Option.some.inj q)
               simp at d1
               omega]
             simp only [decide_eq_false d1]
           ·rw [no fun ⟨i, w, _, _, _, q⟩ => by
             rcases q with ⟨q, _⟩ | ⟨_, c', c1, q, _⟩
             ·exact c9 q
             ·rw [hw] at q
              have := Option.some.inj q
              rw [this] at d0
              exact d0 (by show (0 : Int) ≤ (c' : Int); omega)]
            simp only [decide_eq_false d0, gB, jJ, aQ, bT]
         ·rw [no fun ⟨i, w, _, _, _, q⟩ => by
           rcases q with ⟨q, _⟩ | ⟨q, _⟩
           ·exact c9 q
           ·exact c10 q]
          simp only [lY c10, gB, jJ, aQ, bT]
      ·rw [no fun ⟨j, w, q, q2, _⟩ => by
        rw [hv] at q
        have := Int.ofNat.inj (Option.some.inj q)
        simp at c2
        omega]
       unfold pL
       simp only [decide_eq_false c2, gB, jJ, aQ, bT, bH]
     ·rw [no fun ⟨j, w, q, q2, _⟩ => by
       rw [hv] at q
       have := Option.some.inj q
       rw [this] at c1
       exact c1 (by show (1 : Int) ≤ ((j + 1 : Nat) : Int); omega)]
      unfold pL
      simp only [decide_eq_false c1, gB, jJ, aQ, bT, bH]
  unfold zF
  simp only [iD] at e11 rt ⊢
  simp only [aUr, e11, aQ, rt]
  have tail : aNc iG 900 (iD y) fx (.b (R7.getD 11 0 == cW M7 R7 r)) (iD ((gM M7 R7 x).getD 0)) (iD ((gM M7 R7 y).getD 0)) fy (.b q) h11 = some (.b true, h11) := by
   unfold aNc aZh bJd
   refine bCy (p := p) (w := w) F8' F11 (by rw [kX, kX, hh]) (by rw [kX]; exact l256) (fun hq => ?_) (fun k a ha => ?_) (qA M7 r).length 0 900 (by omega) (by rw [kX]; omega)
   ·rcases hM with ⟨_, P, _⟩ | ⟨q, _⟩
    ·refine ⟨by rw [P.1]; rfl, by have := P.2.1; omega, ?_⟩
     rcases P.2.2.2 with ⟨c, e⟩ | ⟨c, cc, c1, c2, e⟩
     ·rw [eqX c.symm, if_pos rfl, e]
     ·have n9 : ¬ (R7.getD 11 0 = cW M7 R7 r) := fun q => by
       have := kno V7.I (a := 9) (b := 10) (by omega) (by omega) (q.trans c)
       omega
      rw [lY n9, if_neg (by simp), c2, e]
      rfl
    ·rw [hq] at q; cases q
   ·obtain ⟨k1, k2⟩ := bDr ha
    rw [bOj (by rw [hh]; exact k1), k2]
    congr 1
    rcases hM with ⟨q, P, g⟩ | ⟨q, rfl⟩
    ·rw [g k]
     simp [q]
    ·simp [q]
  simp only [iD] at tail l8 l11
  refine ⟨h11, ?_⟩
  rw [ha, he]
  unfold aBa
  cases q with
  | true =>
   have d0 : ((0 : Int) == Int.ofNat 0) = true := rfl
   have n0 : ((0 : Int) != Int.ofNat 0) = false := rfl
   have nn : ∀ a : Int, (a != a) = false := fun a => neF rfl
   simp only [if_true, cB, d0, aQ, dGw, dMi, gF, eW, n0, gB, jJ, bT, jE, nn, bZ, l8, l11, bH, tail]
  | false =>
   have d0 : ((20 : Int) == Int.ofNat 0) = false := rfl
   have n0 : ((20 : Int) != Int.ofNat 0) = true := rfl
   have n20 : ((20 : Int) != Int.ofNat 20) = false := rfl
   have n1 : ((0 : Int) != Int.ofNat 0) = false := rfl
   have nn : ∀ a : Int, (a != a) = false := fun a => neF rfl
   simp only [Bool.false_eq_true, if_false, cB, d0, aQ, dGw, dMi, gF, eW, n0, n20, n1, gB, jJ, bT, jE, nn, bZ, l8, l11, bH, tail]
 obtain ⟨kf, rest⟩ := rest
 refine ⟨kf, ?_⟩
 rw [dNj]
 unfold s6 bDj cMd cMa cNs cBm cPl cJg cCy cIk aMy
 simp only [iD] at e1 e2 e3 e5 e6 e7 e8 e9 e10 ix vx vy
 simp only [th, iD] at e1 e2 e3 ⊢
 simp only [g0, g1, show ∀ (a b c : DV) (l : List DV), (a :: b :: c :: l).getD 2 aW = c from fun _ _ _ _ => rfl, e1, aQ, e2, e3, e4, pE0, bH, T0.t1.ld, cHm, e5, T5.t2.ld, e6, T6.t3.ld, e7, aUr, e8, cKo, ix, nV, oZ, cCn, vx, vy, e9, cGy, o21, e10]
 exact rest
end Go.Dd

namespace Go.Dd
open Go.Proofs
theorem bKt {P : Program} {W : World} {base : Nat} {t : TypeId} {v : Value} {fs : Array Field} (ht : P.underlying t = some (.struct fs)) (h : Value.okWide P W .any base t v) : ∃ cs, v = .agg cs := by
 unfold Value.okWide at h
 rw [ht] at h
 obtain ⟨cs, e, _⟩ := h
 exact ⟨cs, e⟩
theorem aWq : Tryz.prog.cellsOf 23 = 3 := by kernel_rfl
theorem bGx : Tryz.prog.cellsOf 3 = 1 := by kernel_rfl
theorem bVk : Tryz.prog.cellsOf 9 = 1 := by kernel_rfl
section
variable {H : Type} {enc : TypeId × Value → H} {W : World} {base b0 : Nat} {sp : Nat → Bool} {held : Bool}
theorem aSp {n : Nat} {cs : List Value} {x : DataW H × List MemPlace} (h : DataW.trod enc Tryz.prog W base sp held n 23 cs = some x) :
  ∃ (kd N : Int) (s : ByteArray), cs = [.int .i64 kd, .int .i64 N, .string s] ∧ x = (.agg [.lit (.int .i64 kd), .lit (.int .i64 N), .lit (.string s.data.toList)], []) ∧ (Lit.int .i64 kd).wf = true ∧ (Lit.int .i64 N).wf = true ∧ s.size ≤ maxLen := by
 obtain ⟨xs, n, rfl, hx, hl, hs, hf⟩ := DataW.trod_struct Tryz.underlying23 h
 rw [aWq] at hl
 match cs, hl with
 | [a, b, c], _ =>
  have hs : xs.length = 3 := hs
  match xs, hs with
  | [x0, x1, x2], _ =>
   have f0 := hf 0 _ rfl
   have f1 := hf 1 _ rfl
   have f2 := hf 2 _ rfl
   change DataW.trod enc Tryz.prog W base sp held n 3 (List.take (Tryz.prog.cellsOf 3) [a, b, c]) = some x0 at f0
   change DataW.trod enc Tryz.prog W base sp held n 3 (List.take (Tryz.prog.cellsOf 3) [b, c]) = some x1 at f1
   change DataW.trod enc Tryz.prog W base sp held n 9 (List.take (Tryz.prog.cellsOf 9) [c]) = some x2 at f2
   rw [bGx] at f0 f1
   rw [bVk] at f2
   obtain ⟨kd, e0, q0, w0⟩ := DataW.trod_int Tryz.underlying3 f0
   obtain ⟨N, e1, q1, w1⟩ := DataW.trod_int Tryz.underlying3 f1
   obtain ⟨s, e2, q2, w2⟩ := DataW.trod_string Tryz.underlying9 f2
   simp only [List.take, List.cons.injEq, and_true] at e0 e1 e2
   subst e0 e1 e2
   refine ⟨kd, N, s, rfl, ?_, w0, w1, w2⟩
   rw [hx, q0, q1, q2]
   rfl
theorem aPv {kd N : Int} {s : ByteArray} (w0 : (Lit.int .i64 kd).wf = true) (w1 : (Lit.int .i64 N).wf = true) (w2 : s.size ≤ maxLen) (n : Nat) :
  DataW.trod enc Tryz.prog W base sp held (n + 2) 23 [.int .i64 kd, .int .i64 N, .string s] = some (.agg [.lit (.int .i64 kd), .lit (.int .i64 N), .lit (.string s.data.toList)], []) := by
 have t0 : DataW.trod enc Tryz.prog W base sp held (n + 1) 3 [.int .i64 kd] = some (.lit (.int .i64 kd), []) := by
  rw [DataW.trod_step]; unfold DataW.trodStep; rw [Tryz.underlying3]; simp [w0]
 have t1 : DataW.trod enc Tryz.prog W base sp held (n + 1) 3 [.int .i64 N] = some (.lit (.int .i64 N), []) := by
  rw [DataW.trod_step]; unfold DataW.trodStep; rw [Tryz.underlying3]; simp [w1]
 have t2 : DataW.trod enc Tryz.prog W base sp held (n + 1) 9 [.string s] = some (.lit (.string s.data.toList), []) := by
  rw [DataW.trod_step]; unfold DataW.trodStep; rw [Tryz.underlying9]; simp [w2]
 rw [DataW.trod_step]; unfold DataW.trodStep; rw [Tryz.underlying23]
 simp [aWq, bGx, bVk, t0, t1, t2]
theorem oN {v : Value} {d : DataW H} {ps : List MemPlace} (hval : Value.okWide Tryz.prog W .any b0 23 v) (hd : DataW.Trod enc Tryz.prog W base sp held 23 v d ps) :
  ∃ (kd N : Int) (s : ByteArray), v = .agg #[.int .i64 kd, .int .i64 N, .string s] ∧ ps = [] ∧ (Lit.int .i64 N).wf = true ∧ ∀ (W' : World) (base' : Nat) (sp' : Nat → Bool), DataW.Trod enc Tryz.prog W' base' sp' held 23 (.agg #[.int .i64 kd, .int .i64 N, .string s]) d [] := by
 obtain ⟨cs, rfl⟩ := bKt Tryz.underlying23 hval
 obtain ⟨n, hf⟩ := hd
 have hf : DataW.trod enc Tryz.prog W base sp held n 23 cs.toList = some (d, ps) := hf
 obtain ⟨kd, N, s, e, ex, w0, w1, w2⟩ := aSp hf
 have ecs : cs = #[.int .i64 kd, .int .i64 N, .string s] := by
  apply Array.toList_inj.1
  exact e
 cases ex
 exact ⟨kd, N, s, by rw [ecs], rfl, w1, fun W' base' sp' => ⟨2, aPv w0 w1 w2 0⟩⟩
end
theorem aPh {n : Int} (w : (Lit.int .i64 n).wf = true) : i64 n := Go.bounds_i64 w
theorem xZ {ρ : dD} (kd N : Int) (s : ByteArray) : VR ρ (th kd N (s.data.toList.map (·.toNat))) (.agg #[.int .i64 kd, .int .i64 N, .string s]) :=
 .a _ _ (.cons _ _ _ _ (.i _ _) (.cons _ _ _ _ (.i _ _) (.cons _ _ _ _ (.s _ _ rfl) .nil)))
end Go.Dd

