/- A part of the proof: XP XQ XY: each text has a comment of its own. -/
import Derived.Test.YtcepbgoefnfnmaaGreatDoorRa9
set_option linter.unusedVariables false
set_option linter.unusedSimpArgs false
set_option linter.constructorNameAsVariable false
set_option maxRecDepth 100000
namespace Go.Dd
open Go.Proofs
theorem TV.beq {q : Pos → Prop} {h : Hp} {t : Th} {ds : List DV} (H : TV q h t ds) : DV.beq (.a ds) (.a ds) = true := by
 obtain ⟨k, n, tx, ks⟩ := t
 unfold TV at H
 obtain ⟨s, rfl, _, ⟨_, rfl⟩ | ⟨b, row, rfl, _⟩⟩ := H
 ·simp [DV.beq, dKu, rE]
 ·simp [DV.beq, dKu, rE]
theorem aUc {ds : List DV} (h1 : ds.length = 4) (h2 : ∀ v ∈ ds, v.one = true) (h : Hp) :
  ∃ g k, cF [(.i .i64 (Int.ofNat 0)), (.i .i64 (Int.ofNat 0)), (.s []), .l0] h = some (.p h.next 0, g) ∧ aI 4 (.p h.next 0) (.a ds) g = some (aR, k) ∧ Lo h.next.toNat h k ∧ h.next.toNat < k.next.toNat ∧ k.bl.get h.next = some (.row .ex ds) := by
 obtain ⟨u0, u1, u2, u3, rfl⟩ : ∃ c0 c1 c2 c3, ds = [c0, c1, c2, c3] := by
  match ds, h1 with
  | [c0, c1, c2, c3], _ => exact ⟨_, _, _, _, rfl⟩
 have ns := dKd h.next
 obtain ⟨g1, hg1⟩ : ∃ g1 : Hp, (⟨h.next.succ, Tr.set (.row .ex [.i .i64 (Int.ofNat 0), .i .i64 (Int.ofNat 0), .s [], .l0]) h.next h.bl⟩ : Hp) = g1 := ⟨_, rfl⟩
 have T1 : T4 g1 h.next (.i .i64 (Int.ofNat 0)) (.i .i64 (Int.ofNat 0)) (.s []) .l0 := by rw [← hg1]; exact dKc _ _ _
 have eS := T1.sa (d0 := u0) (d1 := u1) (d2 := u2) (d3 := u3) rfl rfl rfl rfl (h2 u0 (by simp)) (h2 u1 (by simp)) (h2 u2 (by simp)) (h2 u3 (by simp))
 refine ⟨g1, _, by rw [← hg1]; rfl, eS, ⟨?_, fun p hp => ?_⟩, ?_, fL _⟩
 ·show _ ≤ g1.next.toNat
  rw [← hg1]
  show _ ≤ h.next.succ.toNat
  omega
 ·rw [kB (fun e => by subst e; omega), ← hg1]
  exact dKb _ _ _ _ (fun e => by subst e; omega)
 ·show _ < g1.next.toNat
  rw [← hg1]
  show _ < h.next.succ.toNat
  omega
theorem xA {h : Hp} {b : Pos} {ds : List DV} (hb : h.bl.get b = some (.row .ex ds)) (h1 : ds.length = 4) (h2 : ∀ v ∈ ds, v.one = true) : aN 4 (.p b 0) h = some (.a ds, h) := by
 have : gJ 4 ds = some ds := by have := kC (r := []) h1 h2; rwa [List.append_nil] at this
 simp only [aN, cellsAt, rowOf, hb, List.drop_zero, this]
theorem bCu {bl : Tr Ob} (ds : List DV) : ∃ h1, cB (.a ds) ⟨pK 1023, bl⟩ = some (.p (pK 1023) 0, h1) ∧ dB 8 [] h1 = some (.p (aM 7) 0, zL h1) ∧ Wv 40000 (zL h1) MN RN esN ∧ Up ⟨pK 1023, bl⟩ (zL h1) ∧ (zL h1).bl.get (pK 1023) = some (.row .ex ds) := by
 obtain ⟨h1, hh1⟩ : ∃ h1 : Hp, (⟨aM 1, Tr.set (.row .ex ds) (pK 1023) bl⟩ : Hp) = h1 := ⟨_, rfl⟩
 have e : cB (.a ds) ⟨pK 1023, bl⟩ = some (.p (pK 1023) 0, h1) := by
  rw [← hh1, ← cPf]
  rfl
 have hn : lW h1.next (aM 1) = true := by rw [← hh1]; kernel_rfl
 refine ⟨h1, e, nE h1 hn, WvN h1, ⟨?_, fun b _ hb => ?_⟩, ?_⟩
 ·have := (WvN h1).K.W.nx
  show (pK 1023).toNat ≤ _
  rw [aAh]
  omega
 ·have hb : b.toNat < (pK 1023).toNat := hb
  rw [aAh] at hb
  have ne : b ≠ pK 1023 := fun e => by rw [e, aAh] at hb; omega
  rw [aNv h1 b (by omega), ← hh1]
  show (Tr.set (.row .ex ds) (pK 1023) bl).get b = bl.get b
  exact dKb _ _ _ _ ne
 ·rw [aNv h1 _ (by rw [aAh]; omega), ← hh1]
  show (Tr.set (.row .ex ds) (pK 1023) bl).get (pK 1023) = _
  exact dKc _ _ _
theorem bEn {bl : Tr Ob} {ds : List DV} {t : Th} {left' : Int} (F : FitR ⟨pK 1023, bl⟩ 5 ds 100 t left') (o1 : ds.length = 4) (o2 : ∀ v ∈ ds, v.one = true) (ok : t.ok) (h0 : 0 ≤ left') (hsz : left' + t.sz = 100) :
  ∃ k, aE CF dB 900 3 [.a ds] ⟨pK 1023, bl⟩ = some (.b true, k) := by
 obtain ⟨h1, e1, e2, V, U, hrow⟩ := bCu (bl := bl) ds
 generalize zL h1 = g at e2 V U hrow
 have nx := V.K.W.nx
 have eL := xA hrow o1 o2
 obtain ⟨ds', g2, e3, T, L⟩ := aXl 5 (by omega) ds 100 t left' g (FitR.up U 5 _ _ _ _ F) (by omega) (by omega) nx 895 (by omega)
 obtain ⟨sh1, sh2⟩ := T.shape
 obtain ⟨g3, g4, e4, e5, L4, n4, r4⟩ := aUc sh1 sh2 g2
 have hg2 := L.next
 have hg4 := L4.next
 have eL4 := xA r4 sh1 sh2
 have V4 : Wv 40000 g4 MN RN esN := V.lower (by omega) fun p hp => (L4.get p (by omega)).trans (L.get p (by omega))
 have T4' := TV.up L4.up _ _ T
 have szb : t.sz ≤ 100 := by omega
 obtain ⟨v, h5, M1, R1, es1, e6, V5, U5, S5, K5⟩ := qZ t.sz t (Nat.le_refl _) _ _ g4 MN RN esN 14000 ok T4' (V4.less (by omega)) (900 - t.sz) (by omega)
 rw [show 900 - t.sz + t.sz = 900 by omega] at e6
 obtain ⟨h6, e7, V6, U6⟩ := mC V5 (NmsN.stay S5 V4.I V4.K.G) ok K5 (n := 887) (by omega)
 have hb1 : g2.next.toNat < 1024 ∨ 1029 ≤ g2.next.toNat := .inr (by omega)
 have eL5 := xA (by rw [U5.get _ hb1 n4]; exact r4) sh1 sh2
 have eL6 := xA (by rw [(U5.trans U6).get _ hb1 n4]; exact r4) sh1 sh2
 obtain ⟨h7, e8, U7⟩ := aJm ok (TV.up (U5.trans U6) _ _ T4') V6.K.W.nx (n := 895) (by omega)
 have e9 : ∀ h, dB 9 [.a ds, iD (Int.ofNat 5), iD 100] h = cK (895 + 5) 9 [.a ds, iD (Int.ofNat 5), iD 100] h := fun h => bDq _ _
 have e11 : ∀ h, dB 11 [.p (aM 7) 0, .a ds'] h = cK 900 11 [.p (aM 7) 0, .a ds'] h := fun h => aEr _ _
 have e10 : ∀ h, dB 10 [.p (aM 7) 0, iD v] h = cK (887 + 13) 10 [.p (aM 7) 0, iD v] h := fun h => rC _ _
 have e12 : ∀ h, dB 12 [.a ds'] h = cK (895 + 5) 12 [.a ds'] h := fun h => aRp _ _
 have lv := rG
 have hq : (rfT bS 3 t).take 1000 = (lA bS 3 t).take 1000 := (pV bS 3 t).take.symm
 rw [hq] at e8
 generalize (lA bS 3 t).take 1000 = A at e7 e8
 have eqr : oU A A = true := rE _
 have sm : ∀ g : Hp, bQ (some (.a ds', g)) (.a ds') = true := fun g => T.beq
 have o100 : (Int.ofNat 100) = (100 : Int) := rfl
 refine ⟨h7, ?_⟩
 rw [dEj]
 unfold s3
 simp only [iD] at e3 e6 e7 e8 e9 e10 e11 e12
 simp only [g0, e1, aL, e2, pE0, aV, eL, o100, e9, e3, sV, sA, e4, e5, eL4, e11, e6, e10, e7, eL6, eL5, sm, Bool.and_self, Bool.and_true]
 show cnd true _ = _
 simp only [cnd, e12, e8, aL, oB, eqr, fT, lv, bL]
end Go.Dd

namespace Go.Dd
open Go.Proofs
def dZ {α : Type} (f : α → List Nat) : Nat → List Nat → List α → List Nat
 | _, s, [] => s
 | i, s, k :: ks => dZ f (i + 1) ((if i = 0 then s else s ++ [32]) ++ f k) ks
theorem aCa {α : Type} (f : α → List Nat) : ∀ (ks : List α) (i : Nat) (s : List Nat), s.length ≤ (dZ f i s ks).length
 | [], i, s => Nat.le_refl _
 | k :: ks, i, s => by
  have h1 := aCa f ks (i + 1) ((if i = 0 then s else s ++ [32]) ++ f k)
  have h2 : s.length ≤ (if i = 0 then s else s ++ [32]).length := by
   by_cases c : i = 0
   ·rw [if_pos c]; exact Nat.le_refl _
   ·rw [if_neg c]; simp
  unfold dZ
  rw [List.length_append] at h1
  omega
theorem zZ {α : Type} (f : α → List Nat) : ∀ (ks : List α) (i : Nat) (s : List Nat) (k : α), dZ f i s (ks ++ [k]) = (if i + ks.length = 0 then dZ f i s ks else dZ f i s ks ++ [32]) ++ f k
 | [], i, s, k => by simp [dZ]
 | a :: ks, i, s, k => by
  rw [List.cons_append]
  unfold dZ
  rw [zZ f ks (i + 1) _ k, if_neg (by omega), if_neg (show ¬ (i + (a :: ks).length = 0) by rw [List.length_cons]; omega)]
theorem aMl {α : Type} (f : α → List Nat) : ∀ (ks : List α) (i : Nat) (s : List Nat), i + ks.length ≤ 20 → (dZ f i s ks).length ≤ 990 → rM f i s ks = dZ f i s ks ++ [41]
 | [], i, s, _, _ => rfl
 | k :: ks, i, s, hi, hl => by
  rw [aMo]
  have h0 := aCa f ks (i + 1) ((if i = 0 then s else s ++ [32]) ++ f k)
  unfold dZ at hl ⊢
  rw [List.length_append] at h0
  simp only [List.length_cons] at hi
  rw [if_neg (by omega)]
  exact aMl f ks (i + 1) _ (by omega) hl
def aMz (h : Hp) (s : DV) (len : Nat) (cells : List DV) : Prop := SlK h s len cells ∧ ∀ i, i < 10 → i < len → ∃ c t left', gJ 4 (cells.drop (i * 4)) = some c ∧ FitR h 0 c 10 t left' ∧ t.ok
theorem dHy {h : Hp} {c : List DV} {t : Th} {left' : Int} (F : FitR h 0 c 10 t left') : ∃ k n tx, t = .mk k n tx [] ∧ k ≠ 3 := by
 unfold FitR at F
 obtain ⟨k, n, tx, s, len, cells, _, _, _, _, _, _, rfl, _⟩ := F
 refine ⟨_, _, _, rfl, ?_⟩
 unfold bV
 split <;> omega
theorem aZq {t : Th} (ok : t.ok) (hf : ∃ k n tx, t = .mk k n tx [] ∧ k ≠ 3) : (lA bS 3 t).take 1000 = lA bS 2 t ∧ (lA bS 2 t).length ≤ 700 := by
 obtain ⟨k, n, tx, rfl, hk⟩ := hf
 unfold Th.ok at ok
 have h := aDn (k := k) (n := n) ok.2.2.2.1
 have e : ∀ d, lA bS d (.mk k n tx []) = lkA bS k n tx := fun d => by
  cases d with
  | zero => unfold lA; rw [if_neg hk]
  | succ d => unfold lA; rw [if_neg hk]
 rw [e, e]
 exact ⟨List.take_of_length_le (by omega), h⟩
theorem bBn {h : Hp} {M : MemV} {R : List Int} {es : List (DV × DV)} {x5 : DV} {ts : List Th} {l : List Int} (V : Wv (260 + 1000) h M R es) (N : Nms 8714 8770 M R) (S : SlI x5 l h) (A : LkA M R ts l) (hts : ts.length ≤ 10) (okt : okL ts) :
  ∃ k, eA dB 900 (.p (aM 7) 0) (.s (dZ (lA bS 2) 0 [40] ts)) x5 h = some (.b true, k) := by
 have h4 := V.n
 have h5 := V.fin
 have h6 := V.md
 obtain ⟨a1, a2⟩ := A.len
 obtain ⟨a, e, h', M', e1, K', U, B⟩ := V.K.array S (by omega) (by omega) (by omega) (n := 896) (by omega)
 rcases B with ⟨q, _⟩ | ⟨_, rfl, rfl, g⟩
 ·exact absurd ⟨by omega, a2⟩ q
 have S' : Stay 260 M M' R R es es := (g.stay V.K.G R es fun CL I => I.newK (i := 9) (.inl ⟨rfl, rfl⟩) (by omega) (fun q => by cases q)).mono (by omega)
 have V' : Wv 1000 h' M' R es := V.stay K' U S'
 have ha := g.newAt V.K.G
 have h0 := V.K.G.lo
 have ha0 : bM (.ofNat (M.fin * 2)) M'.pl ≠ 0 := by rw [ha]; omega
 have hh := g.newHead V.K.G
 have L : uE M' R (.mk 3 0 [] ts) (.ofNat (M.fin * 2)) := by
  unfold uE Lk
  refine ⟨iP ha0, .inr (.inr (.inr (.inl ⟨rfl, ha0, by unfold cW; rw [ha, g.cl], by rw [hh]; omega, ?_⟩)))⟩
  refine dLg 0 (LkA.stay S' V.I V.K.G ts l A) fun j v hv => ?_
  rw [Nat.zero_add, g.newGet V.K.G (by omega)]
  simp [hv]
 have ok : (Th.mk 3 0 [] ts).ok := by
  unfold Th.ok
  exact ⟨by omega, by omega, fun q => by omega, by simp, fun q => by omega, fun q => by omega, by omega, by simp, okt⟩
 obtain ⟨h2, e2, V2, U2⟩ := mC V' (N.stay S' V.I V.K.G) ok L (n := 887) (by omega)
 have el : lA bS 3 (.mk 3 0 [] ts) = rM (lA bS 2) 0 [40] ts := by
  show (if (3 : Int) = 3 then rM (lA bS 2) 0 [40] ts else lkA bS 3 0 []) = _
  rw [if_pos rfl]
 rw [el] at e2
 have e16 : dB 16 [.p (aM 7) 0, x5] h = cK (896 + 4) 16 [.p (aM 7) 0, x5] h := bWl _ _
 have e10 : ∀ h, dB 10 [.p (aM 7) 0, .i .i64 (.ofNat (M.fin * 2))] h = cK (887 + 13) 10 [.p (aM 7) 0, .i .i64 (.ofNat (M.fin * 2))] h := fun h => rC _ _
 have lv := rG
 have z0 : ((0 : Int) != Int.ofNat 0) = false := rfl
 have z1 : ((0 : Int) == Int.ofNat 0) = true := rfl
 simp only [iD] at e1 e2
 unfold eA
 by_cases c : ((dZ (lA bS 2) 0 [40] ts).length : Int) > Int.ofNat 990
 ·refine ⟨h', ?_⟩
  simp only [e16, e1, aL, sV, sA, jJ, z0, fX, rT, cM, decide_eq_true c, bN, aZ, bI, z1, fT, lv, bL]
 ·have hl : (dZ (lA bS 2) 0 [40] ts).length ≤ 990 := by simp at c; omega
  rw [aMl (lA bS 2) ts 0 [40] (by omega) hl, List.take_of_length_le (by simp; omega)] at e2
  refine ⟨h2, ?_⟩
  have eqr : oU (dZ (lA bS 2) 0 [40] ts ++ [41]) (dZ (lA bS 2) 0 [40] ts ++ [41]) = true := rE _
  simp only [e16, e1, aL, sV, sA, jJ, z0, fX, rT, cM, decide_eq_false c, bN, aV, e10, e2, jR (dZ (lA bS 2) 0 [40] ts) [41] h2 (by simp; omega), oB, eqr, fT, lv, bL]
theorem aIy : ∀ {ts : List Th} {t : Th}, okL ts → t.ok → okL (ts ++ [t])
 | [], t, _, h => ⟨h, trivial⟩
 | a :: ts, t, H, h => ⟨H.1, aIy H.2 h⟩
theorem aRn {h0 : Hp} (h31 : 1031 ≤ h0.next.toNat) {x0 : DV} {len : Nat} {cells : List DV} (P : aMz h0 x0 len cells) (hlen : len ≤ 9223372036854775807) :
  ∀ (r i m : Nat) (h : Hp) (M : MemV) (R : List Int) (es : List (DV × DV)) (x5 : DV) (l : List Int) (ts : List Th), i + r = 10 → r < m → Up h0 h → h0.next.toNat ≤ h.next.toNat → Wv (260 * r + 2000) h M R es → Nms 8714 8770 M R → GrS x5 (l.map iD) h0.next.toNat h → LkA M R ts l → ts.length = i → okL ts → (dZ (lA bS 2) 0 [40] ts).length ≤ 1 + 701 * i →
   ∃ k, tK dB 900 m x0 (.p (aM 7) 0) (.s (dZ (lA bS 2) 0 [40] ts)) x5 (.i .i64 (Int.ofNat i)) h = some (.b true, k) := by
 have stop : ∀ (i m : Nat) (h : Hp) (M : MemV) (R : List Int) (es : List (DV × DV)) (x5 : DV) (l : List Int) (ts : List Th), ¬ (i < len ∧ i < 10) → Wv 2000 h M R es → Nms 8714 8770 M R → GrS x5 (l.map iD) h0.next.toNat h → LkA M R ts l → ts.length = i → i ≤ 10 → okL ts →
   ∃ k, tK dB 900 (m + 1) x0 (.p (aM 7) 0) (.s (dZ (lA bS 2) 0 [40] ts)) x5 (.i .i64 (Int.ofNat i)) h = some (.b true, k) := by
  intro i m h M R es x5 l ts hq V N S A hi hi10 okt
  obtain ⟨k, hk⟩ := bBn (V.less (by omega)) N (bQy h31 S) A (by omega) okt
  refine ⟨k, ?_⟩
  have sl := P.1.len h
  show aCc dB 900 (tK dB 900 m) _ _ _ _ _ h = _
  unfold aCc
  simp only [iD] at sl
  simp only [sl, aL, bJ]
  by_cases c1 : i < len
  ·have d1 : decide (Int.ofNat i < (len : Int)) = true := decide_eq_true (by simpa using c1)
   have d2 : decide (Int.ofNat i < Int.ofNat 10) = false := decide_eq_false (by simp; omega)
   simp only [d1, fT, aL, bJ, d2, bL, aV]
   exact hk
  ·have d1 : decide (Int.ofNat i < (len : Int)) = false := decide_eq_false (by simpa using c1)
   simp only [d1, gM, jK, bN, aL, aV]
   exact hk
 intro r
 induction r with
 | zero =>
  intro i m h M R es x5 l ts he hm U hn V N S A hi okt hw
  obtain ⟨m, rfl⟩ : ∃ m', m = m' + 1 := ⟨m - 1, by omega⟩
  exact stop i m h M R es x5 l ts (by omega) (V.less (by omega)) N S A hi (by omega) okt
 | succ r ih =>
  intro i m h M R es x5 l ts he hm U hn V N S A hi okt hw
  obtain ⟨m, rfl⟩ : ∃ m', m = m' + 1 := ⟨m - 1, by omega⟩
  by_cases c1 : i < len
  case neg => exact stop i m h M R es x5 l ts (fun q => c1 q.1) (V.less (by omega)) N S A hi (by omega) okt
  have c2 : i < 10 := by omega
  obtain ⟨c, t, left', q1, F, ok⟩ := P.2 i c2 c1
  have hflat := dHy F
  have hsz : t.sz = 1 := by obtain ⟨k, n, tx, rfl, _⟩ := hflat; simp [Th.sz, oW]
  obtain ⟨b, o, ei, el⟩ := P.1.ix c1 q1
  have nxh := V.K.W.nx
  obtain ⟨ds', g2, e3, T, L⟩ := aXl 0 (by omega) c 10 t left' h (FitR.up U 0 _ _ _ _ F) (by omega) (by omega) nxh 900 (by omega)
  obtain ⟨sh1, sh2⟩ := T.shape
  obtain ⟨g3, g4, e4, e5, L4, n4, r4⟩ := aUc sh1 sh2 g2
  have hg2 := L.next
  have hg4 := L4.next
  have eL4 := xA r4 sh1 sh2
  have U4 : Up h g4 := L.up.trans L4.up
  have V4 : Wv (260 * (r + 1) + 2000) g4 M R es := V.lower (by omega) fun p hp => (L4.get p (by omega)).trans (L.get p (by omega))
  obtain ⟨v, h5, M1, R1, es1, e6, V5, U5, S5, K5⟩ := qZ t.sz t (Nat.le_refl _) _ _ g4 M R es (260 * r + 2000) ok (TV.up L4.up _ _ T) (V4.less (by rw [hsz]; omega)) (900 - t.sz) (by rw [hsz]; omega)
  rw [show 900 - t.sz + t.sz = 900 by rw [hsz]] at e6
  have N5 := N.stay S5 V4.I V4.K.G
  obtain ⟨h6, e7, V6, U6⟩ := mC V5 N5 ok K5 (n := 887) (by omega)
  obtain ⟨fl1, fl2⟩ := aZq ok hflat
  rw [fl1] at e7
  have G6 : GrS x5 (l.map iD) h0.next.toNat h6 := by
   have U46 := U4.trans (U5.trans U6)
   rcases S with S | ⟨b6, s1, s2, s3, s4⟩
   ·exact .inl S
   ·exact .inr ⟨b6, s1, by rw [U46.get b6 (.inr (by omega)) s4]; exact s2, s3, Nat.lt_of_lt_of_le s4 U46.next⟩
  have hn6 : h0.next.toNat ≤ h6.next.toNat := by have := (U4.trans (U5.trans U6)).next; omega
  have l1 := A.len.1
  obtain ⟨y, g7, e8, x', h7, e9, S7, L7⟩ := G6.app hn6 (bNo l) (z := .i .i64 (Int.ofNat 0)) (v := iD v) rfl rfl (bytes := 8) (by simp; unfold jU; omega)
  have hn7 := L7.next
  have V7 : Wv (260 * r + 2000) h7 M1 R1 es1 := V6.lower hn7 fun p hp => L7.get p (by omega)
  have U07 : Up h0 h7 := ⟨by omega, fun p hp1 hp2 => (L7.get p hp2).trans ((U.trans (U4.trans (U5.trans U6))).get p hp1 hp2)⟩
  have hw' : dZ (lA bS 2) 0 [40] (ts ++ [t]) = (if i = 0 then dZ (lA bS 2) 0 [40] ts else dZ (lA bS 2) 0 [40] ts ++ [32]) ++ lA bS 2 t := by
   rw [zZ, Nat.zero_add, hi]
  have hwl : (dZ (lA bS 2) 0 [40] (ts ++ [t])).length ≤ 1 + 701 * (i + 1) := by
   rw [hw', List.length_append]
   have : (if i = 0 then dZ (lA bS 2) 0 [40] ts else dZ (lA bS 2) 0 [40] ts ++ [32]).length ≤ 2 + 701 * i := by
    by_cases c : i = 0
    ·rw [if_pos c]; omega
    ·rw [if_neg c, List.length_append, List.length_singleton]; omega
   omega
  obtain ⟨k, hk⟩ := ih (i + 1) m h7 M1 R1 es1 x' (l ++ [v]) (ts ++ [t]) (by omega) (by omega) U07 (by omega) V7 N5 (by rw [List.map_append]; exact S7) (dLn (LkA.stay S5 V4.I V4.K.G ts l A) K5) (by rw [List.length_append, hi]; rfl) (aIy okt ok) hwl
  rw [hw'] at hk
  refine ⟨k, ?_⟩
  have sl := P.1.len h
  have d1 : decide (Int.ofNat i < (len : Int)) = true := decide_eq_true (by simpa using c1)
  have d2 : decide (Int.ofNat i < Int.ofNat 10) = true := decide_eq_true (by simp; omega)
  have r9 : ∀ h, dB 9 [.a c, iD (Int.ofNat 0), iD 10] h = cK (900 + 0) 9 [.a c, iD (Int.ofNat 0), iD 10] h := fun h => bDq _ _
  have e11 : ∀ h, dB 11 [.p (aM 7) 0, .a ds'] h = cK 900 11 [.p (aM 7) 0, .a ds'] h := fun h => aEr _ _
  have e10 : ∀ h, dB 10 [.p (aM 7) 0, iD v] h = cK (887 + 13) 10 [.p (aM 7) 0, iD v] h := fun h => rC _ _
  have o10 : (Int.ofNat 10) = (10 : Int) := rfl
  have o10' : ∀ h, dB 9 [.a c, .i .i64 (Int.ofNat 0), .i .i64 (Int.ofNat 10)] h = dB 9 [.a c, iD (Int.ofNat 0), iD 10] h := fun h => rfl
  show aCc dB 900 (tK dB 900 m) _ _ _ _ _ h = _
  unfold aCc bKy aBa aWn aBj eO
  have el' := el h U
  simp only [iD] at sl e3 e6 e7 e8 e9 e10 e11 r9 o10'
  simp only [sl, aL, bJ, d1, fT, d2, bL, aZ, ei, el', o10', r9, e3, sV, sA, e4, e5, eL4, e11, e6, cM]
  by_cases c0 : i = 0
  ·have d0 : decide (Int.ofNat i > Int.ofNat 0) = false := decide_eq_false (by simp; omega)
   rw [if_pos c0] at hk
   simp only [d0, aV, e10, e7, aL, jR (dZ (lA bS 2) 0 [40] ts) (lA bS 2 t) h6 (by omega), e8, e9, cY i 1 h7 (by omega)]
   exact hk
  ·have d0 : decide (Int.ofNat i > Int.ofNat 0) = true := decide_eq_true (by simp; omega)
   rw [if_neg c0] at hk
   simp only [d0, aZ, jR (dZ (lA bS 2) 0 [40] ts) [32] h5 (by simp; omega), e10, e7, aL, jR (dZ (lA bS 2) 0 [40] ts ++ [32]) (lA bS 2 t) h6 (by simp; omega), e8, e9, cY i 1 h7 (by omega)]
   exact hk
theorem aKf {bl : Tr Ob} {x0 : DV} {len : Nat} {cells : List DV} (P : aMz ⟨aM 1, bl⟩ x0 len cells) (hlen : len ≤ 9223372036854775807) (hlow : ∀ b o, bl.get b = some o → b.toNat < 1024) :
  ∃ k, aE CF dB 900 7 [x0] ⟨aM 1, bl⟩ = some (.b true, k) := by
 have hw : dB 8 [] ⟨aM 1, bl⟩ = some (.p (aM 7) 0, zL ⟨aM 1, bl⟩) := nE _ (by kernel_rfl)
 have V := WvN ⟨aM 1, bl⟩
 have nx := V.K.W.nx
 have low : ∀ b : Pos, b.toNat < 1024 → (zL ⟨aM 1, bl⟩).bl.get b = bl.get b := fun b hb => aNv _ b hb
 generalize zL ⟨aM 1, bl⟩ = h0 at hw V nx low
 have mv : ∀ b l, Qr ⟨aM 1, bl⟩ b l → Qr h0 b l := fun b l q => by
  obtain ⟨⟨kd, q1⟩, q2, q3⟩ := q
  have hb := hlow b _ q1
  exact ⟨⟨kd, by rw [low b hb]; exact q1⟩, .inl hb, by omega⟩
 have mvS : ∀ s n c, SlK ⟨aM 1, bl⟩ s n c → SlK h0 s n c := fun s n c q => by
  rcases q with q | ⟨b, cap, e, q⟩
  ·exact .inl q
  ·exact .inr ⟨b, cap, e, mv _ _ q⟩
 have P0 : aMz h0 x0 len cells := by
  refine ⟨mvS _ _ _ P.1, fun i h1 h2 => ?_⟩
  obtain ⟨c, t, left', q1, F, ok⟩ := P.2 i h1 h2
  refine ⟨c, t, left', q1, ?_, ok⟩
  unfold FitR at F ⊢
  obtain ⟨k, n, tx, s, len, cells, a, b, c, e, f, r⟩ := F
  exact ⟨k, n, tx, s, len, cells, a, b, c, e, mvS _ _ _ f, r⟩
 obtain ⟨k, hk⟩ := aRn nx P0 hlen 10 0 900 h0 MN RN esN .l0 [] [] (by omega) (by omega) (Up.refl _) (Nat.le_refl _) (V.less (by omega)) NmsN (.inl ⟨rfl, rfl⟩) trivial rfl trivial (by simp [dZ])
 refine ⟨k, ?_⟩
 rw [dBa]
 unfold s7 cDl bXh bXf bXn bTs cFi cUz
 simp only [g0, hw, aL, pE0, aV]
 exact hk
end Go.Dd

namespace Go.Dd
open Go.Proofs Go.RowKit
theorem aKg : laidOutB Tryz.prog = true := by kernel_rfl
theorem Up.skip {p r : Pos} {bl : Tr Ob} (h : p.toNat ≤ r.toNat) : Up ⟨p, bl⟩ ⟨r, bl⟩ := ⟨h, fun _ _ _ => rfl⟩
section
variable {H : Type} {enc : TypeId × Value → H} {w : World}
theorem bAo (F : Facts w) {n : Nat} {cs : Array Value} {x : DataW H × List MemPlace} (hx : DataW.trod enc Tryz.prog w 0 (fun _ => true) true n 24 cs.toList = some x) :
  Calls Tryz.prog 3 #[.agg cs] w fun e w' => e = .returned (.bool true) ∧ Below w.heap.size w w' := by
 obtain ⟨ρ, h', ds, t, left', R, U, E, S, V, Q, ok, l0, lsz, nb⟩ := aJb 5 n cs.toList x hx (Ro.none w .h) 100 (by omega) (by show Pos.h.toNat + _ ≤ 1000; show 1 + 100 ≤ 1000; omega)
 have hn : h'.next.toNat ≤ 1000 := by
  have e1 : (⟨Pos.h, Tr.e⟩ : Hp).next.toNat = 1 := rfl
  omega
 obtain ⟨p, bl⟩ := h'
 have hn : p.toNat ≤ 1000 := hn
 have hp : p.toNat ≤ (pK 1023).toNat := by rw [aAh]; omega
 have Q' := FitR.up (Up.skip (bl := bl) hp) 5 ds 100 t left' Q
 exact rY (bEn Q' S.1 S.2 ok l0 lsz) Tryz.f3 Tryz.func3 (by kernel_rfl) w F (R.skip (pK 1023) hp) _ (.cons _ _ _ _ (.a _ _ V) .nil)
theorem yZ {L : Loc} {len : Nat} (ih : ∀ (c : Nat), c < len → ∃ n x, ∃ cs : List Value, DataW.trod enc Tryz.prog w 0 (fun _ => true) true n 24 cs = some (x : DataW H × List MemPlace) ∧ cs.length = 4 ∧ ∀ j, j < 4 → w.cell? (fH L (c * 4 + j)) = cs[j]?) :
  ∀ (r : Nat), r ≤ 10 → r ≤ len → ∃ (ρ : Ren) (h : Hp) (rows : List DV), Ro w ρ h ∧ h.next.toNat ≤ 1 + 10 * r ∧ rows.length = r * 4 ∧ (∀ p v, rows[p]? = some v → ∃ v', w.cell? (fH L p) = some v' ∧ VR ρ v v') ∧ ∀ i, i < r → ∃ c t left', gJ 4 (rows.drop (i * 4)) = some c ∧ FitR h 0 c 10 t left' ∧ t.ok
 | 0, _, _ => ⟨fun _ => none, ⟨.h, .e⟩, [], Ro.none w .h, by show Pos.h.toNat ≤ _; show 1 ≤ _; omega, rfl, fun p v e => by simp at e, fun i hi => by omega⟩
 | r + 1, hr, hl => by
  obtain ⟨ρ, h, rows, R, hn, hlen, C, P⟩ := yZ ih r (by omega) (by omega)
  obtain ⟨n, x, cs, hx, hcs, hc⟩ := ih r (by omega)
  obtain ⟨ρ', h', ds, t, left', R', U, E, S, V, Q, ok, l0, lsz, nb⟩ := aJb 0 n cs x hx R 10 (by omega) (by omega)
  refine ⟨ρ', h', rows ++ ds, R', by omega, by rw [List.length_append, hlen, S.1]; omega, fun p v e => ?_, fun i hi => ?_⟩
  ·by_cases hp : p < rows.length
   ·rw [List.getElem?_append_left hp] at e
    obtain ⟨v', q1, q2⟩ := C p v e
    exact ⟨v', q1, q2.mono E⟩
   ·rw [List.getElem?_append_right (by omega)] at e
    obtain ⟨v', q1, q2⟩ := VRs.get V _ v e
    have hlt : p - rows.length < 4 := by
     have := (gLt e)
     rw [S.1] at this
     exact this
    refine ⟨v', ?_, q2⟩
    have := hc (p - rows.length) hlt
    rw [show r * 4 + (p - rows.length) = p by omega] at this
    rw [this]
    exact q1
  ·by_cases hir : i < r
   ·obtain ⟨c, t', l', e1, F1, o1⟩ := P i hir
    refine ⟨c, t', l', ?_, FitR.up U 0 _ _ _ _ F1, o1⟩
    rw [List.drop_append_of_le_length (by omega)]
    obtain ⟨s1, s2, s3, s4⟩ := kJ 4 _ c e1
    have hd : ∃ r2, rows.drop (i * 4) = c ++ r2 := ⟨(rows.drop (i * 4)).drop 4, by rw [s3]; exact (List.take_append_drop 4 _).symm⟩
    obtain ⟨r2, hd⟩ := hd
    rw [hd, List.append_assoc]
    exact kC s1 s4
   ·have : i = r := by omega
    subst this
    refine ⟨ds, t, left', ?_, Q, ok⟩
    rw [← hlen, List.drop_left]
    have := kC (r := []) S.1 S.2
    rwa [List.append_nil] at this
theorem bDd (F : Facts w) {n : Nat} {a : Option Addr} {len cap : Nat} {x : DataW H × List MemPlace} (hx : DataW.trod enc Tryz.prog w 0 (fun _ => true) true n 22 [.slice a len cap] = some x) :
  Calls Tryz.prog 7 #[.slice a len cap] w fun e w' => e = .returned (.bool true) ∧ Below w.heap.size w w' := by
 rcases DataW.trod_slice Tryz.underlying22 hx with ⟨e5, _⟩ | ⟨a', len', cap', elems, rest, m', em, e5, _, _, q4, q5, q6, q7, _⟩
 ·cases e5
  refine rY (aKf (bl := .e) (x0 := .l0) (len := 0) (cells := []) ⟨.inl ⟨.inl rfl, rfl⟩, fun i _ h => by omega⟩ (by omega) (fun b o e => by cases b <;> cases e)) Tryz.f7 Tryz.func7 (by kernel_rfl) w F (Ro.none w _) _ (.cons _ _ _ _ .l0 .nil)
 ·cases e5
  rw [aEu] at q7
  let L : Loc := ⟨a'.block, a'.off, 0, a'.spot⟩
  have ha : a' = fH L 0 := rfl
  obtain ⟨ρ, h, rows, R, hn, hlen, C, P⟩ := yZ (enc := enc) (w := w) (L := L) (len := len) (fun c hc => by
   have e := q7 c hc
   rw [show elems[c]? = some (elems[c]'(by omega)) by simp] at e
   simp only [Option.bind_eq_some_iff] at e
   obtain ⟨cs, e1, e2⟩ := e
   obtain ⟨c1, c2⟩ := aBl e1
   refine ⟨m', _, cs, e2, c1, fun j hj => ?_⟩
   have := c2 j hj
   rw [ha, eT, eT] at this
   rwa [show 0 + c * 4 + j = c * 4 + j by omega] at this) (min 10 len) (by omega) (by omega)
  obtain ⟨R', E'⟩ := R.add L rows rfl C
  obtain ⟨U', Q'⟩ := R.addUp rows (by omega)
  have ns := dKd h.next
  have hp1 : (aM 1).toNat = 1024 := by kernel_rfl
  obtain ⟨h2, hh2⟩ : ∃ h2 : Hp, (⟨h.next.succ, Tr.set (.row .ro rows) h.next h.bl⟩ : Hp) = h2 := ⟨_, rfl⟩
  have n2 : h2.next = h.next.succ := by rw [← hh2]
  rw [hh2] at R' U' Q'
  have hlow : ∀ b o, h2.bl.get b = some o → b.toNat < 1024 := fun b o e => by
   obtain ⟨L', hL'⟩ := R'.dom b o e
   have := R'.lt b L' hL'
   rw [n2] at this
   omega
  obtain ⟨p2, bl⟩ := h2
  have hp2 : p2.toNat ≤ (aM 1).toNat := by have : p2 = h.next.succ := n2; rw [this]; omega
  have Us := Up.skip (bl := bl) hp2
  have hmx : maxLen = 9223372036854775807 := by rfl
  have hle : len ≤ 9223372036854775807 := by omega
  refine rY (aKf (bl := bl) (x0 := .l h.next 0 len cap) (len := len) (cells := rows) ⟨.inr ⟨h.next, cap, rfl, Q'.up Us⟩, fun i h1 h2 => ?_⟩ hle hlow) Tryz.f7 Tryz.func7 (by kernel_rfl) w F (R'.skip (aM 1) hp2) _ (.cons _ _ _ _ (.l h.next 0 len cap L (bR _ _ _)) .nil)
  obtain ⟨c, t, l', e1, F1, o1⟩ := P i (by omega)
  exact ⟨c, t, l', e1, FitR.up (U'.trans Us) 0 _ _ _ _ F1, o1⟩
end
end Go.Dd

