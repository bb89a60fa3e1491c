/- A part of the proof: P6 P7 P8 P9 P10 P11 P12 P13 P14 P15 P16 Z2 B1 B2 B3 Y1 Y2 Y3 Y4 B4 B5 Z5 B6 P17 P18 P19 RW P26 P21: each text has a comment of its own. -/
import Derived.Test.YtliejomdaookoaaGreatDoorSm3
import Derived.Test.YtliejomdaookoaaGreatDoorRows
import Derived.Test.YtliejomdaookoaaGreatDoorCards
import Derived.Test.YtliejomdaookoaaGreatDoorTie
import Derived.WalkKit
import Derived.ProofKit
import Derived.OpenShut
import Derived.Carry
import Derived.Lib.LaidU8
import Derived.Lay
import Derived.LaidOnce
import Derived.SevenTiedAt
import Derived.ChangeMaps5
set_option linter.unusedVariables false
set_option linter.unusedSimpArgs false
set_option linter.constructorNameAsVariable false
set_option maxRecDepth 100000
namespace Go.Dd
open Go.Proofs
theorem cQs (n : Nat) (x : DV) (h : Hp) : aI (n + 1) 21 [x] h = s21 (aI n) n x h := by kernel_rfl
def fT (ks : List Node) : List (List Nat) := ks.map fun x => (nf x).tx
section
variable {I : Im} {A Q L : Ls} {h : Hp} {k m : Int} {t : List Nat} {ns ts : List (List Nat)} {ks : List Node} {cs : List DV}
theorem aDt (S : Sy I A Q L h) (N : NV I (.mk k t m ns ts ks) cs) (T : ∀ x ∈ ks, oS x) (hl : (cH ts (fT ks)).length ≤ 100000000000) :
 Ev (fun n => aI n 21 [.a cs] h) (fun v h' => v = .s (cH ts (fT ks)) ∧ Sy I A Q L h') := by
 refine Ev.enter (fun n => cQs n _ h) ?_
 unfold s21 cZq cWn
 obtain ⟨s1, s2, s3, rfl, a, b, c, cells, F, NL⟩ := N
 have N3 : NS I s3 ks := ⟨c, cells, F, NL⟩
 have o1 := a.2.one
 have o2 := b.2.one
 have o3 := F.one
 refine Ev.box S rfl ?_
 intro b1 h1 S1
 have eb : cH ts (fT ks) = (if ts.length = 0 then [] else 124 :: 32 :: (aK [32] ts ++ [32, 124, 32])) ++ aK [46, 32] (fT ks) := rfl
 have fin : ∀ (pre : List Nat) (h : Hp), Sy I A Q ((b1, some (.row .ex [.i .i64 k, .s t, .i .i64 m, s1, s2, s3])) :: L) h → (pre ++ aK [46, 32] (fT ks)).length ≤ 100000000000 →
  Ev (fun n => bAw (aI n) n (.p b1 0) (.s pre) h) (fun v h' => v = .s (pre ++ aK [46, 32] (fT ks)) ∧ Sy I A Q L h') := by
  intro pre h S hl
  unfold bAw
  simp only [List.length_append] at hl
  refine wf ?_; refine wl ?_
  refine eAr (aCy (sep := [46, 32]) S N3 (fun x hx => HowOk.text (T x hx)) (by simp only [fT] at hl; omega)) ?_
  rintro _ h3 ⟨rfl, S3⟩
  refine eBm S3 (cs := [.s pre, .s (aK [46, 32] (fT ks))]) (by simp [cU, cN, fT]) ?_
  intro b2 h4 S4
  refine eAr (eN [pre, aK [46, 32] (fT ks)] S4 (bX) rfl (by simp [aK]; omega) (by simp)) ?_
  rintro _ _ ⟨rfl, rfl⟩
  refine eAs ⟨?_, S4.dropL.dropL⟩
  simp [aK]
 rw [eb] at hl ⊢
 refine wf ?_; refine wl ?_
 refine Ev.op (b.2.len _) ?_
 refine eBj (fun e1 => ?_) (fun e1 => ?_)
 ·have e1' : ¬ ts.length = 0 := by have h0 := e1; simp at h0; intro h9; simp [h9] at h0
  rw [if_neg e1'] at hl ⊢
  have hl2 : (aK [32] ts).length ≤ 100000000000 := by simp at hl; omega
  refine yt (wf ?_); refine wl ?_
  refine Ev.op (SS.join b S1 hl2) ?_
  refine eBm S1 (cs := [.s [124, 32], .s (aK [32] ts), .s [32, 124, 32]]) (by simp [cU, cN]) ?_
  intro b2 h4 S4
  refine eAr (eN [[124, 32], aK [32] ts, [32, 124, 32]] S4 (bX) rfl (by simp [aK] at hl ⊢; omega) (by simp)) ?_
  rintro _ _ ⟨rfl, rfl⟩
  have ej : aK [] [[124, 32], aK [32] ts, [32, 124, 32]] = 124 :: 32 :: (aK [32] ts ++ [32, 124, 32]) := by simp [aK]
  rw [ej]
  exact fin _ _ S4.dropL hl
 ·have e1' : ts.length = 0 := by have h0 := e1; simp at h0; simpa using h0
  rw [if_pos e1'] at hl ⊢
  refine yj ?_
  exact fin _ _ S1 hl
end
end Go.Dd

namespace Go.Dd
open Go.Proofs
theorem cVt (n : Nat) (x : DV) (h : Hp) : aI (n + 1) 91 [x] h = s91 (aI n) n x h := by kernel_rfl
theorem cGq (n : Nat) (x : DV) (h : Hp) : aI (n + 1) 62 [x] h = s62 (aI n) n x h := by kernel_rfl
theorem cRr (n : Nat) (x : DV) (h : Hp) : aI (n + 1) 36 [x] h = s36 (aI n) n x h := by kernel_rfl
theorem dMh (rec : FuncId → List DV → Hp → aF) (x : DV) (h : Hp) : eA CF rec (.f 91 [] []) [x] h = rec 91 [x] h := by kernel_rfl
theorem aRi (k m : Int) (t : List Nat) (ns ts : List (List Nat)) (ks : List Node) : (nf (.mk k t m ns ts ks)).ks = cF ks ∧ (nf (.mk k t m ns ts ks)).t = t := by
 simp [nf, yB, cF]
def dL (x : Node) : List Nat := 59 :: 32 :: bE (nf x).t (nf x).ks
theorem dTe {x : Node} (T : ∀ y ∈ x.kids, oS y) (hs : x.text.length ≤ 1000000000) : HowOk (.f 91 [] []) dL x := by
 intro I A Q L h cs S N hl
 have e : (fun n => eA CF (aI n) (.f 91 [] []) [.a cs] h) = fun n => aI n 91 [.a cs] h := funext fun n => dMh _ _ _
 rw [e]
 obtain ⟨k, t, m, ns, ts, ks⟩ := x
 obtain ⟨q1, q2⟩ := aRi k m t ns ts ks
 have ef : dL (.mk k t m ns ts ks) = 59 :: 32 :: bE t (cF ks) := by rw [dL, q1, q2]
 rw [ef] at hl ⊢
 simp only [List.length_cons] at hl
 refine Ev.enter (fun n => cVt n _ h) ?_
 unfold s91
 obtain ⟨s1, s2, s3, rfl, a, b, c, cells, F, NL⟩ := N
 have N3 : NS I s3 ks := ⟨c, cells, F, NL⟩
 have o1 := a.2.one
 have o2 := b.2.one
 have o3 := F.one
 refine Ev.box S rfl ?_
 intro b1 h1 S1
 refine wf ?_; refine wl ?_; refine wf ?_; refine wl ?_
 refine eAr (tV S1 N3 T hs (by omega)) ?_
 rintro _ h3 ⟨rfl, S3⟩
 refine eBm S3 (cs := [.s [59, 32], .s (bE t (cF ks))]) (by simp [cU, cN]) ?_
 intro b2 h4 S4
 refine eAr (eN [[59, 32], bE t (cF ks)] S4 (bX) rfl (by simp [aK]; omega) (by simp)) ?_
 rintro _ _ ⟨rfl, rfl⟩
 refine eAs ⟨?_, S4.dropL.dropL⟩
 simp [aK]
end Go.Dd

namespace Go.Dd
open Go.Proofs
theorem oG {b : Pos} {o j : Nat} {c : List DV} {v : DV} {h : Hp} (e : aD 6 (.p b o) h = some (.a c, h)) (hv : c[j]? = some v) : aB (.p b (o + j)) h = some (v, h) := by
 simp only [aD, eE] at e
 cases hr : mR b h with
 | none => rw [hr] at e; cases e
 | some l =>
  rw [hr] at e
  simp only at e
  cases ht : jY 6 (l.drop o) with
  | none => rw [ht] at e; cases e
  | some cs =>
   rw [ht] at e
   simp only [aZ, bT, DV.a.injEq, and_true] at e
   subst e
   obtain ⟨h1, h2, h3, h4⟩ := tG 6 _ _ ht
   have hj : j < 6 := by
    have := (wV hv)
    omega
   have ev : l[o + j]? = some v := by
    rw [h3] at hv
    rw [List.getElem?_take_of_lt hj, List.getElem?_drop] at hv
    exact hv
   have ho := h4 v (List.mem_of_getElem? hv)
   simp [aB, aOr, hr, ev, ho]
theorem aSx {I : Im} {A Q L : Ls} {h : Hp} {b : Pos} {y : Node} {ca : List DV} {s3 : DV} {ks : List Node} (S : Sy I A Q ((b, some (.row .ex ca)) :: L) h) (Ny : NV I y ca) (N3 : NS I s3 ks) (hl : ks.length + 1 ≤ bG) :
 ∃ x h' J, aY 6 104 (.l b 0 1 1) s3 h = some (x, h') ∧ ILe I J ∧ Sy J A Q L h' ∧ NS J x (y :: ks) := by
 obtain ⟨c1, c2, _⟩ := Ny.shape
 have N3' := N3
 obtain ⟨hk, cells, F, NL⟩ := N3
 by_cases h0 : ks.length = 0
 ·have hks : ks = [] := List.eq_nil_of_length_eq_zero h0
  subst hks
  have hc : cells = [] := NL
  have hs : pA 6 s3 h = some (0, []) := by
   rw [F.src S.dropL, hc]
   rfl
  have hg := S.memL (bX)
  have e : aY 6 104 (.l b 0 1 1) s3 h = some (.l b 0 1 1, ⟨h.next, Tr.set (.row .ex ca) b h.bl⟩) := by
   obtain ⟨k, t, m, ns, ts, ks'⟩ := y
   obtain ⟨s1, s2, s4, rfl, _⟩ := Ny
   unfold aY
   simp only [hs]
   simp [iP, hg, Kind.writable, lG, uN]
  have S2 : Sy I A Q ((b, some (.row .ex ca)) :: L) ⟨h.next, Tr.set (.row .ex ca) b h.bl⟩ := S.setL (Rpl.head _) rfl (fun c => eBp _ _ _ _)
  obtain ⟨J, gJ, S4, F4, _⟩ := Fz.built (sz := 6) (n := 1) S2 (by simpa using c1) c2
  exact ⟨_, _, J, e, gJ, S4, by simp [bG], ca, F4, eBf (Ny.mono gJ)⟩
 ·obtain ⟨J, gJ, S4, F4, G4⟩ := Fz.built (sz := 6) (n := 1) S (by simpa using c1) c2
  obtain ⟨d1, d2⟩ := NL.shape
  have hr : (1 + ks.length) * 104 ≤ fH := by simp [fH, bG] at hl ⊢; omega
  obtain ⟨x5, h5, B5, e5, S5, G5⟩ := G4.app (A0 := A) S4 ((F.mono gJ).src S4) d1 d2 h0 hr
  obtain ⟨K, gK, S6, F6⟩ := G5.freeze S5
  refine ⟨x5, h5, K, e5, gJ.trans gK, S6, by simpa using hl, ca ++ cells, by simpa [aG, Nat.add_comm] using F6, ?_⟩
  exact NVL.app (eBf ((Ny.mono gJ).mono gK)) ((NL.mono gJ).mono gK)
end Go.Dd

namespace Go.Dd
open Go.Proofs
theorem aEc (a b : Node) (r : List Node) : gP (mJ (a :: b :: r)) = dT (nf b).t (cF (a :: b.kids)) ++ aK [] (r.map dL) := by
 obtain ⟨k, t, m, ns, ts, ks⟩ := b
 obtain ⟨q1, q2⟩ := aRi k m t ns ts ks
 have e : ((mJ r).map fun x => 59 :: 32 :: bE x.t x.ks) = r.map dL := by
  rw [yB, List.map_map]
  rfl
 simp only [mJ, gP, e, q1]
 rfl
section
variable {I : Im} {A Q L : Ls} {h : Hp} {s : DV} {ks : List Node}
theorem bLk (S : Sy I A Q L h) (N : NS I s ks) (T : ∀ x ∈ ks, oS x) (K : ∀ x ∈ ks, (∀ y ∈ x.kids, oS y) ∧ x.text.length ≤ 1000000000 ∧ x.kids.length + 1 ≤ bG) (hl : (gP (mJ ks)).length ≤ 100000000000) :
 Ev (fun n => aI n 62 [s] h) (fun v h' => v = .s (gP (mJ ks)) ∧ Sy I A Q L h') := by
 refine Ev.enter (fun n => cGq n _ h) ?_
 unfold s62
 refine Ev.op (N.len _) ?_
 refine eBa (fun e1 => ?_) (fun e1 => ?_)
 ·refine eCb ?_
  refine eAs ⟨?_, S⟩
  match ks, e1 with
  | [], _ => rfl
  | [_], _ => rfl
  | _ :: _ :: _, e1 => simp at e1; omega
 ·match ks, N, T, K, hl, e1 with
  | [], _, _, _, _, e1 => simp at e1
  | [_], _, _, _, _, e1 => simp at e1
  | a :: b :: r, N, T, K, hl, e1 =>
   rw [aEc] at hl ⊢
   simp only [List.length_append] at hl
   refine eBk ?_
   obtain ⟨p0, o0, ca, ei0, Na, el0⟩ := N.at (i := 0) (x := a) rfl
   obtain ⟨p1, o1, cb, ei1, Nb, el1⟩ := N.at (i := 1) (x := b) rfl
   have Sr := S.res
   obtain ⟨c1, c2, _⟩ := Na.shape
   obtain ⟨kb, tb, mb, nsb, tsb, ksb⟩ := b
   obtain ⟨K1, K2, K3⟩ := K (.mk kb tb mb nsb tsb ksb) (by simp)
   obtain ⟨q1, q2⟩ := aRi kb mb tb nsb tsb ksb
   rw [q2] at hl ⊢
   have hl' : (dT tb (cF (a :: ksb))).length + (aK [] (r.map dL)).length ≤ 100000000000 := hl
   obtain ⟨s1, s2, s3, rfl, ya, yb, yc, cells, F, NL⟩ := Nb
   have N3 : NS I s3 ksb := ⟨yc, cells, F, NL⟩
   refine Ev.op (ei0 _) ?_
   refine Ev.op (el0 _ _ _ _ _ (ILe.refl _) Sr) ?_
   refine eBl Sr (Rpl.head _) (fV c1) ?_
   intro h4 S4
   refine Ev.op (ei1 _) ?_
   refine eAy ?_
   refine Ev.op (oG (j := 5) (el1 _ _ _ _ _ (ILe.refl _) S4) rfl) ?_
   refine Ev.cnd ?_ ?_
   ·rw [oG (j := 5) (el1 _ _ _ _ _ (ILe.refl _) Sr) rfl]
    have : DV.beq s3 s3 = true := F.beq
    simp [bM, this]
   obtain ⟨x9, h9, J, e9, g9, S9, N9⟩ := aSx S4 Na N3 K3
   refine Ev.op e9 ?_
   obtain ⟨s', er, N'⟩ := N.restA (i := 2) (by simp) (by simp)
   refine Ev.op (er _ _ _ _ (S9.weak g9)) ?_
   refine eAr (aCy (g := dL) (sep := []) S9 (N'.mono g9) (fun x hx => ?_) (by simpa using (by omega : (aK [] (r.map dL)).length ≤ 100000000000))) ?_
   ·have hx' : x ∈ r := by simpa using hx
    obtain ⟨k1, k2, _⟩ := K x (by simp [hx'])
    exact dTe k1 k2
   rintro _ h11 ⟨rfl, S11⟩
   refine Ev.op (ei1 _) ?_
   refine eAy ?_
   refine Ev.op (oG (j := 1) (el1 _ _ _ _ _ g9 S11) rfl) ?_
   refine eAr (aEj S11 N9 (fun x hx => ?_) K2 (by omega)) ?_
   ·rcases List.mem_cons.1 hx with rfl | hx
    ·exact T _ (by simp)
    ·exact K1 x hx
   rintro _ h15 ⟨rfl, S15⟩
   have ed : (List.drop 2 (a :: Node.mk kb tb mb nsb tsb ksb :: r)) = r := rfl
   rw [ed]
   refine eBm S15 (cs := [.s (dT tb (cF (a :: ksb))), .s (aK [] (r.map dL))]) (by simp [cU, cN]) ?_
   intro b2 h16 S16
   refine eAr (eN [dT tb (cF (a :: ksb)), aK [] (r.map dL)] S16 (bX) rfl (by simp [aK]; omega) (by simp)) ?_
   rintro _ _ ⟨rfl, rfl⟩
   refine eAs ⟨?_, S16.dropL.weak g9⟩
   simp [aK, Node.kids]
end
end Go.Dd

namespace Go.Dd
open Go.Proofs
theorem bEw {m : Int} (h0 : -9223372036854775808 ≤ m) (h1 : m ≤ 9223372036854775807) (h : Hp) : aAk [.i .i64 m] h = some (.s (jT m), h) := by
 show (bif decide (-9223372036854775808 ≤ m) && decide (m ≤ 9223372036854775807) then some (DV.s (jT m), h) else none) = _
 simp [h0, h1]
theorem cKw {t : List Nat} (ht : t.length ≤ 1000000000) (h : Hp) : aEa [.s t, .s [39], .s [39, 39]] h = some (.s (eZ 39 [39, 39] t), h) := by
 have e1 : Nat.ble t.length 4000000000 = true := Nat.ble_eq_true_of_le (by omega)
 show (bif Nat.blt 39 256 then (bif Nat.ble t.length 4000000000 then (bif Nat.ble [39, 39].length 1000 then some (DV.s (eZ 39 [39, 39] t), h) else none) else none) else none) = _
 rw [e1]
 rfl
theorem aNw (ks : List Node) : (mJ ks).map Nf.tx = fT ks ∧ (mJ ks).map Nf.ht = cF ks := by
 rw [yB]
 simp [fT, cF]
end Go.Dd

namespace Go.Dd
open Go.Proofs
section
variable {I : Im} {A Q L : Ls} {s1 y : DV} {ns : List (List Nat)} {P : DV → Hp → Prop}
theorem bIu (N : SS I s1 ns) : ∀ (r : List (List Nat)) (i j : Nat) (h : Hp) (acc : List Nat), ns.drop i = r → Sy I A Q L h → (acc ++ cD r).length ≤ 100000000000 →
 (∀ h, Sy I A Q L h → Ev (fun n => eK (aI n) n y (.s (acc ++ cD r)) h) P) →
 Ev (fun n => kQ (aI n) n (n - j) y (.s acc) s1 (.i .i64 (ns.length : Int)) (.i .i64 (i : Int)) h) P
 | [], i, j, h, acc, hr, S, hl, fin => by
  refine eAw j (ll := fun n m => kQ (aI n) n m y (.s acc) s1 (.i .i64 (ns.length : Int)) (.i .i64 (i : Int)) h) (bb := fun n m => qA (aI n) n (kQ (aI n) n m) y (.s acc) s1 (.i .i64 (ns.length : Int)) (.i .i64 (i : Int)) h) (fun _ _ => rfl) ?_
  unfold qA
  have hle : ns.length ≤ i := List.drop_eq_nil_iff.1 hr
  refine eBa (fun e1 => absurd e1 (by omega)) (fun e1 => ?_)
  refine eBk ?_
  have := fin h S
  simpa [aG, cD] using this
 | p :: r, i, j, h, acc, hr, S, hl, fin => by
  refine eAw j (ll := fun n m => kQ (aI n) n m y (.s acc) s1 (.i .i64 (ns.length : Int)) (.i .i64 (i : Int)) h) (bb := fun n m => qA (aI n) n (kQ (aI n) n m) y (.s acc) s1 (.i .i64 (ns.length : Int)) (.i .i64 (i : Int)) h) (fun _ _ => rfl) ?_
  unfold qA
  have hlim : ns.length ≤ bG := N.1
  have hi' : i < ns.length := by
   rcases Nat.lt_or_ge i ns.length with h | h
   ·exact h
   ·rw [List.drop_eq_nil_of_le h] at hr; cases hr
  have hx : ns[i]? = some p := by
   have : (ns.drop i)[0]? = some p := by rw [hr]; rfl
   simpa [aG] using this
  have hr2 : ns.drop (i + 1) = r := by
   have := jL hx
   rw [hr] at this
   simpa [aG] using this.symm
  refine eBa (fun e1 => ?_) (fun e1 => absurd (show (i : Int) < ns.length by omega) e1)
  refine eCb ?_
  obtain ⟨b, o, ei, el⟩ := N.at S hx
  refine Ev.op (ei _) ?_
  refine Ev.op el ?_
  refine eBm S (cs := [.s acc, .s [58], .s p, .s [32]]) (by simp [cU, cN]) ?_
  intro b1 h7 S7
  have hl' : acc.length + (p.length + (cD r).length) ≤ 100000000000 - 2 := by simp [cD] at hl; omega
  refine eAr (eN [acc, [58], p, [32]] S7 (bX) rfl (by simp [aK]; omega) (by simp)) ?_
  rintro _ _ ⟨rfl, rfl⟩
  have ej : aK [] [acc, [58], p, [32]] = acc ++ (58 :: (p ++ [32])) := by simp [aK]
  rw [ej]
  refine eAx ?_
  rw [gC (by omega)]
  have ea : (acc ++ (58 :: (p ++ [32]))) ++ cD r = acc ++ cD (p :: r) := by simp [cD]
  exact bIu N r (i + 1) (j + 1) _ (acc ++ (58 :: (p ++ [32]))) hr2 S7.dropL (by rw [ea]; exact hl) (fun h S => by rw [ea]; exact fin h S)
end
end Go.Dd

namespace Go.Dd
open Go.Proofs
theorem bJi {k m : Int} {t : List Nat} {ns ts : List (List Nat)} {ks : List Node} (T : ∀ y ∈ ks, oS y) (K : ∀ z ∈ ks, (∀ y ∈ z.kids, oS y) ∧ z.text.length ≤ 1000000000 ∧ z.kids.length + 1 ≤ bG)
 (hs : t.length ≤ 1000000000) (hm0 : -9223372036854775808 ≤ m) (hm1 : m ≤ 9223372036854775807) : oS (.mk k t m ns ts ks) := by
 intro I A Q L h cs S N hl
 have N0 := N
 obtain ⟨etx, eht⟩ := aNw ks
 have ex : (nf (.mk k t m ns ts ks)).tx = aDk k t m ns ts (mJ ks) := by simp [nf]
 rw [ex] at hl ⊢
 refine Ev.enter (fun n => cRr n _ h) ?_
 unfold s36
 obtain ⟨s1, s2, s3, rfl, a, b, c, cells, F, NL⟩ := N
 have N3 : NS I s3 ks := ⟨c, cells, F, NL⟩
 have o1 := a.2.one
 have o2 := b.2.one
 have o3 := F.one
 refine Ev.box S rfl ?_
 intro b1 h1 S1
 unfold bCw
 refine wf ?_; refine wl ?_
 unfold bEb
 unfold aDk at hl ⊢
 refine eAv (fun e1 => ?_) (fun e1 => ?_)
 ·replace e1 : k = 1 := e1
  rw [if_pos e1] at hl ⊢
  unfold aOk
  refine yt (wf ?_); refine wl ?_
  refine Ev.op (bEw hm0 hm1 _) ?_
  exact eAs ⟨rfl, S1.dropL⟩
 replace e1 : ¬ k = 1 := e1
 rw [if_neg e1] at hl ⊢
 unfold aOk bYw
 refine eBk ?_
 refine eAv (fun e2 => ?_) (fun e2 => ?_)
 ·replace e2 : k = 2 := e2
  rw [if_pos e2] at hl ⊢
  unfold aPk
  refine yt (wf ?_); refine wl ?_
  refine Ev.op (cKw hs _) ?_
  refine eBm S1 (cs := [.s [39], .s (eZ 39 [39, 39] t), .s [39]]) (by simp [cU, cN]) ?_
  intro b2 h2 S2
  refine eAr (eN [[39], eZ 39 [39, 39] t, [39]] S2 (bX) rfl (by simp [aK] at hl ⊢; omega) (by simp)) ?_
  rintro _ _ ⟨rfl, rfl⟩
  refine eAs ⟨?_, S2.dropL.dropL⟩
  simp [aK]
 replace e2 : ¬ k = 2 := e2
 rw [if_neg e2] at hl ⊢
 unfold aPk bSr
 refine eBk ?_
 refine eAv (fun e3 => ?_) (fun e3 => ?_)
 ·replace e3 : k = 3 := e3
  rw [if_pos e3] at hl ⊢
  unfold aQu
  refine yt (wf ?_); refine wl ?_
  refine eBm S1 (cs := [.s [35], .s t]) (by simp [cU, cN]) ?_
  intro b2 h2 S2
  refine eAr (eN [[35], t] S2 (bX) rfl (by simp [aK] at hl ⊢; omega) (by simp)) ?_
  rintro _ _ ⟨rfl, rfl⟩
  refine eAs ⟨?_, S2.dropL.dropL⟩
  simp [aK]
 replace e3 : ¬ k = 3 := e3
 rw [if_neg e3] at hl ⊢
 unfold aQu bNw
 refine eBk ?_
 refine eAv (fun e4 => ?_) (fun e4 => ?_)
 ·replace e4 : k = 4 := e4
  rw [if_pos e4, etx] at hl ⊢
  unfold aDj
  refine yt (wf ?_); refine wl ?_
  refine eAr (aCy (sep := [32]) S1 N3 (fun x hx => HowOk.text (T x hx)) (by simp only [fT] at hl; simp at hl ⊢; omega)) ?_
  rintro _ h2 ⟨rfl, S2⟩
  refine eBm S2 (cs := [.s [35, 40], .s (aK [32] (fT ks)), .s [41]]) (by simp [cU, cN, fT]) ?_
  intro b2 h3 S3
  refine eAr (eN [[35, 40], aK [32] (fT ks), [41]] S3 (bX) rfl (by simp [aK] at hl ⊢; omega) (by simp)) ?_
  rintro _ _ ⟨rfl, rfl⟩
  refine eAs ⟨?_, S3.dropL.dropL⟩
  simp [aK]
 replace e4 : ¬ k = 4 := e4
 rw [if_neg e4] at hl ⊢
 unfold aDj aWd
 refine eBk ?_
 refine eAv (fun e5 => ?_) (fun e5 => ?_)
 ·replace e5 : k = 6 := e5
  rw [if_pos e5, etx] at hl ⊢
  unfold aBm
  refine eCb ?_
  have Sr := S1.res
  generalize hh : fP 1 h1 = hr at Sr
  refine eAy ?_
  refine eBc Sr (List.Mem.tail _ (bX)) rfl rfl ?_
  refine eAy ?_
  refine eBc Sr (List.Mem.tail _ (bX)) rfl o3 ?_
  refine eAr (aCy (sep := []) Sr N3 (fun x hx => HowOk.text (T x hx)) (by simp only [fT] at hl; simp at hl ⊢; omega)) ?_
  rintro _ h2 ⟨rfl, S2⟩
  refine Ev.cnd ?_ ?_
  ·rw [Bool.and_true]; exact dQ S2 (List.Mem.tail _ (bX)) rfl rfl (mZ _)
  refine eBl S2 (cs := [.s t, .s [32, 58, 61, 32], .s (aK [] (fT ks))]) (Rpl.head _) (by simp [cU, cN, fT]) ?_
  intro h3 S3
  refine eAr (eN [t, [32, 58, 61, 32], aK [] (fT ks)] S3 (bX) rfl (by simp [aK] at hl ⊢; omega) (by simp)) ?_
  rintro _ _ ⟨rfl, rfl⟩
  refine eAs ⟨?_, S3.dropL.dropL⟩
  simp [aK]
 replace e5 : ¬ k = 6 := e5
 rw [if_neg e5] at hl ⊢
 unfold aBm aWn
 refine eBk ?_
 refine eAv (fun e6 => ?_) (fun e6 => ?_)
 ·replace e6 : k = 10 := e6
  rw [if_pos e6, etx] at hl ⊢
  unfold aBf
  refine yt (wf ?_); refine wl ?_
  refine eAr (aCy (sep := []) S1 N3 (fun x hx => HowOk.text (T x hx)) (by simp only [fT] at hl; simp at hl ⊢; omega)) ?_
  rintro _ h2 ⟨rfl, S2⟩
  refine eBm S2 (cs := [.s [94], .s (aK [] (fT ks))]) (by simp [cU, cN, fT]) ?_
  intro b2 h3 S3
  refine eAr (eN [[94], aK [] (fT ks)] S3 (bX) rfl (by simp [aK] at hl ⊢; omega) (by simp)) ?_
  rintro _ _ ⟨rfl, rfl⟩
  refine eAs ⟨?_, S3.dropL.dropL⟩
  simp [aK]
 replace e6 : ¬ k = 10 := e6
 rw [if_neg e6] at hl ⊢
 unfold aBf aVu
 refine eBk ?_
 refine eAv (fun e7 => ?_) (fun e7 => ?_)
 ·replace e7 : k = 7 := e7
  rw [if_pos e7, eht] at hl ⊢
  unfold yH
  refine yt (wf ?_); refine wl ?_; refine wf ?_; refine wl ?_
  refine eAr (aEj S1 N3 T hs hl) ?_
  rintro _ h2 ⟨rfl, S2⟩
  exact eAs ⟨rfl, S2.dropL⟩
 replace e7 : ¬ k = 7 := e7
 rw [if_neg e7] at hl ⊢
 unfold yH aVi
 refine eBk ?_
 refine eAv (fun e8 => ?_) (fun e8 => ?_)
 ·replace e8 : k = 8 := e8
  rw [if_pos e8] at hl ⊢
  unfold yM
  refine yt (wf ?_); refine wl ?_
  refine eAr (bLk S1 N3 T K hl) ?_
  rintro _ h2 ⟨rfl, S2⟩
  exact eAs ⟨rfl, S2.dropL⟩
 replace e8 : ¬ k = 8 := e8
 rw [if_neg e8] at hl ⊢
 unfold yM aUg
 refine eBk ?_
 refine eAv (fun e9 => ?_) (fun e9 => ?_)
 ·replace e9 : k = 9 := e9
  rw [if_pos e9, etx] at hl ⊢
  unfold zW
  refine eCb ?_
  unfold aWc aLk
  have hbody : (cH ts (fT ks)).length ≤ 100000000000 := by simp at hl; omega
  have fin : ∀ (pre : List Nat) (h : Hp), Sy I A Q ((b1, some (.row .ex [.i .i64 k, .s t, .i .i64 m, s1, s2, s3])) :: L) h → pre.length + (cH ts (fT ks)).length + 2 ≤ 100000000000 →
   Ev (fun n => aJi (aI n) n (.p b1 0) (.s pre) h) (fun v h' => v = .s (91 :: (pre ++ (cH ts (fT ks) ++ [93]))) ∧ Sy I A Q L h') := by
   intro pre h S hp
   unfold aJi
   refine eCd S (bX) rfl (N0.shape.2.1) ?_
   refine eAr (aDt S N0 T hbody) ?_
   rintro _ h2 ⟨rfl, S2⟩
   refine eBm S2 (cs := [.s [91], .s pre, .s (cH ts (fT ks)), .s [93]]) (by simp [cU, cN]) ?_
   intro b2 h3 S3
   refine eAr (eN [[91], pre, cH ts (fT ks), [93]] S3 (bX) rfl (by simp [aK]; omega) (by simp)) ?_
   rintro _ _ ⟨rfl, rfl⟩
   refine eAs ⟨?_, S3.dropL.dropL⟩
   simp [aK]
  refine wf ?_; refine wl ?_
  refine Ev.op (a.2.len _) ?_
  unfold aIw aTf
  have hn : (cD ns).length ≤ 100000000000 := by
   by_cases h9 : cD ns = []
   ·rw [h9]; simp
   ·rw [if_neg h9] at hl; simp at hl; omega
  refine bIu a ns 0 0 _ [] rfl S1 (by simpa using hn) ?_
  intro h2 S2
  simp only [List.nil_append]
  unfold eK
  refine eDd (fun h9 => ?_) (fun h9 => ?_)
  ·rw [if_neg h9] at hl ⊢
   refine eCb ?_
   refine eBm S2 (cs := [.s (cD ns), .s [124, 32]]) (by simp [cU, cN]) ?_
   intro b2 h3 S3
   refine eAr (eN [cD ns, [124, 32]] S3 (bX) rfl (by simp [aK] at hl ⊢; omega) (by simp)) ?_
   rintro _ _ ⟨rfl, rfl⟩
   have ej : aK [] [cD ns, [124, 32]] = cD ns ++ [124, 32] := by simp [aK]
   rw [ej]
   exact fin _ _ S3.dropL (by simp at hl ⊢; omega)
  ·rw [if_pos h9] at hl ⊢
   refine eBk ?_
   rw [h9]
   exact fin _ _ S2 (by simp at hl ⊢; omega)
 replace e9 : ¬ k = 9 := e9
 rw [if_neg e9] at hl ⊢
 unfold zW aM
 refine yj (wf ?_); refine wl ?_
 exact eAs ⟨rfl, S1.dropL⟩
end Go.Dd

namespace Go.Dd
open Go.Proofs
mutual
def Sk : Node → Prop
 | .mk k t m ns ts ks => t.length ≤ 1000000000 ∧ -9223372036854775808 ≤ m ∧ m ≤ 9223372036854775807 ∧ ks.length + 1 ≤ bG ∧ SkL ks
def SkL : List Node → Prop
 | [] => True
 | x :: l => Sk x ∧ SkL l
end
mutual
theorem aPt : ∀ x, Sk x → oS x ∧ (∀ y ∈ x.kids, oS y) ∧ x.text.length ≤ 1000000000 ∧ x.kids.length + 1 ≤ bG
 | .mk k t m ns ts ks, h => by
  unfold Sk at h
  obtain ⟨h1, h2, h3, h4, h5⟩ := h
  have T := aEl ks h5
  exact ⟨bJi (fun y hy => (T y hy).1) (fun z hz => (T z hz).2) h1 h2 h3, fun y hy => (T y hy).1, h1, h4⟩
theorem aEl : ∀ l, SkL l → ∀ y ∈ l, oS y ∧ (∀ z ∈ y.kids, oS z) ∧ y.text.length ≤ 1000000000 ∧ y.kids.length + 1 ≤ bG
 | [], _ => fun y hy => by cases hy
 | x :: l, h => by
  unfold SkL at h
  have p := aPt x h.1
  have q := aEl l h.2
  intro y hy
  rcases List.mem_cons.1 hy with e | hy
  ·rw [e]; exact p
  ·exact q y hy
end
end Go.Dd

namespace Go.Dd
open Go.Proofs
section
variable {I : Im} {A Q L : Ls}
theorem cCv {h : Hp} {s1 s2 : DV} {l1 l2 : List (List Nat)} (S : Sy I A Q L h) (N1 : SS I s1 l1) (N2 : SS I s2 l2) : ∀ (r1 r2 : List (List Nat)) (i j : Nat), l1.drop i = r1 → l2.drop i = r2 → r1.length = r2.length → i ≤ l1.length →
 Ev (fun n => nJ (aI n) n (n - j) s1 s2 (.i .i64 (l1.length : Int)) (.i .i64 (i : Int)) h) (fun v h' => v = .b (decide (r1 = r2)) ∧ h' = h) := by
 intro r1
 induction r1 with
 | nil =>
  intro r2 i j e1 e2 hl hi
  refine eAw j (ll := fun n p => nJ (aI n) n p s1 s2 (.i .i64 (l1.length : Int)) (.i .i64 (i : Int)) h) (bb := fun n p => uI (aI n) n (nJ (aI n) n p) s1 s2 (.i .i64 (l1.length : Int)) (.i .i64 (i : Int)) h) (fun _ _ => rfl) ?_
  have h2 : r2 = [] := by cases r2 with
   | nil => rfl
   | cons => simp at hl
  subst h2
  have hl2 : i = l1.length := by
   have := congrArg List.length e1
   simp at this
   omega
  unfold uI
  refine eBa (fun k => ?_) (fun k => ?_)
  ·omega
  ·refine yj ?_
   unfold iH
   exact eAs ⟨by simp, rfl⟩
 | cons x r1 ih =>
  intro r2 i j e1 e2 hl hi
  refine eAw j (ll := fun n p => nJ (aI n) n p s1 s2 (.i .i64 (l1.length : Int)) (.i .i64 (i : Int)) h) (bb := fun n p => uI (aI n) n (nJ (aI n) n p) s1 s2 (.i .i64 (l1.length : Int)) (.i .i64 (i : Int)) h) (fun _ _ => rfl) ?_
  obtain ⟨y, r2, rfl⟩ : ∃ y r, r2 = y :: r := by cases r2 with
   | nil => simp at hl
   | cons y r => exact ⟨y, r, rfl⟩
  have hx : l1[i]? = some x := dA0 e1
  have hy : l2[i]? = some y := dA0 e2
  have hlt := (wV hx)
  have e1' : l1.drop (i + 1) = r1 := dA1 e1
  have e2' : l2.drop (i + 1) = r2 := dA1 e2
  obtain ⟨b1, o1, p1, q1⟩ := N1.at S hx
  obtain ⟨b2, o2, p2, q2⟩ := N2.at S hy
  have hb := N1.1
  unfold uI
  refine eBa (fun k => ?_) (fun k => ?_)
  ·refine yt ?_
   refine Ev.op (p1 _) (Ev.op q1 (Ev.op (p2 _) (Ev.op q2 ?_)))
   refine eDd (fun k2 => ?_) (fun k2 => ?_)
   ·refine yt ?_
    exact eAs ⟨by simp [k2], rfl⟩
   ·refine yj ?_
    refine eAx ?_
    rw [gC (by omega)]
    refine (ih r2 (i + 1) (j + 1) e1' e2' (by simpa using hl) (by omega)).mono ?_
    rintro v h' ⟨rfl, rfl⟩
    exact ⟨by simp [k2], rfl⟩
  ·omega
theorem cEr (n : Nat) (x y : DV) (h : Hp) : aI (n + 1) 63 [x, y] h = s63 (aI n) n x y h := by kernel_rfl
theorem bYl {h : Hp} {s1 s2 : DV} {l1 l2 : List (List Nat)} (S : Sy I A Q L h) (N1 : SS I s1 l1) (N2 : SS I s2 l2) :
 Ev (fun n => aI n 63 [s1, s2] h) (fun v h' => v = .b (decide (l1 = l2)) ∧ h' = h) := by
 refine Ev.enter (fun n => cEr n _ _ h) ?_
 unfold s63 bFw
 refine Ev.op (N1.2.len _) (Ev.op (N2.2.len _) (eBi (fun e => ?_) (fun e => ?_)))
 ·refine yt ?_
  refine eAs ⟨?_, rfl⟩
  have : l1 ≠ l2 := fun h => e (by rw [h])
  simp [this]
 ·refine yj ?_
  unfold aYh
  refine Ev.op (N1.2.len _) ?_
  unfold bEk bPo
  exact cCv S N1 N2 l1 l2 0 0 (by simp) (by simp) (by omega) (by omega)
end
end Go.Dd

namespace Go.Dd
open Go.Proofs
theorem cAn (n : Nat) (x y z : DV) (h : Hp) : aI (n + 1) 64 [x, y, z] h = s64 (aI n) n x y z h := by kernel_rfl
theorem bPz (n : Nat) (x y : DV) (h : Hp) : aI (n + 1) 37 [x, y] h = s37 (aI n) n x y h := by kernel_rfl
theorem cRx (rec : FuncId → List DV → Hp → aF) (x y : DV) (h : Hp) : eA CF rec (.f 37 [] []) [x, y] h = rec 37 [x, y] h := by kernel_rfl
theorem dDi (k k' m m' : Int) (t t' : List Nat) (ns ns' ts ts' : List (List Nat)) (ks ks' : List Node) :
 nEq (.mk k t m ns ts ks) (.mk k' t' m' ns' ts' ks') = (decide (k = k') && decide (t = t') && decide (m = m') && decide (ns = ns') && decide (ts = ts') && sY ks ks') := by
 show (decide (ns = ns') && decide (ts = ts') && decide (k = k') && decide (t = t') && decide (m = m') && sY ks ks') = _
 generalize decide (ns = ns') = a
 generalize decide (ts = ts') = b
 generalize decide (k = k') = c
 generalize decide (t = t') = d
 generalize decide (m = m') = e
 cases a <;> cases b <;> cases c <;> cases d <;> cases e <;> rfl
theorem dKy {ks ks' : List Node} {I : Im} {A Q L : Ls} {h : Hp} {s s' : DV} (N : NS I s ks) (N' : NS I s' ks') (S : Sy I A Q L h)
 (lp : ks.length = ks'.length → Ev (fun n => mE (aI n) n (n - 0) s' (.f 37 [] []) s (.i .i64 (ks.length : Int)) (.i .i64 ((0 : Nat) : Int)) h) (fun v h' => v = .b (sY ks ks') ∧ Sy I A Q L h')) :
 Ev (fun n => aI n 64 [s, s', .f 37 [] []] h) (fun v h' => v = .b (sY ks ks') ∧ Sy I A Q L h') := by
 refine Ev.enter (fun n => cAn n _ _ _ h) ?_
 unfold s64 bDn
 refine Ev.op (N.len _) (Ev.op (N'.len _) (eBi (fun e => ?_) (fun e => ?_)))
 ·refine yt ?_
  refine eAs ⟨?_, S⟩
  rw [xX ks ks' (by omega)]
 ·refine yj ?_
  unfold bEi
  refine Ev.op (N.len _) ?_
  unfold bCi bNc
  exact lp (by omega)
mutual
theorem aRt : ∀ (x y : Node) (I : Im) (A Q L : Ls) (h : Hp) (cs cs' : List DV), Sy I A Q L h → NV I x cs → NV I y cs' → Ev (fun n => aI n 37 [.a cs, .a cs'] h) (fun v h' => v = .b (nEq x y) ∧ Sy I A Q L h')
 | .mk k t m ns ts ks, .mk k' t' m' ns' ts' ks', I, A, Q, L, h, cs, cs', S, ⟨s1, s2, s3, e, a1, a2, a3, cells, F, NL⟩, ⟨s1', s2', s3', e', a1', a2', a3', cells', F', NL'⟩ => by
  subst e
  subst e'
  have o1 := a1.2.one
  have o2 := a2.2.one
  have o3 := F.one
  have o1' := a1'.2.one
  have o2' := a2'.2.one
  have o3' := F'.one
  refine Ev.enter (fun n => bPz n _ _ h) ?_
  unfold s37
  refine Ev.box S rfl (fun b h1 S1 => ?_)
  refine Ev.box S1 rfl (fun b' h2 S2 => ?_)
  rw [dDi]
  refine wf ?_; refine wl ?_; refine wf ?_; refine wl ?_
  refine eAv (fun e1 => ?_) (fun e1 => ?_)
  ·refine zt (wf (zt ?_)); refine wl ?_; refine zt (wf (zt ?_)); refine wl ?_; refine zt ?_
   refine eCu (fun e2 => ?_) (fun e2 => ?_)
   ·refine ap (zt (wf (zt ?_))); refine wl ?_; refine zt (wf (zt ?_)); refine wl ?_; refine zt ?_
    refine eAv (fun e3 => ?_) (fun e3 => ?_)
    ·refine ap (zt (wf (zt ?_))); refine wl ?_; refine zt (wf (zt ?_)); refine wl ?_; refine zt ?_
     refine eAr (bYl S2 a1 a1') ?_
     rintro _ _ ⟨rfl, rfl⟩
     by_cases e4 : ns = ns'
     ·rw [decide_eq_true e4]
      refine ap (zt (wf (zt ?_))); refine wl ?_; refine zt (wf (zt ?_)); refine wl ?_; refine zt ?_
      refine eAr (bYl S2 a2 a2') ?_
      rintro _ _ ⟨rfl, rfl⟩
      by_cases e5 : ts = ts'
      ·rw [decide_eq_true e5]
       refine ap (zt (wf (zt ?_))); refine wl ?_; refine zt (wf (zt ?_)); refine wl ?_; refine zt ?_
       refine eAr (dKy ⟨a3, cells, F, NL⟩ ⟨a3', cells', F', NL'⟩ S2 (fun hl => aQf ks ks' I A Q _ _ s3 s3' ks ks' 0 0 ⟨a3, cells, F, NL⟩ ⟨a3', cells', F', NL'⟩ (by simp) (by simp) hl (by omega) S2)) ?_
       rintro _ h9 ⟨rfl, S9⟩
       simp only [e1, e2, e3, decide_true, Bool.true_and]
       generalize sY ks ks' = c
       cases c with
       | true =>
        refine ap ?_
        exact eAs ⟨rfl, dp⟩
       | false =>
        refine ap ?_
        exact eAs ⟨rfl, dp⟩
      ·rw [decide_eq_false e5]
       refine ap (yf (yf (yf (yf (yf (aq ?_))))))
       exact eAs ⟨by simp, dp⟩
     ·rw [decide_eq_false e4]
      refine ap (yf (yf (yf (yf (yf (aq (yf (yf (yf (yf (yf (aq ?_))))))))))))
      exact eAs ⟨by simp, dp⟩
    ·refine ap (yf (yf (yf (yf (yf (aq (yf (yf (yf (yf (yf (aq (yf (yf (yf (yf (yf (aq ?_))))))))))))))))))
     exact eAs ⟨by simp [e3], dp⟩
   ·refine ap (yf (yf (yf (yf (yf (aq (yf (yf (yf (yf (yf (aq (yf (yf (yf (yf (yf (aq (yf (yf (yf (yf (yf (aq ?_))))))))))))))))))))))))
    exact eAs ⟨by simp [e2], dp⟩
  ·refine yf (yf (yf (yf (yf (aq (yf (yf (yf (yf (yf (aq (yf (yf (yf (yf (yf (aq (yf (yf (yf (yf (yf (aq (yf (yf (yf (yf (yf (aq ?_)))))))))))))))))))))))))))))
   exact eAs ⟨by simp [e1], dp⟩
theorem aQf : ∀ (r r' : List Node) (I : Im) (A Q L : Ls) (h : Hp) (s s' : DV) (ks ks' : List Node) (i j : Nat), NS I s ks → NS I s' ks' → ks.drop i = r → ks'.drop i = r' → r.length = r'.length → i ≤ ks.length → Sy I A Q L h →
 Ev (fun n => mE (aI n) n (n - j) s' (.f 37 [] []) s (.i .i64 (ks.length : Int)) (.i .i64 (i : Int)) h) (fun v h' => v = .b (sY r r') ∧ Sy I A Q L h')
 | [], r', I, A, Q, L, h, s, s', ks, ks', i, j, N, N', hr, hr', hl, hi, S => by
  have h2 : r' = [] := by cases r' with
   | nil => rfl
   | cons => simp at hl
  subst h2
  refine eAw j (ll := fun n p => mE (aI n) n p s' (.f 37 [] []) s (.i .i64 (ks.length : Int)) (.i .i64 (i : Int)) h) (bb := fun n p => uR (aI n) n (mE (aI n) n p) s' (.f 37 [] []) s (.i .i64 (ks.length : Int)) (.i .i64 (i : Int)) h) (fun _ _ => rfl) ?_
  have hl2 : i = ks.length := by
   have := congrArg List.length hr
   simp at this
   omega
  unfold uR
  refine eBa (fun e1 => ?_) (fun e1 => ?_)
  ·omega
  ·refine yj ?_
   unfold iD
   exact eAs ⟨rfl, S⟩
 | x :: r, r', I, A, Q, L, h, s, s', ks, ks', i, j, N, N', hr, hr', hl, hi, S => by
  obtain ⟨y, r', rfl⟩ : ∃ y q, r' = y :: q := by cases r' with
   | nil => simp at hl
   | cons y q => exact ⟨y, q, rfl⟩
  refine eAw j (ll := fun n p => mE (aI n) n p s' (.f 37 [] []) s (.i .i64 (ks.length : Int)) (.i .i64 (i : Int)) h) (bb := fun n p => uR (aI n) n (mE (aI n) n p) s' (.f 37 [] []) s (.i .i64 (ks.length : Int)) (.i .i64 (i : Int)) h) (fun _ _ => rfl) ?_
  have hx : ks[i]? = some x := dA0 hr
  have hy : ks'[i]? = some y := by
   have := congrArg (fun l => l[0]?) hr'
   simpa [aG] using this
  have hlt := (wV hx)
  have e1' : ks.drop (i + 1) = r := dA1 hr
  have e2' : ks'.drop (i + 1) = r' := by
   have := congrArg (List.drop 1) hr'
   simpa [aG, List.drop_drop] using this
  have hb := N.1
  unfold uR
  refine eBa (fun e1 => ?_) (fun e1 => ?_)
  ·refine yt ?_
   obtain ⟨p1, q1, d1, u1, u2, u3⟩ := N.at hx
   obtain ⟨p2, q2, d2, v1, v2, v3⟩ := N'.at hy
   obtain ⟨l1, k1, m1⟩ := u2.shape
   obtain ⟨l2, k2, m2⟩ := v2.shape
   refine Ev.op (u1 _) (Ev.op (u3 _ _ _ _ _ (ILe.refl _) S) ?_)
   refine wa fun _ _ _ => ?_; refine wt fun _ _ => ?_
   refine Ev.op (v1 _) (Ev.op (v3 _ _ _ _ _ (ILe.refl _) (by assumption)) ?_)
   refine wa fun _ _ _ => ?_; refine wt fun _ _ => ?_; refine ws ?_; refine ws ?_
   simp only [cRx]
   refine eAr (aRt x y I A Q _ _ d1 d2 (by assumption) u2 v2) ?_
   rintro _ h1 ⟨rfl, S1⟩
   simp only [sY]
   cases e : nEq x y with
   | false =>
    refine ao (yt ?_)
    exact eAs ⟨by simp, dp⟩
   | true =>
    refine an (yj ?_)
    refine eAx ?_
    rw [gC (by omega)]
    refine (aQf r r' I A Q L h1 s s' ks ks' (i + 1) (j + 1) N N' e1' e2' (by simpa using hl) (by omega) (dp)).mono ?_
    rintro v h' ⟨rfl, S2⟩
    exact ⟨by simp, S2⟩
  ·omega
end
end Go.Dd

namespace Go.Dd
open Go.Proofs
def sU : Nat := 9223372036854775807
theorem aKm {i : Nat} (h : i < 9223372036854775807) : IntKind.i64.wrap ((i : Int) + Int.ofNat 1) = ((i + 1 : Nat) : Int) := by
 have e : Int.ofNat 1 = 1 := rfl
 rw [dW _ (by omega) (by omega)]
 omega
mutual
def NW (I : Im) : Node → List DV → Prop
 | .mk k t m ns ts ks, cs => ∃ s1 s2 s3, cs = [.i .i64 k, .s t, .i .i64 m, s1, s2, s3] ∧ (ns.length ≤ sU ∧ Fz I 1 s1 ns.length (ns.map .s)) ∧ (ts.length ≤ sU ∧ Fz I 1 s2 ts.length (ts.map .s)) ∧ ks.length ≤ sU ∧ ∃ cells, Fz I 6 s3 ks.length cells ∧ NWL I ks cells
def NWL (I : Im) : List Node → List DV → Prop
 | [], cells => cells = []
 | x :: l, cells => ∃ c rest, cells = c ++ rest ∧ NW I x c ∧ NWL I l rest
end
theorem NW.shape {I : Im} {x : Node} {cs : List DV} (H : NW I x cs) : cs.length = 6 ∧ (∀ v ∈ cs, v.one = true) ∧ DV.beq (.a cs) (.a cs) = true := by
 cases x with
 | mk k t m ns ts ks =>
  obtain ⟨s1, s2, s3, rfl, a, b, c, cells, f, n⟩ := H
  have o1 := a.2.one
  have o2 := b.2.one
  have o3 := f.one
  refine ⟨rfl, ?_, ?_⟩
  ·intro v hv
   simp only [List.mem_cons, List.not_mem_nil, or_false] at hv
   rcases hv with rfl | rfl | rfl | rfl | rfl | rfl
   ·rfl
   ·rfl
   ·rfl
   ·exact o1
   ·exact o2
   ·exact o3
  ·have e : xK t t = true := by rw [jP]
   simp [DV.beq, eCf, e, a.2.beq, b.2.beq, f.beq]
mutual
theorem NW.mono {I J : Im} (g : ILe I J) : ∀ {x : Node} {cs : List DV}, NW I x cs → NW J x cs
 | .mk k t m ns ts ks, cs, ⟨s1, s2, s3, e, a, b, c, cells, f, n⟩ => ⟨s1, s2, s3, e, ⟨a.1, a.2.mono g⟩, ⟨b.1, b.2.mono g⟩, c, cells, f.mono g, NWL.mono g n⟩
theorem NWL.mono {I J : Im} (g : ILe I J) : ∀ {l : List Node} {cells : List DV}, NWL I l cells → NWL J l cells
 | [], _, e => e
 | x :: l, _, ⟨c, rest, e, a, b⟩ => ⟨c, rest, e, NW.mono g a, NWL.mono g b⟩
end
theorem NWL.at {I : Im} : ∀ {ks : List Node} {cells : List DV} {i : Nat} {x : Node}, NWL I ks cells → ks[i]? = some x → ∃ c rest, cells.drop (i * 6) = c ++ rest ∧ NW I x c
 | [], _, i, x, _, h => by simp at h
 | y :: l, _, 0, x, ⟨c, rest, e, a, b⟩, h => by
  simp at h
  subst h
  exact ⟨c, rest, by simpa using e, a⟩
 | y :: l, _, i + 1, x, ⟨c, rest, e, a, b⟩, h => by
  simp at h
  obtain ⟨d, r, e2, f⟩ := NWL.at b h
  refine ⟨d, r, ?_, f⟩
  subst e
  rw [show (i + 1) * 6 = c.length + i * 6 by rw [a.shape.1]; omega, ← List.drop_drop, List.drop_left]
  exact e2
theorem NWS.at {I : Im} {s : DV} {ks : List Node} {cells : List DV} (F : Fz I 6 s ks.length cells) (N : NWL I ks cells) {i : Nat} {x : Node} (hi : ks[i]? = some x) :
 ∃ b o c, (∀ h', aO 6 s (.i .i64 (i : Int)) h' = some (.p b o, h')) ∧ NW I x c ∧ ∀ (A Q L : Ls) (h : Hp), Sy I A Q L h → aD 6 (.p b o) h = some (.a c, h) := by
 obtain ⟨hlt, _⟩ := List.getElem?_eq_some_iff.1 hi
 obtain ⟨d, rest, e, Nd⟩ := N.at hi
 rcases F with ⟨_, h2, _⟩ | ⟨b, o, cap, k, row, rest2, rfl, h2, h3, h4, h5, h6⟩
 ·omega
 ·refine ⟨b, o + i * 6, d, fun h' => ?_, Nd, fun A Q L h S => ldA (S.im _ _ h3) ?_⟩
  ·show (if 0 ≤ (i : Int) ∧ (i : Int) < (ks.length : Int) then some (DV.p b (o + (i : Int).toNat * 6), h') else none) = _
   rw [if_pos ⟨by omega, by omega⟩]
   rfl
  ·have hle : i * 6 ≤ cells.length := by rw [h5]; exact Nat.mul_le_mul_right _ (by omega)
   rw [← List.drop_drop, h4, List.drop_append_of_le_length hle, e, List.append_assoc]
   obtain ⟨s1, s2, _⟩ := Nd.shape
   exact gX d _ 6 s1 s2
mutual
def sz : Node → Nat
 | .mk _ _ _ _ _ ks => 1 + tK ks
def tK : List Node → Nat
 | [] => 0
 | x :: l => sz x + tK l
end
theorem aMs (x : Node) : 1 ≤ sz x := by
 cases x
 simp [sz]
def jJ (l : List (List Nat)) : Bool := l.all fun x => decide (x.length ≤ 40)
mutual
def eL : Node → Bool
 | .mk k t m ns ts ks => decide (sz (.mk k t m ns ts ks) ≤ 100) && (decide (t.length ≤ 40) && (decide (ns.length ≤ 10) && (decide (ts.length ≤ 10) && (jJ ns && (jJ ts && kA ks)))))
def kA : List Node → Bool
 | [] => true
 | x :: l => eL x && kA l
end
theorem cCh (n : Nat) (x y : DV) (h : Hp) : aI (n + 1) 18 [x, y] h = s18 (aI n) n x y h := by kernel_rfl
theorem cTc (n : Nat) (x : DV) (h : Hp) : aI (n + 1) 9 [x] h = s9 (aI n) n x h := by kernel_rfl
def uY (n m : Int) : Int := if n ≤ m then n else -1
mutual
theorem cFm : ∀ (x : Node) (I : Im) (A Q L : Ls) (h : Hp) (cs : List DV) (m : Int), 1 ≤ m → m ≤ 100 → Sy I A Q L h → NW I x cs → Ev (fun n => aI n 18 [.a cs, .i .i64 m] h) (fun v h' => v = .i .i64 (uY (sz x) m) ∧ Sy I A Q L h')
 | .mk k t mm ns ts ks, I, A, Q, L, h, cs, m, m1, m2, S, ⟨s1, s2, s3, e, a1, a2, a3, cells, F, NL⟩ => by
  subst e
  refine Ev.enter (fun n => cCh n _ _ h) ?_
  unfold s18
  refine Ev.box S rfl (fun b h1 S1 => ?_)
  unfold aXy aZr aZy bTs
  have := aSt ks I A Q L h1 b _ s3 cells ks m 1 0 0 m1 m2 (by omega) (by omega) F NL a3 (by simp) (by omega) S1 rfl
  simpa [aG, sz] using this
theorem aSt : ∀ (r : List Node) (I : Im) (A Q L : Ls) (h : Hp) (b : Pos) (c : List DV) (s3 : DV) (cells : List DV) (ks : List Node) (m q : Int) (i j : Nat), 1 ≤ m → m ≤ 100 → 1 ≤ q → q ≤ m → Fz I 6 s3 ks.length cells → NWL I ks cells → ks.length ≤ sU → ks.drop i = r → i ≤ ks.length →
 Sy I A Q ((b, some (.row .ex c)) :: L) h → c[5]? = some s3 →
 Ev (fun n => nT (aI n) n (n - j) (.i .i64 m) (.p b 0) (.i .i64 q) (.i .i64 (i : Int)) h) (fun v h' => v = .i .i64 (uY (q + tK r) m) ∧ Sy I A Q L h')
 | [], I, A, Q, L, h, b, c, s3, cells, ks, m, q, i, j, m1, m2, q1, q2, F, NL, a3, hr, hi, S, g => by
  refine eAw j (ll := fun n p => nT (aI n) n p (.i .i64 m) (.p b 0) (.i .i64 q) (.i .i64 (i : Int)) h) (bb := fun n p => uX (aI n) n (nT (aI n) n p) (.i .i64 m) (.p b 0) (.i .i64 q) (.i .i64 (i : Int)) h) (fun _ _ => rfl) ?_
  have hl2 : i = ks.length := by
   have := congrArg List.length hr
   simp at this
   omega
  unfold uX
  refine eAy (eBc S (bX) (by simpa using g) F.one ?_)
  refine Ev.op (F.len _) (eBa (fun e1 => ?_) (fun e1 => ?_))
  ·omega
  ·refine yj ?_
   unfold hK
   refine eBj (fun e2 => by omega) (fun e2 => ?_)
   refine yj ?_
   exact eAs ⟨by simp [uY, tK, q2], S.dropL⟩
 | x :: r, I, A, Q, L, h, b, c, s3, cells, ks, m, q, i, j, m1, m2, q1, q2, F, NL, a3, hr, hi, S, g => by
  refine eAw j (ll := fun n p => nT (aI n) n p (.i .i64 m) (.p b 0) (.i .i64 q) (.i .i64 (i : Int)) h) (bb := fun n p => uX (aI n) n (nT (aI n) n p) (.i .i64 m) (.p b 0) (.i .i64 q) (.i .i64 (i : Int)) h) (fun _ _ => rfl) ?_
  have hx : ks[i]? = some x := dA0 hr
  have hlt := (wV hx)
  have e1' : ks.drop (i + 1) = r := dA1 hr
  have hw : sU = 9223372036854775807 := rfl
  have hp := aMs x
  unfold uX
  refine eAy (eBc S (bX) (by simpa using g) F.one ?_)
  refine Ev.op (F.len _) (eBa (fun e1 => ?_) (fun e1 => ?_))
  ·refine yt ?_
   refine eBo (fun e2 => ?_) (fun e2 => ?_)
   ·refine yt ?_
    refine eAs ⟨?_, S.dropL⟩
    have : ¬ (q + (tK (x :: r) : Nat) ≤ m) := by simp only [tK]; omega
    unfold uY
    rw [if_neg this]
    rfl
   ·refine yj ?_
    refine eAy (eBc S (bX) (by simpa using g) F.one ?_)
    obtain ⟨p1, q1', d1, u1, u2, u3⟩ := NWS.at F NL hx
    refine Ev.op (u1 _) (Ev.op (u3 _ _ _ _ S) ?_)
    refine eBq ?_
    have ew : IntKind.i64.wrap (m - q) = m - q := dW _ (by omega) (by omega)
    rw [ew]
    refine eAr (cFm x I A Q _ h d1 (m - q) (by omega) (by omega) S u2) ?_
    rintro _ h1 ⟨rfl, S1⟩
    by_cases hz : (sz x : Int) ≤ m - q
    ·have e9 : uY (sz x) (m - q) = sz x := by unfold uY; rw [if_pos hz]
     rw [e9]
     refine eBa (fun e3 => ?_) (fun e3 => ?_)
     ·exact absurd e3 (by simp)
     ·refine yj ?_
      refine eAx ?_
      refine eAx ?_
      rw [aKm (by omega)]
      have ew2 : IntKind.i64.wrap (q + (sz x : Int)) = q + sz x := dW _ (by omega) (by omega)
      rw [ew2]
      refine (aSt r I A Q L h1 b c s3 cells ks m (q + sz x) (i + 1) (j + 1) m1 m2 (by omega) (by omega) F NL a3 e1' (by omega) S1 g).mono ?_
      rintro v h' ⟨rfl, S2⟩
      refine ⟨?_, S2⟩
      simp only [tK]
      rw [show q + ((sz x + tK r : Nat) : Int) = q + (sz x : Int) + (tK r : Int) by omega]
    ·have e9 : uY (sz x) (m - q) = -1 := by unfold uY; rw [if_neg hz]
     rw [e9]
     refine eBa (fun e3 => ?_) (fun e3 => ?_)
     ·refine yt ?_
      refine eAs ⟨?_, S1.dropL⟩
      have : ¬ (q + (tK (x :: r) : Nat) ≤ m) := by simp only [tK]; omega
      unfold uY
      rw [if_neg this]
      rfl
     ·exact absurd (show (-1 : Int) < Int.ofNat 0 by decide) e3
  ·omega
end
theorem eDf {I : Im} {s : DV} {l : List (List Nat)} (F : Fz I 1 s l.length (l.map .s)) {A Q L : Ls} {h : Hp} (S : Sy I A Q L h) {i : Nat} {x : List Nat} (hi : l[i]? = some x) :
 ∃ b o, (∀ h', aO 1 s (.i .i64 (i : Int)) h' = some (.p b o, h')) ∧ aB (.p b o) h = some (.s x, h) := by
 obtain ⟨hlt, hg⟩ := List.getElem?_eq_some_iff.1 hi
 obtain ⟨b, o, e, k, row, g, rest, d⟩ := F.at S hlt
 refine ⟨b, o, e, ld1 g ?_ rfl⟩
 have e2 : row[o]? = (row.drop o)[0]? := by simp
 rw [e2, d, Nat.mul_one, List.drop_eq_getElem_cons (by simpa using hlt)]
 simp [hg]
section
variable {I : Im} {A Q L : Ls}
theorem wK {P : DV → Hp → Prop} {h : Hp} {b : Pos} {c : List DV} {s : DV} {l : List (List Nat)} (hw : l.length ≤ sU) (F : Fz I 1 s l.length (l.map .s)) (S : Sy I A Q ((b, some (.row .ex c)) :: L) h) (g : c[3]? = some s) : ∀ (r : List (List Nat)) (i j : Nat), l.drop i = r → i ≤ l.length →
 (jJ r = true → Ev (fun n => mD (aI n) n (.p b 0) h) P) → (jJ r = false → P (.b false) h) →
 Ev (fun n => oO (aI n) n (n - j) (.p b 0) (.i .i64 (i : Int)) h) P
 | [], i, j, hr, hi, k1, k2 => by
  refine eAw j (ll := fun n p => oO (aI n) n p (.p b 0) (.i .i64 (i : Int)) h) (bb := fun n p => vG (aI n) n (oO (aI n) n p) (.p b 0) (.i .i64 (i : Int)) h) (fun _ _ => rfl) ?_
  have hl2 : i = l.length := by
   have := congrArg List.length hr
   simp at this
   omega
  unfold vG
  refine eAy (eBc S (bX) (by simpa using g) F.one ?_)
  refine Ev.op (F.len _) (eBa (fun e1 => ?_) (fun e1 => ?_))
  ·omega
  ·refine yj ?_
   exact k1 rfl
 | x :: r, i, j, hr, hi, k1, k2 => by
  refine eAw j (ll := fun n p => oO (aI n) n p (.p b 0) (.i .i64 (i : Int)) h) (bb := fun n p => vG (aI n) n (oO (aI n) n p) (.p b 0) (.i .i64 (i : Int)) h) (fun _ _ => rfl) ?_
  have hx : l[i]? = some x := dA0 hr
  have hlt := (wV hx)
  have e1' : l.drop (i + 1) = r := dA1 hr
  have hw' : sU = 9223372036854775807 := rfl
  unfold vG
  refine eAy (eBc S (bX) (by simpa using g) F.one ?_)
  refine Ev.op (F.len _) (eBa (fun e1 => ?_) (fun e1 => ?_))
  ·refine yt ?_
   refine eAy (eBc S (bX) (by simpa using g) F.one ?_)
   obtain ⟨b1, o1, p1, q1⟩ := eDf F S hx
   refine Ev.op (p1 _) (Ev.op q1 ?_)
   refine eBd ?_
   refine eBj (fun e2 => ?_) (fun e2 => ?_)
   ·refine yt ?_
    refine eAs (k2 ?_)
    have : ¬ x.length ≤ 40 := by
     intro h9
     exact absurd e2 (by show ¬ (Int.ofNat 40 < (x.length : Int)); have : Int.ofNat 40 = 40 := rfl; omega)
    simp [jJ, this]
   ·refine yj ?_
    have hx40 : x.length ≤ 40 := by
     rcases Nat.lt_or_ge 40 x.length with h9 | h9
     ·exact absurd (show (40 : Int) < (x.length : Int) by omega) e2
     ·exact h9
    refine eAx ?_
    rw [aKm (by omega)]
    refine wK hw F S g r (i + 1) (j + 1) e1' (by omega) (fun h9 => k1 ?_) (fun h9 => k2 ?_)
    ·simpa [aG, jJ, hx40] using h9
    ·simpa [aG, jJ, hx40] using h9
  ·omega
theorem wG {P : DV → Hp → Prop} {h : Hp} {b : Pos} {c : List DV} {s : DV} {l : List (List Nat)} (hw : l.length ≤ sU) (F : Fz I 1 s l.length (l.map .s)) (S : Sy I A Q ((b, some (.row .ex c)) :: L) h) (g : c[4]? = some s) : ∀ (r : List (List Nat)) (i j : Nat), l.drop i = r → i ≤ l.length →
 (jJ r = true → Ev (fun n => mI (aI n) n (.p b 0) h) P) → (jJ r = false → P (.b false) h) →
 Ev (fun n => oC (aI n) n (n - j) (.p b 0) (.i .i64 (i : Int)) h) P
 | [], i, j, hr, hi, k1, k2 => by
  refine eAw j (ll := fun n p => oC (aI n) n p (.p b 0) (.i .i64 (i : Int)) h) (bb := fun n p => uQ (aI n) n (oC (aI n) n p) (.p b 0) (.i .i64 (i : Int)) h) (fun _ _ => rfl) ?_
  have hl2 : i = l.length := by
   have := congrArg List.length hr
   simp at this
   omega
  unfold uQ
  refine eAy (eBc S (bX) (by simpa using g) F.one ?_)
  refine Ev.op (F.len _) (eBa (fun e1 => ?_) (fun e1 => ?_))
  ·omega
  ·refine yj ?_
   exact k1 rfl
 | x :: r, i, j, hr, hi, k1, k2 => by
  refine eAw j (ll := fun n p => oC (aI n) n p (.p b 0) (.i .i64 (i : Int)) h) (bb := fun n p => uQ (aI n) n (oC (aI n) n p) (.p b 0) (.i .i64 (i : Int)) h) (fun _ _ => rfl) ?_
  have hx : l[i]? = some x := dA0 hr
  have hlt := (wV hx)
  have e1' : l.drop (i + 1) = r := dA1 hr
  have hw' : sU = 9223372036854775807 := rfl
  unfold uQ
  refine eAy (eBc S (bX) (by simpa using g) F.one ?_)
  refine Ev.op (F.len _) (eBa (fun e1 => ?_) (fun e1 => ?_))
  ·refine yt ?_
   refine eAy (eBc S (bX) (by simpa using g) F.one ?_)
   obtain ⟨b1, o1, p1, q1⟩ := eDf F S hx
   refine Ev.op (p1 _) (Ev.op q1 ?_)
   refine eBd ?_
   refine eBj (fun e2 => ?_) (fun e2 => ?_)
   ·refine yt ?_
    refine eAs (k2 ?_)
    have : ¬ x.length ≤ 40 := by
     intro h9
     exact absurd e2 (by show ¬ (Int.ofNat 40 < (x.length : Int)); have : Int.ofNat 40 = 40 := rfl; omega)
    simp [jJ, this]
   ·refine yj ?_
    have hx40 : x.length ≤ 40 := by
     rcases Nat.lt_or_ge 40 x.length with h9 | h9
     ·exact absurd (show (40 : Int) < (x.length : Int) by omega) e2
     ·exact h9
    refine eAx ?_
    rw [aKm (by omega)]
    refine wG hw F S g r (i + 1) (j + 1) e1' (by omega) (fun h9 => k1 ?_) (fun h9 => k2 ?_)
    ·simpa [aG, jJ, hx40] using h9
    ·simpa [aG, jJ, hx40] using h9
  ·omega
end
mutual
theorem aQk : ∀ (x : Node) (I : Im) (A Q L : Ls) (h : Hp) (cs : List DV), Sy I A Q L h → NW I x cs → Ev (fun n => aI n 9 [.a cs] h) (fun v h' => v = .b (eL x) ∧ Sy I A Q L h')
 | .mk k t mm ns ts ks, I, A, Q, L, h, cs, S, ⟨s1, s2, s3, e, a1, a2, a3, cells, F, NL⟩ => by
  subst e
  have N0 : NW I (.mk k t mm ns ts ks) [.i .i64 k, .s t, .i .i64 mm, s1, s2, s3] := ⟨s1, s2, s3, rfl, a1, a2, a3, cells, F, NL⟩
  have o1 := a1.2.one
  have o2 := a2.2.one
  have o3 := F.one
  refine Ev.enter (fun n => cTc n _ h) ?_
  unfold s9
  refine Ev.box S rfl (fun b h1 S1 => ?_)
  unfold cVd
  refine eCd S1 (bX) rfl N0.shape.2.1 ?_
  refine eAr (cFm _ I A Q _ h1 _ 100 (by omega) (by omega) S1 N0) ?_
  rintro _ h2 ⟨rfl, S2⟩
  have hsm : eL (.mk k t mm ns ts ks) = (decide (sz (.mk k t mm ns ts ks) ≤ 100) && (decide (t.length ≤ 40) && (decide (ns.length ≤ 10) && (decide (ts.length ≤ 10) && (jJ ns && (jJ ts && kA ks)))))) := by rw [eL]
  rw [hsm]
  clear hsm
  generalize sz (.mk k t mm ns ts ks) = z
  by_cases hz : z ≤ 100
  ·have e9 : uY z 100 = z := by unfold uY; rw [if_pos (by omega)]
   rw [e9]
   refine eBa (fun e3 => absurd e3 (by simp)) (fun e3 => ?_)
   refine yj ?_
   unfold cHz
   refine wf ?_; refine wl ?_
   refine eBd ?_
   have hfin : decide (t.length ≤ 40) = true → decide (ns.length ≤ 10) = true → decide (ts.length ≤ 10) = true → Ev (fun n => bMl (aI n) n (.p b 0) h2) (fun v h' => v = .b (jJ ns && (jJ ts && kA ks)) ∧ Sy I A Q L h') := by
    intro q1 q2 q3
    unfold bMl bGo cEk
    refine wK (j := 0) (i := 0) a1.1 a1.2 S2 rfl ns (by simp) (by omega) (fun h9 => ?_) (fun h9 => ⟨by simp [h9], S2.dropL⟩)
    unfold mD cGr bPg
    refine wG (j := 0) (i := 0) a2.1 a2.2 S2 rfl ts (by simp) (by omega) (fun h8 => ?_) (fun h8 => ⟨by simp [h8], S2.dropL⟩)
    unfold mI cVg dLn
    have := aCf ks I A Q L h2 b _ s3 cells ks 0 0 F NL a3 (by simp) (by omega) S2 rfl
    simpa [aG, h9, h8] using this
   refine eBj (fun e4 => ?_) (fun e4 => ?_)
   ·have q : ¬ t.length ≤ 40 := by intro h9; exact absurd e4 (by show ¬ (Int.ofNat 40 < (t.length : Int)); have : Int.ofNat 40 = 40 := rfl; omega)
    refine yg (yg (yg (yg (ap (yg (yg (yg (yg (ap (yt ?_))))))))))
    exact eAs ⟨by simp [q], dp⟩
   ·have q : t.length ≤ 40 := by
     rcases Nat.lt_or_ge 40 t.length with h9 | h9
     ·exact absurd (show (40 : Int) < (t.length : Int) by omega) e4
     ·exact h9
    refine zf (wf (zf ?_)); refine wl ?_; refine zf ?_
    refine Ev.op (a1.2.len _) ?_
    refine zf ?_
    refine eBj (fun e5 => ?_) (fun e5 => ?_)
    ·have q5 : ¬ ns.length ≤ 10 := by intro h9; exact absurd e5 (by show ¬ (Int.ofNat 10 < (ns.length : Int)); have : Int.ofNat 10 = 10 := rfl; omega)
     refine aq (yg (yg (yg (yg (ap (yt ?_))))))
     exact eAs ⟨by simp [q5], dp⟩
    ·have q5 : ns.length ≤ 10 := by
      rcases Nat.lt_or_ge 10 ns.length with h9 | h9
      ·exact absurd (show (10 : Int) < (ns.length : Int) by omega) e5
      ·exact h9
     refine aq (zf (wf (zf ?_))); refine wl ?_; refine zf ?_
     refine Ev.op (a2.2.len _) ?_
     refine zf ?_
     refine eBj (fun e6 => ?_) (fun e6 => ?_)
     ·have q6 : ¬ ts.length ≤ 10 := by intro h9; exact absurd e6 (by show ¬ (Int.ofNat 10 < (ts.length : Int)); have : Int.ofNat 10 = 10 := rfl; omega)
      refine aq (yt ?_)
      exact eAs ⟨by simp [q6], dp⟩
     ·have q6 : ts.length ≤ 10 := by
       rcases Nat.lt_or_ge 10 ts.length with h9 | h9
       ·exact absurd (show (10 : Int) < (ts.length : Int) by omega) e6
       ·exact h9
      refine aq (yj ?_)
      have := hfin (by simp [q]) (by simp [q5]) (by simp [q6])
      simpa [aG, hz, q, q5, q6] using this
  ·have e9 : uY z 100 = -1 := by unfold uY; rw [if_neg (by omega)]
   rw [e9]
   refine eBa (fun e3 => ?_) (fun e3 => absurd (show (-1 : Int) < Int.ofNat 0 by decide) e3)
   refine yt ?_
   exact eAs ⟨by simp [hz], S2.dropL⟩
theorem aCf : ∀ (r : List Node) (I : Im) (A Q L : Ls) (h : Hp) (b : Pos) (c : List DV) (s3 : DV) (cells : List DV) (ks : List Node) (i j : Nat), Fz I 6 s3 ks.length cells → NWL I ks cells → ks.length ≤ sU → ks.drop i = r → i ≤ ks.length →
 Sy I A Q ((b, some (.row .ex c)) :: L) h → c[5]? = some s3 →
 Ev (fun n => tL (aI n) n (n - j) (.p b 0) (.i .i64 (i : Int)) h) (fun v h' => v = .b (kA r) ∧ Sy I A Q L h')
 | [], I, A, Q, L, h, b, c, s3, cells, ks, i, j, F, NL, a3, hr, hi, S, g => by
  refine eAw j (ll := fun n p => tL (aI n) n p (.p b 0) (.i .i64 (i : Int)) h) (bb := fun n p => aEs (aI n) n (tL (aI n) n p) (.p b 0) (.i .i64 (i : Int)) h) (fun _ _ => rfl) ?_
  have hl2 : i = ks.length := by
   have := congrArg List.length hr
   simp at this
   omega
  unfold aEs
  refine eAy (eBc S (bX) (by simpa using g) F.one ?_)
  refine Ev.op (F.len _) (eBa (fun e1 => ?_) (fun e1 => ?_))
  ·omega
  ·refine yj ?_
   unfold mY
   exact eAs ⟨rfl, S.dropL⟩
 | x :: r, I, A, Q, L, h, b, c, s3, cells, ks, i, j, F, NL, a3, hr, hi, S, g => by
  refine eAw j (ll := fun n p => tL (aI n) n p (.p b 0) (.i .i64 (i : Int)) h) (bb := fun n p => aEs (aI n) n (tL (aI n) n p) (.p b 0) (.i .i64 (i : Int)) h) (fun _ _ => rfl) ?_
  have hx : ks[i]? = some x := dA0 hr
  have hlt := (wV hx)
  have e1' : ks.drop (i + 1) = r := dA1 hr
  have hw : sU = 9223372036854775807 := rfl
  unfold aEs
  refine eAy (eBc S (bX) (by simpa using g) F.one ?_)
  refine Ev.op (F.len _) (eBa (fun e1 => ?_) (fun e1 => ?_))
  ·refine yt ?_
   refine eAy (eBc S (bX) (by simpa using g) F.one ?_)
   obtain ⟨p1, q1', d1, u1, u2, u3⟩ := NWS.at F NL hx
   refine Ev.op (u1 _) (Ev.op (u3 _ _ _ _ S) ?_)
   refine eAr (aQk x I A Q _ h d1 S u2) ?_
   rintro _ h1 ⟨rfl, S1⟩
   simp only [kA]
   cases e : eL x with
   | false =>
    refine ao (yt ?_)
    exact eAs ⟨by simp, S1.dropL⟩
   | true =>
    refine an (yj ?_)
    refine eAx ?_
    rw [aKm (by omega)]
    refine (aCf r I A Q L h1 b c s3 cells ks (i + 1) (j + 1) F NL a3 e1' (by omega) S1 g).mono ?_
    rintro v h' ⟨rfl, S2⟩
    exact ⟨by simp, S2⟩
  ·omega
end
mutual
theorem NW.nv {I : Im} : ∀ {x : Node} {cs : List DV}, NW I x cs → eL x = true → NV I x cs
 | .mk k t m ns ts ks, cs, ⟨s1, s2, s3, e, a, b, c, cells, f, n⟩, hs => by
  simp only [eL, Bool.and_eq_true, decide_eq_true_eq] at hs
  obtain ⟨h0, h1, h2, h3, h4, h5, h6⟩ := hs
  have hl : bG = 100000000000 := rfl
  have hk : ks.length ≤ 100 := by
   have : ∀ l : List Node, l.length ≤ tK l := by
    intro l
    induction l with
    | nil => simp [tK]
    | cons x l ih => have := aMs x; simp [tK]; omega
   have := this ks
   simp [sz] at h0
   omega
  exact ⟨s1, s2, s3, e, ⟨by omega, a.2⟩, ⟨by omega, b.2⟩, by omega, cells, f, NWL.nv n h6⟩
theorem NWL.nv {I : Im} : ∀ {l : List Node} {cells : List DV}, NWL I l cells → kA l = true → NVL I l cells
 | [], _, e, _ => e
 | x :: l, _, ⟨c, rest, e, a, b⟩, hs => by
  simp only [kA, Bool.and_eq_true] at hs
  exact ⟨c, rest, e, NW.nv a hs.1, NWL.nv b hs.2⟩
end
end Go.Dd

namespace Go.Dd
open Go.Proofs
theorem aRv {H : PF} {f : Nat} {lx : List Tok × Int × Int} (h : lx.2.2 = 0) : lV H f lx = lV H f (lx.1, 0, 0) := by
 unfold lV
 rw [if_pos h, if_pos rfl]
end Go.Dd

namespace Go.Dd
section
variable {α β : Type} {V : α → α → Prop} {W : β → β → Prop}
end
variable {s s' : PSt}
def aPr (f : Nat) (x : Node) (st : PSt) : Option (Node × PSt) := (lM f st).bind fun b => (jM (mO f) f [] b.2).bind fun c => (eB c.2 0 []).bind fun d => some (x.with b.1 c.1, d.2)
theorem yW (H : PF) (f : Nat) (l : List Tok) : lV H f (l, 0, 0) = (H ⟨l, 0, 0, 0⟩).bind fun a => (aPr f a.1 a.2).bind fun d => if d.2.err = 0 then some (d.1, 0, 0) else some (zN, d.2.pos, d.2.err) := by
 unfold lV aPr
 rw [if_pos rfl]
 cases H ⟨l, 0, 0, 0⟩ with
 | none => rfl
 | some a =>
  simp only [Option.bind_some]
  cases lM f a.2 with
  | none => rfl
  | some b =>
   simp only [Option.bind_some]
   cases jM (mO f) f [] b.2 with
   | none => rfl
   | some c =>
    simp only [Option.bind_some]
    cases eB c.2 0 [] with
    | none => rfl
    | some d => rfl
end Go.Dd

namespace Go.Dd
end Go.Dd

namespace Go.Dd
inductive Gap : List Nat → Prop
 | nil : Gap []
 | blank (c : Nat) (w : List Nat) : dK bP c = true → Gap w → Gap (c :: w)
 | rem (r w : List Nat) : (∀ c ∈ r, c ≠ 34) → Gap w → Gap (34 :: (r ++ 34 :: w))
theorem Gap.app {a b : List Nat} (h : Gap a) (k : Gap b) : Gap (a ++ b) := by
 induction h with
 | nil => exact k
 | blank c w hc _ ih => exact .blank c _ hc ih
 | rem r w hr _ ih => simpa using Gap.rem r (w ++ b) hr ih
inductive Lx (g : Nat) : List Nat → Nat → List Tok → Prop
 | fin (w : List Nat) (p : Nat) : Gap w → Lx g w p [⟨0, [], 0, ((p + w.length : Nat) : Int)⟩]
 | tok (w u : List Nat) (p k : Nat) (rs : Int × List Nat × Int × Int × Nat) (l : List Tok) : Gap w → lA g u = some rs → rs.2.2.2.1 = 0 → rs.2.2.2.2 = k → 1 ≤ k → k ≤ u.length → rs.1 ≠ 0 →
  Lx g (u.drop k) (p + w.length + k) l → Lx g (w ++ u) p (⟨rs.1, rs.2.1, rs.2.2.1, ((p + w.length : Nat) : Int)⟩ :: l)
theorem eEp {g : Nat} {u : List Nat} {p : Nat} {l : List Tok} {w : List Nat} (h : Lx g u (p + w.length) l) (k : Gap w) : Lx g (w ++ u) p l := by
 generalize hp : p + w.length = q at h
 cases h with
 | fin _ _ g' =>
  have := Lx.fin (g := g) (w ++ u) p (k.app g')
  rw [List.length_append, ← Nat.add_assoc, hp] at this
  exact this
 | tok w' u _ k' rs l g' h1 h2 h3 h4 h5 h6 h7 =>
  have := Lx.tok (g := g) (w ++ w') u p k' rs l (k.app g') h1 h2 h3 h4 h5 h6 (by rw [List.length_append, ← Nat.add_assoc, hp]; exact h7)
  rw [List.length_append, ← Nat.add_assoc, hp, List.append_assoc] at this
  exact this
theorem bZp (r v : List Nat) (c : Nat) : (r ++ c :: v).drop (r.length + 1) = v := by
 rw [show r.length + 1 = (r ++ [c]).length by simp, show r ++ c :: v = (r ++ [c]) ++ v by simp, List.drop_left]
theorem zS : ∀ (u : List Nat), Gap (u.takeWhile (dK bP))
 | [] => .nil
 | c :: u => by
  cases e : dK bP c with
  | false => simp [e]; exact .nil
  | true => simp [e]; exact .blank c _ e (zS u)
theorem aFn : ∀ (u : List Nat) (i k : Nat), dZ 34 u i = ((i + k : Nat) : Int) → ∃ r w, u = r ++ 34 :: w ∧ r.length = k ∧ ∀ c ∈ r, c ≠ 34
 | [], i, k, h => by
  have : dZ 34 [] i = -1 := rfl
  omega
 | c :: u, i, k, h => by
  have e : dZ 34 (c :: u) i = bif Nat.beq c 34 then Int.ofNat i else dZ 34 u (i + 1) := rfl
  cases hc : Nat.beq c 34 with
  | true =>
   rw [e, hc] at h
   have : c = 34 := Nat.eq_of_beq_eq_true hc
   subst this
   have h : (i : Int) = ((i + k : Nat) : Int) := h
   exact ⟨[], u, rfl, by simp; omega, by simp⟩
  | false =>
   rw [e, hc] at h
   have h : dZ 34 u (i + 1) = ((i + k : Nat) : Int) := h
   have hne : c ≠ 34 := fun e2 => by rw [e2] at hc; cases hc
   have hk : 1 ≤ k := by
    apply Decidable.byContradiction
    intro hn
    have hge := oY 34 u (i + 1) (by omega)
    obtain ⟨k', h1, h2⟩ := hge
    omega
   obtain ⟨r, w, a, b, d⟩ := aFn u (i + 1) (k - 1) (by rw [h]; congr 1; omega)
   refine ⟨c :: r, w, by rw [a]; rfl, by simp [b]; omega, fun x hx => ?_⟩
   rcases List.mem_cons.1 hx with rfl | hx
   ·exact hne
   ·exact d x hx
theorem cJh (so : Nat → Bool) (u : List Nat) : u = u.takeWhile so ++ u.drop (u.takeWhile so).length := by
 induction u with
 | nil => rfl
 | cons c u ih =>
  cases e : so c with
  | false => simp [e]
  | true =>
   simp [e]
   exact ih
theorem aMj {g : Nat} {s : List Nat} (hg : s.length < g) : ∀ (f i : Nat) (out : List Tok) (res : List Tok × Int × Int), i ≤ s.length → nB g s f i out = some res → res.2.2 = 0 → ∃ l, res = (out ++ l, 0, 0) ∧ Lx g (s.drop i) i l
 | 0, i, out, res, hi, h => by cases h
 | f + 1, i, out, res, hi, h => by
  intro he
  have hle := oR (dK bP) (s.drop i)
  have hdl : (s.drop i).length = s.length - i := by simp
  have hsp := cJh (dK bP) (s.drop i)
  have hgap := zS (s.drop i)
  unfold nB at h
  generalize hw : (s.drop i).takeWhile (dK bP) = w at *
  rw [List.drop_drop] at hsp
  by_cases h1 : s.length ≤ i + w.length
  ·rw [if_pos h1] at h
   cases h
   refine ⟨_, rfl, ?_⟩
   rw [List.drop_eq_nil_of_le h1, List.append_nil] at hsp
   rw [hsp, show s.length = i + w.length by omega]
   exact .fin w i hgap
  ·rw [if_neg h1] at h
   by_cases h2 : nx s (i + w.length) = 34
   ·rw [if_pos h2] at h
    by_cases h3 : dZ 34 (s.drop (i + w.length + 1)) 0 < 0
    ·rw [if_pos h3] at h
     cases h
     cases he
    ·rw [if_neg h3] at h
     obtain ⟨k, k1, k2⟩ := oY 34 _ _ h3
     obtain ⟨r, w', a1, a2, a3⟩ := aFn _ 0 k k2
     rw [k2] at h
     simp only [Nat.zero_add, Int.toNat_natCast] at h
     simp at k1
     obtain ⟨l, b1, b2⟩ := aMj hg f _ out res (by omega) h he
     refine ⟨l, b1, ?_⟩
     rw [hsp]
     have hd : s.drop (i + w.length) = 34 :: (r ++ 34 :: w') := by
      rw [← a1]
      have hlt : i + w.length < s.length := by omega
      rw [List.drop_eq_getElem_cons hlt]
      congr 1
      rw [nx, List.getD, List.getElem?_eq_getElem hlt] at h2
      exact h2
     have hd2 : s.drop (i + w.length + k + 2) = w' := by
      rw [show i + w.length + k + 2 = (i + w.length) + (k + 2) by omega, ← List.drop_drop, hd]
      rw [show k + 2 = (k + 1) + 1 by omega, List.drop_succ_cons, ← a2, bZp]
     rw [hd2] at b2
     rw [hd]
     have := eEp (w := w ++ 34 :: (r ++ [34])) (p := i) (u := w') (by
      have e : i + (w ++ 34 :: (r ++ [34])).length = i + w.length + k + 2 := by simp; omega
      rw [e]; exact b2) (hgap.app (by simpa using Gap.rem r [] a3 .nil))
     simpa using this
   ·rw [if_neg h2] at h
    obtain ⟨rs, c1, c2⟩ := aT h
    have hu : s.drop (i + w.length) ≠ [] := by
     intro h
     have := congrArg List.length h
     simp at this
     omega
    obtain ⟨rs', d1, d2⟩ := bRy (f := g) hu (by simp; omega)
    rw [c1] at d1
    cases d1
    by_cases h4 : rs.2.2.2.1 = 0
    ·rw [if_pos h4] at c2
     obtain ⟨e1, e2, e3, e4⟩ := d2 h4
     rw [if_neg (by omega)] at c2
     simp at e2
     obtain ⟨l, b1, b2⟩ := aMj hg f _ _ res (by omega) c2 he
     refine ⟨⟨rs.1, rs.2.1, rs.2.2.1, ((i + w.length : Nat) : Int)⟩ :: l, by rw [b1]; simp, ?_⟩
     rw [hsp]
     refine .tok w _ i _ rs l hgap c1 h4 rfl e1 (by simp; omega) e3 ?_
     rw [List.drop_drop]
     exact b2
    ·rw [if_neg h4] at c2
     cases c2
     exact absurd he h4
end Go.Dd

namespace Go.Dd
open Go.Proofs
def dX (st : PSt) : Option (Tok × PSt) :=
 (bN st 0).bind fun t => if t.kind = 0 then none else if 2 ≤ st.toks.length then some (t, { st with toks := st.toks.drop 1 }) else none
def jW (st : PSt) (kind : Int) (text : List Nat) : Option (Tok × PSt) :=
 (eD st kind text).bind fun c => if c then dX st else (bN st 0).bind fun t => some (z4, bS st t 13)
def cAb (st : PSt) : Option PSt := (eD st 0 []).bind fun c => if c then some st else (bN st 0).bind fun t => some (bS st t 13)
def lN (st : PSt) (kind : Int) (l : List (List Nat)) : Option (List (List Nat) × PSt) :=
 (jW st kind []).bind fun r => some (l ++ [r.1.text], if r.2.err = 0 ∧ l.length = 4 then bS r.2 r.1 18 else r.2)
def qT (st : PSt) : Option (Bool × PSt) :=
 (dX st).bind fun r => if r.2.deep = 20 then some (false, bS r.2 r.1 14) else some (true, { r.2 with deep := wJ (r.2.deep + 1) })
def rN (st : PSt) : Option ((Node × Bool) × PSt) :=
 (bN st 0).bind fun t => (eD st 3 [45]).bind fun c1 => (if c1 then (bN st 1).bind fun u => some (decide (u.kind = 4) && decide (u.pos = wJ (t.pos + 1))) else some false).bind fun c =>
  if c then (dX st).bind fun r => (dX r.2).bind fun q => some ((.mk 1 [] (wJ (0 - q.1.num)) [] [] [], true), q.2)
  else (eD st 4 []).bind fun c => if c then (dX st).bind fun r => some ((.mk 1 [] r.1.num [] [] [], true), r.2)
  else (eD st 5 []).bind fun c => if c then (dX st).bind fun r => some ((.mk 2 r.1.text 0 [] [] [], true), r.2)
  else (eD st 6 []).bind fun c => if c then (dX st).bind fun r => some ((.mk 3 r.1.text 0 [] [] [], true), r.2)
  else some ((zN, false), st)
def pP : Nat → List (List Nat) → PSt → Option (List (List Nat) × PSt)
 | 0, _, _ => none
 | f + 1, l, st => (eD st 1 []).bind fun c => if c then (dX st).bind fun r => pP f (l ++ [r.1.text]) r.2 else (jW st 10 [124]).bind fun r => some (l, r.2)
def oU (f : Nat) (st : PSt) : Option (List (List Nat) × PSt) :=
 (eD st 10 [124]).bind fun c => if c then (dX st).bind fun r => pP f [] r.2 else some ([], st)
def PD (p : Pos) (s : DV) (i : Nat) (st : PSt) : Pos × Option Ob := (p, some (.row .ex [s, .i .i64 (i : Int), .i .i64 st.deep, .i .i64 st.err, .i .i64 st.pos]))
def TD (I : Im) (s : DV) (i : Nat) (l : List Tok) : Prop := ∃ T, TS' I s T ∧ T.drop i = l ∧ 1 ≤ l.length
theorem TD.mono {I J : Im} (g : ILe I J) {s : DV} {i : Nat} {l : List Tok} (H : TD I s i l) : TD J s i l := by
 obtain ⟨T, a, b⟩ := H
 exact ⟨T, a.mono g, b⟩
theorem TD.one {I : Im} {s : DV} {i : Nat} {l : List Tok} (H : TD I s i l) : s.one = true := by
 obtain ⟨T, a, b⟩ := H
 exact a.2.one
theorem cIr (n : Nat) (x y : DV) (h : Hp) : aI (n + 1) 73 [x, y] h = s73 (aI n) n x y h := by kernel_rfl
theorem cMz (n : Nat) (x y z : DV) (h : Hp) : aI (n + 1) 71 [x, y, z] h = s71 (aI n) n x y z h := by kernel_rfl
theorem cQk (n : Nat) (x y z : DV) (h : Hp) : aI (n + 1) 68 [x, y, z] h = s68 (aI n) n x y z h := by kernel_rfl
theorem aZd (n : Nat) (x : DV) (h : Hp) : aI (n + 1) 69 [x] h = s69 (aI n) n x h := by kernel_rfl
theorem aYz (n : Nat) (x y z : DV) (h : Hp) : aI (n + 1) 47 [x, y, z] h = s47 (aI n) n x y z h := by kernel_rfl
theorem cQq (n : Nat) (x y z : DV) (h : Hp) : aI (n + 1) 70 [x, y, z] h = s70 (aI n) n x y z h := by kernel_rfl
theorem bOd (n : Nat) (x : DV) (h : Hp) : aI (n + 1) 130 [x] h = s130 (aI n) n x h := by kernel_rfl
theorem cFb (n : Nat) (x : DV) (h : Hp) : aI (n + 1) 128 [x] h = s128 (aI n) n x h := by kernel_rfl
theorem cNm (n : Nat) (x : DV) (h : Hp) : aI (n + 1) 45 [x] h = s45 (aI n) n x h := by kernel_rfl
section
variable {I : Im} {A L : Ls} {h : Hp} {p : Pos} {s : DV} {i : Nat} {st : PSt}
theorem eU (S : Sy I A [PD p s i st] L h) (T : TD I s i st.toks) {k : Nat} {t : Tok} (hk : bN st k = some t) (hk' : k ≤ 10) :
 Ev (fun n => aI n 73 [.p p 0, .i .i64 (Int.ofNat k)] h) (fun v h' => v = .a (tc t) ∧ Sy I A [PD p s i st] L h') := by
 have hs := T.one
 obtain ⟨T, T1, T2, T3⟩ := T
 have hl := T1.1
 have hlen : st.toks.length = T.length - i := by rw [← T2]; simp
 unfold bN at hk
 rw [← T2, List.getElem?_drop] at hk
 refine Ev.enter (fun n => cIr n _ _ h) ?_
 unfold s73
 unfold PD at S
 refine wa fun _ _ _ => ?_; refine wn (wf ?_); refine wq ?_
 refine eAx ?_
 have e1 : IntKind.i64.wrap ((i : Int) + Int.ofNat k) = ((i + k : Nat) : Int) := by
  rw [dW _ (by simp; omega) (by simp [bG] at hl ⊢; omega)]
  simp
 rw [e1]
 refine wn (wf ?_); refine wq ?_
 refine Ev.op (T1.2.len _) (eBo (fun e2 => ?_) (fun e2 => ?_))
 ·refine yt (wn (wf ?_)); refine wq ?_; refine wn (wf ?_); refine wq ?_
  refine Ev.op (T1.2.len _) (eBq ?_)
  have e3 : IntKind.i64.wrap ((T.length : Int) - Int.ofNat 1) = ((T.length - 1 : Nat) : Int) := by
   rw [dW _ (by simp; omega) (by simp [bG] at hl ⊢; omega)]
   simp; omega
  rw [e3]
  have hk2 : T[T.length - 1]? = some t := by
   rw [show i + min k ((T.drop i).length - 1) = T.length - 1 by simp; omega] at hk
   exact hk
  obtain ⟨b, o, a1, a2⟩ := T1.at (by assumption) hk2
  refine Ev.op (a1 _) (Ev.op a2 ?_)
  refine wt fun _ _ => ?_; refine ws ?_
  exact eAs ⟨rfl, Sy.dropL (by assumption)⟩
 ·refine yj (wn (wf ?_)); refine wq ?_; refine wn (wf ?_); refine wq ?_
  refine eAx ?_
  rw [e1]
  have hk2 : T[i + k]? = some t := by
   rw [show i + min k ((T.drop i).length - 1) = i + k by simp; omega] at hk
   exact hk
  obtain ⟨b, o, a1, a2⟩ := T1.at (by assumption) hk2
  refine Ev.op (a1 _) (Ev.op a2 ?_)
  refine wt fun _ _ => ?_; refine ws ?_
  exact eAs ⟨rfl, Sy.dropL (by assumption)⟩
theorem iU (S : Sy I A [PD p s i st] L h) (hs : s.one = true) (t : Tok) (e : Int) :
 Ev (fun n => aI n 71 [.p p 0, .a (tc t), .i .i64 e] h) (fun v h' => v = .t [] ∧ Sy I A [PD p s i (bS st t e)] L h') := by
 refine Ev.enter (fun n => cMz n _ _ _ h) ?_
 unfold s71
 refine wb fun _ _ _ => ?_; refine wn (wf ?_); refine wq ?_
 refine eAv (fun e1 => ?_) (fun e1 => ?_)
 ·refine yt (wn (wf ?_)); refine wv fun _ _ => ?_; refine wf ?_; refine wl ?_; refine wn (wf ?_); refine wv fun _ _ => ?_
  have : bS st t e = { st with pos := t.pos, err := e } := by simp at e1; simp [bS, e1]
  rw [this]
  exact eAs ⟨rfl, dp⟩
 ·refine yj ?_
  have : bS st t e = st := by simp at e1; simp [bS, e1]
  rw [this]
  exact eAs ⟨rfl, dp⟩
theorem cM (S : Sy I A [PD p s i st] L h) (T : TD I s i st.toks) {kind : Int} {text : List Nat} {c : Bool} (hc : eD st kind text = some c) :
 Ev (fun n => aI n 68 [.p p 0, .i .i64 kind, .s text] h) (fun v h' => v = .b c ∧ Sy I A [PD p s i st] L h') := by
 have hs := T.one
 unfold eD at hc
 obtain ⟨t, ht, hc⟩ := aT hc
 simp only [aZ] at hc
 refine Ev.enter (fun n => cQk n _ _ _ h) ?_
 unfold s68
 refine eAr (eU (k := 0) S T ht (by omega)) ?_
 rintro _ _ ⟨rfl, S1⟩
 refine wa fun _ _ _ => ?_; refine wt fun _ _ => ?_; refine wn (wf ?_); refine wq ?_
 refine eAv (fun e1 => ?_) (fun e1 => ?_)
 ·refine zt (wf (zt ?_)); refine wl ?_; refine zt (wm (zt ?_))
  refine eAv (fun e2 => ?_) (fun e2 => ?_)
  ·refine ap (zt (wm (zt ?_)))
   refine eCu (fun e3 => ?_) (fun e3 => ?_)
   ·refine zt (wm (yg (yg (yg (yg (zt (ap (ap ?_))))))))
    exact eAs ⟨by rw [← hc]; simp at e1; simp [e1, e2, e3], dp⟩
   ·refine zt (wm (zf (wf (zf ?_)))); refine wl ?_; refine zf (wm (zf ?_))
    refine eCu (fun e4 => ?_) (fun e4 => ?_)
    ·refine zt (aq (ap ?_))
     exact eAs ⟨by rw [← hc]; simp at e1; simp [e1, e2, e4], dp⟩
    ·refine zt (aq (ap ?_))
     exact eAs ⟨by rw [← hc]; simp [e3, e4], dp⟩
  ·refine ap (yf (yf (yf (yu (yu (yu (yu (yf (aq ?_)))))))))
   exact eAs ⟨by rw [← hc]; simp [e2], dp⟩
 ·refine yf (yf (yf (yf (aq (yf (yf (yf (yu (yu (yu (yu (yf (aq ?_)))))))))))))
  exact eAs ⟨by rw [← hc]; simp at e1; simp [e1], dp⟩
theorem cG (S : Sy I A [PD p s i st] L h) (T : TD I s i st.toks) {t : Tok} {st' : PSt} (ht : dX st = some (t, st')) :
 Ev (fun n => aI n 69 [.p p 0] h) (fun v h' => v = .a (tc t) ∧ ∃ i', Sy I A [PD p s i' st'] L h' ∧ TD I s i' st'.toks) := by
 have hs := T.one
 unfold dX at ht
 obtain ⟨u, hu, ht⟩ := aT ht
 split at ht
 ·cases ht
 ·split at ht
  ·rename_i h2
   simp only [aZ, bT] at ht
   obtain ⟨rfl, rfl⟩ := ht
   refine Ev.enter (fun n => aZd n _ h) ?_
   unfold s69
   refine wa fun _ _ _ => ?_
   refine eAr (eU (k := 0) (by assumption) T hu (by omega)) ?_
   rintro _ _ ⟨rfl, S1⟩
   obtain ⟨T, T1, T2, T3⟩ := T
   have hl := T1.1
   have hlen : st.toks.length = T.length - i := by rw [← T2]; simp
   refine wa fun _ _ _ => ?_; refine wt fun _ _ => ?_; refine wn (wf ?_); refine wq ?_
   refine eAx ?_
   rw [gC (by simp [bG] at hl ⊢; omega)]
   refine wn (wf ?_); refine wv fun _ _ => ?_; refine ws ?_; refine wt fun _ _ => ?_; refine ws ?_
   refine eAs ⟨rfl, i + 1, dp, T, T1, ?_, ?_⟩
   ·show _ = st.toks.drop 1
    rw [← T2, List.drop_drop]
   ·show 1 ≤ (st.toks.drop 1).length
    simp; omega
  ·cases ht
theorem iL (S : Sy I A [PD p s i st] L h) (T : TD I s i st.toks) {kind : Int} {text : List Nat} {t : Tok} {st' : PSt} (ht : jW st kind text = some (t, st')) :
 Ev (fun n => aI n 47 [.p p 0, .i .i64 kind, .s text] h) (fun v h' => v = .a (tc t) ∧ ∃ i', Sy I A [PD p s i' st'] L h' ∧ TD I s i' st'.toks) := by
 unfold jW at ht
 obtain ⟨c, hc, ht⟩ := aT ht
 refine Ev.enter (fun n => aYz n _ _ _ h) ?_
 unfold s47
 refine wa fun _ _ _ => ?_
 refine eAr (cM (by assumption) T hc) ?_
 rintro _ _ ⟨rfl, S1⟩
 cases c with
 | true =>
  refine an (yj ?_)
  refine eAr (cG (by assumption) T ht) ?_
  rintro _ _ ⟨rfl, i', S2, T2⟩
  refine wt fun _ _ => ?_; refine ws ?_
  exact eAs ⟨rfl, i', dp, T2⟩
 | false =>
  refine ao (yt ?_)
  obtain ⟨u, hu, ht⟩ := aT (by simpa using ht)
  simp only [aZ, bT] at ht
  obtain ⟨rfl, rfl⟩ := ht
  refine eAr (eU (k := 0) (by assumption) T hu (by omega)) ?_
  rintro _ _ ⟨rfl, S2⟩
  refine eAr (iU (by assumption) T.one u _) ?_
  rintro _ _ ⟨rfl, S3⟩
  refine wd ?_; refine wt fun _ _ => ?_; refine ws ?_
  exact eAs ⟨rfl, i, dp, by rw [bJ]; exact T⟩
theorem dWz {sz bytes : Nat} {x : DV} {h : Hp} {c : List DV} (e : pA sz x h = some (0, c)) : aY sz bytes .l0 x h = some (.l0, h) := by
 unfold aY
 rw [e]
 rfl
theorem pO (S : Sy I A [PD p s i st] L h) (T : TD I s i st.toks) {kind : Int} {x : DV} {l : List (List Nat)} (N : SS I x l) (hl : l.length + 1 ≤ bG) {l' : List (List Nat)} {st' : PSt} (ht : lN st kind l = some (l', st')) :
 Ev (fun n => aI n 70 [.p p 0, .i .i64 kind, x] h) (fun v h' => ∃ J i', ILe I J ∧ Sy J A [PD p s i' st'] L h' ∧ TD J s i' st'.toks ∧ SS J v l') := by
 have hs := T.one
 unfold lN at ht
 obtain ⟨⟨u, st1⟩, hu, ht⟩ := aT ht
 simp only [aZ, bT] at ht
 obtain ⟨rfl, rfl⟩ := ht
 refine Ev.enter (fun n => cQq n _ _ _ h) ?_
 unfold s70 cZg
 refine eAr (iL S T hu) ?_
 rintro _ _ ⟨rfl, i1, S1, T1⟩
 refine wa fun _ _ _ => ?_; refine wt fun _ _ => ?_
 unfold cXf
 have fin : ∀ (st2 : PSt) (b : Pos) (h' : Hp), st2.toks = st1.toks → Sy I A [PD p s i1 st2] ((b, some (.row .ex (tc u))) :: L) h' →
  Ev (fun n => aYu (aI n) n x (.p b 0) h') (fun v h' => ∃ J i', ILe I J ∧ Sy J A [PD p s i' st2] L h' ∧ TD J s i' st2.toks ∧ SS J v (l ++ [u.text])) := by
  intro st2 b h' e2 S2
  unfold aYu
  have hr : ∀ m, m ≤ bG → m * 16 ≤ fH := by intro m hm; simp [fH, bG] at hm ⊢; omega
  obtain ⟨x1, h1, B1, q1, S3, G1⟩ : ∃ x1 h1 B1, aY 1 16 .l0 x h' = some (x1, h1) ∧ Sy I (B1 ++ A) [PD p s i1 st2] ((b, some (.row .ex (tc u))) :: L) h1 ∧ Gr I 1 B1 x1 l.length (l.map .s) := by
   have hsrc := N.2.src S2
   by_cases h0 : l.length = 0
   ·have : l = [] := List.length_eq_zero_iff.1 h0
    subst this
    exact ⟨.l0, h', [], dWz hsrc, S2, Gr.nil I 1⟩
   ·obtain ⟨s', h1, A', a1, a2, a3⟩ := (Gr.nil I 1).app (bytes := 16) (A0 := A) (h := h') (by simpa using S2) hsrc (by simp) (by intro v hv; obtain ⟨y, _, rfl⟩ := List.mem_map.1 hv; rfl) h0 (by have := hr l.length (by omega); omega)
    exact ⟨s', h1, A', a1, a2, by simpa using a3⟩
  refine Ev.op q1 ?_
  refine wf ?_; refine wl ?_
  refine eBm S3 (cs := [.s u.text]) rfl ?_
  intro b3 h3 S4
  obtain ⟨x4, h4, B4, e4, S5, G4⟩ := G1.app S4 (nG S4 (n := 1) (bX) rfl (aU rfl aX)) rfl (aU rfl aX) (by omega) (hr _ (by omega))
  refine Ev.op e4 ?_
  obtain ⟨J, gJ, S6, F6⟩ := G4.freeze S5
  refine eAs ⟨J, i1, gJ, dp, by rw [e2]; exact T1.mono gJ, by simp; omega, ?_⟩
  simpa using F6
 refine wn (wf ?_); refine wq ?_
 refine eAv (fun e1 => ?_) (fun e1 => ?_)
 ·refine zt (wm (zt ?_))
  refine Ev.op (N.2.len _) ?_
  refine zt ?_
  refine eAv (fun e2 => ?_) (fun e2 => ?_)
  ·refine ap (yt ?_); refine ws ?_
   refine eAr (iU (by assumption) hs u _) ?_
   rintro _ _ ⟨rfl, S3⟩
   have : (if st1.err = 0 ∧ l.length = 4 then bS st1 u 18 else st1) = bS st1 u 18 := if_pos ⟨e1, by simp at e2; omega⟩
   simp only [this]
   exact fin _ _ _ (bJ _ _ _) S3
  ·refine ap (yj ?_)
   have : (if st1.err = 0 ∧ l.length = 4 then bS st1 u 18 else st1) = st1 := if_neg (fun hh => e2 (by rw [hh.2]; rfl))
   simp only [this]
   exact fin _ _ _ rfl (by assumption)
 ·refine yf (yf (yf (aq (yj ?_))))
  have : (if st1.err = 0 ∧ l.length = 4 then bS st1 u 18 else st1) = st1 := if_neg (fun hh => e1 hh.1)
  simp only [this]
  exact fin _ _ _ rfl (by assumption)
theorem aDe (S : Sy I A [PD p s i st] L h) (T : TD I s i st.toks) {c : Bool} {st' : PSt} (hm : qT st = some (c, st')) :
 Ev (fun n => aI n 130 [.p p 0] h) (fun v h' => v = .b c ∧ ∃ i', Sy I A [PD p s i' st'] L h' ∧ TD I s i' st'.toks) := by
 have hs := T.one
 unfold qT at hm
 obtain ⟨⟨t, st1⟩, ht, hm⟩ := aT hm
 refine Ev.enter (fun n => bOd n _ h) ?_
 unfold s130
 refine eAr (cG S T ht) ?_
 rintro _ _ ⟨rfl, i1, S1, T1⟩
 refine wa fun _ _ _ => ?_; refine wt fun _ _ => ?_; refine wn (wf ?_); refine wq ?_
 refine eAv (fun e1 => ?_) (fun e1 => ?_)
 ·refine yt ?_; refine ws ?_
  rw [if_pos (show st1.deep = 20 from e1)] at hm
  simp only [aZ, bT] at hm
  obtain ⟨rfl, rfl⟩ := hm
  refine eAr (iU (by assumption) hs t _) ?_
  rintro _ _ ⟨rfl, S3⟩
  exact eAs ⟨rfl, i1, dp, by rw [bJ]; exact T1⟩
 ·refine yj (wn (wf ?_)); refine wq ?_
  rw [if_neg (show ¬ st1.deep = 20 from e1)] at hm
  simp only [aZ, bT] at hm
  obtain ⟨rfl, rfl⟩ := hm
  refine eAx ?_
  refine wn (wf ?_); refine wv fun _ _ => ?_
  exact eAs ⟨rfl, i1, dp, T1⟩
theorem aFk (S : Sy I A [PD p s i st] L h) (T : TD I s i st.toks) {x : Node} {c : Bool} {st' : PSt} (hm : rN st = some ((x, c), st')) :
 Ev (fun n => aI n 128 [.p p 0] h) (fun v h' => ∃ i' cs, v = .t [.a cs, .b c] ∧ Sy I A [PD p s i' st'] L h' ∧ TD I s i' st'.toks ∧ NV I x cs) := by
 have hs := T.one
 unfold rN at hm
 obtain ⟨t, ht, hm⟩ := aT hm
 obtain ⟨c1, hc1, hm⟩ := aT hm
 obtain ⟨d, hd, hm⟩ := aT hm
 refine Ev.enter (fun n => cFb n _ h) ?_
 unfold s128
 refine wa fun _ _ _ => ?_
 refine eAr (eU (k := 0) (by assumption) T ht (by omega)) ?_
 rintro _ _ ⟨rfl, S1⟩
 refine wa fun _ _ _ => ?_; refine wt fun _ _ => ?_
 refine eAr (cM (by assumption) T hc1) ?_
 rintro _ _ ⟨rfl, S2⟩
 have pos : ∀ (b3 b1 : Pos) (h' : Hp), d = true → Sy I A [PD p s i st] ((b3, some (.row .ex (tc t))) :: (b1, some (.row .ex [.i .i64 (Int.ofNat 0), .s [], .i .i64 (Int.ofNat 0), .l0, .l0, .l0])) :: L) h' →
  Ev (fun n => bnd (aI n 69 [.p p 0] h') fun v19 h19 =>
  bnd (aI n 69 [.p p 0] h19) fun v20 h20 =>
  bnd (bY 2 v20 h20) fun v21 h21 =>
  bnd (lS .neg v21 h21) fun v22 h22 =>
  bnd (bC [(.i .i64 (Int.ofNat 0)), (.s []), (.i .i64 (Int.ofNat 0)), .l0, .l0, .l0] [(0, 1, (.i .i64 (Int.ofNat 1))), (2, 1, v22)] h22) fun v23 h23 =>
  bnd (aC 6 (.p b1 0) v23 h23) fun _ h24 =>
  bnd (aD 6 (.p b1 0) h24) fun v25 _ =>
  some (.t [v25, (.b true)], h24)) (fun v h' => ∃ i' cs, v = .t [.a cs, .b c] ∧ Sy I A [PD p s i' st'] L h' ∧ TD I s i' st'.toks ∧ NV I x cs) := by
  intro b3 b1 h' hd S'
  subst hd
  rw [if_pos rfl] at hm
  obtain ⟨⟨t1, st1⟩, ht1, hm⟩ := aT hm
  obtain ⟨⟨t2, st2⟩, ht2, hm⟩ := aT hm
  simp only [aZ, bT] at hm
  obtain ⟨⟨rfl, rfl⟩, rfl⟩ := hm
  refine eAr (cG S' T ht1) ?_
  rintro _ _ ⟨rfl, i3, S3, T3⟩
  refine eAr (cG S3 T3 ht2) ?_
  rintro _ _ ⟨rfl, i4, S4, T4⟩
  refine wp ?_
  refine eEc ?_
  refine wd ?_; refine wt fun _ _ => ?_; refine ws ?_
  exact eAs ⟨i4, _, rfl, dp, T4, NV.flat _ _ _⟩
 have neg : ∀ (b3 b1 : Pos) (h' : Hp), d = false → Sy I A [PD p s i st] ((b3, some (.row .ex (tc t))) :: (b1, some (.row .ex [.i .i64 (Int.ofNat 0), .s [], .i .i64 (Int.ofNat 0), .l0, .l0, .l0])) :: L) h' →
  Ev (fun n => bnd (aI n 68 [.p p 0, (.i .i64 (Int.ofNat 4)), (.s [])] h') fun v26 h26 =>
  aV v26 (
   bnd (aI n 69 [.p p 0] h26) fun v27 h27 =>
   bnd (bY 2 v27 h27) fun v28 h28 =>
   bnd (bC [(.i .i64 (Int.ofNat 0)), (.s []), (.i .i64 (Int.ofNat 0)), .l0, .l0, .l0] [(0, 1, (.i .i64 (Int.ofNat 1))), (2, 1, v28)] h28) fun v29 h29 =>
   bnd (aC 6 (.p b1 0) v29 h29) fun _ h30 =>
   bnd (aD 6 (.p b1 0) h30) fun v31 _ =>
   some (.t [v31, (.b true)], h30)) (
   bnd (aI n 68 [.p p 0, (.i .i64 (Int.ofNat 5)), (.s [])] h26) fun v32 h32 =>
   aV v32 (
    bnd (aI n 69 [.p p 0] h32) fun v33 h33 =>
    bnd (bY 1 v33 h33) fun v34 h34 =>
    bnd (bC [(.i .i64 (Int.ofNat 0)), (.s []), (.i .i64 (Int.ofNat 0)), .l0, .l0, .l0] [(0, 1, (.i .i64 (Int.ofNat 2))), (1, 1, v34)] h34) fun v35 h35 =>
    bnd (aC 6 (.p b1 0) v35 h35) fun _ h36 =>
    bnd (aD 6 (.p b1 0) h36) fun v37 _ =>
    some (.t [v37, (.b true)], h36)) (
    bnd (aI n 68 [.p p 0, (.i .i64 (Int.ofNat 6)), (.s [])] h32) fun v38 h38 =>
    aV v38 (
     bnd (aI n 69 [.p p 0] h38) fun v39 h39 =>
     bnd (bY 1 v39 h39) fun v40 h40 =>
     bnd (bC [(.i .i64 (Int.ofNat 0)), (.s []), (.i .i64 (Int.ofNat 0)), .l0, .l0, .l0] [(0, 1, (.i .i64 (Int.ofNat 3))), (1, 1, v40)] h40) fun v41 h41 =>
     bnd (aC 6 (.p b1 0) v41 h41) fun _ h42 =>
     bnd (aD 6 (.p b1 0) h42) fun v43 _ =>
     some (.t [v43, (.b true)], h42)) (
     bnd (bC [(.i .i64 (Int.ofNat 0)), (.s []), (.i .i64 (Int.ofNat 0)), .l0, .l0, .l0] [] h38) fun v44 h44 =>
     bnd (aC 6 (.p b1 0) v44 h44) fun _ h45 =>
     bnd (aD 6 (.p b1 0) h45) fun v46 _ =>
     some (.t [v46, (.b false)], h45))))) (fun v h' => ∃ i' cs, v = .t [.a cs, .b c] ∧ Sy I A [PD p s i' st'] L h' ∧ TD I s i' st'.toks ∧ NV I x cs) := by
  intro b3 b1 h' hd S'
  subst hd
  rw [if_neg (by simp)] at hm
  obtain ⟨c4, hc4, hm⟩ := aT hm
  refine eAr (cM S' T hc4) ?_
  rintro _ _ ⟨rfl, S3⟩
  cases c4 with
  | true =>
   refine yt ?_
   rw [if_pos rfl] at hm
   obtain ⟨⟨t1, st1⟩, ht1, hm⟩ := aT hm
   simp only [aZ, bT] at hm
   obtain ⟨⟨rfl, rfl⟩, rfl⟩ := hm
   refine eAr (cG (by assumption) T ht1) ?_
   rintro _ _ ⟨rfl, i3, S3, T3⟩
   refine wp ?_; refine wd ?_; refine wt fun _ _ => ?_; refine ws ?_
   exact eAs ⟨i3, _, rfl, dp, T3, NV.flat _ _ _⟩
  | false =>
   refine yj ?_
   rw [if_neg (by simp)] at hm
   obtain ⟨c5, hc5, hm⟩ := aT hm
   refine eAr (cM S3 T hc5) ?_
   rintro _ _ ⟨rfl, S4⟩
   cases c5 with
   | true =>
    refine yt ?_
    rw [if_pos rfl] at hm
    obtain ⟨⟨t1, st1⟩, ht1, hm⟩ := aT hm
    simp only [aZ, bT] at hm
    obtain ⟨⟨rfl, rfl⟩, rfl⟩ := hm
    refine eAr (cG (by assumption) T ht1) ?_
    rintro _ _ ⟨rfl, i3, S3, T3⟩
    refine wp ?_; refine wd ?_; refine wt fun _ _ => ?_; refine ws ?_
    exact eAs ⟨i3, _, rfl, dp, T3, NV.flat _ _ _⟩
   | false =>
    refine yj ?_
    rw [if_neg (by simp)] at hm
    obtain ⟨c6, hc6, hm⟩ := aT hm
    refine eAr (cM S4 T hc6) ?_
    rintro _ _ ⟨rfl, S5⟩
    cases c6 with
    | true =>
     refine yt ?_
     rw [if_pos rfl] at hm
     obtain ⟨⟨t1, st1⟩, ht1, hm⟩ := aT hm
     simp only [aZ, bT] at hm
     obtain ⟨⟨rfl, rfl⟩, rfl⟩ := hm
     refine eAr (cG (by assumption) T ht1) ?_
     rintro _ _ ⟨rfl, i3, S3, T3⟩
     refine wp ?_; refine wd ?_; refine wt fun _ _ => ?_; refine ws ?_
     exact eAs ⟨i3, _, rfl, dp, T3, NV.flat _ _ _⟩
    | false =>
     refine yj ?_; refine wd ?_; refine wt fun _ _ => ?_; refine ws ?_
     rw [if_neg (by simp)] at hm
     simp only [aZ, bT] at hm
     obtain ⟨⟨rfl, rfl⟩, rfl⟩ := hm
     exact eAs ⟨i, _, rfl, dp, T, NV.flat _ _ _⟩
 cases c1 with
 | false =>
  simp only [Bool.false_eq_true, if_false, aZ] at hd
  refine yf (yf (yf (yf (aq (yf (yf (yf (yf (yf ?_)))))))))
  refine Ev.cnd rfl ?_
  refine yf (yf (aq (yj ?_)))
  exact neg _ _ _ hd.symm S2
 | true =>
  rw [if_pos rfl] at hd
  obtain ⟨u, hu, hd⟩ := aT hd
  simp only [aZ] at hd
  refine zt (wm (zt ?_))
  refine eAr (eU (k := 1) S2 T hu (by omega)) ?_
  rintro _ h7 ⟨rfl, S3⟩
  refine zt ?_; refine wp ?_; refine zt ?_
  refine eAv (fun e1 => ?_) (fun e1 => ?_)
  ·refine ap (zt (wm (zt ?_)))
   refine eAr (eU (k := 1) S3 T hu (by omega)) ?_
   rintro _ _ ⟨rfl, S4⟩
   refine zt ?_; refine wp ?_; refine zt (wf (zt ?_)); refine wl ?_
   refine Ev.cnd ?_ ?_
   ·rw [Bool.and_true]
    exact bZz (S := S3) (bX) rfl rfl (by simp [DV.beq])
   refine zt ?_
   refine eAx ?_
   refine zt ?_
   refine eAv (fun e2 => ?_) (fun e2 => ?_)
   ·refine ap (yt ?_)
    exact pos _ _ _ (by rw [← hd, decide_eq_true (show u.kind = 4 from e1), decide_eq_true (show u.pos = wJ (t.pos + 1) from e2)]; rfl) S4
   ·refine ap (yj ?_)
    exact neg _ _ _ (by rw [← hd, decide_eq_true (show u.kind = 4 from e1), decide_eq_false (show ¬ u.pos = wJ (t.pos + 1) from e2)]; rfl) S4
  ·refine ap (yf (yf (yf (yf (yf ?_)))))
   refine Ev.cnd rfl ?_
   refine yf (yf (aq (yj ?_)))
   exact neg _ _ _ (by rw [← hd, decide_eq_false (show ¬ u.kind = 4 from e1)]; rfl) S3
theorem wB : ∀ (f j : Nat) (I : Im) (B A L : Ls) (h : Hp) (p : Pos) (s x : DV) (i : Nat) (st : PSt) (l l' : List (List Nat)) (st' : PSt), Sy I (B ++ A) [PD p s i st] L h → Gr I 1 B x l.length (l.map .s) → l.length + f ≤ bG →
 TD I s i st.toks → pP f l st = some (l', st') →
 Ev (fun n => rO (aI n) n (n - j) (.p p 0) x h) (fun v h' => ∃ J i', ILe I J ∧ Sy J A [PD p s i' st'] L h' ∧ TD J s i' st'.toks ∧ SS J v l')
 | 0, j, I, B, A, L, h, p, s, x, i, st, l, l', st', S, G, hl, T, hm => by cases hm
 | f + 1, j, I, B, A, L, h, p, s, x, i, st, l, l', st', S, G, hl, T, hm => by
  unfold pP at hm
  obtain ⟨c, hc, hm⟩ := aT hm
  refine eAw j (ll := fun n m => rO (aI n) n m (.p p 0) x h) (bb := fun n m => aIh (aI n) n (rO (aI n) n m) (.p p 0) x h) (fun _ _ => rfl) ?_
  unfold aIh jF kG
  refine eAr (cM S T hc) ?_
  rintro _ _ ⟨rfl, S1⟩
  cases c with
  | false =>
   refine yj ?_
   rw [if_neg (by simp)] at hm
   obtain ⟨⟨t, st1⟩, ht, hm⟩ := aT hm
   simp only [aZ, bT] at hm
   obtain ⟨rfl, rfl⟩ := hm
   refine eAr (iL S1 T ht) ?_
   rintro _ _ ⟨rfl, i2, S2, T2⟩
   obtain ⟨J, gJ, S3, F3⟩ := G.freeze S2
   exact eAs ⟨J, i2, gJ, S3, T2.mono gJ, by omega, F3⟩
  | true =>
   refine yt ?_
   rw [if_pos rfl] at hm
   obtain ⟨⟨t, st1⟩, ht, hm⟩ := aT hm
   refine eAr (cG S1 T ht) ?_
   rintro _ _ ⟨rfl, i2, S2, T2⟩
   refine wp ?_
   refine eBm S2 (cs := [.s t.text]) rfl ?_
   intro b3 h3 S3
   have hr : (l.length + 1) * 16 ≤ fH := by simp [fH, bG] at hl ⊢; omega
   obtain ⟨x4, h4, B4, e4, S4, G4⟩ := G.app S3 (nG S3 (n := 1) (bX) rfl (aU rfl aX)) rfl (aU rfl aX) (by omega) hr
   refine Ev.op e4 ?_
   refine wB f (j + 1) I B4 A L h4 p s x4 i2 st1 (l ++ [t.text]) l' st' (dp) ?_ (by simp; omega) T2 hm
   simpa using G4
theorem aEt (f : Nat) (hf : f ≤ bG) (S : Sy I A [PD p s i st] L h) (T : TD I s i st.toks) {l' : List (List Nat)} {st' : PSt} (hm : oU f st = some (l', st')) :
 Ev (fun n => aI n 45 [.p p 0] h) (fun v h' => ∃ J i', ILe I J ∧ Sy J A [PD p s i' st'] L h' ∧ TD J s i' st'.toks ∧ SS J v l') := by
 unfold oU at hm
 obtain ⟨c, hc, hm⟩ := aT hm
 refine Ev.enter (fun n => cNm n _ h) ?_
 unfold s45 bDq bBj
 refine eAr (cM S T hc) ?_
 rintro _ _ ⟨rfl, S1⟩
 unfold bIw
 cases c with
 | false =>
  refine yj ?_
  rw [if_neg (by simp)] at hm
  simp only [aZ, bT] at hm
  obtain ⟨rfl, rfl⟩ := hm
  unfold kG
  exact eAs ⟨I, i, ILe.refl _, S1, T, SS.nil I⟩
 | true =>
  refine yt ?_
  rw [if_pos rfl] at hm
  obtain ⟨⟨t, st1⟩, ht, hm⟩ := aT hm
  unfold bTo bBm cFq
  refine eAr (cG S1 T ht) ?_
  rintro _ _ ⟨rfl, i2, S2, T2⟩
  exact wB f 0 I [] A L _ p s .l0 i2 st1 [] l' st' S2 (Gr.nil I 1) (by simpa using hf) T2 hm
end
end Go.Dd

namespace Go.Dd
open Go.Proofs
def lH : Nat → Node → PSt → Option (Node × PSt)
 | 0, _, _ => none
 | f + 1, x, st => (eD st 1 []).bind fun c => if c then (dX st).bind fun r => lH f (cV r.1.text [x]) r.2 else some (x, st)
def lU (P : PF) (g : Nat) : Nat → Node → PSt → Option (Node × PSt)
 | 0, _, _ => none
 | f + 1, x, st => (eD st 3 []).bind fun c => if c then (dX st).bind fun r => (P r.2).bind fun q => (lH g q.1 q.2).bind fun u => lU P g f (cV r.1.text [x, u.1]) u.2 else some (x, st)
def mF (P : PF) (g : Nat) : Nat → List Nat → List Node → PSt → Option (Node × PSt)
 | 0, _, _, _ => none
 | f + 1, t, ks, st => (eD st 2 []).bind fun c => if c then (dX st).bind fun r => if t.length + r.1.text.length ≤ bG then
  (P r.2).bind fun q => (lH g q.1 q.2).bind fun u => (lU P g g u.1 u.2).bind fun w => mF P g f (t ++ r.1.text) (ks ++ [w.1]) w.2 else none
  else some (cV t ks, st)
def aDs (P : PF) (g : Nat) : PF := fun st => (eD st 1 []).bind fun c => if c then (dX st).bind fun r => some (cV r.1.text [], r.2)
 else (eD st 3 []).bind fun c => if c then (dX st).bind fun r => (P r.2).bind fun q => (lH g q.1 q.2).bind fun u => some (cV r.1.text [u.1], u.2)
 else (eD st 2 []).bind fun c => (if c then some st else (bN st 0).bind fun t => some (bS st t 13)).bind fun st1 => mF P g g [] [] st1
def aRl (P : PF) (g : Nat) : Node → PF := fun x st => (eD st 2 []).bind fun c => if c then (aDs P g st).bind fun m => if 1 ≤ m.1.kids.length ∧ m.1.kids.length + 1 ≤ bG then some (cV m.1.text (x :: m.1.kids), m.2) else none else some (x, st)
def NPostD (I : Im) (A L : Ls) (p : Pos) (s : DV) (x : Node) (st : PSt) (v : DV) (h : Hp) : Prop := ∃ J i cs, v = .a cs ∧ ILe I J ∧ Sy J A [PD p s i st] L h ∧ TD J s i st.toks ∧ NV J x cs
theorem NPostD.le {I J : Im} {A L : Ls} {p : Pos} {s : DV} {x : Node} {st : PSt} (g : ILe I J) : ∀ v h, NPostD J A L p s x st v h → NPostD I A L p s x st v h := by
 rintro v h ⟨K, i, cs, e, g2, r⟩
 exact ⟨K, i, cs, e, g.trans g2, r⟩
def lC (g : FuncId) (f : PF) : Prop := ∀ (I : Im) (A L : Ls) (h : Hp) (p : Pos) (s : DV) (i : Nat) (st : PSt) (x : Node) (st' : PSt), Sy I A [PD p s i st] L h → TD I s i st.toks → f st = some (x, st') →
 Ev (fun n => aI n g [.p p 0] h) (NPostD I A L p s x st')
def bNs (g : FuncId) (f : Node → PF) : Prop := ∀ (I : Im) (A L : Ls) (h : Hp) (p : Pos) (s : DV) (i : Nat) (st : PSt) (x y : Node) (cs : List DV) (st' : PSt), Sy I A [PD p s i st] L h → TD I s i st.toks → NV I x cs → f x st = some (y, st') →
 Ev (fun n => aI n g [.p p 0, .a cs] h) (NPostD I A L p s y st')
theorem bNb (n : Nat) (x y : DV) (h : Hp) : aI (n + 1) 101 [x, y] h = s101 (aI n) n x y h := by kernel_rfl
theorem bUw (n : Nat) (x y : DV) (h : Hp) : aI (n + 1) 102 [x, y] h = s102 (aI n) n x y h := by kernel_rfl
theorem bWg (n : Nat) (x y : DV) (h : Hp) : aI (n + 1) 103 [x, y] h = s103 (aI n) n x y h := by kernel_rfl
theorem cEn (n : Nat) (x : DV) (h : Hp) : aI (n + 1) 104 [x] h = s104 (aI n) n x h := by kernel_rfl
theorem wD : ∀ (f j : Nat) (I : Im) (A L : Ls) (h : Hp) (p : Pos) (s : DV) (i : Nat) (st : PSt) (x y : Node) (cs z : List DV) (st' : PSt) (b3 b4 : Pos), Sy I A [PD p s i st] ((b4, some (.row .ex z)) :: (b3, some (.row .ex cs)) :: L) h →
 z.length = 6 → (∀ v ∈ z, v.one = true) → TD I s i st.toks → NV I x cs → lH f x st = some (y, st') → Ev (fun n => nV (aI n) n (n - j) (.p p 0) (.p b3 0) (.p b4 0) h) (NPostD I A L p s y st')
 | 0, j, I, A, L, h, p, s, i, st, x, y, cs, z, st', b3, b4, S, z1, z2, T, N, hm => by cases hm
 | f + 1, j, I, A, L, h, p, s, i, st, x, y, cs, z, st', b3, b4, S, z1, z2, T, N, hm => by
  unfold lH at hm
  obtain ⟨c, hc, hm⟩ := aT hm
  refine eAw j (ll := fun n m => nV (aI n) n m (.p p 0) (.p b3 0) (.p b4 0) h) (bb := fun n m => xL (aI n) n (nV (aI n) n m) (.p p 0) (.p b3 0) (.p b4 0) h) (fun _ _ => rfl) ?_
  unfold xL fJ
  obtain ⟨l1, o1, b1⟩ := N.shape
  refine eAr (cM S T hc) ?_
  rintro _ _ ⟨rfl, S1⟩
  cases c with
  | false =>
   refine yj ?_; refine ws ?_; refine wt fun _ _ => ?_; refine ws ?_
   rw [if_neg (by simp)] at hm
   simp only [aZ, bT] at hm
   obtain ⟨rfl, rfl⟩ := hm
   exact eAs ⟨I, i, cs, rfl, ILe.refl _, dp, T, N⟩
  | true =>
   refine yt ?_
   rw [if_pos rfl] at hm
   obtain ⟨⟨t, st1⟩, ht, hm⟩ := aT hm
   have Sr := S1.res
   refine eAr (cG Sr T ht) ?_
   rintro _ _ ⟨rfl, i2, S2, T2⟩
   refine wp ?_; refine ws ?_
   refine Ev.cnd ?_ ?_
   ·rw [Bool.and_true]; exact aEq Sr (by repeat (first | exact bX | apply List.Mem.tail)) l1 o1 b1
   refine eBl S2 (by repeat (first | exact Rpl.head _ | apply Rpl.tail)) (fV l1) ?_
   intro h3 S3
   obtain ⟨J, gJ, S4, F4, _⟩ := Fz.built (sz := 6) (n := 1) S3 (by omega) o1
   have N4 : NS J _ [x] := ⟨by simp [bG], cs, F4, eBf (N.mono gJ)⟩
   have N5 := NV.of (I := J) (k := 7) (t := t.text) (m := 0) (SS.nil J) (SS.nil J) N4
   refine wd ?_; refine wt fun _ _ => ?_
   refine (wD f (j + 1) J A L _ p s i2 st1 _ y _ z st' b3 b4 (by assumption) z1 z2 (T2.mono gJ) N5 hm).mono (NPostD.le gJ)
theorem pX (f : Nat) : bNs 101 (lH f) := by
 intro I A L h p s i st x y cs st' S T N hm
 refine Ev.enter (fun n => bNb n _ _ h) ?_
 unfold s101 aHu aUn
 refine wb fun _ _ _ => ?_; refine wa fun _ _ _ => ?_
 exact wD f 0 _ _ _ _ _ _ _ _ _ _ _ _ _ _ _ (by assumption) rfl (by first | assumption | exact bV _ | (repeat (first | exact aX | refine aU (by first | rfl | assumption | exact Fz.one (by assumption)) ?_))) T N hm
theorem tQ {P : PF} (HP : lC 100 P) (g : Nat) : ∀ (f j : Nat) (I : Im) (A L : Ls) (h : Hp) (p : Pos) (s : DV) (i : Nat) (st : PSt) (x y : Node) (cs z : List DV) (st' : PSt) (b3 b4 : Pos), Sy I A [PD p s i st] ((b4, some (.row .ex z)) :: (b3, some (.row .ex cs)) :: L) h →
 z.length = 6 → (∀ v ∈ z, v.one = true) → TD I s i st.toks → NV I x cs → lU P g f x st = some (y, st') → Ev (fun n => oK (aI n) n (n - j) (.p p 0) (.p b3 0) (.p b4 0) h) (NPostD I A L p s y st')
 | 0, j, I, A, L, h, p, s, i, st, x, y, cs, z, st', b3, b4, S, z1, z2, T, N, hm => by cases hm
 | f + 1, j, I, A, L, h, p, s, i, st, x, y, cs, z, st', b3, b4, S, z1, z2, T, N, hm => by
  unfold lU at hm
  obtain ⟨c, hc, hm⟩ := aT hm
  refine eAw j (ll := fun n m => oK (aI n) n m (.p p 0) (.p b3 0) (.p b4 0) h) (bb := fun n m => xM (aI n) n (oK (aI n) n m) (.p p 0) (.p b3 0) (.p b4 0) h) (fun _ _ => rfl) ?_
  unfold xM fR
  obtain ⟨l1, o1, q1⟩ := N.shape
  refine eAr (cM S T hc) ?_
  rintro _ _ ⟨rfl, S1⟩
  cases c with
  | false =>
   refine yj ?_; refine ws ?_; refine wt fun _ _ => ?_; refine ws ?_
   rw [if_neg (by simp)] at hm
   simp only [aZ, bT] at hm
   obtain ⟨rfl, rfl⟩ := hm
   exact eAs ⟨I, i, cs, rfl, ILe.refl _, dp, T, N⟩
  | true =>
   refine yt ?_
   rw [if_pos rfl] at hm
   obtain ⟨⟨t, st1⟩, ht, hm⟩ := aT hm
   obtain ⟨⟨y1, st2⟩, hy1, hm⟩ := aT hm
   obtain ⟨⟨y2, st3⟩, hy2, hm⟩ := aT hm
   refine eAr (cG S1 T ht) ?_
   rintro _ _ ⟨rfl, i2, S2, T2⟩
   refine wp ?_
   refine eAr (HP _ _ _ _ _ _ _ _ _ _ S2 T2 hy1) ?_
   rintro _ _ ⟨J, i5, ds, rfl, g5, S5, T5, N5⟩
   obtain ⟨l5, o5, q5⟩ := N5.shape
   refine wa fun _ _ _ => ?_; refine wt fun _ _ => ?_; refine ws ?_
   refine eAr (pX g _ _ _ _ _ _ _ _ _ _ _ _ (by assumption) T5 N5 hy2) ?_
   rintro _ _ ⟨K, i6, es, rfl, g6, S6, T6, N6⟩
   obtain ⟨l6, o6, q6⟩ := N6.shape
   refine wt fun _ _ => ?_; refine ws ?_; refine ws ?_
   refine eBm (by assumption) (aLt l1 l6) ?_
   intro b7 h7 S7
   have NL7 : NVL K [x, y2] (cs ++ es) := (eBf ((N.mono g5).mono g6)).app (eBf N6)
   obtain ⟨c1, c2⟩ := NL7.shape
   obtain ⟨M, g8, S8, F8, _⟩ := Fz.built (sz := 6) (n := 2) S7 c1 c2
   have N8 : NS M _ [x, y2] := ⟨by simp [bG], _, F8, NL7.mono g8⟩
   have N9 := NV.of (I := M) (k := 7) (t := t.text) (m := 0) (SS.nil M) (SS.nil M) N8
   refine wd ?_; refine wt fun _ _ => ?_
   refine (tQ HP g f (j + 1) M A L _ p s i6 st3 _ y _ z st' b3 b4 ?_ z1 z2 (T6.mono g8) N9 hm).mono (NPostD.le ((g5.trans g6).trans g8))
   exact Sy.dropL (by assumption)
theorem zA {P : PF} (HP : lC 100 P) (g f : Nat) : bNs 102 (lU P g f) := by
 intro I A L h p s i st x y cs st' S T N hm
 refine Ev.enter (fun n => bUw n _ _ h) ?_
 unfold s102 aLf aTz
 refine wb fun _ _ _ => ?_; refine wa fun _ _ _ => ?_
 exact tQ HP g f 0 _ _ _ _ _ _ _ _ _ _ _ _ _ _ _ (by assumption) rfl (by first | assumption | exact bV _ | (repeat (first | exact aX | refine aU (by first | rfl | assumption | exact Fz.one (by assumption)) ?_))) T N hm
theorem tC {P : PF} (HP : lC 100 P) (g : Nat) : ∀ (f j : Nat) (I : Im) (B A L : Ls) (h : Hp) (p : Pos) (s x : DV) (i : Nat) (st : PSt) (t : List Nat) (xs : List Node) (y : Node) (cells z : List DV) (st' : PSt) (b4 b5 : Pos),
 Sy I (B ++ A) [PD p s i st] ((b5, some (.row .ex [.i .i64 (Int.ofNat 7), .s t, .i .i64 (Int.ofNat 0), .l0, .l0, x])) :: (b4, some (.row .ex z)) :: L) h → Gr I 6 B x xs.length cells → NVL I xs cells → z.length = 6 → (∀ v ∈ z, v.one = true) →
 xs.length + f ≤ bG → TD I s i st.toks → mF P g f t xs st = some (y, st') →
 Ev (fun n => nI (aI n) n (n - j) (.p p 0) (.p b4 0) (.p b5 0) h) (NPostD I A L p s y st')
 | 0, j, I, B, A, L, h, p, s, x, i, st, t, xs, y, cells, z, st', b4, b5, S, G, NL, z1, z2, hl, T, hm => by cases hm
 | f + 1, j, I, B, A, L, h, p, s, x, i, st, t, xs, y, cells, z, st', b4, b5, S, G, NL, z1, z2, hl, T, hm => by
  unfold mF at hm
  obtain ⟨c, hc, hm⟩ := aT hm
  refine eAw j (ll := fun n m => nI (aI n) n m (.p p 0) (.p b4 0) (.p b5 0) h) (bb := fun n m => xE (aI n) n (nI (aI n) n m) (.p p 0) (.p b4 0) (.p b5 0) h) (fun _ _ => rfl) ?_
  have hx := G.one
  unfold xE fK
  refine eAr (cM S T hc) ?_
  rintro _ _ ⟨rfl, S1⟩
  cases c with
  | false =>
   rw [if_neg (by simp)] at hm
   simp only [aZ, bT] at hm
   obtain ⟨rfl, rfl⟩ := hm
   obtain ⟨J, gJ, S3, N3⟩ := G.nodes NL S1 (by omega)
   refine yj ?_; refine ws ?_; refine wt fun _ _ => ?_; refine ws ?_
   exact eAs ⟨J, i, _, rfl, gJ, dp, T.mono gJ, NV.of (SS.nil J) (SS.nil J) N3⟩
  | true =>
   rw [if_pos rfl] at hm
   obtain ⟨⟨t1, st1⟩, ht, hm⟩ := aT hm
   split at hm
   ·rename_i hlen
    obtain ⟨⟨y1, st2⟩, hy1, hm⟩ := aT hm
    obtain ⟨⟨y2, st3⟩, hy2, hm⟩ := aT hm
    obtain ⟨⟨y3, st4⟩, hy3, hm⟩ := aT hm
    refine yt (wf ?_); refine wl ?_
    refine eAr (cG S1 T ht) ?_
    rintro _ _ ⟨rfl, i2, S2, T2⟩
    refine Ev.cnd ?_ ?_
    ·rw [Bool.and_true]; exact dQ S2 (by repeat (first | exact bX | apply List.Mem.tail)) rfl rfl (mZ _)
    refine wp ?_
    refine eAz (by simp only [bG] at hlen; omega) ?_
    refine wf ?_; refine wu fun _ _ => ?_
    refine eAr (HP _ _ _ _ _ _ _ _ _ _ (by assumption) T2 hy1) ?_
    rintro _ _ ⟨J, i5, ds, rfl, g5, S5, T5, N5⟩
    obtain ⟨l5, o5, q5⟩ := N5.shape
    refine wa fun _ _ _ => ?_; refine wt fun _ _ => ?_; refine ws ?_
    refine eAr (pX g _ _ _ _ _ _ _ _ _ _ _ _ (by assumption) T5 N5 hy2) ?_
    rintro _ _ ⟨K, i6, es, rfl, g6, S6, T6, N6⟩
    obtain ⟨l6, o6, q6⟩ := N6.shape
    refine wt fun _ _ => ?_; refine wf ?_
    have Sr := Sy.res (by assumption)
    refine wl ?_; refine ws ?_
    refine eAr (zA HP g g _ _ _ _ _ _ _ _ _ _ _ _ Sr T6 N6 hy3) ?_
    rintro _ _ ⟨M, i7, fs, rfl, g7, S7, T7, N7⟩
    obtain ⟨l7, o7, q7⟩ := N7.shape
    refine Ev.cnd ?_ ?_
    ·rw [Bool.and_true]; exact dQ S7 (by repeat (first | exact bX | apply List.Mem.tail)) rfl hx G.beq
    refine eBl S7 (by repeat (first | exact Rpl.head _ | apply Rpl.tail)) (fV l7) ?_
    intro h8 S8
    have g57 := (g5.trans g6).trans g7
    obtain ⟨x10, h10, B10, cells10, e10, S10, G10, NL10⟩ := eW (G.mono g57) (NL.mono g57) N7 S8 (by repeat (first | exact bX | apply List.Mem.tail)) (by omega)
    have hx10 := G10.one
    refine Ev.op e10 ?_
    refine wf ?_; refine wu fun _ _ => ?_
    refine (tC HP g f (j + 1) M B10 A L _ p s x10 i7 st4 (t ++ t1.text) (xs ++ [y3]) y cells10 z st' b4 b5 ?_ G10 NL10 z1 z2 (by simp; omega) T7 hm).mono (NPostD.le g57)
    exact Sy.dropL (Sy.dropL (by assumption))
   ·cases hm
theorem aZm {P : PF} (HP : lC 100 P) (g : Nat) (hg : g + 1 ≤ bG) : lC 104 (aDs P g) := by
 intro I A L h p s i st x st' S T hm
 have hs := T.one
 unfold aDs at hm
 obtain ⟨c1, hc1, hm⟩ := aT hm
 refine Ev.enter (fun n => cEn n _ h) ?_
 unfold s104 aIn
 refine wa fun _ _ _ => ?_; refine wd ?_; refine wa fun _ _ _ => ?_; refine wt fun _ _ => ?_
 unfold aIc
 refine eAr (cM (by assumption) T hc1) ?_
 rintro _ _ ⟨rfl, S1⟩
 cases c1 with
 | true =>
  refine yt ?_
  rw [if_pos rfl] at hm
  obtain ⟨⟨t, st1⟩, ht, hm⟩ := aT hm
  simp only [aZ, bT] at hm
  obtain ⟨rfl, rfl⟩ := hm
  refine eAr (cG S1 T ht) ?_
  rintro _ _ ⟨rfl, i2, S2, T2⟩
  refine wp ?_; refine wf ?_; refine wu fun _ _ => ?_; refine ws ?_; refine wt fun _ _ => ?_; refine ws ?_
  exact eAs ⟨I, i2, _, rfl, ILe.refl _, dp, T2, NV.flat _ _ _⟩
 | false =>
  refine yj ?_
  rw [if_neg (by simp)] at hm
  obtain ⟨c3, hc3, hm⟩ := aT hm
  unfold aHe
  refine eAr (cM S1 T hc3) ?_
  rintro _ _ ⟨rfl, S2⟩
  cases c3 with
  | true =>
   refine yt ?_
   rw [if_pos rfl] at hm
   obtain ⟨⟨t, st1⟩, ht, hm⟩ := aT hm
   obtain ⟨⟨y1, st2⟩, hy1, hm⟩ := aT hm
   obtain ⟨⟨y2, st3⟩, hy2, hm⟩ := aT hm
   simp only [aZ, bT] at hm
   obtain ⟨rfl, rfl⟩ := hm
   refine eAr (cG S2 T ht) ?_
   rintro _ _ ⟨rfl, i3, S3, T3⟩
   refine wp ?_; refine wf ?_; refine wu fun _ _ => ?_
   refine eAr (HP _ _ _ _ _ _ _ _ _ _ (by assumption) T3 hy1) ?_
   rintro _ _ ⟨J, i5, ds, rfl, g5, S5, T5, N5⟩
   obtain ⟨l5, o5, q5⟩ := N5.shape
   refine wa fun _ _ _ => ?_; refine wt fun _ _ => ?_; refine wf ?_
   have Sr := Sy.res (by assumption)
   refine wl ?_; refine ws ?_
   refine eAr (pX g _ _ _ _ _ _ _ _ _ _ _ _ Sr T5 N5 hy2) ?_
   rintro _ _ ⟨K, i6, es, rfl, g6, S6, T6, N6⟩
   obtain ⟨l6, o6, q6⟩ := N6.shape
   refine Ev.cnd ?_ ?_
   ·rw [Bool.and_true]; exact dQ S6 (by repeat (first | exact bX | apply List.Mem.tail)) rfl rfl rfl
   refine eBl S6 (by repeat (first | exact Rpl.head _ | apply Rpl.tail)) (fV l6) ?_
   intro h8 S8
   obtain ⟨x10, h10, B10, cells10, e10, S10, G10, NL10⟩ := eW (B := []) (xs := []) (Gr.nil K 6) rfl N6 S8 (by repeat (first | exact bX | apply List.Mem.tail)) (by simp [bG])
   have hx10 := G10.one
   refine Ev.op e10 ?_
   obtain ⟨M, gM, S11, N11⟩ := G10.nodes NL10 S10 (by simp [bG])
   refine wf ?_; refine wu fun _ _ => ?_; refine ws ?_; refine wt fun _ _ => ?_; refine ws ?_
   exact eAs ⟨M, i6, _, rfl, (g5.trans g6).trans gM, dp, T6.mono gM, NV.of (SS.nil M) (SS.nil M) N11⟩
  | false =>
   refine yj ?_
   rw [if_neg (by simp)] at hm
   obtain ⟨c2, hc2, hm⟩ := aT hm
   obtain ⟨st1, hst, hm⟩ := aT hm
   unfold aMq
   refine eAr (cM S2 T hc2) ?_
   rintro _ _ ⟨rfl, S3⟩
   cases c2 with
   | true =>
    refine an (yj ?_)
    rw [if_pos rfl] at hst
    cases hst
    unfold vQ aIf
    exact tC HP g g 0 I [] A L _ p s .l0 i st [] [] x [] _ st' _ _ S3 (Gr.nil I 6) rfl rfl (by first | assumption | exact bV _ | (repeat (first | exact aX | refine aU (by first | rfl | assumption | exact Fz.one (by assumption)) ?_))) (by simp; omega) T hm
   | false =>
    refine ao (yt ?_)
    rw [if_neg (by simp)] at hst
    obtain ⟨t, ht, hst⟩ := aT hst
    cases hst
    refine eAr (eU (k := 0) S3 T ht (by omega)) ?_
    rintro _ _ ⟨rfl, S4⟩
    refine eAr (iU S4 hs t _) ?_
    rintro _ _ ⟨rfl, S5⟩
    unfold vQ aIf
    exact tC HP g g 0 I [] A L _ p s .l0 i _ [] [] x [] _ st' _ _ S5 (Gr.nil I 6) rfl rfl (by first | assumption | exact bV _ | (repeat (first | exact aX | refine aU (by first | rfl | assumption | exact Fz.one (by assumption)) ?_))) (by simp; omega) (by rw [bJ]; exact T) hm
theorem NV.text_at {I : Im} {x : Node} {cs : List DV} (N : NV I x cs) : cs[1]? = some (.s x.text) ∧ ∃ v, cs[5]? = some v ∧ NS I v x.kids := by
 cases x with
 | mk k t m ns ts ks =>
  obtain ⟨s1, s2, s3, rfl, a1, a2, a3, cells, F, NL⟩ := N
  exact ⟨rfl, s3, rfl, a3, cells, F, NL⟩
theorem bRh {P : PF} (HP : lC 100 P) (g : Nat) (hg : g + 1 ≤ bG) : bNs 103 (aRl P g) := by
 intro I A L h p s i st x y cs st' S T N hm
 have hs := T.one
 obtain ⟨l0, o0, q0⟩ := N.shape
 unfold aRl at hm
 obtain ⟨c, hc, hm⟩ := aT hm
 refine Ev.enter (fun n => bWg n _ _ h) ?_
 unfold s103
 refine wb fun _ _ _ => ?_; refine wa fun _ _ _ => ?_
 refine eAr (cM (by assumption) T hc) ?_
 rintro _ _ ⟨rfl, S1⟩
 cases c with
 | false =>
  refine ao (yt ?_); refine ws ?_; refine wt fun _ _ => ?_; refine ws ?_
  rw [if_neg (by simp)] at hm
  simp only [aZ, bT] at hm
  obtain ⟨rfl, rfl⟩ := hm
  exact eAs ⟨I, i, cs, rfl, ILe.refl _, dp, T, N⟩
 | true =>
  refine an (yj ?_)
  rw [if_pos rfl] at hm
  obtain ⟨⟨m, st1⟩, hmm, hm⟩ := aT hm
  split at hm
  ·rename_i hk
   simp only [aZ, bT] at hm
   obtain ⟨rfl, rfl⟩ := hm
   refine eAr (aZm HP g hg _ _ _ _ _ _ _ _ _ _ S1 T hmm) ?_
   rintro _ _ ⟨J, i5, ds, rfl, g5, S5, T5, N5⟩
   obtain ⟨l5, o5, q5⟩ := N5.shape
   obtain ⟨e1, v5, e5, NK⟩ := N5.text_at
   have ov := NK.one
   refine wa fun _ _ _ => ?_; refine wt fun _ _ => ?_; refine ws ?_
   refine eBm (by assumption) (fV l0) ?_
   intro b6 h6 S6
   obtain ⟨K, gK, S7, F7, G7⟩ := Fz.built (sz := 6) (n := 1) S6 (by omega) o0
   refine eAy (Ev.op (ld1 (S7.memL (by repeat (first | exact bX | apply List.Mem.tail))) (by simpa using e5) ov) ?_)
   obtain ⟨hkl, cells, FK, NLK⟩ := NK.mono gK
   have hk1 : 1 ≤ m.kids.length := hk.1
   have hk2 : m.kids.length + 1 ≤ bG := hk.2
   obtain ⟨n1, n2⟩ := NLK.shape
   have hr : (1 + m.kids.length) * 104 ≤ fH := by simp [fH, bG] at hk2 ⊢; omega
   obtain ⟨x8, h8, B8, e8, S8, G8⟩ := G7.app (bytes := 104) (A0 := A) (by simpa using S7) (FK.src S7) n1 n2 (by omega) hr
   refine Ev.op e8 ?_
   have G9 : Gr K 6 B8 x8 (x :: m.kids).length (cs ++ cells) := by
    have : (x :: m.kids).length = 1 + m.kids.length := by simp; omega
    rw [this]; exact G8
   obtain ⟨M, gM, S9, N9⟩ := G9.nodes ((eBf (((N.mono g5).mono gK))).app NLK) S8 (by simp; omega)
   have o9 := N9.one
   refine eAy (Ev.op (ld1 (S9.memL (by repeat (first | exact bX | apply List.Mem.tail))) (by simpa using e1) rfl) ?_)
   refine wd ?_; refine wt fun _ _ => ?_; refine ws ?_
   exact eAs ⟨M, i5, _, rfl, (g5.trans gK).trans gM, dp, (T5.mono gK).mono gM, NV.of (SS.nil M) (SS.nil M) N9⟩
  ·cases hm
end Go.Dd

namespace Go.Dd
open Go.Proofs
def kZ (LI : PF) : Nat → List Node → PSt → Option (List Node × PSt)
 | 0, _, _ => none
 | f + 1, xs, st => if st.err = 0 then (eD st 10 [41]).bind fun c => if c then some (xs, st) else
  (rN st).bind fun r => if r.1.2 then kZ LI f (xs ++ [r.1.1]) r.2 else
   (eD r.2 7 []).bind fun c1 => (if c1 then some true else eD r.2 10 [40]).bind fun c2 =>
    if c2 then (LI r.2).bind fun q => kZ LI f (xs ++ [q.1]) q.2 else (bN r.2 0).bind fun t => kZ LI f (xs ++ [r.1.1]) (bS r.2 t 13)
  else some (xs, st)
def aGs (q : List Node × PSt) : Option (List Node × PSt) := if q.2.err = 0 then (dX q.2).bind fun u => some (q.1, { u.2 with deep := wJ (u.2.deep - 1) }) else some q
def hJ (LI : PF) (f : Nat) : PF := fun st => (qT st).bind fun r => ((if r.1 then kZ LI f [] r.2 else some ([], r.2)).bind aGs).bind fun q => some (.mk 4 [] 0 [] [] q.1, q.2)
def lK : Nat → List (List Nat) → PSt → Option (List (List Nat) × PSt)
 | 0, _, _ => none
 | f + 1, l, st => (eD st 8 []).bind fun c => if c then (lN st 8 l).bind fun r => lK f r.1 r.2 else some (l, st)
def jO (E : PF) : Nat → List Node → PSt → Option (List Node × PSt)
 | 0, _, _ => none
 | f + 1, xs, st => if st.err = 0 then (eD st 0 []).bind fun c => if c then some (xs, st) else (eD st 10 [93]).bind fun c => if c then some (xs, st) else
  (eD st 10 [94]).bind fun c =>
   if c then (dX st).bind fun r => (E r.2).bind fun q => (eD q.2 10 [46]).bind fun d => if d then (dX q.2).bind fun u => some (xs ++ [.mk 10 [] 0 [] [] [q.1]], u.2) else some (xs ++ [.mk 10 [] 0 [] [] [q.1]], q.2)
   else (E st).bind fun q => (eD q.2 10 [46]).bind fun d => if d then (dX q.2).bind fun u => jO E f (xs ++ [q.1]) u.2 else some (xs ++ [q.1], q.2)
  else some (xs, st)
def aWv (l : List (List Nat)) (st : PSt) : Option PSt :=
 if 0 < l.length then (eD st 10 [93]).bind fun c => if c then some st else (jW st 10 [124]).bind fun r => some r.2 else some st
def uZ (E : PF) (f : Nat) : PF := fun st => (qT st).bind fun o => if o.1 then
 (lK f [] o.2).bind fun r => (aWv r.1 r.2).bind fun st2 => (oU f st2).bind fun q => (jO E f [] q.2).bind fun u => (jW u.2 10 [93]).bind fun w => some (.mk 9 [] 0 r.1 q.1 u.1, { w.2 with deep := wJ (w.2.deep - 1) })
 else some (.mk 9 [] 0 [] [] [], o.2)
def mL (LI E : PF) (f : Nat) : PF := fun st => if st.err = 0 then (rN st).bind fun r => if r.1.2 then some (r.1.1, r.2) else
 (eD r.2 1 []).bind fun c => if c then (dX r.2).bind fun q => some (.mk 5 q.1.text 0 [] [] [], q.2)
 else (eD r.2 7 []).bind fun c => if c then LI r.2
 else (eD r.2 10 [40]).bind fun c => if c then (qT r.2).bind fun o => if o.1 then (E o.2).bind fun x => (jW x.2 10 [41]).bind fun w => some (x.1, { w.2 with deep := wJ (w.2.deep - 1) }) else some (r.1.1, o.2)
 else (eD r.2 10 [91]).bind fun c => if c then uZ E f r.2
 else (bN r.2 0).bind fun t => some (r.1.1, bS r.2 t 13)
 else some (zN, st)
theorem cBz (n : Nat) (x : DV) (h : Hp) : aI (n + 1) 129 [x] h = s129 (aI n) n x h := by kernel_rfl
theorem cUn (n : Nat) (x : DV) (h : Hp) : aI (n + 1) 46 [x] h = s46 (aI n) n x h := by kernel_rfl
theorem cDr (n : Nat) (x : DV) (h : Hp) : aI (n + 1) 131 [x] h = s131 (aI n) n x h := by kernel_rfl
theorem bLx (n : Nat) (x : DV) (h : Hp) : aI (n + 1) 100 [x] h = s100 (aI n) n x h := by kernel_rfl
theorem vI {I : Im} {B A L : Ls} {h : Hp} {p : Pos} {s x : DV} {i : Nat} {st : PSt} {xs ys : List Node} {cells z : List DV} {st' : PSt} {b2 b3 : Pos}
 (S : Sy I (B ++ A) [PD p s i st] ((b3, some (.row .ex [.i .i64 (Int.ofNat 4), .s [], .i .i64 (Int.ofNat 0), .l0, .l0, x])) :: (b2, some (.row .ex z)) :: L) h) (G : Gr I 6 B x xs.length cells) (NL : NVL I xs cells) (z1 : z.length = 6) (z2 : ∀ v ∈ z, v.one = true)
 (hl : xs.length ≤ bG) (T : TD I s i st.toks) (hm : aGs (xs, st) = some (ys, st')) : Ev (fun n => fC (aI n) n (.p p 0) (.p b2 0) (.p b3 0) h) (NPostD I A L p s (.mk 4 [] 0 [] [] ys) st') := by
 have hs := T.one
 have hx := G.one
 unfold aGs at hm
 unfold fC
 refine wn (wf ?_); refine wq ?_
 refine eAv (fun e1 => ?_) (fun e1 => ?_)
 ·refine yt ?_
  rw [if_pos (show st.err = 0 from e1)] at hm
  obtain ⟨⟨t, st1⟩, ht, hm⟩ := aT hm
  simp only [aZ, bT] at hm
  obtain ⟨rfl, rfl⟩ := hm
  refine eAr (cG (by assumption) T ht) ?_
  rintro _ _ ⟨rfl, i2, S2, T2⟩
  refine wn (wf ?_); refine wq ?_
  refine eBq ?_
  refine wn (wf ?_); refine wv fun _ _ => ?_
  rename_i h9 S9
  obtain ⟨J, gJ, S3, N3⟩ := G.nodes NL S9 hl
  have o3 := N3.one
  unfold aFy
  refine ws ?_; refine wt fun _ _ => ?_; refine ws ?_
  exact eAs ⟨J, i2, _, rfl, gJ, dp, T2.mono gJ, NV.of (SS.nil J) (SS.nil J) N3⟩
 ·refine yj ?_
  rw [if_neg (show ¬ st.err = 0 from e1)] at hm
  simp only [aZ, bT] at hm
  obtain ⟨rfl, rfl⟩ := hm
  obtain ⟨J, gJ, S3, N3⟩ := G.nodes NL S hl
  have o3 := N3.one
  unfold aFy
  refine ws ?_; refine wt fun _ _ => ?_; refine ws ?_
  exact eAs ⟨J, i, _, rfl, gJ, dp, T.mono gJ, NV.of (SS.nil J) (SS.nil J) N3⟩
theorem xU {LI : PF} (HL : lC 129 LI) : ∀ (f j : Nat) (I : Im) (B A L : Ls) (h : Hp) (p : Pos) (s x : DV) (i : Nat) (st : PSt) (xs ys : List Node) (cells z : List DV) (st' : PSt) (b2 b3 : Pos),
 Sy I (B ++ A) [PD p s i st] ((b3, some (.row .ex [.i .i64 (Int.ofNat 4), .s [], .i .i64 (Int.ofNat 0), .l0, .l0, x])) :: (b2, some (.row .ex z)) :: L) h → Gr I 6 B x xs.length cells → NVL I xs cells → z.length = 6 → (∀ v ∈ z, v.one = true) →
 xs.length + f ≤ bG → TD I s i st.toks → (kZ LI f xs st).bind aGs = some (ys, st') →
 Ev (fun n => gV (aI n) n (n - j) (.p p 0) (.p b2 0) (.p b3 0) (.b true) h) (NPostD I A L p s (.mk 4 [] 0 [] [] ys) st')
 | 0, j, I, B, A, L, h, p, s, x, i, st, xs, ys, cells, z, st', b2, b3, S, G, NL, z1, z2, hl, T, hm => by cases hm
 | f + 1, j, I, B, A, L, h, p, s, x, i, st, xs, ys, cells, z, st', b2, b3, S, G, NL, z1, z2, hl, T, hm => by
  unfold kZ at hm
  refine eAw j (ll := fun n m => gV (aI n) n m (.p p 0) (.p b2 0) (.p b3 0) (.b true) h) (bb := fun n m => qE (aI n) n (gV (aI n) n m) (.p p 0) (.p b2 0) (.p b3 0) (.b true) h) (fun _ _ => rfl) ?_
  have hs := T.one
  have hx := G.one
  unfold qE
  refine zt (wm (zt (wn (zt (wf (zt ?_)))))); refine wq ?_; refine zt ?_
  refine eAv (fun e1 => ?_) (fun e1 => ?_)
  ·rw [if_pos (show st.err = 0 from e1)] at hm
   refine ap (zt (wm (zt ?_)))
   rw [Option.bind_assoc] at hm
   obtain ⟨c, hc, hm⟩ := aT hm
   refine eAr (cM (by assumption) T hc) ?_
   rintro _ _ ⟨rfl, S1⟩
   cases c with
   | true =>
    refine zt (an (ap (yj ?_)))
    exact vI S1 G NL z1 z2 (by omega) T (by simpa using hm)
   | false =>
    refine zt (ao (ap (yt ?_)))
    rw [if_neg (by simp), Option.bind_assoc] at hm
    obtain ⟨⟨⟨y, d⟩, st1⟩, hy, hm⟩ := aT hm
    unfold bZa
    refine eAr (aFk S1 T hy) ?_
    rintro _ _ ⟨i2, cs, rfl, S2, T2, N2⟩
    obtain ⟨l2, o2, q2⟩ := N2.shape
    refine wx ?_; refine wx ?_; refine wa fun _ _ _ => ?_; refine wt fun _ _ => ?_
    unfold cDl
    have body : ∀ (J : Im) (h' : Hp) (b4 : Pos) (y' : Node) (cs' : List DV) (i' : Nat) (st1' : PSt), ILe I J → Sy J (B ++ A) [PD p s i' st1'] ((b4, some (.row .ex cs')) :: (b3, some (.row .ex [.i .i64 (Int.ofNat 4), .s [], .i .i64 (Int.ofNat 0), .l0, .l0, x])) :: (b2, some (.row .ex z)) :: L) h' →
     TD J s i' st1'.toks → NV J y' cs' → (kZ LI f (xs ++ [y']) st1').bind aGs = some (ys, st') →
     Ev (fun n => rQ (aI n) n (gV (aI n) n (n - (j + 1))) (.p p 0) (.p b2 0) (.p b3 0) (.b true) (.p b4 0) h') (NPostD I A L p s (.mk 4 [] 0 [] [] ys) st') := by
     intro J h' b4 y' cs' i' st1' gJ S' T' N' hm
     obtain ⟨l', o', q'⟩ := N'.shape
     unfold rQ
     refine wf ?_; refine wl ?_; refine ws ?_
     refine eBm S' (fV l') ?_
     intro b6 h6 S6
     obtain ⟨x10, h10, B10, cells10, e10, S10, G10, NL10⟩ := eW (G.mono gJ) (NL.mono gJ) N' S6 (bX) (by omega)
     have hx10 := G10.one
     refine Ev.op e10 ?_
     refine wf ?_; refine wu fun _ _ => ?_
     refine (xU HL f (j + 1) J B10 A L _ p s x10 i' st1' (xs ++ [y']) ys cells10 z st' b2 b3 ?_ G10 NL10 z1 z2 (by simp; omega) T' hm).mono (NPostD.le gJ)
     exact Sy.dropL (Sy.dropL (by assumption))
    cases d with
    | true =>
     refine an (yj ?_)
     exact body I _ _ y cs i2 st1 (ILe.refl _) (by assumption) T2 N2 (by simpa using hm)
    | false =>
     refine ao (yt ?_)
     rw [if_neg (by simp), Option.bind_assoc] at hm
     obtain ⟨c1, hc1, hm⟩ := aT hm
     rw [Option.bind_assoc] at hm
     obtain ⟨c2, hc2, hm2⟩ := aT hm
     refine eAr (cM (by assumption) T2 hc1) ?_
     rintro _ _ ⟨rfl, S3⟩
     have more : ∀ (b4 : Pos) h', Sy I (B ++ A) [PD p s i2 st1] ((b4, some (.row .ex cs)) :: (b3, some (.row .ex [.i .i64 (Int.ofNat 4), .s [], .i .i64 (Int.ofNat 0), .l0, .l0, x])) :: (b2, some (.row .ex z)) :: L) h' → (if c2 = true then (LI st1).bind fun q => kZ LI f (xs ++ [q.1]) q.2 else (bN st1 0).bind fun t => kZ LI f (xs ++ [y]) (bS st1 t 13)).bind aGs = some (ys, st') →
      Ev (fun n => aV (.b c2)
       (bnd (aI n 129 [.p p 0] h') fun v41 h41 => bnd (aC 6 (.p b4 0) v41 h41) fun _ h42 => rQ (aI n) n (gV (aI n) n (n - (j + 1))) (.p p 0) (.p b2 0) (.p b3 0) (.b true) (.p b4 0) h42)
       (bnd (aI n 73 [.p p 0, .i .i64 (Int.ofNat 0)] h') fun v43 h43 => bnd (aI n 71 [.p p 0, v43, .i .i64 (Int.ofNat 13)] h43) fun v44 h44 => rQ (aI n) n (gV (aI n) n (n - (j + 1))) (.p p 0) (.p b2 0) (.p b3 0) (.b true) (.p b4 0) h44))
       (NPostD I A L p s (.mk 4 [] 0 [] [] ys) st') := by
      intro b4 h' S' hm
      cases c2 with
      | true =>
       rw [if_pos rfl, Option.bind_assoc] at hm
       obtain ⟨⟨w, st2⟩, hw, hm⟩ := aT hm
       refine yt ?_
       refine eAr (HL _ _ _ _ _ _ _ _ _ _ S' T2 hw) ?_
       rintro _ _ ⟨J, i5, ds, rfl, g5, S5, T5, N5⟩
       obtain ⟨l5, o5, q5⟩ := N5.shape
       refine wt fun _ _ => ?_
       exact body J _ _ w ds i5 st2 g5 (by assumption) T5 N5 hm
      | false =>
       rw [if_neg (by simp), Option.bind_assoc] at hm
       obtain ⟨t, ht, hm⟩ := aT hm
       refine yj ?_
       refine eAr (eU (k := 0) S' T2 ht (by omega)) ?_
       rintro _ _ ⟨rfl, S5⟩
       refine eAr (iU S5 hs t _) ?_
       rintro _ _ ⟨rfl, S6⟩
       exact body I _ _ y cs i2 _ (ILe.refl _) S6 (by rw [bJ]; exact T2) N2 hm
     cases c1 with
     | true =>
      rw [if_pos rfl] at hc2
      cases hc2
      refine yg (yg (ap (yt ?_)))
      exact more _ _ S3 hm2
     | false =>
      rw [if_neg (by simp)] at hc2
      refine zf (wm (zf ?_))
      refine eAr (cM S3 T2 hc2) ?_
      rintro _ _ ⟨rfl, S4⟩
      refine aq ?_
      exact more _ _ S4 hm2
  ·rw [if_neg (show ¬ st.err = 0 from e1)] at hm
   refine ap (yf (yf (yf (aq (yj ?_)))))
   exact vI S G NL z1 z2 (by omega) T (by simpa using hm)
theorem uD {LI : PF} (HL : lC 129 LI) (f : Nat) (hf : f ≤ bG) : lC 129 (hJ LI f) := by
 intro I A L h p s i st x st' S T hm
 unfold hJ at hm
 obtain ⟨⟨ok, st1⟩, ho, hm⟩ := aT hm
 obtain ⟨⟨ys, st2⟩, hy, hm⟩ := aT hm
 simp only [aZ, bT] at hm
 obtain ⟨rfl, rfl⟩ := hm
 refine Ev.enter (fun n => cBz n _ h) ?_
 unfold s129 aNd
 refine wa fun _ _ _ => ?_; refine wd ?_; refine wa fun _ _ _ => ?_; refine wt fun _ _ => ?_
 unfold aHz
 refine eAr (aDe (by assumption) T ho) ?_
 rintro _ h1 ⟨rfl, i1, S1, T1⟩
 unfold aNy aUq
 cases ok with
 | true =>
  rw [if_pos rfl] at hy
  exact xU HL f 0 I [] A L h1 p s .l0 i1 st1 [] ys [] _ st2 _ _ S1 (Gr.nil I 6) rfl rfl (by first | assumption | exact bV _ | (repeat (first | exact aX | refine aU (by first | rfl | assumption | exact Fz.one (by assumption)) ?_))) (by simpa using hf) T1 hy
 | false =>
  rw [if_neg (by simp), Option.bind_some] at hy
  rename_i b2 _ _ b3 _ _ _ _
  refine eAw 0 (ll := fun n m => gV (aI n) n m (.p p 0) (.p _ 0) (.p _ 0) (.b false) h1) (bb := fun n m => qE (aI n) n (gV (aI n) n m) (.p p 0) (.p _ 0) (.p _ 0) (.b false) h1) (fun _ _ => rfl) ?_
  unfold qE
  refine yf (yf (yf (yf (yf (aq (yf (yf (yf (aq (yj ?_))))))))))
  exact vI (B := []) (xs := []) (cells := []) S1 (Gr.nil I 6) rfl rfl (by first | assumption | exact bV _ | (repeat (first | exact aX | refine aU (by first | rfl | assumption | exact Fz.one (by assumption)) ?_))) (by simp) T1 hy
theorem wM {E : PF} (HE : lC 72 E) : ∀ (f j : Nat) (I : Im) (B A L : Ls) (h : Hp) (p : Pos) (s x : DV) (i : Nat) (st : PSt) (xs ys : List Node) (cells : List DV) (st' : PSt), Sy I (B ++ A) [PD p s i st] L h → Gr I 6 B x xs.length cells → NVL I xs cells →
 xs.length + f ≤ bG → TD I s i st.toks → jO E f xs st = some (ys, st') →
 Ev (fun n => tE (aI n) n (n - j) (.p p 0) x h) (fun v h' => ∃ J i', ILe I J ∧ Sy J A [PD p s i' st'] L h' ∧ TD J s i' st'.toks ∧ NS J v ys)
 | 0, j, I, B, A, L, h, p, s, x, i, st, xs, ys, cells, st', S, G, NL, hl, T, hm => by cases hm
 | f + 1, j, I, B, A, L, h, p, s, x, i, st, xs, ys, cells, st', S, G, NL, hl, T, hm => by
  unfold jO at hm
  refine eAw j (ll := fun n m => tE (aI n) n m (.p p 0) x h) (bb := fun n m => aMu (aI n) n (tE (aI n) n m) (.p p 0) x h) (fun _ _ => rfl) ?_
  have hs := T.one
  unfold aMu gR
  refine wn (wf ?_); refine wq ?_
  have fin : ∀ h', Sy I (B ++ A) [PD p s i st] L h' → some (xs, st) = some (ys, st') → Ev (fun _ => some (x, h')) (fun v h' => ∃ J i', ILe I J ∧ Sy J A [PD p s i' st'] L h' ∧ TD J s i' st'.toks ∧ NS J v ys) := by
   intro h' S' hm
   simp only [aZ, bT] at hm
   obtain ⟨rfl, rfl⟩ := hm
   obtain ⟨J, gJ, S3, N3⟩ := G.nodes NL S' (by omega)
   exact eAs ⟨J, i, gJ, S3, T.mono gJ, N3⟩
  refine eAv (fun e1 => ?_) (fun e1 => ?_)
  ·rw [if_pos (show st.err = 0 from e1)] at hm
   refine zt (wm (zt ?_))
   obtain ⟨c, hc, hm⟩ := aT hm
   refine eAr (cM (by assumption) T hc) ?_
   rintro _ _ ⟨rfl, S1⟩
   cases c with
   | true =>
    refine zt (an (ap (yf (yf (yf (aq (yj ?_)))))))
    exact fin _ S1 (by simpa using hm)
   | false =>
    refine zt (ao (ap (zt (wm (zt ?_)))))
    rw [if_neg (by simp)] at hm
    obtain ⟨c, hc, hm⟩ := aT hm
    refine eAr (cM (by assumption) T hc) ?_
    rintro _ _ ⟨rfl, S2⟩
    cases c with
    | true =>
     refine zt (an (ap (yj ?_)))
     exact fin _ S2 (by simpa using hm)
    | false =>
     refine zt (ao (ap (yt ?_)))
     rw [if_neg (by simp)] at hm
     obtain ⟨c, hc, hm⟩ := aT hm
     refine eAr (cM (by assumption) T hc) ?_
     rintro _ _ ⟨rfl, S3⟩
     cases c with
     | true =>
      refine yt ?_
      rw [if_pos rfl] at hm
      obtain ⟨⟨t, st1⟩, ht, hm⟩ := aT hm
      obtain ⟨⟨y, st2⟩, hy, hm⟩ := aT hm
      obtain ⟨d, hd, hm⟩ := aT hm
      refine eAr (cG S3 T ht) ?_
      rintro _ _ ⟨rfl, i4, S4, T4⟩
      refine eAr (HE _ _ _ _ _ _ _ _ _ _ S4 T4 hy) ?_
      rintro _ _ ⟨J, i5, cs, rfl, g5, S5, T5, N5⟩
      obtain ⟨l5, o5, b5⟩ := N5.shape
      refine wa fun _ _ _ => ?_; refine wt fun _ _ => ?_; refine ws ?_
      refine eBm (by assumption) (fV l5) ?_
      intro b6 h6 S6
      obtain ⟨K, g7, S7, F7, _⟩ := Fz.built (sz := 6) (n := 1) S6 (by omega) o5
      have N7 : NS K _ [y] := ⟨by simp [bG], cs, F7, eBf (N5.mono g7)⟩
      have o7 := N7.one
      refine wd ?_
      have N8 := NV.of (I := K) (k := 10) (t := []) (m := 0) (SS.nil K) (SS.nil K) N7
      obtain ⟨l8, o8, b8⟩ := N8.shape
      refine eBm S7 (fV l8) ?_
      intro b9 h9 S9
      obtain ⟨x10, h10, B10, cells10, e10, S10, G10, NL10⟩ := eW ((G.mono g5).mono g7) ((NL.mono g5).mono g7) N8 S9 (bX) (by omega)
      refine Ev.op e10 ?_
      refine eAr (cM S10.dropL.dropL (T5.mono g7) hd) ?_
      rintro _ _ ⟨rfl, S11⟩
      have fin2 : ∀ h' i', Sy K (B10 ++ A) [PD p s i' st'] L h' → TD K s i' st'.toks → ys = xs ++ [.mk 10 [] 0 [] [] [y]] → Ev (fun _ => some (x10, h')) (fun v h' => ∃ J i', ILe I J ∧ Sy J A [PD p s i' st'] L h' ∧ TD J s i' st'.toks ∧ NS J v ys) := by
       intro h' i' S' T' e
       subst e
       obtain ⟨M, gM, S12, N12⟩ := G10.nodes NL10 S' (by simp; omega)
       exact eAs ⟨M, i', (g5.trans g7).trans gM, S12, T'.mono gM, N12⟩
      cases d with
      | true =>
       refine yt ?_
       rw [if_pos rfl] at hm
       obtain ⟨⟨t2, st3⟩, ht2, hm⟩ := aT hm
       simp only [aZ, bT] at hm
       obtain ⟨rfl, rfl⟩ := hm
       refine eAr (cG S11 (T5.mono g7) ht2) ?_
       rintro _ _ ⟨rfl, i13, S13, T13⟩
       exact fin2 _ i13 S13 T13 rfl
      | false =>
       refine yj ?_
       rw [if_neg (by simp)] at hm
       simp only [aZ, bT] at hm
       obtain ⟨rfl, rfl⟩ := hm
       exact fin2 _ i5 S11 (T5.mono g7) rfl
     | false =>
      refine yj ?_
      rw [if_neg (by simp)] at hm
      obtain ⟨⟨y, st2⟩, hy, hm⟩ := aT hm
      obtain ⟨d, hd, hm⟩ := aT hm
      refine eAr (HE _ _ _ _ _ _ _ _ _ _ S3 T hy) ?_
      rintro _ _ ⟨J, i5, cs, rfl, g5, S5, T5, N5⟩
      obtain ⟨l5, o5, b5⟩ := N5.shape
      refine eBm S5 (fV l5) ?_
      intro b6 h6 S6
      obtain ⟨x10, h10, B10, cells10, e10, S10, G10, NL10⟩ := eW (G.mono g5) (NL.mono g5) N5 S6 (bX) (by omega)
      refine Ev.op e10 ?_
      refine eAr (cM S10.dropL T5 hd) ?_
      rintro _ _ ⟨rfl, S11⟩
      cases d with
      | true =>
       refine an (yj ?_)
       rw [if_pos rfl] at hm
       obtain ⟨⟨t2, st3⟩, ht2, hm⟩ := aT hm
       refine eAr (cG S11 T5 ht2) ?_
       rintro _ _ ⟨rfl, i13, S13, T13⟩
       refine (wM HE f (j + 1) J B10 A L _ p s x10 i13 st3 (xs ++ [y]) ys cells10 st' S13 G10 NL10 (by simp; omega) T13 hm).mono ?_
       rintro v h' ⟨M, i', gM, r⟩
       exact ⟨M, i', g5.trans gM, r⟩
      | false =>
       refine ao (yt ?_)
       rw [if_neg (by simp)] at hm
       simp only [aZ, bT] at hm
       obtain ⟨rfl, rfl⟩ := hm
       obtain ⟨M, gM, S12, N12⟩ := G10.nodes NL10 S11 (by simp; omega)
       exact eAs ⟨M, i5, g5.trans gM, S12, T5.mono gM, N12⟩
  ·rw [if_neg (show ¬ st.err = 0 from e1)] at hm
   refine yf (yf (yf (aq (yf (yf (yf (aq (yj ?_))))))))
   exact fin _ S hm
theorem aEo {E : PF} (HE : lC 72 E) {I : Im} {A L : Ls} {h : Hp} {p : Pos} {s : DV} {i : Nat} {st : PSt} (f : Nat) (hf : f ≤ bG) (S : Sy I A [PD p s i st] L h) (T : TD I s i st.toks) {ys : List Node} {st' : PSt} (hm : jO E f [] st = some (ys, st')) :
 Ev (fun n => aI n 46 [.p p 0] h) (fun v h' => ∃ J i', ILe I J ∧ Sy J A [PD p s i' st'] L h' ∧ TD J s i' st'.toks ∧ NS J v ys) := by
 refine Ev.enter (fun n => cUn n _ h) ?_
 unfold s46 aXn bDp bSi
 exact wM HE f 0 I [] A L h p s .l0 i st [] ys [] st' S (Gr.nil I 6) rfl (by simpa using hf) T hm
theorem uG {P : DV → Hp → Prop} : ∀ (f j : Nat) (I : Im) (A L : Ls) (h : Hp) (p : Pos) (s x : DV) (i : Nat) (st : PSt) (l l' : List (List Nat)) (z : List DV) (st' : PSt) (b2 b3 : Pos),
 Sy I A [PD p s i st] ((b3, some (.row .ex [.i .i64 (Int.ofNat 9), .s [], .i .i64 (Int.ofNat 0), x, .l0, .l0])) :: (b2, some (.row .ex z)) :: L) h → SS I x l → z.length = 6 → (∀ v ∈ z, v.one = true) →
 l.length + f ≤ bG → TD I s i st.toks → lK f l st = some (l', st') →
 (∀ (J : Im) (h' : Hp) (i' : Nat) (x' : DV), ILe I J → Sy J A [PD p s i' st'] ((b3, some (.row .ex [.i .i64 (Int.ofNat 9), .s [], .i .i64 (Int.ofNat 0), x', .l0, .l0])) :: (b2, some (.row .ex z)) :: L) h' → SS J x' l' → TD J s i' st'.toks →
  Ev (fun n => fB (aI n) n (.p p 0) (.p b2 0) (.p b3 0) h') P) →
 Ev (fun n => oJ (aI n) n (n - j) (.p p 0) (.p b2 0) (.p b3 0) h) P
 | 0, j, I, A, L, h, p, s, x, i, st, l, l', z, st', b2, b3, S, G, z1, z2, hl, T, hm, K => by cases hm
 | f + 1, j, I, A, L, h, p, s, x, i, st, l, l', z, st', b2, b3, S, G, z1, z2, hl, T, hm, K => by
  unfold lK at hm
  obtain ⟨c, hc, hm⟩ := aT hm
  refine eAw j (ll := fun n m => oJ (aI n) n m (.p p 0) (.p b2 0) (.p b3 0) h) (bb := fun n m => xG (aI n) n (oJ (aI n) n m) (.p p 0) (.p b2 0) (.p b3 0) h) (fun _ _ => rfl) ?_
  have hx := G.2.one
  unfold xG
  refine eAr (cM S T hc) ?_
  rintro _ _ ⟨rfl, S1⟩
  cases c with
  | false =>
   refine yj ?_
   rw [if_neg (by simp)] at hm
   simp only [aZ, bT] at hm
   obtain ⟨rfl, rfl⟩ := hm
   exact K I _ i x (ILe.refl _) S1 G T
  | true =>
   refine yt (wf ?_); refine wl ?_
   rw [if_pos rfl] at hm
   obtain ⟨⟨l1, st1⟩, ht, hm⟩ := aT hm
   have hl1 : l1.length = l.length + 1 := by
    unfold lN at ht
    obtain ⟨r, _, ht⟩ := aT ht
    simp only [aZ, bT] at ht
    rw [← ht.1]; simp
   refine eAr (pO S1 T G (by omega) ht) ?_
   rintro x2 _ ⟨J, i2, gJ, S2, T2, G2⟩
   have hx2 := G2.2.one
   refine wf ?_; refine wu fun _ _ => ?_
   exact uG f (j + 1) J A L _ p s x2 i2 st1 l1 l' z st' b2 b3 (dp) G2 z1 z2 (by omega) T2 hm (fun M h' i' x' g => K M h' i' x' (gJ.trans g))
theorem bKu {E : PF} (HE : lC 72 E) (f : Nat) (hf : f ≤ bG) : lC 131 (uZ E f) := by
 intro I A L h p s i st x st' S T hm
 have hs := T.one
 unfold uZ at hm
 obtain ⟨⟨ok, st0⟩, ho, hm⟩ := aT hm
 refine Ev.enter (fun n => cDr n _ h) ?_
 unfold s131 aNo
 refine wa fun _ _ _ => ?_; refine wd ?_; refine wa fun _ _ _ => ?_; refine wt fun _ _ => ?_
 unfold aLi
 refine eAr (aDe (by assumption) T ho) ?_
 rintro _ h1 ⟨rfl, i1, S1, T1⟩
 unfold aLl
 cases ok with
 | false =>
  rw [if_neg (by simp)] at hm
  simp only [aZ, bT] at hm
  obtain ⟨rfl, rfl⟩ := hm
  refine ao (yt ?_); refine ws ?_; refine wt fun _ _ => ?_; refine ws ?_
  exact eAs ⟨I, i1, _, rfl, ILe.refl _, dp, T1, NV.flat _ _ _⟩
 | true =>
  rw [if_pos rfl] at hm
  obtain ⟨⟨l, st1⟩, h1', hm⟩ := aT hm
  obtain ⟨st2, h2, hm⟩ := aT hm
  obtain ⟨⟨ts, st3⟩, h3, hm⟩ := aT hm
  obtain ⟨⟨ks, st4⟩, h4, hm⟩ := aT hm
  obtain ⟨⟨t, st5⟩, h5, hm⟩ := aT hm
  simp only [aZ, bT] at hm
  obtain ⟨rfl, rfl⟩ := hm
  refine an (yj ?_)
  unfold aGg aWa
  refine uG f 0 I A L _ p s .l0 i1 st0 [] l _ st1 _ _ S1 (SS.nil I) rfl (by first | assumption | exact bV _ | (repeat (first | exact aX | refine aU (by first | rfl | assumption | exact Fz.one (by assumption)) ?_))) (by simpa using hf) T1 h1' ?_
  intro J0 h' i' x' g0 S2 G2 T2
  have hx := G2.2.one
  unfold fB
  have rest : ∀ (h' : Hp) (i' : Nat) (b2 b3 : Pos) (z : List DV), z.length = 6 → (∀ v ∈ z, v.one = true) → Sy J0 A [PD p s i' st2] ((b3, some (.row .ex [.i .i64 (Int.ofNat 9), .s [], .i .i64 (Int.ofNat 0), x', .l0, .l0])) :: (b2, some (.row .ex z)) :: L) h' → TD J0 s i' st2.toks →
   Ev (fun n => aMl (aI n) n (.p p 0) (.p b2 0) (.p b3 0) h') (NPostD I A L p s (.mk 9 [] 0 l ts ks) { st5 with deep := wJ (st5.deep - 1) }) := by
   intro h' i' b2 b3 z z1 z2 S2 T2
   unfold aMl
   refine eAr (aEt f hf S2 T2 h3) ?_
   rintro v4 h4' ⟨K, i4, g4, S4, T4, N4⟩
   have o4 := N4.2.one
   refine wf ?_; refine wu fun _ _ => ?_
   refine eAr (aEo HE f hf (by assumption) T4 h4) ?_
   rintro v5 h5' ⟨M, i5, g5, S5, T5, N5⟩
   have o5 := N5.one
   refine wf ?_; refine wu fun _ _ => ?_
   refine eAr (iL (by assumption) T5 h5) ?_
   rintro _ _ ⟨rfl, i6, S6, T6⟩
   refine wn (wf ?_); refine wq ?_
   refine eBq ?_
   refine wn (wf ?_); refine wv fun _ _ => ?_; refine ws ?_; refine wt fun _ _ => ?_; refine ws ?_
   exact eAs ⟨M, i6, _, rfl, (g0.trans g4).trans g5, dp, T6, NV.of ((G2.mono g4).mono g5) (N4.mono g5) N5⟩
  refine wf ?_; refine wl ?_
  refine Ev.op (G2.2.len _) ?_
  unfold aWv at h2
  refine eBj (fun e1 => ?_) (fun e1 => ?_)
  ·have e2 : 0 < l.length := by simp at e1; exact e1
   simp only [if_pos e2] at h2
   obtain ⟨c, hc, h2⟩ := aT h2
   refine zt (wm (zt ?_))
   refine eAr (cM (by assumption) T2 hc) ?_
   rintro _ _ ⟨rfl, S3⟩
   cases c with
   | true =>
    refine zt (an (ap (yj ?_)))
    simp only [if_true, aZ] at h2
    subst h2
    exact rest _ i' _ _ _ rfl (by first | assumption | exact bV _ | (repeat (first | exact aX | refine aU (by first | rfl | assumption | exact Fz.one (by assumption)) ?_))) S3 T2
   | false =>
    refine zt (ao (ap (yt ?_)))
    obtain ⟨⟨t2, st6⟩, ht2, h2⟩ := aT (by simpa using h2)
    simp only [aZ] at h2
    subst h2
    refine eAr (iL (by assumption) T2 ht2) ?_
    rintro _ _ ⟨rfl, i3, S4, T4⟩
    exact rest _ i3 _ _ _ rfl (by first | assumption | exact bV _ | (repeat (first | exact aX | refine aU (by first | rfl | assumption | exact Fz.one (by assumption)) ?_))) S4 T4
  ·have e2 : ¬ 0 < l.length := fun e => e1 (by show (0 : Int) < _; omega)
   simp only [if_neg e2, aZ] at h2
   subst h2
   refine yf (yf (yf (aq (yj ?_))))
   exact rest _ i' _ _ _ rfl (by first | assumption | exact bV _ | (repeat (first | exact aX | refine aU (by first | rfl | assumption | exact Fz.one (by assumption)) ?_))) S2 T2
theorem aRf {LI E : PF} (HL : lC 129 LI) (HE : lC 72 E) (f : Nat) (hf : f ≤ bG) : lC 100 (mL LI E f) := by
 intro I A L h p s i st x st' S T hm
 have hs := T.one
 unfold mL at hm
 refine Ev.enter (fun n => bLx n _ h) ?_
 unfold s100 bZd
 refine wa fun _ _ _ => ?_; refine wn (wf ?_); refine wq ?_
 refine eBi (fun e1 => ?_) (fun e1 => ?_)
 ·refine yt ?_; refine wd ?_; refine wt fun _ _ => ?_; refine ws ?_
  rw [if_neg (show ¬ st.err = 0 from e1)] at hm
  simp only [aZ, bT] at hm
  obtain ⟨rfl, rfl⟩ := hm
  exact eAs ⟨I, i, _, rfl, ILe.refl _, dp, T, NV.flat _ _ _⟩
 ·refine yj ?_
  rw [if_pos (show st.err = 0 from e1)] at hm
  obtain ⟨⟨⟨y, d⟩, st1⟩, hy, hm⟩ := aT hm
  unfold bWk
  refine eAr (aFk (by assumption) T hy) ?_
  rintro _ _ ⟨i1, cs, rfl, S1, T1, N1⟩
  obtain ⟨l1, o1, q1⟩ := N1.shape
  refine wx ?_; refine wx ?_; refine wa fun _ _ _ => ?_; refine wt fun _ _ => ?_
  unfold bVi
  cases d with
  | true =>
   refine yt ?_; refine ws ?_; refine wt fun _ _ => ?_; refine ws ?_
   rw [if_pos rfl] at hm
   simp only [aZ, bT] at hm
   obtain ⟨rfl, rfl⟩ := hm
   exact eAs ⟨I, i1, _, rfl, ILe.refl _, dp, T1, N1⟩
  | false =>
   refine yj ?_
   rw [if_neg (by simp)] at hm
   obtain ⟨c, hc, hm⟩ := aT hm
   unfold bTu
   refine eAr (cM (by assumption) T1 hc) ?_
   rintro _ _ ⟨rfl, S2⟩
   cases c with
   | true =>
    refine yt ?_
    rw [if_pos rfl] at hm
    obtain ⟨⟨t, st2⟩, ht, hm⟩ := aT hm
    simp only [aZ, bT] at hm
    obtain ⟨rfl, rfl⟩ := hm
    refine eAr (cG S2 T1 ht) ?_
    rintro _ _ ⟨rfl, i3, S3, T3⟩
    refine wp ?_; refine wd ?_; refine wt fun _ _ => ?_; refine ws ?_
    exact eAs ⟨I, i3, _, rfl, ILe.refl _, dp, T3, NV.flat _ _ _⟩
   | false =>
    refine yj ?_
    rw [if_neg (by simp)] at hm
    obtain ⟨c, hc, hm⟩ := aT hm
    unfold bRs
    refine eAr (cM S2 T1 hc) ?_
    rintro _ _ ⟨rfl, S3⟩
    cases c with
    | true =>
     refine yt ?_
     rw [if_pos rfl] at hm
     refine eAr (HL _ _ _ _ _ _ _ _ _ _ S3 T1 hm) ?_
     rintro _ _ ⟨J, i5, ds, rfl, g5, S5, T5, N5⟩
     obtain ⟨l5, o5, q5⟩ := N5.shape
     refine wt fun _ _ => ?_; refine ws ?_
     exact eAs ⟨J, i5, _, rfl, g5, dp, T5, N5⟩
    | false =>
     refine yj ?_
     rw [if_neg (by simp)] at hm
     obtain ⟨c, hc, hm⟩ := aT hm
     unfold bOq
     refine eAr (cM S3 T1 hc) ?_
     rintro _ _ ⟨rfl, S4⟩
     unfold bWj
     cases c with
     | true =>
      refine yt ?_
      rw [if_pos rfl] at hm
      obtain ⟨⟨ok, st2⟩, ho, hm⟩ := aT hm
      unfold cBf
      refine eAr (aDe S4 T1 ho) ?_
      rintro _ _ ⟨rfl, i5, S5, T5⟩
      unfold bDl
      cases ok with
      | false =>
       refine yj ?_
       rw [if_neg (by simp)] at hm
       simp only [aZ, bT] at hm
       obtain ⟨rfl, rfl⟩ := hm
       unfold xJ
       refine ws ?_; refine wt fun _ _ => ?_; refine ws ?_
       exact eAs ⟨I, i5, _, rfl, ILe.refl _, dp, T5, N1⟩
      | true =>
       refine yt ?_
       rw [if_pos rfl] at hm
       obtain ⟨⟨w, st3⟩, hw, hm⟩ := aT hm
       obtain ⟨⟨u, st4⟩, hu, hm⟩ := aT hm
       simp only [aZ, bT] at hm
       obtain ⟨rfl, rfl⟩ := hm
       refine eAr (HE _ _ _ _ _ _ _ _ _ _ S5 T5 hw) ?_
       rintro _ _ ⟨J, i6, ds, rfl, g6, S6, T6, N6⟩
       obtain ⟨l6, o6, q6⟩ := N6.shape
       refine wt fun _ _ => ?_
       refine eAr (iL (by assumption) T6 hu) ?_
       rintro _ _ ⟨rfl, i7, S7, T7⟩
       refine wn (wf ?_); refine wq ?_
       refine eBq ?_
       refine wn (wf ?_); refine wv fun _ _ => ?_
       unfold xJ
       refine ws ?_; refine wt fun _ _ => ?_; refine ws ?_
       exact eAs ⟨J, i7, _, rfl, g6, dp, T7, N6⟩
     | false =>
      refine yj ?_
      rw [if_neg (by simp)] at hm
      obtain ⟨c, hc, hm⟩ := aT hm
      unfold cBw
      refine eAr (cM S4 T1 hc) ?_
      rintro _ _ ⟨rfl, S5⟩
      cases c with
      | true =>
       refine yt ?_
       rw [if_pos rfl] at hm
       refine eAr (bKu HE f hf _ _ _ _ _ _ _ _ _ _ S5 T1 hm) ?_
       rintro _ _ ⟨J, i6, ds, rfl, g6, S6, T6, N6⟩
       obtain ⟨l6, o6, q6⟩ := N6.shape
       refine wt fun _ _ => ?_; refine ws ?_
       exact eAs ⟨J, i6, _, rfl, g6, dp, T6, N6⟩
      | false =>
       refine yj ?_
       rw [if_neg (by simp)] at hm
       obtain ⟨t, ht, hm⟩ := aT hm
       simp only [aZ, bT] at hm
       obtain ⟨rfl, rfl⟩ := hm
       refine eAr (eU (k := 0) S5 T1 ht (by omega)) ?_
       rintro _ _ ⟨rfl, S6⟩
       refine eAr (iU S6 hs t _) ?_
       rintro _ _ ⟨rfl, S7⟩
       refine ws ?_; refine wt fun _ _ => ?_; refine ws ?_
       exact eAs ⟨I, i1, _, rfl, ILe.refl _, dp, by rw [bJ]; exact T1, N1⟩
end Go.Dd

namespace Go.Dd
open Go.Proofs
def aEb (P : PF) (g : Nat) : Nat → List Node → PSt → Option (Node × PSt)
 | 0, _, _ => none
 | f + 1, ks, st => (eD st 10 [59]).bind fun c => if c then (dX st).bind fun r => (aDs P g r.2).bind fun q => aEb P g f (ks ++ [q.1]) q.2 else some (.mk 8 [] 0 [] [] ks, st)
def aEy (P E : PF) (g : Nat) : PF := fun st => (eD st 1 []).bind fun c => (if c then (bN st 1).bind fun t => some (decide (t.kind = 9)) else some false).bind fun d =>
 if d then (dX st).bind fun r => (dX r.2).bind fun q => (E q.2).bind fun u => some (.mk 6 r.1.text 0 [] [] [u.1], u.2)
 else (P st).bind fun q => (lH g q.1 q.2).bind fun u => (lU P g g u.1 u.2).bind fun w => (aRl P g w.1 w.2).bind fun n =>
  (eD n.2 10 [59]).bind fun c => if c then
   if n.1.kind = 7 then (n.1.kids[0]?).bind fun k0 => aEb P g g [k0, cV n.1.text (n.1.kids.drop 1)] n.2
   else (bN n.2 0).bind fun t => some (n.1, bS n.2 t 13)
  else some n
def tS : Nat → PF
 | 0 => hJ (fun _ => none) 0
 | f + 1 => hJ (tS f) f
def sW : Nat → PF
 | 0 => fun _ => none
 | f + 1 => aEy (mL (tS f) (sW f) f) (sW f) f
def bFe (f : Nat) (x : Node) (st : PSt) : Option (Node × Int × Int) := (oU f st).bind fun b => (jO (sW f) f [] b.2).bind fun c => (cAb c.2).bind fun d =>
 if d.err = 0 then some (x.with b.1 c.1, 0, 0) else some (zN, d.pos, d.err)
theorem cKe (n : Nat) (x : DV) (h : Hp) : aI (n + 1) 72 [x] h = s72 (aI n) n x h := by kernel_rfl
theorem cIx (n : Nat) (x y : DV) (h : Hp) : aI (n + 1) 25 [x, y] h = s25 (aI n) n x y h := by kernel_rfl
theorem aFo {P : PF} (HP : lC 100 P) (g : Nat) (hg : g + 1 ≤ bG) : ∀ (f j : Nat) (I : Im) (B A L : Ls) (h : Hp) (p : Pos) (s x : DV) (i : Nat) (st : PSt) (xs : List Node) (y : Node) (cells c5 z : List DV) (st' : PSt) (b2 b5 b6 : Pos),
 Sy I (B ++ A) [PD p s i st] ((b6, some (.row .ex [.i .i64 (Int.ofNat 8), .s [], .i .i64 (Int.ofNat 0), .l0, .l0, x])) :: (b5, some (.row .ex c5)) :: (b2, some (.row .ex z)) :: L) h → Gr I 6 B x xs.length cells → NVL I xs cells → z.length = 6 → (∀ v ∈ z, v.one = true) →
 xs.length + f ≤ bG → TD I s i st.toks → aEb P g f xs st = some (y, st') →
 Ev (fun n => nM (aI n) n (n - j) (.p p 0) (.p b2 0) (.p b6 0) h) (NPostD I A L p s y st')
 | 0, j, I, B, A, L, h, p, s, x, i, st, xs, y, cells, c5, z, st', b2, b5, b6, S, G, NL, z1, z2, hl, T, hm => by cases hm
 | f + 1, j, I, B, A, L, h, p, s, x, i, st, xs, y, cells, c5, z, st', b2, b5, b6, S, G, NL, z1, z2, hl, T, hm => by
  unfold aEb at hm
  obtain ⟨c, hc, hm⟩ := aT hm
  refine eAw j (ll := fun n m => nM (aI n) n m (.p p 0) (.p b2 0) (.p b6 0) h) (bb := fun n m => xC (aI n) n (nM (aI n) n m) (.p p 0) (.p b2 0) (.p b6 0) h) (fun _ _ => rfl) ?_
  have hx := G.one
  unfold xC fQ
  refine eAr (cM S T hc) ?_
  rintro _ _ ⟨rfl, S1⟩
  cases c with
  | false =>
   rw [if_neg (by simp)] at hm
   simp only [aZ, bT] at hm
   obtain ⟨rfl, rfl⟩ := hm
   obtain ⟨J, gJ, S3, N3⟩ := G.nodes NL S1 (by omega)
   have o3 := N3.one
   refine yj ?_; refine ws ?_; refine wt fun _ _ => ?_; refine ws ?_
   exact eAs ⟨J, i, _, rfl, gJ, dp, T.mono gJ, NV.of (SS.nil J) (SS.nil J) N3⟩
  | true =>
   rw [if_pos rfl] at hm
   obtain ⟨⟨t1, st1⟩, ht, hm⟩ := aT hm
   obtain ⟨⟨y1, st2⟩, hy1, hm⟩ := aT hm
   refine yt ?_
   refine eAr (cG S1 T ht) ?_
   rintro _ _ ⟨rfl, i2, S2, T2⟩
   have Sr := S2.res
   refine wf ?_; refine wl ?_
   refine eAr (aZm HP g hg _ _ _ _ _ _ _ _ _ _ Sr T2 hy1) ?_
   rintro _ _ ⟨J, i5, ds, rfl, g5, S5, T5, N5⟩
   obtain ⟨l5, o5, q5⟩ := N5.shape
   refine Ev.cnd ?_ ?_
   ·rw [Bool.and_true]; exact dQ S5 (by repeat (first | exact bX | apply List.Mem.tail)) rfl hx G.beq
   refine eBl S5 (by repeat (first | exact Rpl.head _ | apply Rpl.tail)) (fV l5) ?_
   intro h8 S8
   obtain ⟨x10, h10, B10, cells10, e10, S10, G10, NL10⟩ := eW (G.mono g5) (NL.mono g5) N5 S8 (by repeat (first | exact bX | apply List.Mem.tail)) (by omega)
   have hx10 := G10.one
   refine Ev.op e10 ?_
   refine wf ?_; refine wu fun _ _ => ?_
   refine (aFo HP g hg f (j + 1) J B10 A L _ p s x10 i5 st2 (xs ++ [y1]) y cells10 c5 z st' b2 b5 b6 ?_ G10 NL10 z1 z2 (by simp; omega) T5 hm).mono (NPostD.le g5)
   exact Sy.dropL (by assumption)
theorem cAq {P E : PF} (HP : lC 100 P) (HE : lC 72 E) (g : Nat) (hg : g + 2 ≤ bG) : lC 72 (aEy P E g) := by
 intro I A L h p s i st x st' S T hm
 have hs := T.one
 unfold aEy at hm
 obtain ⟨c, hc, hm⟩ := aT hm
 obtain ⟨d, hd, hmd⟩ := aT hm
 clear hm
 refine Ev.enter (fun n => cKe n _ h) ?_
 unfold s72
 refine wa fun _ _ _ => ?_
 unfold bDy
 refine eAr (cM (by assumption) T hc) ?_
 rintro _ _ ⟨rfl, S1⟩
 have neg : ∀ (b2 : Pos) (h' : Hp), d = false → Sy I A [PD p s i st] ((b2, some (.row .ex [.i .i64 (Int.ofNat 0), .s [], .i .i64 (Int.ofNat 0), .l0, .l0, .l0])) :: L) h' →
  Ev (fun n => aPh (aI n) n (.p p 0) (.p b2 0) h') (NPostD I A L p s x st') := by
  intro b2 h' hd S'
  subst hd
  rw [if_neg (by simp)] at hmd
  obtain ⟨⟨y1, st1⟩, hy1, hm⟩ := aT hmd
  obtain ⟨⟨y2, st2⟩, hy2, hm⟩ := aT hm
  obtain ⟨⟨y3, st3⟩, hy3, hm⟩ := aT hm
  obtain ⟨⟨y4, st4⟩, hy4, hm⟩ := aT hm
  obtain ⟨c, hc, hm⟩ := aT hm
  unfold aPh
  refine eAr (HP _ _ _ _ _ _ _ _ _ _ S' T hy1) ?_
  rintro _ _ ⟨J1, i1, c1, rfl, g1, S1, T1, N1⟩
  obtain ⟨l1, o1, q1⟩ := N1.shape
  refine wa fun _ _ _ => ?_; refine wt fun _ _ => ?_
  unfold bCg
  refine ws ?_
  refine eAr (pX g _ _ _ _ _ _ _ _ _ _ _ _ (by assumption) T1 N1 hy2) ?_
  rintro _ _ ⟨J2, i2, c2, rfl, g2, S2, T2, N2⟩
  obtain ⟨l2, o2, q2⟩ := N2.shape
  refine wt fun _ _ => ?_
  unfold bDw
  refine ws ?_
  refine eAr (zA HP g g _ _ _ _ _ _ _ _ _ _ _ _ (by assumption) T2 N2 hy3) ?_
  rintro _ _ ⟨J3, i3, c3, rfl, g3, S3, T3, N3⟩
  obtain ⟨l3, o3, q3⟩ := N3.shape
  refine wt fun _ _ => ?_
  unfold bHz
  refine ws ?_
  refine eAr (bRh HP g (by omega) _ _ _ _ _ _ _ _ _ _ _ _ (by assumption) T3 N3 hy4) ?_
  rintro _ _ ⟨J4, i4, c4, rfl, g4, S4, T4, N4⟩
  have g14 := ((g1.trans g2).trans g3).trans g4
  obtain ⟨l4, o4, q4⟩ := N4.shape
  refine wt fun _ _ => ?_
  unfold bCr
  refine eAr (cM (by assumption) T4 hc) ?_
  rintro _ _ ⟨rfl, S5⟩
  cases c with
  | false =>
   rw [if_neg (by simp)] at hm
   simp only [aZ, bT] at hm
   obtain ⟨rfl, rfl⟩ := hm
   refine ao (yt ?_); refine ws ?_; refine wt fun _ _ => ?_; refine ws ?_
   exact eAs ⟨J4, i4, _, rfl, g14, dp, T4, N4⟩
  | true =>
   rw [if_pos rfl] at hm
   have N4' := N4
   obtain ⟨k, t, m, ns, ts, ks⟩ := y4
   obtain ⟨d1, d2, d3, rfl, a1, a2, a3, cells, F, NL⟩ := N4
   have o1 := a1.2.one
   have o2 := a2.2.one
   have o3 := F.one
   refine an (yj ?_)
   unfold bGb
   refine wf ?_; refine wl ?_
   refine eBi (fun e1 => ?_) (fun e1 => ?_)
   ·rw [if_neg (show ¬ Node.kind (.mk k t m ns ts ks) = 7 from e1)] at hm
    obtain ⟨u, hu, hm⟩ := aT hm
    simp only [aZ, bT] at hm
    obtain ⟨rfl, rfl⟩ := hm
    refine yt ?_
    refine eAr (eU (k := 0) (by assumption) T4 hu (by omega)) ?_
    rintro _ _ ⟨rfl, S6⟩
    refine eAr (iU S6 hs u _) ?_
    rintro _ _ ⟨rfl, S7⟩
    refine ws ?_; refine wt fun _ _ => ?_; refine ws ?_
    exact eAs ⟨J4, i4, _, rfl, g14, dp, by rw [bJ]; exact T4, N4'⟩
   ·rw [if_pos (show Node.kind (.mk k t m ns ts ks) = 7 from e1)] at hm
    obtain ⟨k0, hk0, hm⟩ := aT hm
    refine yj ?_
    unfold aOx
    refine wd ?_; refine wa fun _ _ _ => ?_; refine wt fun _ _ => ?_
    unfold aEg
    have Sr := Sy.res (by assumption)
    have NS3 : NS J4 d3 ks := ⟨a3, cells, F, NL⟩
    obtain ⟨b6, o6, c6, i6, N6, L6⟩ := NS3.at (i := 0) hk0
    obtain ⟨l6, o6', q6⟩ := N6.shape
    refine wf ?_; refine wl ?_; refine wf ?_; refine wl ?_
    refine Ev.op (i6 _) (Ev.op (L6 J4 _ _ _ _ (ILe.refl _) Sr) ?_)
    refine eBl Sr (by repeat (first | exact Rpl.head _ | apply Rpl.tail)) (fV l6) ?_
    intro h8 S8
    obtain ⟨x10, h10, B10, cells10, e10, S10, G10, NL10⟩ := eW (B := []) (xs := []) (Gr.nil J4 6) rfl N6 S8 (by repeat (first | exact bX | apply List.Mem.tail)) (by simp [bG])
    have hx10 := G10.one
    refine Ev.op e10 ?_
    refine wf ?_; refine wu fun _ _ => ?_
    unfold aJt
    have Sr2 := Sy.res (by assumption)
    have hklen : 0 < ks.length := (wV hk0)
    obtain ⟨s', h11, M, e11, g11, S11, F11, _⟩ := F.rest Sr2 (i := 1) (by omega) hklen
    have o11 := F11.one
    refine wf ?_; refine wl ?_; refine wf ?_; refine wl ?_; refine wf ?_; refine wl ?_
    refine Ev.op e11 ?_
    have N11 : NS M s' (ks.drop 1) := ⟨by simp; omega, _, by simpa using F11, by simpa using (NL.mono g11).drop 1⟩
    have N12 := NV.of (I := M) (k := 7) (t := t) (m := 0) (SS.nil M) (SS.nil M) N11
    obtain ⟨l12, o12, q12⟩ := N12.shape
    refine wd ?_
    refine eBl S11 (by repeat (first | exact Rpl.head _ | apply Rpl.tail)) (fV l12) ?_
    intro h13 S13
    obtain ⟨x14, h14, B14, cells14, e14, S14, G14, NL14⟩ := eW (xs := [k0]) (G10.mono g11) (NL10.mono g11) N12 S13 (by repeat (first | exact bX | apply List.Mem.tail)) (by simp [bG])
    have hx14 := G14.one
    refine Ev.op e14 ?_
    refine wf ?_; refine wu fun _ _ => ?_
    unfold aGi aWk
    refine (aFo HP g (by omega) g 0 M B14 A L _ p s x14 i4 st4 [k0, cV t (ks.drop 1)] x cells14 _ _ st' _ _ _ (Sy.dropL (Sy.dropL (by assumption))) G14 NL14 (by rfl) (by first | assumption | exact bV _ | (repeat (first | exact aX | refine aU (by first | rfl | assumption | exact Fz.one (by assumption)) ?_))) (by simp; omega) (T4.mono g11) hm).mono (NPostD.le (g14.trans g11))
 cases c with
 | false =>
  simp only [Bool.false_eq_true, if_false, aZ] at hd
  refine yf (yf (yf (yf (aq (yj ?_)))))
  exact neg _ _ hd.symm S1
 | true =>
  rw [if_pos rfl] at hd
  obtain ⟨u, hu, hd⟩ := aT hd
  simp only [aZ] at hd
  refine zt (wm (zt ?_))
  refine eAr (eU (k := 1) S1 T hu (by omega)) ?_
  rintro _ _ ⟨rfl, S2⟩
  refine zt ?_; refine wp ?_; refine zt ?_
  refine eAv (fun e1 => ?_) (fun e1 => ?_)
  ·refine ap (yt ?_)
   rw [← hd, decide_eq_true (show u.kind = 9 from e1), if_pos rfl] at hmd
   obtain ⟨⟨t1, st1⟩, ht1, hm⟩ := aT hmd
   obtain ⟨⟨t2, st2⟩, ht2, hm⟩ := aT hm
   obtain ⟨⟨y, st3⟩, hy, hm⟩ := aT hm
   simp only [aZ, bT] at hm
   obtain ⟨rfl, rfl⟩ := hm
   refine eAr (cG S2 T ht1) ?_
   rintro _ _ ⟨rfl, i3, S3, T3⟩
   refine wp ?_
   refine eAr (cG S3 T3 ht2) ?_
   rintro _ _ ⟨rfl, i4, S4, T4⟩
   refine eAr (HE _ _ _ _ _ _ _ _ _ _ S4 T4 hy) ?_
   rintro _ _ ⟨J, i5, ds, rfl, g5, S5, T5, N5⟩
   obtain ⟨l5, o5, q5⟩ := N5.shape
   refine wa fun _ _ _ => ?_; refine wt fun _ _ => ?_; refine ws ?_
   refine eBm (by assumption) (fV l5) ?_
   intro b6 h6 S6
   obtain ⟨K, gK, S7, F7, _⟩ := Fz.built (sz := 6) (n := 1) S6 (by omega) o5
   have N7 : NS K _ [y] := ⟨by simp [bG], ds, F7, eBf (N5.mono gK)⟩
   refine wd ?_; refine wt fun _ _ => ?_; refine ws ?_
   exact eAs ⟨K, i5, _, rfl, g5.trans gK, dp, T5.mono gK, NV.of (SS.nil K) (SS.nil K) N7⟩
  ·refine ap (yj ?_)
   exact neg _ _ (by rw [← hd, decide_eq_false (show ¬ u.kind = 9 from e1)]) S2
theorem aOi : ∀ (f : Nat), f ≤ bG → lC 129 (tS f)
 | 0, _ => uD (fun I A L h p s i st x st' S T hm => by cases hm) 0 (by simp)
 | f + 1, hf => uD (aOi f (by omega)) f (by omega)
theorem vD : ∀ (f : Nat), f + 2 ≤ bG → lC 72 (sW f)
 | 0, _ => fun I A L h p s i st x st' S T hm => by cases hm
 | f + 1, hf => cAq (aRf (aOi f (by omega)) (vD f (by omega)) f (by omega)) (vD f (by omega)) f (by omega)
section
variable {I : Im} {A L : Ls} {h : Hp} {p : Pos} {s : DV} {i : Nat} {st : PSt}
theorem cEy (S : Sy I A [PD p s i st] L h) (T : TD I s i st.toks) {t : Tok} (hu : bN st 0 = some t) :
 Ev (fun n => aI n 69 [.p p 0] h) (fun v h' => v = .a (tc t) ∧ Sy I A [PD p s (i + 1) st] L h') := by
 have hs := T.one
 refine Ev.enter (fun n => aZd n _ h) ?_
 unfold s69
 refine wa fun _ _ _ => ?_
 refine eAr (eU (k := 0) (by assumption) T hu (by omega)) ?_
 rintro _ _ ⟨rfl, S1⟩
 obtain ⟨T, T1, T2, T3⟩ := T
 have hl := T1.1
 have hlen : st.toks.length = T.length - i := by rw [← T2]; simp
 refine wa fun _ _ _ => ?_; refine wt fun _ _ => ?_; refine wn (wf ?_); refine wq ?_
 refine eAx ?_
 rw [gC (by simp [bG] at hl ⊢; omega)]
 refine wn (wf ?_); refine wv fun _ _ => ?_; refine ws ?_; refine wt fun _ _ => ?_; refine ws ?_
 exact eAs ⟨rfl, dp⟩
theorem cRc (S : Sy I A [PD p s i st] L h) (T : TD I s i st.toks) {st' : PSt} (ht : cAb st = some st') :
 Ev (fun n => aI n 47 [.p p 0, .i .i64 (Int.ofNat 0), .s []] h) (fun v h' => ∃ i', Sy I A [PD p s i' st'] L h') := by
 unfold cAb at ht
 obtain ⟨c, hc, ht⟩ := aT ht
 have hc' := hc
 unfold eD at hc'
 obtain ⟨t, htt, _⟩ := aT hc'
 refine Ev.enter (fun n => aYz n _ _ _ h) ?_
 unfold s47
 refine wa fun _ _ _ => ?_
 refine eAr (cM (kind := 0) (by assumption) T hc) ?_
 rintro _ _ ⟨rfl, S1⟩
 cases c with
 | true =>
  refine an (yj ?_)
  rw [if_pos rfl] at ht
  cases ht
  refine eAr (cEy (by assumption) T htt) ?_
  rintro _ _ ⟨rfl, S2⟩
  refine wt fun _ _ => ?_; refine ws ?_
  exact eAs ⟨i + 1, dp⟩
 | false =>
  refine ao (yt ?_)
  obtain ⟨u, hu, ht⟩ := aT (by simpa using ht)
  simp only [aZ] at ht
  subst ht
  refine eAr (eU (k := 0) (by assumption) T hu (by omega)) ?_
  rintro _ _ ⟨rfl, S2⟩
  refine eAr (iU (by assumption) T.one u _) ?_
  rintro _ _ ⟨rfl, S3⟩
  refine wd ?_; refine wt fun _ _ => ?_; refine ws ?_
  exact eAs ⟨i, dp⟩
theorem bOv {b4 b11 : Pos} {z : List DV} {k : Int} {tt : List Nat} {mm : Int} {ns ts0 : List (List Nat)} {ks0 : List Node} {d1 d2 d3 : DV} (f : Nat) (hf : f + 2 ≤ bG)
 (S : Sy I A [PD p s i st] ((b11, some (.row .ex [.i .i64 k, .s tt, .i .i64 mm, d1, d2, d3])) :: (b4, some (.row .ex z)) :: L) h) (z1 : z.length = 6) (z2 : ∀ v ∈ z, v.one = true) (T : TD I s i st.toks) (a1 : SS I d1 ns) (q2 : d2.one = true) (q3 : d3.one = true)
 {res : Node × Int × Int} (hm : bFe f (.mk k tt mm ns ts0 ks0) st = some res) : Ev (fun n => bAn (aI n) n (.p b4 0) (.p p 0) (.p b11 0) h) (aSl I A L res) := by
 unfold bFe at hm
 obtain ⟨⟨ts, st2⟩, h2, hm⟩ := aT hm
 obtain ⟨⟨ks, st3⟩, h3, hm⟩ := aT hm
 obtain ⟨st4, h4, hm⟩ := aT hm
 have hs := T.one
 have q1 := a1.2.one
 unfold bAn
 refine eAr (aEt f (by omega) S T h2) ?_
 rintro v3 _ ⟨M, i3, g3, S3, T3, N3⟩
 have q4 := N3.2.one
 refine wf ?_; refine wu fun _ _ => ?_
 refine eAr (aEo (vD f hf) f (by omega) (by assumption) T3 h3) ?_
 rintro v4 _ ⟨O, i4, g4, S4, T4, N4⟩
 have q5 := N4.one
 refine wf ?_; refine wu fun _ _ => ?_
 refine eAr (cRc (by assumption) T4 h4) ?_
 rintro _ _ ⟨i5, S5⟩
 have hdrop : ∀ {K : Im} {e : Pos × Option Ob} {M : Ls} {h'' : Hp}, Sy K A [e] M h'' → Sy K A [] M h'' := fun S => Sy.dropL (eEf (Q := []) S)
 refine wn (wf ?_); refine wq ?_
 refine eBi (fun e2 => ?_) (fun e2 => ?_)
 ·rw [if_neg (show ¬ st4.err = 0 from e2)] at hm
  cases hm
  refine yt ?_; refine wd ?_; refine wn (wf ?_); refine wq ?_; refine wn (wf ?_); refine wq ?_; refine wt fun _ _ => ?_
  refine Ev.cnd ?_ ?_
  ·rename_i hq Sq
   rw [ld1 (Sq.memQ (bX)) rfl rfl, ld1 (Sq.memQ (bX)) rfl rfl]
   simp [bM, DV.beq]
  refine ws ?_
  exact eAs ⟨O, _, rfl, g3.trans g4, hdrop (dp), NV.flat _ _ _⟩
 ·rw [if_pos (show st4.err = 0 from e2)] at hm
  cases hm
  refine yj ?_; refine ws ?_; refine wt fun _ _ => ?_; refine ws ?_
  refine eAs ⟨O, _, rfl, g3.trans g4, hdrop (dp), ?_⟩
  exact NV.of ((a1.mono g3).mono g4) (N3.mono g4) N4
end
end Go.Dd

namespace Go.Dd
def TOk (t : Tok) : Prop := (t.kind = 4 → t.text = []) ∧ (t.kind = 5 ∨ t.kind = 6 → t.num = 0)
def GT (l : List Tok) : Prop := 1 ≤ l.length ∧ ∀ t ∈ l, TOk t
theorem GT.drop {l : List Tok} (h : GT l) (h2 : 2 ≤ l.length) : GT (l.drop 1) := ⟨by simp; omega, fun t ht => h.2 t (List.mem_of_mem_drop ht)⟩
def RR (a b : PSt) : Prop := GT b.toks ∧ b.err = a.err ∧ b.pos = a.pos ∧ (a.err = 0 → a = b)
def RQ {α β : Type} (e : Int) (V : α → β → Prop) (o : Option (α × PSt)) (o' : Option (β × PSt)) : Prop := ∀ x s, o = some (x, s) → (s.err = 0 → e = 0) ∧ ∃ y s', o' = some (y, s') ∧ RR s s' ∧ (s.err = 0 → V x y)
section
variable {α α' β β' : Type} {V : α → α' → Prop} {W : β → β' → Prop} {e : Int}
theorem RQ.bind {o : Option (α × PSt)} {o' : Option (α' × PSt)} {k : α × PSt → Option (β × PSt)} {k' : α' × PSt → Option (β' × PSt)} (H : RQ e V o o') (K : ∀ x y s s', RR s s' → (s.err = 0 → e = 0) → (s.err = 0 → V x y) → RQ s.err W (k (x, s)) (k' (y, s'))) : RQ e W (o.bind k) (o'.bind k') := by
 intro y t h
 obtain ⟨⟨x, s⟩, e1, e2⟩ := aT h
 obtain ⟨h0, x', s', a, b, c⟩ := H x s e1
 obtain ⟨h1, y', t', d⟩ := K x x' s s' b h0 c y t e2
 exact ⟨fun h => h0 (h1 h), y', t', by rw [a]; exact d.1, d.2⟩
theorem eBh {γ : Type} {o o' : Option γ} {k : γ → Option (β × PSt)} {k' : γ → Option (β' × PSt)} (H : ∀ b, o = some b → o' = some b) (K : ∀ b, o = some b → RQ e W (k b) (k' b)) : RQ e W (o.bind k) (o'.bind k') := by
 intro y t h
 obtain ⟨x, e1, e2⟩ := aT h
 obtain ⟨h1, y', t', d⟩ := K x e1 y t e2
 exact ⟨h1, y', t', by rw [H x e1]; exact d.1, d.2⟩
theorem RQ.some {x : α} {y : α'} {s s' : PSt} (r : RR s s') (h : s.err = 0 → e = 0) (v : s.err = 0 → V x y) : RQ e V (some (x, s)) (some (y, s')) := fun _ _ q => by
 cases q; exact ⟨h, _, _, rfl, r, v⟩
theorem RQ.none {o : Option (β × PSt)} {V : α → β → Prop} : RQ e V none o := fun _ _ q => by cases q
theorem RQ.mono {o : Option (α × PSt)} {o' : Option (α' × PSt)} {e' : Int} {U : α → α' → Prop} (H : RQ e V o o') (he : e = 0 → e' = 0) (k : ∀ x y, V x y → U x y) : RQ e' U o o' := fun x s q => by
 obtain ⟨a, y, s', b, c, d⟩ := H x s q
 exact ⟨fun h => he (a h), y, s', b, c, fun h => k _ _ (d h)⟩
end
theorem RR.refl {a : PSt} (h : GT a.toks) : RR a a := ⟨h, rfl, rfl, fun _ => rfl⟩
theorem RR.eq {a b : PSt} (h : RR a b) (e : a.err = 0) : a = b := h.2.2.2 e
variable {a b : PSt}
theorem iC {b : PSt} (h : GT b.toks) : ∃ t, bN b 0 = some t := by
 have := h.1
 unfold bN
 exact ⟨_, List.getElem?_eq_getElem (by omega)⟩
theorem kE (R : RR a b) (k : Int) (t : List Nat) : ∀ c, eD a k t = some c → eD b k t = some c := by
 intro c h
 by_cases e : a.err = 0
 ·rw [← R.eq e]; exact h
 ·unfold eD at h ⊢
  obtain ⟨x, _, h⟩ := aT h
  obtain ⟨y, hy⟩ := iC R.1
  rw [hy, Option.bind_some, R.2.1]
  rw [← h]
  simp [e]
theorem dA {st : PSt} {k : Int} {t : List Nat} (h : eD st k t = some true) : st.err = 0 ∧ ∃ u, bN st 0 = some u ∧ u.kind = k ∧ (t = [] ∨ u.text = t) := by
 unfold eD at h
 obtain ⟨x, hx, h⟩ := aT h
 simp only [aZ, Bool.and_eq_true, Bool.or_eq_true, decide_eq_true_eq] at h
 exact ⟨h.1.1, x, hx, h.1.2, h.2⟩
theorem pI (R : RR a b) {t t' : Tok} {e : Int} (he : e ≠ 0) (ht : a.err = 0 → t = t') : RR (bS a t e) (bS b t' e) ∧ (bS a t e).err ≠ 0 := by
 unfold bS
 rw [R.2.1]
 by_cases h : a.err = 0
 ·rw [if_pos h, if_pos h]
  have := R.eq h
  subst this
  rw [ht h]
  exact ⟨RR.refl R.1, he⟩
 ·rw [if_neg h, if_neg h]
  exact ⟨R, h⟩
theorem kH (R : RR a b) {k : Int} {t : List Nat} (hk : k ≠ 0) (h : eD a k t = some true) {β β' : Type} {W : β → β' → Prop} {K : Tok × PSt → Option (β × PSt)} {K' : Tok × PSt → Option (β' × PSt)}
 (H : ∀ x s, s.err = 0 → GT s.toks → x.kind = k → bN a 0 = some x → RR s s → RQ 0 W (K (x, s)) (K' (x, s))) : RQ a.err W ((cP a).bind K) ((dX b).bind K') := by
 obtain ⟨e, u, hu, hk2, _⟩ := dA h
 have := R.eq e
 subst this
 unfold cP dX
 rw [hu]
 simp only [Option.bind_some]
 have hu0 : ¬ u.kind = 0 := by rw [hk2]; exact hk
 rw [if_neg hu0, if_neg hu0]
 by_cases hl : 2 ≤ a.toks.length
 ·rw [if_pos hl]
  simp only [Option.bind_some]
  exact (H u { a with toks := a.toks.drop 1 } e (R.1.drop hl) hk2 hu (RR.refl (R.1.drop hl))).mono (fun _ => e) (fun _ _ h => h)
 ·rw [if_neg hl]
  exact RQ.none
theorem nF (R : RR a b) {k : Int} (hk : k ≠ 0) (t : List Nat) : RQ a.err (fun x y => x = y) (eB a k t) (jW b k t) := by
 unfold eB jW
 refine eBh (kE R k t) fun c hc => ?_
 cases c with
 | true =>
  simp only [if_true]
  have := kH R hk hc (K := some) (K' := some) (W := fun x y => x = y) (fun x s e h1 h2 h3 h4 => RQ.some h4 (fun _ => rfl) (fun _ => rfl))
  simpa using this
 | false =>
  simp only [Bool.false_eq_true, if_false]
  intro y s h
  obtain ⟨u, hu, h⟩ := aT h
  simp only [aZ, bT] at h
  obtain ⟨rfl, rfl⟩ := h
  obtain ⟨v, hv⟩ := iC R.1
  obtain ⟨q1, q2⟩ := pI R (t := u) (t' := v) (e := 13) (by decide) (fun e => by rw [R.eq e, hv] at hu; cases hu; rfl)
  exact ⟨fun e => absurd e q2, z4, _, by rw [hv]; rfl, q1, fun e => absurd e q2⟩
theorem dQr (R : RR a b) {t : Tok} {s : PSt} (h : eB a 0 [] = some (t, s)) : ∃ s', cAb b = some s' ∧ RR s s' ∧ (s.err = 0 → a.err = 0) := by
 unfold eB at h
 obtain ⟨c, hc, h⟩ := aT h
 unfold cAb
 rw [kE R 0 [] c hc, Option.bind_some]
 cases c with
 | true =>
  rw [if_pos rfl] at h ⊢
  obtain ⟨e, u, hu, hk, _⟩ := dA hc
  unfold cP at h
  rw [hu, Option.bind_some, if_pos hk] at h
  cases h
  exact ⟨b, rfl, R, id⟩
 | false =>
  simp only [Bool.false_eq_true, if_false] at h ⊢
  obtain ⟨u, hu, h⟩ := aT h
  simp only [aZ, bT] at h
  obtain ⟨rfl, rfl⟩ := h
  obtain ⟨v, hv⟩ := iC R.1
  obtain ⟨q1, q2⟩ := pI R (t := u) (t' := v) (e := 13) (by decide) (fun e => by rw [R.eq e, hv] at hu; cases hu; rfl)
  exact ⟨_, by rw [hv]; rfl, q1, fun e => absurd e q2⟩
theorem aGr (R : RR a b) {k : Int} (hk : k ≠ 0) (l : List (List Nat)) : RQ a.err (fun x y => y = l ++ [x]) (qS a k l.length) (lN b k l) := by
 unfold qS lN
 refine RQ.bind (nF R hk []) fun x y s s' R2 h0 hv => ?_
 show RQ s.err _ (some (x.text, if l.length = 4 then bS s x 18 else s)) (some (l ++ [y.text], if s'.err = 0 ∧ l.length = 4 then bS s' y 18 else s'))
 by_cases h4 : l.length = 4
 ·rw [if_pos h4]
  by_cases he : s.err = 0
  ·rw [if_pos ⟨by rw [R2.2.1]; exact he, h4⟩]
   obtain ⟨q1, q2⟩ := pI R2 (t := x) (t' := y) (e := 18) (by decide) hv
   exact RQ.some q1 (fun e => absurd e q2) (fun e => absurd e q2)
  ·rw [if_neg (fun h => he (by rw [← R2.2.1]; exact h.1))]
   have : bS s x 18 = s := by unfold bS; rw [if_neg he]
   rw [this]
   exact RQ.some R2 id (fun e => absurd e he)
 ·rw [if_neg h4, if_neg (fun h => h4 h.2)]
  exact RQ.some R2 id (fun e => by rw [hv e])
theorem aRg : ∀ (f : Nat) (l : List (List Nat)) (a b : PSt), RR a b → RQ a.err Eq (oV f l a) (pP f l b)
 | 0, l, a, b, R => RQ.none
 | f + 1, l, a, b, R => by
  unfold oV pP
  refine eBh (kE R _ _) fun c hc => ?_
  cases c with
  | true => exact kH R (by decide) hc fun x s e _ _ _ R2 => by have := aRg f (l ++ [x.text]) s s R2; rw [e] at this; exact this
  | false => exact RQ.bind (nF R (by decide) _) fun x y s s' R2 h0 hv => RQ.some R2 id (fun _ => rfl)
theorem bFi (f : Nat) (R : RR a b) : RQ a.err Eq (lM f a) (oU f b) := by
 unfold lM oU
 refine eBh (kE R _ _) fun c hc => ?_
 cases c with
 | true => exact kH R (by decide) hc fun x s e _ _ _ R2 => by have := aRg f [] s s R2; rw [e] at this; exact this
 | false => exact RQ.some R id (fun _ => rfl)
end Go.Dd

namespace Go.Dd
variable {a b : PSt}
theorem lY {st : PSt} {u : Tok} (he : st.err = 0) (hu : bN st 0 = some u) (k : Int) : eD st k [] = some (decide (u.kind = k)) := by
 unfold eD
 rw [hu]
 simp [he]
theorem sF {st : PSt} {u : Tok} (he : st.err ≠ 0) (hu : bN st 0 = some u) (k : Int) (t : List Nat) : eD st k t = some false := by
 unfold eD
 rw [hu]
 simp [he]
theorem bQv {st : PSt} {u : Tok} {k : Nat} (hu : bN st k = some u) : u ∈ st.toks := List.mem_of_getElem? hu
theorem gU {st : PSt} {u : Tok} (hu : bN st 0 = some u) (hk : u.kind ≠ 0) {x : Tok} {s : PSt} (h : cP st = some (x, s)) : 2 ≤ st.toks.length ∧ x = u ∧ s = { st with toks := st.toks.drop 1 } ∧ dX st = some (x, s) := by
 unfold cP at h
 unfold dX
 rw [hu] at h ⊢
 simp only [Option.bind_some] at h ⊢
 rw [if_neg hk] at h ⊢
 by_cases hl : 2 ≤ st.toks.length
 ·rw [if_pos hl] at h ⊢
  cases h
  exact ⟨hl, rfl, rfl, rfl⟩
 ·rw [if_neg hl] at h
  cases h
theorem aXv (R : RR a b) {x : Node} {c : Bool} {s : PSt} (h : mC a = some ((x, c), s)) : (s.err = 0 → a.err = 0) ∧ ∃ y s', rN b = some ((y, c), s') ∧ RR s s' ∧ (c = true → s.err = 0 ∧ x = y) := by
 unfold mC at h
 obtain ⟨t, ht, h⟩ := aT h
 by_cases he : a.err = 0
 ·have := R.eq he
  subst this
  rw [if_pos he] at h
  obtain ⟨c0, hc0, h⟩ := aT h
  have hT := R.1.2 t (bQv ht)
  unfold rN
  rw [ht, Option.bind_some]
  unfold bKl at hc0
  obtain ⟨t1, ht1, hc0⟩ := aT hc0
  obtain ⟨c1, hc1, hc0⟩ := aT hc0
  rw [ht] at hc0
  simp only [Option.bind_some, aZ] at hc0
  rw [hc1, Option.bind_some]
  have hD : (if c1 = true then (bN a 1).bind fun u => some (decide (u.kind = 4) && decide (u.pos = wJ (t.pos + 1))) else some false) = some c0 := by
   rw [← hc0]
   cases c1 with
   | true => rw [if_pos rfl, ht1]; simp
   | false => simp
  rw [hD, Option.bind_some]
  cases c0 with
  | true =>
   rw [if_pos rfl] at h ⊢
   simp only [Bool.and_eq_true, decide_eq_true_eq] at hc0
   obtain ⟨⟨z1, z2⟩, z3⟩ := hc0
   subst z1
   obtain ⟨_, u, hu, hk, _⟩ := dA hc1
   rw [ht] at hu
   cases hu
   obtain ⟨⟨x1, s1⟩, h1, h⟩ := aT h
   obtain ⟨⟨x2, s2⟩, h2, h⟩ := aT h
   obtain ⟨l1, rfl, rfl, d1⟩ := gU ht (by omega) h1
   have hu2 : bN { a with toks := a.toks.drop 1 } 0 = some t1 := by
    unfold bN at ht1 ⊢
    rw [show min 1 (a.toks.length - 1) = 1 by omega] at ht1
    simpa using ht1
   obtain ⟨l2, rfl, rfl, d2⟩ := gU hu2 (by omega) h2
   simp only [aZ, bT] at h
   obtain ⟨⟨rfl, rfl⟩, rfl⟩ := h
   rw [d1, Option.bind_some]
   refine ⟨fun _ => he, _, _, by simp only [d2, Option.bind_some], RR.refl ((R.1.drop l1).drop l2), fun _ => ⟨he, rfl⟩⟩
  | false =>
   simp only [Bool.false_eq_true, if_false] at h ⊢
   rw [lY he ht 4, Option.bind_some]
   by_cases k4 : t.kind = 4
   ·rw [if_pos k4] at h
    rw [if_pos (by simp [k4])]
    obtain ⟨⟨x1, s1⟩, h1, h⟩ := aT h
    obtain ⟨l1, rfl, rfl, d1⟩ := gU ht (by omega) h1
    simp only [aZ, bT] at h
    obtain ⟨⟨rfl, rfl⟩, rfl⟩ := h
    refine ⟨fun _ => he, _, _, by rw [d1]; rfl, RR.refl (R.1.drop l1), fun _ => ⟨he, by rw [hT.1 k4]⟩⟩
   ·rw [if_neg k4] at h
    rw [if_neg (by simp [k4]), lY he ht 5, Option.bind_some]
    by_cases k5 : t.kind = 5
    ·rw [if_pos k5] at h
     rw [if_pos (by simp [k5])]
     obtain ⟨⟨x1, s1⟩, h1, h⟩ := aT h
     obtain ⟨l1, rfl, rfl, d1⟩ := gU ht (by omega) h1
     simp only [aZ, bT] at h
     obtain ⟨⟨rfl, rfl⟩, rfl⟩ := h
     refine ⟨fun _ => he, _, _, by rw [d1]; rfl, RR.refl (R.1.drop l1), fun _ => ⟨he, by rw [hT.2 (.inl k5)]⟩⟩
    ·rw [if_neg k5] at h
     rw [if_neg (by simp [k5]), lY he ht 6, Option.bind_some]
     by_cases k6 : t.kind = 6
     ·rw [if_pos k6] at h
      rw [if_pos (by simp [k6])]
      obtain ⟨⟨x1, s1⟩, h1, h⟩ := aT h
      obtain ⟨l1, rfl, rfl, d1⟩ := gU ht (by omega) h1
      simp only [aZ, bT] at h
      obtain ⟨⟨rfl, rfl⟩, rfl⟩ := h
      refine ⟨fun _ => he, _, _, by rw [d1]; rfl, RR.refl (R.1.drop l1), fun _ => ⟨he, by rw [hT.2 (.inr k6)]⟩⟩
     ·rw [if_neg k6] at h
      rw [if_neg (by simp [k6])]
      simp only [aZ, bT] at h
      obtain ⟨⟨rfl, rfl⟩, rfl⟩ := h
      exact ⟨fun _ => he, _, _, rfl, R, fun h => by cases h⟩
 ·rw [if_neg he] at h
  simp only [aZ, bT] at h
  obtain ⟨⟨rfl, rfl⟩, rfl⟩ := h
  obtain ⟨u, hu⟩ := iC R.1
  have heb : b.err ≠ 0 := by rw [R.2.1]; exact he
  refine ⟨id, zN, b, ?_, R, fun h => by cases h⟩
  unfold rN
  rw [hu, Option.bind_some, sF heb hu, Option.bind_some]
  simp only [Bool.false_eq_true, if_false, Option.bind_some]
  rw [sF heb hu, Option.bind_some]
  simp only [Bool.false_eq_true, if_false]
  rw [sF heb hu, Option.bind_some]
  simp only [Bool.false_eq_true, if_false]
  rw [sF heb hu, Option.bind_some]
  simp
def PQ (f g : PF) : Prop := ∀ a b, RR a b → RQ a.err Eq (f a) (g b)
theorem tX : ∀ (f : Nat) (x y : Node) (a b : PSt), RR a b → (a.err = 0 → x = y) → RQ a.err Eq (iT f x a) (lH f y b)
 | 0, x, y, a, b, R, hx => RQ.none
 | f + 1, x, y, a, b, R, hx => by
  unfold iT lH
  refine eBh (kE R _ _) fun c hc => ?_
  cases c with
  | true =>
   have := hx (dA hc).1
   subst this
   exact kH R (by decide) hc fun t s e _ _ _ R2 => by have := tX f (cV t.text [x]) (cV t.text [x]) s s R2 (fun _ => rfl); rw [e] at this; exact this
  | false => exact RQ.some R id hx
theorem aBe {P P' : PF} (H : PQ P P') (g : Nat) : ∀ (f : Nat) (x y : Node) (a b : PSt), RR a b → (a.err = 0 → x = y) → RQ a.err Eq (iV P g f x a) (lU P' g f y b)
 | 0, x, y, a, b, R, hx => RQ.none
 | f + 1, x, y, a, b, R, hx => by
  unfold iV lU
  refine eBh (kE R _ _) fun c hc => ?_
  cases c with
  | true =>
   have := hx (dA hc).1
   subst this
   refine kH R (by decide) hc fun t s e _ _ _ R2 => ?_
   have h1 := H s s R2
   rw [e] at h1
   refine RQ.bind h1 fun x1 y1 s1 s1' R3 _ hv1 => ?_
   refine RQ.bind (tX g x1 y1 s1 s1' R3 hv1) fun x2 y2 s2 s2' R4 h4 hv2 => ?_
   exact aBe H g f _ _ s2 s2' R4 (fun h => by rw [hv2 h])
  | false => exact RQ.some R id hx
theorem aJe {P P' : PF} (H : PQ P P') (g : Nat) (x0 : Node) : ∀ (f : Nat) (t t' : List Nat) (ks ks' : List Node) (a b : PSt), RR a b → (a.err = 0 → t = t' ∧ ks = ks') →
 RQ a.err (fun X Y => ∃ u us, X = cV u (x0 :: us) ∧ Y = cV u us) (oQ P g f t (x0 :: ks) a) (mF P' g f t' ks' b)
 | 0, t, t', ks, ks', a, b, R, hx => RQ.none
 | f + 1, t, t', ks, ks', a, b, R, hx => by
  unfold oQ mF
  refine eBh (kE R _ _) fun c hc => ?_
  cases c with
  | true =>
   obtain ⟨h1, h2⟩ := hx (dA hc).1
   subst h1
   subst h2
   refine kH R (by decide) hc fun u s e _ _ _ R2 => ?_
   show RQ 0 _ (if t.length + u.text.length ≤ bG then _ else _) (if t.length + u.text.length ≤ bG then _ else _)
   split
   ·have h1 := H s s R2
    rw [e] at h1
    refine RQ.bind h1 fun x1 y1 s1 s1' R3 _ hv1 => ?_
    refine RQ.bind (tX g x1 y1 s1 s1' R3 hv1) fun x2 y2 s2 s2' R4 _ hv2 => ?_
    refine RQ.bind (aBe H g g x2 y2 s2 s2' R4 hv2) fun x3 y3 s3 s3' R5 _ hv3 => ?_
    exact aJe H g x0 f (t ++ u.text) (t ++ u.text) (ks ++ [x3]) (ks ++ [y3]) s3 s3' R5 (fun h => ⟨rfl, by rw [hv3 h]⟩)
   ·exact RQ.none
  | false => exact RQ.some R id (fun h => by obtain ⟨h1, h2⟩ := hx h; subst h1; subst h2; exact ⟨t, ks, rfl, rfl⟩)
theorem aAd {P : PF} {g : Nat} : ∀ (f : Nat) (t : List Nat) (ks : List Node) (b : PSt) (y : Node) (s : PSt), mF P g f t ks b = some (y, s) → ks.length ≤ y.kids.length ∧ y.kids.length ≤ ks.length + f ∧ (eD b 2 [] = some true → ks.length + 1 ≤ y.kids.length)
 | 0, t, ks, b, y, s, h => by cases h
 | f + 1, t, ks, b, y, s, h => by
  unfold mF at h
  obtain ⟨c, hc, h⟩ := aT h
  cases c with
  | true =>
   rw [if_pos rfl] at h
   obtain ⟨r, _, h⟩ := aT h
   split at h
   ·obtain ⟨q, _, h⟩ := aT h
    obtain ⟨u, _, h⟩ := aT h
    obtain ⟨w, _, h⟩ := aT h
    obtain ⟨a1, a2, _⟩ := aAd f _ _ _ y s h
    simp at a1 a2
    exact ⟨by omega, by omega, fun _ => by omega⟩
   ·cases h
  | false =>
   simp only [Bool.false_eq_true, if_false, aZ, bT] at h
   obtain ⟨rfl, rfl⟩ := h
   exact ⟨Nat.le_refl _, by show ks.length ≤ _; omega, fun e => by rw [hc] at e; cases e⟩
theorem aFw {P : PF} {g : Nat} {b : PSt} (h : eD b 2 [] = some true) : aDs P g b = mF P g g [] [] b := by
 obtain ⟨e, u, hu, hk, _⟩ := dA h
 unfold aDs
 rw [lY e hu 1, Option.bind_some, if_neg (by simp [hk]), lY e hu 3, Option.bind_some, if_neg (by simp [hk]), h]
 rfl
theorem dKp {P P' : PF} (H : PQ P P') (g : Nat) (hg : g + 1 ≤ bG) (x y : Node) (R : RR a b) (hx : a.err = 0 → x = y) : RQ a.err Eq (uF P g x a) (aRl P' g y b) := by
 unfold uF aRl
 refine eBh (kE R _ _) fun c hc => ?_
 cases c with
 | true =>
  simp only [if_true]
  have := hx (dA hc).1
  subst this
  have hcb := kE R _ _ _ hc
  rw [aFw hcb]
  intro z s h
  obtain ⟨h0, w, s', h1, h2, h3⟩ := aJe H g x g [] [] [] [] a b R (fun _ => ⟨rfl, rfl⟩) z s h
  obtain ⟨l1, l2, l3⟩ := aAd g [] [] b w s' h1
  have l3 := l3 hcb
  simp at l2 l3
  refine ⟨h0, cV w.text (x :: w.kids), s', ?_, h2, fun e => ?_⟩
  ·rw [h1, Option.bind_some]
   rw [if_pos ⟨l3, by show w.kids.length + 1 ≤ bG; omega⟩]
  ·obtain ⟨u, us, e1, e2⟩ := h3 e
   rw [e1, e2]
   rfl
 | false => exact RQ.some R id hx
theorem dSq {P P' : PF} (H : PQ P P') (g : Nat) (hg : 1 ≤ g) {s : PSt} (he : s.err = 0) (R : RR s s) : RQ 0 (fun X Y => kB X = Y) (aTg P g s) (aDs P' g s) := by
 obtain ⟨t, ht⟩ := iC R.1
 unfold aTg
 rw [ht, Option.bind_some]
 by_cases k1 : t.kind = 1
 ·rw [if_pos k1]
  unfold aDs
  have hc : eD s 1 [] = some true := by rw [lY he ht 1]; simp [k1]
  rw [hc, Option.bind_some]
  have := kH R (by decide) hc (K := fun r => some (cV t.text [zN], r.2)) (K' := fun r => some (cV r.1.text [], r.2)) (W := fun X Y => kB X = Y)
   (fun x s2 e _ _ hl R2 => RQ.some R2 (fun _ => rfl) (fun _ => by rw [ht] at hl; cases hl; rfl))
  rw [he] at this
  exact this
 ·rw [if_neg k1]
  by_cases k3 : t.kind = 3
  ·rw [if_pos k3]
   unfold aDs
   have hc : eD s 3 [] = some true := by rw [lY he ht 3]; simp [k3]
   rw [lY he ht 1, Option.bind_some, if_neg (by simp [k1]), hc, Option.bind_some]
   have := kH R (by decide) hc (K := fun r => (P r.2).bind fun q => (iT g q.1 q.2).bind fun u => some (cV t.text [zN, u.1], u.2)) (K' := fun r => (P' r.2).bind fun q => (lH g q.1 q.2).bind fun u => some (cV r.1.text [u.1], u.2)) (W := fun X Y => kB X = Y)
    (fun x s2 e _ _ hl R2 => by
     have h1 := H s2 s2 R2
     rw [e] at h1
     refine RQ.bind h1 fun x1 y1 s1 s1' R3 _ hv1 => ?_
     refine RQ.bind (tX g x1 y1 s1 s1' R3 hv1) fun x2 y2 s2 s2' R4 _ hv2 => ?_
     refine RQ.some R4 id (fun h => ?_)
     rw [ht] at hl
     cases hl
     show kB (cV t.text [zN, x2]) = cV t.text [y2]
     rw [hv2 h]
     rfl)
   rw [he] at this
   exact this
  ·rw [if_neg k3]
   by_cases k2 : t.kind = 2
   ·rw [if_pos k2]
    have hc : eD s 2 [] = some true := by rw [lY he ht 2]; simp [k2]
    rw [aFw hc]
    unfold uF
    rw [hc, Option.bind_some, if_pos rfl]
    have := aJe H g zN g [] [] [] [] s s R (fun _ => ⟨rfl, rfl⟩)
    rw [he] at this
    refine this.mono id ?_
    rintro X Y ⟨u, us, rfl, rfl⟩
    rfl
   ·rw [if_neg k2]
    unfold aDs
    rw [lY he ht 1, Option.bind_some, if_neg (by simp [k1]), lY he ht 3, Option.bind_some, if_neg (by simp [k3]), lY he ht 2, Option.bind_some]
    rw [if_neg (by simp [k2]), ht, Option.bind_some, Option.bind_some]
    obtain ⟨q1, q2⟩ := pI R (t := t) (t' := t) (e := 13) (by decide) (fun _ => rfl)
    obtain ⟨g, rfl⟩ : ∃ k, g = k + 1 := ⟨g - 1, by omega⟩
    obtain ⟨u, hu⟩ := iC q1.1
    intro X s' h
    cases h
    refine ⟨fun h => absurd h q2, cV [] [], bS s t 13, ?_, q1, fun h => absurd h q2⟩
    unfold mF
    rw [sF q2 hu]
    rfl
theorem cYx {P P' : PF} (H : PQ P P') (g : Nat) (hg : 1 ≤ g) : ∀ (f : Nat) (ks ks' : List Node) (a b : PSt), RR a b → (a.err = 0 → ks = ks') → RQ a.err Eq (aQc P g f ks a) (aEb P' g f ks' b)
 | 0, ks, ks', a, b, R, hx => RQ.none
 | f + 1, ks, ks', a, b, R, hx => by
  unfold aQc aEb
  refine eBh (kE R _ _) fun c hc => ?_
  cases c with
  | true =>
   have := hx (dA hc).1
   subst this
   refine kH R (by decide) hc fun t s e _ _ _ R2 => ?_
   refine RQ.bind (dSq H g hg e R2) fun x1 y1 s1 s1' R3 _ hv1 => ?_
   exact cYx H g hg f _ _ s1 s1' R3 (fun h => by rw [hv1 h])
  | false => exact RQ.some R id (fun h => by rw [hx h])
theorem dHi {P P' E E' : PF} (H : PQ P P') (HE : PQ E E') (g : Nat) (hg : 1 ≤ g) (hl : g + 1 ≤ bG) : PQ (tW P E g) (aEy P' E' g) := by
 intro a b R
 unfold tW aEy
 refine eBh (kE R _ _) fun c hc => ?_
 have hd : ∀ d, (if c = true then (bN a 1).bind fun t => some (decide (t.kind = 9)) else some false) = some d → (if c = true then (bN b 1).bind fun t => some (decide (t.kind = 9)) else some false) = some d := by
  intro d h
  cases c with
  | true => rw [R.eq (dA hc).1] at h; exact h
  | false => exact h
 refine eBh hd fun d hd => ?_
 cases d with
 | true =>
  cases c with
  | false => cases hd
  | true =>
   simp only [if_true] at hd ⊢
   obtain ⟨t2, ht2, hk⟩ := aT hd
   simp only [aZ, decide_eq_true_eq] at hk
   have hae := (dA hc).1
   have := R.eq hae
   subst this
   intro z s h
   obtain ⟨⟨x1, s1⟩, h1, h⟩ := aT h
   obtain ⟨_, u, hu, hku, _⟩ := dA hc
   obtain ⟨l1, rfl, rfl, d1⟩ := gU hu (by omega) h1
   have hu2 : bN { a with toks := a.toks.drop 1 } 0 = some t2 := by
    unfold bN at ht2 ⊢
    rw [show min 1 (a.toks.length - 1) = 1 by omega] at ht2
    simpa using ht2
   obtain ⟨⟨x2, s2⟩, h2, h⟩ := aT h
   obtain ⟨l2, rfl, rfl, d2⟩ := gU hu2 (by omega) h2
   obtain ⟨⟨x3, s3⟩, h3, h⟩ := aT h
   simp only [aZ, bT] at h
   obtain ⟨rfl, rfl⟩ := h
   have R2 : RR { a with toks := (a.toks.drop 1).drop 1 } { a with toks := (a.toks.drop 1).drop 1 } := RR.refl ((R.1.drop l1).drop l2)
   obtain ⟨q0, y3, s3', q1, q2, q3⟩ := HE _ _ R2 x3 s3 h3
   refine ⟨fun _ => hae, .mk 6 x1.text 0 [] [] [y3], s3', ?_, q2, fun h => by rw [q3 h]⟩
   rw [d1, Option.bind_some, d2, Option.bind_some, q1]
   rfl
 | false =>
  simp only [Bool.false_eq_true, if_false]
  unfold lE
  refine RQ.bind (H a b R) fun x1 y1 s1 s1' R1 _ hv1 => ?_
  refine RQ.bind (tX g x1 y1 s1 s1' R1 hv1) fun x2 y2 s2 s2' R2 _ hv2 => ?_
  refine RQ.bind (aBe H g g x2 y2 s2 s2' R2 hv2) fun x3 y3 s3 s3' R3 _ hv3 => ?_
  refine RQ.bind (dKp H g hl x3 y3 R3 hv3) fun x4 y4 s4 s4' R4 _ hv4 => ?_
  refine eBh (kE R4 _ _) fun c hc => ?_
  cases c with
  | true =>
   have e4 := (dA hc).1
   have := hv4 e4
   subst this
   show RQ s4.err Eq (if x4.kind = 7 then _ else _) (if x4.kind = 7 then _ else _)
   split
   ·refine eBh (fun k h => h) fun k0 hk0 => ?_
    refine cYx H g hg g _ _ s4 s4' R4 (fun _ => ?_)
    have : kB x4 = cV x4.text (x4.kids.drop 1) := by
     unfold kB
     rw [if_neg]
     intro h0
     have := (wV hk0)
     show False
     have h0 : x4.kids.length = 0 := h0
     have this : 0 < x4.kids.length := this
     omega
    show [k0, kB x4] = _
    rw [this]
   ·intro z s h
    obtain ⟨u, hu, h⟩ := aT h
    simp only [aZ, bT] at h
    obtain ⟨rfl, rfl⟩ := h
    have := R4.eq e4
    subst this
    obtain ⟨q1, q2⟩ := pI R4 (t := u) (t' := u) (e := 13) (by decide) (fun _ => rfl)
    exact ⟨fun h => absurd h q2, x4, bS s4 u 13, by rw [show bN (x4, s4).2 0 = some u from hu]; rfl, q1, fun h => absurd h q2⟩
  | false => exact RQ.some R4 id hv4
theorem kK {f : PF} (R : GT a.toks) {t : Tok} (he : a.err = 0) (ht : bN a 0 = some t) (hk : t.kind ≠ 0) {x : Node} {s : PSt} (h : gI f a = some (x, s)) :
 (qT a = some (false, s) ∧ s.err ≠ 0 ∧ GT s.toks) ∨ ∃ a2 q, qT a = some (true, a2) ∧ a2.err = 0 ∧ GT a2.toks ∧ f a2 = some (x, q) ∧ s = { q with deep := wJ (q.deep - 1) } := by
 unfold gI at h
 obtain ⟨⟨t1, s1⟩, h1, h⟩ := aT h
 obtain ⟨l1, rfl, rfl, d1⟩ := gU ht hk h1
 unfold qT
 rw [d1, Option.bind_some]
 by_cases hd : a.deep = 20
 ·rw [if_pos hd] at h
  cases h
  have e14 : (14 : Int) ≠ 0 := by decide
  obtain ⟨q1, q2⟩ := pI (RR.refl (R.drop l1) : RR { a with toks := a.toks.drop 1 } _) (t := t1) (t' := t1) e14 (fun _ => rfl)
  exact .inl ⟨by rw [if_pos hd], q2, q1.1⟩
 ·rw [if_neg hd] at h
  obtain ⟨⟨y, q⟩, h2, h⟩ := aT h
  cases h
  exact .inr ⟨{ toks := a.toks.drop 1, deep := wJ (a.deep + 1), pos := a.pos, err := a.err }, q, by rw [if_neg hd], he, R.drop l1, h2, rfl⟩
def LQ (f : Nat) : Prop := ∀ (a : PSt) (t : Tok), a.err = 0 → GT a.toks → bN a 0 = some t → t.kind ≠ 0 → RQ 0 Eq (gI (wU f) a) (tS f a)
theorem aJz {f0 : Nat} (H : LQ f0) : ∀ (f : Nat) (xs ys : List Node) (a b : PSt), RR a b → (a.err = 0 → xs = ys) → RQ a.err (fun X Y => X = Y) (jZ (wU f0) f xs a) (kZ (tS f0) f ys b)
 | 0, xs, ys, a, b, R, hx => RQ.none
 | f + 1, xs, ys, a, b, R, hx => by
  unfold jZ kZ
  rw [R.2.1]
  by_cases he : a.err = 0
  ·rw [if_pos he, if_pos he]
   have := hx he
   subst this
   have := R.eq he
   subst this
   refine eBh (fun c h => h) fun c hc => ?_
   cases c with
   | true => exact RQ.some R id (fun _ => rfl)
   | false =>
    simp only [Bool.false_eq_true, if_false]
    intro z s h
    obtain ⟨⟨⟨y, d⟩, s1⟩, h1, h⟩ := aT h
    obtain ⟨q0, y', s1', q1, q2, q3⟩ := aXv R h1
    rw [q1, Option.bind_some]
    cases d with
    | true =>
     obtain ⟨e1, rfl⟩ := q3 rfl
     rw [if_pos rfl] at h ⊢
     have := aJz H f (xs ++ [y]) (xs ++ [y]) s1 s1' q2 (fun _ => rfl) z s h
     exact ⟨fun _ => he, this.2⟩
    | false =>
     simp only [Bool.false_eq_true, if_false] at h ⊢
     obtain ⟨c1, hc1, h⟩ := aT h
     obtain ⟨c2, hc2, h⟩ := aT h
     rw [kE q2 _ _ _ hc1, Option.bind_some]
     have hc2' : (if c1 = true then some true else eD s1' 10 [40]) = some c2 := by
      cases c1 with
      | true => exact hc2
      | false => exact kE q2 _ _ _ hc2
     rw [hc2', Option.bind_some]
     cases c2 with
     | true =>
      rw [if_pos rfl] at h ⊢
      obtain ⟨e1, t, ht, hk⟩ : s1.err = 0 ∧ ∃ t, bN s1 0 = some t ∧ t.kind ≠ 0 := by
       cases c1 with
       | true => obtain ⟨e, t, ht, hk, _⟩ := dA hc1; exact ⟨e, t, ht, by omega⟩
       | false => obtain ⟨e, t, ht, hk, _⟩ := dA hc2; exact ⟨e, t, ht, by omega⟩
      have := q2.eq e1
      subst this
      obtain ⟨⟨w, s2⟩, hw, h⟩ := aT h
      obtain ⟨r0, w', s2', r1, r2, r3⟩ := H s1 t e1 q2.1 ht hk w s2 hw
      rw [r1, Option.bind_some]
      have := aJz H f (xs ++ [w]) (xs ++ [w']) s2 s2' r2 (fun h => by rw [r3 h]) z s h
      exact ⟨fun _ => he, this.2⟩
     | false =>
      simp only [Bool.false_eq_true, if_false] at h ⊢
      obtain ⟨t, ht, h⟩ := aT h
      obtain ⟨v, hv⟩ := iC q2.1
      obtain ⟨r1, r2⟩ := pI q2 (t := t) (t' := v) (e := 13) (by decide) (fun e => by rw [q2.eq e, hv] at ht; cases ht; rfl)
      rw [hv, Option.bind_some]
      have := aJz H f (xs ++ [y]) (xs ++ [y']) _ _ r1 (fun h => absurd h r2) z s h
      exact ⟨fun _ => he, this.2⟩
  ·rw [if_neg he, if_neg he]
   exact RQ.some R id (fun h => absurd h he)
theorem pY {LI : PF} : ∀ (f : Nat) (xs : List Node) (a : PSt) (ys : List Node) (s : PSt), jZ LI f xs a = some (ys, s) → s.err = 0 → eD s 10 [41] = some true
 | 0, xs, a, ys, s, h => by cases h
 | f + 1, xs, a, ys, s, h => by
  intro he
  unfold jZ at h
  split at h
  ·obtain ⟨c, hc, h⟩ := aT h
   cases c with
   | true => cases h; exact hc
   | false =>
    simp only [Bool.false_eq_true, if_false] at h
    obtain ⟨r, _, h⟩ := aT h
    split at h
    ·exact pY f _ _ _ _ h he
    ·obtain ⟨c1, _, h⟩ := aT h
     obtain ⟨c2, _, h⟩ := aT h
     split at h
     ·obtain ⟨q, _, h⟩ := aT h
      exact pY f _ _ _ _ h he
     ·obtain ⟨t, _, h⟩ := aT h
      exact pY f _ _ _ _ h he
  ·rename_i hn
   cases h
   exact absurd he hn
theorem bKc {st : PSt} {t : Tok} {s : PSt} (h : cP st = some (t, s)) : s.err = st.err ∧ s.pos = st.pos := by
 unfold cP at h
 obtain ⟨u, _, h⟩ := aT h
 split at h
 ·cases h; exact ⟨rfl, rfl⟩
 ·split at h
  ·cases h; exact ⟨rfl, rfl⟩
  ·cases h
theorem aRa {LI : PF} {f : Nat} {s : PSt} (h : qT a = some (false, s)) (he : s.err ≠ 0) : hJ LI f a = some (.mk 4 [] 0 [] [] [], s) := by
 unfold hJ
 rw [h, Option.bind_some]
 simp only [Bool.false_eq_true, if_false, Option.bind_some]
 unfold aGs
 rw [if_neg he]
 rfl
theorem cFj : ∀ f, LQ f
 | 0 => fun a t he R ht hk x s h => by
  rcases kK R he ht hk h with ⟨e1, e2, e3⟩ | ⟨a2, q, _, _, _, e, _⟩
  ·exact ⟨fun _ => rfl, _, s, aRa e1 e2, RR.refl e3, fun h => absurd h e2⟩
  ·cases e
 | f + 1 => fun a t he R ht hk x s h => by
  refine ⟨fun _ => rfl, ?_⟩
  rcases kK R he ht hk h with ⟨e1, e2, e3⟩ | ⟨a2, q, e1, e2, e3, e4, e5⟩
  ·exact ⟨_, s, aRa e1 e2, RR.refl e3, fun h => absurd h e2⟩
  ·have e4 : gE (wU f) f a2 = some (x, q) := e4
   unfold gE at e4
   obtain ⟨⟨ys, s1⟩, h1, h2⟩ := aT e4
   obtain ⟨⟨t2, q2⟩, h3, h2⟩ := aT h2
   simp only [aZ, bT] at h2
   obtain ⟨rfl, rfl⟩ := h2
   obtain ⟨r0, ys', s1', r1, r2, r3⟩ := aJz (cFj f) f [] [] a2 a2 (RR.refl e3) (fun _ => rfl) ys s1 h1
   have hD : tS (f + 1) a = (aGs (ys', s1')).bind fun q => some (.mk 4 [] 0 [] [] q.1, q.2) := by
    show hJ (tS f) f a = _
    unfold hJ
    rw [e1, Option.bind_some, if_pos rfl, r1, Option.bind_some]
   rw [hD]
   unfold aGs
   by_cases hs : s1.err = 0
   ·have := r2.eq hs
    subst this
    have := r3 hs
    subst this
    obtain ⟨_, u, hu, hku, _⟩ := dA (pY f _ _ _ _ h1 hs)
    obtain ⟨l1, rfl, rfl, d1⟩ := gU hu (by omega) h3
    subst e5
    rw [if_pos hs, d1]
    exact ⟨_, _, rfl, RR.refl (r2.1.drop l1), fun _ => rfl⟩
   ·obtain ⟨w1, w2⟩ := bKc h3
    rw [if_neg (by rw [r2.2.1]; exact hs)]
    subst e5
    refine ⟨_, s1', rfl, ⟨r2.1, by show s1'.err = q2.err; rw [w1]; exact r2.2.1, by show s1'.pos = q2.pos; rw [w2]; exact r2.2.2.1, fun h => absurd (by rw [← w1]; exact h) hs⟩, fun h => absurd (by rw [← w1]; exact h) hs⟩
theorem aOn : ∀ (f : Nat) (l : List (List Nat)) (a b : PSt), RR a b → ∀ (l' : List (List Nat)), (a.err = 0 → l = l') → RQ a.err Eq (lX f l a) (lK f l' b)
 | 0, l, a, b, R, l', hl => RQ.none
 | f + 1, l, a, b, R, l', hl => by
  unfold lX lK
  refine eBh (kE R _ _) fun c hc => ?_
  cases c with
  | true =>
   have := hl (dA hc).1
   subst this
   refine RQ.bind (aGr R (by decide) l) fun x y s s' R2 _ hv => ?_
   exact aOn f _ s s' R2 _ (fun h => (hv h).symm)
  | false => exact RQ.some R id hl
theorem aMt {E E' : PF} (HE : PQ E E') : ∀ (f : Nat) (xs ys : List Node) (a b : PSt), RR a b → (a.err = 0 → xs = ys) → RQ a.err Eq (jM E f xs a) (jO E' f ys b)
 | 0, xs, ys, a, b, R, hx => RQ.none
 | f + 1, xs, ys, a, b, R, hx => by
  unfold jM jO
  rw [R.2.1]
  by_cases he : a.err = 0
  ·rw [if_pos he, if_pos he]
   have := hx he
   subst this
   refine eBh (kE R _ _) fun c hc => ?_
   cases c with
   | true => exact RQ.some R id (fun _ => rfl)
   | false =>
    simp only [Bool.false_eq_true, if_false]
    refine eBh (kE R _ _) fun c hc => ?_
    cases c with
    | true => exact RQ.some R id (fun _ => rfl)
    | false =>
     simp only [Bool.false_eq_true, if_false]
     refine eBh (kE R _ _) fun c hc => ?_
     cases c with
     | true =>
      simp only [if_true]
      refine kH R (by decide) hc fun t s e _ _ _ R2 => ?_
      have h1 := HE s s R2
      rw [e] at h1
      refine RQ.bind h1 fun x1 y1 s1 s1' R3 _ hv1 => ?_
      refine eBh (kE R3 _ _) fun c hc => ?_
      cases c with
      | true =>
       simp only [if_true]
       refine kH R3 (by decide) hc fun t s2 e2 _ _ _ R4 => ?_
       exact RQ.some R4 (fun _ => rfl) (fun _ => by rw [hv1 (dA hc).1])
      | false => exact RQ.some R3 id (fun h => by rw [hv1 h])
     | false =>
      simp only [Bool.false_eq_true, if_false]
      refine RQ.bind (HE a b R) fun x1 y1 s1 s1' R3 _ hv1 => ?_
      refine eBh (kE R3 _ _) fun c hc => ?_
      cases c with
      | true =>
       simp only [if_true]
       refine kH R3 (by decide) hc fun t s2 e2 _ _ _ R4 => ?_
       have := aMt HE f (xs ++ [x1]) (xs ++ [y1]) s2 s2 R4 (fun _ => by rw [hv1 (dA hc).1])
       rw [e2] at this
       exact this
      | false => exact RQ.some R3 id (fun h => by rw [hv1 h])
  ·rw [if_neg he, if_neg he]
   exact RQ.some R id hx
theorem dVv {l l' : List (List Nat)} (R : RR a b) (hl : a.err = 0 → l = l') {s : PSt} (h : bar l a = some s) : (s.err = 0 → a.err = 0) ∧ ∃ s', aWv l' b = some s' ∧ RR s s' := by
 by_cases he : a.err = 0
 ·have := hl he
  subst this
  unfold bar at h
  unfold aWv
  split at h
  ·rename_i hp
   rw [if_pos hp]
   obtain ⟨c, hc, h⟩ := aT h
   rw [kE R _ _ _ hc, Option.bind_some]
   cases c with
   | true => cases h; exact ⟨id, b, rfl, R⟩
   | false =>
    simp only [Bool.false_eq_true, if_false] at h ⊢
    obtain ⟨⟨x, s1⟩, h1, h⟩ := aT h
    cases h
    obtain ⟨q0, y, s', q1, q2, _⟩ := nF R (by decide) [124] x s1 h1
    exact ⟨q0, s', by rw [q1]; rfl, q2⟩
  ·rename_i hp
   rw [if_neg hp]
   cases h
   exact ⟨id, b, rfl, R⟩
 ·
  have hb : b.err ≠ 0 := by rw [R.2.1]; exact he
  obtain ⟨v, hv⟩ := iC R.1
  have key : ∀ (s : PSt), bar l a = some s → s.err = a.err ∧ s.pos = a.pos := by
   intro s h
   unfold bar at h
   split at h
   ·obtain ⟨c, hc, h⟩ := aT h
    cases c with
    | true => exact absurd (dA hc).1 he
    | false =>
     simp only [Bool.false_eq_true, if_false] at h
     obtain ⟨⟨x, s1⟩, h1, h⟩ := aT h
     cases h
     unfold eB at h1
     obtain ⟨c, hc, h1⟩ := aT h1
     cases c with
     | true => exact absurd (dA hc).1 he
     | false =>
      simp only [Bool.false_eq_true, if_false] at h1
      obtain ⟨u, _, h1⟩ := aT h1
      simp only [aZ, bT] at h1
      rw [← h1.2]
      unfold bS
      rw [if_neg he]
      exact ⟨rfl, rfl⟩
   ·cases h; exact ⟨rfl, rfl⟩
  obtain ⟨k1, k2⟩ := key s h
  refine ⟨fun h => by rw [← k1]; exact h, b, ?_, R.1, by rw [k1]; exact R.2.1, by rw [k2]; exact R.2.2.1, fun h => absurd (by rw [← k1]; exact h) he⟩
  unfold aWv
  split
  ·rw [sF hb hv, Option.bind_some]
   simp only [Bool.false_eq_true, if_false]
   unfold jW
   rw [sF hb hv, Option.bind_some]
   simp only [Bool.false_eq_true, if_false]
   rw [hv, Option.bind_some, Option.bind_some]
   unfold bS
   rw [if_neg hb]
  ·rfl
def aLw (E : PF) (f : Nat) : PF := fun st => (lK f [] st).bind fun r => (aWv r.1 r.2).bind fun st2 => (oU f st2).bind fun q => (jO E f [] q.2).bind fun u => (jW u.2 10 [93]).bind fun w => some (.mk 9 [] 0 r.1 q.1 u.1, w.2)
theorem bUx {E E' : PF} (HE : PQ E E') (f : Nat) : PQ (tA E f) (aLw E' f) := by
 intro a b R
 unfold tA aLw
 refine RQ.bind (aOn f [] a b R [] (fun _ => rfl)) fun x1 y1 s1 s1' R1 _ hv1 => ?_
 intro z t h
 obtain ⟨s2, h2, h⟩ := aT h
 obtain ⟨q0, s2', q1, R2⟩ := dVv R1 hv1 h2
 show _ ∧ ∃ y s', (aWv y1 s1').bind _ = _ ∧ _
 rw [q1, Option.bind_some]
 have key : RQ s2.err Eq ((lM f s2).bind fun q => (jM E f [] q.2).bind fun u => (eB u.2 10 [93]).bind fun w => some (Node.mk 9 [] 0 x1 q.1 u.1, w.2)) ((oU f s2').bind fun q => (jO E' f [] q.2).bind fun u => (jW u.2 10 [93]).bind fun w => some (Node.mk 9 [] 0 y1 q.1 u.1, w.2)) := by
  refine RQ.bind (bFi f R2) fun x3 y3 s3 s3' R3 h3 hv3 => ?_
  refine RQ.bind (aMt HE f [] [] s3 s3' R3 (fun _ => rfl)) fun x4 y4 s4 s4' R4 h4 hv4 => ?_
  refine RQ.bind (nF R4 (by decide) [93]) fun x5 y5 s5 s5' R5 h5 hv5 => ?_
  refine RQ.some R5 id (fun h => ?_)
  rw [hv1 (q0 (h3 (h4 (h5 h)))), hv3 (h4 (h5 h)), hv4 (h5 h)]
 obtain ⟨r0, r⟩ := key z t h
 exact ⟨fun h => q0 (r0 h), r⟩
theorem aOq {E : PF} {f : Nat} {a a2 : PSt} (h : qT a = some (true, a2)) {y : Node} {q : PSt} (hb : aLw E f a2 = some (y, q)) : uZ E f a = some (y, { q with deep := wJ (q.deep - 1) }) := by
 unfold uZ
 rw [h, Option.bind_some, if_pos rfl]
 unfold aLw at hb
 obtain ⟨r, h1, hb⟩ := aT hb
 obtain ⟨s2, h2, hb⟩ := aT hb
 obtain ⟨q3, h3, hb⟩ := aT hb
 obtain ⟨u, h4, hb⟩ := aT hb
 obtain ⟨w, h5, hb⟩ := aT hb
 cases hb
 rw [h1, Option.bind_some, h2, Option.bind_some, h3, Option.bind_some, h4, Option.bind_some, h5]
 rfl
theorem RR.deep {a b : PSt} (R : RR a b) : RR { a with deep := wJ (a.deep - 1) } { b with deep := wJ (b.deep - 1) } :=
 ⟨R.1, R.2.1, R.2.2.1, fun h => by rw [R.eq h]⟩
theorem bLf {f0 : Nat} {E E' : PF} (HE : PQ E E') (f : Nat) : PQ (gA (wU f0) E f) (mL (tS f0) E' f) := by
 intro a b R x s h
 unfold gA at h
 obtain ⟨⟨⟨y, d⟩, s1⟩, h1, h⟩ := aT h
 obtain ⟨q0, y', s1', q1, q2, q3⟩ := aXv R h1
 unfold mL
 by_cases he : a.err = 0
 ·rw [if_pos (by rw [R.2.1]; exact he), q1, Option.bind_some]
  refine ⟨fun _ => he, ?_⟩
  cases d with
  | true =>
   obtain ⟨e1, rfl⟩ := q3 rfl
   rw [if_pos rfl] at h ⊢
   cases h
   exact ⟨y, s1', rfl, q2, fun _ => rfl⟩
  | false =>
   simp only [Bool.false_eq_true, if_false] at h ⊢
   obtain ⟨t, ht, h⟩ := aT h
   by_cases he1 : s1.err = 0
   ·have := q2.eq he1
    subst this
    rw [if_pos he1] at h
    rw [lY he1 ht 1, Option.bind_some]
    by_cases k1 : t.kind = 1
    ·rw [if_pos k1] at h
     rw [if_pos (by simp [k1])]
     obtain ⟨⟨u, s2⟩, h2, h⟩ := aT h
     obtain ⟨l1, rfl, rfl, d1⟩ := gU ht (by omega) h2
     cases h
     rw [d1]
     exact ⟨_, _, rfl, RR.refl (q2.1.drop l1), fun _ => rfl⟩
    ·rw [if_neg k1] at h
     rw [if_neg (by simp [k1]), lY he1 ht 7, Option.bind_some]
     by_cases k7 : t.kind = 7
     ·rw [if_pos k7] at h
      rw [if_pos (by simp [k7])]
      exact (cFj f0 s1 t he1 q2.1 ht (by omega) x s h).2
     ·rw [if_neg k7] at h
      rw [if_neg (by simp [k7])]
      obtain ⟨c, hc, h⟩ := aT h
      rw [hc, Option.bind_some]
      cases c with
      | true =>
       rw [if_pos rfl] at h ⊢
       have hk : t.kind ≠ 0 := by
        obtain ⟨_, u, hu, hk, _⟩ := dA hc
        rw [ht] at hu
        cases hu
        omega
       rcases kK q2.1 he1 ht hk h with ⟨e1, e2, e3⟩ | ⟨a2, q, e1, e2, e3, e4, e5⟩
       ·rw [e1, Option.bind_some]
        exact ⟨_, s, rfl, RR.refl e3, fun h => absurd h e2⟩
       ·rw [e1, Option.bind_some, if_pos rfl]
        unfold uW at e4
        obtain ⟨⟨w, s3⟩, h3, e4⟩ := aT e4
        obtain ⟨⟨u, s4⟩, h4, e4⟩ := aT e4
        simp only [aZ, bT] at e4
        obtain ⟨rfl, rfl⟩ := e4
        obtain ⟨r0, w', s3', r1, r2, r3⟩ := HE a2 a2 (RR.refl e3) w s3 h3
        obtain ⟨t0, u', s4', t1, t2, _⟩ := nF r2 (by decide) [41] u s4 h4
        rw [r1, Option.bind_some, t1]
        subst e5
        exact ⟨w', _, rfl, t2.deep, fun h => r3 (t0 h)⟩
      | false =>
       simp only [Bool.false_eq_true, if_false] at h ⊢
       obtain ⟨c, hc, h⟩ := aT h
       rw [hc, Option.bind_some]
       cases c with
       | true =>
        rw [if_pos rfl] at h ⊢
        have hk : t.kind ≠ 0 := by
         obtain ⟨_, u, hu, hk, _⟩ := dA hc
         rw [ht] at hu
         cases hu
         omega
        rcases kK q2.1 he1 ht hk h with ⟨e1, e2, e3⟩ | ⟨a2, q, e1, e2, e3, e4, e5⟩
        ·refine ⟨.mk 9 [] 0 [] [] [], s, ?_, RR.refl e3, fun h => absurd h e2⟩
         unfold uZ
         rw [e1, Option.bind_some]
         rfl
        ·obtain ⟨r0, w', s3', r1, r2, r3⟩ := bUx HE f a2 a2 (RR.refl e3) x q e4
         subst e5
         exact ⟨w', _, aOq e1 r1, r2.deep, r3⟩
       | false =>
        simp only [Bool.false_eq_true, if_false] at h ⊢
        cases h
        obtain ⟨r1, r2⟩ := pI q2 (t := t) (t' := t) (e := 13) (by decide) (fun _ => rfl)
        rw [ht, Option.bind_some]
        exact ⟨y', _, rfl, r1, fun h => absurd h r2⟩
   ·rw [if_neg he1] at h
    exfalso
    unfold mC at h1
    obtain ⟨u, hu, h1⟩ := aT h1
    rw [if_pos he] at h1
    obtain ⟨c, _, h1⟩ := aT h1
    cases c with
    | true =>
     rw [if_pos rfl] at h1
     obtain ⟨r, _, h1⟩ := aT h1
     obtain ⟨r2, _, h1⟩ := aT h1
     cases h1
    | false =>
     simp only [Bool.false_eq_true, if_false] at h1
     split at h1
     ·obtain ⟨r, _, h1⟩ := aT h1; cases h1
     ·split at h1
      ·obtain ⟨r, _, h1⟩ := aT h1; cases h1
      ·split at h1
       ·obtain ⟨r, _, h1⟩ := aT h1; cases h1
       ·cases h1; exact he1 he
 ·
  unfold mC at h1
  obtain ⟨u, hu, h1⟩ := aT h1
  rw [if_neg he] at h1
  cases h1
  simp only [Bool.false_eq_true, if_false] at h
  obtain ⟨t, ht, h⟩ := aT h
  rw [if_neg he] at h
  cases h
  rw [if_neg (by rw [R.2.1]; exact he)]
  exact ⟨id, zN, b, rfl, R, fun h => absurd h he⟩
theorem aMc : ∀ (f : Nat), f + 1 ≤ bG → PQ (mO f) (sW f)
 | 0, _ => fun a b R => RQ.none
 | 1, hf => by
  intro a b R
  show RQ _ _ (tW (gA (wU 0) (mO 0) 0) (mO 0) 0 a) (aEy (mL (tS 0) (sW 0) 0) (sW 0) 0 b)
  intro x s h
  exfalso
  unfold tW at h
  obtain ⟨c, _, h⟩ := aT h
  obtain ⟨d, _, h⟩ := aT h
  cases d with
  | true =>
   rw [if_pos rfl] at h
   obtain ⟨r, _, h⟩ := aT h
   obtain ⟨q, _, h⟩ := aT h
   obtain ⟨u, hu, h⟩ := aT h
   cases hu
  | false =>
   simp only [Bool.false_eq_true, if_false] at h
   unfold lE at h
   obtain ⟨q, _, h⟩ := aT h
   obtain ⟨u, hu, h⟩ := aT h
   cases hu
 | f + 2, hf => dHi (bLf (aMc (f + 1) (by omega)) (f + 1)) (aMc (f + 1) (by omega)) (f + 1) (by omega) (by omega)
end Go.Dd

namespace Go.Dd
open Go.Proofs
end Go.Dd

namespace Go.Dd
theorem bLc {f : Nat} {u : List Nat} {rs : Int × List Nat × Int × Int × Nat} (h : lA f u = some rs) (p : Int) : TOk ⟨rs.1, rs.2.1, rs.2.2.1, p⟩ := by
 have key : (rs.1 = 4 → rs.2.1 = []) ∧ (rs.1 = 5 ∨ rs.1 = 6 → rs.2.2.1 = 0) := by
  unfold lA at h
  repeat' split at h
  all_goals first
   | (cases h; exact ⟨fun _ => rfl, fun e => by simp at e⟩)
   | (cases h; exact ⟨fun e => by simp at e, fun e => by simp at e⟩)
   | (obtain ⟨r, e1, e2⟩ := aT h; cases e2; exact ⟨fun e => by simp at e, fun _ => rfl⟩)
 exact key
theorem dDt {g : Nat} : ∀ (l : List Tok) (v : List Nat) (p : Nat), Lx g v p l → GT l := by
 intro l
 induction l with
 | nil => intro v p h; cases h
 | cons t l ih =>
  intro v p h
  cases h with
  | fin _ _ hw =>
   refine ⟨by simp, fun t ht => ?_⟩
   simp at ht
   subst ht
   exact ⟨fun e => (by cases e), fun e => (by rcases e with e | e <;> cases e)⟩
  | tok w u _ k rs l hw h1 h2 h3 h4 h5 h6 h7 =>
   have := ih _ _ h7
   refine ⟨by simp, fun t ht => ?_⟩
   rcases List.mem_cons.1 ht with rfl | ht
   ·exact bLc h1 _
   ·exact this.2 t ht
theorem dLo {u : List Nat} (hu : u.length ≤ 2000) {lx : List Tok × Int × Int} (hl : qN 2001 2001 u = some lx) (he : lx.2.2 = 0) : GT lx.1 ∧ Lx 2001 u 0 lx.1 := by
 unfold qN at hl
 rw [if_neg (by omega)] at hl
 obtain ⟨l, h1, h2⟩ := aMj (by omega) 2001 0 [] lx (by omega) hl he
 have e : lx.1 = l := by rw [h1]; rfl
 rw [e]
 exact ⟨dDt _ _ _ h2, h2⟩
theorem cYr : ∀ (f : Nat) (st : PSt) (t : List Nat) (l : List (List Nat)), Good st.toks → (st.err = 0 → st.toks.length ≤ f ∧ t.length + st.toks.length * 10000 ≤ bG) → 1 ≤ f → ∃ r st', aDm f t l false st = some (r, st') ∧ Good st'.toks ∧ st'.toks.length ≤ st.toks.length ∧ (st'.err = 0 → st.err = 0)
 | 0, st, t, l, h, hb, hf => by omega
 | f + 1, st, t, l, h, hb, hf => by
  obtain ⟨u, r, e, hu, h2, h3⟩ := eS h
  unfold aDm
  simp only [Bool.false_eq_true, if_false]
  rw [qV hu, Option.bind_some]
  cases hc : qM st u 2 [] with
  | false => exact ⟨(t, l), st, by simp, h, Nat.le_refl _, id⟩
  | true =>
   obtain ⟨c1, c2⟩ := dN hc
   obtain ⟨b1, b2⟩ := hb c1
   obtain ⟨s1, a1, a2, a3, a4, a5, a6, a7, a8⟩ := eP h hu (by omega)
   have hn : eB st 2 [] = some (u, s1) := by
    unfold eB
    rw [qV hu, Option.bind_some, hc, if_pos rfl, a1]
   have htx := h.text e
   have hp := a6.pos
   simp only [if_true]
   rw [hn, Option.bind_some, if_pos (by show t.length + u.text.length ≤ bG; omega)]
   obtain ⟨w, s2, g1, g2, g3⟩ := bAz a6 1 (.inl rfl) l.length
   rw [show (u, s1).2 = s1 from rfl, g1, Option.bind_some]
   obtain ⟨rr, s3, k1, k2, k3, k4⟩ := cYr f s2 (t ++ u.text) (l ++ [w]) g2.good (fun he => ⟨by omega, by
    have : s2.toks.length * 10000 ≤ s1.toks.length * 10000 := Nat.mul_le_mul_right _ g3
    simp; omega⟩) (by omega)
   exact ⟨rr, s3, k1, k2, by omega, fun _ => c1⟩
theorem bPr {f : Nat} {st : PSt} (h : Good st.toks) (hb : st.toks.length + 1 ≤ f) (hm : f ≤ 1000000) : ∃ r st', lD f st = some (r, st') ∧ Good st'.toks ∧ st'.toks.length ≤ st.toks.length := by
 obtain ⟨u, r, e, hu, h2, h3⟩ := eS h
 have hp := h.pos
 unfold lD
 rw [qV hu, Option.bind_some]
 cases hc : qM st u 1 [] with
 | true =>
  obtain ⟨c1, c2⟩ := dN hc
  obtain ⟨s1, a1, a2, a3, a4, a5, a6, a7, a8⟩ := eP h hu (by omega)
  exact ⟨_, s1, by rw [if_pos rfl, a1]; rfl, a6, by omega⟩
 | false =>
  simp only [Bool.false_eq_true, if_false]
  rw [qV hu, Option.bind_some]
  cases hc : qM st u 3 [] with
  | true =>
   obtain ⟨c1, c2⟩ := dN hc
   obtain ⟨s1, a1, a2, a3, a4, a5, a6, a7, a8⟩ := eP h hu (by omega)
   obtain ⟨w, s2, g1, g2, g3⟩ := bAz a6 1 (.inl rfl) 0
   exact ⟨_, s2, by rw [if_pos rfl, a1, Option.bind_some, show (u, s1).2 = s1 from rfl, g1]; rfl, g2.good, by omega⟩
  | false =>
   simp only [Bool.false_eq_true, if_false]
   obtain ⟨f, rfl⟩ : ∃ k, f = k + 1 := ⟨f - 1, by omega⟩
   unfold aDm
   simp only [if_true, Option.bind_some]
   have first : ∃ v s1, eB st 2 [] = some (v, s1) ∧ Good s1.toks ∧ s1.toks.length ≤ st.toks.length ∧ v.text.length ≤ 10000 := by
    unfold eB
    rw [qV hu, Option.bind_some]
    cases hc : qM st u 2 [] with
    | true =>
     obtain ⟨c1, c2⟩ := dN hc
     obtain ⟨s1, a1, a2, a3, a4, a5, a6, a7, a8⟩ := eP h hu (by omega)
     exact ⟨u, s1, by rw [if_pos rfl, a1], a6, by omega, h.text e⟩
    | false =>
     simp only [Bool.false_eq_true, if_false]
     rw [hu]
     exact ⟨z4, _, rfl, by rw [bJ]; exact h, by rw [bJ]; omega, by simp [z4]⟩
   obtain ⟨v, s1, d1, d2, d3, d4⟩ := first
   rw [d1, Option.bind_some, if_pos (by show ([] : List Nat).length + v.text.length ≤ bG; simp [bG]; omega)]
   obtain ⟨w, s2, g1, g2, g3⟩ := bAz d2 1 (.inl rfl) 0
   rw [show (v, s1).2 = s1 from rfl, show ([] : List (List Nat)).length = 0 from rfl, g1, Option.bind_some]
   have h2p := g2.good.pos
   obtain ⟨rr, s3, k1, k2, k3, k4⟩ := cYr f s2 ([] ++ v.text) ([] ++ [w]) g2.good (fun he => ⟨by omega, by
    have : s2.toks.length * 10000 ≤ 1000000 * 10000 := Nat.mul_le_mul_right _ (by omega)
    simp [bG]; omega⟩) (by omega)
   exact ⟨rr, s3, k1, k2, by omega⟩
theorem bUy {st : PSt} (h : Good st.toks) (kd : Int) (hk : kd ≠ 0) (tx : List Nat) : ∃ t s', eB st kd tx = some (t, s') ∧ Good s'.toks ∧ s'.toks.length ≤ st.toks.length := by
 obtain ⟨u, r, e, hu, h2, h3⟩ := eS h
 unfold eB
 rw [qV hu, Option.bind_some]
 cases hc : qM st u kd tx with
 | true =>
  obtain ⟨c1, c2⟩ := dN hc
  obtain ⟨s1, a1, a2, a3, a4, a5, a6, a7, a8⟩ := eP h hu (by rw [c2]; exact hk)
  exact ⟨u, s1, by rw [if_pos rfl, a1], a6, by omega⟩
 | false =>
  simp only [Bool.false_eq_true, if_false]
  rw [hu]
  exact ⟨z4, _, rfl, by rw [bJ]; exact h, by rw [bJ]; omega⟩
theorem dRx {f : Nat} {st : PSt} (h : Good st.toks) (hb : st.toks.length + 1 ≤ f) (hm : f ≤ 1000000) : ∃ x st', pK f st = some (x, st') ∧ Good st'.toks ∧ st'.toks.length ≤ st.toks.length := by
 obtain ⟨r, s1, a1, a2, a3⟩ := bPr h hb hm
 unfold pK
 rw [a1, Option.bind_some]
 obtain ⟨u, q, e, hu, h2, h3⟩ := eS a2
 unfold aFe
 rw [qV hu]
 simp only [Option.bind_some]
 cases hc : qM s1 u 3 [60] with
 | false => exact ⟨_, s1, rfl, a2, a3⟩
 | true =>
  obtain ⟨c1, c2⟩ := dN hc
  obtain ⟨s2, b1, b2, b3, b4, b5, b6, b7, b8⟩ := eP a2 hu (by omega)
  simp only [if_true]
  rw [b1, Option.bind_some]
  obtain ⟨t3, s3, d1, d2, d3⟩ := bUy b6 2 (by decide) bXy
  rw [show (u, s2).2 = s2 from rfl, d1, Option.bind_some]
  obtain ⟨t4, s4, e1, e2, e3⟩ := bUy d2 4 (by decide) []
  rw [show (t3, s3).2 = s3 from rfl, e1, Option.bind_some]
  have g5 : Good (if 255 < t4.num then bS s4 t4 2 else s4).toks ∧ (if 255 < t4.num then bS s4 t4 2 else s4).toks.length = s4.toks.length := by
   split
   ·rw [bJ]; exact ⟨e2, rfl⟩
   ·exact ⟨e2, rfl⟩
  obtain ⟨t5, s5, k1, k2, k3⟩ := bUy g5.1 3 (by decide) [62]
  rw [show (if 255 < (t4, s4).1.num then bS (t4, s4).2 (t4, s4).1 2 else (t4, s4).2) = (if 255 < t4.num then bS s4 t4 2 else s4) from rfl, k1]
  exact ⟨_, s5, rfl, k2, by omega⟩
theorem dUx {f : Nat} {st : PSt} (x : Node) (h : Good st.toks) (hf : st.toks.length + 3 ≤ f) (hm : f ≤ 1000000) : ∃ y s, aPr f x st = some (y, s) := by
 obtain ⟨ts, s2, b1, b2⟩ := bSn (f := f) h (fun _ => by omega) (by omega)
 have hl2 := b2.len
 obtain ⟨ks, s3, k, c1, c2, c3⟩ := aVx (bQz f (by omega) hm) f s2 [] b2.good (fun _ => by omega) (by omega)
 obtain ⟨u, s4, d1, d2, d3⟩ := aDz c2.good 0 [] 0 (fun h => absurd rfl h) (fun _ => rfl)
 unfold aPr
 rw [b1, Option.bind_some, c1, Option.bind_some, d1]
 exact ⟨_, _, rfl⟩
theorem cOv {u : List Nat} (hu : u.length ≤ 2000) : ∃ lx res, qN 2001 2001 u = some lx ∧ lV (pK 2004) 2004 lx = some res ∧ (res.2.2 = 0 → res.2.1 = 0) := by
 obtain ⟨lx, hl, hg⟩ := dTx hu
 refine ⟨lx, ?_⟩
 by_cases e : lx.2.2 = 0
 ·obtain ⟨g1, g2⟩ := hg e
  obtain ⟨x, s1, h1, h2, h3⟩ := dRx (f := 2004) (st := ⟨lx.1, 0, 0, 0⟩) g1 (by show lx.1.length + 1 ≤ _; omega) (by omega)
  have h3 : s1.toks.length ≤ lx.1.length := h3
  obtain ⟨y, s2, h4⟩ := dUx (f := 2004) x h2 (by omega) (by omega)
  rw [aRv e, yW, h1, Option.bind_some, h4]
  by_cases e2 : s2.err = 0
  ·exact ⟨(y, 0, 0), hl, by simp [e2], fun _ => rfl⟩
  ·exact ⟨(zN, s2.pos, s2.err), hl, by simp [e2], fun h => absurd h e2⟩
 ·refine ⟨(zN, lx.2.1, lx.2.2), hl, ?_, fun h => absurd h e⟩
  unfold lV
  rw [if_neg e]
end Go.Dd

namespace Go.Dd
open Go.Proofs
def Node.temps : Node → List (List Nat) | .mk _ _ _ _ ts _ => ts
def Node.names : Node → List (List Nat) | .mk _ _ _ ns _ _ => ns
def Node.num : Node → Int | .mk _ _ m _ _ _ => m
noncomputable def uO (u : List Nat) : List Tok × Int × Int := (qN 2001 2001 u).getD ([], 0, 0)
noncomputable def aSa (u : List Nat) : Node × Int × Int := (lV (pK 2004) 2004 (uO u)).getD (zN, 0, 0)
theorem aBb {u : List Nat} (h : 2000 < u.length) : qN 2001 2001 u = some ([], 0, 12) := by
 unfold qN
 rw [if_pos h]
theorem aMk (u : List Nat) : qN 2001 2001 u = some (uO u) := by
 unfold uO
 by_cases h : u.length ≤ 2000
 ·obtain ⟨lx, h1, _⟩ := dTx h
  rw [h1]; rfl
 ·rw [aBb (by omega)]; rfl
theorem aPe (u : List Nat) : lV (pK 2004) 2004 (uO u) = some (aSa u) := by
 unfold aSa
 by_cases h : u.length ≤ 2000
 ·obtain ⟨lx, res, h1, h2, _⟩ := cOv h
  have e : uO u = lx := by unfold uO; rw [h1]; rfl
  rw [e, h2]; rfl
 ·have e : uO u = ([], 0, 12) := by unfold uO; rw [aBb (by omega)]; rfl
  rw [e]; rfl
def oZ (s : List Nat) (x : Node) (r : Node × Int × Int) : List Nat × Int := if r.2.2 = 0 ∧ nEq x r.1 = true then (s, 0) else ([], 1)
theorem cUj (n : Nat) (x y z w : DV) (h : Hp) : aI (n + 1) 22 [x, y, z, w] h = s22 (aI n) n x y z w h := by kernel_rfl
section
variable {I : Im} {A L : Ls} {h : Hp}
theorem cLt {Q : Ls} {x y : Node} {c d : List DV} {s : List Nat} {a e : Int} (S : Sy I A Q L h) (N : NV I x c) (M : NV I y d) :
 Ev (fun n => aI n 22 [.s s, .a c, .a d, .i .i64 e] h) (fun v h' => v = .t [.s (oZ s x (y, a, e)).1, .i .i64 (oZ s x (y, a, e)).2] ∧ Sy I A Q L h') := by
 obtain ⟨c1, o1, b1⟩ := N.shape
 obtain ⟨c2, o2, b2⟩ := M.shape
 refine Ev.enter (fun n => cUj n _ _ _ _ h) ?_
 unfold s22
 refine Ev.box S rfl (fun p h1 S1 => ?_)
 refine Ev.box S1 rfl (fun q h2 S2 => ?_)
 refine eBi (fun e1 => ?_) (fun e1 => ?_)
 ·have e1' : ¬ e = 0 := e1
  refine yg (yg (yg (yg (ap (yt ?_)))))
  exact eAs ⟨by simp [oZ, e1'], dp⟩
 ·have e1' : e = 0 := e1
  refine zf ?_; refine ws ?_; refine zf ?_; refine ws ?_; refine zf ?_
  refine eAr (aRt x y I A Q _ _ c d (by assumption) N M) ?_
  rintro _ h3 ⟨rfl, S3⟩
  cases en : nEq x y with
  | true =>
   refine zf (an (aq (yj ?_)))
   exact eAs ⟨by simp [oZ, e1', en], dp⟩
  | false =>
   refine zf (ao (aq (yt ?_)))
   exact eAs ⟨by simp [oZ, e1', en], dp⟩
end
end Go.Dd

namespace Go.Dd
open Go.Proofs
def AB (l : List Nat) : Prop := ∀ c ∈ l, c < 256
theorem AB.nil : AB [] := fun c h => by cases h
theorem AB.cons {x : Nat} {l : List Nat} (h : x < 256) (H : AB l) : AB (x :: l) := fun c hc => by
 rcases List.mem_cons.1 hc with rfl | hc
 ·exact h
 ·exact H c hc
theorem AB.app {l k : List Nat} (H : AB l) (K : AB k) : AB (l ++ k) := fun c hc => by
 rcases List.mem_append.1 hc with hc | hc
 ·exact H c hc
 ·exact K c hc
theorem AB.join {sep : List Nat} (h : AB sep) : ∀ {l : List (List Nat)}, (∀ x ∈ l, AB x) → AB (aK sep l)
 | [], _ => AB.nil
 | [x], H => H x (by simp)
 | x :: y :: l, H => (H x (by simp)).app (h.app (AB.join h (l := y :: l) fun z hz => H z (by simp [hz])))
theorem eDt {c : Nat} {new : List Nat} (h : AB new) : ∀ {l : List Nat}, AB l → AB (eZ c new l)
 | [], _ => AB.nil
 | x :: l, H => by
  have ih := eDt h (c := c) (l := l) fun z hz => H z (by simp [hz])
  show AB (bif Nat.beq x c then new ++ eZ c new l else x :: eZ c new l)
  cases Nat.beq x c with
  | true => exact h.app ih
  | false => exact AB.cons (H x (by simp)) ih
theorem eDe : ∀ (f n : Nat) (acc : List Nat), AB acc → AB (fA f n acc)
 | 0, n, acc, H => H
 | f + 1, n, acc, H => by
  show AB (bif Nat.ble 10 n then fA f (n / 10) ((48 + n % 10) :: acc) else (48 + n) :: acc)
  have h1 : 48 + n % 10 < 256 := by omega
  cases e : Nat.ble 10 n with
  | true => exact eDe f _ _ (AB.cons h1 H)
  | false =>
   have : ¬ 10 ≤ n := fun h => by rw [Nat.ble_eq_true_of_le h] at e; cases e
   exact AB.cons (by omega) H
theorem AB.itoa (n : Int) : AB (jT n) := by
 cases n with
 | ofNat n => exact eDe _ _ _ AB.nil
 | negSucc n => exact AB.cons (by omega) (eDe _ _ _ AB.nil)
theorem eCs {c : Nat} : ∀ {l acc : List Nat}, AB acc → AB l → ∀ x ∈ cA c acc l, AB x
 | [], acc, H, _, x, hx => by
  simp [cA] at hx
  subst hx; exact H
 | y :: l, acc, H, K, x, hx => by
  have K' : AB l := fun z hz => K z (by simp [hz])
  have H' : AB (acc ++ [y]) := H.app (AB.cons (K y (by simp)) AB.nil)
  unfold cA at hx
  cases e : Nat.beq y c with
  | true =>
   rw [e] at hx
   rcases List.mem_cons.1 hx with rfl | hx
   ·exact H'
   ·exact eCs AB.nil K' x hx
  | false =>
   rw [e] at hx
   exact eCs H' K' x hx
theorem AB.parts {s : List Nat} (H : AB s) : ∀ x ∈ cK s, AB x := fun x hx => eCs AB.nil H x (List.dropLast_subset _ hx)
def ABk (l : List (Nat × List Nat)) : Prop := ∀ p ∈ l, AB p.2
theorem eCt {l : List (Nat × List Nat)} (H : ABk l) (i h : Nat) : AB (bD l i h) := by
 unfold bD
 split
 ·exact AB.nil
 ·rename_i own x e
  have := H (own, x) (List.mem_of_getElem? e)
  split
  ·exact AB.cons (by omega) (this.app (AB.cons (by omega) AB.nil))
  ·exact this
theorem AB.keys {a : List (Nat × List Nat)} (H : ABk a) : ∀ {ps : List (List Nat)} {i : Nat}, (∀ x ∈ ps, AB x) → ∀ x ∈ dF ps a i, AB x
 | [], i, _, x, hx => by simp [dF] at hx
 | p :: ps, i, K, x, hx => by
  simp only [dF, List.mem_cons] at hx
  rcases hx with rfl | hx
  ·exact (K p (by simp)).app (AB.cons (by omega) (eCt H _ _))
  ·exact AB.keys H (fun z hz => K z (by simp [hz])) x hx
theorem eCv {s : List Nat} {a : List (Nat × List Nat)} (H : AB s) (K : ABk a) : AB (bE s a) := by
 unfold bE
 split
 ·exact H
 ·split
  ·exact H.app (AB.cons (by omega) (eCt K _ _))
  ·exact AB.join (AB.cons (by omega) AB.nil) (AB.keys K H.parts)
theorem eDu {s : List Nat} {a : List (Nat × List Nat)} (H : AB s) (K : ABk a) : AB (dT s a) := by
 unfold dT
 split
 ·exact AB.nil
 ·exact (eCt K _ _).app (AB.cons (by omega) (eCv H fun p hp => K p (List.mem_of_mem_drop hp)))
theorem AB.body {ts kids : List (List Nat)} (H : ∀ x ∈ ts, AB x) (K : ∀ x ∈ kids, AB x) : AB (cH ts kids) := by
 unfold cH
 refine AB.app ?_ (AB.join (AB.cons (by omega) (AB.cons (by omega) AB.nil)) K)
 split
 ·exact AB.nil
 ·exact AB.cons (by omega) (AB.cons (by omega) ((AB.join (AB.cons (by omega) AB.nil) H).app (AB.cons (by omega) (AB.cons (by omega) (AB.cons (by omega) AB.nil)))))
theorem AB.names : ∀ {l : List (List Nat)}, (∀ x ∈ l, AB x) → AB (cD l)
 | [], _ => AB.nil
 | p :: l, H => AB.cons (by omega) ((H p (by simp)).app (AB.cons (by omega) (AB.names fun z hz => H z (by simp [hz]))))
mutual
def By : Node → Prop
 | .mk k t m ns ts ks => AB t ∧ (∀ x ∈ ns, AB x) ∧ (∀ x ∈ ts, AB x) ∧ ByL ks
def ByL : List Node → Prop
 | [] => True
 | x :: l => By x ∧ ByL l
end
def NfB (x : Nf) : Prop := AB x.t ∧ AB x.tx ∧ ABk x.ks
theorem eDv {l : List Nf} (H : ∀ x ∈ l, NfB x) : AB (gP l) := by
 unfold gP
 split
 ·rename_i a b r
  refine AB.app (eDu (H b (by simp)).1 ?_) (AB.join AB.nil ?_)
  ·intro p hp
   rcases List.mem_cons.1 hp with rfl | hp
   ·exact (H a (by simp)).2.1
   ·exact (H b (by simp)).2.2 p hp
  ·intro x hx
   obtain ⟨y, hy, rfl⟩ := List.mem_map.1 hx
   have := H y (by simp [hy])
   exact AB.cons (by omega) (AB.cons (by omega) (eCv this.1 this.2.2))
 ·exact AB.nil
mutual
theorem By.nf : ∀ {x : Node}, By x → NfB (nf x)
 | .mk k t m ns ts ks, ⟨h1, h2, h3, h4⟩ => by
  have K := ByL.nf h4
  have Kt : ∀ x ∈ (mJ ks).map Nf.tx, AB x := fun x hx => by
   obtain ⟨y, hy, rfl⟩ := List.mem_map.1 hx
   exact (K y hy).2.1
  have Kh : ABk ((mJ ks).map Nf.ht) := fun p hp => by
   obtain ⟨y, hy, rfl⟩ := List.mem_map.1 hp
   exact (K y hy).2.1
  refine ⟨h1, ?_, Kh⟩
  show AB (aDk k t m ns ts (mJ ks))
  unfold aDk
  split
  ·exact AB.itoa m
  split
  ·exact AB.cons (by omega) ((eDt (AB.cons (by omega) (AB.cons (by omega) AB.nil)) h1).app (AB.cons (by omega) AB.nil))
  split
  ·exact AB.cons (by omega) h1
  split
  ·exact AB.cons (by omega) (AB.cons (by omega) ((AB.join (AB.cons (by omega) AB.nil) Kt).app (AB.cons (by omega) AB.nil)))
  split
  ·exact h1.app (AB.cons (by omega) (AB.cons (by omega) (AB.cons (by omega) (AB.cons (by omega) (AB.join AB.nil Kt)))))
  split
  ·exact AB.cons (by omega) (AB.join AB.nil Kt)
  split
  ·exact eDu h1 Kh
  split
  ·exact eDv K
  split
  ·refine AB.cons (by omega) (AB.app ?_ ((AB.body h3 Kt).app (AB.cons (by omega) AB.nil)))
   split
   ·exact AB.nil
   ·exact (AB.names h2).app (AB.cons (by omega) (AB.cons (by omega) AB.nil))
  ·exact h1
theorem ByL.nf : ∀ {l : List Node}, ByL l → ∀ y ∈ mJ l, NfB y
 | [], _ => fun y hy => by cases hy
 | x :: l, ⟨h1, h2⟩ => fun y hy => by
  have p := By.nf h1
  have q := ByL.nf h2
  rcases List.mem_cons.1 (show y ∈ Go.Dd.nf x :: mJ l from hy) with e | hy
  ·rw [e]; exact p
  ·exact q y hy
end
theorem ByL.mem : ∀ {l : List Node}, ByL l → ∀ y ∈ l, By y
 | [], _ => fun y hy => by cases hy
 | x :: l, h => fun y hy => by
  rcases List.mem_cons.1 hy with e | hy
  ·rw [e]; exact h.1
  ·exact ByL.mem h.2 y hy
theorem By.body {x : Node} (h : By x) : AB (cH x.temps (fT x.kids)) := by
 obtain ⟨k, t, m, ns, ts, ks⟩ := x
 obtain ⟨h1, h2, h3, h4⟩ := h
 refine AB.body h3 fun z hz => ?_
 obtain ⟨y, hy, rfl⟩ := List.mem_map.1 hz
 exact (By.nf (h4.mem y hy)).2.1
theorem uA : ∀ (f n : Nat) (acc : List Nat), (fA f n acc).length ≤ f + acc.length
 | 0, n, acc => by simp [fA]
 | f + 1, n, acc => by
  show (bif Nat.ble 10 n then fA f (n / 10) ((48 + n % 10) :: acc) else (48 + n) :: acc).length ≤ _
  cases Nat.ble 10 n with
  | false => simp; omega
  | true =>
   have := uA f (n / 10) ((48 + n % 10) :: acc)
   simp at this ⊢; omega
theorem uC (n : Int) : (jT n).length ≤ 21 := by
 cases n with
 | ofNat n =>
  have := uA 20 n []
  show (fA 20 n []).length ≤ 21
  simp at this; omega
 | negSucc n =>
  have := uA 20 (Nat.succ n) []
  show (45 :: fA 20 (Nat.succ n) []).length ≤ 21
  simp at this ⊢; omega
theorem aPf {c : Nat} {a b : Nat} : ∀ (l : List Nat), (eZ c [a, b] l).length ≤ 2 * l.length
 | [] => by simp [eZ]
 | x :: l => by
  have := aPf (c := c) (a := a) (b := b) l
  show (bif Nat.beq x c then [a, b] ++ eZ c [a, b] l else x :: eZ c [a, b] l).length ≤ _
  cases Nat.beq x c with
  | true => simp; omega
  | false => simp; omega
def cO (l : List (List Nat)) : Nat := (l.map List.length).sum
theorem iM (sep : List Nat) : ∀ (l : List (List Nat)), (aK sep l).length ≤ cO l + l.length * sep.length
 | [] => by simp [aK]
 | [x] => by simp [aK, cO]
 | x :: y :: l => by
  have := iM sep (y :: l)
  simp only [aK, List.length_append, cO, List.map_cons, List.sum_cons, List.length_cons] at this ⊢
  rw [show (l.length + 1 + 1) * sep.length = (l.length + 1) * sep.length + sep.length by rw [Nat.add_mul _ 1]; omega]
  omega
theorem nY {c : Nat} : ∀ (l acc : List Nat), cO (cA c acc l) = acc.length + l.length ∧ (cA c acc l).length ≤ l.length + 1
 | [], acc => by simp [cA, cO]
 | x :: l, acc => by
  have h1 := nY (c := c) l []
  have h2 := nY (c := c) l (acc ++ [x])
  unfold cA
  cases Nat.beq x c with
  | true =>
   simp only [cond_true, cO, List.map_cons, List.sum_cons, List.length_cons, List.length_append] at h1 ⊢
   simp at h1 ⊢
   omega
  | false =>
   simp only [cond_false, List.length_cons]
   simp at h2
   omega
theorem pJ : ∀ (l : List (List Nat)), cO l.dropLast ≤ cO l
 | [] => by simp
 | [x] => by simp [cO]
 | x :: y :: l => by
  have := pJ (y :: l)
  simp only [List.dropLast_cons_cons, cO, List.map_cons, List.sum_cons] at this ⊢
  omega
theorem vU (s : List Nat) : cO (cK s) ≤ s.length ∧ (cK s).length ≤ s.length := by
 obtain ⟨h1, h2⟩ := nY (c := 58) s []
 have := pJ (cA 58 [] s)
 unfold cK
 constructor
 ·simp at h1; omega
 ·simp; omega
theorem iS {x : Nat} : ∀ {l : List Nat}, x ∈ l → x ≤ l.sum
 | y :: l, h => by
  rcases List.mem_cons.1 h with rfl | h
  ·simp
  ·have := iS h; simp; omega
def pF (l : List (Nat × List Nat)) : Nat := (l.map fun p => p.2.length).sum
theorem rD (l : List (Nat × List Nat)) (i h : Nat) : (bD l i h).length ≤ ((l[i]?).map fun p => p.2.length).getD 0 + 2 := by
 unfold bD
 split
 ·rename_i e; rw [e]; simp
 ·rename_i own x e
  rw [e]
  split <;> simp
theorem bLn (l : List (Nat × List Nat)) (i h : Nat) : (bD l i h).length ≤ pF l + 2 := by
 have h1 := rD l i h
 have h2 : ((l[i]?).map fun p => p.2.length).getD 0 ≤ pF l := by
  cases e : l[i]? with
  | none => simp
  | some p =>
   simp only [Option.map_some, Option.getD_some]
   have hm := List.mem_of_getElem? e
   unfold pF
   have : p.2.length ∈ l.map fun p => p.2.length := List.mem_map_of_mem hm
   exact iS this
 omega
theorem aSv (a : List (Nat × List Nat)) : ∀ (ps : List (List Nat)) (i : Nat), cO (dF ps a i) ≤ cO ps + 3 * ps.length + pF (a.drop i)
 | [], i => by simp [dF, cO]
 | p :: ps, i => by
  have ih := aSv a ps (i + 1)
  have h1 := rD a i 2
  have h2 : ((a[i]?).map fun p => p.2.length).getD 0 + pF (a.drop (i + 1)) ≤ pF (a.drop i) := by
   cases e : a[i]? with
   | none =>
    have h0 : a.length ≤ i := by simpa using e
    rw [List.drop_eq_nil_of_le h0, List.drop_eq_nil_of_le (by omega)]
    simp [pF]
   | some q =>
    rw [jL e]
    simp [pF]
  simp only [dF, cO, List.map_cons, List.sum_cons, List.length_append, List.length_cons] at ih ⊢
  omega
theorem wP (s : List Nat) (a : List (Nat × List Nat)) : (bE s a).length ≤ 5 * s.length + pF a + 10 := by
 unfold bE
 split
 ·omega
 ·split
  ·have := bLn a 0 1
   simp; omega
  ·have h1 := iM [32] (dF (cK s) a 0)
   have h2 := aSv a (cK s) 0
   have h3 := zQ (cK s) a 0
   obtain ⟨h4, h5⟩ := vU s
   simp at h1 h2
   omega
theorem aQm (s : List Nat) (a : List (Nat × List Nat)) : (dT s a).length ≤ 5 * s.length + pF a + 20 := by
 unfold dT
 split
 ·simp
 ·rename_i h0
  cases a with
  | nil => simp at h0
  | cons p a =>
   have h1 := wP s a
   have h2 := rD (p :: a) 0 (if bW s = 1 then 1 else 2)
   simp [pF] at h1 h2 ⊢
   omega
theorem aDy : ∀ (l : List (List Nat)), (cD l).length ≤ cO l + 2 * l.length
 | [] => by simp [cD]
 | p :: l => by
  have := aDy l
  simp [cD, cO] at this ⊢
  omega
theorem zR (ts kids : List (List Nat)) : (cH ts kids).length ≤ cO ts + ts.length + cO kids + 2 * kids.length + 10 := by
 have h1 := iM [32] ts
 have h2 := iM [46, 32] kids
 simp at h1 h2
 unfold cH
 split
 ·simp; omega
 ·simp; omega
theorem iA : ∀ {l : List (List Nat)}, jJ l = true → cO l ≤ 40 * l.length
 | [], _ => by simp [cO]
 | x :: l, h => by
  simp only [jJ, List.all_cons, Bool.and_eq_true, decide_eq_true_eq] at h
  have := iA (l := l) h.2
  simp [cO] at this ⊢
  omega
def WL (x : Node) : Nat := 2000 * sz x
def WLL (l : List Node) : Nat := 2000 * tK l
def NfW (x : Nf) (n : Nat) : Prop := x.tx.length ≤ n ∧ pF x.ks + 1900 ≤ n ∧ x.t.length ≤ 40
theorem wE : ∀ (r : List Node), (∀ x ∈ r, NfW (nf x) (WL x)) → cO ((mJ r).map fun x => 59 :: 32 :: bE x.t x.ks) ≤ WLL r
 | [], _ => by simp [mJ, cO]
 | x :: r, H => by
  have ih := wE r fun y hy => H y (by simp [hy])
  obtain ⟨_, h2, h3⟩ := H x (by simp)
  have h4 := wP (nf x).t (nf x).ks
  simp only [mJ, List.map_cons, cO, List.sum_cons, List.length_cons, WLL, tK, WL] at ih h2 ⊢
  omega
theorem tO : ∀ (l : List Node), (∀ x ∈ l, NfW (nf x) (WL x)) → cO ((mJ l).map Nf.tx) ≤ WLL l ∧ pF ((mJ l).map Nf.ht) ≤ WLL l ∧ l.length ≤ tK l
 | [], _ => by simp [mJ, cO, pF, WLL, tK]
 | x :: l, H => by
  have ih := tO l fun y hy => H y (by simp [hy])
  obtain ⟨h1, _, _⟩ := H x (by simp)
  have hp := aMs x
  simp only [mJ, List.map_cons, cO, pF, List.sum_cons, WLL, tK, WL, Nf.ht, List.length_cons] at ih h1 ⊢
  omega
mutual
theorem bLj : ∀ {x : Node}, eL x = true → NfW (nf x) (WL x)
 | .mk k t m ns ts ks, h => by
  simp only [eL, Bool.and_eq_true, decide_eq_true_eq] at h
  obtain ⟨h0, h1, h2, h3, h4, h5, h6⟩ := h
  have K := oN h6
  obtain ⟨t1, t2, t3⟩ := tO ks K
  have n1 := iA h4
  have n2 := iA h5
  have hsz : sz (.mk k t m ns ts ks) = 1 + tK ks := by rw [sz]
  have hwl : WL (.mk k t m ns ts ks) = 2000 + WLL ks := by simp [WL, WLL, hsz]; omega
  have hks : tK ks ≤ 99 := by omega
  have hn : nf (.mk k t m ns ts ks) = ⟨k, t, aDk k t m ns ts (mJ ks), (mJ ks).map Nf.ht⟩ := by rw [nf]
  have hz : (mJ ks).length = ks.length := by rw [yB]; simp
  rw [hn, hwl]
  refine ⟨?_, by show pF ((mJ ks).map Nf.ht) + 1900 ≤ _; omega, h1⟩
  show (aDk k t m ns ts (mJ ks)).length ≤ _
  unfold aDk
  split
  ·have := uC m; omega
  split
  ·have := aPf (c := 39) (a := 39) (b := 39) t
   simp; omega
  split
  ·simp; omega
  split
  ·have := iM [32] ((mJ ks).map Nf.tx)
   simp [hz] at this ⊢; omega
  split
  ·have := iM [] ((mJ ks).map Nf.tx)
   simp [hz] at this ⊢; omega
  split
  ·have := iM [] ((mJ ks).map Nf.tx)
   simp [hz] at this ⊢; omega
  split
  ·have := aQm t ((mJ ks).map Nf.ht)
   omega
  split
  ·cases ks with
   | nil => simp [mJ, gP]
   | cons a ks =>
    cases ks with
    | nil => simp [mJ, gP]
    | cons b r =>
     obtain ⟨a1, a2, a3⟩ := K a (by simp)
     obtain ⟨b1, b2, b3⟩ := K b (by simp)
     have hr := wE r fun x hx => K x (by simp [hx])
     have hs := aQm (nf b).t ((nf a).ht :: (nf b).ks)
     have hj := iM [] ((mJ r).map fun x => 59 :: 32 :: bE x.t x.ks)
     have hw : WLL (a :: b :: r) = WL a + WL b + WLL r := by simp [WLL, WL, tK]; omega
     rw [hw]
     simp only [mJ, gP, List.length_append]
     simp only [List.length_nil, Nat.mul_zero, Nat.add_zero] at hj
     simp only [pF, List.map_cons, List.sum_cons, Nf.ht] at hs b2
     have hwb : WL b = 2000 * sz b := rfl
     simp only [Nf.ht]
     omega
  split
  ·have hb := zR ts ((mJ ks).map Nf.tx)
   have hnm := aDy ns
   simp [hz] at hb
   split
   ·simp; omega
   ·simp; omega
  ·omega
theorem oN : ∀ {l : List Node}, kA l = true → ∀ x ∈ l, NfW (nf x) (WL x)
 | [], _ => fun x hx => by cases hx
 | y :: l, h => by
  simp only [kA, Bool.and_eq_true] at h
  have p := bLj h.1
  have q := oN h.2
  intro x hx
  rcases List.mem_cons.1 hx with e | hx
  ·rw [e]; exact p
  ·exact q x hx
end
mutual
def Nm : Node → Prop
 | .mk k t m ns ts ks => (-9223372036854775808 ≤ m ∧ m ≤ 9223372036854775807) ∧ NmL ks
def NmL : List Node → Prop
 | [] => True
 | x :: l => Nm x ∧ NmL l
end
mutual
theorem aAt : ∀ {x : Node}, eL x = true → Nm x → Sk x
 | .mk k t m ns ts ks, h, hm => by
  simp only [eL, Bool.and_eq_true, decide_eq_true_eq] at h
  obtain ⟨h0, h1, h2, h3, h4, h5, h6⟩ := h
  unfold Nm at hm
  have t3 : ∀ l : List Node, l.length ≤ tK l := by
   intro l
   induction l with
   | nil => simp [tK]
   | cons x l ih => have := aMs x; simp [tK]; omega
  have := t3 ks
  have hsz : sz (.mk k t m ns ts ks) = 1 + tK ks := by rw [sz]
  have hl : bG = 100000000000 := rfl
  unfold Sk
  exact ⟨by omega, hm.1.1, hm.1.2, by omega, aEf h6 hm.2⟩
theorem aEf : ∀ {l : List Node}, kA l = true → NmL l → SkL l
 | [], _, _ => trivial
 | y :: l, h, hm => by
  simp only [kA, Bool.and_eq_true] at h
  unfold NmL at hm
  exact ⟨aAt h.1 hm.1, aEf h.2 hm.2⟩
end
theorem aUj {x : Node} (h : eL x = true) : (cH x.temps (fT x.kids)).length ≤ bG := by
 obtain ⟨k, t, m, ns, ts, ks⟩ := x
 simp only [eL, Bool.and_eq_true, decide_eq_true_eq] at h
 obtain ⟨h0, h1, h2, h3, h4, h5, h6⟩ := h
 obtain ⟨t1, t2, t3⟩ := tO ks (oN h6)
 have hb := zR ts (fT ks)
 have n2 := iA h5
 have hsz : sz (.mk k t m ns ts ks) = 1 + tK ks := by rw [sz]
 have e : fT ks = (mJ ks).map Nf.tx := ((aNw ks).1).symm
 have hz : (fT ks).length = ks.length := by simp [fT]
 show (cH ts (fT ks)).length ≤ 100000000000
 rw [← e] at t1
 have : WLL ks = 2000 * tK ks := rfl
 omega
end Go.Dd

namespace Go.Dd
open Go.Proofs Go.RowKit
noncomputable def aJb (h : Hp) : Im := fun b => h.bl.get b
theorem Ge.im {h h' : Hp} (g : Ge h h') : ILe (aJb h) (aJb h') := g
theorem Ro.sy {w : World} {ρ : Ren} {h : Hp} (R : Ro w ρ h) : Sy (aJb h) [] [] [] h where
 wf := R.wf
 im := fun b o e => e
 loc := fun b o m => by simp at m
 lt := fun b o m => by simp at m
 nd := by simp
 dj := fun b o m => by simp at m
theorem aFv (bs : ByteArray) : AB (bs.data.toList.map (·.toNat)) := fun c hc => by
 obtain ⟨b, _, rfl⟩ := List.mem_map.1 hc
 exact b.toNat_lt
section
variable {H : Type} {enc : TypeId × Value → H} {w : World}
theorem aQv : ∀ (rows : List (List DV)), (∀ r ∈ rows, r.length = 6) → rows.flatten.length = rows.length * 6
 | [], _ => rfl
 | r :: rows, h => by
  have := aQv rows fun x hx => h x (by simp [hx])
  have h1 := h r (by simp)
  rw [List.flatten_cons, List.length_append, List.length_cons, this, h1]
  omega
theorem aAe {n : Nat} {v : Value} {x : DataW H × List MemPlace} (hx : DataW.trod enc Tryz.prog w 0 (fun _ => true) true n 22 [v] = some x) {ρ : Ren} {h : Hp} (R : Ro w ρ h) :
 ∃ ρ' h' s, ∃ l : List (List Nat), Ro w ρ' h' ∧ Ge h h' ∧ Ext ρ ρ' ∧ VR ρ' s v ∧ (l.length ≤ sU ∧ Fz (aJb h') 1 s l.length (l.map .s)) ∧ ∀ x ∈ l, AB x := by
 rcases DataW.trod_slice Tryz.underlying22 hx with ⟨h1, _⟩ | ⟨a, len, cap, elems, rest, m, _, h1, _, _, h4, h5, h6, h7, _⟩
 ·cases h1
  exact ⟨ρ, h, .l0, [], R, Ge.refl _, fun _ _ e => e, .l0, ⟨by simp, .inl ⟨.inl rfl, rfl, rfl⟩⟩, fun x hx => by cases hx⟩
 ·cases h1
  have hc : Tryz.prog.cellsOf 9 = 1 := by kernel_rfl
  rw [hc] at h7
  let L : Loc := ⟨a.block, a.off, 0, a.spot⟩
  have ha : a = fF L 0 := rfl
  have hcell : ∀ i, i < len → ∃ bs : ByteArray, w.cell? (fF L i) = some (.string bs) := by
   intro i hi
   have e := h7 i hi
   rw [show elems[i]? = some elems[i] by simp [h6, hi]] at e
   simp only [Option.bind_eq_some_iff] at e
   obtain ⟨cs, e1, e2⟩ := e
   obtain ⟨c1, c2⟩ := aEd e1
   obtain ⟨bs, rfl, _⟩ := DataW.trod_string Tryz.underlying9 e2
   have := c2 0 (by omega)
   rw [ha, gH, gH] at this
   refine ⟨bs, ?_⟩
   simpa [aG] using this
  let g : Nat → List Nat := fun i => match w.cell? (fF L i) with
   | some (.string bs) => bs.data.toList.map (·.toNat)
   | _ => []
  have hg : ∀ i, i < len → ∃ v', w.cell? (fF L i) = some v' ∧ VR ρ (.s (g i)) v' := by
   intro i hi
   obtain ⟨bs, e⟩ := hcell i hi
   refine ⟨_, e, ?_⟩
   simp only [g, e]
   exact .s _ bs rfl
  obtain ⟨R', ext⟩ := R.add L ((List.range len).map fun i => DV.s (g i)) rfl (fun i v hv => by
   simp only [List.getElem?_map, Option.map_eq_some_iff] at hv
   obtain ⟨j, hj, rfl⟩ := hv
   obtain ⟨hj1, hj2⟩ := List.getElem?_eq_some_iff.1 hj
   simp at hj1 hj2
   subst hj2
   exact hg i hj1)
  refine ⟨_, _, .l h.next 0 len cap, (List.range len).map g, R', cZo R.wf _, ext, ?_, ⟨?_, .inr ⟨h.next, 0, cap, .ro, _, [], ?_, ?_, aGv h _, ?_, ?_, ?_⟩⟩, ?_⟩
  ·exact .l h.next 0 len cap L (bU _ _ _)
  ·simp
   have : maxLen = 9223372036854775807 := by rfl
   have : sU = 9223372036854775807 := by rfl
   omega
  ·simp
  ·simpa using h4
  ·simp [Function.comp_def]
  ·simp
  ·intro v hv
   obtain ⟨x, _, rfl⟩ := List.mem_map.1 hv
   rfl
  ·intro x hx
   obtain ⟨i, hi, rfl⟩ := List.mem_map.1 hx
   have hi : i < len := by simpa using hi
   obtain ⟨bs, e⟩ := hcell i hi
   show AB (g i)
   simp only [g, e]
   exact aFv bs
theorem NWL.app {I : Im} : ∀ {l l' : List Node} {c c' : List DV}, NWL I l c → NWL I l' c' → NWL I (l ++ l') (c ++ c')
 | [], l', c, c', e, H => by
  have e : c = [] := e
  subst e; simpa using H
 | x :: l, l', _, c', ⟨c, rest, e, a, b⟩, H => by
  subst e
  exact ⟨c, rest ++ c', by simp, a, NWL.app b H⟩
theorem ByL.snoc : ∀ {l : List Node} {x : Node}, ByL l → By x → ByL (l ++ [x])
 | [], x, _, h => ⟨h, trivial⟩
 | y :: l, x, H, h => ⟨H.1, ByL.snoc H.2 h⟩
theorem NmL.snoc : ∀ {l : List Node} {x : Node}, NmL l → Nm x → NmL (l ++ [x])
 | [], x, _, h => ⟨h, trivial⟩
 | y :: l, x, H, h => ⟨H.1, NmL.snoc H.2 h⟩
theorem bKq {k : Int} (h : (Lit.int .i64 k).wf = true) : -9223372036854775808 ≤ k ∧ k ≤ 9223372036854775807 := by
 have h : (decide (IntKind.i64.min ≤ k) && decide (k ≤ IntKind.i64.max)) = true := h
 have e1 : IntKind.i64.min = -9223372036854775808 := by decide
 have e2 : IntKind.i64.max = 9223372036854775807 := by decide
 rw [e1, e2] at h
 simpa using h
theorem aCw : ∀ (n : Nat) (cs : List Value) (x : DataW H × List MemPlace), DataW.trod enc Tryz.prog w 0 (fun _ => true) true n 25 cs = some x → ∀ {ρ : Ren} {h : Hp}, Ro w ρ h →
 ∃ ρ' h' ds, ∃ z : Node, Ro w ρ' h' ∧ Ge h h' ∧ Ext ρ ρ' ∧ VRs ρ' ds cs ∧ NW (aJb h') z ds ∧ By z ∧ Nm z
 | 0, cs, x, hx, ρ, h, R => by simp [DataW.trod] at hx
 | n + 1, cs, x, hx, ρ, h, R => by
  obtain ⟨xs, m, e0, _, hl, hxl, hf⟩ := DataW.trod_struct Tryz.underlying25 hx
  cases e0
  have hc : Tryz.prog.cellsOf 25 = 6 := by kernel_rfl
  have hc3 : Tryz.prog.cellsOf 3 = 1 := by kernel_rfl
  have hc9 : Tryz.prog.cellsOf 9 = 1 := by kernel_rfl
  have hc22 : Tryz.prog.cellsOf 22 = 1 := by kernel_rfl
  have hc23 : Tryz.prog.cellsOf 23 = 1 := by kernel_rfl
  rw [hc] at hl
  obtain ⟨v0, v1, v2, v3, v4, v5, rfl⟩ : ∃ v0 v1 v2 v3 v4 v5, cs = [v0, v1, v2, v3, v4, v5] := by
   match cs, hl with
   | [v0, v1, v2, v3, v4, v5], _ => exact ⟨_, _, _, _, _, _, rfl⟩
  have some : ∀ i, i < 6 → ∃ y, xs[i]? = some y := fun i hi => ⟨xs[i]'(by rw [hxl]; exact hi), by simp⟩
  obtain ⟨y0, g0⟩ := some 0 (by omega)
  obtain ⟨y1, g1⟩ := some 1 (by omega)
  obtain ⟨y2, g2⟩ := some 2 (by omega)
  obtain ⟨y3, g3⟩ := some 3 (by omega)
  obtain ⟨y4, g4⟩ := some 4 (by omega)
  obtain ⟨y5, g5⟩ := some 5 (by omega)
  have f0 := hf 0 _ rfl
  have f1 := hf 1 _ rfl
  have f2 := hf 2 _ rfl
  have f3 := hf 3 _ rfl
  have f4 := hf 4 _ rfl
  have f5 := hf 5 _ rfl
  simp only [hc3, hc9, hc22, hc23, List.drop_zero, List.drop_succ_cons, List.take_succ_cons, List.take_zero, g0, g1, g2, g3, g4, g5] at f0 f1 f2 f3 f4 f5
  obtain ⟨k, e0, _⟩ := DataW.trod_int Tryz.underlying3 f0
  obtain ⟨t, e1, _⟩ := DataW.trod_string Tryz.underlying9 f1
  obtain ⟨mm, e2, _, wm⟩ := DataW.trod_int Tryz.underlying3 f2
  have rm := bKq wm
  cases e0; cases e1; cases e2
  obtain ⟨ρ1, h1, s1, l1, R1, G1, E1, V1, S1, B1⟩ := aAe f3 R
  obtain ⟨ρ2, h2, s2, l2, R2, G2, E2, V2, S2, B2⟩ := aAe f4 R1
  have fin : ∀ ρ3 h3 s3 (ks : List Node) cells, Ro w ρ3 h3 → Ge h2 h3 → Ext ρ2 ρ3 → VR ρ3 s3 v5 → ks.length ≤ sU → Fz (aJb h3) 6 s3 ks.length cells → NWL (aJb h3) ks cells → ByL ks → NmL ks →
   ∃ ρ' h' ds, ∃ z : Node, Ro w ρ' h' ∧ Ge h h' ∧ Ext ρ ρ' ∧ VRs ρ' ds [.int .i64 k, .string t, .int .i64 mm, v3, v4, v5] ∧ NW (aJb h') z ds ∧ By z ∧ Nm z := by
   intro ρ3 h3 s3 ks cells R3 G3 E3 V3 K3 F3 N3 Y3 M3
   refine ⟨ρ3, h3, [.i .i64 k, .s (t.data.toList.map (·.toNat)), .i .i64 mm, s1, s2, s3], .mk k (t.data.toList.map (·.toNat)) mm l1 l2 ks, R3, (G1.trans G2).trans G3, (E1.trans E2).trans E3, ?_,
    ⟨s1, s2, s3, rfl, ⟨S1.1, S1.2.mono ((G2.trans G3).im)⟩, ⟨S2.1, S2.2.mono G3.im⟩, K3, cells, F3, N3⟩, ⟨aFv t, B1, B2, Y3⟩, ⟨rm, M3⟩⟩
   exact .cons _ _ _ _ (.i _ _) (.cons _ _ _ _ (.s _ t rfl) (.cons _ _ _ _ (.i _ _) (.cons _ _ _ _ ((V1.mono E2).mono E3) (.cons _ _ _ _ (V2.mono E3) (.cons _ _ _ _ V3 .nil)))))
  rcases DataW.trod_slice Tryz.underlying23 f5 with ⟨e5, _⟩ | ⟨a, len, cap, elems, rest, m', em, e5, _, _, q4, q5, q6, q7, _⟩
  ·cases e5
   exact fin ρ2 h2 .l0 [] [] R2 (Ge.refl _) (fun _ _ e => e) .l0 (by simp) (.inl ⟨.inl rfl, rfl, rfl⟩) rfl trivial trivial
  ·cases e5
   rw [hc] at q7
   let L : Loc := ⟨a.block, a.off, 0, a.spot⟩
   have ha : a = fF L 0 := rfl
   have pre : ∀ c, c ≤ len → ∃ (ρ3 : Ren) (h3 : Hp) (rows : List (List DV)) (ks : List Node), Ro w ρ3 h3 ∧ Ge h2 h3 ∧ Ext ρ2 ρ3 ∧ rows.length = c ∧ (ks.length = c ∧ NWL (aJb h3) ks rows.flatten ∧ (∀ r ∈ rows, r.length = 6) ∧ (∀ r ∈ rows, ∀ v ∈ r, v.one = true) ∧ ByL ks ∧ NmL ks) ∧
    ∀ (i j : Nat) u v, rows[i]? = Option.some u → u[j]? = Option.some v → ∃ v', w.cell? (fF L (i * 6 + j)) = Option.some v' ∧ VR ρ3 v v' := by
    intro c
    induction c with
    | zero => intro _; exact ⟨ρ2, h2, [], [], R2, Ge.refl _, fun _ _ e => e, rfl, ⟨rfl, rfl, fun u hu => by simp at hu, fun u hu => by simp at hu, trivial, trivial⟩, fun i j u v hu => by simp at hu⟩
    | succ c ih =>
     intro hcl
     obtain ⟨ρ3, h3, rows, ks, R3, G3, E3, l3, ⟨k3, N3, L3, O3, Y3, M3⟩, C3⟩ := ih (by omega)
     have e := q7 c (by omega)
     rw [show elems[c]? = Option.some (elems[c]'(by omega)) by simp] at e
     simp only [Option.bind_eq_some_iff] at e
     obtain ⟨cs, e1, e2⟩ := e
     obtain ⟨c1, c2⟩ := aEd e1
     cases em
     obtain ⟨ρ4, h4, ds, z, R4, G4, E4, V4, N4, Y4, M4⟩ := aCw m' cs _ e2 R3
     refine ⟨ρ4, h4, rows ++ [ds], ks ++ [z], R4, G3.trans G4, E3.trans E4, by simp [l3], ⟨by simp [k3], ?_, ?_, ?_, Y3.snoc Y4, M3.snoc M4⟩, ?_⟩
     ·rw [List.flatten_append]
      refine (N3.mono G4.im).app ?_
      exact ⟨ds, [], by simp, N4, rfl⟩
     ·intro u hu
      rcases List.mem_append.1 hu with hu | hu
      ·exact L3 u hu
      ·simp at hu
       subst hu
       exact N4.shape.1
     ·intro u hu
      rcases List.mem_append.1 hu with hu | hu
      ·exact O3 u hu
      ·simp at hu
       subst hu
       exact N4.shape.2.1
     ·intro i j u v hu hv
      by_cases hi : i < rows.length
      ·rw [List.getElem?_append_left hi] at hu
       obtain ⟨v', h5, h6⟩ := C3 i j u v hu hv
       exact ⟨v', h5, h6.mono E4⟩
      ·rw [List.getElem?_append_right (by omega)] at hu
       have hi' : i - rows.length = 0 := by
        cases hk : i - rows.length with
        | zero => rfl
        | succ k => rw [hk] at hu; simp at hu
       rw [hi'] at hu
       simp at hu
       subst hu
       obtain ⟨v', h5, h6⟩ := V4.get j v hv
       refine ⟨v', ?_, h6⟩
       have hj : j < 6 := by
        have := V4.length
        have h7 := (wV hv)
        omega
       have := c2 j hj
       rw [ha, gH, gH] at this
       rw [show i * 6 + j = 0 + c * 6 + j by omega, this]
       exact h5
   obtain ⟨ρ3, h3, rows, ks, R3, G3, E3, l3, ⟨k3, N3, l6, O3, Y3, M3⟩, C3⟩ := pre len (Nat.le_refl _)
   obtain ⟨R4, E4⟩ := R3.add L rows.flatten rfl (fun q v hq => by
    obtain ⟨i, j, u, g1, g2, rfl⟩ := aPv rows q v l6 hq
    exact C3 i j u v g1 g2)
   have G4 := cZo R3.wf (.row .ro rows.flatten)
   refine fin _ _ (.l h3.next 0 len cap) ks rows.flatten R4 (G3.trans G4) (E3.trans E4) (.l h3.next 0 len cap L (bU _ _ _)) ?_ (.inr ⟨h3.next, 0, cap, .ro, rows.flatten, [], by rw [k3], by rw [k3]; exact q4, aGv h3 _, by simp, ?_, ?_⟩) (N3.mono G4.im) Y3 M3
   ·have : maxLen = 9223372036854775807 := by rfl
    have : sU = 9223372036854775807 := by rfl
    omega
   ·rw [k3, ← l3]
    exact aQv rows l6
   ·intro v hv
    obtain ⟨r, hr, hv⟩ := List.mem_flatten.1 hv
    exact O3 r hr v hv
end
end Go.Dd

namespace Go.Dd
open Go.Proofs Go.RowKit
abbrev dSn : List (String × DataW Unit) := YtliejomdaookoaaGreatDoor.Rows.showApartRow.laid
theorem cFi : (YtliejomdaookoaaGreatDoor.Rows.laid_internal_strconv_uint64pow10 : DataW Unit) = Lib.tabData .u64 Lib.pow10Tab := by kernel_rfl
theorem cDg {W : World} (hL : laidMet Tryz.prog dSn W) (hs : W.ShapedOpen Tryz.prog) : Facts W := by
 refine ⟨Tryz.laysM143.s1_3 W hs, ?_⟩
 obtain ⟨g, t, cs, fuel, p, hg, ht, hv, hd⟩ := Lib.laidMet.reads hL (n := "internal/strconv.uint64pow10") (d := YtliejomdaookoaaGreatDoor.Rows.laid_internal_strconv_uint64pow10) (.tail _ (.tail _ (.head _)))
 have e1 : Tryz.prog.globalNamed "internal/strconv.uint64pow10" = some 1 := by kernel_rfl
 obtain rfl := Option.some.inj (e1.symm.trans hg)
 have e2 : (Tryz.prog.globals[1]?).map (·.type) = some 136 := by kernel_rfl
 obtain rfl := Option.some.inj (e2.symm.trans ht)
 rw [cFi] at hd
 have hc := Lib.cells_of_tab Tryz.underlying136 Tryz.underlying124 (by kernel_rfl) (by kernel_rfl) hd
 unfold World.var? at hv
 rw [e1] at hv
 simp only [Option.bind_some] at hv
 split at hv
 ·rename_i cs' t' z' hh
  obtain rfl := Option.some.inj hv
  refine ⟨t', z', ?_⟩
  rw [hh]
  congr 2
  rw [← hc]
 ·cases hv
theorem aLz {H : Type} {enc : TypeId × Value → H} {a : Assume} {C : Checked} {os : Os} {f : FuncId} {fn : Func} {s : ChangeSpec} {conds : List PathCond} {apart fresh handsOn again : Bool} {X : World → Array Value → Prop}
 (hX : ∀ (w w' : World) (args : Array Value), w.heap = w'.heap → X w args → X w' args)
 (own : ownKnob C.prog.godebug = none) (started : os.Started) (noInit : C.prog.inits.idxOf? f = none) (hfn : C.prog.funcs[f]? = some fn)
 (witness : ∃ (w : World) (tape : Tape) (i : Input), w.os = os ∧ (w.forCall tape i).Shaped C.prog ∧ i.vars = [] ∧ Input.okWide C.prog (w.forCall tape i) .any w.heap.size f i ∧
  ((s.pre enc C.prog fn conds apart (w.forCall tape i).memory i.args ∧ X (w.forCall tape i).memory i.args) ∧ sizedMet enc C.prog fn (OpenSpec.ofChange s) apart (w.forCall tape i).memory i.args) ∧ a.holds C.prog (lone (Frame.enter C.prog f i.args .normal) [] (w.forCall tape i)))
 (contract : ∀ (W : World) (base : Nat) (args : Array Value) (ds gs : List (DataW H)) (before : List MemPlace),
  (∀ (j : Nat) t v, fn.params[j]? = some t → args[j]? = some v → Value.okWide C.prog W .any base t v) →
  DataW.Whole enc C.prog fn.params.toList s.vars apart W args.toList ds gs before →
  X W args → W.ShapedOpen C.prog →
  Calls C.prog f args W fun e W' => ∃ v, e = .returned v ∧ s.post enc C.prog fn apart fresh handsOn again W args v W') :
 ReturnsInHanded a C os f .any (fun w args => (s.pre enc C.prog fn conds apart w args ∧ X w args) ∧ sizedMet enc C.prog fn (OpenSpec.ofChange s) apart w args) (s.post enc C.prog fn apart fresh handsOn again) := by
 refine returnsInHanded_of_calls own started noInit witness ?_
 intro w tape i _ hsh _ hok hpre hholds
 obtain ⟨_, _, _, fn', hfn', _, _, _, _, hval⟩ := hok
 have e : fn' = fn := Option.some.inj (hfn'.symm.trans hfn)
 subst e
 obtain ⟨⟨⟨ds, gs, before, hw, hc⟩, hx⟩, hz⟩ := hpre
 have hw' := DataW.Whole.of_heap (w' := w.forCall tape i) (by rfl) hw
 refine (contract (w.forCall tape i) w.heap.size i.args ds gs before hval hw' (hX _ _ _ (by rfl) hx) hsh).mono fun e W' ⟨v, he, hp⟩ => ?_
 subst he
 exact ChangeSpec.post_blind hp
theorem bYe {rec : FuncId → List DV → Hp → aF} (K : OkC CF rec) {n : Nat} {f : FuncId} {args : List DV} {v : DV} {h h1 : Hp} (hr : aL CF rec n f args h = some (v, h1)) (fn : Func) (hf : Tryz.prog.funcs[f]? = some fn) (hb : fn.body.isSome = true)
 {ρ : Ren} {w : World} (W : Facts w) (R : Ro w ρ h) (args' : Array Value) (hargs : VRs ρ args args'.toList) :
 Calls Tryz.prog f args' w fun e w' => ∃ ρ' v', e = .returned v' ∧ VR ρ' v v' ∧ Below w.heap.size w w' := by
 rcases bEt K Try_ok n f args h v h1 hr ρ w args' (R.hr W) hargs with ⟨_, h⟩ | ⟨ρ', w', v', h, _⟩
 ·refine h.mono ?_
  rintro e w' ⟨ρ', v', h1, h2, h3, h4, h5⟩
  exact ⟨ρ', v', h1, h3, h5.low⟩
 ·exfalso
  have hf' : CF.P.funcs[f]? = some fn := hf
  have hn : ¬ fn.name = "runtime.NumGoroutine" := by simpa using Try_ok.names f fn hf'
  have hbn : fn.body ≠ none := by intro e; rw [e] at hb; cases hb
  unfold callFunc at h
  simp [hf', hn, hbn] at h
theorem own : ownKnob Tryz.prog.godebug = none := by kernel_rfl
theorem bSq : laidOutB Tryz.prog = true := by kernel_rfl
def zn : Value := .agg #[.int .i64 0, .string ⟨#[]⟩, .int .i64 0, .slice none 0 0, .slice none 0 0, .slice none 0 0]
theorem cDu {P : Program} {W : World} {base : Nat} {t : TypeId} {v : Value} {fs : Array Field} (ht : P.underlying t = some (.struct fs)) (h : Value.okWide P W .any base t v) : ∃ cs, v = .agg cs := by
 unfold Value.okWide at h
 rw [ht] at h
 obtain ⟨cs, e, _⟩ := h
 exact ⟨cs, e⟩
end Go.Dd

namespace Go.Dd
open Go.Proofs
def aFq : Nat → List Nat → List (List Nat) → PSt → Option ((List Nat × List (List Nat)) × PSt)
 | 0, _, _, _ => none
 | f + 1, t, l, st => (eD st 2 []).bind fun c => if c then (dX st).bind fun r => if t.length + r.1.text.length ≤ bG then (lN r.2 1 l).bind fun q => aFq f (t ++ r.1.text) q.1 q.2 else none else some ((t, l), st)
def bIx (f : Nat) (st : PSt) : Option ((List Nat × List (List Nat)) × PSt) :=
 (eD st 1 []).bind fun c => if c then (dX st).bind fun r => some ((r.1.text, []), r.2) else (eD st 3 []).bind fun c =>
  if c then (dX st).bind fun r => (lN r.2 1 []).bind fun q => some ((r.1.text, q.1), q.2) else (jW st 2 []).bind fun r => (lN r.2 1 []).bind fun q => aFq (f - 1) r.1.text q.1 q.2
def aEv (st : PSt) : Option (Int × PSt) :=
 (eD st 3 [60]).bind fun c => if c then (dX st).bind fun r => (jW r.2 2 bXy).bind fun a => (jW a.2 4 []).bind fun b =>
  (jW (if 255 < b.1.num then bS b.2 b.1 2 else b.2) 3 [62]).bind fun d => some (b.1.num, d.2) else some (0, st)
def aQe (f : Nat) : PF := fun st => (bIx f st).bind fun a => (aEv a.2).bind fun b => some (.mk 11 a.1.1 b.1 a.1.2 [] [], b.2)
def zO (f : Nat) (lx : List Tok × Int × Int) : Option (Node × Int × Int) :=
 if lx.2.2 = 0 then if 1 ≤ lx.1.length then (aQe f ⟨lx.1, 0, 0, 0⟩).bind fun a => bFe f a.1 a.2 else none else some (zN, lx.2.1, lx.2.2)
theorem cGu (n : Nat) (x : DV) (h : Hp) : aI (n + 1) 44 [x] h = s44 (aI n) n x h := by kernel_rfl
def HR6 (t : List Nat) (m : Int) (d : DV) : List DV := [.i .i64 11, .s t, .i .i64 m, d, .l0, .l0]
section
variable {I : Im} {A L : Ls} {h : Hp} {p : Pos} {s : DV} {b2 b3 : Pos} {z : List DV}
theorem aYt {J : Im} {i : Nat} {st : PSt} {t : List Nat} {m : Int} {d : DV} {ns : List (List Nat)} (g : ILe I J) (S : Sy J A [PD p s i st] ((b3, some (.row .ex (HR6 t m d))) :: (b2, some (.row .ex z)) :: L) h) (z1 : z.length = 6) (z2 : ∀ v ∈ z, v.one = true)
 (T : TD J s i st.toks) (N : SS J d ns) : Ev (fun n => aZs (aI n) n (.p b2 0) (.p b3 0) h) (NPostD I A L p s (.mk 11 t m ns [] []) st) := by
 have o1 := N.2.one
 have N6 := NV.of (I := J) (k := 11) (t := t) (m := m) N (SS.nil J) (NS.nil J)
 obtain ⟨l6, o6, q6⟩ := N6.shape
 unfold HR6 at S
 unfold aZs
 refine ws ?_; refine wt fun _ _ => ?_; refine ws ?_
 exact eAs ⟨J, i, _, rfl, g, dp, T, N6⟩
theorem aIt {J : Im} {i : Nat} {st : PSt} {t : List Nat} {d : DV} {ns : List (List Nat)} (g : ILe I J) (S : Sy J A [PD p s i st] ((b3, some (.row .ex (HR6 t 0 d))) :: (b2, some (.row .ex z)) :: L) h) (z1 : z.length = 6) (z2 : ∀ v ∈ z, v.one = true)
 (T : TD J s i st.toks) (N : SS J d ns) {m : Int} {st' : PSt} (hm : aEv st = some (m, st')) : Ev (fun n => dH (aI n) n (.p p 0) (.p b2 0) (.p b3 0) h) (NPostD I A L p s (.mk 11 t m ns [] []) st') := by
 have o1 := N.2.one
 have hs := T.one
 unfold aEv at hm
 obtain ⟨c, hc, hm⟩ := aT hm
 unfold dH
 refine eAr (cM S T hc) ?_
 rintro _ _ ⟨rfl, S1⟩
 unfold cWq
 cases c with
 | false =>
  rw [if_neg (by simp)] at hm
  cases hm
  refine yj ?_
  exact aYt g S1 z1 z2 T N
 | true =>
  rw [if_pos rfl] at hm
  obtain ⟨⟨r, st1⟩, hr, hm⟩ := aT hm
  obtain ⟨⟨a, st2⟩, ha, hm⟩ := aT hm
  obtain ⟨⟨b, st3⟩, hb, hm⟩ := aT hm
  obtain ⟨⟨e, st4⟩, he, hm⟩ := aT hm
  cases hm
  refine yt ?_
  unfold cXv
  refine eAr (cG S1 T hr) ?_
  rintro _ _ ⟨rfl, i1, S2, T2⟩
  unfold cZw
  refine eAr (iL S2 T2 ha) ?_
  rintro _ _ ⟨rfl, i2, S3, T3⟩
  unfold cWk
  refine eAr (iL S3 T3 hb) ?_
  rintro _ _ ⟨rfl, i3, S4, T4⟩
  refine wa fun _ _ _ => ?_; refine wt fun _ _ => ?_
  unfold cZp
  have fin : ∀ (st5 : PSt) (b4 : Pos) (h' : Hp), st5.toks = st3.toks → jW st5 3 [62] = some (e, st4) → Sy J A [PD p s i3 st5] ((b4, some (.row .ex (tc b))) :: (b3, some (.row .ex (HR6 t 0 d))) :: (b2, some (.row .ex z)) :: L) h' →
   Ev (fun n => aHj (aI n) n (.p p 0) (.p b2 0) (.p b3 0) (.p b4 0) h') (NPostD I A L p s (.mk 11 t b.num ns [] []) st4) := by
   intro st5 b4 h' e5 he5 S5
   unfold aHj
   have T5 : TD J s i3 st5.toks := by rw [e5]; exact T4
   refine eAr (iL S5 T5 he5) ?_
   rintro _ _ ⟨rfl, i6, S6, T6⟩
   unfold HR6 at S6
   refine wf ?_; refine wl ?_; refine wf ?_; refine wu fun _ _ => ?_
   exact aYt g (dp) z1 z2 T6 N
  refine wf ?_; refine wl ?_
  refine eBj (fun e1 => ?_) (fun e1 => ?_)
  ·have e1' : 255 < b.num := e1
   rw [if_pos e1'] at he
   refine yt ?_; refine ws ?_
   refine eAr (iU (by assumption) hs b _) ?_
   rintro _ _ ⟨rfl, S5⟩
   exact fin _ _ _ (bJ _ _ _) he S5
  ·have e1' : ¬ 255 < b.num := e1
   rw [if_neg e1'] at he
   refine yj ?_
   exact fin _ _ _ rfl he (by assumption)
theorem aBp : ∀ (f j : Nat) (J : Im) (h : Hp) (i : Nat) (st : PSt) (t : List Nat) (d : DV) (l : List (List Nat)) (a : List Nat × List (List Nat)) (st' : PSt) (m : Int) (st2 : PSt), ILe I J → Sy J A [PD p s i st] ((b3, some (.row .ex (HR6 t 0 d))) :: (b2, some (.row .ex z)) :: L) h → z.length = 6 → (∀ v ∈ z, v.one = true) →
 TD J s i st.toks → SS J d l → l.length + f ≤ bG → aFq f t l st = some (a, st') → aEv st' = some (m, st2) →
 Ev (fun n => oI (aI n) n (n - j) (.p p 0) (.p b2 0) (.p b3 0) h) (NPostD I A L p s (.mk 11 a.1 m a.2 [] []) st2)
 | 0, j, J, h, i, st, t, d, l, a, st', m, st2, g, S, z1, z2, T, N, hl, hm, hp => by cases hm
 | f + 1, j, J, h, i, st, t, d, l, a, st', m, st2, g, S, z1, z2, T, N, hl, hm, hp => by
  unfold aFq at hm
  obtain ⟨c, hc, hm⟩ := aT hm
  have o1 := N.2.one
  have hs := T.one
  refine eAw j (ll := fun n m => oI (aI n) n m (.p p 0) (.p b2 0) (.p b3 0) h) (bb := fun n m => wZ (aI n) n (oI (aI n) n m) (.p p 0) (.p b2 0) (.p b3 0) h) (fun _ _ => rfl) ?_
  unfold wZ
  refine eAr (cM S T hc) ?_
  rintro _ _ ⟨rfl, S1⟩
  cases c with
  | false =>
   rw [if_neg (by simp)] at hm
   cases hm
   refine yj ?_
   exact aIt g S1 z1 z2 T N hp
  | true =>
   rw [if_pos rfl] at hm
   obtain ⟨⟨r, st1⟩, hr, hm⟩ := aT hm
   split at hm
   ·rename_i hlen
    obtain ⟨⟨l', st3⟩, hn, hm⟩ := aT hm
    have hlen' : t.length + r.text.length ≤ bG := hlen
    have hlim : bG = 100000000000 := rfl
    unfold HR6 at S1
    refine yt (wf ?_); refine wl ?_
    refine eAr (cG (by assumption) T hr) ?_
    rintro _ _ ⟨rfl, i1, S2, T2⟩
    refine Ev.cnd ?_ ?_
    ·rw [Bool.and_true]; exact dQ S2 (bX) rfl rfl (mZ _)
    refine wp ?_
    refine eAz (by omega) ?_
    refine wf ?_; refine wu fun _ _ => ?_; refine wf ?_; refine wl ?_
    refine eAr (pO (by assumption) T2 N (by omega) hn) ?_
    rintro v4 _ ⟨K, i4, g4, S4, T4, N4⟩
    have o4 := N4.2.one
    have hl' : l'.length = l.length + 1 := by
     unfold lN at hn
     obtain ⟨u, hu, hn⟩ := aT hn
     cases hn
     simp
    refine wf ?_; refine wu fun _ _ => ?_
    exact aBp f (j + 1) K _ i4 st3 (t ++ r.text) v4 l' a st' m st2 (g.trans g4) (by assumption) z1 z2 T4 N4 (by omega) hm hp
   ·cases hm
end
theorem cCe (f : Nat) (hf : f + 10 ≤ bG) : lC 44 (aQe f) := by
 intro I A L h p s i st x st' S T hm
 unfold aQe at hm
 obtain ⟨⟨a, st1⟩, ha, hm⟩ := aT hm
 obtain ⟨⟨m, st2⟩, hp, hm⟩ := aT hm
 cases hm
 have hs := T.one
 have hlim : bG = 100000000000 := rfl
 refine Ev.enter (fun n => cGu n _ h) ?_
 unfold s44
 refine wa fun _ _ _ => ?_
 unfold bGe
 refine wd ?_; refine wa fun _ _ _ => ?_; refine wt fun _ _ => ?_
 unfold bHi
 unfold bIx at ha
 obtain ⟨c, hc, ha⟩ := aT ha
 refine eAr (cM (by assumption) T hc) ?_
 rintro _ _ ⟨rfl, S1⟩
 unfold aKn
 cases c with
 | true =>
  rw [if_pos rfl] at ha
  obtain ⟨⟨r, st3⟩, hr, ha⟩ := aT ha
  cases ha
  refine yt ?_
  refine eAr (cG S1 T hr) ?_
  rintro _ _ ⟨rfl, i1, S2, T2⟩
  refine wp ?_; refine wf ?_; refine wu fun _ _ => ?_
  exact aIt (t := r.text) (d := .l0) (ILe.refl _) (by assumption) rfl (by first | assumption | exact bV _ | (repeat (first | exact aX | refine aU (by first | rfl | assumption | exact Fz.one (by assumption)) ?_))) T2 (SS.nil I) hp
 | false =>
  rw [if_neg (by simp)] at ha
  obtain ⟨c, hc, ha⟩ := aT ha
  refine yj ?_
  unfold aVj
  refine eAr (cM S1 T hc) ?_
  rintro _ _ ⟨rfl, S2⟩
  unfold aGl
  cases c with
  | true =>
   rw [if_pos rfl] at ha
   obtain ⟨⟨r, st3⟩, hr, ha⟩ := aT ha
   obtain ⟨⟨l', st4⟩, hn, ha⟩ := aT ha
   cases ha
   refine yt ?_
   refine eAr (cG S2 T hr) ?_
   rintro _ _ ⟨rfl, i1, S3, T3⟩
   refine wp ?_; refine wf ?_; refine wu fun _ _ => ?_
   refine eAr (pO (by assumption) T3 (SS.nil I) (by simp [bG]) hn) ?_
   rintro v4 _ ⟨K, i4, g4, S4, T4, N4⟩
   have o4 := N4.2.one
   refine wf ?_; refine wu fun _ _ => ?_
   exact aIt (t := r.text) (d := v4) g4 (by assumption) rfl (by first | assumption | exact bV _ | (repeat (first | exact aX | refine aU (by first | rfl | assumption | exact Fz.one (by assumption)) ?_))) T4 N4 hp
  | false =>
   rw [if_neg (by simp)] at ha
   obtain ⟨⟨r, st3⟩, hr, ha⟩ := aT ha
   obtain ⟨⟨l', st4⟩, hn, ha⟩ := aT ha
   refine yj ?_
   unfold aTo
   refine eAr (iL S2 T hr) ?_
   rintro _ _ ⟨rfl, i1, S3, T3⟩
   refine wp ?_; refine wf ?_; refine wu fun _ _ => ?_
   unfold aJs
   refine eAr (pO (by assumption) T3 (SS.nil I) (by simp [bG]) hn) ?_
   rintro v4 _ ⟨K, i4, g4, S4, T4, N4⟩
   have o4 := N4.2.one
   have hl' : l'.length = 1 := by
    unfold lN at hn
    obtain ⟨u, hu, hn⟩ := aT hn
    cases hn
    simp
   refine wf ?_; refine wu fun _ _ => ?_
   unfold aKd aVw
   exact aBp (f - 1) 0 K _ i4 st4 r.text v4 l' a st1 m st2 g4 (by assumption) rfl (by first | assumption | exact bV _ | (repeat (first | exact aX | refine aU (by first | rfl | assumption | exact Fz.one (by assumption)) ?_))) T4 N4 (by omega) ha hp
theorem bLo {I : Im} {A L : Ls} {h : Hp} (S : Sy I A [] L h) {s : List Nat} (hs : s.length ≤ bG) (g fl f : Nat) (hfl : fl ≤ bG) (hf : f + 10 ≤ bG)
 (lx : List Tok × Int × Int) (hl : qN g fl s = some lx) (res : Node × Int × Int) (hm : zO f lx = some res) :
 Ev (fun n => aI n 25 [.s s, .b true] h) (aSl I A L res) := by
 refine Ev.enter (fun n => cIx n _ _ h) ?_
 unfold s25
 unfold zO at hm
 refine wa fun _ _ _ => ?_
 unfold cYg
 refine eAr (cGo (by assumption) hs g fl hfl lx hl) ?_
 rintro _ h1 ⟨J, x1, rfl, g1, S1, T1⟩
 have o1 := T1.2.one
 refine wx ?_; refine wx ?_; refine wx ?_
 unfold cXe
 refine eBi (fun e1 => ?_) (fun e1 => ?_)
 ·rw [if_neg (show ¬ lx.2.2 = 0 from e1)] at hm
  cases hm
  refine yt ?_; refine wd ?_; refine wt fun _ _ => ?_; refine ws ?_
  exact eAs ⟨J, _, rfl, g1, dp, NV.flat _ _ _⟩
 ·rw [if_pos (show lx.2.2 = 0 from e1)] at hm
  split at hm
  ·rename_i hlen
   obtain ⟨⟨y, st1⟩, hy, hm⟩ := aT hm
   refine yj ?_
   unfold cXu
   refine wd ?_; refine wb fun _ _ _ => ?_
   rename_i p hp Sp
   have Sq := eEe Sp
   have Sq : Sy J A [PD p x1 0 ⟨lx.1, 0, 0, 0⟩] _ hp := Sq
   unfold cZj
   refine wd ?_; refine wa fun _ _ _ => ?_; refine wt fun _ _ => ?_
   unfold cZf
   refine yt ?_
   refine eAr (cCe f hf _ _ _ _ _ _ _ _ _ _ (by assumption) ⟨lx.1, T1, by simp, hlen⟩ hy) ?_
   rintro _ _ ⟨K, i2, cs, rfl, g2, S2, T2, N2⟩
   obtain ⟨k, tt, mm, ns, ts0, ks0⟩ := y
   obtain ⟨d1, d2, d3, rfl, a1, a2, a3, cells, F, NL⟩ := N2
   have q1 := a1.2.one
   have q2 := a2.2.one
   have q3 := F.one
   refine wt fun _ _ => ?_
   refine (bOv (I := K) (k := k) (tt := tt) (mm := mm) (ns := ns) (ts0 := ts0) (ks0 := ks0) f (by omega) (by assumption) rfl (by first | assumption | exact bV _ | (repeat (first | exact aX | refine aU (by first | rfl | assumption | exact Fz.one (by assumption)) ?_))) T2 a1 q2 q3 hm).mono ?_
   rintro v h' ⟨M, cs, e, g3, S3, N3⟩
   exact ⟨M, cs, e, (g1.trans g2).trans g3, S3, N3⟩
  ·cases hm
end Go.Dd

namespace Go.Dd
open Go.Proofs
theorem cQf (n : Nat) (x : DV) (h : Hp) : aI (n + 1) 39 [x] h = s39 (aI n) n x h := by kernel_rfl
theorem cMp (n : Nat) (x : DV) (h : Hp) : aI (n + 1) 41 [x] h = s41 (aI n) n x h := by kernel_rfl
theorem aMd (n : Nat) (x : DV) (h : Hp) : aI (n + 1) 42 [x] h = s42 (aI n) n x h := by kernel_rfl
theorem aGy {s : List Nat} (h : 58 ∈ s) : bW s = 3 := by
 unfold bW
 have := aKt 58 s 0
 rw [if_pos (by simpa [aG, h] using this)]
theorem bJx {s : List Nat} (h : 58 ∉ s) : bW s = (match s with
 | [] => 2
 | c :: _ => if wN c = true then 1 else 2) := by
 unfold bW
 have := aKt 58 s 0
 rw [if_neg (by simpa [aG, h] using this)]
 cases s <;> rfl
theorem aTt {s : List Nat} (hc : 58 ∉ s) (h : Hp) : Ev (fun n => gT (aI n) n (.s s) h) (fun v h' => v = .i .i64 (bW s : Int) ∧ h' = h) := by
 have ek := bJx hc
 unfold gT
 refine eBd ?_
 cases s with
 | nil =>
  refine eBj (fun e => ?_) (fun e => ?_)
  ·exact absurd e (by simp)
  ·refine yf (yf (yf (yf (yu (yu (yu (yf (yf (yu (yu (yu (yu (yu (yu (yu (yu (yf (aq (yj ?_)))))))))))))))))))
   exact eAs ⟨by rw [ek]; rfl, rfl⟩
 | cons c l =>
  have ei : bK (.s (c :: l)) (.i .i64 (Int.ofNat 0)) h = some (.i .u8 (c : Int), h) := by simp [bK]
  have k1 : ((97 ≤ c ∧ c ≤ 122) ∨ (65 ≤ c ∧ c ≤ 90)) → (bW (c :: l) : Int) = Int.ofNat 1 := fun hh => by rw [ek]; simp [aWz hh]
  have k2 : ¬ ((97 ≤ c ∧ c ≤ 122) ∨ (65 ≤ c ∧ c ≤ 90)) → (bW (c :: l) : Int) = Int.ofNat 2 := fun hh => by rw [ek]; simp [bCl hh]
  refine eBj (fun e => ?_) (fun e => ?_)
  ·refine zt (wm (zt ?_))
   refine Ev.op ei ?_
   refine zt ?_
   refine eBo (fun e1 => ?_) (fun e1 => ?_)
   ·have e1' : 97 ≤ c := by have h0 := e1; simp at h0; omega
    refine zt (wm (zt (wm (zt ?_))))
    refine Ev.op ei ?_
    refine zt ?_
    refine eCh (fun e2 => ?_) (fun e2 => ?_)
    ·have e2' : c ≤ 122 := by have h0 := e2; simp at h0; omega
     refine zt (ap (zt (wm (yg (yg (yg (yg (yu (yu (yu (yg (zt (ap (ap (yt ?_)))))))))))))))
     exact eAs ⟨by rw [k1 (by omega)], rfl⟩
    ·have e2' : ¬ c ≤ 122 := by have h0 := e2; simp at h0; omega
     refine zt (ap (zt (wm (zf (wm (zf ?_))))))
     refine Ev.op ei ?_
     refine zf ?_
     refine eBo (fun e3 => ?_) (fun e3 => ?_)
     ·refine zf (wm (zt (wm (zt ?_))))
      refine Ev.op ei ?_
      refine zt ?_
      refine eCh (fun e4 => ?_) (fun e4 => ?_)
      ·have e4' : c ≤ 90 := by have h0 := e4; simp at h0; omega
       omega
      ·refine zf (ap (zt (aq (ap (yj ?_)))))
       exact eAs ⟨by rw [k2 (by omega)], rfl⟩
     ·have e3' : ¬ 65 ≤ c := by have h0 := e3; simp at h0; omega
      omega
   ·have e1' : ¬ 97 ≤ c := by have h0 := e1; simp at h0; omega
    refine zt (wm (yf (yf (yf (zt (aq (zt (wm (zf (wm (zf ?_)))))))))))
    refine Ev.op ei ?_
    refine zf ?_
    refine eBo (fun e3 => ?_) (fun e3 => ?_)
    ·have e3' : 65 ≤ c := by have h0 := e3; simp at h0; omega
     refine zf (wm (zt (wm (zt ?_))))
     refine Ev.op ei ?_
     refine zt ?_
     refine eCh (fun e4 => ?_) (fun e4 => ?_)
     ·have e4' : c ≤ 90 := by have h0 := e4; simp at h0; omega
      refine zf (ap (zt (aq (ap (yt ?_)))))
      exact eAs ⟨by rw [k1 (by omega)], rfl⟩
     ·have e4' : ¬ c ≤ 90 := by have h0 := e4; simp at h0; omega
      refine zf (ap (zt (aq (ap (yj ?_)))))
      exact eAs ⟨by rw [k2 (by omega)], rfl⟩
    ·have e3' : ¬ 65 ≤ c := by have h0 := e3; simp at h0; omega
     refine zf (wm (yf (yf (yf (zf (aq (zt (aq (ap (yj ?_))))))))))
     exact eAs ⟨by rw [k2 (by omega)], rfl⟩
  ·exact absurd (show (Int.ofNat 0) < ((c :: l).length : Int) by simp) e
theorem aBg {s : List Nat} (hs : s.length ≤ bG) (h : Hp) : ∀ (r : List Nat) (i j : Nat), s.drop i = r → i ≤ s.length → 58 ∉ s.take i →
 Ev (fun n => oH (aI n) n (n - j) (.s s) (.i .i64 (i : Int)) h) (fun v h' => v = .i .i64 (bW s : Int) ∧ h' = h)
 | [], i, j, hr, hi, hc => by
  refine eAw j (ll := fun n p => oH (aI n) n p (.s s) (.i .i64 (i : Int)) h) (bb := fun n p => uJ (aI n) n (oH (aI n) n p) (.s s) (.i .i64 (i : Int)) h) (fun _ _ => rfl) ?_
  have hl : s.length ≤ i := List.drop_eq_nil_iff.1 hr
  unfold uJ
  refine eBd (eBa (fun e1 => absurd e1 (by omega)) (fun e1 => ?_))
  refine yj ?_
  rw [List.take_of_length_le hl] at hc
  exact aTt hc h
 | c :: r, i, j, hr, hi, hc => by
  refine eAw j (ll := fun n p => oH (aI n) n p (.s s) (.i .i64 (i : Int)) h) (bb := fun n p => uJ (aI n) n (oH (aI n) n p) (.s s) (.i .i64 (i : Int)) h) (fun _ _ => rfl) ?_
  have hx : s[i]? = some c := dA0 hr
  have hlt := (wV hx)
  have hr' : s.drop (i + 1) = r := dA1 hr
  unfold uJ
  refine eBd (eBa (fun e1 => ?_) (fun e1 => absurd (show (i : Int) < s.length by omega) e1))
  refine yt ?_
  refine Ev.op (iK hx _) ?_
  refine eAv (fun e2 => ?_) (fun e2 => ?_)
  ·refine yt ?_
   have e2' : c = 58 := by have h0 := e2; simp at h0; omega
   refine eAs ⟨?_, rfl⟩
   rw [aGy (by rw [← e2']; exact List.mem_of_getElem? hx)]
   rfl
  ·refine yj ?_
   refine eAx ?_
   rw [gC (by omega)]
   have e2' : ¬ c = 58 := fun h => e2 (by rw [h])
   refine aBg hs h r (i + 1) (j + 1) hr' (by omega) ?_
   rw [List.take_add_one, hx]
   simp
   exact ⟨hc, fun h => e2' h.symm⟩
theorem nA {s : List Nat} (hs : s.length ≤ bG) (h : Hp) : Ev (fun n => aI n 39 [.s s] h) (fun v h' => v = .i .i64 (bW s : Int) ∧ h' = h) := by
 refine Ev.enter (fun n => cQf n _ h) ?_
 unfold s39 aXu bCe bLv
 exact aBg hs h s 0 0 (by simp) (by omega) (by simp)
theorem aFu (c : Nat) : ∀ (acc l : List Nat), cA c acc l ≠ []
 | acc, [] => by simp [cA]
 | acc, x :: l => by
  unfold cA
  cases Nat.beq x c with
  | true => simp
  | false => exact aFu c (acc ++ [x]) l
section
variable {I : Im} {A Q L : Ls}
theorem pD {s : List Nat} (hs : s.length ≤ 1000000000) : ∀ (r : List Nat) (i j f : Nat) (B : Ls) (h : Hp) (x : DV) (out : List (List Nat)), s.drop i = r → i ≤ s.length → f ≤ i → out.length ≤ i → Sy I (B ++ A) Q L h → Gr I 1 B x out.length (out.map .s) →
 Ev (fun n => nH (aI n) n (n - j) (.s s) x (.i .i64 (f : Int)) (.i .i64 (i : Int)) h) (fun v h' => ∃ J, ILe I J ∧ Sy J A Q L h' ∧ SS J v (out ++ (cA 58 ((s.take i).drop f) r).dropLast))
 | [], i, j, f, B, h, x, out, hr, hi, hf, ho, S, G => by
  refine eAw j (ll := fun n p => nH (aI n) n p (.s s) x (.i .i64 (f : Int)) (.i .i64 (i : Int)) h) (bb := fun n p => uK (aI n) n (nH (aI n) n p) (.s s) x (.i .i64 (f : Int)) (.i .i64 (i : Int)) h) (fun _ _ => rfl) ?_
  have hl : s.length ≤ i := List.drop_eq_nil_iff.1 hr
  unfold uK
  refine eBd (eBa (fun e1 => absurd e1 (by omega)) (fun e1 => ?_))
  refine yj ?_
  unfold iG
  obtain ⟨J, gJ, S3, F3⟩ := G.freeze S
  refine eAs ⟨J, gJ, S3, ?_⟩
  simp only [cA, List.dropLast_singleton, List.append_nil]
  exact ⟨by simp [bG]; omega, F3⟩
 | c :: r, i, j, f, B, h, x, out, hr, hi, hf, ho, S, G => by
  refine eAw j (ll := fun n p => nH (aI n) n p (.s s) x (.i .i64 (f : Int)) (.i .i64 (i : Int)) h) (bb := fun n p => uK (aI n) n (nH (aI n) n p) (.s s) x (.i .i64 (f : Int)) (.i .i64 (i : Int)) h) (fun _ _ => rfl) ?_
  have hx : s[i]? = some c := dA0 hr
  have hlt := (wV hx)
  have hr' : s.drop (i + 1) = r := dA1 hr
  have hlim : bG = 100000000000 := rfl
  have htk : (s.take (i + 1)).drop f = (s.take i).drop f ++ [c] := by
   rw [List.take_add_one, hx, List.drop_append_of_le_length (by simp; omega)]
   rfl
  unfold uK
  refine eBd (eBa (fun e1 => ?_) (fun e1 => absurd (show (i : Int) < s.length by omega) e1))
  refine yt ?_
  unfold cZa
  refine Ev.op (iK hx _) ?_
  refine eAv (fun e2 => ?_) (fun e2 => ?_)
  ·refine yt ?_
   have e2' : c = 58 := by have h0 := e2; simp at h0; omega
   refine eAx ?_
   rw [gC (by omega)]
   refine Ev.op (wT (a := f) (b := i + 1) (by omega) (by omega) _) ?_
   rw [htk]
   refine eBm S (cs := [.s ((s.take i).drop f ++ [c])]) rfl ?_
   intro b2 h9 S9
   obtain ⟨x4, h4, B4, e4, S4, G4⟩ := lI G S9 (bX) (by omega)
   refine Ev.op e4 ?_
   refine eAx ?_
   rw [gC (by omega)]
   unfold bIy
   refine eAx ?_
   rw [gC (by omega)]
   have := pD hs r (i + 1) (j + 1) (i + 1) B4 h4 x4 (out ++ [(s.take i).drop f ++ [c]]) hr' (by omega) (by omega) (by simp; omega) S4.dropL G4
   have e6 : (cA 58 ((s.take i).drop f) (c :: r)).dropLast = ((s.take i).drop f ++ [c]) :: (cA 58 [] r).dropLast := by
    rw [e2']
    show ((List.drop f (List.take i s) ++ [58]) :: cA 58 [] r).dropLast = _
    rw [List.dropLast_cons_of_ne_nil (aFu 58 [] r)]
   have e7 : (s.take (i + 1)).drop (i + 1) = [] := List.drop_eq_nil_of_le (by simp; omega)
   rw [e6]
   rw [e7] at this
   simpa [aG] using this
  ·refine yj ?_
   have e2' : ¬ c = 58 := fun h => e2 (by rw [h])
   unfold bIy
   refine eAx ?_
   rw [gC (by omega)]
   have := pD hs r (i + 1) (j + 1) f B h x out hr' (by omega) (by omega) (by omega) S G
   have e6 : cA 58 ((s.take i).drop f) (c :: r) = cA 58 ((s.take i).drop f ++ [c]) r := by
    conv => lhs; unfold cA
    rw [show Nat.beq c 58 = false from by cases e9 : Nat.beq c 58 with | false => rfl | true => exact absurd (Nat.eq_of_beq_eq_true e9) e2']
    rfl
   rw [e6, ← htk]
   exact this
theorem aEm {h : Hp} {s : List Nat} (hs : s.length ≤ 1000000000) (S : Sy I A Q L h) : Ev (fun n => aI n 41 [.s s] h) (fun v h' => ∃ J, ILe I J ∧ Sy J A Q L h' ∧ SS J v (cK s)) := by
 refine Ev.enter (fun n => cMp n _ h) ?_
 unfold s41 bCs bCv aZa bBp bVw
 have := pD (I := I) (A := A) (Q := Q) (L := L) hs s 0 0 0 [] h .l0 [] (by simp) (by omega) (by omega) (by simp) S (Gr.nil I 1)
 simpa [aG, cK] using this
end
theorem hC (f n : Nat) (acc : List Nat) : fA (f + 1) n acc = if 10 ≤ n then fA f (n / 10) ((48 + n % 10) :: acc) else (48 + n) :: acc := by
 show (bif Nat.ble 10 n then fA f (Nat.div n 10) (Nat.add 48 (Nat.mod n 10) :: acc) else Nat.add 48 n :: acc) = _
 by_cases h : 10 ≤ n
 ·rw [Nat.ble_eq_true_of_le h, if_pos h]
  rfl
 ·rw [if_neg h]
  cases e : Nat.ble 10 n with
  | true => exact absurd (Nat.le_of_ble_eq_true e) h
  | false => rfl
theorem aFj : ∀ (f n : Nat) (acc : List Nat), n < 10 ^ (f + 1) → fA (f + 1) n acc = fA (f + 2) n acc
 | 0, n, acc, h => by
  rw [hC, hC, if_neg (by omega), if_neg (by omega)]
 | f + 1, n, acc, h => by
  rw [hC, hC (f + 2)]
  by_cases hn : 10 ≤ n
  ·rw [if_pos hn, if_pos hn]
   exact aFj f _ _ (by rw [Nat.pow_succ] at h; omega)
  ·rw [if_neg hn, if_neg hn]
theorem aBw : ∀ (f n : Nat) (acc : List Nat), fA f n acc = fA f n [] ++ acc ∨ f = 0
 | 0, n, acc => .inr rfl
 | f + 1, n, acc => by
  left
  rw [hC, hC f n []]
  by_cases hn : 10 ≤ n
  ·rw [if_pos hn, if_pos hn]
   rcases aBw f (n / 10) ((48 + n % 10) :: acc) with h1 | h1
   ·rcases aBw f (n / 10) [48 + n % 10] with h2 | h2
    ·rw [h1, h2]; simp
    ·subst h2; simp [fA]
   ·subst h1; simp [fA]
  ·rw [if_neg hn, if_neg hn]; rfl
def dg (n : Nat) : List Nat := fA 20 n []
theorem aAv {n : Nat} (h : n < 10) : dg n = [48 + n] := by
 unfold dg
 rw [hC, if_neg (by omega)]
theorem bXc {n : Nat} (h : 10 ≤ n) (h2 : n < 10 ^ 20) : dg n = dg (n / 10) ++ [48 + n % 10] := by
 unfold dg
 rw [hC, if_pos h]
 rcases aBw 19 (n / 10) [48 + n % 10] with h1 | h1
 ·rw [h1]
  congr 1
  exact aFj 18 _ _ (by omega)
 ·omega
theorem aVk (x : Int) (h0 : -9223372036854775808 ≤ x) (h1 : x ≤ 9223372036854775807) : -9223372036854775808 ≤ x.tdiv 10 ∧ x.tdiv 10 ≤ 9223372036854775807 := by
 obtain ⟨m, rfl | rfl⟩ := Int.eq_nat_or_neg x
 ·rw [Int.tdiv_eq_ediv_of_nonneg (by omega)]
  omega
 ·rw [Int.neg_tdiv, Int.tdiv_eq_ediv_of_nonneg (by omega)]
  omega
theorem cWg (x : Int) (h0 : -9223372036854775808 ≤ x) (h1 : x ≤ 9223372036854775807) (h : Hp) : aH .quo (.i .i64 x) (.i .i64 (Int.ofNat 10)) h = some (.i .i64 (x.tdiv 10), h) := by
 refine gF .quo _ ?_
 show (if Int.ofNat 10 = 0 then none else some (DV.i .i64 (IntKind.i64.wrap (x.tdiv (Int.ofNat 10))))) = _
 rw [if_neg (by decide)]
 show some (DV.i .i64 (IntKind.i64.wrap (x.tdiv 10))) = _
 have := aVk x h0 h1
 rw [dW _ (by omega) (by omega)]
theorem cXt (x : Int) (h : Hp) : aH .rem (.i .i64 x) (.i .i64 (Int.ofNat 10)) h = some (.i .i64 (x.tmod 10), h) := by
 refine gF .rem _ ?_
 show (if Int.ofNat 10 = 0 then none else some (DV.i .i64 (x.tmod (Int.ofNat 10)))) = _
 rw [if_neg (by decide)]
 rfl
theorem cXz {n : Nat} (h : n < 256) (hp : Hp) : lB .u8 (.i .i64 (n : Int)) hp = some (.i .u8 (n : Int), hp) := by
 show some (DV.i .u8 (IntKind.u8.wrap (n : Int)), hp) = _
 have : IntKind.u8.wrap (n : Int) = (n : Int) := by
  unfold IntKind.wrap
  simp [IntKind.bits, IntKind.signed, IntKind.min, IntKind.max]
  omega
 rw [this]
theorem bYz {I : Im} {A Q L : Ls} {h : Hp} {b : Pos} {n : Nat} (S : Sy I A Q ((b, some (.row .ex [.i .u8 (n : Int)])) :: L) h) (hn : n < 256) : pB (.l b 0 1 1) h = some (.s [n], h) := by
 have hg := S.memL (bX)
 have e : eE b 0 1 h = some [.i .u8 (n : Int)] := by
  simp [eE, mR, hg, jY, DV.one]
 have e2 : sX [.i .u8 (n : Int)] = some [n] := by
  show (if n < 256 then (sX []).map (n :: ·) else none) = some [n]
  rw [if_pos hn]
  rfl
 simp only [pB, e, e2]
section
variable {I : Im} {A Q L : Ls}
theorem nR {h : Hp} (S : Sy I A Q L h) {n : Nat} (hn : n < 10) : Ev (fun k => aI k 42 [.i .i64 (n : Int)] h) (fun v h' => v = .s (dg n) ∧ Sy I A Q L h') := by
 refine Ev.enter (fun n => aMd n _ h) ?_
 unfold s42 aEx
 refine eBo (fun e1 => ?_) (fun e1 => absurd (show (n : Int) ≥ Int.ofNat 0 by simp) e1)
 refine zt (wm (zt ?_))
 refine eBa (fun e2 => ?_) (fun e2 => absurd (show (n : Int) < Int.ofNat 10 by simp; omega) e2)
 refine ap (yt ?_)
 refine eAx ?_
 have e3 : IntKind.i64.wrap (Int.ofNat 48 + (n : Int)) = ((48 + n : Nat) : Int) := by
  rw [dW _ (by simp; omega) (by simp; omega)]
  simp
 rw [e3]
 refine Ev.op (cXz (by omega) _) ?_
 refine eBm S (cs := [.i .u8 ((48 + n : Nat) : Int)]) rfl ?_
 intro b h2 S2
 refine Ev.op (bYz S2 (by omega)) ?_
 exact eAs ⟨by rw [aAv hn], S2.dropL⟩
theorem aCt : ∀ (f n : Nat) (h : Hp), n < 10 ^ f → n ≤ 9223372036854775807 → Sy I A Q L h → Ev (fun k => aI k 42 [.i .i64 (n : Int)] h) (fun v h' => v = .s (dg n) ∧ Sy I A Q L h')
 | 0, n, h, hn, hm, S => nR S (by simp at hn; omega)
 | f + 1, n, h, hn, hm, S => by
  by_cases h10 : n < 10
  ·exact nR S h10
  refine Ev.enter (fun n => aMd n _ h) ?_
  unfold s42 aEx
  refine eBo (fun e1 => ?_) (fun e1 => absurd (show (n : Int) ≥ Int.ofNat 0 by simp) e1)
  refine zt (wm (zt ?_))
  refine eBa (fun e2 => absurd e2 (by simp; omega)) (fun e2 => ?_)
  refine ap (yj ?_)
  unfold aPp
  refine eBj (fun e3 => ?_) (fun e3 => absurd (show (Int.ofNat 0) < (n : Int) by simp; omega) e3)
  refine yt ?_
  refine Ev.op (cWg _ (by omega) (by omega) _) ?_
  have eq : (n : Int).tdiv 10 = ((n / 10 : Nat) : Int) := by
   rw [Int.tdiv_eq_ediv_of_nonneg (by omega)]
   omega
  rw [eq]
  refine eAr (aCt f (n / 10) h (by rw [Nat.pow_succ] at hn; omega) (by omega) S) ?_
  rintro _ h3 ⟨rfl, S3⟩
  refine Ev.op (cXt _ _) ?_
  have er : (n : Int).tmod 10 = ((n % 10 : Nat) : Int) := by
   rw [Int.tmod_eq_emod_of_nonneg (by omega)]
   omega
  rw [er]
  refine eAr (nR S3 (by omega)) ?_
  rintro _ h4 ⟨rfl, S4⟩
  have hl : ∀ m, (dg m).length ≤ 20 := fun m => by
   have := uA 20 m []
   simpa [aG, dg] using this
  refine eAz (by have := hl (n / 10); have := hl (n % 10); omega) ?_
  refine eAs ⟨?_, S4⟩
  rw [aAv (n := n % 10) (by omega), ← bXc (by omega) (by omega)]
theorem aBa : ∀ (f m : Nat) (h : Hp) (j : Nat) (acc : List Nat), m < 10 ^ f → 0 < m → m ≤ 9223372036854775808 → acc.length + f ≤ 1000 → f ≤ 20 → Sy I A Q L h →
 Ev (fun k => nW (aI k) k (k - j) (.i .i64 (-(m : Int))) (.s acc) h) (fun v h' => v = .s (45 :: (fA 20 m [] ++ acc)) ∧ Sy I A Q L h')
 | 0, m, h, j, acc, hm, h0, h1, ha, hf, S => by simp at hm; omega
 | f + 1, m, h, j, acc, hm, h0, h1, ha, hf, S => by
  refine eAw j (ll := fun k p => nW (aI k) k p (.i .i64 (-(m : Int))) (.s acc) h) (bb := fun k p => uU (aI k) k (nW (aI k) k p) (.i .i64 (-(m : Int))) (.s acc) h) (fun _ _ => rfl) ?_
  unfold uU
  refine eBa (fun e1 => ?_) (fun e1 => absurd (show (-(m : Int)) < Int.ofNat 0 by simp; omega) e1)
  refine yt ?_
  refine Ev.op (cXt _ _) ?_
  have er : (-(m : Int)).tmod 10 = -((m % 10 : Nat) : Int) := by
   rw [Int.neg_tmod, Int.tmod_eq_emod_of_nonneg (by omega)]
   omega
  rw [er]
  refine eBq ?_
  have e3 : IntKind.i64.wrap (Int.ofNat 48 - -((m % 10 : Nat) : Int)) = ((48 + m % 10 : Nat) : Int) := by
   have e4 : Int.ofNat 48 = 48 := rfl
   rw [e4, dW _ (by omega) (by omega)]
   omega
  rw [e3]
  refine Ev.op (cXz (by omega) _) ?_
  refine eBm S (cs := [.i .u8 ((48 + m % 10 : Nat) : Int)]) rfl ?_
  intro b h2 S2
  refine Ev.op (bYz S2 (by omega)) ?_
  refine eAz (by simp; omega) ?_
  refine Ev.op (cWg _ (by omega) (by omega) _) ?_
  have eq : (-(m : Int)).tdiv 10 = -((m / 10 : Nat) : Int) := by
   rw [Int.neg_tdiv, Int.tdiv_eq_ediv_of_nonneg (by omega)]
   omega
  rw [eq]
  by_cases h10 : m < 10
  ·have ez : m / 10 = 0 := by omega
   rw [ez]
   refine eAw (j + 1) (ll := fun k p => nW (aI k) k p (.i .i64 (-((0 : Nat) : Int))) (.s ([48 + m % 10] ++ acc)) h2) (bb := fun k p => uU (aI k) k (nW (aI k) k p) (.i .i64 (-((0 : Nat) : Int))) (.s ([48 + m % 10] ++ acc)) h2) (fun _ _ => rfl) ?_
   unfold uU
   refine eBa (fun e4 => absurd e4 (by simp)) (fun e4 => ?_)
   refine yj ?_
   unfold jI
   refine eAz (by simp; omega) ?_
   refine eAs ⟨?_, S2.dropL⟩
   have := aAv h10
   unfold dg at this
   rw [this]
   simp
   omega
  ·refine (aBa f (m / 10) h2 (j + 1) ([48 + m % 10] ++ acc) (by rw [Nat.pow_succ] at hm; omega) (by omega) (by omega) (by simp; omega) (by omega) S2.dropL).mono ?_
   rintro v h' ⟨rfl, S5⟩
   refine ⟨?_, S5⟩
   have := bXc (n := m) (by omega) (by omega)
   unfold dg at this
   rw [this]
   simp
theorem aFs {h : Hp} (S : Sy I A Q L h) {m : Int} (h0 : -9223372036854775808 ≤ m) (h1 : m ≤ 9223372036854775807) : Ev (fun n => aI n 42 [.i .i64 m] h) (fun v h' => v = .s (jT m) ∧ Sy I A Q L h') := by
 cases m with
 | ofNat n => exact aCt 20 n h (by simp at h1; omega) (by simp at h1; omega) S
 | negSucc n =>
  have e0 : Int.negSucc n = -((n + 1 : Nat) : Int) := rfl
  rw [e0] at h0 ⊢
  refine Ev.enter (fun n => aMd n _ h) ?_
  unfold s42 aEx
  refine eBo (fun e1 => absurd e1 (by have e4 : Int.ofNat 0 = 0 := rfl; omega)) (fun e1 => ?_)
  refine yf (yf (aq (yj ?_)))
  unfold aPp
  refine eBj (fun e3 => absurd e3 (by have e4 : Int.ofNat 0 = 0 := rfl; omega)) (fun e3 => ?_)
  refine yj ?_
  unfold bHe bJf bYx
  refine (aBa 20 (n + 1) h 0 [] (by omega) (by omega) (by omega) (by simp) (by omega) S).mono ?_
  rintro v h' ⟨rfl, S5⟩
  refine ⟨?_, S5⟩
  show DV.s (45 :: (fA 20 (n + 1) [] ++ [])) = DV.s (45 :: fA 20 (Nat.succ n) [])
  simp
end
end Go.Dd

