/- A part of the proof: P9 P10 P11 P12 P13 P14 P15 P16 Z2 B1 B2 B3 Y1 Y2 Y3 Y4 B4 B5 Z5 B6 P17 P18 P19 RW P30 P31 P32 P33 P34 P25 P35 P36 P37 P38 P39 P40 P41 P42 P43 P44: each text has a comment of its own. -/
import Derived.Test.YtliejomdaookoaaGreatDoorSr2
import Derived.Test.YtliejomdaookoaaGreatDoorRows
import Derived.Test.YtliejomdaookoaaGreatDoorCards
import Derived.Test.YtliejomdaookoaaGreatDoorTie
import Derived.WalkKit
import Derived.ProofKit
import Derived.OpenShut
import Derived.Carry
import Derived.Lib.LaidU8
import Derived.Lay
import Derived.LaidOnce
import Derived.SevenTiedAt
import Derived.ChangeMaps5
set_option linter.unusedVariables false
set_option linter.unusedSimpArgs false
set_option linter.constructorNameAsVariable false
set_option maxRecDepth 100000
namespace Go.Dd
open Go.Proofs
theorem aOd (a b : Node) (r : List Node) : jR (qH (a :: b :: r)) = fP (nf b).t (dP (a :: b.kids)) ++ aF [] (r.map eU) := by
 obtain ⟨k, t, m, ns, ts, ks⟩ := b
 obtain ⟨q1, q2⟩ := aRl k m t ns ts ks
 have e : ((qH r).map fun x => 59 :: 32 :: aR x.t x.ks) = r.map eU := by
  rw [qF, List.map_map]
  rfl
 simp only [qH, jR, e, q1]
 rfl
section
variable {I : Im} {A Q L : Ls} {h : Hp} {s : DV} {ks : List Node}
theorem aOa (S : Sy I A Q L h) (N : NS I s ks) (T : ∀ x ∈ ks, kQ x) (K : ∀ x ∈ ks, (∀ y ∈ x.kids, kQ y) ∧ x.text.length ≤ 1000000000 ∧ x.kids.length + 1 ≤ bQ) (hl : (jR (qH ks)).length ≤ 100000000000) :
 Ev (fun n => aI n 62 [s] h) (fun v h' => v = .s (jR (qH ks)) ∧ Sy I A Q L h') := by
 refine Ev.enter (fun n => bAp n _ h) ?_
 unfold s62
 refine Ev.op (N.len _) ?_
 refine cAa (fun e1 => ?_) (fun e1 => ?_)
 ·refine cAs ?_
  refine bZg ⟨?_, S⟩
  match ks, e1 with
  | [], _ => rfl
  | [_], _ => rfl
  | _ :: _ :: _, e1 => simp at e1; omega
 ·match ks, N, T, K, hl, e1 with
  | [], _, _, _, _, e1 => simp at e1
  | [_], _, _, _, _, e1 => simp at e1
  | a :: b :: r, N, T, K, hl, e1 =>
   rw [aOd] at hl ⊢
   simp only [List.length_append] at hl
   refine cAg ?_
   obtain ⟨p0, o0, ca, ei0, Na, el0⟩ := N.at (i := 0) (x := a) rfl
   obtain ⟨p1, o1, cb, ei1, Nb, el1⟩ := N.at (i := 1) (x := b) rfl
   have Sr := S.res
   obtain ⟨c1, c2, _⟩ := Na.shape
   obtain ⟨kb, tb, mb, nsb, tsb, ksb⟩ := b
   obtain ⟨K1, K2, K3⟩ := K (.mk kb tb mb nsb tsb ksb) (by simp)
   obtain ⟨q1, q2⟩ := aRl kb mb tb nsb tsb ksb
   rw [q2] at hl ⊢
   have hl' : (fP tb (dP (a :: ksb))).length + (aF [] (r.map eU)).length ≤ 100000000000 := hl
   obtain ⟨s1, s2, s3, rfl, ya, yb, yc, cells, F, NL⟩ := Nb
   have N3 : NS I s3 ksb := ⟨yc, cells, F, NL⟩
   refine Ev.op (ei0 _) ?_
   refine Ev.op (el0 _ _ _ _ _ (ILe.refl _) Sr) ?_
   refine bZz Sr (Rpl.head _) (lW c1) ?_
   intro h4 S4
   refine Ev.op (ei1 _) ?_
   refine cAl ?_
   refine Ev.op (aAq (j := 5) (el1 _ _ _ _ _ (ILe.refl _) S4) rfl) ?_
   refine Ev.cnd ?_ ?_
   ·rw [aAq (j := 5) (el1 _ _ _ _ _ (ILe.refl _) Sr) rfl]
    have : DV.beq s3 s3 = true := F.beq
    simp [bX, this]
   obtain ⟨x9, h9, J, e9, g9, S9, N9⟩ := aQl S4 Na N3 K3
   refine Ev.op e9 ?_
   obtain ⟨s', er, N'⟩ := N.restA (i := 2) (by simp) (by simp)
   refine Ev.op (er _ _ _ _ (S9.weak g9)) ?_
   refine bZe (uI (g := eU) (sep := []) S9 (N'.mono g9) (fun x hx => ?_) (by simpa using (by omega : (aF [] (r.map eU)).length ≤ 100000000000))) ?_
   ·have hx' : x ∈ r := by simpa using hx
    obtain ⟨k1, k2, _⟩ := K x (by simp [hx'])
    exact bTb k1 k2
   rintro _ h11 ⟨rfl, S11⟩
   refine Ev.op (ei1 _) ?_
   refine cAl ?_
   refine Ev.op (aAq (j := 1) (el1 _ _ _ _ _ g9 S11) rfl) ?_
   refine bZe (wJ S11 N9 (fun x hx => ?_) K2 (by omega)) ?_
   ·rcases List.mem_cons.1 hx with rfl | hx
    ·exact T _ (by simp)
    ·exact K1 x hx
   rintro _ h15 ⟨rfl, S15⟩
   have ed : (List.drop 2 (a :: Node.mk kb tb mb nsb tsb ksb :: r)) = r := rfl
   rw [ed]
   refine cAb S15 (cs := [.s (fP tb (dP (a :: ksb))), .s (aF [] (r.map eU))]) (by simp [cM, cF]) ?_
   intro b2 h16 S16
   refine bZe (eC [fP tb (dP (a :: ksb)), aF [] (r.map eU)] S16 (eG) rfl (by simp [aF]; omega) (by simp)) ?_
   rintro _ _ ⟨rfl, rfl⟩
   refine bZg ⟨?_, S16.dropL.weak g9⟩
   simp [aF, Node.kids]
end
end Go.Dd

namespace Go.Dd
open Go.Proofs
theorem aJa {m : Int} (h0 : -9223372036854775808 ≤ m) (h1 : m ≤ 9223372036854775807) (h : Hp) : tJ [.i .i64 m] h = some (.s (fN m), h) := by
 show (bif decide (-9223372036854775808 ≤ m) && decide (m ≤ 9223372036854775807) then some (DV.s (fN m), h) else none) = _
 simp [h0, h1]
theorem bHs {t : List Nat} (ht : t.length ≤ 1000000000) (h : Hp) : xC [.s t, .s [39], .s [39, 39]] h = some (.s (dC 39 [39, 39] t), h) := by
 have e1 : Nat.ble t.length 4000000000 = true := Nat.ble_eq_true_of_le (by omega)
 show (bif Nat.blt 39 256 then (bif Nat.ble t.length 4000000000 then (bif Nat.ble [39, 39].length 1000 then some (DV.s (dC 39 [39, 39] t), h) else none) else none) else none) = _
 rw [e1]
 rfl
theorem bKg (ks : List Node) : (qH ks).map Nf.tx = gG ks ∧ (qH ks).map Nf.ht = dP ks := by
 rw [qF]
 simp [gG, dP]
end Go.Dd

namespace Go.Dd
open Go.Proofs
section
variable {I : Im} {A Q L : Ls} {s1 y : DV} {ns : List (List Nat)} {P : DV → Hp → Prop}
theorem aIj (N : SS I s1 ns) : ∀ (r : List (List Nat)) (i j : Nat) (h : Hp) (acc : List Nat), ns.drop i = r → Sy I A Q L h → (acc ++ bG r).length ≤ 100000000000 →
 (∀ h, Sy I A Q L h → Ev (fun n => eB (aI n) n y (.s (acc ++ bG r)) h) P) →
 Ev (fun n => jB (aI n) n (n - j) y (.s acc) s1 (.i .i64 (ns.length : Int)) (.i .i64 (i : Int)) h) P
 | [], i, j, h, acc, hr, S, hl, fin => by
  refine bZl j (ll := fun n m => jB (aI n) n m y (.s acc) s1 (.i .i64 (ns.length : Int)) (.i .i64 (i : Int)) h) (bb := fun n m => mU (aI n) n (jB (aI n) n m) y (.s acc) s1 (.i .i64 (ns.length : Int)) (.i .i64 (i : Int)) h) (fun _ _ => rfl) ?_
  unfold mU
  have hle : ns.length ≤ i := List.drop_eq_nil_iff.1 hr
  refine cAa (fun e1 => absurd e1 (by omega)) (fun e1 => ?_)
  refine cAg ?_
  have := fin h S
  simpa [aJ, bG] using this
 | p :: r, i, j, h, acc, hr, S, hl, fin => by
  refine bZl j (ll := fun n m => jB (aI n) n m y (.s acc) s1 (.i .i64 (ns.length : Int)) (.i .i64 (i : Int)) h) (bb := fun n m => mU (aI n) n (jB (aI n) n m) y (.s acc) s1 (.i .i64 (ns.length : Int)) (.i .i64 (i : Int)) h) (fun _ _ => rfl) ?_
  unfold mU
  have hlim : ns.length ≤ bQ := N.1
  have hi' : i < ns.length := by
   rcases Nat.lt_or_ge i ns.length with h | h
   ·exact h
   ·rw [List.drop_eq_nil_of_le h] at hr; cases hr
  have hx : ns[i]? = some p := by
   have : (ns.drop i)[0]? = some p := by rw [hr]; rfl
   simpa [aJ] using this
  have hr2 : ns.drop (i + 1) = r := by
   have := jI hx
   rw [hr] at this
   simpa [aJ] using this.symm
  refine cAa (fun e1 => ?_) (fun e1 => absurd (show (i : Int) < ns.length by omega) e1)
  refine cAs ?_
  obtain ⟨b, o, ei, el⟩ := N.at S hx
  refine Ev.op (ei _) ?_
  refine Ev.op el ?_
  refine cAb S (cs := [.s acc, .s [58], .s p, .s [32]]) (by simp [cM, cF]) ?_
  intro b1 h7 S7
  have hl' : acc.length + (p.length + (bG r).length) ≤ 100000000000 - 2 := by simp [bG] at hl; omega
  refine bZe (eC [acc, [58], p, [32]] S7 (eG) rfl (by simp [aF]; omega) (by simp)) ?_
  rintro _ _ ⟨rfl, rfl⟩
  have ej : aF [] [acc, [58], p, [32]] = acc ++ (58 :: (p ++ [32])) := by simp [aF]
  rw [ej]
  refine bZo ?_
  rw [rB (by omega)]
  have ea : (acc ++ (58 :: (p ++ [32]))) ++ bG r = acc ++ bG (p :: r) := by simp [bG]
  exact aIj N r (i + 1) (j + 1) _ (acc ++ (58 :: (p ++ [32]))) hr2 S7.dropL (by rw [ea]; exact hl) (fun h S => by rw [ea]; exact fin h S)
end
end Go.Dd

namespace Go.Dd
open Go.Proofs
theorem aOm {k m : Int} {t : List Nat} {ns ts : List (List Nat)} {ks : List Node} (T : ∀ y ∈ ks, kQ y) (K : ∀ z ∈ ks, (∀ y ∈ z.kids, kQ y) ∧ z.text.length ≤ 1000000000 ∧ z.kids.length + 1 ≤ bQ)
 (hs : t.length ≤ 1000000000) (hm0 : -9223372036854775808 ≤ m) (hm1 : m ≤ 9223372036854775807) : kQ (.mk k t m ns ts ks) := by
 intro I A Q L h cs S N hl
 have N0 := N
 obtain ⟨etx, eht⟩ := bKg ks
 have ex : (nf (.mk k t m ns ts ks)).tx = vT k t m ns ts (qH ks) := by simp [nf]
 rw [ex] at hl ⊢
 refine Ev.enter (fun n => bAy n _ h) ?_
 unfold s36
 obtain ⟨s1, s2, s3, rfl, a, b, c, cells, F, NL⟩ := N
 have N3 : NS I s3 ks := ⟨c, cells, F, NL⟩
 have o1 := a.2.one
 have o2 := b.2.one
 have o3 := F.one
 refine Ev.box S rfl ?_
 intro b1 h1 S1
 unfold aHo
 refine wf ?_; refine wl ?_
 unfold aLl
 unfold vT at hl ⊢
 refine bZj (fun e1 => ?_) (fun e1 => ?_)
 ·replace e1 : k = 1 := e1
  rw [if_pos e1] at hl ⊢
  unfold aDa
  refine yt (wf ?_); refine wl ?_
  refine Ev.op (aJa hm0 hm1 _) ?_
  exact bZg ⟨rfl, S1.dropL⟩
 replace e1 : ¬ k = 1 := e1
 rw [if_neg e1] at hl ⊢
 unfold aDa aUb
 refine cAg ?_
 refine bZj (fun e2 => ?_) (fun e2 => ?_)
 ·replace e2 : k = 2 := e2
  rw [if_pos e2] at hl ⊢
  unfold aEj
  refine yt (wf ?_); refine wl ?_
  refine Ev.op (bHs hs _) ?_
  refine cAb S1 (cs := [.s [39], .s (dC 39 [39, 39] t), .s [39]]) (by simp [cM, cF]) ?_
  intro b2 h2 S2
  refine bZe (eC [[39], dC 39 [39, 39] t, [39]] S2 (eG) rfl (by simp [aF] at hl ⊢; omega) (by simp)) ?_
  rintro _ _ ⟨rfl, rfl⟩
  refine bZg ⟨?_, S2.dropL.dropL⟩
  simp [aF]
 replace e2 : ¬ k = 2 := e2
 rw [if_neg e2] at hl ⊢
 unfold aEj aWb
 refine cAg ?_
 refine bZj (fun e3 => ?_) (fun e3 => ?_)
 ·replace e3 : k = 3 := e3
  rw [if_pos e3] at hl ⊢
  unfold aDi
  refine yt (wf ?_); refine wl ?_
  refine cAb S1 (cs := [.s [35], .s t]) (by simp [cM, cF]) ?_
  intro b2 h2 S2
  refine bZe (eC [[35], t] S2 (eG) rfl (by simp [aF] at hl ⊢; omega) (by simp)) ?_
  rintro _ _ ⟨rfl, rfl⟩
  refine bZg ⟨?_, S2.dropL.dropL⟩
  simp [aF]
 replace e3 : ¬ k = 3 := e3
 rw [if_neg e3] at hl ⊢
 unfold aDi aSl
 refine cAg ?_
 refine bZj (fun e4 => ?_) (fun e4 => ?_)
 ·replace e4 : k = 4 := e4
  rw [if_pos e4, etx] at hl ⊢
  unfold tZ
  refine yt (wf ?_); refine wl ?_
  refine bZe (uI (sep := [32]) S1 N3 (fun x hx => HowOk.text (T x hx)) (by simp only [gG] at hl; simp at hl ⊢; omega)) ?_
  rintro _ h2 ⟨rfl, S2⟩
  refine cAb S2 (cs := [.s [35, 40], .s (aF [32] (gG ks)), .s [41]]) (by simp [cM, cF, gG]) ?_
  intro b2 h3 S3
  refine bZe (eC [[35, 40], aF [32] (gG ks), [41]] S3 (eG) rfl (by simp [aF] at hl ⊢; omega) (by simp)) ?_
  rintro _ _ ⟨rfl, rfl⟩
  refine bZg ⟨?_, S3.dropL.dropL⟩
  simp [aF]
 replace e4 : ¬ k = 4 := e4
 rw [if_neg e4] at hl ⊢
 unfold tZ aFj
 refine cAg ?_
 refine bZj (fun e5 => ?_) (fun e5 => ?_)
 ·replace e5 : k = 6 := e5
  rw [if_pos e5, etx] at hl ⊢
  unfold uJ
  refine cAs ?_
  have Sr := S1.res
  generalize hh : gT 1 h1 = hr at Sr
  refine cAl ?_
  refine cAx Sr (List.Mem.tail _ (eG)) rfl rfl ?_
  refine cAl ?_
  refine cAx Sr (List.Mem.tail _ (eG)) rfl o3 ?_
  refine bZe (uI (sep := []) Sr N3 (fun x hx => HowOk.text (T x hx)) (by simp only [gG] at hl; simp at hl ⊢; omega)) ?_
  rintro _ h2 ⟨rfl, S2⟩
  refine Ev.cnd ?_ ?_
  ·rw [Bool.and_true]; exact eX S2 (List.Mem.tail _ (eG)) rfl rfl (oW _)
  refine bZz S2 (cs := [.s t, .s [32, 58, 61, 32], .s (aF [] (gG ks))]) (Rpl.head _) (by simp [cM, cF, gG]) ?_
  intro h3 S3
  refine bZe (eC [t, [32, 58, 61, 32], aF [] (gG ks)] S3 (eG) rfl (by simp [aF] at hl ⊢; omega) (by simp)) ?_
  rintro _ _ ⟨rfl, rfl⟩
  refine bZg ⟨?_, S3.dropL.dropL⟩
  simp [aF]
 replace e5 : ¬ k = 6 := e5
 rw [if_neg e5] at hl ⊢
 unfold uJ aGj
 refine cAg ?_
 refine bZj (fun e6 => ?_) (fun e6 => ?_)
 ·replace e6 : k = 10 := e6
  rw [if_pos e6, etx] at hl ⊢
  unfold sK
  refine yt (wf ?_); refine wl ?_
  refine bZe (uI (sep := []) S1 N3 (fun x hx => HowOk.text (T x hx)) (by simp only [gG] at hl; simp at hl ⊢; omega)) ?_
  rintro _ h2 ⟨rfl, S2⟩
  refine cAb S2 (cs := [.s [94], .s (aF [] (gG ks))]) (by simp [cM, cF, gG]) ?_
  intro b2 h3 S3
  refine bZe (eC [[94], aF [] (gG ks)] S3 (eG) rfl (by simp [aF] at hl ⊢; omega) (by simp)) ?_
  rintro _ _ ⟨rfl, rfl⟩
  refine bZg ⟨?_, S3.dropL.dropL⟩
  simp [aF]
 replace e6 : ¬ k = 10 := e6
 rw [if_neg e6] at hl ⊢
 unfold sK aFx
 refine cAg ?_
 refine bZj (fun e7 => ?_) (fun e7 => ?_)
 ·replace e7 : k = 7 := e7
  rw [if_pos e7, eht] at hl ⊢
  unfold vC
  refine yt (wf ?_); refine wl ?_; refine wf ?_; refine wl ?_
  refine bZe (wJ S1 N3 T hs hl) ?_
  rintro _ h2 ⟨rfl, S2⟩
  exact bZg ⟨rfl, S2.dropL⟩
 replace e7 : ¬ k = 7 := e7
 rw [if_neg e7] at hl ⊢
 unfold vC aHb
 refine cAg ?_
 refine bZj (fun e8 => ?_) (fun e8 => ?_)
 ·replace e8 : k = 8 := e8
  rw [if_pos e8] at hl ⊢
  unfold vD
  refine yt (wf ?_); refine wl ?_
  refine bZe (aOa S1 N3 T K hl) ?_
  rintro _ h2 ⟨rfl, S2⟩
  exact bZg ⟨rfl, S2.dropL⟩
 replace e8 : ¬ k = 8 := e8
 rw [if_neg e8] at hl ⊢
 unfold vD aGs
 refine cAg ?_
 refine bZj (fun e9 => ?_) (fun e9 => ?_)
 ·replace e9 : k = 9 := e9
  rw [if_pos e9, etx] at hl ⊢
  unfold uQ
  refine cAs ?_
  unfold aGd xX
  have hbody : (aS ts (gG ks)).length ≤ 100000000000 := by simp at hl; omega
  have fin : ∀ (pre : List Nat) (h : Hp), Sy I A Q ((b1, some (.row .ex [.i .i64 k, .s t, .i .i64 m, s1, s2, s3])) :: L) h → pre.length + (aS ts (gG ks)).length + 2 ≤ 100000000000 →
   Ev (fun n => aBg (aI n) n (.p b1 0) (.s pre) h) (fun v h' => v = .s (91 :: (pre ++ (aS ts (gG ks) ++ [93]))) ∧ Sy I A Q L h') := by
   intro pre h S hp
   unfold aBg
   refine cBg S (eG) rfl (N0.shape.2.1) ?_
   refine bZe (pO S N0 T hbody) ?_
   rintro _ h2 ⟨rfl, S2⟩
   refine cAb S2 (cs := [.s [91], .s pre, .s (aS ts (gG ks)), .s [93]]) (by simp [cM, cF]) ?_
   intro b2 h3 S3
   refine bZe (eC [[91], pre, aS ts (gG ks), [93]] S3 (eG) rfl (by simp [aF]; omega) (by simp)) ?_
   rintro _ _ ⟨rfl, rfl⟩
   refine bZg ⟨?_, S3.dropL.dropL⟩
   simp [aF]
  refine wf ?_; refine wl ?_
  refine Ev.op (a.2.len _) ?_
  unfold yU aGz
  have hn : (bG ns).length ≤ 100000000000 := by
   by_cases h9 : bG ns = []
   ·rw [h9]; simp
   ·rw [if_neg h9] at hl; simp at hl; omega
  refine aIj a ns 0 0 _ [] rfl S1 (by simpa using hn) ?_
  intro h2 S2
  simp only [List.nil_append]
  unfold eB
  refine cBu (fun h9 => ?_) (fun h9 => ?_)
  ·rw [if_neg h9] at hl ⊢
   refine cAs ?_
   refine cAb S2 (cs := [.s (bG ns), .s [124, 32]]) (by simp [cM, cF]) ?_
   intro b2 h3 S3
   refine bZe (eC [bG ns, [124, 32]] S3 (eG) rfl (by simp [aF] at hl ⊢; omega) (by simp)) ?_
   rintro _ _ ⟨rfl, rfl⟩
   have ej : aF [] [bG ns, [124, 32]] = bG ns ++ [124, 32] := by simp [aF]
   rw [ej]
   exact fin _ _ S3.dropL (by simp at hl ⊢; omega)
  ·rw [if_pos h9] at hl ⊢
   refine cAg ?_
   rw [h9]
   exact fin _ _ S2 (by simp at hl ⊢; omega)
 replace e9 : ¬ k = 9 := e9
 rw [if_neg e9] at hl ⊢
 unfold uQ aE
 refine yj (wf ?_); refine wl ?_
 exact bZg ⟨rfl, S1.dropL⟩
end Go.Dd

namespace Go.Dd
open Go.Proofs
mutual
def Sk : Node → Prop
 | .mk k t m ns ts ks => t.length ≤ 1000000000 ∧ -9223372036854775808 ≤ m ∧ m ≤ 9223372036854775807 ∧ ks.length + 1 ≤ bQ ∧ SkL ks
def SkL : List Node → Prop
 | [] => True
 | x :: l => Sk x ∧ SkL l
end
mutual
theorem tE : ∀ x, Sk x → kQ x ∧ (∀ y ∈ x.kids, kQ y) ∧ x.text.length ≤ 1000000000 ∧ x.kids.length + 1 ≤ bQ
 | .mk k t m ns ts ks, h => by
  unfold Sk at h
  obtain ⟨h1, h2, h3, h4, h5⟩ := h
  have T := wI ks h5
  exact ⟨aOm (fun y hy => (T y hy).1) (fun z hz => (T z hz).2) h1 h2 h3, fun y hy => (T y hy).1, h1, h4⟩
theorem wI : ∀ l, SkL l → ∀ y ∈ l, kQ y ∧ (∀ z ∈ y.kids, kQ z) ∧ y.text.length ≤ 1000000000 ∧ y.kids.length + 1 ≤ bQ
 | [], _ => fun y hy => by cases hy
 | x :: l, h => by
  unfold SkL at h
  have p := tE x h.1
  have q := wI l h.2
  intro y hy
  rcases List.mem_cons.1 hy with e | hy
  ·rw [e]; exact p
  ·exact q y hy
end
end Go.Dd

namespace Go.Dd
open Go.Proofs
section
variable {I : Im} {A Q L : Ls}
theorem aQe {h : Hp} {s1 s2 : DV} {l1 l2 : List (List Nat)} (S : Sy I A Q L h) (N1 : SS I s1 l1) (N2 : SS I s2 l2) : ∀ (r1 r2 : List (List Nat)) (i j : Nat), l1.drop i = r1 → l2.drop i = r2 → r1.length = r2.length → i ≤ l1.length →
 Ev (fun n => lR (aI n) n (n - j) s1 s2 (.i .i64 (l1.length : Int)) (.i .i64 (i : Int)) h) (fun v h' => v = .b (decide (r1 = r2)) ∧ h' = h) := by
 intro r1
 induction r1 with
 | nil =>
  intro r2 i j e1 e2 hl hi
  refine bZl j (ll := fun n p => lR (aI n) n p s1 s2 (.i .i64 (l1.length : Int)) (.i .i64 (i : Int)) h) (bb := fun n p => qN (aI n) n (lR (aI n) n p) s1 s2 (.i .i64 (l1.length : Int)) (.i .i64 (i : Int)) h) (fun _ _ => rfl) ?_
  have h2 : r2 = [] := by cases r2 with
   | nil => rfl
   | cons => simp at hl
  subst h2
  have hl2 : i = l1.length := by
   have := congrArg List.length e1
   simp at this
   omega
  unfold qN
  refine cAa (fun k => ?_) (fun k => ?_)
  ·omega
  ·refine yj ?_
   unfold gI
   exact bZg ⟨by simp, rfl⟩
 | cons x r1 ih =>
  intro r2 i j e1 e2 hl hi
  refine bZl j (ll := fun n p => lR (aI n) n p s1 s2 (.i .i64 (l1.length : Int)) (.i .i64 (i : Int)) h) (bb := fun n p => qN (aI n) n (lR (aI n) n p) s1 s2 (.i .i64 (l1.length : Int)) (.i .i64 (i : Int)) h) (fun _ _ => rfl) ?_
  obtain ⟨y, r2, rfl⟩ : ∃ y r, r2 = y :: r := by cases r2 with
   | nil => simp at hl
   | cons y r => exact ⟨y, r, rfl⟩
  have hx : l1[i]? = some x := dA0 e1
  have hy : l2[i]? = some y := dA0 e2
  have hlt := (gLt hx)
  have e1' : l1.drop (i + 1) = r1 := dA1 e1
  have e2' : l2.drop (i + 1) = r2 := dA1 e2
  obtain ⟨b1, o1, p1, q1⟩ := N1.at S hx
  obtain ⟨b2, o2, p2, q2⟩ := N2.at S hy
  have hb := N1.1
  unfold qN
  refine cAa (fun k => ?_) (fun k => ?_)
  ·refine yt ?_
   refine Ev.op (p1 _) (Ev.op q1 (Ev.op (p2 _) (Ev.op q2 ?_)))
   refine cBu (fun k2 => ?_) (fun k2 => ?_)
   ·refine yt ?_
    exact bZg ⟨by simp [k2], rfl⟩
   ·refine yj ?_
    refine bZo ?_
    rw [rB (by omega)]
    refine (ih r2 (i + 1) (j + 1) e1' e2' (by simpa using hl) (by omega)).mono ?_
    rintro v h' ⟨rfl, rfl⟩
    exact ⟨by simp [k2], rfl⟩
  ·omega
theorem aXa (n : Nat) (x y : DV) (h : Hp) : aI (n + 1) 63 [x, y] h = s63 (aI n) n x y h := by kernel_rfl
theorem aUt {h : Hp} {s1 s2 : DV} {l1 l2 : List (List Nat)} (S : Sy I A Q L h) (N1 : SS I s1 l1) (N2 : SS I s2 l2) :
 Ev (fun n => aI n 63 [s1, s2] h) (fun v h' => v = .b (decide (l1 = l2)) ∧ h' = h) := by
 refine Ev.enter (fun n => aXa n _ _ h) ?_
 unfold s63 aKd
 refine Ev.op (N1.2.len _) (Ev.op (N2.2.len _) (bZy (fun e => ?_) (fun e => ?_)))
 ·refine yt ?_
  refine bZg ⟨?_, rfl⟩
  have : l1 ≠ l2 := fun h => e (by rw [h])
  simp [this]
 ·refine yj ?_
  unfold aLb
  refine Ev.op (N1.2.len _) ?_
  unfold aIn aUz
  exact aQe S N1 N2 l1 l2 0 0 (by simp) (by simp) (by omega) (by omega)
end
end Go.Dd

namespace Go.Dd
open Go.Proofs
theorem aXz (n : Nat) (x y z : DV) (h : Hp) : aI (n + 1) 64 [x, y, z] h = s64 (aI n) n x y z h := by kernel_rfl
theorem aVj (n : Nat) (x y : DV) (h : Hp) : aI (n + 1) 37 [x, y] h = s37 (aI n) n x y h := by kernel_rfl
theorem bDi (rec : FuncId → List DV → Hp → aG) (x y : DV) (h : Hp) : dM CF rec (.f 37 [] []) [x, y] h = rec 37 [x, y] h := by kernel_rfl
theorem bQd (k k' m m' : Int) (t t' : List Nat) (ns ns' ts ts' : List (List Nat)) (ks ks' : List Node) :
 nEq (.mk k t m ns ts ks) (.mk k' t' m' ns' ts' ks') = (decide (k = k') && decide (t = t') && decide (m = m') && decide (ns = ns') && decide (ts = ts') && mE ks ks') := by
 show (decide (ns = ns') && decide (ts = ts') && decide (k = k') && decide (t = t') && decide (m = m') && mE ks ks') = _
 generalize decide (ns = ns') = a
 generalize decide (ts = ts') = b
 generalize decide (k = k') = c
 generalize decide (t = t') = d
 generalize decide (m = m') = e
 cases a <;> cases b <;> cases c <;> cases d <;> cases e <;> rfl
theorem bQq {ks ks' : List Node} {I : Im} {A Q L : Ls} {h : Hp} {s s' : DV} (N : NS I s ks) (N' : NS I s' ks') (S : Sy I A Q L h)
 (lp : ks.length = ks'.length → Ev (fun n => jX (aI n) n (n - 0) s' (.f 37 [] []) s (.i .i64 (ks.length : Int)) (.i .i64 ((0 : Nat) : Int)) h) (fun v h' => v = .b (mE ks ks') ∧ Sy I A Q L h')) :
 Ev (fun n => aI n 64 [s, s', .f 37 [] []] h) (fun v h' => v = .b (mE ks ks') ∧ Sy I A Q L h') := by
 refine Ev.enter (fun n => aXz n _ _ _ h) ?_
 unfold s64 aIf
 refine Ev.op (N.len _) (Ev.op (N'.len _) (bZy (fun e => ?_) (fun e => ?_)))
 ·refine yt ?_
  refine bZg ⟨?_, S⟩
  rw [tX ks ks' (by omega)]
 ·refine yj ?_
  unfold aJq
  refine Ev.op (N.len _) ?_
  unfold aMi aXc
  exact lp (by omega)
mutual
theorem aEs : ∀ (x y : Node) (I : Im) (A Q L : Ls) (h : Hp) (cs cs' : List DV), Sy I A Q L h → NV I x cs → NV I y cs' → Ev (fun n => aI n 37 [.a cs, .a cs'] h) (fun v h' => v = .b (nEq x y) ∧ Sy I A Q L h')
 | .mk k t m ns ts ks, .mk k' t' m' ns' ts' ks', I, A, Q, L, h, cs, cs', S, ⟨s1, s2, s3, e, a1, a2, a3, cells, F, NL⟩, ⟨s1', s2', s3', e', a1', a2', a3', cells', F', NL'⟩ => by
  subst e
  subst e'
  have o1 := a1.2.one
  have o2 := a2.2.one
  have o3 := F.one
  have o1' := a1'.2.one
  have o2' := a2'.2.one
  have o3' := F'.one
  refine Ev.enter (fun n => aVj n _ _ h) ?_
  unfold s37
  refine Ev.box S rfl (fun b h1 S1 => ?_)
  refine Ev.box S1 rfl (fun b' h2 S2 => ?_)
  rw [bQd]
  refine wf ?_; refine wl ?_; refine wf ?_; refine wl ?_
  refine bZj (fun e1 => ?_) (fun e1 => ?_)
  ·refine zt (wf (zt ?_)); refine wl ?_; refine zt (wf (zt ?_)); refine wl ?_; refine zt ?_
   refine cCi (fun e2 => ?_) (fun e2 => ?_)
   ·refine ap (zt (wf (zt ?_))); refine wl ?_; refine zt (wf (zt ?_)); refine wl ?_; refine zt ?_
    refine bZj (fun e3 => ?_) (fun e3 => ?_)
    ·refine ap (zt (wf (zt ?_))); refine wl ?_; refine zt (wf (zt ?_)); refine wl ?_; refine zt ?_
     refine bZe (aUt S2 a1 a1') ?_
     rintro _ _ ⟨rfl, rfl⟩
     by_cases e4 : ns = ns'
     ·rw [decide_eq_true e4]
      refine ap (zt (wf (zt ?_))); refine wl ?_; refine zt (wf (zt ?_)); refine wl ?_; refine zt ?_
      refine bZe (aUt S2 a2 a2') ?_
      rintro _ _ ⟨rfl, rfl⟩
      by_cases e5 : ts = ts'
      ·rw [decide_eq_true e5]
       refine ap (zt (wf (zt ?_))); refine wl ?_; refine zt (wf (zt ?_)); refine wl ?_; refine zt ?_
       refine bZe (bQq ⟨a3, cells, F, NL⟩ ⟨a3', cells', F', NL'⟩ S2 (fun hl => aBu ks ks' I A Q _ _ s3 s3' ks ks' 0 0 ⟨a3, cells, F, NL⟩ ⟨a3', cells', F', NL'⟩ (by simp) (by simp) hl (by omega) S2)) ?_
       rintro _ h9 ⟨rfl, S9⟩
       simp only [e1, e2, e3, decide_true, Bool.true_and]
       generalize mE ks ks' = c
       cases c with
       | true =>
        refine ap ?_
        exact bZg ⟨rfl, dp⟩
       | false =>
        refine ap ?_
        exact bZg ⟨rfl, dp⟩
      ·rw [decide_eq_false e5]
       refine ap (yf (yf (yf (yf (yf (aq ?_))))))
       exact bZg ⟨by simp, dp⟩
     ·rw [decide_eq_false e4]
      refine ap (yf (yf (yf (yf (yf (aq (yf (yf (yf (yf (yf (aq ?_))))))))))))
      exact bZg ⟨by simp, dp⟩
    ·refine ap (yf (yf (yf (yf (yf (aq (yf (yf (yf (yf (yf (aq (yf (yf (yf (yf (yf (aq ?_))))))))))))))))))
     exact bZg ⟨by simp [e3], dp⟩
   ·refine ap (yf (yf (yf (yf (yf (aq (yf (yf (yf (yf (yf (aq (yf (yf (yf (yf (yf (aq (yf (yf (yf (yf (yf (aq ?_))))))))))))))))))))))))
    exact bZg ⟨by simp [e2], dp⟩
  ·refine yf (yf (yf (yf (yf (aq (yf (yf (yf (yf (yf (aq (yf (yf (yf (yf (yf (aq (yf (yf (yf (yf (yf (aq (yf (yf (yf (yf (yf (aq ?_)))))))))))))))))))))))))))))
   exact bZg ⟨by simp [e1], dp⟩
theorem aBu : ∀ (r r' : List Node) (I : Im) (A Q L : Ls) (h : Hp) (s s' : DV) (ks ks' : List Node) (i j : Nat), NS I s ks → NS I s' ks' → ks.drop i = r → ks'.drop i = r' → r.length = r'.length → i ≤ ks.length → Sy I A Q L h →
 Ev (fun n => jX (aI n) n (n - j) s' (.f 37 [] []) s (.i .i64 (ks.length : Int)) (.i .i64 (i : Int)) h) (fun v h' => v = .b (mE r r') ∧ Sy I A Q L h')
 | [], r', I, A, Q, L, h, s, s', ks, ks', i, j, N, N', hr, hr', hl, hi, S => by
  have h2 : r' = [] := by cases r' with
   | nil => rfl
   | cons => simp at hl
  subst h2
  refine bZl j (ll := fun n p => jX (aI n) n p s' (.f 37 [] []) s (.i .i64 (ks.length : Int)) (.i .i64 (i : Int)) h) (bb := fun n p => pV (aI n) n (jX (aI n) n p) s' (.f 37 [] []) s (.i .i64 (ks.length : Int)) (.i .i64 (i : Int)) h) (fun _ _ => rfl) ?_
  have hl2 : i = ks.length := by
   have := congrArg List.length hr
   simp at this
   omega
  unfold pV
  refine cAa (fun e1 => ?_) (fun e1 => ?_)
  ·omega
  ·refine yj ?_
   unfold gO
   exact bZg ⟨rfl, S⟩
 | x :: r, r', I, A, Q, L, h, s, s', ks, ks', i, j, N, N', hr, hr', hl, hi, S => by
  obtain ⟨y, r', rfl⟩ : ∃ y q, r' = y :: q := by cases r' with
   | nil => simp at hl
   | cons y q => exact ⟨y, q, rfl⟩
  refine bZl j (ll := fun n p => jX (aI n) n p s' (.f 37 [] []) s (.i .i64 (ks.length : Int)) (.i .i64 (i : Int)) h) (bb := fun n p => pV (aI n) n (jX (aI n) n p) s' (.f 37 [] []) s (.i .i64 (ks.length : Int)) (.i .i64 (i : Int)) h) (fun _ _ => rfl) ?_
  have hx : ks[i]? = some x := dA0 hr
  have hy : ks'[i]? = some y := by
   have := congrArg (fun l => l[0]?) hr'
   simpa [aJ] using this
  have hlt := (gLt hx)
  have e1' : ks.drop (i + 1) = r := dA1 hr
  have e2' : ks'.drop (i + 1) = r' := by
   have := congrArg (List.drop 1) hr'
   simpa [aJ, List.drop_drop] using this
  have hb := N.1
  unfold pV
  refine cAa (fun e1 => ?_) (fun e1 => ?_)
  ·refine yt ?_
   obtain ⟨p1, q1, d1, u1, u2, u3⟩ := N.at hx
   obtain ⟨p2, q2, d2, v1, v2, v3⟩ := N'.at hy
   obtain ⟨l1, k1, m1⟩ := u2.shape
   obtain ⟨l2, k2, m2⟩ := v2.shape
   refine Ev.op (u1 _) (Ev.op (u3 _ _ _ _ _ (ILe.refl _) S) ?_)
   refine wa fun _ _ _ => ?_; refine wt fun _ _ => ?_
   refine Ev.op (v1 _) (Ev.op (v3 _ _ _ _ _ (ILe.refl _) (by assumption)) ?_)
   refine wa fun _ _ _ => ?_; refine wt fun _ _ => ?_; refine ws ?_; refine ws ?_
   simp only [bDi]
   refine bZe (aEs x y I A Q _ _ d1 d2 (by assumption) u2 v2) ?_
   rintro _ h1 ⟨rfl, S1⟩
   simp only [mE]
   cases e : nEq x y with
   | false =>
    refine ao (yt ?_)
    exact bZg ⟨by simp, dp⟩
   | true =>
    refine an (yj ?_)
    refine bZo ?_
    rw [rB (by omega)]
    refine (aBu r r' I A Q L h1 s s' ks ks' (i + 1) (j + 1) N N' e1' e2' (by simpa using hl) (by omega) (dp)).mono ?_
    rintro v h' ⟨rfl, S2⟩
    exact ⟨by simp, S2⟩
  ·omega
end
end Go.Dd

namespace Go.Dd
open Go.Proofs
section
variable {I : Im} {A Q L : Ls}
end
end Go.Dd

namespace Go.Dd
open Go.Proofs
theorem bYv {l : List Nat} {b : Nat} (h2 : b ≤ l.length) (h : Hp) : eH (.s l) none (some (.i .i64 (Int.ofNat b))) h = some (.s (l.take b), h) := by
 have e1 : loD none b = some 0 := by simp [loD]
 have e2 : hiD (some (.i .i64 (Int.ofNat b))) l.length l.length = some b := by
  show (if 0 ≤ (Int.ofNat b) ∧ (Int.ofNat b) ≤ (l.length : Int) then some (Int.ofNat b).toNat else none) = _
  have hi' : (Int.ofNat b) = (b : Int) := rfl
  rw [if_pos ⟨by omega, by omega⟩]
  rfl
 simp only [eH, e1, e2, List.drop_zero]
theorem aDq {H : PF} {f : Nat} {lx : List Tok × Int × Int} (h : lx.2.2 = 0) : fF H f lx = fF H f (lx.1, 0, 0) := by
 unfold fF
 rw [if_pos h, if_pos rfl]
theorem bRq {u : List Nat} (hu : u.length ≤ 2000) : ∃ lx res, nD 2001 2001 u = some lx ∧ fF rH 2004 lx = some res ∧ (res.2.2 = 0 → lx.2.2 = 0 ∧ lx.1.length ≤ 2001 ∧ Good lx.1 ∧ rD lx.1 ≤ fZ res.1 ∧ fZ res.1 ≤ iW lx.1) := by
 obtain ⟨lx, hl, hg⟩ := bNj hu
 by_cases e : lx.2.2 = 0
 ·obtain ⟨g1, g2⟩ := hg e
  obtain ⟨x, a, e', h1, h2⟩ := bSh (f := 2004) g1 (by omega) (by omega)
  refine ⟨lx, _, hl, (aDq e).trans h1, fun h => ⟨e, g2, g1, h2 h⟩⟩
 ·refine ⟨lx, (zN, lx.2.1, lx.2.2), hl, ?_, fun h => absurd h e⟩
  unfold fF
  rw [if_neg e]
end Go.Dd

namespace Go.Dd
section
variable {α β : Type} {V : α → α → Prop} {W : β → β → Prop}
end
variable {s s' : PSt}
def aIt (f : Nat) (x : Node) (st : PSt) : Option (Node × PSt) := (fV f st).bind fun b => (cW (dO f) f [] b.2).bind fun c => (bL c.2 0 []).bind fun d => some (x.with b.1 c.1, d.2)
theorem aGi (H : PF) (f : Nat) (l : List Tok) : fF H f (l, 0, 0) = (H ⟨l, 0, 0, 0⟩).bind fun a => (aIt f a.1 a.2).bind fun d => if d.2.err = 0 then some (d.1, 0, 0) else some (zN, d.2.pos, d.2.err) := by
 unfold fF aIt
 rw [if_pos rfl]
 cases H ⟨l, 0, 0, 0⟩ with
 | none => rfl
 | some a =>
  simp only [Option.bind_some]
  cases fV f a.2 with
  | none => rfl
  | some b =>
   simp only [Option.bind_some]
   cases cW (dO f) f [] b.2 with
   | none => rfl
   | some c =>
    simp only [Option.bind_some]
    cases bL c.2 0 [] with
    | none => rfl
    | some d => rfl
end Go.Dd

namespace Go.Dd
def aOx (c : Nat) : Prop := cY c = false ∧ c ≠ 58 ∧ c ≠ 61 ∧ cV signs c = false ∧ c ≠ 39
def Stop (v : List Nat) : Prop := aOx (nx v 0)
def aLf (v : List Nat) : Prop := cV signs (nx v 0) = false
theorem Stop.three {v : List Nat} (h : Stop v) : aLf v := by
 exact h.2.2.2.1
theorem aCj {c : Nat} (h : cY c = false) : bK c = false := by
 unfold cY at h
 cases e : bK c with
 | false => rfl
 | true => rw [e] at h; simp at h
theorem aFw (so : Nat → Bool) : ∀ (u : List Nat) (k : Nat) (v : List Nat), (∀ c r, v = c :: r → so c = false) → (u.takeWhile so).length ≤ k → k ≤ u.length → (u.take k ++ v).takeWhile so = u.takeWhile so
 | [], k, v, hv, h1, h2 => by
  have : k = 0 := by simpa using h2
  subst this
  cases v with
  | nil => rfl
  | cons c r => simp [hv c r rfl]
 | a :: u, 0, v, hv, h1, h2 => by
  have ha : so a = false := by
   cases e : so a with
   | false => rfl
   | true => simp [e] at h1
  cases v with
  | nil => simp [ha]
  | cons c r => simp [hv c r rfl, ha]
 | a :: u, k + 1, v, hv, h1, h2 => by
  cases e : so a with
  | false => simp [e]
  | true =>
   simp [e] at h1 h2
   have := aFw so u k v hv h1 h2
   simp [e, this]
theorem zQ (so : Nat → Bool) : ∀ (u : List Nat) (k : Nat) (v : List Nat), (u.takeWhile so).length < k → k ≤ u.length → (u.take k ++ v).takeWhile so = u.takeWhile so
 | [], k, v, h1, h2 => by simp at h1 h2; omega
 | a :: u, 0, v, h1, h2 => by omega
 | a :: u, k + 1, v, h1, h2 => by
  cases e : so a with
  | false => simp [e]
  | true =>
   simp [e] at h1 h2
   have := zQ so u k v h1 h2
   simp [e, this]
theorem yF (so : Nat → Bool) : ∀ (m : Nat) (u : List Nat) (k : Nat) (v : List Nat), (∀ c r, v = c :: r → so c = false) → bJ so m u ≤ k → k ≤ u.length → bJ so m (u.take k ++ v) = bJ so m u
 | 0, u, k, v, hv, h1, h2 => rfl
 | m + 1, [], k, v, hv, h1, h2 => by
  have : k = 0 := by simpa using h2
  subst this
  cases v with
  | nil => rfl
  | cons c r => simp [bJ, hv c r rfl]
 | m + 1, a :: u, 0, v, hv, h1, h2 => by
  have ha : so a = false := by
   cases e : so a with
   | false => rfl
   | true => simp [bJ, e] at h1
  cases v with
  | nil => simp [bJ, ha]
  | cons c r => simp [bJ, hv c r rfl, ha]
 | m + 1, a :: u, k + 1, v, hv, h1, h2 => by
  cases e : so a with
  | false => simp [bJ, e]
  | true =>
   simp [bJ, e] at h1 h2
   have := yF so m u k v hv h1 h2
   simp [bJ, e, this]
theorem hK {u v : List Nat} {k j : Nat} (h : j < k) (hk : k ≤ u.length) : nx (u.take k ++ v) j = nx u j := by
 unfold nx
 rw [List.getD, List.getD, List.getElem?_append_left (by simp; omega), List.getElem?_take_of_lt h]
theorem aHk {u v : List Nat} {k : Nat} (hk : k ≤ u.length) : nx (u.take k ++ v) k = nx v 0 := by
 unfold nx
 rw [List.getD, List.getD, List.getElem?_append_right (by simp; omega)]
 simp [Nat.min_eq_left hk]
theorem iR {u v : List Nat} {k j : Nat} (h : j ≤ k) (hk : k ≤ u.length) : (u.take k ++ v).drop j = (u.drop j).take (k - j) ++ v := by
 rw [List.drop_append_of_le_length (by simp; omega), List.drop_take]
theorem nxd (u : List Nat) (j k : Nat) : nx (u.drop j) k = nx u (j + k) := by
 unfold nx
 rw [List.getD, List.getD, List.getElem?_drop]
theorem qM {u v : List Nat} {k : Nat} (hv : ∀ c r, v = c :: r → cY c = false) (h1 : (aL u).2.2 ≤ k) (h2 : k ≤ u.length) : aL (u.take k ++ v) = aL u := by
 rw [wF] at h1
 unfold aL
 rw [aFw cY u k v hv h1 h2]
theorem Stop.name {v : List Nat} (h : Stop v) : ∀ c r, v = c :: r → cY c = false := by
 intro c r e
 subst e
 exact h.1
theorem cBk {v : List Nat} (h : aLf v) : ∀ c r, v = c :: r → cV signs c = false := by
 intro c r e
 subst e
 exact h
theorem Stop.head {v : List Nat} (h : Stop v) : aOx (nx v 0) := h
theorem sY {v : List Nat} (h : Stop v) : cT v = false := by
 unfold cT
 simp [h.head.2.1]
theorem aOb {u v : List Nat} {n : Nat} (hn : n + 1 ≤ u.length) (h : Stop v) : cT ((u.take (n + 1) ++ v).drop n) = decide (nx u n = 58) := by
 unfold cT
 rw [nxd, nxd, hK (by omega) hn, aHk hn]
 simp [h.head.2.2.1]
theorem qJ {u : List Nat} {n : Nat} (h : cT (u.drop n) = true) : nx u n = 58 := by
 unfold cT at h
 rw [nxd] at h
 simp at h
 exact h.1
theorem aFt {c : Nat} (h : aW c = true) : cV signs c = false ∧ c ≠ 39 ∧ c ≠ 34 := by
 simp [aW] at h
 refine ⟨?_, by omega, by omega⟩
 cases e : cV signs c with
 | false => rfl
 | true =>
  exfalso
  simp [cV, signs] at e
  omega
theorem aBy : ∀ (f : Nat) (out u : List Nat) (res : List Nat × Int × Nat), jQ f out u = some res → res.2.2 ≤ u.length ∧ (res.2.1 = 0 → ∀ v, nx v 0 ≠ 39 → jQ f out (u.take res.2.2 ++ v) = some res)
 | 0, out, u, res, h => by cases h
 | f + 1, out, u, res, h => by
  have hl := oZ cK u
  unfold jQ at h
  by_cases h1 : (u.takeWhile cK).length = u.length
  ·rw [if_pos h1] at h
   cases h
   exact ⟨Nat.le_refl _, fun e => by cases e⟩
  ·rw [if_neg h1] at h
   by_cases h2 : nx u ((u.takeWhile cK).length + 1) = 39
   ·rw [if_pos h2] at h
    obtain ⟨r, e1, e2⟩ := bC h
    cases e2
    obtain ⟨a1, a2⟩ := aBy f _ _ r e1
    have h3 : (u.takeWhile cK).length + 1 < u.length := by
     apply Decidable.byContradiction
     intro hn
     rw [nx, List.getD, List.getElem?_eq_none (by omega)] at h2
     cases h2
    simp at a1
    refine ⟨by show r.2.2 + _ ≤ _; omega, fun e v hv => ?_⟩
    have e0 : (r.1, r.2.1, r.2.2 + ((u.takeWhile cK).length + 2)).2.2 = r.2.2 + ((u.takeWhile cK).length + 2) := rfl
    rw [e0]
    have ht : (u.take (r.2.2 + ((u.takeWhile cK).length + 2)) ++ v).takeWhile cK = u.takeWhile cK := zQ cK u _ v (by omega) (by omega)
    unfold jQ
    rw [ht]
    rw [if_neg (by simp; omega), hK (by omega) (by omega), if_pos h2, iR (by omega) (by omega)]
    rw [show r.2.2 + ((u.takeWhile cK).length + 2) - ((u.takeWhile cK).length + 2) = r.2.2 by omega, a2 e v hv]
    rfl
   ·rw [if_neg h2] at h
    cases h
    refine ⟨by show _ + 1 ≤ _; omega, fun _ v hv => ?_⟩
    show jQ (f + 1) out (u.take ((u.takeWhile cK).length + 1) ++ v) = _
    have hk : (u.takeWhile cK).length + 1 ≤ u.length := by omega
    have ht : (u.take ((u.takeWhile cK).length + 1) ++ v).takeWhile cK = u.takeWhile cK := zQ cK u _ v (by omega) hk
    unfold jQ
    rw [ht, if_neg (by simp; omega), aHk hk, if_neg hv]
theorem aEw : ∀ (f : Nat) (out u : List Nat) (res : List Nat × Int × Nat), nF f out u = some res → res.2.1 = 0 → ∀ v, Stop v → nF f out (u.take res.2.2 ++ v) = some res
 | 0, out, u, res, h => by cases h
 | f + 1, out, u, res, h => by
  intro he v hv
  have hlen := (mY (f + 1) out u res h).1
  have fin : res = (out, 0, 0) → nF (f + 1) out (u.take res.2.2 ++ v) = some res := by
   rintro rfl
   show nF (f + 1) out (u.take 0 ++ v) = _
   rw [List.take_zero, List.nil_append]
   unfold nF
   rw [if_neg (by simp [aCj hv.head.1])]
  unfold nF at h
  split at h
  ·rename_i h1
   split at h
   ·rename_i h2
    split at h
    ·rename_i h3
     obtain ⟨r, e1, e2⟩ := bC h
     cases e2
     have hc := iQ h2
     simp at hc
     have hlr := (mY f _ _ r e1).1
     simp at hlr
     have ih := aEw f _ _ r e1 he v hv
     show nF (f + 1) out (u.take (r.2.2 + ((aL u).2.2 + 1)) ++ v) = _
     have hk : r.2.2 + ((aL u).2.2 + 1) ≤ u.length := by omega
     have en : aL (u.take (r.2.2 + ((aL u).2.2 + 1)) ++ v) = aL u := qM hv.name (by omega) hk
     unfold nF
     rw [hK (by omega) hk, if_pos h1, en]
     have ec : cT ((u.take (r.2.2 + ((aL u).2.2 + 1)) ++ v).drop (aL u).2.2) = true := by
      have hd := qJ h2
      unfold cT at h2 ⊢
      rw [nxd, nxd] at h2 ⊢
      rw [hK (by omega) hk]
      by_cases hr : r.2.2 = 0
      ·rw [hr, Nat.zero_add, aHk (by omega)]
       simp [hd, hv.head.2.2.1]
      ·rw [hK (by omega) hk]
       exact h2
     rw [if_pos ec, if_pos h3, iR (by omega) hk, show r.2.2 + ((aL u).2.2 + 1) - ((aL u).2.2 + 1) = r.2.2 by omega, ih]
     rfl
    ·rename_i h3
     cases h
     exact absurd he h3
   ·cases h; exact fin rfl
  ·cases h; exact fin rfl
theorem uP {f : Nat} {u : List Nat} {res : List Nat × Int × Nat} (h : dS f u = some res) (he : res.2.1 = 0) : 1 ≤ res.2.2 := by
 unfold dS at h
 split at h
 ·split at h
  ·rename_i h1
   have := oV h1
   split at h
   ·split at h
    ·obtain ⟨r, e1, e2⟩ := bC h
     cases e2
     show 1 ≤ r.2.2 + _
     omega
    ·cases h; exact this
   ·cases h; exact this
  ·cases h; cases he
 ·rename_i h1
  cases h
  show 1 ≤ bJ _ _ _
  omega
theorem aHh {f : Nat} {u : List Nat} {res : List Nat × Int × Nat} (h : dS f u = some res) (he : res.2.1 = 0) {v : List Nat} (hv : Stop v) : dS f (u.take res.2.2 ++ v) = some res := by
 have hlen := (lL h).1
 have hpos := uP h he
 have hs : bJ (cV signs) 2 u ≤ res.2.2 → bJ (cV signs) 2 (u.take res.2.2 ++ v) = bJ (cV signs) 2 u := fun hh => yF _ 2 u _ v (cBk hv.three) hh hlen
 unfold dS at h
 by_cases h0 : bJ (cV signs) 2 u = 0
 ·rw [if_pos h0] at h
  have hs := hs (by omega)
  split at h
  ·rename_i h1
   split at h
   ·rename_i h2
    split at h
    ·rename_i h3
     obtain ⟨r, e1, e2⟩ := bC h
     cases e2
     have hc := iQ h3
     simp at hc
     have hlr := (mY f _ _ r e1).1
     simp at hlr
     have ih := aEw f _ _ r e1 he v hv
     have hk : r.2.2 + ((aL u).2.2 + 1) ≤ u.length := by omega
     have en : aL (u.take (r.2.2 + ((aL u).2.2 + 1)) ++ v) = aL u := qM hv.name (by omega) hk
     show dS f (u.take (r.2.2 + ((aL u).2.2 + 1)) ++ v) = _
     unfold dS
     rw [show bJ (cV signs) 2 (u.take (r.2.2 + ((aL u).2.2 + 1)) ++ v) = 0 from hs.trans h0, if_pos rfl, hK (by omega) hk, if_pos h1, en, if_pos h2]
     have ec : cT ((u.take (r.2.2 + ((aL u).2.2 + 1)) ++ v).drop (aL u).2.2) = true := by
      have hd := qJ h3
      unfold cT at h3 ⊢
      rw [nxd, nxd] at h3 ⊢
      rw [hK (by omega) hk]
      by_cases hr : r.2.2 = 0
      ·rw [hr, Nat.zero_add, aHk (by omega)]
       simp [hd, hv.head.2.2.1]
      ·rw [hK (by omega) hk]
       exact h3
     rw [if_pos ec, iR (by omega) hk, show r.2.2 + ((aL u).2.2 + 1) - ((aL u).2.2 + 1) = r.2.2 by omega, ih]
     rfl
    ·rename_i h3
     cases h
     show dS f (u.take (aL u).2.2 ++ v) = _
     have hlen : (aL u).2.2 ≤ u.length := hlen
     have en : aL (u.take (aL u).2.2 ++ v) = aL u := qM hv.name (Nat.le_refl _) hlen
     unfold dS
     rw [show bJ (cV signs) 2 (u.take (aL u).2.2 ++ v) = 0 from hs.trans h0, if_pos rfl, hK (oV h1) hlen, if_pos h1, en, if_pos h2, iR (Nat.le_refl _) hlen, Nat.sub_self]
     rw [show cT (List.take 0 (u.drop (aL u).2.2) ++ v) = false from sY hv]
     rfl
   ·rename_i h2
    cases h
    exact absurd he h2
  ·cases h; cases he
 ·rw [if_neg h0] at h
  cases h
  show dS f (u.take (bJ (cV signs) 2 u) ++ v) = _
  have hs := hs (Nat.le_refl _)
  have hlen : bJ (cV signs) 2 u ≤ u.length := hlen
  have hs : bJ (cV signs) 2 (u.take (bJ (cV signs) 2 u) ++ v) = bJ (cV signs) 2 u := hs
  unfold dS
  rw [hs, if_neg h0, List.take_append_of_le_length (by simp; omega), List.take_take, Nat.min_self]
theorem aOg {f : Nat} {u : List Nat} {rs : Int × List Nat × Int × Int × Nat} (h : bA f u = some rs) (he : rs.2.2.2.1 = 0) (hp : 1 ≤ rs.2.2.2.2) (hl : rs.2.2.2.2 ≤ u.length) {v : List Nat} (h3 : rs.1 = 3 → aLf v) (hv : rs.1 ≠ 3 → Stop v) :
 bA f (u.take rs.2.2.2.2 ++ v) = some rs := by
 have n0 : nx (u.take rs.2.2.2.2 ++ v) 0 = nx u 0 := hK hp hl
 unfold bA at h
 by_cases h1 : bK (nx u 0) = true
 ·rw [if_pos h1] at h
  by_cases h2 : (aL u).2.1 = 0
  ·rw [if_pos h2] at h
   by_cases hc : cT (u.drop (aL u).2.2) = true
   ·rw [if_pos hc] at h
    cases h
    have hv := hv (by show (2 : Int) ≠ 3; decide)
    have hl : (aL u).2.2 + 1 ≤ u.length := hl
    have n0 : nx (u.take ((aL u).2.2 + 1) ++ v) 0 = nx u 0 := n0
    show bA f (u.take ((aL u).2.2 + 1) ++ v) = _
    unfold bA
    rw [n0, if_pos h1, qM hv.name (by omega) hl, if_pos h2, aOb hl hv, qJ hc]
    rfl
   ·rw [if_neg hc] at h
    cases h
    have hv := hv (by show (1 : Int) ≠ 3; decide)
    have hl : (aL u).2.2 ≤ u.length := hl
    have n0 : nx (u.take (aL u).2.2 ++ v) 0 = nx u 0 := n0
    show bA f (u.take (aL u).2.2 ++ v) = _
    unfold bA
    rw [n0, if_pos h1, qM hv.name (Nat.le_refl _) hl, if_pos h2, iR (Nat.le_refl _) hl, Nat.sub_self]
    rw [show cT (List.take 0 (u.drop (aL u).2.2) ++ v) = false from sY hv]
    rfl
  ·rw [if_neg h2] at h
   cases h
   exact absurd he h2
 ·rw [if_neg h1] at h
  by_cases hd : aW (nx u 0) = true
  ·rw [if_pos hd] at h
   cases h
   have hv := hv (by show (4 : Int) ≠ 3; decide)
   have hl : (u.takeWhile aW).length ≤ u.length := hl
   have n0 : nx (u.take (u.takeWhile aW).length ++ v) 0 = nx u 0 := n0
   show bA f (u.take (u.takeWhile aW).length ++ v) = _
   have ht : (u.take (u.takeWhile aW).length ++ v).takeWhile aW = u.takeWhile aW := aFw aW u _ v (fun c r e => by
    have := hv.name c r e
    unfold cY at this
    cases e2 : aW c with
    | false => rfl
    | true => rw [e2] at this; simp at this) (Nat.le_refl _) hl
   unfold bA dE
   rw [n0, if_neg h1, if_pos hd, ht]
  ·rw [if_neg hd] at h
   by_cases hq : nx u 0 = 39
   ·rw [if_pos hq] at h
    obtain ⟨r, e1, e2⟩ := bC h
    cases e2
    have hv := hv (by show (5 : Int) ≠ 3; decide)
    have hl : r.2.2 + 1 ≤ u.length := hl
    have n0 : nx (u.take (r.2.2 + 1) ++ v) 0 = nx u 0 := n0
    show bA f (u.take (r.2.2 + 1) ++ v) = _
    unfold bA
    rw [n0, if_neg h1, if_neg hd, if_pos hq, iR (by omega) hl, Nat.add_sub_cancel, (aBy f _ _ r e1).2 he v hv.head.2.2.2.2]
    rfl
   ·rw [if_neg hq] at h
    by_cases hh : nx u 0 = 35
    ·rw [if_pos hh] at h
     by_cases h40 : nx u 1 = 40
     ·rw [if_pos h40] at h
      cases h
      have hl : 2 ≤ u.length := hl
      have n0 : nx (u.take 2 ++ v) 0 = nx u 0 := n0
      show bA f (u.take 2 ++ v) = _
      unfold bA
      rw [n0, if_neg h1, if_neg hd, if_neg hq, if_pos hh, hK (by omega) hl, if_pos h40]
     ·rw [if_neg h40] at h
      obtain ⟨r, e1, e2⟩ := bC h
      cases e2
      have hv := hv (by show (6 : Int) ≠ 3; decide)
      have hl : r.2.2 + 1 ≤ u.length := hl
      have n0 : nx (u.take (r.2.2 + 1) ++ v) 0 = nx u 0 := n0
      have hp := uP e1 he
      show bA f (u.take (r.2.2 + 1) ++ v) = _
      unfold bA
      rw [n0, if_neg h1, if_neg hd, if_neg hq, if_pos hh, hK (by omega) hl, if_neg h40, iR (by omega) hl, Nat.add_sub_cancel, aHh e1 he hv]
      rfl
    ·rw [if_neg hh] at h
     by_cases ha : nx u 0 = 58 ∧ nx u 1 = 61
     ·rw [if_pos ha] at h
      cases h
      have hl : 2 ≤ u.length := hl
      have n0 : nx (u.take 2 ++ v) 0 = nx u 0 := n0
      show bA f (u.take 2 ++ v) = _
      unfold bA
      rw [n0, if_neg h1, if_neg hd, if_neg hq, if_neg hh, hK (by omega) hl, if_pos ha]
     ·rw [if_neg ha] at h
      by_cases hb : nx u 0 = 58 ∧ bK (nx u 1) = true
      ·rw [if_pos hb] at h
       cases h
       have hv := hv (by show (8 : Int) ≠ 3; decide)
       have hl : (aL (u.drop 1)).2.2 + 1 ≤ u.length := hl
       have n0 : nx (u.take ((aL (u.drop 1)).2.2 + 1) ++ v) 0 = nx u 0 := n0
       have hp : 1 ≤ (aL (u.drop 1)).2.2 := oV (by rw [nxd]; exact hb.2)
       show bA f (u.take ((aL (u.drop 1)).2.2 + 1) ++ v) = _
       unfold bA
       rw [n0, if_neg h1, if_neg hd, if_neg hq, if_neg hh, hK (by omega) hl, if_neg ha, if_pos hb, iR (by omega) hl, Nat.add_sub_cancel, qM hv.name (Nat.le_refl _) (by rw [List.length_drop]; omega)]
      ·rw [if_neg hb] at h
       have z58 : (cV signs (nx u 0) = true ∨ cV dQ (nx u 0) = true) → nx u 0 ≠ 58 := by
        intro hh e
        rw [e] at hh
        rcases hh with hh | hh <;> exact absurd hh (by decide)
       by_cases hs : cV signs (nx u 0) = true
       ·rw [if_pos hs] at h
        cases h
        have h3 := h3 rfl
        have hl : bJ (cV signs) 2 u ≤ u.length := hl
        have n0 : nx (u.take (bJ (cV signs) 2 u) ++ v) 0 = nx u 0 := n0
        have z := z58 (.inl hs)
        show bA f (u.take (bJ (cV signs) 2 u) ++ v) = _
        unfold bA
        rw [n0, if_neg h1, if_neg hd, if_neg hq, if_neg hh, if_neg (fun x => z x.1), if_neg (fun x => z x.1), if_pos hs, yF _ 2 u _ v (cBk h3) (Nat.le_refl _) hl,
         List.take_append_of_le_length (by simp; omega), List.take_take, Nat.min_self]
       ·rw [if_neg hs] at h
        by_cases hm : cV dQ (nx u 0) = true
        ·rw [if_pos hm] at h
         cases h
         have hl : bJ (cV dQ) 1 u ≤ u.length := hl
         have n0 : nx (u.take (bJ (cV dQ) 1 u) ++ v) 0 = nx u 0 := n0
         have z := z58 (.inr hm)
         have r1 : bJ (cV dQ) 1 u = 1 := by
          cases u with
          | nil => simp [bJ] at hp
          | cons c u =>
           have : cV dQ c = true := hm
           simp [bJ, this]
         show bA f (u.take (bJ (cV dQ) 1 u) ++ v) = _
         have r2 : bJ (cV dQ) 1 (u.take (bJ (cV dQ) 1 u) ++ v) = 1 := by
          rw [r1]
          cases u with
          | nil => simp [bJ] at r1
          | cons c u =>
           have : cV dQ c = true := hm
           simp [bJ, this]
         unfold bA
         rw [n0, if_neg h1, if_neg hd, if_neg hq, if_neg hh, if_neg (fun x => z x.1), if_neg (fun x => z x.1), if_neg hs, if_pos hm, r2, r1]
         rw [List.take_append_of_le_length (by simp; omega), List.take_take, Nat.min_self]
        ·rw [if_neg hm] at h
         cases h
         cases he
theorem aFy {f : Nat} {u : List Nat} {rs : Int × List Nat × Int × Int × Nat} (h : bA f u = some rs) (he : rs.2.2.2.1 = 0) : cV cG (nx u 0) = false ∧ nx u 0 ≠ 34 ∧ (rs.1 = 4 → aW (nx u 0) = true) := by
 have no : (cV cG (nx u 0) = true ∨ nx u 0 = 34) → False := by
  intro hh
  have hc : nx u 0 = 9 ∨ nx u 0 = 10 ∨ nx u 0 = 13 ∨ nx u 0 = 32 ∨ nx u 0 = 34 := by
   rcases hh with hh | hh
   ·simp [cV, cG] at hh; omega
   ·omega
  unfold bA at h
  generalize hx : nx u 0 = x at *
  rcases hc with rfl | rfl | rfl | rfl | rfl <;>
  ·simp (config := { decide := true }) only [if_false, false_and] at h
   simp [cV, signs, dQ, bK, aW] at h
   rw [← h] at he
   cases he
 refine ⟨?_, fun e => no (.inr e), fun e => ?_⟩
 ·cases e : cV cG (nx u 0) with
  | false => rfl
  | true => exact (no (.inl e)).elim
 ·apply Decidable.byContradiction
  intro hd
  unfold bA at h
  rw [if_neg hd] at h
  repeat' split at h
  all_goals first
   | (cases h; simp at e)
   | (obtain ⟨r, e1, e2⟩ := bC h; cases e2; simp at e)
end Go.Dd

namespace Go.Dd
inductive Gap : List Nat → Prop
 | nil : Gap []
 | blank (c : Nat) (w : List Nat) : cV cG c = true → Gap w → Gap (c :: w)
 | rem (r w : List Nat) : (∀ c ∈ r, c ≠ 34) → Gap w → Gap (34 :: (r ++ 34 :: w))
theorem Gap.app {a b : List Nat} (h : Gap a) (k : Gap b) : Gap (a ++ b) := by
 induction h with
 | nil => exact k
 | blank c w hc _ ih => exact .blank c _ hc ih
 | rem r w hr _ ih => simpa using Gap.rem r (w ++ b) hr ih
inductive Lx (g : Nat) : List Nat → Nat → List Tok → Prop
 | fin (w : List Nat) (p : Nat) : Gap w → Lx g w p [⟨0, [], 0, ((p + w.length : Nat) : Int)⟩]
 | tok (w u : List Nat) (p k : Nat) (rs : Int × List Nat × Int × Int × Nat) (l : List Tok) : Gap w → bA g u = some rs → rs.2.2.2.1 = 0 → rs.2.2.2.2 = k → 1 ≤ k → k ≤ u.length → rs.1 ≠ 0 →
  Lx g (u.drop k) (p + w.length + k) l → Lx g (w ++ u) p (⟨rs.1, rs.2.1, rs.2.2.1, ((p + w.length : Nat) : Int)⟩ :: l)
theorem cCs {g : Nat} {u : List Nat} {p : Nat} {l : List Tok} {w : List Nat} (h : Lx g u (p + w.length) l) (k : Gap w) : Lx g (w ++ u) p l := by
 generalize hp : p + w.length = q at h
 cases h with
 | fin _ _ g' =>
  have := Lx.fin (g := g) (w ++ u) p (k.app g')
  rw [List.length_append, ← Nat.add_assoc, hp] at this
  exact this
 | tok w' u _ k' rs l g' h1 h2 h3 h4 h5 h6 h7 =>
  have := Lx.tok (g := g) (w ++ w') u p k' rs l (k.app g') h1 h2 h3 h4 h5 h6 (by rw [List.length_append, ← Nat.add_assoc, hp]; exact h7)
  rw [List.length_append, ← Nat.add_assoc, hp, List.append_assoc] at this
  exact this
theorem Lx.first {g : Nat} {v : List Nat} {m : Nat} {ll : List Tok} (h : Lx g v m ll) : ∃ a b, ll = a :: b ∧ ∃ w, Gap w ∧ a.pos = ((m + w.length : Nat) : Int) ∧ v.take w.length = w ∧ w.length ≤ v.length := by
 cases h with
 | fin _ _ hw => exact ⟨_, _, rfl, v, hw, rfl, by simp, Nat.le_refl _⟩
 | tok w u _ _ _ _ hw => exact ⟨_, _, rfl, w, hw, rfl, by simp, by simp⟩
theorem aDg (r v : List Nat) (c : Nat) : (r ++ c :: v).drop (r.length + 1) = v := by
 rw [show r.length + 1 = (r ++ [c]).length by simp, show r ++ c :: v = (r ++ [c]) ++ v by simp, List.drop_left]
theorem sV : ∀ (u : List Nat), Gap (u.takeWhile (cV cG))
 | [] => .nil
 | c :: u => by
  cases e : cV cG c with
  | false => simp [e]; exact .nil
  | true => simp [e]; exact .blank c _ e (sV u)
theorem wC : ∀ (u : List Nat) (i k : Nat), cX 34 u i = ((i + k : Nat) : Int) → ∃ r w, u = r ++ 34 :: w ∧ r.length = k ∧ ∀ c ∈ r, c ≠ 34
 | [], i, k, h => by
  have : cX 34 [] i = -1 := rfl
  omega
 | c :: u, i, k, h => by
  have e : cX 34 (c :: u) i = bif Nat.beq c 34 then Int.ofNat i else cX 34 u (i + 1) := rfl
  cases hc : Nat.beq c 34 with
  | true =>
   rw [e, hc] at h
   have : c = 34 := Nat.eq_of_beq_eq_true hc
   subst this
   have h : (i : Int) = ((i + k : Nat) : Int) := h
   exact ⟨[], u, rfl, by simp; omega, by simp⟩
  | false =>
   rw [e, hc] at h
   have h : cX 34 u (i + 1) = ((i + k : Nat) : Int) := h
   have hne : c ≠ 34 := fun e2 => by rw [e2] at hc; cases hc
   have hk : 1 ≤ k := by
    apply Decidable.byContradiction
    intro hn
    have hge := mM 34 u (i + 1) (by omega)
    obtain ⟨k', h1, h2⟩ := hge
    omega
   obtain ⟨r, w, a, b, d⟩ := wC u (i + 1) (k - 1) (by rw [h]; congr 1; omega)
   refine ⟨c :: r, w, by rw [a]; rfl, by simp [b]; omega, fun x hx => ?_⟩
   rcases List.mem_cons.1 hx with rfl | hx
   ·exact hne
   ·exact d x hx
theorem bHu (so : Nat → Bool) (u : List Nat) : u = u.takeWhile so ++ u.drop (u.takeWhile so).length := by
 induction u with
 | nil => rfl
 | cons c u ih =>
  cases e : so c with
  | false => simp [e]
  | true =>
   simp [e]
   exact ih
theorem zC {g : Nat} {s : List Nat} (hg : s.length < g) : ∀ (f i : Nat) (out : List Tok) (res : List Tok × Int × Int), i ≤ s.length → iY g s f i out = some res → res.2.2 = 0 → ∃ l, res = (out ++ l, 0, 0) ∧ Lx g (s.drop i) i l
 | 0, i, out, res, hi, h => by cases h
 | f + 1, i, out, res, hi, h => by
  intro he
  have hle := oZ (cV cG) (s.drop i)
  have hdl : (s.drop i).length = s.length - i := by simp
  have hsp := bHu (cV cG) (s.drop i)
  have hgap := sV (s.drop i)
  unfold iY at h
  generalize hw : (s.drop i).takeWhile (cV cG) = w at *
  rw [List.drop_drop] at hsp
  by_cases h1 : s.length ≤ i + w.length
  ·rw [if_pos h1] at h
   cases h
   refine ⟨_, rfl, ?_⟩
   rw [List.drop_eq_nil_of_le h1, List.append_nil] at hsp
   rw [hsp, show s.length = i + w.length by omega]
   exact .fin w i hgap
  ·rw [if_neg h1] at h
   by_cases h2 : nx s (i + w.length) = 34
   ·rw [if_pos h2] at h
    by_cases h3 : cX 34 (s.drop (i + w.length + 1)) 0 < 0
    ·rw [if_pos h3] at h
     cases h
     cases he
    ·rw [if_neg h3] at h
     obtain ⟨k, k1, k2⟩ := mM 34 _ _ h3
     obtain ⟨r, w', a1, a2, a3⟩ := wC _ 0 k k2
     rw [k2] at h
     simp only [Nat.zero_add, Int.toNat_natCast] at h
     simp at k1
     obtain ⟨l, b1, b2⟩ := zC hg f _ out res (by omega) h he
     refine ⟨l, b1, ?_⟩
     rw [hsp]
     have hd : s.drop (i + w.length) = 34 :: (r ++ 34 :: w') := by
      rw [← a1]
      have hlt : i + w.length < s.length := by omega
      rw [List.drop_eq_getElem_cons hlt]
      congr 1
      rw [nx, List.getD, List.getElem?_eq_getElem hlt] at h2
      exact h2
     have hd2 : s.drop (i + w.length + k + 2) = w' := by
      rw [show i + w.length + k + 2 = (i + w.length) + (k + 2) by omega, ← List.drop_drop, hd]
      rw [show k + 2 = (k + 1) + 1 by omega, List.drop_succ_cons, ← a2, aDg]
     rw [hd2] at b2
     rw [hd]
     have := cCs (w := w ++ 34 :: (r ++ [34])) (p := i) (u := w') (by
      have e : i + (w ++ 34 :: (r ++ [34])).length = i + w.length + k + 2 := by simp; omega
      rw [e]; exact b2) (hgap.app (by simpa using Gap.rem r [] a3 .nil))
     simpa using this
   ·rw [if_neg h2] at h
    obtain ⟨rs, c1, c2⟩ := bC h
    have hu : s.drop (i + w.length) ≠ [] := by
     intro h
     have := congrArg List.length h
     simp at this
     omega
    obtain ⟨rs', d1, d2⟩ := aYk (f := g) hu (by simp; omega)
    rw [c1] at d1
    cases d1
    by_cases h4 : rs.2.2.2.1 = 0
    ·rw [if_pos h4] at c2
     obtain ⟨e1, e2, e3, e4⟩ := d2 h4
     rw [if_neg (by omega)] at c2
     simp at e2
     obtain ⟨l, b1, b2⟩ := zC hg f _ _ res (by omega) c2 he
     refine ⟨⟨rs.1, rs.2.1, rs.2.2.1, ((i + w.length : Nat) : Int)⟩ :: l, by rw [b1]; simp, ?_⟩
     rw [hsp]
     refine .tok w _ i _ rs l hgap c1 h4 rfl e1 (by simp; omega) e3 ?_
     rw [List.drop_drop]
     exact b2
    ·rw [if_neg h4] at c2
     cases c2
     exact absurd he h4
theorem aCo {g : Nat} {s : List Nat} {out : List Tok} {X : List Tok × Int × Int} {u w : List Nat} (hw : Gap w) : ∀ (i f : Nat), s.drop i = w ++ u → i ≤ s.length → (∀ f, u.length < f → iY g s f (i + w.length) out = some X) → (w ++ u).length < f → iY g s f i out = some X := by
 induction hw with
 | nil => intro i f hd hi H hf; exact H f (by simpa using hf)
 | blank c w hc _ ih =>
  intro i f hd hi H hf
  obtain ⟨f, rfl⟩ : ∃ q, f = q + 1 := ⟨f - 1, by simp at hf; omega⟩
  have hd' : s.drop (i + 1) = w ++ u := by
   have := congrArg (List.drop 1) hd
   simpa [List.drop_drop] using this
  have hi' : i + 1 ≤ s.length := by
   have := congrArg List.length hd
   simp at this
   omega
  have := ih (i + 1) (f + 1) hd' hi' (fun f hf => by
   have := H f hf
   rw [List.length_cons] at this
   rw [show i + 1 + w.length = i + (w.length + 1) by omega]
   exact this) (by simp at hf ⊢; omega)
  rw [← this]
  have e : ((s.drop i).takeWhile (cV cG)).length = ((s.drop (i + 1)).takeWhile (cV cG)).length + 1 := by
   rw [hd, hd']; simp [hc]
  unfold iY
  rw [e, show i + (((s.drop (i + 1)).takeWhile (cV cG)).length + 1) = i + 1 + ((s.drop (i + 1)).takeWhile (cV cG)).length by omega]
 | rem r w hr _ ih =>
  intro i f hd hi H hf
  obtain ⟨f, rfl⟩ : ∃ q, f = q + 1 := ⟨f - 1, by simp at hf; omega⟩
  have hd' : s.drop (i + 1) = r ++ 34 :: (w ++ u) := by
   have := congrArg (List.drop 1) hd
   simpa [List.drop_drop] using this
  have hd2 : s.drop (i + r.length + 2) = w ++ u := by
   have := congrArg (List.drop (r.length + 1)) hd'
   rw [List.drop_drop, aDg] at this
   rw [show i + r.length + 2 = i + 1 + (r.length + 1) by omega]
   exact this
  have hl := congrArg List.length hd
  simp at hl hf
  have hidx : ∀ (r : List Nat) (v : List Nat) (j : Nat), (∀ c ∈ r, c ≠ 34) → cX 34 (r ++ 34 :: v) j = ((j + r.length : Nat) : Int) := by
   intro r
   induction r with
   | nil => intro v j _; rfl
   | cons c r ih =>
    intro v j hc
    have hne : Nat.beq c 34 = false := by
     cases e : Nat.beq c 34 with
     | false => rfl
     | true => exact absurd (Nat.eq_of_beq_eq_true e) (hc c (by simp))
    show (bif Nat.beq c 34 then Int.ofNat j else cX 34 (r ++ 34 :: v) (j + 1)) = _
    rw [hne]
    show cX 34 (r ++ 34 :: v) (j + 1) = _
    rw [ih v (j + 1) (fun x hx => hc x (by simp [hx]))]
    congr 1
    simp; omega
  unfold iY
  have e : (s.drop i).takeWhile (cV cG) = [] := by
   rw [hd]
   have : cV cG 34 = false := by decide
   simp [this]
  rw [e]
  simp only [List.length_nil, Nat.add_zero]
  rw [if_neg (by omega)]
  have h34 : nx s i = 34 := by
   have : s[i]? = some 34 := by
    have := congrArg (fun l => l[0]?) hd
    simpa using this
   rw [nx, List.getD, this]; rfl
  have hx := hidx r (w ++ u) 0 hr
  rw [Nat.zero_add] at hx
  rw [if_pos h34, hd', if_neg (by rw [hx]; omega), hx, Int.toNat_natCast]
  refine ih (i + r.length + 2) f hd2 (by omega) (fun f hf => ?_) (by simp; omega)
  have := H f hf
  rw [show i + r.length + 2 + w.length = i + (34 :: (r ++ 34 :: w)).length by simp; omega]
  exact this
theorem bBr {g : Nat} {s : List Nat} : ∀ (l : List Tok) (u : List Nat) (i f : Nat) (out : List Tok), Lx g u i l → s.drop i = u → i ≤ s.length → u.length < f → iY g s f i out = some (out ++ l, 0, 0) := by
 intro l
 induction l with
 | nil => intro u i f out h; cases h
 | cons t l ih =>
  intro u i f out h hd hi hf
  cases h with
  | fin _ _ hw =>
   refine aCo (u := []) hw i f (by simpa using hd) hi (fun f hf => ?_) (by simpa using hf)
   obtain ⟨f, rfl⟩ : ∃ q, f = q + 1 := ⟨f - 1, by omega⟩
   have hl := congrArg List.length hd
   simp at hl
   unfold iY
   rw [if_pos (by omega), show s.length = i + u.length by omega]
  | tok w u _ k rs l hw h1 h2 h3 h4 h5 h6 h7 =>
   refine aCo (u := u) hw i f hd hi (fun f hf => ?_) hf
   obtain ⟨f, rfl⟩ : ∃ q, f = q + 1 := ⟨f - 1, by omega⟩
   have hl := congrArg List.length hd
   simp at hl
   have hd' : s.drop (i + w.length) = u := by
    rw [← List.drop_drop, hd]; simp
   obtain ⟨q1, q2, _⟩ := aFy h1 h2
   have hne : u ≠ [] := by
    intro e; rw [e] at h5; simp at h5; omega
   obtain ⟨c, u', rfl⟩ : ∃ c u', u = c :: u' := by cases u with
    | nil => exact absurd rfl hne
    | cons c u' => exact ⟨c, u', rfl⟩
   have q1 : cV cG c = false := q1
   have q2 : c ≠ 34 := q2
   unfold iY
   rw [hd', show (c :: u').takeWhile (cV cG) = [] by simp [q1]]
   simp only [List.length_nil, Nat.add_zero]
   have hx : nx s (i + w.length) = c := by
    have : s[i + w.length]? = some c := by
     have := congrArg (fun l => l[0]?) hd'
     simpa using this
    rw [nx, List.getD, this]; rfl
   simp at hl h5
   rw [if_neg (by omega), hx, if_neg q2, hd', h1]
   simp only [Option.bind_some]
   rw [if_pos h2, if_neg (by rw [h3]; simp; omega), h3]
   subst h3
   rw [ih (((c :: u').drop rs.2.2.2.2)) (i + w.length + rs.2.2.2.2) f (out ++ [(⟨rs.1, rs.2.1, rs.2.2.1, ((i + w.length : Nat) : Int)⟩ : Tok)]) h7 (by rw [← List.drop_drop, hd']) (by omega) (by simp at hf ⊢; omega)]
   simp
theorem wU {n : Nat} (h : n ≤ 1000000) : kC ((n : Int) + 1) = ((n + 1 : Nat) : Int) := by
 unfold kC
 rw [gV _ (by omega) (by omega)]
 omega
end Go.Dd

namespace Go.Dd
open Go.Proofs
section
variable {I : Im} {A L : Ls} {h : Hp} {p : Pos} {s : DV} {i : Nat} {st : PSt}
end
end Go.Dd

namespace Go.Dd
open Go.Proofs
end Go.Dd

namespace Go.Dd
open Go.Proofs
end Go.Dd

namespace Go.Dd
open Go.Proofs
section
variable {I : Im} {A L : Ls} {h : Hp} {p : Pos} {s : DV} {i : Nat} {st : PSt}
end
end Go.Dd

namespace Go.Dd
def TOk (t : Tok) : Prop := (t.kind = 4 → t.text = []) ∧ (t.kind = 5 ∨ t.kind = 6 → t.num = 0)
def GT (l : List Tok) : Prop := 1 ≤ l.length ∧ ∀ t ∈ l, TOk t
section
variable {α α' β β' : Type} {V : α → α' → Prop} {W : β → β' → Prop} {e : Int}
end
variable {a b : PSt}
end Go.Dd

namespace Go.Dd
variable {a b : PSt}
end Go.Dd

namespace Go.Dd
open Go.Proofs
end Go.Dd

namespace Go.Dd
theorem aOe {f : Nat} {u : List Nat} {rs : Int × List Nat × Int × Int × Nat} (h : bA f u = some rs) (p : Int) : TOk ⟨rs.1, rs.2.1, rs.2.2.1, p⟩ := by
 have key : (rs.1 = 4 → rs.2.1 = []) ∧ (rs.1 = 5 ∨ rs.1 = 6 → rs.2.2.1 = 0) := by
  unfold bA at h
  repeat' split at h
  all_goals first
   | (cases h; exact ⟨fun _ => rfl, fun e => by simp at e⟩)
   | (cases h; exact ⟨fun e => by simp at e, fun e => by simp at e⟩)
   | (obtain ⟨r, e1, e2⟩ := bC h; cases e2; exact ⟨fun e => by simp at e, fun _ => rfl⟩)
 exact key
theorem bPw {g : Nat} : ∀ (l : List Tok) (v : List Nat) (p : Nat), Lx g v p l → GT l := by
 intro l
 induction l with
 | nil => intro v p h; cases h
 | cons t l ih =>
  intro v p h
  cases h with
  | fin _ _ hw =>
   refine ⟨by simp, fun t ht => ?_⟩
   simp at ht
   subst ht
   exact ⟨fun e => (by cases e), fun e => (by rcases e with e | e <;> cases e)⟩
  | tok w u _ k rs l hw h1 h2 h3 h4 h5 h6 h7 =>
   have := ih _ _ h7
   refine ⟨by simp, fun t ht => ?_⟩
   rcases List.mem_cons.1 ht with rfl | ht
   ·exact aOe h1 _
   ·exact this.2 t ht
theorem bMk {u : List Nat} (hu : u.length ≤ 2000) {lx : List Tok × Int × Int} (hl : nD 2001 2001 u = some lx) (he : lx.2.2 = 0) : GT lx.1 ∧ Lx 2001 u 0 lx.1 := by
 unfold nD at hl
 rw [if_neg (by omega)] at hl
 obtain ⟨l, h1, h2⟩ := zC (by omega) 2001 0 [] lx (by omega) hl he
 have e : lx.1 = l := by rw [h1]; rfl
 rw [e]
 exact ⟨bPw _ _ _ h2, h2⟩
theorem bIk : ∀ (f : Nat) (st : PSt) (t : List Nat) (l : List (List Nat)), Good st.toks → (st.err = 0 → st.toks.length ≤ f ∧ t.length + st.toks.length * 10000 ≤ bQ) → 1 ≤ f → ∃ r st', kA f t l false st = some (r, st') ∧ Good st'.toks ∧ st'.toks.length ≤ st.toks.length ∧ (st'.err = 0 → st.err = 0)
 | 0, st, t, l, h, hb, hf => by omega
 | f + 1, st, t, l, h, hb, hf => by
  obtain ⟨u, r, e, hu, h2, h3⟩ := eE h
  unfold kA
  simp only [Bool.false_eq_true, if_false]
  rw [nE hu, Option.bind_some]
  cases hc : nA st u 2 [] with
  | false => exact ⟨(t, l), st, by simp, h, Nat.le_refl _, id⟩
  | true =>
   obtain ⟨c1, c2⟩ := cZ hc
   obtain ⟨b1, b2⟩ := hb c1
   obtain ⟨s1, a1, a2, a3, a4, a5, a6, a7, a8⟩ := eF h hu (by omega)
   have hn : bL st 2 [] = some (u, s1) := by
    unfold bL
    rw [nE hu, Option.bind_some, hc, if_pos rfl, a1]
   have htx := h.text e
   have hp := a6.pos
   simp only [if_true]
   rw [hn, Option.bind_some, if_pos (by show t.length + u.text.length ≤ bQ; omega)]
   obtain ⟨w, s2, g1, g2, g3⟩ := aMr a6 1 (.inl rfl) l.length
   rw [show (u, s1).2 = s1 from rfl, g1, Option.bind_some]
   obtain ⟨rr, s3, k1, k2, k3, k4⟩ := bIk f s2 (t ++ u.text) (l ++ [w]) g2.good (fun he => ⟨by omega, by
    have : s2.toks.length * 10000 ≤ s1.toks.length * 10000 := Nat.mul_le_mul_right _ g3
    simp; omega⟩) (by omega)
   exact ⟨rr, s3, k1, k2, by omega, fun _ => c1⟩
theorem aPi {f : Nat} {st : PSt} (h : Good st.toks) (hb : st.toks.length + 1 ≤ f) (hm : f ≤ 1000000) : ∃ r st', fY f st = some (r, st') ∧ Good st'.toks ∧ st'.toks.length ≤ st.toks.length := by
 obtain ⟨u, r, e, hu, h2, h3⟩ := eE h
 have hp := h.pos
 unfold fY
 rw [nE hu, Option.bind_some]
 cases hc : nA st u 1 [] with
 | true =>
  obtain ⟨c1, c2⟩ := cZ hc
  obtain ⟨s1, a1, a2, a3, a4, a5, a6, a7, a8⟩ := eF h hu (by omega)
  exact ⟨_, s1, by rw [if_pos rfl, a1]; rfl, a6, by omega⟩
 | false =>
  simp only [Bool.false_eq_true, if_false]
  rw [nE hu, Option.bind_some]
  cases hc : nA st u 3 [] with
  | true =>
   obtain ⟨c1, c2⟩ := cZ hc
   obtain ⟨s1, a1, a2, a3, a4, a5, a6, a7, a8⟩ := eF h hu (by omega)
   obtain ⟨w, s2, g1, g2, g3⟩ := aMr a6 1 (.inl rfl) 0
   exact ⟨_, s2, by rw [if_pos rfl, a1, Option.bind_some, show (u, s1).2 = s1 from rfl, g1]; rfl, g2.good, by omega⟩
  | false =>
   simp only [Bool.false_eq_true, if_false]
   obtain ⟨f, rfl⟩ : ∃ k, f = k + 1 := ⟨f - 1, by omega⟩
   unfold kA
   simp only [if_true, Option.bind_some]
   have first : ∃ v s1, bL st 2 [] = some (v, s1) ∧ Good s1.toks ∧ s1.toks.length ≤ st.toks.length ∧ v.text.length ≤ 10000 := by
    unfold bL
    rw [nE hu, Option.bind_some]
    cases hc : nA st u 2 [] with
    | true =>
     obtain ⟨c1, c2⟩ := cZ hc
     obtain ⟨s1, a1, a2, a3, a4, a5, a6, a7, a8⟩ := eF h hu (by omega)
     exact ⟨u, s1, by rw [if_pos rfl, a1], a6, by omega, h.text e⟩
    | false =>
     simp only [Bool.false_eq_true, if_false]
     rw [hu]
     exact ⟨z4, _, rfl, by rw [bY]; exact h, by rw [bY]; omega, by simp [z4]⟩
   obtain ⟨v, s1, d1, d2, d3, d4⟩ := first
   rw [d1, Option.bind_some, if_pos (by show ([] : List Nat).length + v.text.length ≤ bQ; simp [bQ]; omega)]
   obtain ⟨w, s2, g1, g2, g3⟩ := aMr d2 1 (.inl rfl) 0
   rw [show (v, s1).2 = s1 from rfl, show ([] : List (List Nat)).length = 0 from rfl, g1, Option.bind_some]
   have h2p := g2.good.pos
   obtain ⟨rr, s3, k1, k2, k3, k4⟩ := bIk f s2 ([] ++ v.text) ([] ++ [w]) g2.good (fun he => ⟨by omega, by
    have : s2.toks.length * 10000 ≤ 1000000 * 10000 := Nat.mul_le_mul_right _ (by omega)
    simp [bQ]; omega⟩) (by omega)
   exact ⟨rr, s3, k1, k2, by omega⟩
theorem aXs {st : PSt} (h : Good st.toks) (kd : Int) (hk : kd ≠ 0) (tx : List Nat) : ∃ t s', bL st kd tx = some (t, s') ∧ Good s'.toks ∧ s'.toks.length ≤ st.toks.length := by
 obtain ⟨u, r, e, hu, h2, h3⟩ := eE h
 unfold bL
 rw [nE hu, Option.bind_some]
 cases hc : nA st u kd tx with
 | true =>
  obtain ⟨c1, c2⟩ := cZ hc
  obtain ⟨s1, a1, a2, a3, a4, a5, a6, a7, a8⟩ := eF h hu (by rw [c2]; exact hk)
  exact ⟨u, s1, by rw [if_pos rfl, a1], a6, by omega⟩
 | false =>
  simp only [Bool.false_eq_true, if_false]
  rw [hu]
  exact ⟨z4, _, rfl, by rw [bY]; exact h, by rw [bY]; omega⟩
theorem bVl {f : Nat} {st : PSt} (h : Good st.toks) (hb : st.toks.length + 1 ≤ f) (hm : f ≤ 1000000) : ∃ x st', kH f st = some (x, st') ∧ Good st'.toks ∧ st'.toks.length ≤ st.toks.length := by
 obtain ⟨r, s1, a1, a2, a3⟩ := aPi h hb hm
 unfold kH
 rw [a1, Option.bind_some]
 obtain ⟨u, q, e, hu, h2, h3⟩ := eE a2
 unfold oU
 rw [nE hu]
 simp only [Option.bind_some]
 cases hc : nA s1 u 3 [60] with
 | false => exact ⟨_, s1, rfl, a2, a3⟩
 | true =>
  obtain ⟨c1, c2⟩ := cZ hc
  obtain ⟨s2, b1, b2, b3, b4, b5, b6, b7, b8⟩ := eF a2 hu (by omega)
  simp only [if_true]
  rw [b1, Option.bind_some]
  obtain ⟨t3, s3, d1, d2, d3⟩ := aXs b6 2 (by decide) primT
  rw [show (u, s2).2 = s2 from rfl, d1, Option.bind_some]
  obtain ⟨t4, s4, e1, e2, e3⟩ := aXs d2 4 (by decide) []
  rw [show (t3, s3).2 = s3 from rfl, e1, Option.bind_some]
  have g5 : Good (if 255 < t4.num then bV s4 t4 2 else s4).toks ∧ (if 255 < t4.num then bV s4 t4 2 else s4).toks.length = s4.toks.length := by
   split
   ·rw [bY]; exact ⟨e2, rfl⟩
   ·exact ⟨e2, rfl⟩
  obtain ⟨t5, s5, k1, k2, k3⟩ := aXs g5.1 3 (by decide) [62]
  rw [show (if 255 < (t4, s4).1.num then bV (t4, s4).2 (t4, s4).1 2 else (t4, s4).2) = (if 255 < t4.num then bV s4 t4 2 else s4) from rfl, k1]
  exact ⟨_, s5, rfl, k2, by omega⟩
theorem bTs {f : Nat} {st : PSt} (x : Node) (h : Good st.toks) (hf : st.toks.length + 3 ≤ f) (hm : f ≤ 1000000) : ∃ y s, aIt f x st = some (y, s) := by
 obtain ⟨ts, s2, b1, b2⟩ := aFc (f := f) h (fun _ => by omega) (by omega)
 have hl2 := b2.len
 obtain ⟨ks, s3, k, c1, c2, c3⟩ := aBr (aHi f (by omega) hm) f s2 [] b2.good (fun _ => by omega) (by omega)
 obtain ⟨u, s4, d1, d2, d3⟩ := tM c2.good 0 [] 0 (fun h => absurd rfl h) (fun _ => rfl)
 unfold aIt
 rw [b1, Option.bind_some, c1, Option.bind_some, d1]
 exact ⟨_, _, rfl⟩
theorem bDf {u : List Nat} (hu : u.length ≤ 2000) : ∃ lx res, nD 2001 2001 u = some lx ∧ fF (kH 2004) 2004 lx = some res ∧ (res.2.2 = 0 → res.2.1 = 0) := by
 obtain ⟨lx, hl, hg⟩ := bNj hu
 refine ⟨lx, ?_⟩
 by_cases e : lx.2.2 = 0
 ·obtain ⟨g1, g2⟩ := hg e
  obtain ⟨x, s1, h1, h2, h3⟩ := bVl (f := 2004) (st := ⟨lx.1, 0, 0, 0⟩) g1 (by show lx.1.length + 1 ≤ _; omega) (by omega)
  have h3 : s1.toks.length ≤ lx.1.length := h3
  obtain ⟨y, s2, h4⟩ := bTs (f := 2004) x h2 (by omega) (by omega)
  rw [aDq e, aGi, h1, Option.bind_some, h4]
  by_cases e2 : s2.err = 0
  ·exact ⟨(y, 0, 0), hl, by simp [e2], fun _ => rfl⟩
  ·exact ⟨(zN, s2.pos, s2.err), hl, by simp [e2], fun h => absurd h e2⟩
 ·refine ⟨(zN, lx.2.1, lx.2.2), hl, ?_, fun h => absurd h e⟩
  unfold fF
  rw [if_neg e]
end Go.Dd

namespace Go.Dd
open Go.Proofs
def Node.temps : Node → List (List Nat) | .mk _ _ _ _ ts _ => ts
def Node.names : Node → List (List Nat) | .mk _ _ _ ns _ _ => ns
def Node.num : Node → Int | .mk _ _ m _ _ _ => m
noncomputable def iV (u : List Nat) : List Tok × Int × Int := (nD 2001 2001 u).getD ([], 0, 0)
noncomputable def dV (u : List Nat) : Node × Int × Int := (fF rH 2004 (iV u)).getD (zN, 0, 0)
noncomputable def dN (u : List Nat) : Node × Int × Int := (fF (kH 2004) 2004 (iV u)).getD (zN, 0, 0)
theorem sS {u : List Nat} (h : 2000 < u.length) : nD 2001 2001 u = some ([], 0, 12) := by
 unfold nD
 rw [if_pos h]
theorem jV (u : List Nat) : nD 2001 2001 u = some (iV u) := by
 unfold iV
 by_cases h : u.length ≤ 2000
 ·obtain ⟨lx, h1, _⟩ := bNj h
  rw [h1]; rfl
 ·rw [sS (by omega)]; rfl
theorem mI (u : List Nat) : fF rH 2004 (iV u) = some (dV u) := by
 unfold dV
 by_cases h : u.length ≤ 2000
 ·obtain ⟨lx, res, h1, h2, _⟩ := bRq h
  have e : iV u = lx := by unfold iV; rw [h1]; rfl
  rw [e, h2]; rfl
 ·have e : iV u = ([], 0, 12) := by unfold iV; rw [sS (by omega)]; rfl
  rw [e]; rfl
theorem kG (u : List Nat) : fF (kH 2004) 2004 (iV u) = some (dN u) := by
 unfold dN
 by_cases h : u.length ≤ 2000
 ·obtain ⟨lx, res, h1, h2, _⟩ := bDf h
  have e : iV u = lx := by unfold iV; rw [h1]; rfl
  rw [e, h2]; rfl
 ·have e : iV u = ([], 0, 12) := by unfold iV; rw [sS (by omega)]; rfl
  rw [e]; rfl
def pI (s : List Nat) (x : Node) (r : Node × Int × Int) : List Nat × Int := if r.2.2 = 0 ∧ nEq x r.1 = true then (s, 0) else ([], 1)
noncomputable def aIe (x : Node) : List Nat × Int := pI (aS x.temps (gG x.kids)) x (dV (aS x.temps (gG x.kids)))
theorem bHf (n : Nat) (x y z w : DV) (h : Hp) : aI (n + 1) 22 [x, y, z, w] h = s22 (aI n) n x y z w h := by kernel_rfl
theorem bCq (n : Nat) (x : DV) (h : Hp) : aI (n + 1) 13 [x] h = s13 (aI n) n x h := by kernel_rfl
section
variable {I : Im} {A L : Ls} {h : Hp}
theorem aKw {Q : Ls} {x y : Node} {c d : List DV} {s : List Nat} {a e : Int} (S : Sy I A Q L h) (N : NV I x c) (M : NV I y d) :
 Ev (fun n => aI n 22 [.s s, .a c, .a d, .i .i64 e] h) (fun v h' => v = .t [.s (pI s x (y, a, e)).1, .i .i64 (pI s x (y, a, e)).2] ∧ Sy I A Q L h') := by
 obtain ⟨c1, o1, b1⟩ := N.shape
 obtain ⟨c2, o2, b2⟩ := M.shape
 refine Ev.enter (fun n => bHf n _ _ _ _ h) ?_
 unfold s22
 refine Ev.box S rfl (fun p h1 S1 => ?_)
 refine Ev.box S1 rfl (fun q h2 S2 => ?_)
 refine bZy (fun e1 => ?_) (fun e1 => ?_)
 ·have e1' : ¬ e = 0 := e1
  refine yg (yg (yg (yg (ap (yt ?_)))))
  exact bZg ⟨by simp [pI, e1'], dp⟩
 ·have e1' : e = 0 := e1
  refine zf ?_; refine ws ?_; refine zf ?_; refine ws ?_; refine zf ?_
  refine bZe (aEs x y I A Q _ _ c d (by assumption) N M) ?_
  rintro _ h3 ⟨rfl, S3⟩
  cases en : nEq x y with
  | true =>
   refine zf (an (aq (yj ?_)))
   exact bZg ⟨by simp [pI, e1', en], dp⟩
  | false =>
   refine zf (ao (aq (yt ?_)))
   exact bZg ⟨by simp [pI, e1', en], dp⟩
theorem aOp {x : Node} {cs : List DV} (S : Sy I A [] L h) (N : NV I x cs) (T : ∀ y ∈ x.kids, kQ y) (hl : (aS x.temps (gG x.kids)).length ≤ bQ) (hb : ∀ c ∈ aS x.temps (gG x.kids), c < 256) :
 Ev (fun n => aI n 13 [.a cs] h) (fun v h' => v = .t [.s (aIe x).1, .i .i64 (aIe x).2] ∧ Sy I A [] L h') := by
 obtain ⟨c1, o1, b1⟩ := N.shape
 have N0 := N
 obtain ⟨k, t, m, ns, ts, ks⟩ := x
 have hl' : (aS ts (gG ks)).length ≤ 100000000000 := hl
 refine Ev.enter (fun n => bCq n _ h) ?_
 unfold s13
 refine Ev.box S rfl (fun p h1 S1 => ?_)
 refine cBg S1 (eG) c1 o1 ?_
 refine bZe (pO S1 N0 T hl') ?_
 rintro _ h2 ⟨rfl, S2⟩
 refine bZe (xR S2 hl hb 2001 2001 2004 (by simp [bQ]) (by simp [bQ]) _ (jV _) _ (mI _)) ?_
 rintro _ h3 ⟨J, ds, rfl, g3, S3, N3⟩
 obtain ⟨c3, o3, b3⟩ := N3.shape
 refine wx ?_; refine wx ?_; refine wx ?_; refine wa fun _ _ _ => ?_; refine wt fun _ _ => ?_; refine ws ?_; refine ws ?_
 refine bZe (aKw (a := (dV (aS ts (gG ks))).2.1) (by assumption) (N0.mono g3) N3) ?_
 rintro _ h5 ⟨rfl, S5⟩
 refine wx ?_; refine wx ?_
 exact bZg ⟨rfl, (dp : Sy J A [] L _).weak g3⟩
end
end Go.Dd

namespace Go.Dd
open Go.Proofs
def AB (l : List Nat) : Prop := ∀ c ∈ l, c < 256
theorem AB.nil : AB [] := fun c h => by cases h
theorem AB.cons {x : Nat} {l : List Nat} (h : x < 256) (H : AB l) : AB (x :: l) := fun c hc => by
 rcases List.mem_cons.1 hc with rfl | hc
 ·exact h
 ·exact H c hc
theorem AB.app {l k : List Nat} (H : AB l) (K : AB k) : AB (l ++ k) := fun c hc => by
 rcases List.mem_append.1 hc with hc | hc
 ·exact H c hc
 ·exact K c hc
theorem AB.join {sep : List Nat} (h : AB sep) : ∀ {l : List (List Nat)}, (∀ x ∈ l, AB x) → AB (aF sep l)
 | [], _ => AB.nil
 | [x], H => H x (by simp)
 | x :: y :: l, H => (H x (by simp)).app (h.app (AB.join h (l := y :: l) fun z hz => H z (by simp [hz])))
theorem cCk {c : Nat} {new : List Nat} (h : AB new) : ∀ {l : List Nat}, AB l → AB (dC c new l)
 | [], _ => AB.nil
 | x :: l, H => by
  have ih := cCk h (c := c) (l := l) fun z hz => H z (by simp [hz])
  show AB (bif Nat.beq x c then new ++ dC c new l else x :: dC c new l)
  cases Nat.beq x c with
  | true => exact h.app ih
  | false => exact AB.cons (H x (by simp)) ih
theorem cBv : ∀ (f n : Nat) (acc : List Nat), AB acc → AB (eR f n acc)
 | 0, n, acc, H => H
 | f + 1, n, acc, H => by
  show AB (bif Nat.ble 10 n then eR f (n / 10) ((48 + n % 10) :: acc) else (48 + n) :: acc)
  have h1 : 48 + n % 10 < 256 := by omega
  cases e : Nat.ble 10 n with
  | true => exact cBv f _ _ (AB.cons h1 H)
  | false =>
   have : ¬ 10 ≤ n := fun h => by rw [Nat.ble_eq_true_of_le h] at e; cases e
   exact AB.cons (by omega) H
theorem AB.itoa (n : Int) : AB (fN n) := by
 cases n with
 | ofNat n => exact cBv _ _ _ AB.nil
 | negSucc n => exact AB.cons (by omega) (cBv _ _ _ AB.nil)
theorem cBh {c : Nat} : ∀ {l acc : List Nat}, AB acc → AB l → ∀ x ∈ cH c acc l, AB x
 | [], acc, H, _, x, hx => by
  simp [cH] at hx
  subst hx; exact H
 | y :: l, acc, H, K, x, hx => by
  have K' : AB l := fun z hz => K z (by simp [hz])
  have H' : AB (acc ++ [y]) := H.app (AB.cons (K y (by simp)) AB.nil)
  unfold cH at hx
  cases e : Nat.beq y c with
  | true =>
   rw [e] at hx
   rcases List.mem_cons.1 hx with rfl | hx
   ·exact H'
   ·exact cBh AB.nil K' x hx
  | false =>
   rw [e] at hx
   exact cBh H' K' x hx
theorem AB.parts {s : List Nat} (H : AB s) : ∀ x ∈ dF s, AB x := fun x hx => cBh AB.nil H x (List.dropLast_subset _ hx)
def ABk (l : List (Nat × List Nat)) : Prop := ∀ p ∈ l, AB p.2
theorem cBi {l : List (Nat × List Nat)} (H : ABk l) (i h : Nat) : AB (bO l i h) := by
 unfold bO
 split
 ·exact AB.nil
 ·rename_i own x e
  have := H (own, x) (List.mem_of_getElem? e)
  split
  ·exact AB.cons (by omega) (this.app (AB.cons (by omega) AB.nil))
  ·exact this
theorem AB.keys {a : List (Nat × List Nat)} (H : ABk a) : ∀ {ps : List (List Nat)} {i : Nat}, (∀ x ∈ ps, AB x) → ∀ x ∈ fW ps a i, AB x
 | [], i, _, x, hx => by simp [fW] at hx
 | p :: ps, i, K, x, hx => by
  simp only [fW, List.mem_cons] at hx
  rcases hx with rfl | hx
  ·exact (K p (by simp)).app (AB.cons (by omega) (cBi H _ _))
  ·exact AB.keys H (fun z hz => K z (by simp [hz])) x hx
theorem cBl {s : List Nat} {a : List (Nat × List Nat)} (H : AB s) (K : ABk a) : AB (aR s a) := by
 unfold aR
 split
 ·exact H
 ·split
  ·exact H.app (AB.cons (by omega) (cBi K _ _))
  ·exact AB.join (AB.cons (by omega) AB.nil) (AB.keys K H.parts)
theorem AB.send {s : List Nat} {a : List (Nat × List Nat)} (H : AB s) (K : ABk a) : AB (fP s a) := by
 unfold fP
 split
 ·exact AB.nil
 ·exact (cBi K _ _).app (AB.cons (by omega) (cBl H fun p hp => K p (List.mem_of_mem_drop hp)))
theorem AB.body {ts kids : List (List Nat)} (H : ∀ x ∈ ts, AB x) (K : ∀ x ∈ kids, AB x) : AB (aS ts kids) := by
 unfold aS
 refine AB.app ?_ (AB.join (AB.cons (by omega) (AB.cons (by omega) AB.nil)) K)
 split
 ·exact AB.nil
 ·exact AB.cons (by omega) (AB.cons (by omega) ((AB.join (AB.cons (by omega) AB.nil) H).app (AB.cons (by omega) (AB.cons (by omega) (AB.cons (by omega) AB.nil)))))
theorem AB.names : ∀ {l : List (List Nat)}, (∀ x ∈ l, AB x) → AB (bG l)
 | [], _ => AB.nil
 | p :: l, H => AB.cons (by omega) ((H p (by simp)).app (AB.cons (by omega) (AB.names fun z hz => H z (by simp [hz]))))
mutual
def By : Node → Prop
 | .mk k t m ns ts ks => AB t ∧ (∀ x ∈ ns, AB x) ∧ (∀ x ∈ ts, AB x) ∧ ByL ks
def ByL : List Node → Prop
 | [] => True
 | x :: l => By x ∧ ByL l
end
def NfB (x : Nf) : Prop := AB x.t ∧ AB x.tx ∧ ABk x.ks
theorem cCl {l : List Nf} (H : ∀ x ∈ l, NfB x) : AB (jR l) := by
 unfold jR
 split
 ·rename_i a b r
  refine AB.app (AB.send (H b (by simp)).1 ?_) (AB.join AB.nil ?_)
  ·intro p hp
   rcases List.mem_cons.1 hp with rfl | hp
   ·exact (H a (by simp)).2.1
   ·exact (H b (by simp)).2.2 p hp
  ·intro x hx
   obtain ⟨y, hy, rfl⟩ := List.mem_map.1 hx
   have := H y (by simp [hy])
   exact AB.cons (by omega) (AB.cons (by omega) (cBl this.1 this.2.2))
 ·exact AB.nil
mutual
theorem By.nf : ∀ {x : Node}, By x → NfB (nf x)
 | .mk k t m ns ts ks, ⟨h1, h2, h3, h4⟩ => by
  have K := ByL.nf h4
  have Kt : ∀ x ∈ (qH ks).map Nf.tx, AB x := fun x hx => by
   obtain ⟨y, hy, rfl⟩ := List.mem_map.1 hx
   exact (K y hy).2.1
  have Kh : ABk ((qH ks).map Nf.ht) := fun p hp => by
   obtain ⟨y, hy, rfl⟩ := List.mem_map.1 hp
   exact (K y hy).2.1
  refine ⟨h1, ?_, Kh⟩
  show AB (vT k t m ns ts (qH ks))
  unfold vT
  split
  ·exact AB.itoa m
  split
  ·exact AB.cons (by omega) ((cCk (AB.cons (by omega) (AB.cons (by omega) AB.nil)) h1).app (AB.cons (by omega) AB.nil))
  split
  ·exact AB.cons (by omega) h1
  split
  ·exact AB.cons (by omega) (AB.cons (by omega) ((AB.join (AB.cons (by omega) AB.nil) Kt).app (AB.cons (by omega) AB.nil)))
  split
  ·exact h1.app (AB.cons (by omega) (AB.cons (by omega) (AB.cons (by omega) (AB.cons (by omega) (AB.join AB.nil Kt)))))
  split
  ·exact AB.cons (by omega) (AB.join AB.nil Kt)
  split
  ·exact AB.send h1 Kh
  split
  ·exact cCl K
  split
  ·refine AB.cons (by omega) (AB.app ?_ ((AB.body h3 Kt).app (AB.cons (by omega) AB.nil)))
   split
   ·exact AB.nil
   ·exact (AB.names h2).app (AB.cons (by omega) (AB.cons (by omega) AB.nil))
  ·exact h1
theorem ByL.nf : ∀ {l : List Node}, ByL l → ∀ y ∈ qH l, NfB y
 | [], _ => fun y hy => by cases hy
 | x :: l, ⟨h1, h2⟩ => fun y hy => by
  have p := By.nf h1
  have q := ByL.nf h2
  rcases List.mem_cons.1 (show y ∈ Go.Dd.nf x :: qH l from hy) with e | hy
  ·rw [e]; exact p
  ·exact q y hy
end
theorem ByL.mem : ∀ {l : List Node}, ByL l → ∀ y ∈ l, By y
 | [], _ => fun y hy => by cases hy
 | x :: l, h => fun y hy => by
  rcases List.mem_cons.1 hy with e | hy
  ·rw [e]; exact h.1
  ·exact ByL.mem h.2 y hy
theorem By.body {x : Node} (h : By x) : AB (aS x.temps (gG x.kids)) := by
 obtain ⟨k, t, m, ns, ts, ks⟩ := x
 obtain ⟨h1, h2, h3, h4⟩ := h
 refine AB.body h3 fun z hz => ?_
 obtain ⟨y, hy, rfl⟩ := List.mem_map.1 hz
 exact (By.nf (h4.mem y hy)).2.1
theorem tI : ∀ (f n : Nat) (acc : List Nat), (eR f n acc).length ≤ f + acc.length
 | 0, n, acc => by simp [eR]
 | f + 1, n, acc => by
  show (bif Nat.ble 10 n then eR f (n / 10) ((48 + n % 10) :: acc) else (48 + n) :: acc).length ≤ _
  cases Nat.ble 10 n with
  | false => simp; omega
  | true =>
   have := tI f (n / 10) ((48 + n % 10) :: acc)
   simp at this ⊢; omega
theorem aCn (n : Int) : (fN n).length ≤ 21 := by
 cases n with
 | ofNat n =>
  have := tI 20 n []
  show (eR 20 n []).length ≤ 21
  simp at this; omega
 | negSucc n =>
  have := tI 20 (Nat.succ n) []
  show (45 :: eR 20 (Nat.succ n) []).length ≤ 21
  simp at this ⊢; omega
def cN (l : List (List Nat)) : Nat := (l.map List.length).sum
theorem kT (sep : List Nat) : ∀ (l : List (List Nat)), (aF sep l).length ≤ cN l + l.length * sep.length
 | [] => by simp [aF]
 | [x] => by simp [aF, cN]
 | x :: y :: l => by
  have := kT sep (y :: l)
  simp only [aF, List.length_append, cN, List.map_cons, List.sum_cons, List.length_cons] at this ⊢
  rw [show (l.length + 1 + 1) * sep.length = (l.length + 1) * sep.length + sep.length by rw [Nat.add_mul _ 1]; omega]
  omega
theorem lK {c : Nat} : ∀ (l acc : List Nat), cN (cH c acc l) = acc.length + l.length ∧ (cH c acc l).length ≤ l.length + 1
 | [], acc => by simp [cH, cN]
 | x :: l, acc => by
  have h1 := lK (c := c) l []
  have h2 := lK (c := c) l (acc ++ [x])
  unfold cH
  cases Nat.beq x c with
  | true =>
   simp only [cond_true, cN, List.map_cons, List.sum_cons, List.length_cons, List.length_append] at h1 ⊢
   simp at h1 ⊢
   omega
  | false =>
   simp only [cond_false, List.length_cons]
   simp at h2
   omega
theorem mN : ∀ (l : List (List Nat)), cN l.dropLast ≤ cN l
 | [] => by simp
 | [x] => by simp [cN]
 | x :: y :: l => by
  have := mN (y :: l)
  simp only [List.dropLast_cons_cons, cN, List.map_cons, List.sum_cons] at this ⊢
  omega
theorem wD (s : List Nat) : cN (dF s) ≤ s.length ∧ (dF s).length ≤ s.length := by
 obtain ⟨h1, h2⟩ := lK (c := 58) s []
 have := mN (cH 58 [] s)
 unfold dF
 constructor
 ·simp at h1; omega
 ·simp; omega
theorem jK {x : Nat} : ∀ {l : List Nat}, x ∈ l → x ≤ l.sum
 | y :: l, h => by
  rcases List.mem_cons.1 h with rfl | h
  ·simp
  ·have := jK h; simp; omega
end Go.Dd

namespace Go.Dd
open Go.Proofs Go.RowKit
section
variable {H : Type} {enc : TypeId × Value → H} {w : World}
end
end Go.Dd

namespace Go.Dd
open Go.Proofs Go.RowKit
abbrev bUw : List (String × DataW Unit) := YtliejomdaookoaaGreatDoor.Rows.showApartRow.laid
theorem aVn : (YtliejomdaookoaaGreatDoor.Rows.laid_internal_strconv_uint64pow10 : DataW Unit) = Lib.tabData .u64 Lib.pow10Tab := by kernel_rfl
theorem aVr {W : World} (hL : laidMet Tryz.prog bUw W) (hs : W.ShapedOpen Tryz.prog) : Facts W := by
 refine ⟨Tryz.laysM143.s1_3 W hs, ?_⟩
 obtain ⟨g, t, cs, fuel, p, hg, ht, hv, hd⟩ := Lib.laidMet.reads hL (n := "internal/strconv.uint64pow10") (d := YtliejomdaookoaaGreatDoor.Rows.laid_internal_strconv_uint64pow10) (.tail _ (.tail _ (.head _)))
 have e1 : Tryz.prog.globalNamed "internal/strconv.uint64pow10" = some 1 := by kernel_rfl
 obtain rfl := Option.some.inj (e1.symm.trans hg)
 have e2 : (Tryz.prog.globals[1]?).map (·.type) = some 136 := by kernel_rfl
 obtain rfl := Option.some.inj (e2.symm.trans ht)
 rw [aVn] at hd
 have hc := Lib.cells_of_tab Tryz.underlying136 Tryz.underlying124 (by kernel_rfl) (by kernel_rfl) hd
 unfold World.var? at hv
 rw [e1] at hv
 simp only [Option.bind_some] at hv
 split at hv
 ·rename_i cs' t' z' hh
  obtain rfl := Option.some.inj hv
  refine ⟨t', z', ?_⟩
  rw [hh]
  congr 2
  rw [← hc]
 ·cases hv
theorem yC {H : Type} {enc : TypeId × Value → H} {a : Assume} {C : Checked} {os : Os} {f : FuncId} {fn : Func} {s : ChangeSpec} {conds : List PathCond} {apart fresh handsOn again : Bool} {X : World → Array Value → Prop}
 (hX : ∀ (w w' : World) (args : Array Value), w.heap = w'.heap → X w args → X w' args)
 (own : ownKnob C.prog.godebug = none) (started : os.Started) (noInit : C.prog.inits.idxOf? f = none) (hfn : C.prog.funcs[f]? = some fn)
 (witness : ∃ (w : World) (tape : Tape) (i : Input), w.os = os ∧ (w.forCall tape i).Shaped C.prog ∧ i.vars = [] ∧ Input.okWide C.prog (w.forCall tape i) .any w.heap.size f i ∧
  ((s.pre enc C.prog fn conds apart (w.forCall tape i).memory i.args ∧ X (w.forCall tape i).memory i.args) ∧ sizedMet enc C.prog fn (OpenSpec.ofChange s) apart (w.forCall tape i).memory i.args) ∧ a.holds C.prog (lone (Frame.enter C.prog f i.args .normal) [] (w.forCall tape i)))
 (contract : ∀ (W : World) (base : Nat) (args : Array Value) (ds gs : List (DataW H)) (before : List MemPlace),
  (∀ (j : Nat) t v, fn.params[j]? = some t → args[j]? = some v → Value.okWide C.prog W .any base t v) →
  DataW.Whole enc C.prog fn.params.toList s.vars apart W args.toList ds gs before →
  X W args → W.ShapedOpen C.prog →
  Calls C.prog f args W fun e W' => ∃ v, e = .returned v ∧ s.post enc C.prog fn apart fresh handsOn again W args v W') :
 ReturnsInHanded a C os f .any (fun w args => (s.pre enc C.prog fn conds apart w args ∧ X w args) ∧ sizedMet enc C.prog fn (OpenSpec.ofChange s) apart w args) (s.post enc C.prog fn apart fresh handsOn again) := by
 refine returnsInHanded_of_calls own started noInit witness ?_
 intro w tape i _ hsh _ hok hpre hholds
 obtain ⟨_, _, _, fn', hfn', _, _, _, _, hval⟩ := hok
 have e : fn' = fn := Option.some.inj (hfn'.symm.trans hfn)
 subst e
 obtain ⟨⟨⟨ds, gs, before, hw, hc⟩, hx⟩, hz⟩ := hpre
 have hw' := DataW.Whole.of_heap (w' := w.forCall tape i) (by rfl) hw
 refine (contract (w.forCall tape i) w.heap.size i.args ds gs before hval hw' (hX _ _ _ (by rfl) hx) hsh).mono fun e W' ⟨v, he, hp⟩ => ?_
 subst he
 exact ChangeSpec.post_blind hp
theorem own : ownKnob Tryz.prog.godebug = none := by kernel_rfl
end Go.Dd

namespace Go.Dd
def bI (k : Int) (t : List Nat) : List Nat :=
 if k = 5 then 39 :: (dC 39 [39, 39] t ++ [39]) else if k = 6 then 35 :: t else if k = 7 then [35, 40] else if k = 8 then 58 :: t else if k = 9 then [58, 61] else t
def Fol (k : Int) (v : List Nat) : Prop := (k = 3 → aLf v) ∧ (k ≠ 3 → k ≠ 7 → k ≠ 9 → k ≠ 10 → Stop v)
def TV (k : Int) (t : List Nat) : Prop := bI k t ≠ [] ∧ ∀ v, Fol k v → bA 2001 (bI k t ++ v) = some (k, t, 0, 0, (bI k t).length)
theorem aAn : ∀ (t : List Nat), (∀ c ∈ t, c ≠ 39) → dC 39 [39, 39] t = t
 | [], _ => rfl
 | c :: t, h => by
  have ih := aAn t fun d hd => h d (by simp [hd])
  show (bif Nat.beq c 39 then [39, 39] ++ dC 39 [39, 39] t else c :: dC 39 [39, 39] t) = _
  cases e : Nat.beq c 39 with
  | true => exact absurd (Nat.eq_of_beq_eq_true e) (h c (by simp))
  | false => simp [ih]
theorem aEg : ∀ (t s : List Nat), dC 39 [39, 39] (t ++ s) = dC 39 [39, 39] t ++ dC 39 [39, 39] s
 | [], s => rfl
 | c :: t, s => by
  have ih := aEg t s
  show (bif Nat.beq c 39 then [39, 39] ++ dC 39 [39, 39] (t ++ s) else c :: dC 39 [39, 39] (t ++ s)) = (bif Nat.beq c 39 then [39, 39] ++ dC 39 [39, 39] t else c :: dC 39 [39, 39] t) ++ _
  cases e : Nat.beq c 39 with
  | true => simp [ih]
  | false => simp [ih]
theorem aHy (so : Nat → Bool) : ∀ (u : List Nat), (u.takeWhile so).length ≠ u.length → ∃ c r, u = u.takeWhile so ++ c :: r ∧ so c = false
 | [], h => by simp at h
 | c :: u, h => by
  cases e : so c with
  | false => exact ⟨c, u, by simp [e], e⟩
  | true =>
   obtain ⟨d, r, h1, h2⟩ := aHy so u (by simpa [aJ, e] using h)
   refine ⟨d, r, ?_, h2⟩
   simp only [List.takeWhile_cons, e, if_true, List.cons_append]
   exact congrArg (c :: ·) h1
theorem tK : ∀ (f : Nat) (out w : List Nat) (r : List Nat × Int × Nat), jQ f out w = some r → r.2.1 = 0 → ∃ t, r.1 = out ++ t ∧ w.take r.2.2 = dC 39 [39, 39] t ++ [39]
 | 0, out, w, r, h, he => by cases h
 | f + 1, out, w, r, h, he => by
  unfold jQ at h
  split at h
  ·cases h; cases he
  ·rename_i hn
   obtain ⟨c, r', hw, hc⟩ := aHy cK w hn
   have hc' : c = 39 := by simpa [aJ, cK] using hc
   subst hc'
   have htw : ∀ d ∈ w.takeWhile cK, d ≠ 39 := fun d hd => by
    have := uK cK w d hd
    simpa [aJ, cK] using this
   generalize ht : w.takeWhile cK = t at *
   subst hw
   split at h
   ·rename_i h39
    obtain ⟨q, hq, h⟩ := bC h
    cases h
    have hr : ∃ r2, r' = 39 :: r2 := by
     cases r' with
     | nil => simp [nx, List.getD] at h39
     | cons d r2 =>
      refine ⟨r2, ?_⟩
      have : d = 39 := by simpa [aJ, nx, List.getD, List.getElem?_append_right] using h39
      rw [this]
    obtain ⟨r2, rfl⟩ := hr
    have hd : (t ++ 39 :: 39 :: r2).drop (t.length + 2) = r2 := by
     rw [← List.drop_drop, List.drop_left]
     rfl
    rw [hd] at hq
    obtain ⟨t', h1, h2⟩ := tK f _ r2 q hq he
    refine ⟨t ++ (39 :: t'), by rw [h1]; simp, ?_⟩
    show (t ++ 39 :: 39 :: r2).take (q.2.2 + (t.length + 2)) = _
    rw [aEg, aAn t htw]
    have e1 : dC 39 [39, 39] (39 :: t') = [39, 39] ++ dC 39 [39, 39] t' := rfl
    rw [e1]
    rw [show q.2.2 + (t.length + 2) = t.length + (q.2.2 + 2) by omega, List.take_length_add_append]
    simp [h2]
   ·cases h
    refine ⟨t, rfl, ?_⟩
    show (t ++ 39 :: r').take (t.length + 1) = _
    rw [List.take_length_add_append, aAn t htw]
    rfl
theorem mP {u : List Nat} {c : Nat} (hc : c ≠ 0) (h : nx u 0 = c) : ∃ r, u = c :: r := by
 cases u with
 | nil => simp [nx, List.getD] at h; omega
 | cons d r =>
  have : d = c := by simpa [aJ, nx, List.getD] using h
  exact ⟨r, by rw [this]⟩
theorem aQm : TV 7 [] := ⟨by decide, fun v _ => by simp [bI, bA, nx, bK, aW]⟩
theorem aWu : TV 9 [] := ⟨by decide, fun v _ => by simp [bI, bA, nx, bK, aW]⟩
theorem aHz {c : Nat} (h : c ∈ dQ) : TV 10 [c] := by
 have : c = 94 ∨ c = 46 ∨ c = 59 ∨ c = 40 ∨ c = 41 ∨ c = 91 ∨ c = 93 ∨ c = 124 := by simpa [aJ, dQ] using h
 rcases this with rfl | rfl | rfl | rfl | rfl | rfl | rfl | rfl <;> exact ⟨by decide, fun v _ => by simp [bI, bA, nx, bK, aW, cV, signs, dQ, bJ]⟩
theorem wN {f : Nat} {u : List Nat} {rs : Int × List Nat × Int × Int × Nat} (h : bA f u = some rs) (he : rs.2.2.2.1 = 0) :
 (rs.1 = 4 ∧ rs.2.1 = [] ∧ rs.2.2.1 = (dE u).1 ∧ rs.2.2.2.2 = (dE u).2.2 ∧ (dE u).2.1 = 0) ∨
  (rs.1 ≠ 4 ∧ rs.1 ≠ 0 ∧ rs.2.2.1 = 0 ∧ (rs.1 = 7 ∨ rs.1 = 9 ∨ rs.1 = 10 → TV rs.1 rs.2.1) ∧ u.take rs.2.2.2.2 = bI rs.1 rs.2.1) := by
 unfold bA at h
 split at h
 ·split at h
  ·rename_i h2
   split at h
   ·rename_i hc
    cases h
    refine .inr ⟨by show (2 : Int) ≠ 4; decide, by show (2 : Int) ≠ 0; decide, rfl, by show (2 : Int) = 7 ∨ (2 : Int) = 9 ∨ (2 : Int) = 10 → _; intro h; omega, ?_⟩
    show u.take ((aL u).2.2 + 1) = (aL u).1 ++ [58]
    rw [oM hc, iJ h2]
   ·cases h
    refine .inr ⟨by show (1 : Int) ≠ 4; decide, by show (1 : Int) ≠ 0; decide, rfl, by show (1 : Int) = 7 ∨ (1 : Int) = 9 ∨ (1 : Int) = 10 → _; intro h; omega, ?_⟩
    exact (iJ h2).symm
  ·rename_i h2
   cases h
   exact absurd he h2
 split at h
 ·cases h
  exact .inl ⟨rfl, rfl, rfl, rfl, he⟩
 split at h
 ·rename_i h1
  obtain ⟨q, hq, h⟩ := bC h
  cases h
  obtain ⟨u', rfl⟩ := mP (by decide) h1
  obtain ⟨t, h2, h3⟩ := tK f [] u' q hq he
  refine .inr ⟨by show (5 : Int) ≠ 4; decide, by show (5 : Int) ≠ 0; decide, rfl, by show (5 : Int) = 7 ∨ (5 : Int) = 9 ∨ (5 : Int) = 10 → _; intro h; omega, ?_⟩
  show (39 :: u').take (q.2.2 + 1) = bI 5 q.1
  rw [List.take_succ_cons, h3, h2]
  rfl
 split at h
 ·rename_i h1
  obtain ⟨u', rfl⟩ := mP (by decide) h1
  split at h
  ·rename_i h2
   cases h
   refine .inr ⟨by show (7 : Int) ≠ 4; decide, by show (7 : Int) ≠ 0; decide, rfl, fun _ => aQm, ?_⟩
   have : ∃ r, u' = 40 :: r := mP (by decide) (by simpa [aJ, nx, List.getD] using h2)
   obtain ⟨r, rfl⟩ := this
   rfl
  ·obtain ⟨q, hq, h⟩ := bC h
   cases h
   have h3 := (lL (f := f) (u := u') hq).2 he
   refine .inr ⟨by show (6 : Int) ≠ 4; decide, by show (6 : Int) ≠ 0; decide, rfl, by show (6 : Int) = 7 ∨ (6 : Int) = 9 ∨ (6 : Int) = 10 → _; intro h; omega, ?_⟩
   show (35 :: u').take (q.2.2 + 1) = bI 6 q.1
   rw [List.take_succ_cons, ← h3]
   rfl
 split at h
 ·rename_i h1
  cases h
  obtain ⟨u', rfl⟩ := mP (by decide) h1.1
  have : ∃ r, u' = 61 :: r := mP (by decide) (by simpa [aJ, nx, List.getD] using h1.2)
  obtain ⟨r, rfl⟩ := this
  exact .inr ⟨by show (9 : Int) ≠ 4; decide, by show (9 : Int) ≠ 0; decide, rfl, fun _ => aWu, rfl⟩
 split at h
 ·rename_i h1
  cases h
  obtain ⟨u', rfl⟩ := mP (by decide) h1.1
  refine .inr ⟨by show (8 : Int) ≠ 4; decide, by show (8 : Int) ≠ 0; decide, rfl, by show (8 : Int) = 7 ∨ (8 : Int) = 9 ∨ (8 : Int) = 10 → _; intro h; omega, ?_⟩
  have he' : (aL u').2.1 = 0 := he
  show (58 :: u').take ((aL u').2.2 + 1) = 58 :: (aL u').1
  rw [List.take_succ_cons, iJ he']
 split at h
 ·cases h
  exact .inr ⟨by show (3 : Int) ≠ 4; decide, by show (3 : Int) ≠ 0; decide, rfl, by show (3 : Int) = 7 ∨ (3 : Int) = 9 ∨ (3 : Int) = 10 → _; intro h; omega, rfl⟩
 split at h
 ·rename_i h1
  cases h
  refine .inr ⟨by show (10 : Int) ≠ 4; decide, by show (10 : Int) ≠ 0; decide, rfl, fun _ => ?_, rfl⟩
  show TV 10 (u.take (bJ (cV dQ) 1 u))
  cases u with
  | nil => simp [nx, List.getD, cV, dQ] at h1
  | cons c u' =>
   have h2 : cV dQ c = true := by simpa [aJ, nx, List.getD] using h1
   have : (c :: u').take (bJ (cV dQ) 1 (c :: u')) = [c] := by simp [bJ, h2]
   rw [this]
   refine aHz ?_
   have : c = 94 ∨ c = 46 ∨ c = 59 ∨ c = 40 ∨ c = 41 ∨ c = 91 ∨ c = 93 ∨ c = 124 := by simpa [aJ, cV, dQ] using h2
   simpa [aJ, dQ] using this
 ·cases h
  cases he
theorem bQt {u : List Nat} {rs : Int × List Nat × Int × Int × Nat} (h : bA 2001 u = some rs) (he : rs.2.2.2.1 = 0) (hp : 1 ≤ rs.2.2.2.2) (hl : rs.2.2.2.2 ≤ u.length) (h4 : rs.1 ≠ 4) : TV rs.1 rs.2.1 ∧ rs.2.2.1 = 0 ∧ u.take rs.2.2.2.2 = bI rs.1 rs.2.1 := by
 rcases wN h he with h9 | ⟨_, h0, h1, h8, h2⟩
 ·exact absurd h9.1 h4
 refine ⟨?_, h1, h2⟩
 by_cases h7 : rs.1 = 7 ∨ rs.1 = 9 ∨ rs.1 = 10
 ·exact h8 h7
 refine ⟨?_, fun v hv => ?_⟩
 ·rw [← h2]
  intro e
  have := congrArg List.length e
  rw [List.length_take, Nat.min_eq_left hl, List.length_nil] at this
  omega
 ·have hk : (bI rs.1 rs.2.1).length = rs.2.2.2.2 := by rw [← h2, List.length_take, Nat.min_eq_left hl]
  rw [hk, ← h2]
  have := aOg h he hp hl (v := v) hv.1 (fun h3 => hv.2 h3 (fun h => h7 (.inl h)) (fun h => h7 (.inr (.inl h))) (fun h => h7 (.inr (.inr h))))
  rw [this]
  obtain ⟨a, b, c, d, e⟩ := rs
  simp only at he h1 ⊢
  rw [he, h1]
end Go.Dd

namespace Go.Dd
theorem stop_nil : Stop [] := ⟨by decide, by decide, by decide, by decide, by decide⟩
theorem dR (v : List Nat) : Stop (32 :: v) := ⟨by show cY 32 = false; decide, by show (32 : Nat) ≠ 58; decide, by show (32 : Nat) ≠ 61; decide, by show cV signs 32 = false; decide, by show (32 : Nat) ≠ 39; decide⟩
theorem kU {c : Nat} (h : c ∈ dQ) (v : List Nat) : Stop (c :: v) := by
 have : c = 94 ∨ c = 46 ∨ c = 59 ∨ c = 40 ∨ c = 41 ∨ c = 91 ∨ c = 93 ∨ c = 124 := by simpa [aJ, dQ] using h
 show aOx c
 rcases this with rfl | rfl | rfl | rfl | rfl | rfl | rfl | rfl <;> exact ⟨by decide, by decide, by decide, by decide, by decide⟩
theorem Stop.fol {v : List Nat} (h : Stop v) (k : Int) : Fol k v := ⟨fun _ => h.three, fun _ _ _ _ => h⟩
theorem fC {k : Int} {t v : List Nat} {p : Nat} {r : List Tok} (h : TV k t) (h0 : k ≠ 0) (hv : Fol k v) (hr : Lx 2001 v (p + (bI k t).length) r) : Lx 2001 (bI k t ++ v) p (⟨k, t, 0, (p : Int)⟩ :: r) := by
 have h1 : 1 ≤ (bI k t).length := by
  cases e : bI k t with
  | nil => exact absurd e h.1
  | cons c l => simp
 have := Lx.tok (g := 2001) [] (bI k t ++ v) p (bI k t).length (k, t, 0, 0, (bI k t).length) r .nil (h.2 v hv) rfl rfl h1 (by simp) h0 (by
  rw [List.drop_left]
  exact hr)
 exact this
theorem fG {v : List Nat} {p : Nat} {r : List Tok} (h : Lx 2001 v (p + 1) r) : Lx 2001 (32 :: v) p r := cCs (w := [32]) h (.blank 32 [] (by decide) .nil)
theorem aIa : ∀ (f n : Nat) (acc : List Nat), n < 10 ^ (f + 1) → n ≤ 1152921504606846976 → gA 0 (eR (f + 1) n acc) = gA (n : Int) acc
 | 0, n, acc, h, hn => by
  show gA 0 (bif Nat.ble 10 n then eR 0 (Nat.div n 10) (Nat.add 48 (Nat.mod n 10) :: acc) else Nat.add 48 n :: acc) = _
  have : Nat.ble 10 n = false := by
   cases e : Nat.ble 10 n with
   | false => rfl
   | true => have := Nat.le_of_ble_eq_true e; simp at h; omega
  rw [this]
  simp at h
  show (if 115292150460684697 < (0 : Int) then _ else if 1152921504606846976 < (0 : Int) * 10 + (((48 + n : Nat) : Int) - 48) then _ else gA ((0 : Int) * 10 + (((48 + n : Nat) : Int) - 48)) acc) = _
  rw [if_neg (by decide), if_neg (by omega), show ((0 : Int) * 10 + (((48 + n : Nat) : Int) - 48)) = (n : Int) by omega]
 | f + 1, n, acc, h, hn => by
  show gA 0 (bif Nat.ble 10 n then eR (f + 1) (Nat.div n 10) (Nat.add 48 (Nat.mod n 10) :: acc) else Nat.add 48 n :: acc) = _
  cases e : Nat.ble 10 n with
  | false =>
   have : n < 10 := by
    apply Decidable.byContradiction
    intro hc
    rw [Nat.ble_eq_true_of_le (by omega)] at e
    cases e
   show (if 115292150460684697 < (0 : Int) then _ else if 1152921504606846976 < (0 : Int) * 10 + (((48 + n : Nat) : Int) - 48) then _ else gA ((0 : Int) * 10 + (((48 + n : Nat) : Int) - 48)) acc) = _
   rw [if_neg (by decide), if_neg (by omega), show ((0 : Int) * 10 + (((48 + n : Nat) : Int) - 48)) = (n : Int) by omega]
  | true =>
   show gA 0 (eR (f + 1) (n / 10) ((48 + n % 10) :: acc)) = _
   have hp : 10 ^ (f + 1 + 1) = 10 ^ (f + 1) * 10 := rfl
   rw [aIa f (n / 10) _ (by omega) (by omega)]
   show (if 115292150460684697 < ((n / 10 : Nat) : Int) then _ else if 1152921504606846976 < ((n / 10 : Nat) : Int) * 10 + (((48 + n % 10 : Nat) : Int) - 48) then _ else gA (((n / 10 : Nat) : Int) * 10 + (((48 + n % 10 : Nat) : Int) - 48)) acc) = _
   rw [if_neg (by omega), if_neg (by omega)]
   congr 1
   omega
theorem sR : ∀ (f n : Nat) (acc : List Nat), (∀ c ∈ acc, aW c = true) → ∀ c ∈ eR f n acc, aW c = true
 | 0, n, acc, h => h
 | f + 1, n, acc, h => by
  show ∀ c ∈ (bif Nat.ble 10 n then eR f (Nat.div n 10) (Nat.add 48 (Nat.mod n 10) :: acc) else Nat.add 48 n :: acc), _
  cases e : Nat.ble 10 n with
  | true =>
   refine sR f _ _ fun c hc => ?_
   rcases List.mem_cons.1 hc with rfl | hc
   ·show aW (48 + n % 10) = true
    simp [aW]; omega
   ·exact h c hc
  | false =>
   intro c hc
   have : n < 10 := by
    apply Decidable.byContradiction
    intro hc
    rw [Nat.ble_eq_true_of_le (by omega)] at e
    cases e
   rcases List.mem_cons.1 hc with rfl | hc
   ·show aW (48 + n) = true
    simp [aW]; omega
   ·exact h c hc
theorem aLo : ∀ (f n : Nat) (acc : List Nat), eR (f + 1) n acc ≠ []
 | 0, n, acc => by
  show (bif Nat.ble 10 n then _ :: acc else _ :: acc) ≠ []
  cases Nat.ble 10 n <;> exact List.cons_ne_nil _ _
 | f + 1, n, acc => by
  show (bif Nat.ble 10 n then eR (f + 1) (Nat.div n 10) _ else _ :: acc) ≠ []
  cases Nat.ble 10 n with
  | true => exact aLo f _ _
  | false => exact List.cons_ne_nil _ _
theorem tL : ∀ (f n k : Nat) (acc : List Nat), n < 10 ^ (k + 1) → (eR f n acc).length ≤ k + 1 + acc.length
 | 0, n, k, acc, h => by show acc.length ≤ _; omega
 | f + 1, n, k, acc, h => by
  show (bif Nat.ble 10 n then eR f (Nat.div n 10) (Nat.add 48 (Nat.mod n 10) :: acc) else Nat.add 48 n :: acc).length ≤ _
  cases e : Nat.ble 10 n with
  | false => show acc.length + 1 ≤ _; omega
  | true =>
   have := Nat.le_of_ble_eq_true e
   cases k with
   | zero => simp at h; omega
   | succ k =>
    have hp : 10 ^ (k + 1 + 1) = 10 ^ (k + 1) * 10 := rfl
    have := tL f (n / 10) k ((48 + n % 10) :: acc) (by omega)
    simp only [List.length_cons] at this
    show (eR f (n / 10) ((48 + n % 10) :: acc)).length ≤ _
    omega
theorem aFg (so : Nat → Bool) : ∀ (a v : List Nat), (∀ c ∈ a, so c = true) → (∀ c r, v = c :: r → so c = false) → (a ++ v).takeWhile so = a
 | [], v, h, hv => by
  cases v with
  | nil => rfl
  | cons c r => simp [hv c r rfl]
 | c :: a, v, h, hv => by
  have := aFg so a v (fun d hd => h d (by simp [hd])) hv
  simp [h c (by simp), this]
def dg (n : Nat) : List Nat := eR 20 n []
theorem aBk (n : Nat) : ∃ c l, dg n = c :: l ∧ aW c = true := by
 cases e : dg n with
 | nil => exact absurd e (aLo 19 n [])
 | cons c l => exact ⟨c, l, rfl, sR 20 n [] (fun c hc => by cases hc) c (by show c ∈ dg n; rw [e]; simp)⟩
theorem aOf {n : Nat} (hn : n ≤ 1152921504606846976) {v : List Nat} (hv : ∀ c r, v = c :: r → cY c = false) : bA 2001 (dg n ++ v) = some (4, [], (n : Int), 0, (dg n).length) := by
 obtain ⟨c, l, e, hc⟩ := aBk n
 have e2 : (dg n ++ v).takeWhile aW = dg n := aFg aW _ _ (sR 20 n [] fun c hc => by cases hc) fun c r e => by
  have := hv c r e
  unfold cY at this
  cases e3 : aW c with
  | false => rfl
  | true => rw [e3] at this; simp at this
 have h0 : nx (dg n ++ v) 0 = c := by rw [e]; rfl
 have h1 : bK c = false := by
  simp [aW] at hc
  simp [bK]; omega
 have h2 := aIa 19 n [] (by show n < 100000000000000000000; omega) hn
 unfold bA dE
 rw [h0, if_neg (by simp [h1]), if_pos hc, e2]
 show some ((4 : Int), ([] : List Nat), (gA 0 (dg n)).1, (gA 0 (dg n)).2, (dg n).length) = _
 rw [show gA 0 (dg n) = ((n : Int), 0) from h2]
theorem aFe {n : Nat} (hn : n ≤ 1152921504606846976) {v : List Nat} {p : Nat} {r : List Tok} (hv : ∀ c r, v = c :: r → cY c = false) (hr : Lx 2001 v (p + (dg n).length) r) : Lx 2001 (dg n ++ v) p (⟨4, [], (n : Int), (p : Int)⟩ :: r) := by
 obtain ⟨c, l, e, hc⟩ := aBk n
 exact Lx.tok (g := 2001) [] (dg n ++ v) p (dg n).length (4, [], (n : Int), 0, (dg n).length) r .nil (aOf hn hv) rfl rfl (by rw [e]; simp) (by simp) (by show (4 : Int) ≠ 0; decide) (by
  rw [List.drop_left]
  exact hr)
theorem aUq : TV 3 [45] := ⟨by decide, fun v hv => by
 have h := hv.1 rfl
 have : bJ (cV signs) 2 (45 :: v) = 1 := by
  show (if cV signs 45 then bJ (cV signs) 1 v + 1 else 0) = 1
  rw [if_pos (by decide)]
  cases v with
  | nil => rfl
  | cons c r =>
   have h : cV signs c = false := h
   show (if cV signs c then _ else 0) + 1 = 1
   rw [h]; rfl
 show bA 2001 (45 :: v) = _
 unfold bA
 rw [show nx (45 :: v) 0 = 45 from rfl, this]
 rfl⟩
theorem bMo {n : Nat} (hn : n ≤ 1152921504606846976) {v : List Nat} {p : Nat} {r : List Tok} (hv : Stop v) (hr : Lx 2001 v (p + 1 + (dg n).length) r) : Lx 2001 (45 :: (dg n ++ v)) p (⟨3, [45], 0, (p : Int)⟩ :: ⟨4, [], (n : Int), ((p + 1 : Nat) : Int)⟩ :: r) := by
 refine fC (k := 3) (t := [45]) aUq (by decide) ⟨fun _ => ?_, fun h => absurd rfl h⟩ (aFe hn hv.name hr)
 obtain ⟨c, l, e, hc⟩ := aBk n
 show cV signs (nx (dg n ++ v) 0) = false
 rw [e]
 exact (aFt hc).1
theorem bPh : ∀ (s : List Nat) (i : Nat), (∀ c ∈ s, c ≠ 58) → cX 58 s i = -1
 | [], i, h => rfl
 | c :: s, i, h => by
  have ih := bPh s (i + 1) fun d hd => h d (by simp [hd])
  show (bif Nat.beq c 58 then Int.ofNat i else cX 58 s (i + 1)) = -1
  cases e : Nat.beq c 58 with
  | true => exact absurd (Nat.eq_of_beq_eq_true e) (h c (by simp))
  | false => exact ih
theorem bJz : ∀ (s r : List Nat) (i : Nat), 0 ≤ cX 58 (s ++ 58 :: r) i
 | [], r, i => by show (0 : Int) ≤ (bif Nat.beq 58 58 then Int.ofNat i else _); simp
 | c :: s, r, i => by
  have ih := bJz s r (i + 1)
  show 0 ≤ (bif Nat.beq c 58 then Int.ofNat i else cX 58 (s ++ 58 :: r) (i + 1))
  cases e : Nat.beq c 58 with
  | true => simp
  | false => exact ih
theorem bMg {c : Nat} (h : cY c = true) : c ≠ 58 := fun e => by rw [e] at h; cases h
theorem aOr {c : Nat} (h : cV signs c = true) : c ≠ 58 ∧ oX c = false := by
 have : c = 43 ∨ c = 45 ∨ c = 42 ∨ c = 47 ∨ c = 60 ∨ c = 62 ∨ c = 61 ∨ c = 126 ∨ c = 44 ∨ c = 64 ∨ c = 38 ∨ c = 37 := by simpa [aJ, cV, signs] using h
 rcases this with rfl | rfl | rfl | rfl | rfl | rfl | rfl | rfl | rfl | rfl | rfl | rfl <;> exact ⟨by decide, by decide⟩
theorem aHp (so : Nat → Bool) : ∀ (m : Nat) (u : List Nat), ∀ c ∈ u.take (bJ so m u), so c = true
 | 0, u => fun c hc => by simp [bJ] at hc
 | m + 1, [] => fun c hc => by simp [bJ] at hc
 | m + 1, a :: u => fun c hc => by
  cases e : so a with
  | false => simp [bJ, e] at hc
  | true =>
   simp only [bJ, e, if_true, List.take_succ_cons] at hc
   rcases List.mem_cons.1 hc with rfl | hc
   ·exact e
   ·exact aHp so m u c hc
theorem dH {k : Int} {t : List Nat} (h : TV k t) : (k = 1 → bS t = 1 ∧ (∀ c ∈ t, c ≠ 58)) ∧ (k = 2 → ∃ q, t = q ++ [58] ∧ ∀ c ∈ q, c ≠ 58) ∧ (k = 3 → bS t = 2 ∧ (∀ c ∈ t, c ≠ 58)) := by
 have h1 := h.2 [] (stop_nil.fol k)
 have hne := h.1
 generalize bI k t ++ [] = u at h1
 have hnm : ∀ c ∈ u.takeWhile cY, c ≠ 58 := fun c hc => bMg (uK cY u c hc)
 have fin1 : ∀ {x : Nat}, bK (nx u 0) = true → bS (u.takeWhile cY) = 1 := fun {_} hl => by
  unfold bS
  rw [bPh _ 0 hnm, if_neg (by decide)]
  cases u with
  | nil => cases hl
  | cons c u =>
   have hl : bK c = true := hl
   have : cY c = true := by unfold cY; rw [hl]; rfl
   simp only [List.takeWhile_cons, this, if_true]
   have : oX c = true := hl
   simp [this]
 unfold bA at h1
 split at h1
 ·rename_i hl
  split at h1
  ·rename_i hn
   have en : (aL u).1 = u.takeWhile cY := by
    unfold aL at hn ⊢
    split
    ·rename_i h24; rw [if_pos h24] at hn; cases hn
    ·rfl
   split at h1
   ·simp only [bB, bW] at h1
    refine ⟨fun e => by omega, fun _ => ⟨u.takeWhile cY, by rw [← h1.2.1, en], hnm⟩, fun e => by omega⟩
   ·simp only [bB, bW] at h1
    refine ⟨fun _ => ?_, fun e => by omega, fun e => by omega⟩
    rw [← h1.2.1, en]
    exact ⟨fin1 (x := 0) hl, hnm⟩
  ·rename_i hn
   simp only [bB, bW] at h1
   exact absurd h1.2.2.2.1 hn
 split at h1
 ·simp only [bB, bW] at h1
  exact ⟨fun e => by omega, fun e => by omega, fun e => by omega⟩
 split at h1
 ·obtain ⟨q, hq, h1⟩ := bC h1
  simp only [bB, bW] at h1
  exact ⟨fun e => by omega, fun e => by omega, fun e => by omega⟩
 split at h1
 ·split at h1
  ·simp only [bB, bW] at h1
   exact ⟨fun e => by omega, fun e => by omega, fun e => by omega⟩
  ·obtain ⟨q, hq, h1⟩ := bC h1
   simp only [bB, bW] at h1
   exact ⟨fun e => by omega, fun e => by omega, fun e => by omega⟩
 split at h1
 ·simp only [bB, bW] at h1
  exact ⟨fun e => by omega, fun e => by omega, fun e => by omega⟩
 split at h1
 ·simp only [bB, bW] at h1
  exact ⟨fun e => by omega, fun e => by omega, fun e => by omega⟩
 split at h1
 ·simp only [bB, bW] at h1
  refine ⟨fun e => by omega, fun e => by omega, fun e => ?_⟩
  have hall := aHp (cV signs) 2 u
  rw [h1.2.1] at hall
  have h58 : ∀ c ∈ t, c ≠ 58 := fun c hc => (aOr (hall c hc)).1
  refine ⟨?_, h58⟩
  unfold bS
  rw [bPh _ 0 h58, if_neg (by decide)]
  cases t with
  | nil => rfl
  | cons c t => simp [(aOr (hall c (by simp))).2]
 split at h1
 ·simp only [bB, bW] at h1
  exact ⟨fun e => by omega, fun e => by omega, fun e => by omega⟩
 ·simp only [bB, bW] at h1
  have := h1.2.2.2.1
  omega
theorem uM : ∀ (q acc r : List Nat), (∀ c ∈ q, c ≠ 58) → cH 58 acc (q ++ 58 :: r) = (acc ++ q ++ [58]) :: cH 58 [] r
 | [], acc, r, h => by
  show (bif Nat.beq 58 58 then _ else _) = _
  simp
 | c :: q, acc, r, h => by
  have ih := uM q (acc ++ [c]) r fun d hd => h d (by simp [hd])
  have hc : Nat.beq c 58 = false := by
   cases e : Nat.beq c 58 with
   | false => rfl
   | true => exact absurd (Nat.eq_of_beq_eq_true e) (h c (by simp))
  show (bif Nat.beq c 58 then (acc ++ [c]) :: cH 58 [] (q ++ 58 :: r) else cH 58 (acc ++ [c]) (q ++ 58 :: r)) = _
  rw [hc]
  show cH 58 (acc ++ [c]) (q ++ 58 :: r) = _
  rw [ih]
  simp
theorem vG : ∀ (ps : List (List Nat)), (∀ p ∈ ps, ∃ q, p = q ++ [58] ∧ ∀ c ∈ q, c ≠ 58) → cH 58 [] ps.flatten = ps ++ [[]]
 | [], h => rfl
 | p :: ps, h => by
  obtain ⟨q, rfl, hq⟩ := h p (by simp)
  have ih := vG ps fun x hx => h x (by simp [hx])
  rw [List.flatten_cons, List.append_assoc]
  rw [show [58] ++ ps.flatten = 58 :: ps.flatten from rfl, uM q [] _ hq, ih]
  simp
theorem jC {ps : List (List Nat)} (h : ∀ p ∈ ps, TV 2 p) : dF ps.flatten = ps := by
 unfold dF
 rw [vG ps fun p hp => (dH (h p hp)).2.1 rfl]
 simp
theorem gH {ps : List (List Nat)} (h : ∀ p ∈ ps, TV 2 p) (hne : ps ≠ []) : bS ps.flatten = 3 := by
 obtain ⟨p, r, rfl⟩ : ∃ p r, ps = p :: r := by cases ps with
  | nil => exact absurd rfl hne
  | cons p r => exact ⟨p, r, rfl⟩
 obtain ⟨q, rfl, _⟩ := (dH (h p (by simp))).2.1 rfl
 unfold bS
 rw [if_pos]
 have := bJz q r.flatten 0
 simpa [aJ] using this
end Go.Dd

namespace Go.Dd
def sd (T : List Tok) (d : Nat) : PSt := ⟨T, (d : Int), 0, 0⟩
theorem iD (t : Tok) (r : List Tok) (d : Nat) : bD (sd (t :: r) d) 0 = some t := by simp [bD, sd]
theorem aCa (t u : Tok) (r : List Tok) (d : Nat) : bD (sd (t :: u :: r) d) 1 = some u := by simp [bD, sd, show min 1 (r.length + 1) = 1 by omega]
theorem eQ {t u : Tok} {r : List Tok} {d : Nat} (h : t.kind ≠ 0) : aV (sd (t :: u :: r) d) = some (t, sd (u :: r) d) := by
 unfold aV
 rw [iD, Option.bind_some, if_neg h, if_pos (by simp [sd])]
 rfl
theorem is1 (t : Tok) (r : List Tok) (d : Nat) (k : Int) (x : List Nat) : dU (sd (t :: r) d) k x = some (decide (t.kind = k) && (decide (x = []) || decide (t.text = x))) := by
 unfold dU
 rw [iD, Option.bind_some]
 simp [sd]
theorem vO {t : Tok} {r : List Tok} {d : Nat} {k : Int} (h : t.kind = k) : dU (sd (t :: r) d) k [] = some true := by rw [is1, h]; simp
theorem isN {t : Tok} {r : List Tok} {d : Nat} {k : Int} {x : List Nat} (h : t.kind ≠ k) : dU (sd (t :: r) d) k x = some false := by rw [is1]; simp [h]
theorem isX {t : Tok} {r : List Tok} {d : Nat} {k : Int} {x : List Nat} (h : t.kind = k) (h2 : t.text = x) : dU (sd (t :: r) d) k x = some true := by rw [is1, h, h2]; simp
theorem isY {t : Tok} {r : List Tok} {d : Nat} {k : Int} {x : List Nat} (hx : x ≠ []) (h : ¬ (t.kind = k ∧ t.text = x)) : dU (sd (t :: r) d) k x = some false := by
 rw [is1]
 simp [hx]
 intro a b
 exact h ⟨a, b⟩
theorem mK {t u : Tok} {r : List Tok} {d : Nat} {k : Int} {x : List Nat} (h : dU (sd (t :: u :: r) d) k x = some true) (h0 : t.kind ≠ 0) : bL (sd (t :: u :: r) d) k x = some (t, sd (u :: r) d) := by
 unfold bL
 rw [h, Option.bind_some, if_pos rfl, eQ h0]
theorem Lx.cons {g : Nat} {v : List Nat} {p : Nat} {r : List Tok} (h : Lx g v p r) : ∃ t l, r = t :: l := by
 obtain ⟨a, b, e, _⟩ := h.first
 exact ⟨a, b, e⟩
def Hd (P : Tok → Prop) (r : List Tok) : Prop := ∃ t l, r = t :: l ∧ P t
def pP (t : Tok) : Prop := t.kind ≠ 9
def pU (t : Tok) : Prop := t.kind ≠ 9 ∧ t.kind ≠ 1
def pB (t : Tok) : Prop := t.kind ≠ 9 ∧ t.kind ≠ 1 ∧ t.kind ≠ 3
def pK (t : Tok) : Prop := t.kind ≠ 9 ∧ t.kind ≠ 1 ∧ t.kind ≠ 3 ∧ t.kind ≠ 2
def pE (t : Tok) : Prop := t.kind ≠ 9 ∧ t.kind ≠ 1 ∧ t.kind ≠ 3 ∧ t.kind ≠ 2 ∧ ¬ (t.kind = 10 ∧ t.text = [59])
theorem Hd.mono {P Q : Tok → Prop} (h : ∀ t, P t → Q t) {r : List Tok} : Hd P r → Hd Q r := fun ⟨t, l, e, k⟩ => ⟨t, l, e, h t k⟩
def HG (t : Tok) : Prop := t.kind ≠ 0 ∧ (t.kind ≠ 8 ∧ t.kind ≠ 2) ∧ (t.kind = 3 → t.text = [45]) ∧ (t.kind = 10 → t.text = [40] ∨ t.text = [91])
def NA (T : List Tok) : Prop := ∃ t u l, T = t :: u :: l ∧ HG t ∧ ¬ (t.kind = 1 ∧ u.kind = 9)
def HE (T : List Tok) : Prop := ∃ t u l, T = t :: u :: l ∧ HG t
theorem NA.he {T : List Tok} : NA T → HE T := fun ⟨t, u, l, a, b, _⟩ => ⟨t, u, l, a, b⟩
def PP (f : Nat) : PF := dJ (nQ f) (dO f) f
def FU (f : Nat) : PF := fun st => (PP f st).bind fun q => bZ f q.1 q.2
def FB (f : Nat) : PF := fun st => (FU f st).bind fun u => bU (PP f) f f u.1 u.2
def FK (f : Nat) : PF := fun st => (FB f st).bind fun w => iU (PP f) f w.1 w.2
def RdP (d : Nat) (x : Node) (tx : List Nat) : Prop := ∀ v p r, p + (tx ++ v).length ≤ 100000 → Stop v → Lx 2001 v (p + tx.length) r → Hd pP r → ∃ T, Lx 2001 (tx ++ v) p T ∧ r.length < T.length ∧ NA T ∧ ∀ f, T.length + 2 ≤ f → PP f (sd T d) = some (x, sd r d)
def RdU (d : Nat) (x : Node) (tx : List Nat) : Prop := ∀ v p r, p + (tx ++ v).length ≤ 100000 → Stop v → Lx 2001 v (p + tx.length) r → Hd pP r → ∃ T, Lx 2001 (tx ++ v) p T ∧ r.length < T.length ∧ NA T ∧ ∀ f, T.length + 2 ≤ f → ∃ g, r.length + 1 ≤ g ∧ FU f (sd T d) = bZ g x (sd r d)
def RdB (d : Nat) (x : Node) (tx : List Nat) : Prop := ∀ v p r, p + (tx ++ v).length ≤ 100000 → Stop v → Lx 2001 v (p + tx.length) r → Hd pU r → ∃ T, Lx 2001 (tx ++ v) p T ∧ r.length < T.length ∧ NA T ∧ ∀ f, T.length + 2 ≤ f → ∃ g, r.length + 1 ≤ g ∧ FB f (sd T d) = bU (PP f) f g x (sd r d)
def RdK (d : Nat) (x : Node) (tx : List Nat) : Prop := ∀ v p r, p + (tx ++ v).length ≤ 100000 → Stop v → Lx 2001 v (p + tx.length) r → Hd pK r → ∃ T, Lx 2001 (tx ++ v) p T ∧ r.length < T.length ∧ NA T ∧ ∀ f, T.length + 2 ≤ f → FK f (sd T d) = some (x, sd r d)
def RdE (d : Nat) (x : Node) (tx : List Nat) : Prop := ∀ v p r, p + (tx ++ v).length ≤ 100000 → Stop v → Lx 2001 v (p + tx.length) r → Hd pE r → ∃ T, Lx 2001 (tx ++ v) p T ∧ r.length < T.length ∧ HE T ∧ ∀ f, T.length + 2 ≤ f → dO (f + 1) (sd T d) = some (x, sd r d)
theorem pM {g : Nat} {x : Node} {r : List Tok} {d : Nat} (hg : 1 ≤ g) (h : Hd pU r) : bZ g x (sd r d) = some (x, sd r d) := by
 obtain ⟨t, l, rfl, h1, h2⟩ := h
 obtain ⟨g, rfl⟩ : ∃ k, g = k + 1 := ⟨g - 1, by omega⟩
 unfold bZ
 rw [isN h2]
 rfl
theorem lI {P : PF} {f g : Nat} {x : Node} {r : List Tok} {d : Nat} (hg : 1 ≤ g) (h : Hd pB r) : bU P f g x (sd r d) = some (x, sd r d) := by
 obtain ⟨t, l, rfl, h1, h2, h3⟩ := h
 obtain ⟨g, rfl⟩ : ∃ k, g = k + 1 := ⟨g - 1, by omega⟩
 unfold bU
 rw [isN h3]
 rfl
theorem aSp {P : PF} {f : Nat} {x : Node} {r : List Tok} {d : Nat} (h : Hd pK r) : iU P f x (sd r d) = some (x, sd r d) := by
 obtain ⟨t, l, rfl, h1, h2, h3, h4⟩ := h
 unfold iU
 rw [isN h4]
 rfl
theorem RdP.u {d : Nat} {x : Node} {tx : List Nat} (h : RdP d x tx) : RdU d x tx := fun v p r hl hv hr hd => by
 obtain ⟨T, a, b, c, e⟩ := h v p r hl hv hr hd
 refine ⟨T, a, b, c, fun f hf => ⟨f, by omega, ?_⟩⟩
 unfold FU
 rw [e f hf]
 rfl
theorem RdU.b {d : Nat} {x : Node} {tx : List Nat} (h : RdU d x tx) : RdB d x tx := fun v p r hl hv hr hd => by
 obtain ⟨T, a, b, c, e⟩ := h v p r hl hv hr (hd.mono fun _ h => h.1)
 refine ⟨T, a, b, c, fun f hf => ⟨f, by omega, ?_⟩⟩
 obtain ⟨g, g1, g2⟩ := e f hf
 unfold FB
 rw [g2, pM (by omega) hd]
 rfl
theorem RdB.k {d : Nat} {x : Node} {tx : List Nat} (h : RdB d x tx) : RdK d x tx := fun v p r hl hv hr hd => by
 obtain ⟨T, a, b, c, e⟩ := h v p r hl hv hr (hd.mono fun _ h => ⟨h.1, h.2.1⟩)
 refine ⟨T, a, b, c, fun f hf => ?_⟩
 obtain ⟨g, g1, g2⟩ := e f hf
 unfold FK
 rw [g2, lI (by omega) (hd.mono fun _ h => ⟨h.1, h.2.1, h.2.2.1⟩), Option.bind_some, aSp hd]
theorem nR (f : Nat) (st : PSt) : gZ (PP f) f st = (FK f st).bind fun n => (dU n.2 10 [59]).bind fun c => if c then
 if n.1.kind = 7 then (n.1.kids[0]?).bind fun k0 => kL (PP f) f f [k0, gF n.1] n.2
 else (bD n.2 0).bind fun t => some (n.1, bV n.2 t 13)
 else some n := by
 unfold gZ FK FB FU
 simp only [Option.bind_assoc]
theorem aCi {f : Nat} {T : List Tok} {d : Nat} (h : NA T) : dO (f + 1) (sd T d) = gZ (PP f) f (sd T d) := by
 obtain ⟨t, u, l, rfl, h1, h2⟩ := h
 show mB (PP f) (dO f) f (sd (t :: u :: l) d) = _
 unfold mB
 by_cases h3 : t.kind = 1
 ·have h4 : u.kind ≠ 9 := fun h => h2 ⟨h3, h⟩
  rw [vO h3, Option.bind_some, if_pos rfl, aCa]
  simp [h4]
 ·rw [isN h3]
  rfl
theorem RdK.e {d : Nat} {x : Node} {tx : List Nat} (h : RdK d x tx) : RdE d x tx := fun v p r hl hv hr hd => by
 obtain ⟨T, a, b, c, e⟩ := h v p r hl hv hr (hd.mono fun _ h => ⟨h.1, h.2.1, h.2.2.1, h.2.2.2.1⟩)
 refine ⟨T, a, b, c.he, fun f hf => ?_⟩
 rw [aCi c, nR, e f hf, Option.bind_some]
 obtain ⟨t, l, rfl, h1⟩ := hd
 rw [isY (by decide) h1.2.2.2.2]
 rfl
theorem aQd (t : List Nat) : bI 1 t = t := rfl
theorem RdU.send {d : Nat} {x : Node} {tx n : List Nat} (h : RdU d x tx) (hn : TV 1 n) : RdU d (aK n [x]) (tx ++ 32 :: n) := fun v p r hl hv hr hd => by
 obtain ⟨t0, l0, rfl, hd⟩ := hd
 have l1 := fC (p := p + tx.length + 1) hn (by decide) (hv.fol 1) (r := t0 :: l0) (by
  rw [show p + tx.length + 1 + (bI 1 n).length = p + (tx ++ 32 :: n).length by simp [aQd]; omega]
  exact hr)
 obtain ⟨T, a, b, c, e⟩ := h (32 :: (n ++ v)) p _ (by simp only [List.length_append, List.length_cons] at hl ⊢; omega) (dR _) (fG l1) ⟨_, _, rfl, by show (1 : Int) ≠ 9; decide⟩
 simp only [List.length_cons] at b
 refine ⟨T, by simpa using a, by simp only [List.length_cons]; omega, c, fun f hf => ?_⟩
 obtain ⟨g, g1, g2⟩ := e f hf
 simp only [List.length_cons] at g1
 obtain ⟨g, rfl⟩ : ∃ k, g = k + 1 := ⟨g - 1, by omega⟩
 refine ⟨g, by simp only [List.length_cons]; omega, ?_⟩
 rw [g2]
 show bZ (g + 1) x (sd (_ :: t0 :: l0) d) = _
 conv => lhs; unfold bZ
 rw [vO rfl, Option.bind_some, if_pos rfl, eQ (by show (1 : Int) ≠ 0; decide)]
 rfl
theorem RdB.send {d : Nat} {x y : Node} {tx ty s : List Nat} (h : RdB d x tx) (hs : TV 3 s) (hy : RdU d y ty) : RdB d (aK s [x, y]) (tx ++ 32 :: (s ++ 32 :: ty)) := fun v p r hl hv hr hd => by
 obtain ⟨T1, a1, b1, c1, e1⟩ := hy v (p + tx.length + 1 + s.length + 1) r (by simp only [List.length_append, List.length_cons] at hl ⊢; omega) hv (by
  rw [show p + tx.length + 1 + s.length + 1 + ty.length = p + (tx ++ 32 :: (s ++ 32 :: ty)).length by simp; omega]
  exact hr) (hd.mono fun _ h => h.1)
 have l1 := fC (p := p + tx.length + 1) hs (by decide) ((dR (ty ++ v)).fol 3) (r := T1) (fG a1)
 obtain ⟨T, a, b, c, e⟩ := h (32 :: (s ++ 32 :: (ty ++ v))) p _ (by simp only [List.length_append, List.length_cons] at hl ⊢; omega) (dR _) (fG l1) ⟨_, _, rfl, by show (3 : Int) ≠ 9; decide, by show (3 : Int) ≠ 1; decide⟩
 simp only [List.length_cons] at b
 refine ⟨T, by simpa using a, by omega, c, fun f hf => ?_⟩
 obtain ⟨g, g1, g2⟩ := e f hf
 simp only [List.length_cons] at g1
 obtain ⟨g, rfl⟩ : ∃ k, g = k + 1 := ⟨g - 1, by omega⟩
 refine ⟨g, by omega, ?_⟩
 obtain ⟨q, q1, q2⟩ := e1 f (by omega)
 rw [g2]
 obtain ⟨t1, u1, k1, rfl, _⟩ := c1
 conv => lhs; unfold bU
 rw [vO rfl, Option.bind_some, if_pos rfl, eQ (by show (3 : Int) ≠ 0; decide), Option.bind_some]
 have : ((PP f (sd (t1 :: u1 :: k1) d)).bind fun q => (bZ f q.1 q.2).bind fun u => bU (PP f) f g (aK s [x, u.1]) u.2) = bU (PP f) f g (aK s [x, y]) (sd r d) := by
  rw [← Option.bind_assoc]
  show (FU f (sd (t1 :: u1 :: k1) d)).bind _ = _
  rw [q2, pM (by omega) hd]
  rfl
 exact this
theorem bUz {n : Nat} (h : n ≤ 1000000) : kC ((n : Int) + 1) = ((n + 1 : Nat) : Int) := wU h
theorem bTg {n : Nat} (h : n ≤ 1000000) : kC (((n + 1 : Nat) : Int) - 1) = (n : Int) := by
 unfold kC
 rw [gV _ (by omega) (by omega)]
 omega
theorem mF {t : Tok} {r : List Tok} {d : Nat} (h3 : t.kind ≠ 3) (h4 : t.kind ≠ 4) (h5 : t.kind ≠ 5) (h6 : t.kind ≠ 6) : eD (sd (t :: r) d) = some ((.mk 0 t.text t.num [] [] [], false), sd (t :: r) d) := by
 have hn : qR (sd (t :: r) d) = some false := by
  unfold qR
  obtain ⟨u, hu⟩ : ∃ u, bD (sd (t :: r) d) 1 = some u := by
   cases r with
   | nil => exact ⟨t, by simp [bD, sd]⟩
   | cons u r => exact ⟨u, aCa _ _ _ _⟩
  rw [hu, Option.bind_some, isN h3, Option.bind_some, iD]
  rfl
 unfold eD
 rw [iD, Option.bind_some, if_pos (by rfl), hn, Option.bind_some, if_neg (by decide), if_neg h4, if_neg h5, if_neg h6]
theorem lX {F : PF} {t u : Tok} {r r' : List Tok} {d : Nat} {x : Node} (h0 : t.kind ≠ 0) (hd : d < 20) (h : F (sd (u :: r) (d + 1)) = some (x, sd r' (d + 1))) : cQ F (sd (t :: u :: r) d) = some (x, sd r' d) := by
 unfold cQ
 rw [eQ h0, Option.bind_some]
 have h1 : ¬ ((sd (u :: r) d).deep = 20) := by show ¬ ((d : Int) = 20); omega
 rw [if_neg h1]
 have h2 : ({ (sd (u :: r) d) with deep := kC ((sd (u :: r) d).deep + 1) } : PSt) = sd (u :: r) (d + 1) := by
  show (⟨u :: r, kC ((d : Int) + 1), 0, 0⟩ : PSt) = _
  rw [bUz (by omega)]
  rfl
 show (F ({ (sd (u :: r) d) with deep := kC ((sd (u :: r) d).deep + 1) } : PSt)).bind _ = _
 rw [h2, h]
 show some (x, (⟨r', kC (((d + 1 : Nat) : Int) - 1), 0, 0⟩ : PSt)) = _
 rw [bTg (by omega)]
 rfl
theorem jT {c : Nat} (h : c ∈ dQ) {v : List Nat} {p : Nat} {r : List Tok} (hr : Lx 2001 v (p + 1) r) : Lx 2001 (c :: v) p (⟨10, [c], 0, (p : Int)⟩ :: r) :=
 fC (k := 10) (t := [c]) (aHz h) (by decide) ⟨fun h => absurd h (by decide), fun _ _ _ h => absurd rfl h⟩ hr
theorem RdE.paren {d : Nat} {x : Node} {tx : List Nat} (h : RdE (d + 1) x tx) (hd : d < 20) : RdP d x (40 :: (tx ++ [41])) := fun v p r hl hv hr hr0 => by
 obtain ⟨t0, l0, rfl, _⟩ := hr0
 have l1 := jT (c := 41) (by decide) (v := v) (p := p + 1 + tx.length) (r := t0 :: l0) (by
  rw [show p + 1 + tx.length + 1 = p + (40 :: (tx ++ [41])).length by simp; omega]
  exact hr)
 obtain ⟨T, a, b, c, e⟩ := h (41 :: v) (p + 1) _ (by simp only [laE, lcE, lnE] at hl ⊢; omega) (kU (by decide) v) l1 ⟨_, _, rfl, by show (10 : Int) ≠ 9; decide, by show (10 : Int) ≠ 1; decide, by show (10 : Int) ≠ 3; decide, by show (10 : Int) ≠ 2; decide, by rintro ⟨_, h⟩; exact absurd h (show ([41] : List Nat) ≠ [59] by decide)⟩
 have l2 := jT (c := 40) (by decide) a
 simp only [List.length_cons] at b
 obtain ⟨t1, u1, l1, rfl, h1⟩ := c
 refine ⟨_, by simpa using l2, by simp only [List.length_cons] at b ⊢; omega, ⟨_, _, _, rfl, ⟨by show (10 : Int) ≠ 0; decide, by show (10 : Int) ≠ 8 ∧ (10 : Int) ≠ 2; decide, fun h => absurd h (by show (10 : Int) ≠ 3; decide), fun _ => .inl rfl⟩, fun h => absurd h.1 (by show (10 : Int) ≠ 1; decide)⟩, fun f hf => ?_⟩
 obtain ⟨f, rfl⟩ : ∃ k, f = k + 1 := ⟨f - 1, by omega⟩
 have hE := e f (by simp only [List.length_cons] at hf ⊢; omega)
 unfold PP dJ
 rw [mF (by show (10 : Int) ≠ 3; decide) (by show (10 : Int) ≠ 4; decide) (by show (10 : Int) ≠ 5; decide) (by show (10 : Int) ≠ 6; decide), Option.bind_some]
 show (if false = true then _ else (bD (sd (_ :: t1 :: u1 :: l1) d) 0).bind _) = _
 rw [if_neg (by decide), iD, Option.bind_some, if_pos (by rfl), if_neg (by show (10 : Int) ≠ 1; decide), if_neg (by show (10 : Int) ≠ 7; decide)]
 show (dU (sd (_ :: t1 :: u1 :: l1) d) 10 [40]).bind _ = _
 rw [isX rfl rfl, Option.bind_some, if_pos rfl]
 refine lX (by show (10 : Int) ≠ 0; decide) hd ?_
 unfold kW
 rw [hE, Option.bind_some]
 show (bL (sd (_ :: t0 :: l0) (d + 1)) 10 [41]).bind _ = _
 rw [mK (isX rfl rfl) (by show (10 : Int) ≠ 0; decide)]
 rfl
theorem RdE.assign {d : Nat} {x : Node} {tx n : List Nat} (h : RdE d x tx) (hn : TV 1 n) : RdE d (.mk 6 n 0 [] [] [x]) (n ++ 32 :: 58 :: 61 :: 32 :: tx) := fun v p r hl hv hr hr0 => by
 obtain ⟨T, a, b, c, e⟩ := h v (p + n.length + 1 + 2 + 1) r (by simp only [List.length_append, List.length_cons] at hl ⊢; omega) hv (by
  rw [show p + n.length + 1 + 2 + 1 + tx.length = p + (n ++ 32 :: 58 :: 61 :: 32 :: tx).length by simp; omega]
  exact hr) hr0
 have l1 := fC (k := 9) (t := []) (p := p + n.length + 1) aWu (by decide) ⟨fun h => absurd h (by decide), fun _ _ h _ => absurd rfl h⟩ (fG a)
 have l2 := fC (p := p) hn (by decide) ((dR _).fol 1) (r := _) (fG l1)
 obtain ⟨t1, u1, k1, rfl, h1⟩ := c
 refine ⟨_, by simpa [aJ, bI] using l2, by simp only [List.length_cons] at b ⊢; omega, ⟨_, _, _, rfl, by show (1 : Int) ≠ 0; decide, by show (1 : Int) ≠ 8 ∧ (1 : Int) ≠ 2; decide, fun h => absurd h (by show (1 : Int) ≠ 3; decide), fun h => absurd h (by show (1 : Int) ≠ 10; decide)⟩, fun f hf => ?_⟩
 obtain ⟨f, rfl⟩ : ∃ k, f = k + 1 := ⟨f - 1, by omega⟩
 have hE := e f (by simp only [List.length_cons] at hf ⊢; omega)
 show mB (PP (f + 1)) (dO (f + 1)) (f + 1) (sd (_ :: _ :: t1 :: u1 :: k1) d) = _
 unfold mB
 rw [vO rfl, Option.bind_some, if_pos rfl, aCa, Option.bind_some]
 have e9 : ∀ (pp : Int), decide ((⟨9, [], 0, pp⟩ : Tok).kind = 9) = true := fun _ => rfl
 rw [e9, Option.bind_some, if_pos rfl, eQ (by show (1 : Int) ≠ 0; decide), Option.bind_some]
 show (aV (sd (_ :: t1 :: u1 :: k1) d)).bind _ = _
 rw [eQ (by show (9 : Int) ≠ 0; decide), Option.bind_some]
 show (dO (f + 1) (sd (t1 :: u1 :: k1) d)).bind _ = _
 rw [hE]
 rfl
end Go.Dd

namespace Go.Dd
theorem aHf {t : Tok} {r : List Tok} {d : Nat} (h3 : t.kind ≠ 3) : qR (sd (t :: r) d) = some false := by
 unfold qR
 obtain ⟨u, hu⟩ : ∃ u, bD (sd (t :: r) d) 1 = some u := by
  cases r with
  | nil => exact ⟨t, by simp [bD, sd]⟩
  | cons u r => exact ⟨u, aCa _ _ _ _⟩
 rw [hu, Option.bind_some, isN h3, Option.bind_some, iD]
 rfl
theorem bGd {t u : Tok} {r : List Tok} {d : Nat} (h : t.kind = 4) : eD (sd (t :: u :: r) d) = some ((.mk 1 t.text t.num [] [] [], true), sd (u :: r) d) := by
 unfold eD
 rw [iD, Option.bind_some, if_pos (by rfl), aHf (by omega), Option.bind_some, if_neg (by decide), if_pos h, eQ (by omega)]
 rfl
theorem bEz {t u : Tok} {r : List Tok} {d : Nat} (h : t.kind = 5) : eD (sd (t :: u :: r) d) = some ((.mk 2 t.text t.num [] [] [], true), sd (u :: r) d) := by
 unfold eD
 rw [iD, Option.bind_some, if_pos (by rfl), aHf (by omega), Option.bind_some, if_neg (by decide), if_neg (by omega), if_pos h, eQ (by omega)]
 rfl
theorem bBw {t u : Tok} {r : List Tok} {d : Nat} (h : t.kind = 6) : eD (sd (t :: u :: r) d) = some ((.mk 3 t.text t.num [] [] [], true), sd (u :: r) d) := by
 unfold eD
 rw [iD, Option.bind_some, if_pos (by rfl), aHf (by omega), Option.bind_some, if_neg (by decide), if_neg (by omega), if_neg (by omega), if_pos h, eQ (by omega)]
 rfl
theorem aNs {t u w : Tok} {r : List Tok} {d : Nat} (h : t.kind = 3) (hx : t.text = [45]) (h4 : u.kind = 4) (hp : u.pos = kC (t.pos + 1)) : eD (sd (t :: u :: w :: r) d) = some ((.mk 1 [] (kC (0 - u.num)) [] [] [], true), sd (w :: r) d) := by
 have hn : qR (sd (t :: u :: w :: r) d) = some true := by
  unfold qR
  rw [aCa, Option.bind_some, isX h hx, Option.bind_some, iD, Option.bind_some, h4, hp]
  simp
 unfold eD
 rw [iD, Option.bind_some, if_pos (by rfl), hn, Option.bind_some, if_pos rfl, eQ (by omega), Option.bind_some]
 show (aV (sd (u :: w :: r) d)).bind _ = _
 rw [eQ (by omega)]
 rfl
def RdL (d : Nat) (x : Node) (tx : List Nat) : Prop := ∀ v p r, p + (tx ++ v).length ≤ 100000 → Stop v → Lx 2001 v (p + tx.length) r → ∃ T, Lx 2001 (tx ++ v) p T ∧ r.length < T.length ∧ HE T ∧ (∀ t u l, T = t :: u :: l → t.kind ≠ 1 ∧ ¬ (t.kind = 10 ∧ t.text = [41])) ∧ eD (sd T d) = some ((x, true), sd r d)
theorem RdL.p {d : Nat} {x : Node} {tx : List Nat} (h : RdL d x tx) : RdP d x tx := fun v p r hl hv hr hd => by
 obtain ⟨T, a, b, ⟨t, u, l, e, c⟩, c2, k⟩ := h v p r hl hv hr
 refine ⟨T, a, b, ⟨t, u, l, e, c, fun h => (c2 t u l e).1 h.1⟩, fun f hf => ?_⟩
 unfold PP dJ
 rw [k]
 rfl
theorem bMp {d : Nat} {t : List Nat} (h : TV 5 t) : RdL d (.mk 2 t 0 [] [] []) (39 :: (dC 39 [39, 39] t ++ [39])) := fun v p r hl hv hr => by
 obtain ⟨t0, l0, rfl⟩ := hr.cons
 have := fC (p := p) h (by decide) (hv.fol 5) hr
 exact ⟨_, this, by simp, ⟨_, _, _, rfl, by show (5 : Int) ≠ 0; decide, by show (5 : Int) ≠ 8 ∧ (5 : Int) ≠ 2; decide, fun h => absurd h (by show (5 : Int) ≠ 3; decide), fun h => absurd h (by show (5 : Int) ≠ 10; decide)⟩, fun _ _ _ e => by
  cases e
  exact ⟨by show (5 : Int) ≠ 1; decide, fun h => absurd h.1 (by show (5 : Int) ≠ 10; decide)⟩, bEz rfl⟩
theorem bNm {d : Nat} {t : List Nat} (h : TV 6 t) : RdL d (.mk 3 t 0 [] [] []) (35 :: t) := fun v p r hl hv hr => by
 obtain ⟨t0, l0, rfl⟩ := hr.cons
 have := fC (p := p) h (by decide) (hv.fol 6) hr
 exact ⟨_, this, by simp, ⟨_, _, _, rfl, by show (6 : Int) ≠ 0; decide, by show (6 : Int) ≠ 8 ∧ (6 : Int) ≠ 2; decide, fun h => absurd h (by show (6 : Int) ≠ 3; decide), fun h => absurd h (by show (6 : Int) ≠ 10; decide)⟩, fun _ _ _ e => by
  cases e
  exact ⟨by show (6 : Int) ≠ 1; decide, fun h => absurd h.1 (by show (6 : Int) ≠ 10; decide)⟩, bBw rfl⟩
theorem aCy (n : Nat) : fN (-((n + 1 : Nat) : Int)) = 45 :: dg (n + 1) := rfl
theorem aTx {d : Nat} {n : Nat} (hn : n ≤ 1152921504606846976) : RdL d (.mk 1 [] (n : Int) [] [] []) (fN (n : Int)) := fun v p r hl hv hr => by
 obtain ⟨t0, l0, rfl⟩ := hr.cons
 have := aFe (p := p) hn hv.name hr
 exact ⟨_, this, by simp, ⟨_, _, _, rfl, by show (4 : Int) ≠ 0; decide, by show (4 : Int) ≠ 8 ∧ (4 : Int) ≠ 2; decide, fun h => absurd h (by show (4 : Int) ≠ 3; decide), fun h => absurd h (by show (4 : Int) ≠ 10; decide)⟩, fun _ _ _ e => by
  cases e
  exact ⟨by show (4 : Int) ≠ 1; decide, fun h => absurd h.1 (by show (4 : Int) ≠ 10; decide)⟩, bGd rfl⟩
theorem bOt {d : Nat} {n : Nat} (hn : n ≤ 1152921504606846976) : RdL d (.mk 1 [] (kC (0 - (n : Int))) [] [] []) (fN (kC (0 - (n : Int)))) := by
 cases n with
 | zero => exact aTx (n := 0) (by omega)
 | succ n =>
  have e : kC (0 - ((n + 1 : Nat) : Int)) = -((n + 1 : Nat) : Int) := by
   unfold kC
   rw [gV _ (by omega) (by omega)]
   omega
  rw [e, aCy]
  intro v p r hl hv hr
  obtain ⟨t0, l0, rfl⟩ := hr.cons
  simp only [List.length_append, List.length_cons] at hl
  have := bMo (p := p) hn hv (r := t0 :: l0) (by
   rw [show p + 1 + (dg (n + 1)).length = p + (45 :: dg (n + 1)).length by simp only [List.length_cons]; omega]
   exact hr)
  refine ⟨_, this, by simp, ⟨_, _, _, rfl, by show (3 : Int) ≠ 0; decide, by show (3 : Int) ≠ 8 ∧ (3 : Int) ≠ 2; decide, fun _ => rfl, fun h => absurd h (by show (3 : Int) ≠ 10; decide)⟩, fun _ _ _ e => by
   cases e
   exact ⟨by show (3 : Int) ≠ 1; decide, fun h => absurd h.1 (by show (3 : Int) ≠ 10; decide)⟩, ?_⟩
  rw [aNs rfl rfl rfl (by show ((p + 1 : Nat) : Int) = kC ((p : Int) + 1); rw [wU (by omega)])]
  show some ((Node.mk 1 [] (kC (0 - ((n + 1 : Nat) : Int))) [] [] [], true), _) = _
  rw [e]
theorem bKv {d : Nat} {n : List Nat} (h : TV 1 n) : RdP d (.mk 5 n 0 [] [] []) n := fun v p r hl hv hr hd => by
 obtain ⟨t0, l0, rfl, h9⟩ := hd
 have := fC (p := p) h (by decide) (hv.fol 1) hr
 refine ⟨_, this, by simp, ⟨_, _, _, rfl, ⟨by show (1 : Int) ≠ 0; decide, by show (1 : Int) ≠ 8 ∧ (1 : Int) ≠ 2; decide, fun h => absurd h (by show (1 : Int) ≠ 3; decide), fun h => absurd h (by show (1 : Int) ≠ 10; decide)⟩, fun h => h9 h.2⟩, fun f hf => ?_⟩
 unfold PP dJ
 rw [mF (by show (1 : Int) ≠ 3; decide) (by show (1 : Int) ≠ 4; decide) (by show (1 : Int) ≠ 5; decide) (by show (1 : Int) ≠ 6; decide), Option.bind_some]
 show (if false = true then _ else (bD (sd (_ :: t0 :: l0) d) 0).bind _) = _
 rw [if_neg (by decide), iD, Option.bind_some, if_pos (by rfl), if_pos (by rfl)]
 show (aV (sd (_ :: t0 :: l0) d)).bind _ = _
 rw [eQ (by show (1 : Int) ≠ 0; decide)]
 rfl
def KQ : List (List Nat × Node × List Nat) → List Nat
 | [] => []
 | q :: qs => 32 :: (q.1 ++ 32 :: (q.2.2 ++ KQ qs))
def KOk (d : Nat) (qs : List (List Nat × Node × List Nat)) : Prop := ∀ q ∈ qs, TV 2 q.1 ∧ RdB d q.2.1 q.2.2
theorem KQ.stop {qs : List (List Nat × Node × List Nat)} {v : List Nat} (h : Stop v) : Stop (KQ qs ++ v) := by
 cases qs with
 | nil => exact h
 | cons q qs => exact dR _
theorem zY {d : Nat} : ∀ (qs : List (List Nat × Node × List Nat)) (v : List Nat) (p : Nat) (r : List Tok), KOk d qs → p + (KQ qs ++ v).length ≤ 100000 → Stop v → Lx 2001 v (p + (KQ qs).length) r → Hd pK r →
 ∃ T, Lx 2001 (KQ qs ++ v) p T ∧ r.length + qs.length ≤ T.length ∧ Hd pB T ∧ (qs ≠ [] → ∃ t l, T = t :: l ∧ t.kind = 2) ∧ ∀ f g t ks, T.length + 2 ≤ f → T.length + 1 ≤ g → t.length + (KQ qs).length ≤ 100000 →
  dW (PP f) f g t ks (sd T d) = some (aK (t ++ (qs.map Prod.fst).flatten) (ks ++ qs.map fun q => q.2.1), sd r d)
 | [], v, p, r, hk, hl, hv, hr, hd => by
  refine ⟨r, hr, by simp, hd.mono fun _ h => ⟨h.1, h.2.1, h.2.2.1⟩, fun h => absurd rfl h, fun f g t ks hf hg ht => ?_⟩
  obtain ⟨t0, l0, rfl, h1, h2, h3, h4⟩ := hd
  obtain ⟨g, rfl⟩ : ∃ k, g = k + 1 := ⟨g - 1, by omega⟩
  unfold dW
  rw [isN h4]
  simp
 | q :: qs, v, p, r, hk, hl, hv, hr, hd => by
  have hq := hk q (by simp)
  simp only [KQ, List.length_append, List.length_cons] at hl hr
  obtain ⟨T1, a1, b1, c1, _, e1⟩ := zY qs v (p + 1 + q.1.length + 1 + q.2.2.length) r (fun x hx => hk x (by simp [hx])) (by simp only [List.length_append]; omega) hv (by
   rw [show p + 1 + q.1.length + 1 + q.2.2.length + (KQ qs).length = p + (q.1.length + (q.2.2.length + (KQ qs).length + 1) + 1) by omega]
   exact hr) hd
  obtain ⟨T2, a2, b2, c2, e2⟩ := hq.2 (KQ qs ++ v) (p + 1 + q.1.length + 1) T1 (by simp only [List.length_append]; omega) (KQ.stop hv) a1 (c1.mono fun _ h => ⟨h.1, h.2.1⟩)
  have l1 := fC (p := p + 1) hq.1 (by decide) ((dR (q.2.2 ++ (KQ qs ++ v))).fol 2) (r := T2) (fG a2)
  refine ⟨_, by simpa [aJ, KQ, bI] using fG l1, by simp only [List.length_cons]; omega, ⟨_, _, rfl, by show (2 : Int) ≠ 9; decide, by show (2 : Int) ≠ 1; decide, by show (2 : Int) ≠ 3; decide⟩, fun _ => ⟨_, _, rfl, rfl⟩, fun f g t ks hf hg ht => ?_⟩
  simp only [List.length_cons] at hf hg
  obtain ⟨g, rfl⟩ : ∃ k, g = k + 1 := ⟨g - 1, by omega⟩
  simp only [KQ, List.length_append, List.length_cons] at ht
  obtain ⟨q1, q2, q3⟩ := e2 f (by omega)
  have e3 := e1 f g (t ++ q.1) (ks ++ [q.2.1]) (by omega) (by omega) (by simp only [List.length_append]; omega)
  obtain ⟨t1, u1, k1, rfl, _⟩ := c2
  unfold dW
  rw [vO rfl, Option.bind_some, if_pos rfl, eQ (by show (2 : Int) ≠ 0; decide), Option.bind_some]
  show (if t.length + q.1.length ≤ bQ then _ else none) = _
  rw [if_pos (by unfold bQ; omega)]
  have : ((PP f (sd (t1 :: u1 :: k1) d)).bind fun x => (bZ f x.1 x.2).bind fun u => (bU (PP f) f f u.1 u.2).bind fun w => dW (PP f) f g (t ++ q.1) (ks ++ [w.1]) w.2) = dW (PP f) f g (t ++ q.1) (ks ++ [q.2.1]) (sd T1 d) := by
   have h2 : FB f (sd (t1 :: u1 :: k1) d) = some (q.2.1, sd T1 d) := by rw [q3, lI (by omega) c1]
   have h3 : ((PP f (sd (t1 :: u1 :: k1) d)).bind fun x => (bZ f x.1 x.2).bind fun u => (bU (PP f) f f u.1 u.2).bind fun w => dW (PP f) f g (t ++ q.1) (ks ++ [w.1]) w.2) = (FB f (sd (t1 :: u1 :: k1) d)).bind fun w => dW (PP f) f g (t ++ q.1) (ks ++ [w.1]) w.2 := by
    unfold FB FU
    simp only [Option.bind_assoc]
   rw [h3, h2]
   rfl
  refine this.trans ?_
  rw [e3]
  simp
theorem RdK.keys {d : Nat} {x : Node} {tx : List Nat} {qs : List (List Nat × Node × List Nat)} (h : RdB d x tx) (hk : KOk d qs) (hne : qs ≠ []) : RdK d (aK (qs.map Prod.fst).flatten (x :: qs.map fun q => q.2.1)) (tx ++ KQ qs) := fun v p r hl hv hr hd => by
 simp only [List.length_append] at hl
 obtain ⟨T1, a1, b1, c1, d1, e1⟩ := zY qs v (p + tx.length) r hk (by simp only [List.length_append]; omega) hv (by
  rw [show p + tx.length + (KQ qs).length = p + (tx ++ KQ qs).length by simp; omega]
  exact hr) hd
 obtain ⟨T, a, b, c, e⟩ := h (KQ qs ++ v) p T1 (by simp only [List.length_append]; omega) (KQ.stop hv) a1 (c1.mono fun _ h => ⟨h.1, h.2.1⟩)
 refine ⟨T, by simpa using a, by omega, c, fun f hf => ?_⟩
 obtain ⟨g, g1, g2⟩ := e f hf
 unfold FK
 rw [g2, lI (by omega) c1, Option.bind_some]
 obtain ⟨t, l, rfl, h2⟩ := d1 hne
 show iU (PP f) f x (sd (t :: l) d) = _
 unfold iU
 rw [vO h2, Option.bind_some, if_pos rfl, e1 f f [] [x] (by omega) (by omega) (by simp; omega)]
 simp
def RdM (d : Nat) (m : Node) (tx : List Nat) : Prop := ∀ v p r, p + (tx ++ v).length ≤ 100000 → Stop v → Lx 2001 v (p + tx.length) r → Hd pK r → ∃ T, Lx 2001 (tx ++ v) p T ∧ r.length < T.length ∧ (∃ t u l, T = t :: u :: l) ∧ ∀ f, T.length + 2 ≤ f → ∃ n, pA (PP f) f (sd T d) = some (n, sd r d) ∧ gF n = m
theorem mC (t : List Nat) (x : Node) (ks : List Node) : gF (aK t (x :: ks)) = aK t ks := by simp [gF, aK, Node.kids, Node.text]
theorem bYk {d : Nat} {n : List Nat} (h : TV 1 n) : RdM d (aK n []) n := fun v p r hl hv hr hd => by
 obtain ⟨t0, l0, rfl, _⟩ := hd
 have := fC (p := p) h (by decide) (hv.fol 1) hr
 refine ⟨_, this, by simp, ⟨_, _, _, rfl⟩, fun f hf => ⟨aK n [zN], ?_, mC _ _ _⟩⟩
 unfold pA
 rw [iD, Option.bind_some, if_pos (by rfl), eQ (by show (1 : Int) ≠ 0; decide)]
 rfl
theorem bXy {d : Nat} {s : List Nat} {y : Node} {ty : List Nat} (hs : TV 3 s) (hy : RdU d y ty) : RdM d (aK s [y]) (s ++ 32 :: ty) := fun v p r hl hv hr hd => by
 simp only [List.length_append, List.length_cons] at hl
 obtain ⟨T1, a1, b1, c1, e1⟩ := hy v (p + s.length + 1) r (by simp only [List.length_append]; omega) hv (by
  rw [show p + s.length + 1 + ty.length = p + (s ++ 32 :: ty).length by simp; omega]
  exact hr) (hd.mono fun _ h => h.1)
 have l1 := fC (p := p) hs (by decide) ((dR (ty ++ v)).fol 3) (r := T1) (fG a1)
 obtain ⟨t1, u1, k1, rfl, _⟩ := c1
 refine ⟨_, by simpa [aJ, bI] using l1, by simp only [List.length_cons] at b1 ⊢; omega, ⟨_, _, _, rfl⟩, fun f hf => ⟨aK s [zN, y], ?_, mC _ _ _⟩⟩
 obtain ⟨q, q1, q2⟩ := e1 f (by simp only [List.length_cons] at hf ⊢; omega)
 unfold pA
 rw [iD, Option.bind_some, if_neg (by show (3 : Int) ≠ 1; decide), if_pos (by rfl), eQ (by show (3 : Int) ≠ 0; decide), Option.bind_some]
 show ((PP f (sd (t1 :: u1 :: k1) d)).bind fun q => (bZ f q.1 q.2).bind fun u => some (aK s [zN, u.1], u.2)) = _
 rw [← Option.bind_assoc]
 show (FU f (sd (t1 :: u1 :: k1) d)).bind _ = _
 rw [q2, pM (by omega) (hd.mono fun _ h => ⟨h.1, h.2.1⟩)]
 rfl
theorem bXu {d : Nat} {qs : List (List Nat × Node × List Nat)} (hk : KOk d qs) (hne : qs ≠ []) : RdM d (aK (qs.map Prod.fst).flatten (qs.map fun q => q.2.1)) ((KQ qs).drop 1) := fun v p r hl hv hr hd => by
 obtain ⟨q, qs, rfl⟩ : ∃ a b, qs = a :: b := by cases qs with
  | nil => exact absurd rfl hne
  | cons a b => exact ⟨a, b, rfl⟩
 simp only [KQ, List.drop_succ_cons, List.drop_zero] at hl hr ⊢
 simp only [List.length_append, List.length_cons] at hl hr
 have hq := hk q (by simp)
 obtain ⟨T1, a1, b1, c1, _, e1⟩ := zY qs v (p + q.1.length + 1 + q.2.2.length) r (fun x hx => hk x (by simp [hx])) (by simp only [List.length_append]; omega) hv (by
  rw [show p + q.1.length + 1 + q.2.2.length + (KQ qs).length = p + (q.1.length + (q.2.2.length + (KQ qs).length + 1)) by omega]
  exact hr) hd
 obtain ⟨T2, a2, b2, c2, e2⟩ := hq.2 (KQ qs ++ v) (p + q.1.length + 1) T1 (by simp only [List.length_append]; omega) (KQ.stop hv) a1 (c1.mono fun _ h => ⟨h.1, h.2.1⟩)
 have l1 := fC (p := p) hq.1 (by decide) ((dR (q.2.2 ++ (KQ qs ++ v))).fol 2) (r := T2) (fG a2)
 obtain ⟨t1, u1, k1, rfl, _⟩ := c2
 refine ⟨_, by simpa [aJ, bI] using l1, by simp only [List.length_cons] at b2 ⊢; omega, ⟨_, _, _, rfl⟩, fun f hf => ⟨aK (q.1 ++ (qs.map Prod.fst).flatten) (zN :: q.2.1 :: qs.map fun q => q.2.1), ?_, by rw [mC]; simp⟩⟩
 simp only [List.length_cons] at hf
 obtain ⟨g, rfl⟩ : ∃ k, f = k + 1 := ⟨f - 1, by omega⟩
 obtain ⟨q1, q2, q3⟩ := e2 (g + 1) (by simp only [List.length_cons]; omega)
 simp only [List.length_cons] at b2
 have e3 := e1 (g + 1) g q.1 [zN, q.2.1] (by omega) (by omega) (by omega)
 unfold pA
 rw [iD, Option.bind_some, if_neg (by show (2 : Int) ≠ 1; decide), if_neg (by show (2 : Int) ≠ 3; decide), if_pos (by rfl)]
 unfold iU
 rw [vO rfl, Option.bind_some, if_pos rfl]
 conv => lhs; unfold dW
 rw [vO rfl, Option.bind_some, if_pos rfl, eQ (by show (2 : Int) ≠ 0; decide), Option.bind_some]
 show (if 0 + q.1.length ≤ bQ then _ else none) = _
 rw [if_pos (by unfold bQ; omega)]
 have h2 : FB (g + 1) (sd (t1 :: u1 :: k1) d) = some (q.2.1, sd T1 d) := by rw [q3, lI (by omega) c1]
 have h3 : ((PP (g + 1) (sd (t1 :: u1 :: k1) d)).bind fun x => (bZ (g + 1) x.1 x.2).bind fun u => (bU (PP (g + 1)) (g + 1) (g + 1) u.1 u.2).bind fun w => dW (PP (g + 1)) (g + 1) g ([] ++ q.1) ([zN] ++ [w.1]) w.2) = (FB (g + 1) (sd (t1 :: u1 :: k1) d)).bind fun w => dW (PP (g + 1)) (g + 1) g ([] ++ q.1) ([zN] ++ [w.1]) w.2 := by
  unfold FB FU
  simp only [Option.bind_assoc]
 refine h3.trans ?_
 rw [h2, Option.bind_some]
 refine Eq.trans ?_ (e3.trans ?_)
 ·rfl
 ·simp
def FQ : List (Node × List Nat) → List Nat
 | [] => []
 | m :: ms => 59 :: 32 :: (m.2 ++ FQ ms)
theorem FQ.stop {ms : List (Node × List Nat)} {v : List Nat} (h : Stop v) : Stop (FQ ms ++ v) := by
 cases ms with
 | nil => exact h
 | cons q qs => exact kU (by decide) _
theorem aVt {d : Nat} : ∀ (ms : List (Node × List Nat)) (v : List Nat) (p : Nat) (r : List Tok), (∀ m ∈ ms, RdM d m.1 m.2) → p + (FQ ms ++ v).length ≤ 100000 → Stop v → Lx 2001 v (p + (FQ ms).length) r → Hd pE r →
 ∃ T, Lx 2001 (FQ ms ++ v) p T ∧ r.length + ms.length ≤ T.length ∧ Hd pK T ∧ (ms ≠ [] → ∃ t l, T = t :: l ∧ t.kind = 10 ∧ t.text = [59]) ∧ ∀ f g ks, T.length + 2 ≤ f → T.length + 1 ≤ g →
  kL (PP f) f g ks (sd T d) = some (.mk 8 [] 0 [] [] (ks ++ ms.map Prod.fst), sd r d)
 | [], v, p, r, hk, hl, hv, hr, hd => by
  refine ⟨r, hr, by simp, hd.mono fun _ h => ⟨h.1, h.2.1, h.2.2.1, h.2.2.2.1⟩, fun h => absurd rfl h, fun f g ks hf hg => ?_⟩
  obtain ⟨t0, l0, rfl, h1⟩ := hd
  obtain ⟨g, rfl⟩ : ∃ k, g = k + 1 := ⟨g - 1, by omega⟩
  unfold kL
  rw [isY (by decide) h1.2.2.2.2]
  simp
 | m :: ms, v, p, r, hk, hl, hv, hr, hd => by
  have hm := hk m (by simp)
  simp only [FQ, List.length_append, List.length_cons] at hl hr
  obtain ⟨T1, a1, b1, c1, _, e1⟩ := aVt ms v (p + 1 + 1 + m.2.length) r (fun x hx => hk x (by simp [hx])) (by simp only [List.length_append]; omega) hv (by
   rw [show p + 1 + 1 + m.2.length + (FQ ms).length = p + (m.2.length + (FQ ms).length + 1 + 1) by omega]
   exact hr) hd
  obtain ⟨T2, a2, b2, c2, e2⟩ := hm (FQ ms ++ v) (p + 1 + 1) T1 (by simp only [List.length_append]; omega) (FQ.stop hv) a1 c1
  have l1 := jT (c := 59) (by decide) (p := p) (fG a2)
  refine ⟨_, by simpa [aJ, FQ] using l1, by simp only [List.length_cons]; omega, ⟨_, _, rfl, by show (10 : Int) ≠ 9; decide, by show (10 : Int) ≠ 1; decide, by show (10 : Int) ≠ 3; decide, by show (10 : Int) ≠ 2; decide⟩, fun _ => ⟨_, _, rfl, rfl, rfl⟩, fun f g ks hf hg => ?_⟩
  simp only [List.length_cons] at hf hg
  obtain ⟨g, rfl⟩ : ∃ k, g = k + 1 := ⟨g - 1, by omega⟩
  obtain ⟨n, n1, n2⟩ := e2 f (by omega)
  have e3 := e1 f g (ks ++ [m.1]) (by omega) (by omega)
  obtain ⟨t1, u1, k1, rfl⟩ := c2
  unfold kL
  rw [isX rfl rfl, Option.bind_some, if_pos rfl, eQ (by show (10 : Int) ≠ 0; decide), Option.bind_some]
  show ((pA (PP f) f (sd (t1 :: u1 :: k1) d)).bind fun q => kL (PP f) f g (ks ++ [gF q.1]) q.2) = _
  rw [n1, Option.bind_some, n2]
  refine e3.trans ?_
  simp
theorem RdE.cascade {d : Nat} {k0 : Node} {t : List Nat} {args : List Node} {tx : List Nat} {ms : List (Node × List Nat)} (h : RdK d (aK t (k0 :: args)) tx) (hk : ∀ m ∈ ms, RdM d m.1 m.2) (hne : ms ≠ []) :
 RdE d (.mk 8 [] 0 [] [] (k0 :: aK t args :: ms.map Prod.fst)) (tx ++ FQ ms) := fun v p r hl hv hr hd => by
 simp only [List.length_append] at hl
 obtain ⟨T1, a1, b1, c1, d1, e1⟩ := aVt ms v (p + tx.length) r hk (by simp only [List.length_append]; omega) hv (by
  rw [show p + tx.length + (FQ ms).length = p + (tx ++ FQ ms).length by simp; omega]
  exact hr) hd
 obtain ⟨T, a, b, c, e⟩ := h (FQ ms ++ v) p T1 (by simp only [List.length_append]; omega) (FQ.stop hv) a1 c1
 refine ⟨T, by simpa using a, by omega, c.he, fun f hf => ?_⟩
 rw [aCi c, nR, e f hf, Option.bind_some]
 obtain ⟨t1, l1, rfl, h2, h3⟩ := d1 hne
 show (dU (sd (t1 :: l1) d) 10 [59]).bind _ = _
 rw [isX h2 h3, Option.bind_some, if_pos rfl, if_pos (by rfl)]
 show (some k0).bind _ = _
 rw [Option.bind_some, mC, e1 f f _ (by omega) (by omega)]
 rfl
end Go.Dd

namespace Go.Dd
theorem uS (sep a b : List Nat) (l : List (List Nat)) : aF sep (a :: b :: l) = a ++ (sep ++ aF sep (b :: l)) := rfl
theorem vH (sep a : List Nat) : aF sep [a] = a := rfl
def RdA (d : Nat) (x : Node) (tx : List Nat) : Prop := ∀ v p r, p + (tx ++ v).length ≤ 100000 → Stop v → Lx 2001 v (p + tx.length) r → ∃ T, Lx 2001 (tx ++ v) p T ∧ r.length < T.length ∧ ∀ f g xs, T.length + 1 ≤ f → dI (nQ f) (g + 1) xs (sd T d) = dI (nQ f) g (xs ++ [x]) (sd r d)
theorem RdL.a {d : Nat} {x : Node} {tx : List Nat} (h : RdL d x tx) : RdA d x tx := fun v p r hl hv hr => by
 obtain ⟨T, a, b, ⟨t, u, l, e, c⟩, c2, k⟩ := h v p r hl hv hr
 refine ⟨T, a, b, fun f g xs hf => ?_⟩
 conv => lhs; unfold dI
 subst e
 rw [if_pos (by rfl), isY (by decide) (c2 _ _ _ rfl).2, Option.bind_some, if_neg (by decide), k]
 rfl
theorem aBw {d : Nat} : ∀ (es : List (Node × List Nat)) (v : List Nat) (p : Nat) (r : List Tok), (∀ e ∈ es, RdA d e.1 e.2) → p + (aF [32] (es.map Prod.snd) ++ v).length ≤ 100000 → Stop v → Lx 2001 v (p + (aF [32] (es.map Prod.snd)).length) r → Hd (fun t => t.kind = 10 ∧ t.text = [41]) r →
 ∃ T, Lx 2001 (aF [32] (es.map Prod.snd) ++ v) p T ∧ r.length + es.length ≤ T.length ∧ ∀ f g xs, T.length + 1 ≤ f → T.length + 1 ≤ g → dI (nQ f) g xs (sd T d) = some (xs ++ es.map Prod.fst, sd r d)
 | [], v, p, r, hk, hl, hv, hr, hd => by
  refine ⟨r, hr, by simp, fun f g xs hf hg => ?_⟩
  obtain ⟨t0, l0, rfl, h1, h2⟩ := hd
  obtain ⟨g, rfl⟩ : ∃ k, g = k + 1 := ⟨g - 1, by omega⟩
  unfold dI
  rw [if_pos (by rfl), isX h1 h2]
  simp
 | [e], v, p, r, hk, hl, hv, hr, hd => by
  obtain ⟨T, a, b, c⟩ := hk e (by simp) v p r hl hv hr
  refine ⟨T, a, by simp only [List.length_cons, List.length_nil]; omega, fun f g xs hf hg => ?_⟩
  obtain ⟨g, rfl⟩ : ∃ k, g = k + 1 := ⟨g - 1, by omega⟩
  rw [c f g xs hf]
  obtain ⟨t0, l0, rfl, h1, h2⟩ := hd
  obtain ⟨g, rfl⟩ : ∃ k, g = k + 1 := ⟨g - 1, by simp only [List.length_cons] at b; omega⟩
  unfold dI
  rw [if_pos (by rfl), isX h1 h2]
  simp
 | e :: e2 :: es, v, p, r, hk, hl, hv, hr, hd => by
  have ej : aF [32] ((e :: e2 :: es).map Prod.snd) = e.2 ++ 32 :: aF [32] ((e2 :: es).map Prod.snd) := uS _ _ _ _
  rw [ej] at hl hr ⊢
  simp only [List.length_append, List.length_cons] at hl hr
  obtain ⟨T1, a1, b1, c1⟩ := aBw (e2 :: es) v (p + e.2.length + 1) r (fun x hx => hk x (by simp only [List.mem_cons] at hx ⊢; exact .inr hx)) (by simp only [List.length_append]; omega) hv (by
   rw [show p + e.2.length + 1 + (aF [32] ((e2 :: es).map Prod.snd)).length = p + (e.2.length + ((aF [32] ((e2 :: es).map Prod.snd)).length + 1)) by omega]
   exact hr) hd
  obtain ⟨T, a, b, c⟩ := hk e (by simp) (32 :: (aF [32] ((e2 :: es).map Prod.snd) ++ v)) p T1 (by simp only [List.length_append, List.length_cons]; omega) (dR _) (fG a1)
  simp only [List.length_cons] at b1
  refine ⟨T, by simpa using a, by simp only [List.length_cons]; omega, fun f g xs hf hg => ?_⟩
  obtain ⟨g, rfl⟩ : ∃ k, g = k + 1 := ⟨g - 1, by omega⟩
  rw [c f g xs hf, c1 f g _ (by omega) (by omega)]
  simp
theorem aQj {d : Nat} {es : List (Node × List Nat)} (hd : d < 20) (hk : ∀ e ∈ es, RdA (d + 1) e.1 e.2) {v : List Nat} {p : Nat} {r : List Tok} (hl : p + (35 :: 40 :: (aF [32] (es.map Prod.snd) ++ [41]) ++ v).length ≤ 100000) (hr : Lx 2001 v (p + (35 :: 40 :: (aF [32] (es.map Prod.snd) ++ [41])).length) r) :
 ∃ T, Lx 2001 (35 :: 40 :: (aF [32] (es.map Prod.snd) ++ [41]) ++ v) p (⟨7, [], 0, (p : Int)⟩ :: T) ∧ r.length < T.length ∧ (∃ a b, T = a :: b) ∧ ∀ f, T.length + 2 ≤ f → cQ (nQ f) (sd (⟨7, [], 0, (p : Int)⟩ :: T) d) = some (.mk 4 [] 0 [] [] (es.map Prod.fst), sd r d) := by
 obtain ⟨t0, l0, rfl⟩ := hr.cons
 simp only [laE, lcE, lnE, List.cons_append] at hl hr
 have l1 := jT (c := 41) (by decide) (v := v) (p := p + 2 + (aF [32] (es.map Prod.snd)).length) (r := t0 :: l0) (by
  rw [show p + 2 + (aF [32] (es.map Prod.snd)).length + 1 = p + ((aF [32] (es.map Prod.snd)).length + (0 + 1) + 1 + 1) by omega]
  exact hr)
 obtain ⟨T, a, b, c⟩ := aBw es (41 :: v) (p + 2) _ hk (by simp only [List.length_append, List.length_cons]; omega) (kU (by decide) v) l1 ⟨_, _, rfl, rfl, rfl⟩
 have l2 := fC (k := 7) (t := []) (p := p) aQm (by decide) ⟨fun h => absurd h (by decide), fun _ h => absurd rfl h⟩ a
 simp only [List.length_cons] at b
 obtain ⟨t1, k1, rfl⟩ := a.cons
 refine ⟨_, by simpa [aJ, bI] using l2, by simp only [List.length_cons] at b ⊢; omega, ⟨_, _, rfl⟩, fun f hf => ?_⟩
 refine lX (by show (7 : Int) ≠ 0; decide) hd ?_
 obtain ⟨f, rfl⟩ : ∃ k, f = k + 1 := ⟨f - 1, by omega⟩
 show fT (nQ f) f (sd (t1 :: k1) (d + 1)) = _
 unfold fT
 rw [c f f [] (by omega) (by omega), Option.bind_some]
 show (aV (sd (_ :: t0 :: l0) (d + 1))).bind _ = _
 rw [eQ (by show (10 : Int) ≠ 0; decide)]
 simp
theorem bAf {d : Nat} {es : List (Node × List Nat)} (hd : d < 20) (hk : ∀ e ∈ es, RdA (d + 1) e.1 e.2) : RdA d (.mk 4 [] 0 [] [] (es.map Prod.fst)) (35 :: 40 :: (aF [32] (es.map Prod.snd) ++ [41])) := fun v p r hl hv hr => by
 obtain ⟨T, a, b, ⟨t1, k1, rfl⟩, c⟩ := aQj hd hk hl hr
 refine ⟨_, a, by simp only [List.length_cons] at b ⊢; omega, fun f g xs hf => ?_⟩
 conv => lhs; unfold dI
 rw [if_pos (by rfl), isN (by show (7 : Int) ≠ 10; decide), Option.bind_some, if_neg (by decide), mF (by show (7 : Int) ≠ 3; decide) (by show (7 : Int) ≠ 4; decide) (by show (7 : Int) ≠ 5; decide) (by show (7 : Int) ≠ 6; decide), Option.bind_some]
 show (if false = true then _ else (dU (sd (_ :: t1 :: k1) d) 7 []).bind _) = _
 rw [if_neg (by decide), vO rfl, Option.bind_some, if_pos rfl, Option.bind_some, if_pos rfl, c f (by simp only [List.length_cons] at hf ⊢; omega)]
 rfl
theorem bAk {d : Nat} {es : List (Node × List Nat)} (hd : d < 20) (hk : ∀ e ∈ es, RdA (d + 1) e.1 e.2) : RdP d (.mk 4 [] 0 [] [] (es.map Prod.fst)) (35 :: 40 :: (aF [32] (es.map Prod.snd) ++ [41])) := fun v p r hl hv hr h9 => by
 obtain ⟨T, a, b, ⟨t1, k1, rfl⟩, c⟩ := aQj hd hk hl hr
 refine ⟨_, a, by simp only [List.length_cons] at b ⊢; omega, ⟨_, _, _, rfl, ⟨by show (7 : Int) ≠ 0; decide, by show (7 : Int) ≠ 8 ∧ (7 : Int) ≠ 2; decide, fun h => absurd h (by show (7 : Int) ≠ 3; decide), fun h => absurd h (by show (7 : Int) ≠ 10; decide)⟩, fun h => absurd h.1 (by show (7 : Int) ≠ 1; decide)⟩, fun f hf => ?_⟩
 unfold PP dJ
 rw [mF (by show (7 : Int) ≠ 3; decide) (by show (7 : Int) ≠ 4; decide) (by show (7 : Int) ≠ 5; decide) (by show (7 : Int) ≠ 6; decide), Option.bind_some]
 show (if false = true then _ else (bD (sd (_ :: t1 :: k1) d) 0).bind _) = _
 rw [if_neg (by decide), iD, Option.bind_some, if_pos (by rfl), if_neg (by show (7 : Int) ≠ 1; decide), if_pos (by rfl)]
 exact c f (by simp only [List.length_cons] at hf ⊢; omega)
inductive SOk (d : Nat) : List (Node × List Nat) → Prop
 | nil : SOk d []
 | cons (x : Node) (tx : List Nat) (l : List (Node × List Nat)) : RdE d x tx → SOk d l → SOk d ((x, tx) :: l)
 | ret (x : Node) (tx : List Nat) : RdE d x tx → SOk d [(.mk 10 [] 0 [] [] [x], 94 :: tx)]
def pEnd (t : Tok) : Prop := t.kind = 0 ∨ (t.kind = 10 ∧ t.text = [93])
theorem pEnd.e {t : Tok} (h : pEnd t) : pE t := by
 rcases h with h | h
 ·exact ⟨by omega, by omega, by omega, by omega, fun h2 => by omega⟩
 ·exact ⟨by omega, by omega, by omega, by omega, fun h2 => by rw [h.2] at h2; exact absurd h2.2 (by decide)⟩
def pS (t : Tok) : Prop := (t.kind ≠ 8 ∧ t.kind ≠ 2) ∧ ¬ (t.kind = 10 ∧ t.text = [124]) ∧ ¬ (t.kind = 3 ∧ t.text = [60])
theorem pEnd.s {t : Tok} (h : pEnd t) : pS t := by
 rcases h with h | h
 ·exact ⟨by omega, fun h2 => by omega, fun h2 => by omega⟩
 ·exact ⟨by omega, fun h2 => by rw [h.2] at h2; exact absurd h2.2 (by decide), fun h2 => by omega⟩
theorem HG.s {t : Tok} (h : HG t) : pS t := by
 refine ⟨h.2.1, fun h2 => ?_, fun h2 => ?_⟩
 ·rcases h.2.2.2 h2.1 with h3 | h3 <;> (rw [h3] at h2; exact absurd h2.2 (by decide))
 ·have h3 := h.2.2.1 h2.1
  rw [h3] at h2
  exact absurd h2.2 (by decide)
theorem aLe {t u : Tok} {l : List Tok} {d : Nat} (h : HG t) : dU (sd (t :: u :: l) d) 0 [] = some false ∧ dU (sd (t :: u :: l) d) 10 [93] = some false ∧ dU (sd (t :: u :: l) d) 10 [94] = some false := by
 refine ⟨isN h.1, isY (by decide) fun h2 => ?_, isY (by decide) fun h2 => ?_⟩ <;> (rcases h.2.2.2 h2.1 with h3 | h3 <;> (rw [h3] at h2; exact absurd h2.2 (by decide)))
theorem aLm {r : List Tok} {d : Nat} (h : Hd pEnd r) : dU (sd r d) 10 [46] = some false := by
 obtain ⟨t, l, rfl, h⟩ := h
 refine isY (by decide) fun h2 => ?_
 rcases h with h | h
 ·omega
 ·rw [h.2] at h2; exact absurd h2.2 (by decide)
theorem aTb {d : Nat} {l : List (Node × List Nat)} (h : SOk d l) : ∀ (v : List Nat) (p : Nat) (r : List Tok), p + (aF [46, 32] (l.map Prod.snd) ++ v).length ≤ 100000 → Stop v → Lx 2001 v (p + (aF [46, 32] (l.map Prod.snd)).length) r → Hd pEnd r →
 ∃ T, Lx 2001 (aF [46, 32] (l.map Prod.snd) ++ v) p T ∧ r.length ≤ T.length ∧ Hd pS T ∧ ∀ f g xs, T.length + 2 ≤ f → T.length + 1 ≤ g → cW (dO (f + 1)) g xs (sd T d) = some (xs ++ l.map Prod.fst, sd r d) := by
 induction h with
 | nil =>
  intro v p r hl hv hr hd
  refine ⟨r, hr, Nat.le_refl _, hd.mono fun _ h => h.s, fun f g xs hf hg => ?_⟩
  obtain ⟨t, l, rfl, h⟩ := hd
  obtain ⟨g, rfl⟩ : ∃ k, g = k + 1 := ⟨g - 1, by omega⟩
  unfold cW
  rw [if_pos (by rfl)]
  by_cases h0 : t.kind = 0
  ·rw [vO h0]
   simp
  ·have h1 : t.kind = 10 ∧ t.text = [93] := h.resolve_left h0
   rw [isN h0, Option.bind_some, if_neg (by decide), isX h1.1 h1.2]
   simp
 | cons x tx l hx hs ih =>
  intro v p r hl hv hr hd
  cases l with
  | nil =>
   obtain ⟨T, a, b, ⟨t1, u1, k1, rfl, c⟩, e⟩ := hx v p r hl hv hr (hd.mono fun _ h => h.e)
   refine ⟨_, a, by omega, ⟨_, _, rfl, c.s⟩, fun f g xs hf hg => ?_⟩
   obtain ⟨g, rfl⟩ : ∃ k, g = k + 1 := ⟨g - 1, by omega⟩
   obtain ⟨i0, i1, i2⟩ := aLe (d := d) (u := u1) (l := k1) c
   unfold cW
   rw [if_pos (by rfl), i0, Option.bind_some, if_neg (by decide), i1, Option.bind_some, if_neg (by decide), i2, Option.bind_some, if_neg (by decide), e f (by omega), Option.bind_some, aLm hd]
   simp
  | cons y l =>
   have ej : aF [46, 32] (((x, tx) :: y :: l).map Prod.snd) = tx ++ 46 :: 32 :: aF [46, 32] ((y :: l).map Prod.snd) := uS _ _ _ _
   rw [ej] at hl hr ⊢
   simp only [List.length_append, List.length_cons] at hl hr
   obtain ⟨T1, a1, b1, c1, e1⟩ := ih v (p + tx.length + 1 + 1) r (by simp only [List.length_append]; omega) hv (by
    rw [show p + tx.length + 1 + 1 + (aF [46, 32] ((y :: l).map Prod.snd)).length = p + (tx.length + ((aF [46, 32] ((y :: l).map Prod.snd)).length + 1 + 1)) by omega]
    exact hr) hd
   have l1 := jT (c := 46) (by decide) (p := p + tx.length) (fG a1)
   obtain ⟨T, a, b, ⟨t1, u1, k1, rfl, c⟩, e⟩ := hx (46 :: 32 :: (aF [46, 32] ((y :: l).map Prod.snd) ++ v)) p _ (by simp only [List.length_append, List.length_cons]; omega) (kU (by decide) _) l1 ⟨_, _, rfl, by show (10 : Int) ≠ 9; decide, by show (10 : Int) ≠ 1; decide, by show (10 : Int) ≠ 3; decide, by show (10 : Int) ≠ 2; decide, by rintro ⟨_, h⟩; exact absurd h (show ([46] : List Nat) ≠ [59] by decide)⟩
   simp only [List.length_cons] at b
   refine ⟨_, by simpa using a, by simp only [List.length_cons]; omega, ⟨_, _, rfl, c.s⟩, fun f g xs hf hg => ?_⟩
   simp only [List.length_cons] at hf hg
   obtain ⟨g, rfl⟩ : ∃ k, g = k + 1 := ⟨g - 1, by omega⟩
   obtain ⟨i0, i1, i2⟩ := aLe (d := d) (u := u1) (l := k1) c
   obtain ⟨t2, k2, rfl⟩ := a1.cons
   unfold cW
   rw [if_pos (by rfl), i0, Option.bind_some, if_neg (by decide), i1, Option.bind_some, if_neg (by decide), i2, Option.bind_some, if_neg (by decide), e f (by simp only [List.length_cons]; omega), Option.bind_some]
   show (dU (sd (_ :: t2 :: k2) d) 10 [46]).bind _ = _
   rw [isX rfl rfl, Option.bind_some, if_pos rfl]
   show (aV (sd (_ :: t2 :: k2) d)).bind _ = _
   rw [eQ (by show (10 : Int) ≠ 0; decide), Option.bind_some, e1 f g _ (by omega) (by omega)]
   simp
 | ret x tx hx =>
  intro v p r hl hv hr hd
  have ej : aF [46, 32] ([((.mk 10 [] 0 [] [] [x] : Node), 94 :: tx)].map Prod.snd) = 94 :: tx := rfl
  rw [ej] at hl hr ⊢
  simp only [List.length_append, List.length_cons] at hl hr
  obtain ⟨T, a, b, ⟨t1, u1, k1, rfl, c⟩, e⟩ := hx v (p + 1) r (by simp only [List.length_append]; omega) hv (by
   rw [show p + 1 + tx.length = p + (tx.length + 1) by omega]
   exact hr) (hd.mono fun _ h => h.e)
  have l1 := jT (c := 94) (by decide) (p := p) a
  refine ⟨_, l1, by simp only [List.length_cons] at b ⊢; omega, ⟨_, _, rfl, by show (10 : Int) ≠ 8 ∧ (10 : Int) ≠ 2; decide, by rintro ⟨_, h⟩; exact absurd h (show ([94] : List Nat) ≠ [124] by decide), fun h => absurd h.1 (by show (10 : Int) ≠ 3; decide)⟩, fun f g xs hf hg => ?_⟩
  obtain ⟨g, rfl⟩ : ∃ k, g = k + 1 := ⟨g - 1, by omega⟩
  unfold cW
  rw [if_pos (by rfl), isN (by show (10 : Int) ≠ 0; decide), Option.bind_some, if_neg (by decide), isY (by decide) (by rintro ⟨_, h⟩; exact absurd h (show ([94] : List Nat) ≠ [93] by decide)), Option.bind_some, if_neg (by decide), isX rfl rfl, Option.bind_some, if_pos rfl, eQ (by show (10 : Int) ≠ 0; decide), Option.bind_some]
  show (dO (f + 1) (sd (t1 :: u1 :: k1) d)).bind _ = _
  rw [e f (by simp only [List.length_cons] at hf ⊢; omega), Option.bind_some, aLm hd]
  simp
end Go.Dd

namespace Go.Dd
open Go.Proofs
theorem bAn (n : Nat) (x : DV) (h : Hp) : aI (n + 1) 20 [x] h = s20 (aI n) n x h := by kernel_rfl
theorem bGc (n : Nat) (x y : DV) (h : Hp) : aI (n + 1) 31 [x, y] h = s31 (aI n) n x y h := by kernel_rfl
theorem bDs (n : Nat) (x : DV) (h : Hp) : aI (n + 1) 11 [x] h = s11 (aI n) n x h := by kernel_rfl
theorem aVk (rec : FuncId → List DV → Hp → aG) (x y : DV) (h : Hp) : dM CF rec (.f 31 [] [y]) [x] h = rec 31 [x, y] h := by kernel_rfl
def fU (ns : List (List Nat)) (i : Nat) : List Nat := (ns[i]?).getD []
def dT (ns : List (List Nat)) : List (List Nat) → Nat → List (List Nat)
 | [], _ => []
 | p :: ps, i => (p ++ 32 :: fU ns i) :: dT ns ps (i + 1)
def aX (t : List Nat) (ns : List (List Nat)) : List Nat :=
 if bS t = 2 then t ++ 32 :: fU ns 0 else if bS t = 3 then aF [32] (dT ns (dF t) 0) else t
def eS : List Nat := [32, 60, 112, 114, 105, 109, 105, 116, 105, 118, 101, 58, 32]
def dG (t : List Nat) (m : Int) (ns : List (List Nat)) : List Nat :=
 (if m = 0 then aX t ns else aX t ns ++ (eS ++ (fN m ++ [62]))) ++ [32]
section
variable {I : Im} {A Q L : Ls} {h : Hp}
theorem aZk {b : Pos} {c : List DV} {s1 : DV} {ns : List (List Nat)} (Y : SS I s1 ns) (S : Sy I A Q L h) (hg : h.bl.get b = some (.row .ex c)) (g : c[3]? = some s1) (i : Nat) :
 Ev (fun n => aI n 31 [.i .i64 (i : Int), .p b 0] h) (fun v h' => v = .s (fU ns i) ∧ h' = h) := by
 refine Ev.enter (fun n => bGc n _ _ h) ?_
 unfold s31
 refine cAl (cCj hg (by simpa using g) Y.2.one ?_)
 refine Ev.op (Y.2.len _) ?_
 refine cAo (fun e1 => ?_) (fun e1 => ?_)
 ·refine yt ?_
  refine bZg ⟨?_, rfl⟩
  have : ns.length ≤ i := by omega
  simp [fU, List.getElem?_eq_none this]
 ·refine yj ?_
  have hi : i < ns.length := by omega
  have hx : ns[i]? = some ns[i] := by simp [hi]
  obtain ⟨p, o, ei, el⟩ := Y.at S hx
  refine cAl (cCj hg (by simpa using g) Y.2.one ?_)
  refine Ev.op (ei _) ?_
  refine Ev.op el ?_
  exact bZg ⟨by simp [fU, hx], rfl⟩
theorem zB (ns : List (List Nat)) (i : Nat) : (fU ns i).length ≤ cN ns := by
 unfold fU
 cases e : ns[i]? with
 | none => simp
 | some x =>
  simp only [Option.getD_some]
  exact jK (List.mem_map_of_mem (List.mem_of_getElem? e))
theorem wA {P : DV → Hp → Prop} {b : Pos} {c : List DV} {s1 y : DV} {ns ps : List (List Nat)} (Z : SS I s1 ns) (Y : SS I y ps) (g : c[3]? = some s1) (hlim : cN ns + cN ps ≤ 1000000000) : ∀ (r : List (List Nat)) (i j : Nat) (B : Ls) (h : Hp) (x : DV) (acc : List (List Nat)), ps.drop i = r → i ≤ ps.length → acc.length = i → Sy I (B ++ A) Q ((b, some (.row .ex c)) :: L) h → Gr I 1 B x acc.length (acc.map .s) →
 (∀ (J : Im) (h' : Hp) (x' : DV), ILe I J → Sy J A Q ((b, some (.row .ex c)) :: L) h' → SS J x' (acc ++ dT ns r i) → Ev (fun n => eA (aI n) n (.p b 0) x' h') P) →
 Ev (fun n => jF (aI n) n (n - j) (.p b 0) (.f 31 [] [.p b 0]) x y (.i .i64 (ps.length : Int)) (.i .i64 (i : Int)) h) P
 | [], i, j, B, h, x, acc, hr, hi, ha, S, G, K => by
  refine bZl j (ll := fun n m => jF (aI n) n m (.p b 0) (.f 31 [] [.p b 0]) x y (.i .i64 (ps.length : Int)) (.i .i64 (i : Int)) h) (bb := fun n m => mR (aI n) n (jF (aI n) n m) (.p b 0) (.f 31 [] [.p b 0]) x y (.i .i64 (ps.length : Int)) (.i .i64 (i : Int)) h) (fun _ _ => rfl) ?_
  unfold mR
  have hle : ps.length ≤ i := List.drop_eq_nil_iff.1 hr
  refine cAa (fun e1 => absurd e1 (by omega)) (fun e1 => ?_)
  refine cAg ?_
  obtain ⟨J, gJ, S3, F3⟩ := G.freeze S
  have hY := Y.1
  exact K J _ _ gJ S3 ⟨by simp [dT]; omega, by simpa [aJ, dT] using F3⟩
 | p :: r, i, j, B, h, x, acc, hr, hi, ha, S, G, K => by
  refine bZl j (ll := fun n m => jF (aI n) n m (.p b 0) (.f 31 [] [.p b 0]) x y (.i .i64 (ps.length : Int)) (.i .i64 (i : Int)) h) (bb := fun n m => mR (aI n) n (jF (aI n) n m) (.p b 0) (.f 31 [] [.p b 0]) x y (.i .i64 (ps.length : Int)) (.i .i64 (i : Int)) h) (fun _ _ => rfl) ?_
  unfold mR
  have hl2 : ps.length ≤ bQ := Y.1
  have hx : ps[i]? = some p := by
   have : (ps.drop i)[0]? = some p := by rw [hr]; rfl
   simpa [aJ] using this
  have hi' := (gLt hx)
  have hr2 : ps.drop (i + 1) = r := by
   have := jI hx
   rw [hr] at this
   simpa [aJ] using this.symm
  have hpl : p.length ≤ cN ps := jK (List.mem_map_of_mem (List.mem_of_getElem? hx))
  have hal := zB ns i
  refine cAa (fun e1 => ?_) (fun e1 => absurd (show (i : Int) < ps.length by omega) e1)
  refine cAs ?_
  obtain ⟨bp, o, ei, el⟩ := Y.at S hx
  refine Ev.op (ei _) ?_
  refine Ev.op el ?_
  simp only [aVk]
  refine bZe (aZk Z S (S.memL (eG)) g i) ?_
  rintro _ _ ⟨rfl, hq⟩
  rw [hq]
  clear hq
  refine cAb S (cs := [.s p, .s [32], .s (fU ns i)]) (by simp [cM, cF]) ?_
  intro b1 h7 S7
  refine bZe (eC [p, [32], fU ns i] S7 (eG) rfl (by simp [aF]; omega) (by simp)) ?_
  rintro _ _ ⟨rfl, rfl⟩
  have ej : aF [] [p, [32], fU ns i] = p ++ 32 :: fU ns i := by simp [aF]
  rw [ej]
  refine cAb S7 (cs := [.s (p ++ 32 :: fU ns i)]) rfl ?_
  intro b2 h9 S9
  obtain ⟨x4, h4, B4, e4, S4, G4⟩ := kO G S9 (eG) (by omega)
  refine Ev.op e4 ?_
  refine bZo ?_
  rw [rB (by omega)]
  refine wA Z Y g hlim r (i + 1) (j + 1) B4 h4 x4 (acc ++ [p ++ 32 :: fU ns i]) hr2 (by omega) (by simp [ha]) S4.dropL.dropL G4 ?_
  intro J h' x' gJ SJ YJ
  exact K J h' x' gJ SJ (by simpa [aJ, dT] using YJ)
theorem qZ (ns : List (List Nat)) : ∀ (ps : List (List Nat)) (i : Nat), cN (dT ns ps i) ≤ cN ps + ps.length * (cN ns + 1) ∧ (dT ns ps i).length = ps.length
 | [], i => by simp [dT, cN]
 | p :: ps, i => by
  have ih := qZ ns ps (i + 1)
  have ha := zB ns i
  simp only [dT, cN, List.map_cons, List.sum_cons, List.length_append, List.length_cons, Nat.add_mul, Nat.one_mul] at ih ha ⊢
  omega
theorem aZb (t : List Nat) (ns : List (List Nat)) : (aX t ns).length ≤ 10 + 3 * t.length + (t.length + 1) * (cN ns + 1) := by
 unfold aX
 have ha := zB ns 0
 split
 ·simp only [List.length_append, List.length_cons, Nat.add_mul]; omega
 ·split
  ·have h1 := kT [32] (dT ns (dF t) 0)
   obtain ⟨h2, h3⟩ := qZ ns (dF t) 0
   obtain ⟨h4, h5⟩ := wD t
   have h6 : (dF t).length * (cN ns + 1) ≤ t.length * (cN ns + 1) := Nat.mul_le_mul_right _ h5
   simp only [List.length_cons, List.length_nil] at h1
   simp only [Nat.add_mul] at h6 ⊢
   omega
  ·omega
theorem aCm {t : List Nat} (m : Int) {ns : List (List Nat)} (ht : t.length ≤ 10000) (hn : cN ns ≤ 10000) : (aX t ns).length ≤ 1000000000 ∧ (dG t m ns).length ≤ 1000000100 := by
 have h1 := aZb t ns
 have h2 : (t.length + 1) * (cN ns + 1) ≤ 10001 * 10001 := Nat.mul_le_mul (by omega) (by omega)
 have h3 := aCn m
 refine ⟨by omega, ?_⟩
 unfold dG
 split
 ·simp; omega
 ·simp [eS]; omega
theorem aOh {k m : Int} {t : List Nat} {ns ts : List (List Nat)} {ks : List Node} {cs : List DV} (S : Sy I A Q L h) (N : NV I (.mk k t m ns ts ks) cs) (ht : t.length ≤ 10000) (hn : cN ns ≤ 10000)
 (hm0 : -9223372036854775808 ≤ m) (hm1 : m ≤ 9223372036854775807) :
 Ev (fun n => aI n 20 [.a cs] h) (fun v h' => v = .s (dG t m ns) ∧ Sy I A Q L h') := by
 obtain ⟨hp, hh⟩ := aCm m ht hn
 have hi := aCn m
 refine Ev.enter (fun n => bAn n _ h) ?_
 unfold s20
 obtain ⟨s1, s2, s3, rfl, a, bb, c, cells, F, NL⟩ := N
 refine Ev.box S rfl ?_
 intro b h1 S1
 have fin : ∀ (J : Im) (h : Hp), ILe I J → Sy J A Q ((b, some (.row .ex [.i .i64 k, .s t, .i .i64 m, s1, s2, s3])) :: L) h →
  Ev (fun n => bE (aI n) n (.p b 0) (.s (aX t ns)) h) (fun v h' => v = .s (dG t m ns) ∧ Sy I A Q L h') := by
  intro J h gJ S
  unfold bE
  refine cAl (cAx S (eG) rfl rfl ?_)
  have fin5 : ∀ (q : List Nat) (h : Hp), Sy J A Q ((b, some (.row .ex [.i .i64 k, .s t, .i .i64 m, s1, s2, s3])) :: L) h → q.length ≤ 1000000099 →
   Ev (fun n => aMs (aI n) n (.s q) h) (fun v h' => v = .s (q ++ [32]) ∧ Sy I A Q L h') := by
   intro q h S hq
   unfold aMs
   refine cAb S (cs := [.s q, .s [32]]) (by simp [cM, cF]) ?_
   intro b2 h2 S2
   refine bZe (eC [q, [32]] S2 (eG) rfl (by simp [aF]; omega) (by simp)) ?_
   rintro _ _ ⟨rfl, rfl⟩
   exact bZg ⟨by simp [aF], S2.dropL.dropL.weak gJ⟩
  refine bZy (fun e1 => ?_) (fun e1 => ?_)
  ·have e1' : ¬ m = 0 := e1
   have eh : dG t m ns = (aX t ns ++ (eS ++ (fN m ++ [62]))) ++ [32] := by rw [dG, if_neg e1']
   rw [eh] at hh ⊢
   refine yt ?_
   refine cAl (cAx S (eG) rfl rfl ?_)
   refine Ev.op (aJa hm0 hm1 _) ?_
   refine cAb S (cs := [.s (aX t ns), .s eS, .s (fN m), .s [62]]) (by simp [cM, cF, eS]) ?_
   intro b2 h2 S2
   refine bZe (eC [aX t ns, eS, fN m, [62]] S2 (eG) rfl (by simp [aF, eS]; omega) (by simp)) ?_
   rintro _ _ ⟨rfl, rfl⟩
   have ej : aF [] [aX t ns, eS, fN m, [62]] = aX t ns ++ (eS ++ (fN m ++ [62])) := by simp [aF]
   rw [ej]
   refine fin5 _ _ S2.dropL ?_
   simp only [laE, lcE, lnE] at hh ⊢
   omega
  ·have e1' : m = 0 := e1
   have eh : dG t m ns = aX t ns ++ [32] := by rw [dG, if_pos e1']
   rw [eh]
   refine yj ?_
   exact fin5 _ _ S (by omega)
 unfold aIw aMz
 refine cAl (cAx S1 (eG) rfl rfl ?_)
 unfold aIv
 refine cAl (cAx S1 (eG) rfl rfl ?_)
 refine bZe (mO t h1) ?_
 rintro _ _ ⟨rfl, hq⟩
 rw [hq]
 clear hq
 unfold aJh
 refine bZj (fun e1 => ?_) (fun e1 => ?_)
 ·have e1' : bS t = 2 := by have h0 := e1; simp at h0; omega
  have ep : aX t ns = t ++ 32 :: fU ns 0 := by rw [aX, if_pos e1']
  unfold aCd
  refine yt ?_
  have Sr := S1.res
  refine cAl ?_
  refine cAx Sr (List.Mem.tail _ (eG)) rfl rfl ?_
  simp only [aVk]
  refine bZe (aZk a Sr (Sr.memL (List.Mem.tail _ (eG))) rfl 0) ?_
  rintro _ _ ⟨rfl, hq⟩
  rw [hq]
  clear hq
  refine Ev.cnd ?_ ?_
  ·rw [Bool.and_true]; exact eX Sr (List.Mem.tail _ (eG)) rfl rfl (oW _)
  refine bZz Sr (cs := [.s t, .s [32], .s (fU ns 0)]) (Rpl.head _) (by simp [cM, cF]) ?_
  intro h3 S3
  refine bZe (eC [t, [32], fU ns 0] S3 (eG) rfl (by have := zB ns 0; simp [aF]; omega) (by simp)) ?_
  rintro _ _ ⟨rfl, rfl⟩
  have ej : aF [] [t, [32], fU ns 0] = aX t ns := by rw [ep]; simp [aF]
  rw [ej]
  exact fin _ _ (ILe.refl _) S3.dropL
 ·have e1' : ¬ bS t = 2 := by have h0 := e1; simp at h0; omega
  unfold aCd
  refine yj ?_
  unfold aWa
  refine bZj (fun e2 => ?_) (fun e2 => ?_)
  ·have e2' : bS t = 3 := by have h0 := e2; simp at h0; omega
   have ep : aX t ns = aF [32] (dT ns (dF t) 0) := by rw [aX, if_neg e1', if_pos e2']
   unfold aDk
   refine yt ?_
   unfold aGm zV
   refine cAl (cAx S1 (eG) rfl rfl ?_)
   refine bZe (aEi S1 (by omega)) ?_
   rintro v h2 ⟨J, g, S2, Y⟩
   refine Ev.op (Y.2.len _) ?_
   unfold aAg aGy
   obtain ⟨pl1, pl2⟩ := wD t
   refine wA (a.mono g) Y rfl (by omega) (dF t) 0 0 [] h2 .l0 [] rfl (by omega) rfl S2 (Gr.nil J 1) ?_
   intro J2 h3 x3 g3 S3 Y3
   unfold eA
   simp only [List.nil_append] at Y3
   refine Ev.op (SS.join Y3 S3 (by rw [← ep]; omega)) ?_
   rw [← ep]
   exact fin _ _ (g.trans g3) S3
  ·have e2' : ¬ bS t = 3 := by have h0 := e2; simp at h0; omega
   have ep : aX t ns = t := by rw [aX, if_neg e1', if_neg e2']
   unfold aDk
   refine yj ?_
   have := fin _ _ (ILe.refl _) S1
   rw [ep] at this
   exact this
end
def iX (x : Node) : List Nat := dG x.text x.num x.names ++ aS x.temps (gG x.kids)
noncomputable def aLw (x : Node) : List Nat × Int := pI (iX x) x (dN (iX x))
section
variable {I : Im} {A L : Ls} {h : Hp}
theorem aDc {x : Node} {cs : List DV} (S : Sy I A [] L h) (N : NV I x cs) (T : ∀ y ∈ x.kids, kQ y) (ht : x.text.length ≤ 10000) (hn : cN x.names ≤ 10000) (hm0 : -9223372036854775808 ≤ x.num) (hm1 : x.num ≤ 9223372036854775807)
 (hl : (aS x.temps (gG x.kids)).length ≤ 1000000000) (hb : AB (iX x)) :
 Ev (fun n => aI n 11 [.a cs] h) (fun v h' => v = .t [.s (aLw x).1, .i .i64 (aLw x).2] ∧ Sy I A [] L h') := by
 obtain ⟨c1, o1, b1⟩ := N.shape
 have N0 := N
 obtain ⟨k, t, m, ns, ts, ks⟩ := x
 have hl' : (aS ts (gG ks)).length ≤ 1000000000 := hl
 have hh : (dG t m ns).length ≤ 1000000100 := (aCm m ht hn).2
 have em : iX (.mk k t m ns ts ks) = dG t m ns ++ aS ts (gG ks) := rfl
 have hlim : (iX (.mk k t m ns ts ks)).length ≤ bQ := by rw [em]; simp [bQ]; omega
 refine Ev.enter (fun n => bDs n _ h) ?_
 unfold s11
 refine Ev.box S rfl (fun p h1 S1 => ?_)
 have Sr := S1.res
 generalize hh9 : gT 1 h1 = hr at Sr
 refine cBg Sr (List.Mem.tail _ (eG)) c1 o1 ?_
 refine bZe (aOh Sr N0 ht hn hm0 hm1) ?_
 rintro _ h2 ⟨rfl, S2⟩
 refine cBg S2 (List.Mem.tail _ (eG)) c1 o1 ?_
 refine Ev.cnd ?_ ?_
 ·rw [ldA (Sr.memL (List.Mem.tail _ (eG))) (uE c1 o1)]
  simp [bX, b1]
 refine bZe (pO S2 N0 T (by omega)) ?_
 rintro _ h3 ⟨rfl, S3⟩
 refine bZz S3 (cs := [.s (dG t m ns), .s (aS ts (gG ks))]) (Rpl.head _) (by simp [cM, cF]) ?_
 intro h4 S4
 refine bZe (eC [dG t m ns, aS ts (gG ks)] S4 (eG) rfl (by simp [aF]; omega) (by simp)) ?_
 rintro _ _ ⟨rfl, hq⟩
 rw [hq]
 clear hq
 have ej : aF [] [dG t m ns, aS ts (gG ks)] = iX (.mk k t m ns ts ks) := by rw [em]; simp [aF]
 rw [ej]
 refine bZe (qQ S4.dropL hlim hb 2001 2001 2004 2004 (by simp [bQ]) (by simp [bQ]) (by simp [bQ]) _ (jV _) _ (kG _)) ?_
 rintro _ h5 ⟨J, ds, rfl, g3, S5, N3⟩
 obtain ⟨c3, o3, b3⟩ := N3.shape
 refine wx ?_; refine wx ?_; refine wx ?_; refine wa fun _ _ _ => ?_; refine wt fun _ _ => ?_; refine ws ?_; refine ws ?_
 refine bZe (aKw (a := (dN (iX (.mk k t m ns ts ks))).2.1) (by assumption) (N0.mono g3) N3) ?_
 rintro _ h7 ⟨rfl, S7⟩
 refine wx ?_; refine wx ?_
 exact bZg ⟨rfl, (dp : Sy J A [] L _).weak g3⟩
end
end Go.Dd

namespace Go.Dd
def NQ : List (List Nat) → List Nat
 | [] => []
 | t :: l => t ++ 32 :: NQ l
theorem aKc : ∀ (ts : List (List Nat)) (s : List Nat), ts ≠ [] → aF [32] ts ++ (32 :: s) = NQ ts ++ s
 | [], s, h => absurd rfl h
 | [t], s, h => by simp [vH, NQ]
 | t :: u :: l, s, h => by
  have := aKc (u :: l) s (by simp)
  rw [uS]
  show t ++ ([32] ++ aF [32] (u :: l)) ++ (32 :: s) = (t ++ 32 :: NQ (u :: l)) ++ s
  simp only [List.append_assoc, List.cons_append, List.nil_append]
  rw [this]
theorem aEv {d : Nat} : ∀ (ts : List (List Nat)) (v : List Nat) (p : Nat) (r : List Tok), (∀ t ∈ ts, TV 1 t) → Lx 2001 v (p + (NQ ts).length + 2) r →
 ∃ T, Lx 2001 (NQ ts ++ 124 :: 32 :: v) p T ∧ r.length < T.length ∧ (∃ a b, T = a :: b) ∧ ∀ g l, T.length ≤ g → fX g l (sd T d) = some (l ++ ts, sd r d)
 | [], v, p, r, ht, hr => by
  obtain ⟨t0, l0, rfl⟩ := hr.cons
  have l1 := jT (c := 124) (by decide) (p := p) (fG hr)
  refine ⟨_, l1, by simp, ⟨_, _, rfl⟩, fun g l hg => ?_⟩
  simp only [List.length_cons] at hg
  obtain ⟨g, rfl⟩ : ∃ k, g = k + 1 := ⟨g - 1, by omega⟩
  unfold fX
  rw [isN (by show (10 : Int) ≠ 1; decide), Option.bind_some, if_neg (by decide), mK (isX rfl rfl) (by show (10 : Int) ≠ 0; decide)]
  simp
 | t :: ts, v, p, r, ht, hr => by
  simp only [NQ, List.length_append, List.length_cons] at hr
  obtain ⟨T, a, b, ⟨t1, k1, rfl⟩, e⟩ := aEv ts v (p + t.length + 1) r (fun x hx => ht x (by simp [hx])) (by
   rw [show p + t.length + 1 + (NQ ts).length + 2 = p + (t.length + ((NQ ts).length + 1)) + 2 by omega]
   exact hr)
  have l1 := fC (p := p) (ht t (by simp)) (by decide) ((dR _).fol 1) (fG a)
  refine ⟨_, by simpa [aJ, NQ, bI] using l1, by simp only [List.length_cons] at b ⊢; omega, ⟨_, _, rfl⟩, fun g l hg => ?_⟩
  simp only [List.length_cons] at hg
  obtain ⟨g, rfl⟩ : ∃ k, g = k + 1 := ⟨g - 1, by omega⟩
  unfold fX
  rw [vO rfl, Option.bind_some, if_pos rfl, eQ (by show (1 : Int) ≠ 0; decide), Option.bind_some]
  show fX g (l ++ [t]) (sd (t1 :: k1) d) = _
  rw [e g _ (by simp only [List.length_cons]; omega)]
  simp
def pT (t : Tok) : Prop := (t.kind ≠ 8 ∧ t.kind ≠ 2) ∧ ¬ (t.kind = 3 ∧ t.text = [60])
theorem zD {d : Nat} {ts : List (List Nat)} {l : List (Node × List Nat)} (ht : ∀ t ∈ ts, TV 1 t) (h : SOk d l) (v : List Nat) (p : Nat) (r : List Tok) (hl : p + (aS ts (l.map Prod.snd) ++ v).length ≤ 100000) (hv : Stop v) (hr : Lx 2001 v (p + (aS ts (l.map Prod.snd)).length) r) (hd : Hd pEnd r) :
 ∃ T, Lx 2001 (aS ts (l.map Prod.snd) ++ v) p T ∧ r.length ≤ T.length ∧ Hd pT T ∧ ∀ f g k, T.length + 2 ≤ f → T.length + 1 ≤ g → T.length + 1 ≤ k → ∃ s2, fV k (sd T d) = some (ts, s2) ∧ cW (dO (f + 1)) g [] s2 = some (l.map Prod.fst, sd r d) := by
 by_cases h0 : ts = []
 ·subst h0
  have e0 : aS [] (l.map Prod.snd) = aF [46, 32] (l.map Prod.snd) := by simp [aS]
  rw [e0] at hl hr ⊢
  obtain ⟨T, a, b, ⟨t1, k1, rfl, c⟩, e⟩ := aTb h v p r hl hv hr hd
  refine ⟨_, a, b, ⟨_, _, rfl, c.1, c.2.2⟩, fun f g k hf hg hk => ⟨_, ?_, (e f g [] hf hg).trans (by simp)⟩⟩
  unfold fV
  rw [isY (by decide) c.2.1]
  rfl
 ·have e0 : ∀ w : List Nat, aS ts (l.map Prod.snd) ++ w = 124 :: 32 :: (NQ ts ++ 124 :: 32 :: (aF [46, 32] (l.map Prod.snd) ++ w)) := fun w => by
   unfold aS
   rw [if_neg (by simpa using h0)]
   have := aKc ts (124 :: 32 :: (aF [46, 32] (l.map Prod.snd) ++ w)) h0
   simp only [List.append_assoc, List.cons_append, List.nil_append]
   rw [this]
  have e1 := congrArg List.length (e0 [])
  rw [e0] at hl ⊢
  simp only [List.length_append, List.length_cons, List.append_nil] at hl e1
  obtain ⟨T1, a1, b1, ⟨t1, k1, rfl, c1⟩, q1⟩ := aTb h v (p + 2 + (NQ ts).length + 2) r (by simp only [List.length_append]; omega) hv (by
   rw [show p + 2 + (NQ ts).length + 2 + (aF [46, 32] (l.map Prod.snd)).length = p + (aS ts (l.map Prod.snd)).length by omega]
   exact hr) hd
  obtain ⟨T2, a2, b2, ⟨t2, k2, rfl⟩, q2⟩ := aEv (d := d) ts _ (p + 2) _ ht a1
  have l1 := jT (c := 124) (by decide) (p := p) (fG a2)
  simp only [List.length_cons] at b1 b2
  refine ⟨_, l1, by simp only [List.length_cons]; omega, ⟨_, _, rfl, by show (10 : Int) ≠ 8 ∧ (10 : Int) ≠ 2; decide, fun h => absurd h.1 (by show (10 : Int) ≠ 3; decide)⟩, fun f g k hf hg hk => ⟨sd (t1 :: k1) d, ?_, ?_⟩⟩
  ·simp only [List.length_cons] at hk
   unfold fV
   rw [isX rfl rfl, Option.bind_some, if_pos rfl, eQ (by show (10 : Int) ≠ 0; decide), Option.bind_some]
   show fX k [] (sd (t2 :: k2) d) = _
   rw [q2 k [] (by simp only [List.length_cons]; omega)]
   rfl
  ·simp only [List.length_cons] at hf hg
   exact (q1 f g [] (by simp only [List.length_cons]; omega) (by simp only [List.length_cons]; omega)).trans (by simp)
theorem aUa (t : List Nat) : bI 8 t = 58 :: t := rfl
theorem wE {d : Nat} : ∀ (ns : List (List Nat)) (v : List Nat) (p : Nat) (r : List Tok), (∀ t ∈ ns, TV 8 t) → Lx 2001 v (p + (bG ns).length) r → Hd (fun t => t.kind ≠ 8) r →
 ∃ T, Lx 2001 (bG ns ++ v) p T ∧ r.length ≤ T.length ∧ (∃ a b, T = a :: b) ∧ ∀ g l, T.length + 1 ≤ g → l.length + ns.length ≤ 4 → fD g l (sd T d) = some (l ++ ns, sd r d)
 | [], v, p, r, ht, hr, hd => by
  obtain ⟨t0, l0, rfl, h⟩ := hd
  refine ⟨_, hr, Nat.le_refl _, ⟨_, _, rfl⟩, fun g l hg hn => ?_⟩
  obtain ⟨g, rfl⟩ : ∃ k, g = k + 1 := ⟨g - 1, by omega⟩
  unfold fD
  rw [isN h]
  simp
 | t :: ns, v, p, r, ht, hr, hd => by
  simp only [bG, List.length_append, List.length_cons] at hr
  obtain ⟨T, a, b, ⟨t1, k1, rfl⟩, e⟩ := wE ns v (p + 1 + t.length + 1) r (fun x hx => ht x (by simp [hx])) (by
   rw [show p + 1 + t.length + 1 + (bG ns).length = p + (t.length + ((bG ns).length + 1) + 1) by omega]
   exact hr) hd
  have l1 := fC (p := p) (ht t (by simp)) (by decide) ((dR _).fol 8) (r := t1 :: k1) (v := 32 :: (bG ns ++ v)) (fG (by
   rw [aUa, List.length_cons, show p + (t.length + 1) + 1 = p + 1 + t.length + 1 by omega]
   exact a))
  refine ⟨_, by simpa [aJ, bG, bI] using l1, by simp only [List.length_cons] at b ⊢; omega, ⟨_, _, rfl⟩, fun g l hg hn => ?_⟩
  simp only [List.length_cons] at hg hn
  obtain ⟨g, rfl⟩ : ∃ k, g = k + 1 := ⟨g - 1, by omega⟩
  unfold fD gN
  rw [vO rfl, Option.bind_some, if_pos rfl, mK (vO rfl) (by show (8 : Int) ≠ 0; decide), Option.bind_some]
  show fD g (l ++ [t]) (if l.length = 4 then _ else sd (t1 :: k1) d) = _
  rw [if_neg (by omega), e g _ (by simp only [List.length_cons]; omega) (by simp only [laE, lcE, lnE]; omega)]
  simp
theorem aRf {d : Nat} {ns ts : List (List Nat)} {l : List (Node × List Nat)} (hd20 : d < 20) (hn : ∀ t ∈ ns, TV 8 t) (hn4 : ns.length ≤ 4) (ht : ∀ t ∈ ts, TV 1 t) (h : SOk (d + 1) l) :
 RdP d (.mk 9 [] 0 ns ts (l.map Prod.fst)) (91 :: ((if bG ns = [] then [] else bG ns ++ [124, 32]) ++ (aS ts (l.map Prod.snd) ++ [93]))) := fun v p r hl hv hr h9 => by
 obtain ⟨t0, l0, rfl, _⟩ := h9
 generalize eh : (if bG ns = [] then [] else bG ns ++ [124, 32]) = hh at *
 simp only [laE, lcE, lnE, List.cons_append] at hl hr
 have l1 := jT (c := 93) (by decide) (v := v) (p := p + 1 + hh.length + (aS ts (l.map Prod.snd)).length) (r := t0 :: l0) (by
  rw [show p + 1 + hh.length + (aS ts (l.map Prod.snd)).length + 1 = p + (hh.length + ((aS ts (l.map Prod.snd)).length + (0 + 1)) + 1) by omega]
  exact hr)
 obtain ⟨T1, a1, b1, ⟨t1, k1, rfl, c1⟩, e1⟩ := zD (d := d + 1) ht h (93 :: v) (p + 1 + hh.length) _ (by simp only [List.length_append, List.length_cons]; omega) (kU (by decide) v) l1 ⟨_, _, rfl, .inr ⟨rfl, rfl⟩⟩
 have H : ∃ T2, Lx 2001 (hh ++ (aS ts (l.map Prod.snd) ++ 93 :: v)) (p + 1) T2 ∧ (t1 :: k1).length ≤ T2.length ∧ (∃ a b, T2 = a :: b) ∧ ∀ g, T2.length + 1 ≤ g → ∃ s1, fD g [] (sd T2 (d + 1)) = some (ns, s1) ∧ bar ns s1 = some (sd (t1 :: k1) (d + 1)) := by
  cases ns with
  | nil =>
   have : hh = [] := by rw [← eh]; rfl
   subst this
   refine ⟨_, a1, Nat.le_refl _, ⟨_, _, rfl⟩, fun g hg => ⟨sd (t1 :: k1) (d + 1), ?_, ?_⟩⟩
   ·obtain ⟨g, rfl⟩ : ∃ k, g = k + 1 := ⟨g - 1, by omega⟩
    unfold fD
    rw [isN c1.1.1]
    rfl
   ·unfold bar
    rw [if_neg (by simp)]
  | cons n ns =>
   have e2 : hh = bG (n :: ns) ++ [124, 32] := by rw [← eh, if_neg (by simp [bG])]
   have l2 := jT (c := 124) (by decide) (p := p + 1 + (bG (n :: ns)).length) (v := 32 :: (aS ts (l.map Prod.snd) ++ 93 :: v)) (r := t1 :: k1) (fG (by
    rw [show p + 1 + (bG (n :: ns)).length + 1 + 1 = p + 1 + hh.length by rw [e2]; simp only [laE, lcE, lnE]; omega]
    exact a1))
   obtain ⟨T2, a2, b2, c2, q2⟩ := wE (d := d + 1) (n :: ns) _ (p + 1) _ hn l2 ⟨_, _, rfl, by show (10 : Int) ≠ 8; decide⟩
   refine ⟨T2, by rw [e2]; simpa using a2, by simp only [List.length_cons] at b2 ⊢; omega, c2, fun g hg => ⟨_, (q2 g [] hg (by simpa using hn4)), ?_⟩⟩
   unfold bar
   rw [if_pos (by simp), isY (by decide) (by rintro ⟨_, h⟩; exact absurd h (show ([124] : List Nat) ≠ [93] by decide)), Option.bind_some, if_neg (by decide), mK (isX rfl rfl) (by show (10 : Int) ≠ 0; decide)]
   rfl
 obtain ⟨T2, a2, b2, ⟨t2, k2, rfl⟩, q2⟩ := H
 have l3 := jT (c := 91) (by decide) (p := p) a2
 simp only [List.length_cons] at b1 b2
 refine ⟨_, by simpa using l3, by simp only [List.length_cons]; omega, ⟨_, _, _, rfl, ⟨by show (10 : Int) ≠ 0; decide, by show (10 : Int) ≠ 8 ∧ (10 : Int) ≠ 2; decide, fun h => absurd h (by show (10 : Int) ≠ 3; decide), fun _ => .inr rfl⟩, fun h => absurd h.1 (by show (10 : Int) ≠ 1; decide)⟩, fun f hf => ?_⟩
 simp only [List.length_cons] at hf
 obtain ⟨f, rfl⟩ : ∃ k, f = k + 1 := ⟨f - 1, by omega⟩
 unfold PP dJ
 rw [mF (by show (10 : Int) ≠ 3; decide) (by show (10 : Int) ≠ 4; decide) (by show (10 : Int) ≠ 5; decide) (by show (10 : Int) ≠ 6; decide), Option.bind_some]
 show (if false = true then _ else (bD (sd (_ :: t2 :: k2) d) 0).bind _) = _
 rw [if_neg (by decide), iD, Option.bind_some, if_pos (by rfl), if_neg (by show (10 : Int) ≠ 1; decide), if_neg (by show (10 : Int) ≠ 7; decide)]
 show (dU (sd (_ :: t2 :: k2) d) 10 [40]).bind _ = _
 rw [isY (by decide) (by rintro ⟨_, h⟩; exact absurd h (show ([91] : List Nat) ≠ [40] by decide)), Option.bind_some, if_neg (by decide)]
 show (dU (sd (_ :: t2 :: k2) d) 10 [91]).bind _ = _
 rw [isX rfl rfl, Option.bind_some, if_pos rfl]
 refine lX (by show (10 : Int) ≠ 0; decide) hd20 ?_
 obtain ⟨s1, p1, p2⟩ := q2 (f + 1) (by simp only [List.length_cons]; omega)
 obtain ⟨s2, p3, p4⟩ := e1 f (f + 1) (f + 1) (by simp only [List.length_cons]; omega) (by simp only [List.length_cons]; omega) (by simp only [List.length_cons]; omega)
 unfold kB
 rw [p1, Option.bind_some]
 show (bar ns s1).bind _ = _
 rw [p2, Option.bind_some, p3, Option.bind_some]
 show (cW (dO (f + 1)) (f + 1) [] s2).bind _ = _
 rw [p4, Option.bind_some]
 show (bL (sd (_ :: t0 :: l0) (d + 1)) 10 [93]).bind _ = _
 rw [mK (isX rfl rfl) (by show (10 : Int) ≠ 0; decide)]
 rfl
theorem aIu {u : List Nat} {T : List Tok} (hu : u.length ≤ 2000) (h : Lx 2001 u 0 T) : iV u = (T, 0, 0) := by
 have e := jV u
 unfold nD at e
 rw [if_neg (by omega), bBr (s := u) T u 0 2001 [] h rfl (by omega) (by omega)] at e
 simpa using e.symm
theorem aCq {p d : Nat} : bL (sd [⟨0, [], 0, (p : Int)⟩] d) 0 [] = some (⟨0, [], 0, (p : Int)⟩, sd [⟨0, [], 0, (p : Int)⟩] d) := by
 unfold bL
 rw [vO rfl, Option.bind_some, if_pos rfl]
 unfold aV
 rw [iD, Option.bind_some, if_pos (by rfl)]
theorem aFf {g : Nat} : ∀ (l : List Tok) (v : List Nat) (p : Nat), Lx g v p l → l.length ≤ v.length + 1
 | [], v, p, h => by cases h
 | t :: l, v, p, h => by
  cases h with
  | fin _ _ hw => simp
  | tok w u _ k rs l hw h1 h2 h3 h4 h5 h6 h7 =>
   have := aFf l _ _ h7
   simp only [List.length_drop] at this
   simp only [List.length_append, List.length_cons]
   omega
theorem bHv {ts : List (List Nat)} {l : List (Node × List Nat)} (ht : ∀ t ∈ ts, TV 1 t) (h : SOk 0 l) (hu : (aS ts (l.map Prod.snd)).length ≤ 1990) :
 dV (aS ts (l.map Prod.snd)) = (.mk 11 [100, 111, 73, 116] 0 [] ts (l.map Prod.fst), 0, 0) := by
 have l0 := Lx.fin (g := 2001) [] (0 + (aS ts (l.map Prod.snd)).length) .nil
 obtain ⟨T, a, b, c, e⟩ := zD ht h [] 0 _ (by simp; omega) stop_nil l0 ⟨_, _, rfl, .inl rfl⟩
 rw [List.append_nil] at a
 have hT := aFf _ _ _ a
 obtain ⟨s2, p1, p2⟩ := e 2003 2004 2004 (by omega) (by omega) (by omega)
 have q := mI (aS ts (l.map Prod.snd))
 rw [aIu (by omega) a] at q
 unfold fF rH at q
 rw [if_pos rfl, Option.bind_some] at q
 have q1 : ((fV 2004 (sd T 0)).bind fun b => (cW (dO 2004) 2004 [] b.2).bind fun c => (bL c.2 0 []).bind fun d =>
  if d.2.err = 0 then some ((Node.mk 11 [100, 111, 73, 116] 0 [] [] []).with b.1 c.1, 0, 0) else some (zN, d.2.pos, d.2.err)) = some (dV (aS ts (l.map Prod.snd))) := q
 rw [p1, Option.bind_some] at q1
 have q2 : ((cW (dO 2004) 2004 [] s2).bind fun c => (bL c.2 0 []).bind fun d =>
  if d.2.err = 0 then some ((Node.mk 11 [100, 111, 73, 116] 0 [] [] []).with ts c.1, (0 : Int), (0 : Int)) else some (zN, d.2.pos, d.2.err)) = some (dV (aS ts (l.map Prod.snd))) := q1
 rw [p2, Option.bind_some, aCq, Option.bind_some, if_pos (by rfl)] at q2
 exact (Option.some.inj q2).symm
end Go.Dd

namespace Go.Dd
def YQ : List (List Nat × List Nat) → List Nat
 | [] => []
 | z :: l => z.1 ++ 32 :: (z.2 ++ 32 :: YQ l)
theorem rT : ∀ (zs : List (List Nat × List Nat)) (s : List Nat), zs ≠ [] → aF [32] (zs.map fun z => z.1 ++ 32 :: z.2) ++ (32 :: s) = YQ zs ++ s
 | [], s, h => absurd rfl h
 | [z], s, h => by simp [vH, YQ]
 | z :: u :: l, s, h => by
  have := rT (u :: l) s (by simp)
  show (z.1 ++ 32 :: z.2) ++ ([32] ++ aF [32] ((u :: l).map fun z => z.1 ++ 32 :: z.2)) ++ (32 :: s) = (z.1 ++ 32 :: (z.2 ++ 32 :: YQ (u :: l))) ++ s
  simp only [List.append_assoc, List.cons_append, List.nil_append]
  rw [this]
theorem kX : ∀ (zs : List (List Nat × List Nat)) (pre : List (List Nat)), dT (pre ++ zs.map Prod.snd) (zs.map Prod.fst) pre.length = zs.map fun z => z.1 ++ 32 :: z.2
 | [], pre => rfl
 | z :: zs, pre => by
  have ih := kX zs (pre ++ [z.2])
  have e : fU (pre ++ (z :: zs).map Prod.snd) pre.length = z.2 := by simp [fU]
  show (z.1 ++ 32 :: fU (pre ++ (z :: zs).map Prod.snd) pre.length) :: dT (pre ++ (z :: zs).map Prod.snd) (zs.map Prod.fst) (pre.length + 1) = _
  rw [e]
  simp only [List.append_assoc, laE, lcE, lnE, List.cons_append, List.nil_append] at ih
  simp only [List.map_cons]
  rw [← ih]
theorem aMg {d : Nat} : ∀ (zs : List (List Nat × List Nat)) (v : List Nat) (p : Nat) (r : List Tok), (∀ z ∈ zs, TV 2 z.1 ∧ TV 1 z.2) → Lx 2001 v (p + (YQ zs).length) r → Hd (fun t => t.kind ≠ 2) r →
 ∃ T, Lx 2001 (YQ zs ++ v) p T ∧ r.length ≤ T.length ∧ (∃ a b, T = a :: b ∧ (zs ≠ [] → a.kind = 2)) ∧ ∀ g t l, T.length + 1 ≤ g → l.length + zs.length ≤ 4 → t.length + (YQ zs).length ≤ 100000 → kA g t l false (sd T d) = some ((t ++ (zs.map Prod.fst).flatten, l ++ zs.map Prod.snd), sd r d)
 | [], v, p, r, ht, hr, hd => by
  obtain ⟨t0, l0, rfl, h⟩ := hd
  refine ⟨_, hr, Nat.le_refl _, ⟨_, _, rfl, fun h => absurd rfl h⟩, fun g t l hg hn hx => ?_⟩
  obtain ⟨g, rfl⟩ : ∃ k, g = k + 1 := ⟨g - 1, by omega⟩
  unfold kA
  rw [if_neg (by decide), isN h]
  simp
 | z :: zs, v, p, r, ht, hr, hd => by
  simp only [YQ, List.length_append, List.length_cons] at hr
  have hz := ht z (by simp)
  obtain ⟨T, a, b, ⟨t1, k1, rfl, _⟩, e⟩ := aMg zs v (p + z.1.length + 1 + z.2.length + 1) r (fun x hx => ht x (by simp [hx])) (by
   rw [show p + z.1.length + 1 + z.2.length + 1 + (YQ zs).length = p + (z.1.length + (z.2.length + ((YQ zs).length + 1) + 1)) by omega]
   exact hr) hd
  have l1 := fC (p := p + z.1.length + 1) hz.2 (by decide) ((dR _).fol 1) (fG a)
  have l2 := fC (p := p) hz.1 (by decide) ((dR _).fol 2) (fG l1)
  refine ⟨_, by simpa [aJ, YQ, bI] using l2, by simp only [List.length_cons] at b ⊢; omega, ⟨_, _, rfl, fun _ => rfl⟩, fun g t l hg hn hx => ?_⟩
  simp only [List.length_cons, YQ, List.length_append] at hg hn hx
  obtain ⟨g, rfl⟩ : ∃ k, g = k + 1 := ⟨g - 1, by omega⟩
  unfold kA
  rw [if_neg (by decide), vO rfl, Option.bind_some, if_pos rfl, mK (vO rfl) (by show (2 : Int) ≠ 0; decide), Option.bind_some]
  show (if t.length + z.1.length ≤ bQ then (gN (sd (_ :: t1 :: k1) d) 1 l.length).bind _ else none) = _
  rw [if_pos (by unfold bQ; omega)]
  unfold gN
  rw [mK (vO rfl) (by show (1 : Int) ≠ 0; decide), Option.bind_some, Option.bind_some]
  show kA g (t ++ z.1) (l ++ [z.2]) false (if l.length = 4 then _ else sd (t1 :: k1) d) = _
  rw [if_neg (by omega), e g _ _ (by simp only [List.length_cons]; omega) (by simp only [laE, lcE, lnE]; omega) (by simp only [List.length_append]; omega)]
  simp
def vY (t : List Nat) (ns : List (List Nat)) : Prop := (TV 1 t ∧ ns = []) ∨ (TV 3 t ∧ ∃ a, ns = [a] ∧ TV 1 a) ∨ ∃ zs : List (List Nat × List Nat), t = (zs.map Prod.fst).flatten ∧ ns = zs.map Prod.snd ∧ zs ≠ [] ∧ zs.length ≤ 4 ∧ ∀ z ∈ zs, TV 2 z.1 ∧ TV 1 z.2
theorem bFl {t : List Nat} {ns : List (List Nat)} (h : vY t ns) (v : List Nat) (p : Nat) (r : List Tok) (hl : p + (aX t ns).length + 1 ≤ 100000) (hr : Lx 2001 v (p + (aX t ns).length + 1) r) (hd : Hd (fun t => t.kind ≠ 2) r) :
 ∃ T, Lx 2001 (aX t ns ++ 32 :: v) p T ∧ r.length ≤ T.length ∧ ∀ g, T.length + 1 ≤ g → fY g (sd T 0) = some ((t, ns), sd r 0) := by
 obtain ⟨t0, l0, rfl, h0⟩ := hd
 rcases h with ⟨h1, rfl⟩ | ⟨h3, a, rfl, ha⟩ | ⟨zs, rfl, rfl, hne, h4, hz⟩
 ·have e : aX t [] = t := by unfold aX; rw [((dH h1).1 rfl).1]; rfl
  rw [e] at hr ⊢
  have l1 := fC (p := p) h1 (by decide) ((dR v).fol 1) (fG hr)
  refine ⟨_, l1, by simp, fun g hg => ?_⟩
  unfold fY
  rw [vO rfl, Option.bind_some, if_pos rfl, eQ (by show (1 : Int) ≠ 0; decide)]
  rfl
 ·have e : aX t [a] = t ++ 32 :: a := by unfold aX; rw [((dH h3).2.2 rfl).1]; rfl
  rw [e] at hr ⊢
  simp only [List.length_append, List.length_cons] at hr
  have l1 := fC (p := p + t.length + 1) ha (by decide) ((dR v).fol 1) (r := t0 :: l0) (fG (by
   rw [aQd, show p + t.length + 1 + a.length + 1 = p + (t.length + (a.length + 1)) + 1 by omega]
   exact hr))
  have l2 := fC (p := p) h3 (by decide) ((dR _).fol 3) (fG l1)
  refine ⟨_, by simpa [aJ, bI] using l2, by simp only [List.length_cons]; omega, fun g hg => ?_⟩
  unfold fY
  rw [isN (by show (3 : Int) ≠ 1; decide), Option.bind_some, if_neg (by decide), vO rfl, Option.bind_some, if_pos rfl, eQ (by show (3 : Int) ≠ 0; decide), Option.bind_some]
  unfold gN
  show ((bL (sd (_ :: t0 :: l0) 0) 1 []).bind _).bind _ = _
  rw [mK (vO rfl) (by show (1 : Int) ≠ 0; decide)]
  rfl
 ·have hk : ∀ q ∈ zs.map Prod.fst, TV 2 q := fun q hq => by
   obtain ⟨z, h1, rfl⟩ := List.mem_map.1 hq
   exact (hz z h1).1
  have e : ∀ w, aX (zs.map Prod.fst).flatten (zs.map Prod.snd) ++ 32 :: w = YQ zs ++ w := fun w => by
   unfold aX
   rw [gH hk (by simpa using hne), if_neg (by decide), if_pos rfl, jC hk, show dT (zs.map Prod.snd) (zs.map Prod.fst) 0 = _ from kX zs []]
   exact rT zs w hne
  have e1 := congrArg List.length (e [])
  simp only [laE, lcE, lnE, List.append_nil] at e1
  rw [e]
  obtain ⟨T, a, b, ⟨t1, k1, rfl, c⟩, q⟩ := aMg (d := 0) zs v p (t0 :: l0) hz (by
   rw [← e1]
   exact hr) ⟨_, _, rfl, h0⟩
  have hc := c hne
  refine ⟨_, a, b, fun g hg => ?_⟩
  ·have q1 := q g [] [] hg (by simpa using h4) (by simp; omega)
   obtain ⟨g, rfl⟩ : ∃ k, g = k + 1 := ⟨g - 1, by omega⟩
   unfold fY
   rw [isN (by omega), Option.bind_some, if_neg (by decide), isN (by omega), Option.bind_some, if_neg (by decide)]
   have e3 : kA (g + 1) [] [] true (sd (t1 :: k1) 0) = kA (g + 1) [] [] false (sd (t1 :: k1) 0) := by
    conv => lhs; unfold kA
    conv => rhs; unfold kA
    rw [if_pos rfl, if_neg (by decide), vO hc]
   rw [e3, q1]
   simp
theorem bEh : TV 3 [60] := ⟨by decide, fun v hv => by
 have h := hv.1 rfl
 have : bJ (cV signs) 2 (60 :: v) = 1 := by
  show (if cV signs 60 then bJ (cV signs) 1 v + 1 else 0) = 1
  rw [if_pos (by decide)]
  cases v with
  | nil => rfl
  | cons c r =>
   have h : cV signs c = false := h
   show (if cV signs c then _ else 0) + 1 = 1
   rw [h]; rfl
 show bA 2001 (60 :: v) = _
 unfold bA
 rw [show nx (60 :: v) 0 = 60 from rfl, this]
 rfl⟩
theorem bFq : TV 3 [62] := ⟨by decide, fun v hv => by
 have h := hv.1 rfl
 have : bJ (cV signs) 2 (62 :: v) = 1 := by
  show (if cV signs 62 then bJ (cV signs) 1 v + 1 else 0) = 1
  rw [if_pos (by decide)]
  cases v with
  | nil => rfl
  | cons c r =>
   have h : cV signs c = false := h
   show (if cV signs c then _ else 0) + 1 = 1
   rw [h]; rfl
 show bA 2001 (62 :: v) = _
 unfold bA
 rw [show nx (62 :: v) 0 = 62 from rfl, this]
 rfl⟩
theorem bAx : TV 2 primT := ⟨by decide, fun v hv => by
 have h : Stop v := hv.2 (by decide) (by decide) (by decide) (by decide)
 have e : (primT ++ v).takeWhile cY = [112, 114, 105, 109, 105, 116, 105, 118, 101] := by
  have : primT ++ v = [112, 114, 105, 109, 105, 116, 105, 118, 101] ++ (58 :: v) := rfl
  rw [this]
  exact aFg cY _ _ (by decide) fun c r e => by cases e; decide
 have e2 : cT ((primT ++ v).drop 9) = true := by
  show (decide (nx (58 :: v) 0 = 58) && !decide (nx (58 :: v) 1 = 61)) = true
  have h1 : nx (58 :: v) 1 = nx v 0 := rfl
  rw [h1]
  have := h.head.2.2.1
  simp [nx, this]
  exact this
 have en : aL (primT ++ v) = ([112, 114, 105, 109, 105, 116, 105, 118, 101], 0, 9) := by
  unfold aL
  rw [e]
  rfl
 have ex : nx (primT ++ v) 0 = 112 := rfl
 show bA 2001 (primT ++ v) = _
 unfold bA
 rw [en, ex, if_pos (by decide), if_pos rfl, if_pos e2]
 rfl⟩
def vQ (m : Nat) (body : List Nat) : List Nat := if m = 0 then body else 60 :: (primT ++ 32 :: (fN (m : Int) ++ 62 :: 32 :: body))
theorem bGu {m : Nat} (hm : m ≤ 255) {w : List Nat} {p : Nat} {r : List Tok} (hr : Lx 2001 w (p + ((vQ m w).length - w.length)) r) (hd : Hd pT r) :
 ∃ T, Lx 2001 (vQ m w) p T ∧ r.length ≤ T.length ∧ Hd (fun t => t.kind ≠ 2) T ∧ oU (sd T 0) = some ((m : Int), sd r 0) := by
 by_cases h0 : m = 0
 ·subst h0
  have e : vQ 0 w = w := rfl
  rw [e] at hr ⊢
  rw [Nat.sub_self, Nat.add_zero] at hr
  refine ⟨r, hr, Nat.le_refl _, hd.mono fun _ h => h.1.2, ?_⟩
  obtain ⟨t, l, rfl, h⟩ := hd
  unfold oU
  rw [isY (by decide) h.2]
  rfl
 ·have e : vQ m w = 60 :: (primT ++ 32 :: (dg m ++ 62 :: 32 :: w)) := by unfold vQ; rw [if_neg h0]; rfl
  rw [e] at hr ⊢
  obtain ⟨t0, l0, rfl, h⟩ := hd
  have el : (60 :: (primT ++ 32 :: (dg m ++ 62 :: 32 :: w))).length - w.length = 1 + 10 + 1 + (dg m).length + 1 + 1 := by
   simp only [List.length_cons, List.length_append]
   show (10 + ((dg m).length + (w.length + 1 + 1) + 1) + 1) - w.length = _
   omega
  rw [el] at hr
  have l1 := fC (p := p + 1 + 10 + 1 + (dg m).length) bFq (by decide) ((dR w).fol 3) (r := t0 :: l0) (fG (by
   rw [show p + 1 + 10 + 1 + (dg m).length + (bI 3 [62]).length + 1 = p + (1 + 10 + 1 + (dg m).length + 1 + 1) by rw [show (bI 3 [62]).length = 1 from rfl]; omega]
   exact hr))
  have l2 := aFe (n := m) (p := p + 1 + 10 + 1) (by omega) (v := 62 :: 32 :: w) (fun c r e => by cases e; decide) l1
  have l3 := fC (p := p + 1) bAx (by decide) ((dR _).fol 2) (fG l2)
  have l4 := fC (p := p) bEh (by decide) ⟨fun _ => by show cV signs 112 = false; decide, fun h => absurd rfl h⟩ l3
  refine ⟨_, l4, by simp only [List.length_cons]; omega, ⟨_, _, rfl, by show (3 : Int) ≠ 2; decide⟩, ?_⟩
  unfold oU
  rw [isX rfl rfl, Option.bind_some, if_pos rfl, eQ (by show (3 : Int) ≠ 0; decide), Option.bind_some]
  show ((bL (sd (_ :: _ :: _ :: t0 :: l0) 0) 2 primT).bind _) = _
  rw [mK (isX rfl rfl) (by show (2 : Int) ≠ 0; decide), Option.bind_some]
  show ((bL (sd (_ :: _ :: t0 :: l0) 0) 4 []).bind _) = _
  rw [mK (vO rfl) (by show (4 : Int) ≠ 0; decide), Option.bind_some]
  show ((bL (if 255 < (m : Int) then _ else sd (_ :: t0 :: l0) 0) 3 [62]).bind _) = _
  rw [if_neg (by omega), mK (isX rfl rfl) (by show (3 : Int) ≠ 0; decide)]
  rfl
theorem aLx (t : List Nat) (m : Nat) (ns : List (List Nat)) (w : List Nat) : dG t (m : Int) ns ++ w = aX t ns ++ 32 :: vQ m w := by
 unfold dG vQ
 by_cases h0 : m = 0
 ·subst h0
  rw [if_pos (by rfl), if_pos rfl]
  simp
 ·rw [if_neg (by omega), if_neg h0]
  show (aX t ns ++ (eS ++ (fN (m : Int) ++ [62])) ++ [32]) ++ w = _
  have : eS = 32 :: 60 :: (primT ++ [32]) := rfl
  rw [this]
  simp
theorem bBb {t : List Nat} {m : Nat} {ns ts : List (List Nat)} {l : List (Node × List Nat)} (hp : vY t ns) (hm : m ≤ 255) (ht : ∀ t ∈ ts, TV 1 t) (h : SOk 0 l) (hu : (dG t (m : Int) ns ++ aS ts (l.map Prod.snd)).length ≤ 1990) :
 dN (dG t (m : Int) ns ++ aS ts (l.map Prod.snd)) = (.mk 11 t (m : Int) ns ts (l.map Prod.fst), 0, 0) := by
 rw [aLx] at hu ⊢
 generalize ew : aS ts (l.map Prod.snd) = w at *
 have hlw : w.length ≤ (vQ m w).length := by unfold vQ; split <;> simp <;> omega
 simp only [List.length_append, List.length_cons] at hu
 have l0 := Lx.fin (g := 2001) [] ((aX t ns).length + 1 + ((vQ m w).length - w.length) + w.length) .nil
 obtain ⟨T, a, b, c, e⟩ := zD ht h [] ((aX t ns).length + 1 + ((vQ m w).length - w.length)) _ (by rw [ew]; simp; omega) stop_nil (by rw [ew]; exact l0) ⟨_, _, rfl, .inl rfl⟩
 rw [List.append_nil, ew] at a
 obtain ⟨T2, a2, b2, c2, e2⟩ := bGu hm (p := (aX t ns).length + 1) a c
 obtain ⟨T3, a3, b3, e3⟩ := bFl hp (vQ m w) 0 T2 (by omega) (by
  rw [Nat.zero_add]
  exact a2) c2
 have hT := aFf _ _ _ a3
 simp only [List.length_append, List.length_cons] at hT
 obtain ⟨s2, p1, p2⟩ := e 2003 2004 2004 (by omega) (by omega) (by omega)
 have q := kG (aX t ns ++ 32 :: vQ m w)
 rw [aIu (by simp; omega) a3] at q
 have eh : kH 2004 (sd T3 0) = some (.mk 11 t (m : Int) ns [] [], sd T 0) := by
  unfold kH
  rw [e3 2004 (by omega), Option.bind_some]
  show (oU (sd T2 0)).bind _ = _
  rw [e2]
  rfl
 unfold fF at q
 rw [if_pos rfl] at q
 have q0 : ((kH 2004 (sd T3 0)).bind fun a => (fV 2004 a.2).bind fun b => (cW (dO 2004) 2004 [] b.2).bind fun c => (bL c.2 0 []).bind fun d =>
  if d.2.err = 0 then some (a.1.with b.1 c.1, (0 : Int), (0 : Int)) else some (zN, d.2.pos, d.2.err)) = some (dN (aX t ns ++ 32 :: vQ m w)) := q
 rw [eh, Option.bind_some] at q0
 have q1 : ((fV 2004 (sd T 0)).bind fun b => (cW (dO 2004) 2004 [] b.2).bind fun c => (bL c.2 0 []).bind fun d =>
  if d.2.err = 0 then some ((Node.mk 11 t (m : Int) ns [] []).with b.1 c.1, (0 : Int), (0 : Int)) else some (zN, d.2.pos, d.2.err)) = some (dN (aX t ns ++ 32 :: vQ m w)) := q0
 rw [p1, Option.bind_some] at q1
 have q2 : ((cW (dO 2004) 2004 [] s2).bind fun c => (bL c.2 0 []).bind fun d =>
  if d.2.err = 0 then some ((Node.mk 11 t (m : Int) ns [] []).with ts c.1, (0 : Int), (0 : Int)) else some (zN, d.2.pos, d.2.err)) = some (dN (aX t ns ++ 32 :: vQ m w)) := q1
 rw [p2, Option.bind_some, aCq, Option.bind_some, if_pos (by rfl)] at q2
 exact (Option.some.inj q2).symm
end Go.Dd

namespace Go.Dd
def TKV (t : Tok) : Prop := AB t.text ∧ ((t.kind = 0 ∧ t.text = [] ∧ t.num = 0) ∨ (t.kind = 4 ∧ t.text = [] ∧ ∃ n : Nat, t.num = (n : Int) ∧ n ≤ 1152921504606846976) ∨ (t.kind ≠ 0 ∧ t.kind ≠ 4 ∧ TV t.kind t.text ∧ t.num = 0))
def kE (t : Tok) : Nat := if t.kind = 0 then 0 else if t.kind = 4 then (fN t.num).length + 2 else (bI t.kind t.text).length + 2
def mu (l : List Tok) : Nat := (l.map kE).sum
def VT (l : List Tok) : Prop := ∀ t ∈ l, TKV t
theorem aBq (t : Tok) (l : List Tok) : mu (t :: l) = kE t + mu l := by simp [mu]
theorem aDv : ∀ (w : List Nat) (a n : Int), (∀ c ∈ w, aW c = true) → 0 ≤ a → gA a w = (n, 0) → 0 ≤ n ∧ (a ≤ 1152921504606846976 → n ≤ 1152921504606846976) ∧ n < (a + 1) * (10 ^ w.length : Nat)
 | [], a, n, hc, ha, h => by
  cases h
  refine ⟨ha, id, by simp; omega⟩
 | c :: w, a, n, hc, ha, h => by
  have hd := hc c (by simp)
  simp [aW] at hd
  unfold gA at h
  split at h
  ·cases h
  split at h
  ·cases h
  ·rename_i h1 h2
   obtain ⟨q1, q2, q3⟩ := aDv w _ n (fun d hd => hc d (by simp [hd])) (by omega) h
   refine ⟨q1, fun _ => q2 (by omega), ?_⟩
   refine Int.lt_of_lt_of_le q3 ?_
   rw [List.length_cons, Nat.pow_succ]
   have hp : (0 : Int) ≤ ((10 ^ w.length : Nat) : Int) := Int.natCast_nonneg _
   generalize ((10 ^ w.length : Nat)) = K at *
   rw [Nat.mul_comm, Int.natCast_mul, ← Int.mul_assoc]
   refine Int.mul_le_mul_of_nonneg_right ?_ hp
   have : ((10 : Nat) : Int) = 10 := rfl
   rw [this]
   omega
theorem aNo {u : List Nat} (h : (dE u).2.1 = 0) : ∃ n : Nat, (dE u).1 = (n : Int) ∧ n ≤ 1152921504606846976 ∧ ((u.takeWhile aW).length = 0 ∨ (dg n).length ≤ (u.takeWhile aW).length) := by
 have e : gA 0 (u.takeWhile aW) = ((dE u).1, 0) := by
  have h1 : (gA 0 (u.takeWhile aW)).2 = 0 := h
  exact Prod.ext rfl h1
 obtain ⟨q1, q2, q3⟩ := aDv _ 0 _ (fun c hc => uK aW u c hc) (by omega) e
 refine ⟨(dE u).1.toNat, by omega, by have := q2 (by omega); omega, ?_⟩
 rcases Nat.eq_zero_or_pos (u.takeWhile aW).length with h0 | h0
 ·exact .inl h0
 ·refine .inr ?_
  obtain ⟨k, hk⟩ : ∃ k, (u.takeWhile aW).length = k + 1 := ⟨(u.takeWhile aW).length - 1, by omega⟩
  rw [hk] at q3 ⊢
  have := tL 20 (dE u).1.toNat k [] (by omega)
  simpa [aJ, dg] using this
theorem cBb : ∀ {t : List Nat}, AB (dC 39 [39, 39] t) → AB t
 | [], h => AB.nil
 | c :: t, h => by
  have e : dC 39 [39, 39] (c :: t) = bif Nat.beq c 39 then [39, 39] ++ dC 39 [39, 39] t else c :: dC 39 [39, 39] t := rfl
  rw [e] at h
  cases hc : Nat.beq c 39 with
  | true =>
   rw [hc] at h
   have : c = 39 := Nat.eq_of_beq_eq_true hc
   refine AB.cons (by omega) (cBb fun x hx => h x (by simp [hx]))
  | false =>
   rw [hc] at h
   exact AB.cons (h c (by simp)) (cBb fun x hx => h x (by simp [hx]))
theorem cBw {k : Int} {t : List Nat} (h : AB (bI k t)) (h7 : k = 7 ∨ k = 9 → t = []) : AB t := by
 unfold bI at h
 split at h
 ·exact cBb fun c hc => h c (by simp [hc])
 split at h
 ·exact fun c hc => h c (by simp [hc])
 split at h
 ·rename_i e
  rw [h7 (.inl e)]
  exact AB.nil
 split at h
 ·exact fun c hc => h c (by simp [hc])
 split at h
 ·rename_i e
  rw [h7 (.inr e)]
  exact AB.nil
 ·exact h
theorem aEn {k : Int} {t : List Nat} (h : TV k t) (hk : k = 7 ∨ k = 9) : t = [] := by
 rcases hk with rfl | rfl
 ·have := h.2 [] (stop_nil.fol 7)
  have e : bI 7 t = [35, 40] := rfl
  rw [e] at this
  have e2 : bA 2001 ([35, 40] ++ []) = some (7, [], 0, 0, 2) := rfl
  rw [e2] at this
  simp only [bB, bW] at this
  exact this.2.1.symm
 ·have := h.2 [] (stop_nil.fol 9)
  have e : bI 9 t = [58, 61] := rfl
  rw [e] at this
  have e2 : bA 2001 ([58, 61] ++ []) = some (9, [], 0, 0, 2) := rfl
  rw [e2] at this
  simp only [bB, bW] at this
  exact this.2.1.symm
theorem aWk {f : Nat} {u : List Nat} {rs : Int × List Nat × Int × Int × Nat} (h : bA f u = some rs) (he : rs.2.2.2.1 = 0) (h4 : rs.1 = 4) : rs.2.1 = [] ∧ rs.2.2.1 = (dE u).1 ∧ rs.2.2.2.2 = (dE u).2.2 ∧ (dE u).2.1 = 0 := by
 rcases wN h he with ⟨_, a, b, c, d⟩ | ⟨a, _⟩
 ·exact ⟨a, b, c, d⟩
 ·exact absurd h4 a
theorem aDf : ∀ (l : List Tok) (v : List Nat) (p : Nat), AB v → Lx 2001 v p l → VT l ∧ mu l ≤ 3 * v.length
 | [], v, p, hb, h => by cases h
 | t :: l, v, p, hb, h => by
  cases h with
  | fin _ _ hw =>
   refine ⟨fun t ht => ?_, by simp [mu, kE]⟩
   have : t = ⟨0, [], 0, ((p + v.length : Nat) : Int)⟩ := by simpa using ht
   subst this
   exact ⟨AB.nil, .inl ⟨rfl, rfl, rfl⟩⟩
  | tok w u _ k rs _ hw h1 h2 h3 h4 h5 h6 h7 =>
   have hbu : AB u := fun c hc => hb c (by simp [hc])
   obtain ⟨q1, q2⟩ := aDf l (u.drop k) _ (fun c hc => hbu c (List.mem_of_mem_drop hc)) h7
   rw [List.length_drop] at q2
   subst h3
   by_cases hk : rs.1 = 4
   ·obtain ⟨a1, a2, a3, a4⟩ := aWk h1 h2 hk
    obtain ⟨n, b1, b2, b3⟩ := aNo a4
    have e3 : (dE u).2.2 = (u.takeWhile aW).length := rfl
    rw [e3] at a3
    have b4 := b3.resolve_left (by omega)
    refine ⟨fun t ht => ?_, ?_⟩
    ·rcases List.mem_cons.1 ht with rfl | ht
     ·exact ⟨by show AB rs.2.1; rw [a1]; exact AB.nil, .inr (.inl ⟨hk, a1, n, by rw [← b1]; exact a2, b2⟩)⟩
     ·exact q1 t ht
    ·rw [aBq]
     have : kE ⟨rs.1, rs.2.1, rs.2.2.1, ((p + w.length : Nat) : Int)⟩ = (dg n).length + 2 := by
      unfold kE
      rw [if_neg h6, if_pos hk]
      show (fN rs.2.2.1).length + 2 = _
      rw [a2, b1]
      rfl
     rw [this, List.length_append]
     omega
   ·obtain ⟨a1, a2, a3⟩ := bQt h1 h2 h4 h5 hk
    refine ⟨fun t ht => ?_, ?_⟩
    ·rcases List.mem_cons.1 ht with rfl | ht
     ·refine ⟨cBw (k := rs.1) ?_ (aEn a1), .inr (.inr ⟨h6, hk, a1, a2⟩)⟩
      rw [← a3]
      exact fun c hc => hbu c (List.mem_of_mem_take hc)
     ·exact q1 t ht
    ·rw [aBq]
     have : kE ⟨rs.1, rs.2.1, rs.2.2.1, ((p + w.length : Nat) : Int)⟩ = rs.2.2.2.2 + 2 := by
      unfold kE
      rw [if_neg h6, if_neg hk]
      show (bI rs.1 rs.2.1).length + 2 = _
      rw [← a3, List.length_take, Nat.min_eq_left h5]
     rw [this, List.length_append]
     omega
def Sst (st : PSt) (d m : Nat) : Prop := st.err = 0 ∧ st.deep = (d : Int) ∧ d ≤ 20 ∧ VT st.toks ∧ mu st.toks = m ∧ m ≤ 100000
def SO {α : Type} (P : PSt → Prop) (F : PSt → Option (α × PSt)) (C : Nat → α → Nat → Prop) : Prop := ∀ st x st', P st → F st = some (x, st') → st'.err = 0 → st.err = 0 ∧ ∀ d m, Sst st d m → ∃ n m', m' + n = m ∧ Sst st' d m' ∧ C d x n
def Any (_ : PSt) : Prop := True
def Hk (k : Int) (x : List Nat) (st : PSt) : Prop := ∃ t, bD st 0 = some t ∧ t.kind = k ∧ (x ≠ [] → t.text = x)
section
variable {α β : Type} {P P' : PSt → Prop} {F G : PSt → Option (α × PSt)} {C D : Nat → α → Nat → Prop}
theorem SO.mono (h : SO P F C) (k : ∀ d x n, d ≤ 20 → n ≤ 100000 → C d x n → D d x n) : SO P F D := fun st x st' hp he h0 => by
 obtain ⟨a, b⟩ := h st x st' hp he h0
 refine ⟨a, fun d m S => ?_⟩
 obtain ⟨n, m', e, S', c⟩ := b d m S
 exact ⟨n, m', e, S', k d x n S.2.2.1 (by have := S.2.2.2.2.2; omega) c⟩
theorem SO.pre (h : SO P F C) (k : ∀ st, P' st → P st) : SO P' F C := fun st x st' hp he h0 => h st x st' (k st hp) he h0
theorem SO.bind {K : α × PSt → Option (β × PSt)} {E : α → Nat → β → Nat → Prop} (h : SO P F C) (k : ∀ x, SO Any (fun st => K (x, st)) (E x)) : SO P (fun st => (F st).bind K) (fun d y n => ∃ x a b, a + b = n ∧ C d x a ∧ E x d y b) := fun st y st' hp he h0 => by
 obtain ⟨⟨x, s1⟩, e1, e2⟩ := bC he
 obtain ⟨k1, k2⟩ := k x s1 y st' trivial e2 h0
 obtain ⟨a1, a2⟩ := h st x s1 hp e1 k1
 refine ⟨a1, fun d m S => ?_⟩
 obtain ⟨n, m', q1, q2, q3⟩ := a2 d m S
 obtain ⟨n2, m2, q4, q5, q6⟩ := k2 d m' q2
 exact ⟨n + n2, m2, by omega, q5, x, n, n2, rfl, q3, q6⟩
theorem SO.ret (x : α) : SO P (fun st => some (x, st)) (fun d y n => y = x ∧ n = 0) := fun st y st' hp he h0 => by
 cases he
 exact ⟨h0, fun d m S => ⟨0, m, rfl, S, rfl, rfl⟩⟩
theorem kI {st : PSt} {k : Int} {x : List Nat} (h : dU st k x = some true) : st.err = 0 ∧ Hk k x st := by
 unfold dU at h
 obtain ⟨t, ht, h⟩ := bC h
 simp at h
 refine ⟨h.1.1, t, ht, h.1.2, fun hx => h.2.resolve_left hx⟩
theorem wM {st : PSt} {k : Int} {x : List Nat} (h : dU st k x = some false) (he : st.err = 0) : ¬ Hk k x st := by
 unfold dU at h
 obtain ⟨t, ht, h⟩ := bC h
 rintro ⟨u, h1, h2, h3⟩
 rw [ht] at h1
 cases h1
 simp [he, h2] at h
 exact h.2 (h3 h.1)
theorem cAp {k : Int} {x : List Nat} (h : SO (fun st => P st ∧ Hk k x st) F C) (g : SO (fun st => P st ∧ (st.err = 0 → ¬ Hk k x st)) G C) : SO P (fun st => (dU st k x).bind fun c => if c then F st else G st) C := fun st y st' hp he h0 => by
 obtain ⟨c, e1, e2⟩ := bC he
 cases c with
 | true => exact h st y st' ⟨hp, (kI e1).2⟩ e2 h0
 | false => exact g st y st' ⟨hp, wM e1⟩ e2 h0
theorem cBj {t : Tok} {e : Int} (he : e ≠ 0) (x : α) : SO P (fun st => some (x, bV st t e)) C := fun st y st' hp hs h0 => by
 exfalso
 cases hs
 unfold bV at h0
 split at h0
 ·exact he h0
 ·exact absurd h0 (by assumption)
end
theorem take_so {Q : Tok → Prop} : SO (fun st => ∃ t, bD st 0 = some t ∧ Q t) aV (fun d t n => Q t ∧ TKV t ∧ n = kE t) := fun st y st' ⟨t, ht, hq⟩ he h0 => by
 unfold aV at he
 rw [ht, Option.bind_some] at he
 have hmem : t ∈ st.toks := by
  unfold bD at ht
  exact List.mem_of_getElem? ht
 by_cases hk : t.kind = 0
 ·rw [if_pos hk] at he
  obtain ⟨rfl, rfl⟩ : t = y ∧ st = st' := by simpa using he
  refine ⟨h0, fun d m S => ⟨0, m, rfl, S, hq, S.2.2.2.1 _ hmem, ?_⟩⟩
  unfold kE
  rw [if_pos hk]
 ·rw [if_neg hk] at he
  by_cases h2 : 2 ≤ st.toks.length
  ·rw [if_pos h2] at he
   obtain ⟨rfl, rfl⟩ : t = y ∧ ({ st with toks := st.toks.drop 1 } : PSt) = st' := by simpa using he
   refine ⟨h0, fun d m S => ?_⟩
   obtain ⟨s1, s2, s3, s4, s5, s6⟩ := S
   have ht0 : st.toks[0]? = some t := by
    unfold bD at ht
    simpa using ht
   obtain ⟨r, hr⟩ : ∃ r, st.toks = t :: r := by
    cases e : st.toks with
    | nil => rw [e] at ht0; cases ht0
    | cons a r => rw [e] at ht0; cases ht0; exact ⟨r, rfl⟩
   rw [hr, aBq] at s5
   refine ⟨kE t, mu r, by omega, ⟨s1, s2, s3, ?_, ?_, by omega⟩, hq, s4 _ hmem, rfl⟩
   ·show VT (st.toks.drop 1)
    exact fun x hx => s4 x (List.mem_of_mem_drop hx)
   ·show mu (st.toks.drop 1) = _
    rw [hr]
    rfl
  ·rw [if_neg h2] at he
   cases he
theorem dD {k : Int} {x : List Nat} {P : PSt → Prop} : SO (fun st => P st ∧ Hk k x st) aV (fun d t n => (t.kind = k ∧ (x ≠ [] → t.text = x)) ∧ TKV t ∧ n = kE t) := take_so.pre fun st h => h.2
theorem gC {P : PSt → Prop} (k : Int) (x : List Nat) : SO P (fun st => bL st k x) (fun d t n => (t.kind = k ∧ (x ≠ [] → t.text = x)) ∧ TKV t ∧ n = kE t) := by
 unfold bL
 refine cAp dD ?_
 intro st y st' hp he h0
 obtain ⟨t, _, he⟩ := bC he
 exact cBj (P := Any) (C := fun d t n => (t.kind = k ∧ (x ≠ [] → t.text = x)) ∧ TKV t ∧ n = kE t) (t := t) (e := 13) (by decide) z4 st y st' trivial he h0
end Go.Dd

namespace Go.Dd
def nht (x : Node) : Nat := jO x.kind x.text
def fE (x : Node) : List Nat := (nf x).tx
theorem bVe : ∀ (x : Node), (nf x).ht = (nht x, fE x)
 | .mk k t m ns ts ks => rfl
def kD (h : Nat) (x : Node) : List Nat := if nht x > h then 40 :: (fE x ++ [41]) else fE x
def rG (l : List Node) : List (Nat × List Nat) := l.map fun x => (nht x, fE x)
theorem aJz (l : List Node) : (qH l).map Nf.ht = rG l := by
 rw [qF, List.map_map]
 exact List.map_congr_left fun x _ => bVe x
theorem aZl (l : List Node) : (qH l).map Nf.tx = l.map fE := by
 rw [qF, List.map_map]
 rfl
theorem sE (h : Nat) (x : Node) : (fE x).length ≤ (kD h x).length ∧ (kD h x).length ≤ (fE x).length + 2 := by
 unfold kD
 split
 ·simp; omega
 ·omega
theorem mV (t : List Nat) (x : Node) (args : List Node) : fE (aK t (x :: args)) = kD (if bS t = 1 then 1 else 2) x ++ 32 :: aR t (rG args) := by
 show vT 7 t 0 [] [] (qH (x :: args)) = _
 show fP t ((qH (x :: args)).map Nf.ht) = _
 rw [aJz]
 unfold fP
 rw [if_neg (by simp [rG])]
 rfl
theorem bFx {t : List Nat} (h : TV 1 t) (a : List (Nat × List Nat)) : aR t a = t := by
 unfold aR
 rw [if_pos ((dH h).1 rfl).1]
theorem bBk {t : List Nat} (h : TV 3 t) (x : Node) : aR t (rG [x]) = t ++ 32 :: kD 1 x := by
 unfold aR
 have := ((dH h).2.2 rfl).1
 rw [if_neg (by omega), if_pos this]
 rfl
def q3 (z : List Nat × Node) : List Nat × Node × List Nat := (z.1, z.2, kD 2 z.2)
theorem xK : ∀ (zs : List (List Nat × Node)) (pre : List (Nat × List Nat)), fW (zs.map Prod.fst) (pre ++ rG (zs.map Prod.snd)) pre.length = zs.map fun z => z.1 ++ 32 :: kD 2 z.2
 | [], pre => rfl
 | z :: zs, pre => by
  have ih := xK zs (pre ++ [(nht z.2, fE z.2)])
  have e : bO (pre ++ rG ((z :: zs).map Prod.snd)) pre.length 2 = kD 2 z.2 := by
   unfold bO
   simp [rG]
   rfl
  show (z.1 ++ 32 :: bO (pre ++ rG ((z :: zs).map Prod.snd)) pre.length 2) :: fW (zs.map Prod.fst) (pre ++ rG ((z :: zs).map Prod.snd)) (pre.length + 1) = _
  rw [e]
  simp only [List.append_assoc, laE, lcE, lnE, List.cons_append, List.nil_append] at ih
  simp only [List.map_cons]
  rw [← ih]
  rfl
theorem aNg : ∀ (zs : List (List Nat × Node)), zs ≠ [] → 32 :: aF [32] (zs.map fun z => z.1 ++ 32 :: kD 2 z.2) = KQ (zs.map q3)
 | [], h => absurd rfl h
 | [z], h => by simp [vH, KQ, q3]
 | z :: u :: l, h => by
  have := aNg (u :: l) (by simp)
  show 32 :: ((z.1 ++ 32 :: kD 2 z.2) ++ ([32] ++ aF [32] ((u :: l).map fun z => z.1 ++ 32 :: kD 2 z.2))) = 32 :: (z.1 ++ 32 :: (kD 2 z.2 ++ KQ ((u :: l).map q3)))
  rw [← this]
  simp
theorem bGg {zs : List (List Nat × Node)} (h : ∀ z ∈ zs, TV 2 z.1) (hne : zs ≠ []) : 32 :: aR (zs.map Prod.fst).flatten (rG (zs.map Prod.snd)) = KQ (zs.map q3) := by
 have hk : ∀ q ∈ zs.map Prod.fst, TV 2 q := fun q hq => by
  obtain ⟨z, h1, rfl⟩ := List.mem_map.1 hq
  exact h z h1
 have h3 := gH hk (by simpa using hne)
 unfold aR
 rw [if_neg (by omega), if_neg (by omega), jC hk, show fW (zs.map Prod.fst) (rG (zs.map Prod.snd)) 0 = _ from xK zs []]
 exact aNg zs hne
def WU (d : Nat) (x : Node) : Prop := ∀ e, e ≤ d → RdU e x (kD 1 x)
def WB (d : Nat) (x : Node) : Prop := ∀ e, e ≤ d → RdB e x (kD 2 x)
def MsgOk (d : Nat) (t : List Nat) (args : List Node) : Prop := (TV 1 t ∧ args = []) ∨ (TV 3 t ∧ ∃ a, args = [a] ∧ WU d a) ∨ ∃ zs : List (List Nat × Node), zs ≠ [] ∧ t = (zs.map Prod.fst).flatten ∧ args = zs.map Prod.snd ∧ ∀ z ∈ zs, TV 2 z.1 ∧ WB d z.2
def SendOk (d : Nat) (x : Node) : Prop := ∃ t k0 args, x = aK t (k0 :: args) ∧ MsgOk d t args ∧ (bS t = 1 → WU d k0) ∧ (bS t ≠ 1 → WB d k0)
structure GG (d : Nat) (x : Node) : Prop where
 u : ∀ e, e ≤ d → nht x ≤ 1 → RdU e x (fE x)
 b : ∀ e, e ≤ d → nht x ≤ 2 → RdB e x (fE x)
 e : ∀ e, e ≤ d → RdE e x (fE x)
 s : x.kind = 7 → SendOk d x
structure PU (d : Nat) (x : Node) : Prop where
 g : GG d x
 u : WU d x
 b : WB d x
structure PB (d : Nat) (x : Node) : Prop where
 g : GG d x
 b : WB d x
theorem PU.pb {d : Nat} {x : Node} (h : PU d x) : PB d x := ⟨h.g, h.b⟩
theorem MsgOk.le {d e : Nat} {t : List Nat} {args : List Node} (h : MsgOk d t args) (he : e ≤ d) : MsgOk e t args := by
 rcases h with h | ⟨h, a, h1, h2⟩ | ⟨zs, h1, h2, h3, h4⟩
 ·exact .inl h
 ·exact .inr (.inl ⟨h, a, h1, fun k hk => h2 k (by omega)⟩)
 ·exact .inr (.inr ⟨zs, h1, h2, h3, fun z hz => ⟨(h4 z hz).1, fun k hk => (h4 z hz).2 k (by omega)⟩⟩)
theorem SendOk.le {d e : Nat} {x : Node} (h : SendOk d x) (he : e ≤ d) : SendOk e x := by
 obtain ⟨t, k0, args, h1, h2, h3, h4⟩ := h
 exact ⟨t, k0, args, h1, h2.le he, fun k q hq => h3 k q (by omega), fun k q hq => h4 k q (by omega)⟩
theorem GG.le {d e : Nat} {x : Node} (h : GG d x) (he : e ≤ d) : GG e x := ⟨fun k hk => h.u k (by omega), fun k hk => h.b k (by omega), fun k hk => h.e k (by omega), fun k => (h.s k).le he⟩
theorem PU.low {d : Nat} {x : Node} (h0 : nht x = 0) (h7 : x.kind ≠ 7) (h : ∀ e, e ≤ d → RdP e x (fE x)) : PU d x := by
 have e1 : kD 1 x = fE x := by unfold kD; rw [if_neg (by omega)]
 have e2 : kD 2 x = fE x := by unfold kD; rw [if_neg (by omega)]
 exact ⟨⟨fun e he _ => (h e he).u, fun e he _ => (h e he).u.b, fun e he => (h e he).u.b.k.e, fun k => absurd k h7⟩, fun e he => by rw [e1]; exact (h e he).u, fun e he => by rw [e2]; exact (h e he).u.b⟩
theorem PU.paren {d : Nat} {x : Node} (h : GG (d + 1) x) (hd : d < 20) : PU d x := by
 refine ⟨h.le (by omega), fun e he => ?_, fun e he => ?_⟩
 ·unfold kD
  split
  ·exact (RdE.paren (h.e (e + 1) (by omega)) (by omega)).u
  ·exact h.u e (by omega) (by omega)
 ·unfold kD
  split
  ·exact (RdE.paren (h.e (e + 1) (by omega)) (by omega)).u.b
  ·exact h.b e (by omega) (by omega)
theorem iT (t : List Nat) (ks : List Node) : nht (aK t ks) = bS t := rfl
theorem PU.send {d : Nat} {x : Node} {n : List Nat} (h : PU d x) (hn : TV 1 n) : PU d (aK n [x]) ∧ fE (aK n [x]) = kD 1 x ++ 32 :: n := by
 have hk := ((dH hn).1 rfl).1
 have e0 : fE (aK n [x]) = kD 1 x ++ 32 :: n := by rw [mV, hk, bFx hn]; rfl
 have e1 : kD 1 (aK n [x]) = fE (aK n [x]) := by unfold kD; rw [if_neg (by rw [iT]; omega)]
 have e2 : kD 2 (aK n [x]) = fE (aK n [x]) := by unfold kD; rw [if_neg (by rw [iT]; omega)]
 have H : ∀ e, e ≤ d → RdU e (aK n [x]) (fE (aK n [x])) := fun e he => by rw [e0]; exact (h.u e he).send hn
 refine ⟨⟨⟨fun e he _ => H e he, fun e he _ => (H e he).b, fun e he => (H e he).b.k.e, fun _ => ⟨n, x, [], rfl, .inl ⟨hn, rfl⟩, fun _ => h.u, fun k => absurd hk k⟩⟩, fun e he => by rw [e1]; exact H e he, fun e he => by rw [e2]; exact (H e he).b⟩, e0⟩
theorem PB.send {d : Nat} {x y : Node} {s : List Nat} (h : PB d x) (hs : TV 3 s) (hy : PU d y) : PB d (aK s [x, y]) ∧ fE (aK s [x, y]) = kD 2 x ++ 32 :: (s ++ 32 :: kD 1 y) := by
 have hk := ((dH hs).2.2 rfl).1
 have e0 : fE (aK s [x, y]) = kD 2 x ++ 32 :: (s ++ 32 :: kD 1 y) := by rw [mV, hk, bBk hs]; rfl
 have e2 : kD 2 (aK s [x, y]) = fE (aK s [x, y]) := by unfold kD; rw [if_neg (by rw [iT]; omega)]
 have H : ∀ e, e ≤ d → RdB e (aK s [x, y]) (fE (aK s [x, y])) := fun e he => by rw [e0]; exact (h.b e he).send hs (hy.u e he)
 exact ⟨⟨⟨fun e he h1 => by rw [iT] at h1; omega, fun e he _ => H e he, fun e he => (H e he).k.e, fun _ => ⟨s, x, [y], rfl, .inr (.inl ⟨hs, y, rfl, hy.u⟩), fun k => by omega, fun _ => h.b⟩⟩, fun e he => by rw [e2]; exact H e he⟩, e0⟩
theorem GG.keys {d : Nat} {x : Node} {zs : List (List Nat × Node)} (h : PB d x) (hne : zs ≠ []) (hz : ∀ z ∈ zs, TV 2 z.1 ∧ WB d z.2) :
 GG d (aK (zs.map Prod.fst).flatten (x :: zs.map Prod.snd)) ∧ fE (aK (zs.map Prod.fst).flatten (x :: zs.map Prod.snd)) = kD 2 x ++ KQ (zs.map q3) ∧ ∀ e, e ≤ d → RdK e (aK (zs.map Prod.fst).flatten (x :: zs.map Prod.snd)) (fE (aK (zs.map Prod.fst).flatten (x :: zs.map Prod.snd))) := by
 have hk : ∀ q ∈ zs.map Prod.fst, TV 2 q := fun q hq => by
  obtain ⟨z, h1, rfl⟩ := List.mem_map.1 hq
  exact (hz z h1).1
 have h3 := gH hk (by simpa using hne)
 have e0 : fE (aK (zs.map Prod.fst).flatten (x :: zs.map Prod.snd)) = kD 2 x ++ KQ (zs.map q3) := by
  rw [mV, h3, bGg (fun z h => (hz z h).1) hne]
  rfl
 have ef : (zs.map q3).map Prod.fst = zs.map Prod.fst := by rw [List.map_map]; rfl
 have es : ((zs.map q3).map fun q => q.2.1) = zs.map Prod.snd := by rw [List.map_map]; rfl
 have H : ∀ e, e ≤ d → RdK e (aK (zs.map Prod.fst).flatten (x :: zs.map Prod.snd)) (fE (aK (zs.map Prod.fst).flatten (x :: zs.map Prod.snd))) := fun e he => by
  have := RdK.keys (qs := zs.map q3) (h.b e he) (fun q hq => by
   obtain ⟨z, h1, rfl⟩ := List.mem_map.1 hq
   exact ⟨(hz z h1).1, (hz z h1).2 e he⟩) (by simpa using hne)
  rw [ef, es] at this
  rw [e0]
  exact this
 refine ⟨⟨fun e he h1 => by rw [iT] at h1; omega, fun e he h1 => by rw [iT] at h1; omega, fun e he => (H e he).e, fun _ => ⟨_, x, _, rfl, .inr (.inr ⟨zs, hne, rfl, rfl, hz⟩), fun k => by omega, fun _ => h.b⟩⟩, e0, H⟩
theorem SendOk.k {d : Nat} {t : List Nat} {k0 : Node} {args : List Node} (hm : MsgOk d t args) (h1 : bS t = 1 → WU d k0) (h2 : bS t ≠ 1 → WB d k0) : ∀ e, e ≤ d → RdK e (aK t (k0 :: args)) (fE (aK t (k0 :: args))) := fun e he => by
 rcases hm with ⟨h, rfl⟩ | ⟨h, a, rfl, ha⟩ | ⟨zs, hne, rfl, rfl, hz⟩
 ·have hk := ((dH h).1 rfl).1
  rw [mV, hk, bFx h]
  exact ((h1 hk) e he |>.send h).b.k
 ·have hk := ((dH h).2.2 rfl).1
  rw [mV, hk, bBk h]
  exact ((h2 (by omega)) e he |>.send h (ha e he)).k
 ·have hk : ∀ q ∈ zs.map Prod.fst, TV 2 q := fun q hq => by
   obtain ⟨z, h1, rfl⟩ := List.mem_map.1 hq
   exact (hz z h1).1
  have h3 := gH hk (by simpa using hne)
  have ef : (zs.map q3).map Prod.fst = zs.map Prod.fst := by rw [List.map_map]; rfl
  have es : ((zs.map q3).map fun q => q.2.1) = zs.map Prod.snd := by rw [List.map_map]; rfl
  have := RdK.keys (qs := zs.map q3) ((h2 (by omega)) e he) (fun q hq => by
   obtain ⟨z, h1, rfl⟩ := List.mem_map.1 hq
   exact ⟨(hz z h1).1, (hz z h1).2 e he⟩) (by simpa using hne)
  rw [ef, es] at this
  rw [mV, h3, bGg (fun z h => (hz z h).1) hne]
  exact this
theorem MsgOk.m {d : Nat} {t : List Nat} {args : List Node} (hm : MsgOk d t args) : ∀ e, e ≤ d → RdM e (aK t args) (aR t (rG args)) := fun e he => by
 rcases hm with ⟨h, rfl⟩ | ⟨h, a, rfl, ha⟩ | ⟨zs, hne, rfl, rfl, hz⟩
 ·rw [bFx h]
  exact bYk h
 ·rw [bBk h]
  exact bXy h (ha e he)
 ·have ef : (zs.map q3).map Prod.fst = zs.map Prod.fst := by rw [List.map_map]; rfl
  have es : ((zs.map q3).map fun q => q.2.1) = zs.map Prod.snd := by rw [List.map_map]; rfl
  have := bXu (d := e) (qs := zs.map q3) (fun q hq => by
   obtain ⟨z, h1, rfl⟩ := List.mem_map.1 hq
   exact ⟨(hz z h1).1, (hz z h1).2 e he⟩) (by simpa using hne)
  rw [ef, es, ← bGg (fun z h => (hz z h).1) hne] at this
  exact this
theorem GG.cascade {d : Nat} {t : List Nat} {k0 : Node} {args : List Node} {ms : List (List Nat × List Node)} (hm : MsgOk d t args) (h1 : bS t = 1 → WU d k0) (h2 : bS t ≠ 1 → WB d k0) (hs : ∀ m ∈ ms, MsgOk d m.1 m.2) (hne : ms ≠ []) :
 GG d (.mk 8 [] 0 [] [] (k0 :: aK t args :: ms.map fun m => aK m.1 m.2)) ∧ fE (.mk 8 [] 0 [] [] (k0 :: aK t args :: ms.map fun m => aK m.1 m.2)) = fE (aK t (k0 :: args)) ++ FQ (ms.map fun m => (aK m.1 m.2, aR m.1 (rG m.2))) := by
 have ek : (ms.map fun m => (aK m.1 m.2, aR m.1 (rG m.2))).map Prod.fst = ms.map fun m => aK m.1 m.2 := by rw [List.map_map]; rfl
 have e0 : fE (.mk 8 [] 0 [] [] (k0 :: aK t args :: ms.map fun m => aK m.1 m.2)) = fE (aK t (k0 :: args)) ++ FQ (ms.map fun m => (aK m.1 m.2, aR m.1 (rG m.2))) := by
  show fP t ((nf k0).ht :: (qH args).map Nf.ht) ++ aF [] ((qH (ms.map fun m => aK m.1 m.2)).map fun x => 59 :: 32 :: aR x.t x.ks) = _
  congr 1
  clear ek hs hne
  induction ms with
  | nil => rfl
  | cons m ms ih =>
   have e : (nf (aK m.1 m.2)).t = m.1 ∧ (nf (aK m.1 m.2)).ks = rG m.2 := ⟨rfl, aJz m.2⟩
   cases ms with
   | nil =>
    show 59 :: 32 :: aR (nf (aK m.1 m.2)).t (nf (aK m.1 m.2)).ks = 59 :: 32 :: (aR m.1 (rG m.2) ++ [])
    rw [e.1, e.2, List.append_nil]
   | cons m2 ms =>
    show (59 :: 32 :: aR (nf (aK m.1 m.2)).t (nf (aK m.1 m.2)).ks) ++ ([] ++ aF [] ((qH ((m2 :: ms).map fun m => aK m.1 m.2)).map fun x => 59 :: 32 :: aR x.t x.ks)) = 59 :: 32 :: (aR m.1 (rG m.2) ++ FQ _)
    rw [e.1, e.2, List.nil_append, ih]
    rfl
 have hh : nht (.mk 8 [] 0 [] [] (k0 :: aK t args :: ms.map fun m => aK m.1 m.2)) = 4 := rfl
 refine ⟨⟨fun e he h1 => by omega, fun e he h1 => by omega, fun e he => ?_, fun k => absurd k (by show (8 : Int) ≠ 7; decide)⟩, e0⟩
 have := RdE.cascade (SendOk.k hm h1 h2 e he) (ms := ms.map fun m => (aK m.1 m.2, aR m.1 (rG m.2))) (fun m hm => by
  obtain ⟨z, h1, rfl⟩ := List.mem_map.1 hm
  exact (hs z h1).m e he) (by simpa using hne)
 rw [ek, ← e0] at this
 exact this
theorem GG.assign {d : Nat} {x : Node} {n : List Nat} (h : GG d x) (hn : TV 1 n) : GG d (.mk 6 n 0 [] [] [x]) ∧ fE (.mk 6 n 0 [] [] [x]) = n ++ 32 :: 58 :: 61 :: 32 :: fE x := by
 have e0 : fE (.mk 6 n 0 [] [] [x]) = n ++ 32 :: 58 :: 61 :: 32 :: fE x := rfl
 have hh : nht (.mk 6 n 0 [] [] [x]) = 5 := rfl
 exact ⟨⟨fun e he h1 => by omega, fun e he h1 => by omega, fun e he => by rw [e0]; exact (h.e e he).assign hn, fun k => absurd k (by show (6 : Int) ≠ 7; decide)⟩, e0⟩
end Go.Dd

namespace Go.Dd
theorem aVv {k : Int} {t : List Nat} (h : k = 7 ∨ k = 9 → t = []) : t.length ≤ (bI k t).length := by
 unfold bI
 split
 ·simp only [List.length_cons, List.length_append]
  have : t.length ≤ (dC 39 [39, 39] t).length := by
   induction t with
   | nil => exact Nat.le_refl _
   | cons c t ih =>
    have e : dC 39 [39, 39] (c :: t) = bif Nat.beq c 39 then [39, 39] ++ dC 39 [39, 39] t else c :: dC 39 [39, 39] t := rfl
    have ih := ih (fun hk => by have := h hk; cases this)
    rw [e]
    cases Nat.beq c 39 with
    | true => simp; omega
    | false => simp; omega
  omega
 split
 ·simp
 split
 ·rename_i e; rw [h (.inl e)]; simp
 split
 ·simp
 split
 ·rename_i e; rw [h (.inr e)]; simp
 ·exact Nat.le_refl _
theorem rK {t : Tok} {k : Int} (h : TKV t) (hk : t.kind = k) (h0 : k ≠ 0) (h4 : k ≠ 4) : TV k t.text ∧ kE t = (bI k t.text).length + 2 ∧ t.num = 0 ∧ AB t.text ∧ t.text.length + 2 ≤ kE t := by
 obtain ⟨a, h⟩ := h
 rcases h with h | h | ⟨h1, h2, h3, h5⟩
 ·omega
 ·omega
 ·rw [hk] at h3
  have e : kE t = (bI k t.text).length + 2 := by unfold kE; rw [if_neg h1, if_neg h2, hk]
  exact ⟨h3, e, h5, a, by have := aVv (k := k) (aEn h3); omega⟩
theorem bZh {α β : Type} {P : PSt → Prop} {F : PSt → Option (α × PSt)} {C : Nat → α → Nat → Prop} {E : α → Nat → β → Nat → Prop} (K : α → PSt → Option (β × PSt)) (h : SO P F C) (k : ∀ x, SO Any (K x) (E x)) : SO P (fun st => (F st).bind fun r => K r.1 r.2) (fun d y n => ∃ x a b, a + b = n ∧ C d x a ∧ E x d y b) :=
 SO.bind (K := fun r => K r.1 r.2) h k
theorem oD : ∀ {l : List Node}, (∀ x ∈ l, Sk x) → SkL l
 | [], h => trivial
 | x :: l, h => ⟨h x (by simp), oD fun y hy => h y (by simp [hy])⟩
theorem nS : ∀ {l : List Node}, (∀ x ∈ l, By x) → ByL l
 | [], h => trivial
 | x :: l, h => ⟨h x (by simp), nS fun y hy => h y (by simp [hy])⟩
theorem rP {t : List Nat} {ks : List Node} (h : t.length ≤ 100000) (h2 : ks.length ≤ 100001) (hk : ∀ x ∈ ks, Sk x) : Sk (aK t ks) := ⟨by omega, by omega, by omega, by unfold bQ; omega, oD hk⟩
theorem rY {t : List Nat} {ks : List Node} (h : AB t) (hk : ∀ x ∈ ks, By x) : By (aK t ks) := ⟨h, fun x hx => by (cases hx), fun x hx => by (cases hx), nS hk⟩
def CU (d : Nat) (x : Node) (n : Nat) : Prop := PU d x ∧ (kD 1 x).length + 2 ≤ n ∧ Sk x ∧ By x
def CB (d : Nat) (x : Node) (n : Nat) : Prop := PB d x ∧ (kD 2 x).length + 2 ≤ n ∧ Sk x ∧ By x
def CE (d : Nat) (x : Node) (n : Nat) : Prop := GG d x ∧ (fE x).length + 2 ≤ n ∧ Sk x ∧ By x
theorem lH {h : Nat} {x : Node} (hx : nht x ≤ h) : kD h x = fE x := by unfold kD; rw [if_neg (by omega)]
theorem aRt (x : Node) : (kD 2 x).length ≤ (kD 1 x).length := by
 have := sE 1 x
 have := sE 2 x
 by_cases h : nht x ≤ 2
 ·rw [lH h]; omega
 ·unfold kD
  rw [if_pos (by omega), if_pos (by omega)]
  exact Nat.le_refl _
theorem CU.cb {d : Nat} {x : Node} {n : Nat} (h : CU d x n) : CB d x n := ⟨h.1.pb, by have := aRt x; have := h.2.1; omega, h.2.2⟩
theorem CB.ce {d : Nat} {x : Node} {n : Nat} (h : CB d x n) : CE d x n := ⟨h.1.g, by have := sE 2 x; have := h.2.1; omega, h.2.2⟩
theorem oT : ∀ (f : Nat) (x : Node), SO Any (bZ f x) (fun d y n => ∀ a, CU d x a → CU d y (a + n))
 | 0, x => fun st y st' _ h => by cases h
 | f + 1, x => by
  show SO Any (fun st => (dU st 1 []).bind fun c => if c then (aV st).bind fun r => bZ f (aK r.1.text [x]) r.2 else some (x, st)) _
  refine cAp ((bZh (fun t st => bZ f (aK t.text [x]) st) dD (fun t => oT f (aK t.text [x]))).mono ?_) ((SO.ret x).mono ?_)
  ·rintro d y n hd hn ⟨t, a, b, rfl, ⟨⟨hk, _⟩, hv, rfl⟩, H⟩ c ⟨h1, h2, h3, h4⟩
   obtain ⟨k1, k2, k3, k4, k5⟩ := rK hv hk (by decide) (by decide)
   obtain ⟨p1, p2⟩ := h1.send k1
   have := H (c + kE t) ⟨p1, by
    rw [lH (by rw [iT, ((dH k1).1 rfl).1]; omega), p2, List.length_append, List.length_cons]
    omega, rP (by omega) (by simp) (by simpa using h3), rY k4 (by simpa using h4)⟩
   rw [← Nat.add_assoc]
   exact this
  ·rintro d y n hd hn ⟨rfl, rfl⟩ a h
   exact h
theorem xB {P : PF} {g : Nat} (hP : SO Any P CU) : ∀ (f : Nat) (x : Node), SO Any (bU P g f x) (fun d y n => ∀ a, CB d x a → CB d y (a + n))
 | 0, x => fun st y st' _ h => by cases h
 | f + 1, x => by
  show SO Any (fun st => (dU st 3 []).bind fun c => if c then (aV st).bind fun r => (P r.2).bind fun q => (bZ g q.1 q.2).bind fun u => bU P g f (aK r.1.text [x, u.1]) u.2 else some (x, st)) _
  refine cAp ((bZh (fun t st => (P st).bind fun q => (bZ g q.1 q.2).bind fun u => bU P g f (aK t.text [x, u.1]) u.2) dD (fun t => bZh (fun q st => (bZ g q st).bind fun u => bU P g f (aK t.text [x, u.1]) u.2) hP fun q => bZh (fun u st => bU P g f (aK t.text [x, u]) st) (oT g q) fun u => xB hP f (aK t.text [x, u]))).mono ?_) ((SO.ret x).mono ?_)
  ·rintro d y n hd hn ⟨t, a, b, rfl, ⟨⟨hk, _⟩, hv, rfl⟩, q, a2, b2, rfl, hq, u, a3, b3, rfl, hu, H⟩ c ⟨h1, h2, h3, h4⟩
   obtain ⟨k1, k2, k3, k4, k5⟩ := rK hv hk (by decide) (by decide)
   obtain ⟨q1, q2, q3, q4⟩ := hu a2 hq
   obtain ⟨p1, p2⟩ := h1.send k1 q1
   have := H (c + (kE t + (a2 + a3))) ⟨p1, by
    rw [lH (by rw [iT, ((dH k1).2.2 rfl).1]; omega), p2]
    simp only [List.length_append, List.length_cons]
    omega, rP (by omega) (by simp) (by
     intro z hz
     rcases List.mem_cons.1 hz with rfl | hz
     ·exact h3
     ·have : z = u := by simpa using hz
      rw [this]; exact q3), rY k4 (by
     intro z hz
     rcases List.mem_cons.1 hz with rfl | hz
     ·exact h4
     ·have : z = u := by simpa using hz
      rw [this]; exact q4)⟩
   rw [show c + (kE t + (a2 + (a3 + b3))) = c + (kE t + (a2 + a3)) + b3 by omega]
   exact this
  ·rintro d y n hd hn ⟨rfl, rfl⟩ a h
   exact h
theorem aMo {P : PF} {g : Nat} (hP : SO Any P CU) : SO Any (fun st => (P st).bind fun q => (bZ g q.1 q.2).bind fun u => bU P g g u.1 u.2) CB :=
 (bZh (fun q st => (bZ g q st).bind fun u => bU P g g u.1 u.2) hP fun q => bZh (fun u st => bU P g g u st) (oT g q) fun u => xB hP g u).mono fun d x n _ _ h => by
  obtain ⟨q, a, b, e, h1, u, a2, b2, e2, h2, h3⟩ := h
  have := h3 _ (h2 a h1).cb
  rw [show n = a + a2 + b2 by omega]
  exact this
def KZ (d : Nat) (zs : List (List Nat × Node)) (n : Nat) : Prop := (∀ z ∈ zs, (TV 2 z.1 ∧ WB d z.2) ∧ AB z.1 ∧ Sk z.2 ∧ By z.2) ∧ (KQ (zs.map q3)).length + 2 * zs.length ≤ n ∧ zs.length ≤ n ∧ (zs.map Prod.fst).flatten.length ≤ n
theorem KZ.nil {d : Nat} : KZ d [] 0 := ⟨fun z hz => (by cases hz), Nat.le_refl _, Nat.le_refl _, Nat.le_refl _⟩
theorem KZ.cons {d : Nat} {p : List Nat} {x : Node} {zs : List (List Nat × Node)} {n a w : Nat} (h : KZ d zs n) (hp : TV 2 p) (hb : AB p) (hw : p.length + 2 ≤ w) (hx : CB d x a) : KZ d ((p, x) :: zs) (w + (a + n)) := by
 obtain ⟨h1, h2, h3, h4⟩ := h
 obtain ⟨x1, x2, x3, x4⟩ := hx
 refine ⟨fun z hz => ?_, ?_, ?_, ?_⟩
 ·rcases List.mem_cons.1 hz with rfl | hz
  ·exact ⟨⟨hp, x1.b⟩, hb, x3, x4⟩
  ·exact h1 z hz
 ·show (32 :: (p ++ 32 :: (kD 2 x ++ KQ (zs.map q3)))).length + 2 * (zs.length + 1) ≤ _
  simp only [List.length_cons, List.length_append]
  omega
 ·simp only [List.length_cons]; omega
 ·simp only [List.map_cons, List.flatten_cons, List.length_append]; omega
theorem aCw {P : PF} {g : Nat} (hP : SO Any P CU) : ∀ (f : Nat) (t : List Nat) (ks : List Node), SO Any (dW P g f t ks) (fun d y n => ∃ zs, y = aK (t ++ (zs.map Prod.fst).flatten) (ks ++ zs.map Prod.snd) ∧ KZ d zs n)
 | 0, t, ks => fun st y st' _ h => by cases h
 | f + 1, t, ks => by
  show SO Any (fun st => (dU st 2 []).bind fun c => if c then (aV st).bind fun r => if t.length + r.1.text.length ≤ bQ then
   (P r.2).bind fun q => (bZ g q.1 q.2).bind fun u => (bU P g g u.1 u.2).bind fun w => dW P g f (t ++ r.1.text) (ks ++ [w.1]) w.2 else none
   else some (aK t ks, st)) _
  refine cAp ((bZh (fun r st => if t.length + r.text.length ≤ bQ then
   (P st).bind fun q => (bZ g q.1 q.2).bind fun u => (bU P g g u.1 u.2).bind fun w => dW P g f (t ++ r.text) (ks ++ [w.1]) w.2 else none) dD (E := fun r d y n => ∃ x a b, a + b = n ∧ CB d x a ∧ ∃ zs, y = aK (t ++ r.text ++ (zs.map Prod.fst).flatten) (ks ++ [x] ++ zs.map Prod.snd) ∧ KZ d zs b) (fun r => ?_)).mono ?_) ((SO.ret _).mono ?_)
  ·by_cases hl : t.length + r.text.length ≤ bQ
   ·have := bZh (fun w st => dW P g f (t ++ r.text) (ks ++ [w]) st) (aMo (g := g) hP) fun w => aCw hP f (t ++ r.text) (ks ++ [w])
    intro st y st' hp he h0
    refine this st y st' hp ?_ h0
    have he : (if t.length + r.text.length ≤ bQ then (P st).bind fun q => (bZ g q.1 q.2).bind fun u => (bU P g g u.1 u.2).bind fun w => dW P g f (t ++ r.text) (ks ++ [w.1]) w.2 else none) = some (y, st') := he
    rw [if_pos hl] at he
    rw [← he]
    simp only [Option.bind_assoc]
   ·intro st y st' hp he h0
    have he : (if t.length + r.text.length ≤ bQ then (P st).bind fun q => (bZ g q.1 q.2).bind fun u => (bU P g g u.1 u.2).bind fun w => dW P g f (t ++ r.text) (ks ++ [w.1]) w.2 else none) = some (y, st') := he
    rw [if_neg hl] at he
    cases he
  ·rintro d y n hd hn ⟨r, a, b, rfl, ⟨⟨hk, _⟩, hv, rfl⟩, x, a2, b2, rfl, hx, zs, rfl, hz⟩
   obtain ⟨k1, k2, k3, k4, k5⟩ := rK hv hk (by decide) (by decide)
   exact ⟨(r.text, x) :: zs, by simp, hz.cons k1 k4 k5 hx⟩
  ·rintro d y n hd hn ⟨rfl, rfl⟩
   exact ⟨[], by simp, KZ.nil⟩
theorem SO.pick {α : Type} {P : PSt → Prop} {F : PSt → Option (α × PSt)} {C D : Nat → α → Nat → Prop} (h : SO P F C) (k : ∀ st x st', P st → F st = some (x, st') → st'.err = 0 → ∀ d n, C d x n → D d x n) : SO P F D := fun st x st' hp he h0 => by
 obtain ⟨a, b⟩ := h st x st' hp he h0
 refine ⟨a, fun d m S => ?_⟩
 obtain ⟨n, m', e, S', c⟩ := b d m S
 exact ⟨n, m', e, S', k st x st' hp he h0 d n c⟩
theorem tR {P : PF} {g : Nat} : ∀ (f : Nat) (t : List Nat) (ks : List Node) (st : PSt) (y : Node) (st' : PSt), dW P g f t ks st = some (y, st') → ks.length ≤ y.kids.length
 | 0, t, ks, st, y, st', h => by cases h
 | f + 1, t, ks, st, y, st', h => by
  unfold dW at h
  obtain ⟨c, e1, h⟩ := bC h
  cases c with
  | true =>
   rw [if_pos rfl] at h
   obtain ⟨r, e2, h⟩ := bC h
   split at h
   ·obtain ⟨q, e3, h⟩ := bC h
    obtain ⟨u, e4, h⟩ := bC h
    obtain ⟨w, e5, h⟩ := bC h
    have := tR f _ _ _ y st' h
    simp at this
    omega
   ·cases h
  | false =>
   rw [if_neg (by decide)] at h
   cases h
   exact Nat.le_refl _
theorem wB {P : PF} {g f : Nat} {t : List Nat} {ks : List Node} {st : PSt} {y : Node} {st' : PSt} (h : dW P g f t ks st = some (y, st')) (hk : dU st 2 [] = some true) : ks.length < y.kids.length := by
 cases f with
 | zero => cases h
 | succ f =>
  unfold dW at h
  rw [hk, Option.bind_some, if_pos rfl] at h
  obtain ⟨r, e2, h⟩ := bC h
  split at h
  ·obtain ⟨q, e3, h⟩ := bC h
   obtain ⟨u, e4, h⟩ := bC h
   obtain ⟨w, e5, h⟩ := bC h
   have := tR f _ _ _ y st' h
   simp at this
   omega
  ·cases h
theorem aEo {P : PF} {g : Nat} (hP : SO Any P CU) (x : Node) : SO Any (iU P g x) (fun d y n => (y = x ∧ n = 0) ∨ ∃ zs, zs ≠ [] ∧ y = aK (zs.map Prod.fst).flatten (x :: zs.map Prod.snd) ∧ KZ d zs n) := fun st y st' hp he h0 => by
 unfold iU at he
 obtain ⟨c, e1, he⟩ := bC he
 cases c with
 | true =>
  rw [if_pos rfl] at he
  obtain ⟨a, b⟩ := aCw hP g [] [x] st y st' trivial he h0
  refine ⟨a, fun d m S => ?_⟩
  obtain ⟨n, m', e, S', zs, q1, q2⟩ := b d m S
  refine ⟨n, m', e, S', .inr ⟨zs, ?_, by simpa using q1, q2⟩⟩
  rintro rfl
  have := wB he e1
  rw [q1] at this
  simp [aK, Node.kids] at this
 | false =>
  rw [if_neg (by decide)] at he
  cases he
  exact ⟨h0, fun d m S => ⟨0, m, rfl, S, .inl ⟨rfl, rfl⟩⟩⟩
end Go.Dd

namespace Go.Dd
theorem cBx {α β : Type} {P : PSt → Prop} {F : PSt → Option (α × PSt)} {C : Nat → α → Nat → Prop} {E : α → Nat → β → Nat → Prop} (Q : α → PSt → Prop) (K : α → PSt → Option (β × PSt)) (h : SO P F C) (hq : ∀ st x s1, P st → F st = some (x, s1) → Q x s1) (k : ∀ x, SO (Q x) (K x) (E x)) : SO P (fun st => (F st).bind fun r => K r.1 r.2) (fun d y n => ∃ x a b, a + b = n ∧ C d x a ∧ E x d y b) := fun st y st' hp he h0 => by
 obtain ⟨⟨x, s1⟩, e1, e2⟩ := bC he
 obtain ⟨k1, k2⟩ := k x s1 y st' (hq st x s1 hp e1) e2 h0
 obtain ⟨a1, a2⟩ := h st x s1 hp e1 k1
 refine ⟨a1, fun d m S => ?_⟩
 obtain ⟨n, m', q1, q2, q3⟩ := a2 d m S
 obtain ⟨n2, m2, q4, q5, q6⟩ := k2 d m' q2
 exact ⟨n + n2, m2, by omega, q5, x, n, n2, rfl, q3, q6⟩
theorem SO.look {α : Type} {P : PSt → Prop} {C : Nat → α → Nat → Prop} (K : Tok → PSt → Option (α × PSt)) (h : ∀ t, SO (fun st => P st ∧ bD st 0 = some t) (K t) C) : SO P (fun st => (bD st 0).bind fun t => K t st) C := fun st y st' hp he h0 => by
 obtain ⟨t, e1, e2⟩ := bC he
 exact h t st y st' ⟨hp, e1⟩ e2 h0
theorem cAf {α : Type} {P : PSt → Prop} {F G : PSt → Option (α × PSt)} {C : Nat → α → Nat → Prop} (e : ∀ st, F st = G st) (h : SO P G C) : SO P F C := fun st y st' hp he h0 => h st y st' hp ((e st).symm.trans he) h0
theorem iO {t : Tok} {P : PSt → Prop} : SO (fun st => P st ∧ bD st 0 = some t) aV (fun d u n => u = t ∧ TKV t ∧ n = kE t) :=
 ((take_so (Q := fun u => u = t)).pre fun st h => ⟨t, h.2, rfl⟩).mono fun d u n _ _ h => by
   obtain ⟨rfl, b, c⟩ := h
   exact ⟨rfl, b, c⟩
theorem cBr : ∀ {l : List (List Nat)}, (∀ x ∈ l, AB x) → AB l.flatten
 | [], h => AB.nil
 | x :: l, h => by
  rw [List.flatten_cons]
  exact AB.app (h x (by simp)) (cBr fun y hy => h y (by simp [hy]))
def AC (d : Nat) (t : List Nat) (args : List Node) (n : Nat) : Prop := MsgOk d t args ∧ (aR t (rG args)).length + 2 ≤ n ∧ AB t ∧ t.length ≤ n ∧ args.length ≤ n ∧ ∀ a ∈ args, Sk a ∧ By a
theorem bKr {P : PF} {g : Nat} (hP : SO Any P CU) : SO Any (pA P g) (fun d y n => ∃ t args, gF y = aK t args ∧ AC d t args n) := by
 unfold pA
 refine SO.look (fun t st => if t.kind = 1 then (aV st).bind fun r => some (aK t.text [zN], r.2)
  else if t.kind = 3 then (aV st).bind fun r => (P r.2).bind fun q => (bZ g q.1 q.2).bind fun u => some (aK t.text [zN, u.1], u.2)
  else if t.kind = 2 then iU P g zN st
  else some (zN, bV st t 13)) fun t => ?_
 by_cases h1 : t.kind = 1
 ·refine cAf (fun st => if_pos h1) ((bZh (fun (r : Tok) st => some (aK t.text [zN], st)) (iO (t := t) (P := Any)) fun r => SO.ret _).mono ?_)
  rintro d y n hd hn ⟨r, a, b, rfl, ⟨rfl, hv, rfl⟩, rfl, rfl⟩
  obtain ⟨k1, k2, k3, k4, k5⟩ := rK hv h1 (by decide) (by decide)
  exact ⟨r.text, [], mC _ _ _, .inl ⟨k1, rfl⟩, by rw [bFx k1]; omega, k4, by omega, Nat.zero_le _, fun a ha => by cases ha⟩
 by_cases h3 : t.kind = 3
 ·refine cAf (fun st => (if_neg h1).trans (if_pos h3)) ((bZh (fun (r : Tok) st => (P st).bind fun q => (bZ g q.1 q.2).bind fun u => some (aK t.text [zN, u.1], u.2)) (iO (t := t) (P := Any)) fun r => bZh (fun q st => (bZ g q st).bind fun u => some (aK t.text [zN, u.1], u.2)) hP fun q => bZh (fun u st => some (aK t.text [zN, u], st)) (oT g q) fun u => SO.ret _).mono ?_)
  rintro d y n hd hn ⟨r, a, b, rfl, ⟨rfl, hv, rfl⟩, q, a2, b2, rfl, hq, u, a3, b3, rfl, hu, rfl, rfl⟩
  obtain ⟨k1, k2, k3, k4, k5⟩ := rK hv h3 (by decide) (by decide)
  obtain ⟨q1, q2, q3, q4⟩ := hu a2 hq
  refine ⟨r.text, [u], mC _ _ _, .inr (.inl ⟨k1, u, rfl, q1.u⟩), ?_, k4, by omega, by simp; omega, fun a ha => ?_⟩
  ·rw [bBk k1]
   simp only [List.length_append, List.length_cons]
   omega
  ·have : a = u := by simpa using ha
   rw [this]
   exact ⟨q3, q4⟩
 by_cases h2 : t.kind = 2
 ·refine cAf (fun st => (if_neg h1).trans ((if_neg h3).trans (if_pos h2))) ((SO.pick ((aEo (g := g) hP zN).pre (P' := fun st => Any st ∧ bD st 0 = some t) fun _ _ => trivial) (D := fun d y n => ∃ zs, zs ≠ [] ∧ y = aK (zs.map Prod.fst).flatten (zN :: zs.map Prod.snd) ∧ KZ d zs n) ?_).mono ?_)
  ·intro st y st' hp he h0 d n hc
   rcases hc with ⟨rfl, _⟩ | hc
   ·exfalso
    unfold iU at he
    obtain ⟨c, e1, he⟩ := bC he
    cases c with
    | true =>
     rw [if_pos rfl] at he
     have := wB he e1
     simp [zN, Node.kids] at this
    | false =>
     rw [if_neg (by decide)] at he
     cases he
     exact wM e1 h0 ⟨t, hp.2, h2, fun h => absurd rfl h⟩
   ·exact hc
  ·rintro d y n hd hn ⟨zs, hne, rfl, hz1, hz2, hz3, hz4⟩
   refine ⟨_, _, mC _ _ _, .inr (.inr ⟨zs, hne, rfl, rfl, fun z hz => (hz1 z hz).1⟩), ?_, ?_, hz4, by simpa using hz3, fun a ha => ?_⟩
   ·have := congrArg List.length (bGg (fun z hz => (hz1 z hz).1.1) hne)
    simp only [List.length_cons] at this
    have : 1 ≤ zs.length := by
     cases zs with
     | nil => exact absurd rfl hne
     | cons a b => simp
    omega
   ·exact cBr fun p hp => by
     obtain ⟨z, hz, rfl⟩ := List.mem_map.1 hp
     exact (hz1 z hz).2.1
   ·obtain ⟨z, hz, rfl⟩ := List.mem_map.1 ha
    exact (hz1 z hz).2.2
 ·exact cAf (fun st => (if_neg h1).trans ((if_neg h3).trans (if_neg h2))) (cBj (by decide) _)
def MZ (d : Nat) (ms : List (List Nat × List Node)) (n : Nat) : Prop := (∀ m ∈ ms, MsgOk d m.1 m.2 ∧ AB m.1 ∧ m.1.length ≤ 100000 ∧ m.2.length ≤ 100000 ∧ ∀ a ∈ m.2, Sk a ∧ By a) ∧ (FQ (ms.map fun m => (aK m.1 m.2, aR m.1 (rG m.2)))).length ≤ n ∧ ms.length ≤ n
theorem aOt {P : PF} {g : Nat} (hP : SO Any P CU) : ∀ (f : Nat) (ks : List Node), SO Any (kL P g f ks) (fun d y n => ∃ ms, y = .mk 8 [] 0 [] [] (ks ++ ms.map fun m => aK m.1 m.2) ∧ MZ d ms n)
 | 0, ks => fun st y st' _ h => by cases h
 | f + 1, ks => by
  show SO Any (fun st => (dU st 10 [59]).bind fun c => if c then (aV st).bind fun r => (pA P g r.2).bind fun q => kL P g f (ks ++ [gF q.1]) q.2 else some (.mk 8 [] 0 [] [] ks, st)) _
  refine cAp ((bZh (fun (t : Tok) st => (pA P g st).bind fun q => kL P g f (ks ++ [gF q.1]) q.2) dD (fun t => bZh (fun q st => kL P g f (ks ++ [gF q]) st) (bKr hP) fun q => aOt hP f (ks ++ [gF q]))).mono ?_) ((SO.ret _).mono ?_)
  ·rintro d y n hd hn ⟨t, a, b, rfl, ⟨⟨hk, _⟩, hv, rfl⟩, q, a2, b2, rfl, ⟨t2, args, e2, m1, m2, m3, m4, m5, m6⟩, ms, rfl, z1, z2, z3⟩
   obtain ⟨k1, k2, k3, k4, k5⟩ := rK hv hk (by decide) (by decide)
   refine ⟨(t2, args) :: ms, by simp [e2], fun m hm => ?_, ?_, ?_⟩
   ·rcases List.mem_cons.1 hm with rfl | hm
    ·exact ⟨m1, m3, by show t2.length ≤ _; omega, by show args.length ≤ _; omega, m6⟩
    ·exact z1 m hm
   ·show (59 :: 32 :: (aR t2 (rG args) ++ FQ _)).length ≤ _
    simp only [List.length_cons, List.length_append]
    omega
   ·simp only [List.length_cons]
    omega
  ·rintro d y n hd hn ⟨rfl, rfl⟩
   exact ⟨[], by simp, fun m hm => (by cases hm), Nat.le_refl _, Nat.le_refl _⟩
theorem xH {P : PF} {g : Nat} : ∀ (f : Nat) (ks : List Node) (st : PSt) (y : Node) (st' : PSt), kL P g f ks st = some (y, st') → ks.length ≤ y.kids.length
 | 0, ks, st, y, st', h => by cases h
 | f + 1, ks, st, y, st', h => by
  unfold kL at h
  obtain ⟨c, e1, h⟩ := bC h
  cases c with
  | true =>
   rw [if_pos rfl] at h
   obtain ⟨r, e2, h⟩ := bC h
   obtain ⟨q, e3, h⟩ := bC h
   have := xH f _ _ y st' h
   simp at this
   omega
  | false =>
   rw [if_neg (by decide)] at h
   cases h
   exact Nat.le_refl _
theorem aQk {P : PF} {g f : Nat} {ks : List Node} {st : PSt} {y : Node} {st' : PSt} (h : kL P g f ks st = some (y, st')) (hk : dU st 10 [59] = some true) : ks.length < y.kids.length := by
 cases f with
 | zero => cases h
 | succ f =>
  unfold kL at h
  rw [hk, Option.bind_some, if_pos rfl] at h
  obtain ⟨r, e2, h⟩ := bC h
  obtain ⟨q, e3, h⟩ := bC h
  have := xH f _ _ y st' h
  simp at this
  omega
theorem bGv {d : Nat} {w : Node} {a n : Nat} {zs : List (List Nat × Node)} (hw : CB d w a) (hne : zs ≠ []) (hz : KZ d zs n) (hn : a + n ≤ 100000) : CE d (aK (zs.map Prod.fst).flatten (w :: zs.map Prod.snd)) (a + n) := by
 obtain ⟨z1, z2, z3, z4⟩ := hz
 obtain ⟨w1, w2, w3, w4⟩ := hw
 obtain ⟨g1, g2, _⟩ := GG.keys w1 hne fun z h => (z1 z h).1
 refine ⟨g1, ?_, rP (by omega) (by simp; omega) fun x hx => ?_, rY (cBr fun p hp => ?_) fun x hx => ?_⟩
 ·rw [g2, List.length_append]
  omega
 ·rcases List.mem_cons.1 hx with rfl | hx
  ·exact w3
  ·obtain ⟨z, hz, rfl⟩ := List.mem_map.1 hx
   exact (z1 z hz).2.2.1
 ·obtain ⟨z, hz, rfl⟩ := List.mem_map.1 hp
  exact (z1 z hz).2.1
 ·rcases List.mem_cons.1 hx with rfl | hx
  ·exact w4
  ·obtain ⟨z, hz, rfl⟩ := List.mem_map.1 hx
   exact (z1 z hz).2.2.2
theorem bLo {f : Nat} (hP : SO Any (PP f) CU) : SO Any (FK f) CE := by
 have := bZh (fun w st => iU (PP f) f w st) (aMo (g := f) hP) fun w => aEo (g := f) hP w
 refine cAf (fun st => ?_) (this.mono ?_)
 ·unfold FK FB FU
  simp only [Option.bind_assoc]
 ·rintro d y n hd hn ⟨w, a, b, rfl, hw, ⟨rfl, rfl⟩ | ⟨zs, hne, rfl, hz⟩⟩
  ·exact hw.ce
  ·exact bGv hw hne hz hn
theorem vF {f : Nat} (hP : SO Any (PP f) CU) : SO Any (gZ (PP f) f) CE := by
 refine cAf (nR f) ?_
 refine SO.mono (bZh (fun (x : Node) st => (dU st 10 [59]).bind fun c => if c then
  if x.kind = 7 then (x.kids[0]?).bind fun k0 => kL (PP f) f f [k0, gF x] st
  else (bD st 0).bind fun t => some (x, bV st t 13)
  else some (x, st)) (E := fun x d y n => ∀ a, a + n ≤ 100000 → CE d x a → CE d y (a + n)) (bLo hP) fun x => ?_) ?_
 ·refine cAp ?_ ((SO.ret x).mono ?_)
  ·by_cases h7 : x.kind = 7
   ·refine cAf (fun st => if_pos h7) ?_
    intro st y st' hp he h0
    obtain ⟨k0, e1, e2⟩ := bC he
    obtain ⟨q1, q2⟩ := aOt hP f [k0, gF x] st y st' trivial e2 h0
    have hi : dU st 10 [59] = some true := by
     obtain ⟨t, t1, t2, t3⟩ := hp.2
     unfold dU
     rw [t1, Option.bind_some, q1, t2, t3 (by decide)]
     simp
    have hgrow := aQk e2 hi
    refine ⟨q1, fun d m S => ?_⟩
    obtain ⟨n, m', q3, q4, ms, rfl, z1, z2, z3⟩ := q2 d m S
    refine ⟨n, m', q3, q4, fun a ha ⟨x1, x2, x3, x4⟩ => ?_⟩
    obtain ⟨t, k1, args, rfl, s2, s3, s4⟩ := x1.s h7
    have ek : k1 = k0 := by simpa [aJ, aK, Node.kids] using e1
    subst ek
    have hne : ms ≠ [] := by
     rintro rfl
     simp [Node.kids] at hgrow
    obtain ⟨g1, g2⟩ := GG.cascade (ms := ms) s2 s3 s4 (fun m hm => (z1 m hm).1) hne
    obtain ⟨b1, _, _, b4, b5, b6⟩ := x3
    obtain ⟨c1, _, _, c4, c5⟩ := x4
    have e3 : [k1, gF (aK t (k1 :: args))] ++ ms.map (fun m => aK m.1 m.2) = k1 :: aK t args :: ms.map fun m => aK m.1 m.2 := by rw [mC]; rfl
    rw [e3]
    refine ⟨g1, by rw [g2, List.length_append]; omega, ⟨by simp, by omega, by omega, ?_, b5, ?_⟩, ⟨AB.nil, fun x hx => (by cases hx), fun x hx => (by cases hx), c4, ?_⟩⟩
    ·simp only [List.length_cons, List.length_map]
     unfold bQ
     omega
    ·refine ⟨⟨b1, by omega, by omega, ?_, b6⟩, oD fun x hx => ?_⟩
     ·simp only [List.length_cons] at b4
      omega
     ·obtain ⟨m, hm, rfl⟩ := List.mem_map.1 hx
      obtain ⟨_, m2, m3, m4, m5⟩ := z1 m hm
      exact rP m3 (by omega) fun a ha => (m5 a ha).1
    ·refine ⟨⟨c1, fun x hx => (by cases hx), fun x hx => (by cases hx), c5⟩, nS fun x hx => ?_⟩
     obtain ⟨m, hm, rfl⟩ := List.mem_map.1 hx
     obtain ⟨_, m2, m3, m4, m5⟩ := z1 m hm
     exact rY m2 fun a ha => (m5 a ha).2
   ·refine cAf (fun st => if_neg h7) ?_
    refine SO.look (fun t st => some (x, bV st t 13)) fun t => cBj (by decide) x
  ·rintro d y n hd hn ⟨rfl, rfl⟩ a _ h
   exact h
 ·rintro d y n hd hn ⟨x, a, b, rfl, hx, H⟩
  exact H a hn hx
end Go.Dd

namespace Go.Dd
theorem xI {st s1 : PSt} {t t2 : Tok} (h : aV st = some (t, s1)) (h0 : t.kind ≠ 0) (h1 : bD st 1 = some t2) : bD s1 0 = some t2 := by
 unfold aV at h
 obtain ⟨u, e1, h⟩ := bC h
 by_cases hk : u.kind = 0
 ·rw [if_pos hk] at h
  cases h
  exact absurd hk h0
 ·rw [if_neg hk] at h
  by_cases h2 : 2 ≤ st.toks.length
  ·rw [if_pos h2] at h
   cases h
   unfold bD at h1 ⊢
   have e : min 1 (st.toks.length - 1) = 1 := by omega
   rw [e] at h1
   simpa using h1
  ·rw [if_neg h2] at h
   cases h
theorem uT {st s1 : PSt} {t : Tok} (h : aV st = some (t, s1)) : s1.err = st.err ∧ bD st 0 = some t := by
 unfold aV at h
 obtain ⟨u, e1, h⟩ := bC h
 split at h
 ·cases h
  exact ⟨rfl, e1⟩
 ·split at h
  ·cases h
   exact ⟨rfl, e1⟩
  ·cases h
def CL (x : Node) (n : Nat) : Prop := (∀ e, RdL e x (fE x)) ∧ nht x = 0 ∧ x.kind ≠ 7 ∧ (fE x).length + 2 ≤ n ∧ Sk x ∧ By x
theorem SO.err {α : Type} {P : PSt → Prop} {F : PSt → Option (α × PSt)} {x : α} {C : Nat → α → Nat → Prop} : SO (fun st => P st ∧ st.err ≠ 0) (fun st => some (x, st)) C := fun st y st' hp he h0 => by
 cases he
 exact absurd h0 hp.2
theorem SO.ok {α : Type} {P : PSt → Prop} {F G : PSt → Option (α × PSt)} {C : Nat → α → Nat → Prop} (h : SO (fun st => P st ∧ st.err = 0) F C) (g : SO (fun st => P st ∧ st.err ≠ 0) G C) : SO P (fun st => if st.err = 0 then F st else G st) C := fun st y st' hp he h0 => by
 by_cases h1 : st.err = 0
 ·have he : (if st.err = 0 then F st else G st) = some (y, st') := he
  rw [if_pos h1] at he
  exact h st y st' ⟨hp, h1⟩ he h0
 ·have he : (if st.err = 0 then F st else G st) = some (y, st') := he
  rw [if_neg h1] at he
  exact g st y st' ⟨hp, h1⟩ he h0
theorem plain_so : SO Any eD (fun d r n => (r.2 = true ∧ CL r.1 n) ∨ (r.2 = false ∧ n = 0)) := by
 unfold eD
 refine SO.look (fun t st => if st.err = 0 then (qR st).bind fun c =>
  if c then (aV st).bind fun r => (aV r.2).bind fun q => some ((Node.mk 1 [] (kC (0 - q.1.num)) [] [] [], true), q.2)
  else if t.kind = 4 then (aV st).bind fun r => some ((Node.mk 1 t.text t.num [] [] [], true), r.2)
  else if t.kind = 5 then (aV st).bind fun r => some ((Node.mk 2 t.text t.num [] [] [], true), r.2)
  else if t.kind = 6 then (aV st).bind fun r => some ((Node.mk 3 t.text t.num [] [] [], true), r.2)
  else some ((Node.mk 0 t.text t.num [] [] [], false), st)
  else some ((Node.mk 0 t.text t.num [] [] [], false), st)) fun t => ?_
 refine SO.ok ?_ (SO.err (F := eD))
 intro st y st' hp he h0
 obtain ⟨c, e1, he⟩ := bC he
 obtain ⟨⟨_, ht⟩, herr⟩ := hp
 cases c with
 | true =>
  have hn : ∃ t2, bD st 1 = some t2 ∧ t2.kind = 4 ∧ Hk 3 [45] st := by
   unfold qR at e1
   obtain ⟨t2, l1, e1⟩ := bC e1
   obtain ⟨c, l2, e1⟩ := bC e1
   obtain ⟨u, l3, e1⟩ := bC e1
   simp at e1
   refine ⟨t2, l1, e1.1.2, ?_⟩
   rw [e1.1.1] at l2
   exact (kI l2).2
  obtain ⟨t2, l1, l2, l3⟩ := hn
  have := cBx (P := fun s => Any s ∧ Hk 3 [45] s ∧ bD s 1 = some t2) (fun _ s => Any s ∧ bD s 0 = some t2) (fun (_ : Tok) s => (aV s).bind fun q => some (((Node.mk 1 [] (kC (0 - q.1.num)) [] [] [] : Node), true), q.2)) ((dD (P := Any) (k := 3) (x := [45])).pre fun s h => ⟨trivial, h.2.1⟩) (fun s x s1 h1 h2 => by
   obtain ⟨a, b, c⟩ := h1
   obtain ⟨u, u1, u2, _⟩ := b
   have := (uT h2).2
   rw [u1] at this
   cases this
   exact ⟨trivial, xI h2 (by omega) c⟩) (fun x => bZh (fun (q : Tok) s => some (((Node.mk 1 [] (kC (0 - q.num)) [] [] [] : Node), true), s)) iO fun q => SO.ret _)
  obtain ⟨q1, q2⟩ := this st y st' ⟨trivial, l3, l1⟩ he h0
  refine ⟨q1, fun d m S => ?_⟩
  obtain ⟨n, m', r1, r2, t1, a, b, rfl, ⟨⟨hk1, hx⟩, hv, rfl⟩, u, a2, b2, rfl, ⟨rfl, hv2, rfl⟩, rfl, rfl⟩ := q2 d m S
  refine ⟨_, m', r1, r2, .inl ⟨rfl, ?_⟩⟩
  obtain ⟨k1, k2, k3, k4, k5⟩ := rK hv hk1 (by decide) (by decide)
  have k6 := hx (by decide)
  rw [k6] at k2
  have k7 : kE t1 = 3 := k2
  obtain ⟨_, hv2⟩ := hv2
  rcases hv2 with hv2 | ⟨_, _, k, hk, hle⟩ | hv2
  ·omega
  ·have hw : kE u = (dg k).length + 2 := by
    unfold kE
    rw [if_neg (by omega), if_pos l2, hk]
    rfl
   rw [hk, k7, hw]
   have hlen : (fN (kC (0 - (k : Int)))).length ≤ (dg k).length + 1 := by
    cases k with
    | zero => decide
    | succ k =>
     have e : kC (0 - ((k + 1 : Nat) : Int)) = -((k + 1 : Nat) : Int) := by
      unfold kC
      rw [gV _ (by omega) (by omega)]
      omega
     rw [e, aCy]
     simp
   have hr : -9223372036854775808 ≤ kC (0 - (k : Int)) ∧ kC (0 - (k : Int)) ≤ 9223372036854775807 := by
    unfold kC
    rw [gV _ (by omega) (by omega)]
    omega
   exact ⟨fun e => bOt hle, rfl, by show (1 : Int) ≠ 7; decide, by show (fN _).length + 2 ≤ _; omega, ⟨by simp, hr.1, hr.2, by unfold bQ; simp, trivial⟩, ⟨AB.nil, fun x hx => (by cases hx), fun x hx => (by cases hx), trivial⟩⟩
  ·exact absurd l2 hv2.2.1
 | false =>
  rw [if_neg (by decide)] at he
  by_cases h4 : t.kind = 4
  ·rw [if_pos h4] at he
   have := bZh (fun (_ : Tok) s => some (((Node.mk 1 t.text t.num [] [] [] : Node), true), s)) (iO (t := t) (P := Any)) fun q => SO.ret _
   obtain ⟨q1, q2⟩ := this st y st' ⟨trivial, ht⟩ he h0
   refine ⟨q1, fun d m S => ?_⟩
   obtain ⟨n, m', r1, r2, t1, a, b, rfl, ⟨rfl, hv, rfl⟩, rfl, rfl⟩ := q2 d m S
   refine ⟨_, m', r1, r2, .inl ⟨rfl, ?_⟩⟩
   obtain ⟨_, hv2⟩ := hv
   rcases hv2 with hv2 | ⟨_, hx, k, hk, hle⟩ | hv2
   ·omega
   ·have hw : kE t1 = (dg k).length + 2 := by
     unfold kE
     rw [if_neg (by omega), if_pos h4, hk]
     rfl
    rw [hk, hw, hx]
    exact ⟨fun e => aTx hle, rfl, by show (1 : Int) ≠ 7; decide, Nat.le_refl _, ⟨by simp, by omega, by omega, by unfold bQ; simp, trivial⟩, ⟨AB.nil, fun x hx => (by cases hx), fun x hx => (by cases hx), trivial⟩⟩
   ·exact absurd h4 hv2.2.1
  rw [if_neg h4] at he
  by_cases h5 : t.kind = 5
  ·rw [if_pos h5] at he
   have := bZh (fun (_ : Tok) s => some (((Node.mk 2 t.text t.num [] [] [] : Node), true), s)) (iO (t := t) (P := Any)) fun q => SO.ret _
   obtain ⟨q1, q2⟩ := this st y st' ⟨trivial, ht⟩ he h0
   refine ⟨q1, fun d m S => ?_⟩
   have hm := S.2.2.2.2.2
   obtain ⟨n, m', r1, r2, t1, a, b, rfl, ⟨rfl, hv, rfl⟩, rfl, rfl⟩ := q2 d m S
   refine ⟨_, m', r1, r2, .inl ⟨rfl, ?_⟩⟩
   obtain ⟨k1, k2, k3, k4, k5⟩ := rK hv h5 (by decide) (by decide)
   rw [k3]
   exact ⟨fun e => bMp k1, rfl, by show (2 : Int) ≠ 7; decide, by rw [k2]; exact Nat.le_refl _, ⟨by omega, by omega, by omega, by unfold bQ; simp, trivial⟩, ⟨k4, fun x hx => (by cases hx), fun x hx => (by cases hx), trivial⟩⟩
  rw [if_neg h5] at he
  by_cases h6 : t.kind = 6
  ·rw [if_pos h6] at he
   have := bZh (fun (_ : Tok) s => some (((Node.mk 3 t.text t.num [] [] [] : Node), true), s)) (iO (t := t) (P := Any)) fun q => SO.ret _
   obtain ⟨q1, q2⟩ := this st y st' ⟨trivial, ht⟩ he h0
   refine ⟨q1, fun d m S => ?_⟩
   have hm := S.2.2.2.2.2
   obtain ⟨n, m', r1, r2, t1, a, b, rfl, ⟨rfl, hv, rfl⟩, rfl, rfl⟩ := q2 d m S
   refine ⟨_, m', r1, r2, .inl ⟨rfl, ?_⟩⟩
   obtain ⟨k1, k2, k3, k4, k5⟩ := rK hv h6 (by decide) (by decide)
   rw [k3]
   exact ⟨fun e => bNm k1, rfl, by show (3 : Int) ≠ 7; decide, by rw [k2]; exact Nat.le_refl _, ⟨by omega, by omega, by omega, by unfold bQ; simp, trivial⟩, ⟨k4, fun x hx => (by cases hx), fun x hx => (by cases hx), trivial⟩⟩
  rw [if_neg h6] at he
  cases he
  exact ⟨h0, fun d m S => ⟨0, m, rfl, S, .inr ⟨rfl, rfl⟩⟩⟩
theorem nB {F : PF} {P : PSt → Prop} {k : Int} {tx : List Nat} {C : Nat → Node → Nat → Prop} (h : SO Any F C) : SO (fun st => P st ∧ Hk k tx st) (cQ F) (fun d x n => d < 20 ∧ ∃ t a, (t.kind = k ∧ (tx ≠ [] → t.text = tx)) ∧ TKV t ∧ n = kE t + a ∧ C (d + 1) x a) := fun st y st' hp he h0 => by
 unfold cQ at he
 obtain ⟨⟨t, s1⟩, e1, he⟩ := bC he
 by_cases h20 : s1.deep = 20
 ·have he : (if s1.deep = 20 then some (zN, bV s1 t 14) else _) = some (y, st') := he
  rw [if_pos h20] at he
  exfalso
  exact (cBj (P := Any) (C := fun _ _ _ => True) (t := t) (e := 14) (by decide) zN s1 y st' trivial he h0).2 |> fun _ => by
   cases he
   unfold bV at h0
   split at h0
   ·cases h0
   ·exact absurd h0 (by assumption)
 ·have he : (if s1.deep = 20 then some (zN, bV s1 t 14) else (F { s1 with deep := kC (s1.deep + 1) }).bind fun q => some (q.1, { q.2 with deep := kC (q.2.deep - 1) })) = some (y, st') := he
  rw [if_neg h20] at he
  obtain ⟨⟨x, s2⟩, e2, he⟩ := bC he
  cases he
  have h0 : s2.err = 0 := h0
  obtain ⟨a1, a2⟩ := h _ x s2 trivial e2 h0
  obtain ⟨b1, b2⟩ := dD (P := P) st t s1 hp e1 a1
  refine ⟨b1, fun d m S => ?_⟩
  obtain ⟨n, m', c1, ⟨c2, c3, c4, c5, c6, c7⟩, c8, c9, rfl⟩ := b2 d m S
  have hd : d < 20 := by
   apply Decidable.byContradiction
   intro hc
   have : d = 20 := by omega
   rw [c3, this] at h20
   exact h20 rfl
  have S2 : Sst { s1 with deep := kC (s1.deep + 1) } (d + 1) m' := ⟨c2, by show kC (s1.deep + 1) = _; rw [c3, bUz (by omega)], by omega, c5, c6, c7⟩
  obtain ⟨n2, m2, d1, ⟨d2, d3, d4, d5, d6, d7⟩, d8⟩ := a2 (d + 1) m' S2
  exact ⟨kE t + n2, m2, by omega, ⟨d2, by show kC (s2.deep - 1) = _; rw [d3, bTg (by omega)], by omega, d5, d6, d7⟩, hd, t, n2, c8, c9, rfl, d8⟩
end Go.Dd

namespace Go.Dd
def LZ (d : Nat) (es : List Node) (n : Nat) : Prop := (∀ x ∈ es, (∀ e, e ≤ d → RdA e x (fE x)) ∧ Sk x ∧ By x) ∧ cN (es.map fE) + 2 * es.length ≤ n
def CLs (d : Nat) (x : Node) (n : Nat) : Prop := ∃ es k, x = .mk 4 [] 0 [] [] es ∧ LZ d es k ∧ k + 3 = n
theorem aFh (es : List Node) : fE (.mk 4 [] 0 [] [] es) = 35 :: 40 :: (aF [32] (es.map fE) ++ [41]) := by
 show vT 4 [] 0 [] [] (qH es) = _
 unfold vT
 rw [aZl]
 rfl
theorem aTe {d : Nat} {es : List Node} {n : Nat} (hd : d < 20) (h : LZ (d + 1) es n) (hn : n ≤ 100000) : (∀ e, e ≤ d → RdA e (.mk 4 [] 0 [] [] es) (fE (.mk 4 [] 0 [] [] es))) ∧ (∀ e, e ≤ d → RdP e (.mk 4 [] 0 [] [] es) (fE (.mk 4 [] 0 [] [] es))) ∧ (fE (.mk 4 [] 0 [] [] es)).length ≤ n + 3 ∧ Sk (.mk 4 [] 0 [] [] es) ∧ By (.mk 4 [] 0 [] [] es) := by
 obtain ⟨h1, h2⟩ := h
 have e1 : (es.map fun x => (x, fE x)).map Prod.fst = es := by rw [List.map_map]; exact List.map_id es
 have e2 : (es.map fun x => (x, fE x)).map Prod.snd = es.map fE := by rw [List.map_map]; rfl
 have hk : ∀ e, e ≤ d → ∀ z ∈ (es.map fun x => (x, fE x)), RdA (e + 1) z.1 z.2 := fun e he z hz => by
  obtain ⟨x, hx, rfl⟩ := List.mem_map.1 hz
  exact (h1 x hx).1 (e + 1) (by omega)
 refine ⟨fun e he => ?_, fun e he => ?_, ?_, ?_, ?_⟩
 ·have := bAf (d := e) (by omega) (hk e he)
  rw [e1, e2, ← aFh] at this
  exact this
 ·have := bAk (d := e) (by omega) (hk e he)
  rw [e1, e2, ← aFh] at this
  exact this
 ·rw [aFh]
  have := kT [32] (es.map fE)
  simp only [List.length_map, List.length_cons, List.length_nil, List.length_append] at this ⊢
  omega
 ·exact ⟨by simp, by omega, by omega, by unfold bQ; omega, oD fun x hx => (h1 x hx).2.1⟩
 ·exact ⟨AB.nil, fun x hx => (by cases hx), fun x hx => (by cases hx), nS fun x hx => (h1 x hx).2.2⟩
theorem LZ.cons {d : Nat} {x : Node} {es : List Node} {a n : Nat} (h : LZ d es n) (h1 : ∀ e, e ≤ d → RdA e x (fE x)) (h2 : (fE x).length + 2 ≤ a) (h3 : Sk x) (h4 : By x) : LZ d (x :: es) (a + n) := by
 obtain ⟨q1, q2⟩ := h
 refine ⟨fun y hy => ?_, ?_⟩
 ·rcases List.mem_cons.1 hy with rfl | hy
  ·exact ⟨h1, h3, h4⟩
  ·exact q1 y hy
 ·show cN (fE x :: es.map fE) + 2 * (es.length + 1) ≤ _
  have : cN (fE x :: es.map fE) = (fE x).length + cN (es.map fE) := by simp [cN]
  omega
theorem pF {t : Tok} {c : Nat} (hv : TKV t) (h : t.kind = 10) (hx : t.text = [c]) : kE t = 3 := by
 obtain ⟨_, h2, _⟩ := rK hv h (by decide) (by decide)
 rw [h2, hx]
 rfl
theorem sB {LI : PF} (hL : SO Any LI CLs) : ∀ (f : Nat) (xs : List Node), SO Any (dI LI f xs) (fun d ys n => ∃ es, ys = xs ++ es ∧ LZ d es n)
 | 0, xs => fun st y st' _ h => by cases h
 | f + 1, xs => by
  show SO Any (fun st => if st.err = 0 then (dU st 10 [41]).bind fun c => if c then some (xs, st) else
   (eD st).bind fun r => if r.1.2 then dI LI f (xs ++ [r.1.1]) r.2 else
    (dU r.2 7 []).bind fun c1 => (if c1 then some true else dU r.2 10 [40]).bind fun c2 =>
     if c2 then (cQ LI r.2).bind fun q => dI LI f (xs ++ [q.1]) q.2 else (bD r.2 0).bind fun t => dI LI f (xs ++ [r.1.1]) (bV r.2 t 13)
   else some (xs, st)) _
  refine SO.ok (cAp ((SO.ret xs).mono ?_) (SO.mono (bZh (fun (r : Node × Bool) st => if r.2 then dI LI f (xs ++ [r.1]) st else
   (dU st 7 []).bind fun c1 => (if c1 then some true else dU st 10 [40]).bind fun c2 =>
    if c2 then (cQ LI st).bind fun q => dI LI f (xs ++ [q.1]) q.2 else (bD st 0).bind fun t => dI LI f (xs ++ [r.1]) (bV st t 13)) (E := fun r d ys n => (r.2 = true ∧ ∃ es, ys = xs ++ [r.1] ++ es ∧ LZ d es n) ∨ (r.2 = false ∧ ∃ es, ys = xs ++ es ∧ LZ d es n)) (plain_so.pre fun _ _ => trivial) fun r => ?_) ?_)) (SO.err (F := dI LI f xs))
  ·rintro d y n hd hn ⟨rfl, rfl⟩
   exact ⟨[], by simp, fun x hx => (by cases hx), Nat.le_refl _⟩
  ·obtain ⟨x, b⟩ := r
   cases b with
   | true =>
    refine SO.mono (sB hL f (xs ++ [x])) fun d y n hd hn h => .inl ⟨rfl, h⟩
   | false =>
    have key : ∀ (k : Int) (tx : List Nat), (k = 7 ∧ tx = [] ∨ k = 10 ∧ tx = [40]) → SO (fun s => Any s ∧ Hk k tx s) (fun st => (cQ LI st).bind fun q => dI LI f (xs ++ [q.1]) q.2) (fun d ys n => ∃ es, ys = xs ++ es ∧ LZ d es n) := fun k tx hk => by
     refine SO.mono (bZh (fun q st => dI LI f (xs ++ [q]) st) (nB hL) fun q => sB hL f (xs ++ [q])) ?_
     rintro d y n hd hn ⟨q, a, b, rfl, ⟨h20, t, a2, ⟨ht, htx⟩, hv, rfl, es, m, rfl, hz, rfl⟩, es2, rfl, hz2⟩
     have hw : 3 ≤ kE t := by
      rcases hk with ⟨rfl, rfl⟩ | ⟨rfl, rfl⟩
      ·obtain ⟨k1, k2, _⟩ := rK hv ht (by decide) (by decide)
       have : (bI 7 t.text).length = 2 := rfl
       omega
      ·rw [pF hv ht (htx (by decide))]
       exact Nat.le_refl _
     obtain ⟨p1, p2, p3, p4, p5⟩ := aTe h20 hz (by omega)
     exact ⟨_ :: es2, by simp, hz2.cons p1 (by omega) p4 p5⟩
    refine SO.mono (C := fun d ys n => ∃ es, ys = xs ++ es ∧ LZ d es n) ?_ fun d y n hd hn h => .inr ⟨rfl, h⟩
    intro st y st' hp he h0
    obtain ⟨c1, e1, he⟩ := bC he
    cases c1 with
    | true =>
     rw [if_pos rfl, Option.bind_some, if_pos rfl] at he
     exact key 7 [] (.inl ⟨rfl, rfl⟩) st y st' ⟨trivial, (kI e1).2⟩ he h0
    | false =>
     rw [if_neg (by decide)] at he
     obtain ⟨c2, e2, h2⟩ := bC he
     cases c2 with
     | true =>
      rw [if_pos rfl] at h2
      exact key 10 [40] (.inr ⟨rfl, rfl⟩) st y st' ⟨trivial, (kI e2).2⟩ h2 h0
     | false =>
      rw [if_neg (by decide)] at h2
      obtain ⟨t, _, h3⟩ := bC h2
      have := (sB hL f _ _ y st' trivial h3 h0).1
      exfalso
      unfold bV at this
      split at this
      ·cases this
      ·exact absurd this (by assumption)
  ·rintro d y n hd hn ⟨r, a, b, rfl, h1, h2⟩
   rcases h2 with ⟨hr, es, rfl, hz⟩ | ⟨hr, es, rfl, hz⟩
   ·rcases h1 with ⟨_, c1, c2, c3, c4, c5, c6⟩ | ⟨h1, _⟩
    ·exact ⟨r.1 :: es, by simp, hz.cons (fun e _ => (c1 e).a) c4 c5 c6⟩
    ·rw [hr] at h1; cases h1
   ·rcases h1 with ⟨h1, _⟩ | ⟨_, rfl⟩
    ·rw [hr] at h1; cases h1
    ·exact ⟨es, rfl, by rw [Nat.zero_add]; exact hz⟩
theorem pG {LI : PF} : ∀ (f : Nat) (xs : List Node) (st : PSt) (ys : List Node) (st' : PSt), dI LI f xs st = some (ys, st') → st'.err = 0 → Hk 10 [41] st'
 | 0, xs, st, ys, st', h, h0 => by cases h
 | f + 1, xs, st, ys, st', h, h0 => by
  unfold dI at h
  by_cases he : st.err = 0
  ·rw [if_pos he] at h
   obtain ⟨c, e1, h⟩ := bC h
   cases c with
   | true =>
    rw [if_pos rfl] at h
    cases h
    exact (kI e1).2
   | false =>
    rw [if_neg (by decide)] at h
    obtain ⟨r, e2, h⟩ := bC h
    split at h
    ·exact pG f _ _ _ _ h h0
    ·obtain ⟨c1, e3, h⟩ := bC h
     obtain ⟨c2, e4, h⟩ := bC h
     split at h
     ·obtain ⟨q, e5, h⟩ := bC h
      exact pG f _ _ _ _ h h0
     ·obtain ⟨t, e5, h⟩ := bC h
      exact pG f _ _ _ _ h h0
  ·rw [if_neg he] at h
   cases h
   exact absurd h0 he
theorem aMa : ∀ f, SO Any (nQ f) CLs
 | 0 => fun st y st' _ h => by cases h
 | f + 1 => by
  show SO Any (fun st => (dI (nQ f) f [] st).bind fun r => (aV r.2).bind fun q => some (Node.mk 4 [] 0 [] [] r.1, q.2)) _
  intro st y st' hp he h0
  obtain ⟨⟨ys, s1⟩, e1, he⟩ := bC he
  obtain ⟨⟨t, s2⟩, e2, he⟩ := bC he
  cases he
  have h1 : s1.err = 0 := by rw [← (uT e2).1]; exact h0
  obtain ⟨a1, a2⟩ := sB (aMa f) f [] st ys s1 trivial e1 h1
  obtain ⟨b1, b2⟩ := dD (P := Any) s1 t s2 ⟨trivial, pG f [] st ys s1 e1 h1⟩ e2 h0
  refine ⟨a1, fun d m S => ?_⟩
  obtain ⟨n, m', c1, c2, es, rfl, c3⟩ := a2 d m S
  obtain ⟨n2, m2, d1, d2, ⟨d3, d4⟩, d5, rfl⟩ := b2 d m' c2
  exact ⟨n + kE t, m2, by omega, d2, ys, n, rfl, c3, by rw [pF d5 d3 (d4 (by decide))]⟩
end Go.Dd

namespace Go.Dd
def hdB (ts : List (List Nat)) : List Nat := if ts.length = 0 then [] else 124 :: 32 :: (aF [32] ts ++ [32, 124, 32])
theorem aJs (ts kids : List (List Nat)) : aS ts kids = hdB ts ++ aF [46, 32] kids := rfl
def TZ (ts : List (List Nat)) : Prop := ∀ t ∈ ts, TV 1 t ∧ AB t
theorem jL (t : List Nat) (l : List (List Nat)) : cN (t :: l) = t.length + cN l := by simp [cN]
theorem wV : ∀ (f : Nat) (l : List (List Nat)), SO Any (fX f l) (fun d ys n => ∃ ts, ys = l ++ ts ∧ TZ ts ∧ cN ts + 2 * ts.length + 3 ≤ n)
 | 0, l => fun st y st' _ h => by cases h
 | f + 1, l => by
  show SO Any (fun st => (dU st 1 []).bind fun c => if c then (aV st).bind fun r => fX f (l ++ [r.1.text]) r.2 else (bL st 10 [124]).bind fun r => some (l, r.2)) _
  refine cAp ((bZh (fun (t : Tok) st => fX f (l ++ [t.text]) st) dD (fun t => wV f (l ++ [t.text]))).mono ?_) ((bZh (fun (_ : Tok) st => some (l, st)) (gC 10 [124]) fun _ => SO.ret l).mono ?_)
  ·rintro d y n hd hn ⟨t, a, b, rfl, ⟨⟨hk, _⟩, hv, rfl⟩, ts, rfl, h1, h2⟩
   obtain ⟨k1, k2, k3, k4, k5⟩ := rK hv hk (by decide) (by decide)
   refine ⟨t.text :: ts, by simp, fun x hx => ?_, ?_⟩
   ·rcases List.mem_cons.1 hx with rfl | hx
    ·exact ⟨k1, k4⟩
    ·exact h1 x hx
   ·rw [jL, List.length_cons]
    omega
  ·rintro d y n hd hn ⟨t, a, b, rfl, ⟨⟨hk, hx⟩, hv, rfl⟩, rfl, rfl⟩
   refine ⟨[], by simp, fun x hx => (by cases hx), ?_⟩
   rw [pF hv hk (hx (by decide))]
   exact Nat.le_refl _
theorem aCg (f : Nat) : SO Any (fV f) (fun d ts n => TZ ts ∧ (hdB ts).length ≤ n) := by
 show SO Any (fun st => (dU st 10 [124]).bind fun c => if c then (aV st).bind fun r => fX f [] r.2 else some ([], st)) _
 refine cAp ((bZh (fun (_ : Tok) st => fX f [] st) dD (fun t => wV f [])).mono ?_) ((SO.ret _).mono ?_)
 ·rintro d y n hd hn ⟨t, a, b, rfl, ⟨⟨hk, hx⟩, hv, rfl⟩, ts, rfl, h1, h2⟩
  refine ⟨h1, ?_⟩
  have := pF hv hk (hx (by decide))
  have := kT [32] y
  show (hdB y).length ≤ _
  unfold hdB
  split
  ·simp
  ·simp only [List.length_cons, List.length_append, List.length_nil] at this ⊢
   omega
 ·rintro d y n hd hn ⟨rfl, rfl⟩
  exact ⟨fun x hx => (by cases hx), Nat.le_refl _⟩
theorem wR : ∀ (f : Nat) (l : List (List Nat)), SO Any (fD f l) (fun d ys n => ∃ ns, ys = l ++ ns ∧ (∀ t ∈ ns, TV 8 t ∧ AB t) ∧ (bG ns).length + ns.length ≤ n ∧ (l.length ≤ 4 → l.length + ns.length ≤ 4))
 | 0, l => fun st y st' _ h => by cases h
 | f + 1, l => by
  show SO Any (fun st => (dU st 8 []).bind fun c => if c then (gN st 8 l.length).bind fun r => fD f (l ++ [r.1]) r.2 else some (l, st)) _
  refine cAp ?_ ((SO.ret l).mono ?_)
  ·intro st y st' hp he h0
   obtain ⟨r, e1, he⟩ := bC he
   unfold gN at e1
   obtain ⟨⟨t, s1⟩, e2, e1⟩ := bC e1
   have := wR f (l ++ [r.1])
   obtain ⟨a1, a2⟩ := this r.2 y st' trivial he h0
   by_cases h4 : l.length = 4
   ·rw [if_pos h4] at e1
    cases e1
    exfalso
    have a1 : (bV s1 t 18).err = 0 := a1
    unfold bV at a1
    split at a1
    ·cases a1
    ·exact absurd a1 (by assumption)
   ·rw [if_neg h4] at e1
    cases e1
    obtain ⟨b1, b2⟩ := gC (P := Any) 8 [] st t s1 trivial e2 a1
    refine ⟨b1, fun d m S => ?_⟩
    obtain ⟨n, m', c1, c2, ⟨c3, _⟩, c4, rfl⟩ := b2 d m S
    obtain ⟨n2, m2, d1, d2, ns, rfl, d3, d4, d5⟩ := a2 d m' c2
    obtain ⟨k1, k2, k3, k4, k5⟩ := rK c4 c3 (by decide) (by decide)
    refine ⟨kE t + n2, m2, by omega, d2, t.text :: ns, by simp, fun x hx => ?_, ?_, fun hl => ?_⟩
    ·rcases List.mem_cons.1 hx with rfl | hx
     ·exact ⟨k1, k4⟩
     ·exact d3 x hx
    ·rw [k2, aUa]
     show (58 :: (t.text ++ 32 :: bG ns)).length + (ns.length + 1) ≤ _
     simp only [List.length_cons, List.length_append]
     omega
    ·have := d5 (by simp; omega)
     simp only [laE, lcE, lnE] at this ⊢
     omega
  ·rintro d y n hd hn ⟨rfl, rfl⟩
   exact ⟨[], by simp, fun x hx => (by cases hx), Nat.le_refl _, fun h => by simpa using h⟩
def SZ (d : Nat) (l : List (Node × List Nat)) (n : Nat) : Prop := (∀ e, e ≤ d → SOk e l) ∧ (∀ z ∈ l, z.2 = fE z.1 ∧ Sk z.1 ∧ By z.1) ∧ cN (l.map Prod.snd) + 2 * l.length ≤ n
theorem SZ.nil {d : Nat} : SZ d [] 0 := ⟨fun e _ => .nil, fun z hz => (by cases hz), Nat.le_refl _⟩
theorem SZ.cons {d : Nat} {x : Node} {a n : Nat} {l : List (Node × List Nat)} (h : SZ d l n) (hx : CE d x a) : SZ d ((x, fE x) :: l) (a + n) := by
 obtain ⟨h1, h2, h3⟩ := h
 obtain ⟨x1, x2, x3, x4⟩ := hx
 refine ⟨fun e he => .cons _ _ _ (x1.e e he) (h1 e he), fun z hz => ?_, ?_⟩
 ·rcases List.mem_cons.1 hz with rfl | hz
  ·exact ⟨rfl, x3, x4⟩
  ·exact h2 z hz
 ·rw [List.map_cons, jL, List.length_cons]
  show (fE x).length + _ + _ ≤ _
  omega
theorem SZ.ret {d : Nat} {x : Node} {a : Nat} (hx : CE d x a) : SZ d [(.mk 10 [] 0 [] [] [x], 94 :: fE x)] (3 + a) := by
 obtain ⟨x1, x2, x3, x4⟩ := hx
 refine ⟨fun e he => .ret _ _ (x1.e e he), fun z hz => ?_, ?_⟩
 ·have : z = (.mk 10 [] 0 [] [] [x], 94 :: fE x) := by simpa using hz
  subst this
  exact ⟨rfl, ⟨by simp, by omega, by omega, by unfold bQ; simp, x3, trivial⟩, ⟨AB.nil, fun x hx => (by cases hx), fun x hx => (by cases hx), x4, trivial⟩⟩
 ·show cN [94 :: fE x] + 2 * 1 ≤ _
  rw [jL]
  simp [cN]
  omega
theorem SZ.more {d : Nat} {l : List (Node × List Nat)} {n m : Nat} (h : SZ d l n) (hm : n ≤ m) : SZ d l m := ⟨h.1, h.2.1, by have := h.2.2; omega⟩
theorem sL {E : PF} (hE : SO Any E CE) : ∀ (f : Nat) (xs : List Node), SO Any (cW E f xs) (fun d ys n => ∃ l : List (Node × List Nat), ys = xs ++ l.map Prod.fst ∧ SZ d l n)
 | 0, xs => fun st y st' _ h => by cases h
 | f + 1, xs => by
  show SO Any (fun st => if st.err = 0 then (dU st 0 []).bind fun c => if c then some (xs, st) else (dU st 10 [93]).bind fun c => if c then some (xs, st) else
   (dU st 10 [94]).bind fun c =>
    if c then (aV st).bind fun r => (E r.2).bind fun q => (dU q.2 10 [46]).bind fun d => if d then (aV q.2).bind fun u => some (xs ++ [Node.mk 10 [] 0 [] [] [q.1]], u.2) else some (xs ++ [Node.mk 10 [] 0 [] [] [q.1]], q.2)
    else (E st).bind fun q => (dU q.2 10 [46]).bind fun d => if d then (aV q.2).bind fun u => cW E f (xs ++ [q.1]) u.2 else some (xs ++ [q.1], q.2)
   else some (xs, st)) _
  have r0 : ∀ {P : PSt → Prop}, SO P (fun st => some (xs, st)) (fun d ys n => ∃ l : List (Node × List Nat), ys = xs ++ l.map Prod.fst ∧ SZ d l n) := (SO.ret xs).mono fun d y n hd hn h => by
   obtain ⟨rfl, rfl⟩ := h
   exact ⟨[], by simp, SZ.nil⟩
  refine SO.ok (cAp r0 (cAp r0 (cAp ?_ ?_))) (SO.err (F := cW E f xs))
  ·refine (bZh (fun (_ : Tok) st => (E st).bind fun q => (dU q.2 10 [46]).bind fun d => if d then (aV q.2).bind fun u => some (xs ++ [Node.mk 10 [] 0 [] [] [q.1]], u.2) else some (xs ++ [Node.mk 10 [] 0 [] [] [q.1]], q.2)) dD fun t => bZh (fun q st => (dU st 10 [46]).bind fun d => if d then (aV st).bind fun u => some (xs ++ [Node.mk 10 [] 0 [] [] [q]], u.2) else some (xs ++ [Node.mk 10 [] 0 [] [] [q]], st)) hE fun q => cAp (C := fun d ys n => ys = xs ++ [Node.mk 10 [] 0 [] [] [q]]) ((bZh (fun (_ : Tok) st => some (xs ++ [Node.mk 10 [] 0 [] [] [q]], st)) dD fun _ => SO.ret _).mono ?_) ((SO.ret _).mono ?_)).mono ?_
   ·rintro d y n hd hn ⟨t, a, b, rfl, _, rfl, rfl⟩
    rfl
   ·rintro d y n hd hn ⟨rfl, rfl⟩
    rfl
   ·rintro d y n hd hn ⟨t, a, b, rfl, ⟨⟨hk, hx⟩, hv, rfl⟩, q, a2, b2, rfl, hq, rfl⟩
    have := pF hv hk (hx (by decide))
    exact ⟨[(.mk 10 [] 0 [] [] [q], 94 :: fE q)], by simp, (SZ.ret hq).more (by omega)⟩
  ·refine SO.mono (bZh (fun q st => (dU st 10 [46]).bind fun d => if d then (aV st).bind fun u => cW E f (xs ++ [q]) u.2 else some (xs ++ [q], st)) (hE.pre fun _ _ => trivial) fun q => cAp (C := fun d ys n => ∃ l : List (Node × List Nat), ys = xs ++ [q] ++ l.map Prod.fst ∧ SZ d l n) ((bZh (fun (_ : Tok) st => cW E f (xs ++ [q]) st) dD fun _ => sL hE f (xs ++ [q])).mono ?_) ((SO.ret _).mono ?_)) ?_
   ·rintro d y n hd hn ⟨t, a, b, rfl, _, l, rfl, h⟩
    exact ⟨l, rfl, h.more (by omega)⟩
   ·rintro d y n hd hn ⟨rfl, rfl⟩
    exact ⟨[], by simp, SZ.nil⟩
   ·rintro d y n hd hn ⟨q, a, b, rfl, hq, l, rfl, h⟩
    exact ⟨(q, fE q) :: l, by simp, h.cons hq⟩
end Go.Dd

namespace Go.Dd
theorem aCt (ns ts : List (List Nat)) (ks : List Node) : fE (.mk 9 [] 0 ns ts ks) = 91 :: ((if bG ns = [] then [] else bG ns ++ [124, 32]) ++ (aS ts (ks.map fE) ++ [93])) := by
 show vT 9 [] 0 ns ts (qH ks) = _
 unfold vT
 rw [aZl]
 rfl
def CBl (d : Nat) (x : Node) (n : Nat) : Prop := ∃ ns ts l, x = .mk 9 [] 0 ns ts (l.map Prod.fst) ∧ (∀ t ∈ ns, TV 8 t ∧ AB t) ∧ ns.length ≤ 4 ∧ TZ ts ∧ (∃ k, SZ d l k ∧ (bG ns).length + ns.length + (hdB ts).length + k + 3 ≤ n)
theorem aXt {l : List (List Nat)} {st s1 : PSt} (h : bar l st = some s1) (h0 : s1.err = 0) : st.err = 0 ∧ ∀ d m, Sst st d m → ∃ n m', m' + n = m ∧ Sst s1 d m' := by
 unfold bar at h
 split at h
 ·obtain ⟨c, e1, h⟩ := bC h
  cases c with
  | true =>
   rw [if_pos rfl] at h
   cases h
   exact ⟨h0, fun d m S => ⟨0, m, rfl, S⟩⟩
  | false =>
   rw [if_neg (by decide)] at h
   obtain ⟨⟨t, s2⟩, e2, h⟩ := bC h
   cases h
   obtain ⟨a1, a2⟩ := gC (P := Any) 10 [124] st t s2 trivial e2 h0
   refine ⟨a1, fun d m S => ?_⟩
   obtain ⟨n, m', c1, c2, _⟩ := a2 d m S
   exact ⟨n, m', c1, c2⟩
 ·cases h
  exact ⟨h0, fun d m S => ⟨0, m, rfl, S⟩⟩
theorem aUe {E : PF} (hE : SO Any E CE) (f : Nat) : SO Any (kB E f) CBl := fun st y st' hp he h0 => by
 unfold kB at he
 obtain ⟨⟨ns, s1⟩, e1, he⟩ := bC he
 obtain ⟨s2, e2, he⟩ := bC he
 obtain ⟨⟨ts, s3⟩, e3, he⟩ := bC he
 obtain ⟨⟨ks, s4⟩, e4, he⟩ := bC he
 obtain ⟨⟨t, s5⟩, e5, he⟩ := bC he
 cases he
 obtain ⟨a1, a2⟩ := gC (P := Any) 10 [93] s4 t s5 trivial e5 h0
 obtain ⟨b1, b2⟩ := sL hE f [] s3 ks s4 trivial e4 a1
 obtain ⟨c1, c2⟩ := aCg f s2 ts s3 trivial e3 b1
 obtain ⟨d1, d2⟩ := aXt e2 c1
 obtain ⟨g1, g2⟩ := wR f [] st ns s1 trivial e1 d1
 refine ⟨g1, fun d m S => ?_⟩
 obtain ⟨n1, m1, i1, i2, ns', rfl, i3, i4, i5⟩ := g2 d m S
 obtain ⟨n2, m2, j1, j2⟩ := d2 d m1 i2
 obtain ⟨n3, m3, k1, k2, k3, k4⟩ := c2 d m2 j2
 obtain ⟨n4, m4, l1, l2, l, rfl, l3⟩ := b2 d m3 k2
 obtain ⟨n5, m5, o1, o2, ⟨o3, o4⟩, o5, rfl⟩ := a2 d m4 l2
 have := pF o5 o3 (o4 (by decide))
 refine ⟨n1 + n2 + n3 + n4 + kE t, m5, by omega, o2, ns, ts, l, rfl, i3, by simpa using i5 (by simp), k3, n4, l3, by omega⟩
theorem aSa {d : Nat} {x : Node} {n : Nat} (hd : d < 20) (h : CBl (d + 1) x n) (hn : n ≤ 100000) : CU d x (3 + n) := by
 obtain ⟨ns, ts, l, rfl, h1, h2, h3, k, ⟨h4, h5, h6⟩, h7⟩ := h
 have e2 : l.map Prod.snd = (l.map Prod.fst).map fE := by
  rw [List.map_map]
  exact List.map_congr_left fun z hz => (h5 z hz).1
 have hR : ∀ e, e ≤ d → RdP e (.mk 9 [] 0 ns ts (l.map Prod.fst)) (fE (.mk 9 [] 0 ns ts (l.map Prod.fst))) := fun e he => by
  rw [aCt, ← e2]
  exact aRf (by omega) (fun t ht => (h1 t ht).1) h2 (fun t ht => (h3 t ht).1) (h4 (e + 1) (by omega))
 refine ⟨PU.low rfl (by show (9 : Int) ≠ 7; decide) hR, ?_, ?_, ?_⟩
 ·rw [lH (by show 0 ≤ 1; omega), aCt, ← e2, aJs]
  have := kT [46, 32] (l.map Prod.snd)
  simp only [List.length_map, List.length_cons, List.length_nil, List.length_append] at this ⊢
  split
  ·simp only [List.length_nil]
   omega
  ·rename_i hne
   have : 1 ≤ ns.length := by
    cases ns with
    | nil => exact absurd rfl hne
    | cons a b => simp
   simp only [laE, lcE, lnE]
   omega
 ·refine ⟨by simp, by omega, by omega, ?_, oD fun x hx => ?_⟩
  ·rw [List.length_map]
   unfold bQ
   omega
  ·obtain ⟨z, hz, rfl⟩ := List.mem_map.1 hx
   exact (h5 z hz).2.1
 ·refine ⟨AB.nil, fun x hx => (h1 x hx).2, fun x hx => (h3 x hx).2, nS fun x hx => ?_⟩
  obtain ⟨z, hz, rfl⟩ := List.mem_map.1 hx
  exact (h5 z hz).2.2
theorem aWn {E : PF} (hE : SO Any E CE) : SO Any (kW E) (fun d x n => ∃ a, CE d x a ∧ a + 3 = n) := by
 refine (bZh (fun (x : Node) st => (bL st 10 [41]).bind fun q => some (x, q.2)) hE fun x => bZh (fun (_ : Tok) st => some (x, st)) (gC 10 [41]) fun _ => SO.ret x).mono ?_
 rintro d y n hd hn ⟨x, a, b, rfl, hx, t, a2, b2, rfl, ⟨⟨hk, hx2⟩, hv, rfl⟩, rfl, rfl⟩
 exact ⟨a, hx, by rw [pF hv hk (hx2 (by decide))]⟩
theorem aEx {LI E : PF} (hL : SO Any LI CLs) (hE : SO Any E CE) (f : Nat) : SO Any (dJ LI E f) CU := by
 unfold dJ
 refine SO.mono (bZh (fun (r : Node × Bool) st => if r.2 then some (r.1, st) else (bD st 0).bind fun t => if st.err = 0 then if t.kind = 1 then (aV st).bind fun q => some (Node.mk 5 q.1.text 0 [] [] [], q.2) else if t.kind = 7 then cQ LI st else (dU st 10 [40]).bind fun c => if c then cQ (kW E) st else (dU st 10 [91]).bind fun c => if c then cQ (kB E f) st else some (zN, bV st t 13) else some (zN, st)) (E := fun r d x n => (r.2 = true ∧ x = r.1 ∧ n = 0) ∨ (r.2 = false ∧ CU d x n)) plain_so fun r => ?_) ?_
 ·obtain ⟨x, b⟩ := r
  cases b with
  | true => exact (SO.ret x).mono fun d y n hd hn h => .inl ⟨rfl, h⟩
  | false =>
   refine SO.mono (C := CU) ?_ fun d y n hd hn h => .inr ⟨rfl, h⟩
   refine SO.look (fun t st => if st.err = 0 then if t.kind = 1 then (aV st).bind fun q => some (Node.mk 5 q.1.text 0 [] [] [], q.2) else if t.kind = 7 then cQ LI st else (dU st 10 [40]).bind fun c => if c then cQ (kW E) st else (dU st 10 [91]).bind fun c => if c then cQ (kB E f) st else some (zN, bV st t 13) else some (zN, st)) fun t => SO.ok ?_ (SO.err (F := LI))
   by_cases h1 : t.kind = 1
   ·refine cAf (fun st => if_pos h1) ((bZh (fun (q : Tok) st => some (Node.mk 5 q.text 0 [] [] [], st)) ((iO (t := t) (P := Any)).pre fun st h => h.1) fun q => SO.ret _).mono ?_)
    rintro d y n hd hn ⟨t1, a, b, rfl, ⟨rfl, hv, rfl⟩, rfl, rfl⟩
    obtain ⟨k1, k2, k3, k4, k5⟩ := rK hv h1 (by decide) (by decide)
    refine ⟨PU.low rfl (by show (5 : Int) ≠ 7; decide) fun e _ => bKv k1, ?_, ⟨by omega, by omega, by omega, by unfold bQ; simp, trivial⟩, ⟨k4, fun x hx => (by cases hx), fun x hx => (by cases hx), trivial⟩⟩
    rw [lH (by show 0 ≤ 1; omega)]
    exact k5
   by_cases h7 : t.kind = 7
   ·refine cAf (fun st => (if_neg h1).trans (if_pos h7)) (((nB (P := Any) (k := 7) (tx := []) hL).pre fun st h => ⟨trivial, t, h.1.2, h7, fun h => absurd rfl h⟩).mono ?_)
    rintro d y n hd hn ⟨h20, t1, a, ⟨ht, _⟩, hv, rfl, es, m, rfl, hz, rfl⟩
    obtain ⟨k1, k2, _⟩ := rK hv ht (by decide) (by decide)
    have hw : kE t1 = 4 := k2
    obtain ⟨p1, p2, p3, p4, p5⟩ := aTe h20 hz (by omega)
    refine ⟨PU.low rfl (by show (4 : Int) ≠ 7; decide) p2, ?_, p4, p5⟩
    rw [lH (by show 0 ≤ 1; omega)]
    omega
   refine cAf (fun st => (if_neg h1).trans (if_neg h7)) (cAp ?_ (cAp ?_ (cBj (by decide) _)))
   ·refine ((nB (k := 10) (tx := [40]) (aWn hE))).mono ?_
    rintro d y n hd hn ⟨h20, t1, a, ⟨ht, hx⟩, hv, rfl, a2, ⟨x1, x2, x3, x4⟩, rfl⟩
    have hw := pF hv ht (hx (by decide))
    have := sE 1 y
    exact ⟨PU.paren x1 h20, by omega, x3, x4⟩
   ·refine ((nB (k := 10) (tx := [91]) (aUe hE f))).mono ?_
    rintro d y n hd hn ⟨h20, t1, a, ⟨ht, hx⟩, hv, rfl, hb⟩
    have hw := pF hv ht (hx (by decide))
    rw [hw]
    exact aSa h20 hb (by omega)
 ·rintro d y n hd hn ⟨r, a, b, rfl, h1, h2⟩
  rcases h2 with ⟨hr, rfl, rfl⟩ | ⟨hr, h2⟩
  ·rcases h1 with ⟨_, c1, c2, c3, c4, c5, c6⟩ | ⟨h1, _⟩
   ·exact ⟨PU.low c2 c3 fun e _ => (c1 e).p, by rw [lH (by omega)]; exact c4, c5, c6⟩
   ·rw [hr] at h1; cases h1
  ·rcases h1 with ⟨h1, _⟩ | ⟨_, rfl⟩
   ·rw [hr] at h1; cases h1
   ·rw [Nat.zero_add]
    exact h2
end Go.Dd

