/- A part of the proof: P12 P13 P14 P15 P16 Z2 B1 B2 B3 Y1 Y2 Y3 Y4 B4 B5 Z5 B6 P17 P18 P19 RW P30 P31 P32 P33 P34 P25 P35 P36 P37 P38 P39 P40 P41 P42 P43 P44 P45 P46 P47 P20 P48 P49: each text has a comment of its own. -/
import Derived.Test.YtliejomdaookoaaGreatDoorSk2
import Derived.Test.YtliejomdaookoaaGreatDoorRows
import Derived.Test.YtliejomdaookoaaGreatDoorCards
import Derived.Test.YtliejomdaookoaaGreatDoorTie
import Derived.WalkKit
import Derived.ProofKit
import Derived.OpenShut
import Derived.Carry
import Derived.Lib.LaidU8
import Derived.Lay
import Derived.LaidOnce
import Derived.SevenTiedAt
import Derived.ChangeMaps5
set_option linter.unusedVariables false
set_option linter.unusedSimpArgs false
set_option linter.constructorNameAsVariable false
set_option maxRecDepth 100000
namespace Go.Dd
open Go.Proofs
theorem aMz {k m : Int} {t : List Nat} {ns ts : List (List Nat)} {ks : List Node} (T : ∀ y ∈ ks, kD y) (K : ∀ z ∈ ks, (∀ y ∈ z.kids, kD y) ∧ z.text.length ≤ 1000000000 ∧ z.kids.length + 1 ≤ bV)
 (hs : t.length ≤ 1000000000) (hm0 : -9223372036854775808 ≤ m) (hm1 : m ≤ 9223372036854775807) : kD (.mk k t m ns ts ks) := by
 intro I A Q L h cs S N hl
 have N0 := N
 obtain ⟨etx, eht⟩ := bMy ks
 have ex : (nf (.mk k t m ns ts ks)).tx = vF k t m ns ts (pL ks) := by simp [nf]
 rw [ex] at hl ⊢
 refine Ev.enter (fun n => bEl n _ h) ?_
 unfold s36
 obtain ⟨s1, s2, s3, rfl, a, b, c, cells, F, NL⟩ := N
 have N3 : NS I s3 ks := ⟨c, cells, F, NL⟩
 have o1 := a.2.one
 have o2 := b.2.one
 have o3 := F.one
 refine Ev.box S rfl ?_
 intro b1 h1 S1
 unfold aLj
 refine wf ?_; refine wl ?_
 unfold aLg
 unfold vF at hl ⊢
 refine bVv (fun e1 => ?_) (fun e1 => ?_)
 ·replace e1 : k = 1 := e1
  rw [if_pos e1] at hl ⊢
  unfold aCv
  refine yt (wf ?_); refine wl ?_
  refine Ev.op (aKs hm0 hm1 _) ?_
  exact bVs ⟨rfl, S1.dropL⟩
 replace e1 : ¬ k = 1 := e1
 rw [if_neg e1] at hl ⊢
 unfold aCv aRw
 refine bWp ?_
 refine bVv (fun e2 => ?_) (fun e2 => ?_)
 ·replace e2 : k = 2 := e2
  rw [if_pos e2] at hl ⊢
  unfold aDb
  refine yt (wf ?_); refine wl ?_
  refine Ev.op (bEm hs _) ?_
  refine bWl S1 (cs := [.s [39], .s (dD 39 [39, 39] t), .s [39]]) (by simp [cI, cD]) ?_
  intro b2 h2 S2
  refine bVq (dX [[39], dD 39 [39, 39] t, [39]] S2 (eJ) rfl (by simp [aF] at hl ⊢; omega) (by simp)) ?_
  rintro _ _ ⟨rfl, rfl⟩
  refine bVs ⟨?_, S2.dropL.dropL⟩
  simp [aF]
 replace e2 : ¬ k = 2 := e2
 rw [if_neg e2] at hl ⊢
 unfold aDb aWt
 refine bWp ?_
 refine bVv (fun e3 => ?_) (fun e3 => ?_)
 ·replace e3 : k = 3 := e3
  rw [if_pos e3] at hl ⊢
  unfold aBi
  refine yt (wf ?_); refine wl ?_
  refine bWl S1 (cs := [.s [35], .s t]) (by simp [cI, cD]) ?_
  intro b2 h2 S2
  refine bVq (dX [[35], t] S2 (eJ) rfl (by simp [aF] at hl ⊢; omega) (by simp)) ?_
  rintro _ _ ⟨rfl, rfl⟩
  refine bVs ⟨?_, S2.dropL.dropL⟩
  simp [aF]
 replace e3 : ¬ k = 3 := e3
 rw [if_neg e3] at hl ⊢
 unfold aBi aXa
 refine bWp ?_
 refine bVv (fun e4 => ?_) (fun e4 => ?_)
 ·replace e4 : k = 4 := e4
  rw [if_pos e4, etx] at hl ⊢
  unfold tI
  refine yt (wf ?_); refine wl ?_
  refine bVq (sC (sep := [32]) S1 N3 (fun x hx => HowOk.text (T x hx)) (by simp only [fU] at hl; simp at hl ⊢; omega)) ?_
  rintro _ h2 ⟨rfl, S2⟩
  refine bWl S2 (cs := [.s [35, 40], .s (aF [32] (fU ks)), .s [41]]) (by simp [cI, cD, fU]) ?_
  intro b2 h3 S3
  refine bVq (dX [[35, 40], aF [32] (fU ks), [41]] S3 (eJ) rfl (by simp [aF] at hl ⊢; omega) (by simp)) ?_
  rintro _ _ ⟨rfl, rfl⟩
  refine bVs ⟨?_, S3.dropL.dropL⟩
  simp [aF]
 replace e4 : ¬ k = 4 := e4
 rw [if_neg e4] at hl ⊢
 unfold tI aFn
 refine bWp ?_
 refine bVv (fun e5 => ?_) (fun e5 => ?_)
 ·replace e5 : k = 6 := e5
  rw [if_pos e5, etx] at hl ⊢
  unfold sJ
  refine bXd ?_
  have Sr := S1.res
  generalize hh : gI 1 h1 = hr at Sr
  refine bXe ?_
  refine bXj Sr (List.Mem.tail _ (eJ)) rfl rfl ?_
  refine bXe ?_
  refine bXj Sr (List.Mem.tail _ (eJ)) rfl o3 ?_
  refine bVq (sC (sep := []) Sr N3 (fun x hx => HowOk.text (T x hx)) (by simp only [fU] at hl; simp at hl ⊢; omega)) ?_
  rintro _ h2 ⟨rfl, S2⟩
  refine Ev.cnd ?_ ?_
  ·rw [Bool.and_true]; exact eY S2 (List.Mem.tail _ (eJ)) rfl rfl (oC _)
  refine bWk S2 (cs := [.s t, .s [32, 58, 61, 32], .s (aF [] (fU ks))]) (Rpl.head _) (by simp [cI, cD, fU]) ?_
  intro h3 S3
  refine bVq (dX [t, [32, 58, 61, 32], aF [] (fU ks)] S3 (eJ) rfl (by simp [aF] at hl ⊢; omega) (by simp)) ?_
  rintro _ _ ⟨rfl, rfl⟩
  refine bVs ⟨?_, S3.dropL.dropL⟩
  simp [aF]
 replace e5 : ¬ k = 6 := e5
 rw [if_neg e5] at hl ⊢
 unfold sJ aFj
 refine bWp ?_
 refine bVv (fun e6 => ?_) (fun e6 => ?_)
 ·replace e6 : k = 10 := e6
  rw [if_pos e6, etx] at hl ⊢
  unfold uK
  refine yt (wf ?_); refine wl ?_
  refine bVq (sC (sep := []) S1 N3 (fun x hx => HowOk.text (T x hx)) (by simp only [fU] at hl; simp at hl ⊢; omega)) ?_
  rintro _ h2 ⟨rfl, S2⟩
  refine bWl S2 (cs := [.s [94], .s (aF [] (fU ks))]) (by simp [cI, cD, fU]) ?_
  intro b2 h3 S3
  refine bVq (dX [[94], aF [] (fU ks)] S3 (eJ) rfl (by simp [aF] at hl ⊢; omega) (by simp)) ?_
  rintro _ _ ⟨rfl, rfl⟩
  refine bVs ⟨?_, S3.dropL.dropL⟩
  simp [aF]
 replace e6 : ¬ k = 10 := e6
 rw [if_neg e6] at hl ⊢
 unfold uK aGh
 refine bWp ?_
 refine bVv (fun e7 => ?_) (fun e7 => ?_)
 ·replace e7 : k = 7 := e7
  rw [if_pos e7, eht] at hl ⊢
  unfold uA
  refine yt (wf ?_); refine wl ?_; refine wf ?_; refine wl ?_
  refine bVq (wJ S1 N3 T hs hl) ?_
  rintro _ h2 ⟨rfl, S2⟩
  exact bVs ⟨rfl, S2.dropL⟩
 replace e7 : ¬ k = 7 := e7
 rw [if_neg e7] at hl ⊢
 unfold uA aGb
 refine bWp ?_
 refine bVv (fun e8 => ?_) (fun e8 => ?_)
 ·replace e8 : k = 8 := e8
  rw [if_pos e8] at hl ⊢
  unfold sV
  refine yt (wf ?_); refine wl ?_
  refine bVq (aMo S1 N3 T K hl) ?_
  rintro _ h2 ⟨rfl, S2⟩
  exact bVs ⟨rfl, S2.dropL⟩
 replace e8 : ¬ k = 8 := e8
 rw [if_neg e8] at hl ⊢
 unfold sV aFg
 refine bWp ?_
 refine bVv (fun e9 => ?_) (fun e9 => ?_)
 ·replace e9 : k = 9 := e9
  rw [if_pos e9, etx] at hl ⊢
  unfold sU
  refine bXd ?_
  unfold aFv yA
  have hbody : (aQ ts (fU ks)).length ≤ 100000000000 := by simp at hl; omega
  have fin : ∀ (pre : List Nat) (h : Hp), Sy I A Q ((b1, some (.row .ex [.i .i64 k, .s t, .i .i64 m, s1, s2, s3])) :: L) h → pre.length + (aQ ts (fU ks)).length + 2 ≤ 100000000000 →
   Ev (fun n => zL (aK n) n (.p b1 0) (.s pre) h) (fun v h' => v = .s (91 :: (pre ++ (aQ ts (fU ks) ++ [93]))) ∧ Sy I A Q L h') := by
   intro pre h S hp
   unfold zL
   refine bXs S (eJ) rfl (N0.shape.2.1) ?_
   refine bVq (pF S N0 T hbody) ?_
   rintro _ h2 ⟨rfl, S2⟩
   refine bWl S2 (cs := [.s [91], .s pre, .s (aQ ts (fU ks)), .s [93]]) (by simp [cI, cD]) ?_
   intro b2 h3 S3
   refine bVq (dX [[91], pre, aQ ts (fU ks), [93]] S3 (eJ) rfl (by simp [aF]; omega) (by simp)) ?_
   rintro _ _ ⟨rfl, rfl⟩
   refine bVs ⟨?_, S3.dropL.dropL⟩
   simp [aF]
  refine wf ?_; refine wl ?_
  refine Ev.op (a.2.len _) ?_
  unfold zA aFr
  have hn : (bF ns).length ≤ 100000000000 := by
   by_cases h9 : bF ns = []
   ·rw [h9]; simp
   ·rw [if_neg h9] at hl; simp at hl; omega
  refine aLf a ns 0 0 _ [] rfl S1 (by simpa using hn) ?_
  intro h2 S2
  simp only [List.nil_append]
  unfold dZ
  refine bYu (fun h9 => ?_) (fun h9 => ?_)
  ·rw [if_neg h9] at hl ⊢
   refine bXd ?_
   refine bWl S2 (cs := [.s (bF ns), .s [124, 32]]) (by simp [cI, cD]) ?_
   intro b2 h3 S3
   refine bVq (dX [bF ns, [124, 32]] S3 (eJ) rfl (by simp [aF] at hl ⊢; omega) (by simp)) ?_
   rintro _ _ ⟨rfl, rfl⟩
   have ej : aF [] [bF ns, [124, 32]] = bF ns ++ [124, 32] := by simp [aF]
   rw [ej]
   exact fin _ _ S3.dropL (by simp at hl ⊢; omega)
  ·rw [if_pos h9] at hl ⊢
   refine bWp ?_
   rw [h9]
   exact fin _ _ S2 (by simp at hl ⊢; omega)
 replace e9 : ¬ k = 9 := e9
 rw [if_neg e9] at hl ⊢
 unfold sU aE
 refine yj (wf ?_); refine wl ?_
 exact bVs ⟨rfl, S1.dropL⟩
end Go.Dd

namespace Go.Dd
open Go.Proofs
mutual
def Sk : Node → Prop
 | .mk k t m ns ts ks => t.length ≤ 1000000000 ∧ -9223372036854775808 ≤ m ∧ m ≤ 9223372036854775807 ∧ ks.length + 1 ≤ bV ∧ SkL ks
def SkL : List Node → Prop
 | [] => True
 | x :: l => Sk x ∧ SkL l
end
mutual
theorem tZ : ∀ x, Sk x → kD x ∧ (∀ y ∈ x.kids, kD y) ∧ x.text.length ≤ 1000000000 ∧ x.kids.length + 1 ≤ bV
 | .mk k t m ns ts ks, h => by
  unfold Sk at h
  obtain ⟨h1, h2, h3, h4, h5⟩ := h
  have T := wP ks h5
  exact ⟨aMz (fun y hy => (T y hy).1) (fun z hz => (T z hz).2) h1 h2 h3, fun y hy => (T y hy).1, h1, h4⟩
theorem wP : ∀ l, SkL l → ∀ y ∈ l, kD y ∧ (∀ z ∈ y.kids, kD z) ∧ y.text.length ≤ 1000000000 ∧ y.kids.length + 1 ≤ bV
 | [], _ => fun y hy => by cases hy
 | x :: l, h => by
  unfold SkL at h
  have p := tZ x h.1
  have q := wP l h.2
  intro y hy
  rcases List.mem_cons.1 hy with e | hy
  ·rw [e]; exact p
  ·exact q y hy
end
end Go.Dd

namespace Go.Dd
open Go.Proofs
section
variable {I : Im} {A Q L : Ls}
theorem aQp {h : Hp} {s1 s2 : DV} {l1 l2 : List (List Nat)} (S : Sy I A Q L h) (N1 : SS I s1 l1) (N2 : SS I s2 l2) : ∀ (r1 r2 : List (List Nat)) (i j : Nat), l1.drop i = r1 → l2.drop i = r2 → r1.length = r2.length → i ≤ l1.length →
 Ev (fun n => kU (aK n) n (n - j) s1 s2 (.i .i64 (l1.length : Int)) (.i .i64 (i : Int)) h) (fun v h' => v = .b (decide (r1 = r2)) ∧ h' = h) := by
 intro r1
 induction r1 with
 | nil =>
  intro r2 i j e1 e2 hl hi
  refine bVx j (ll := fun n p => kU (aK n) n p s1 s2 (.i .i64 (l1.length : Int)) (.i .i64 (i : Int)) h) (bb := fun n p => pH (aK n) n (kU (aK n) n p) s1 s2 (.i .i64 (l1.length : Int)) (.i .i64 (i : Int)) h) (fun _ _ => rfl) ?_
  have h2 : r2 = [] := by cases r2 with
   | nil => rfl
   | cons => simp at hl
  subst h2
  have hl2 : i = l1.length := by
   have := congrArg List.length e1
   simp at this
   omega
  unfold pH
  refine bWr (fun k => ?_) (fun k => ?_)
  ·omega
  ·refine yj ?_
   unfold gG
   exact bVs ⟨by simp, rfl⟩
 | cons x r1 ih =>
  intro r2 i j e1 e2 hl hi
  refine bVx j (ll := fun n p => kU (aK n) n p s1 s2 (.i .i64 (l1.length : Int)) (.i .i64 (i : Int)) h) (bb := fun n p => pH (aK n) n (kU (aK n) n p) s1 s2 (.i .i64 (l1.length : Int)) (.i .i64 (i : Int)) h) (fun _ _ => rfl) ?_
  obtain ⟨y, r2, rfl⟩ : ∃ y r, r2 = y :: r := by cases r2 with
   | nil => simp at hl
   | cons y r => exact ⟨y, r, rfl⟩
  have hx : l1[i]? = some x := dA0 e1
  have hy : l2[i]? = some y := dA0 e2
  have hlt := (gLt hx)
  have e1' : l1.drop (i + 1) = r1 := dA1 e1
  have e2' : l2.drop (i + 1) = r2 := dA1 e2
  obtain ⟨b1, o1, p1, q1⟩ := N1.at S hx
  obtain ⟨b2, o2, p2, q2⟩ := N2.at S hy
  have hb := N1.1
  unfold pH
  refine bWr (fun k => ?_) (fun k => ?_)
  ·refine yt ?_
   refine Ev.op (p1 _) (Ev.op q1 (Ev.op (p2 _) (Ev.op q2 ?_)))
   refine bYu (fun k2 => ?_) (fun k2 => ?_)
   ·refine yt ?_
    exact bVs ⟨by simp [k2], rfl⟩
   ·refine yj ?_
    refine bWa ?_
    rw [vU (by omega)]
    refine (ih r2 (i + 1) (j + 1) e1' e2' (by simpa using hl) (by omega)).mono ?_
    rintro v h' ⟨rfl, rfl⟩
    exact ⟨by simp [k2], rfl⟩
  ·omega
theorem aOj (n : Nat) (x y : DV) (h : Hp) : aK (n + 1) 63 [x, y] h = s63 (aK n) n x y h := by kernel_rfl
theorem aWc {h : Hp} {s1 s2 : DV} {l1 l2 : List (List Nat)} (S : Sy I A Q L h) (N1 : SS I s1 l1) (N2 : SS I s2 l2) :
 Ev (fun n => aK n 63 [s1, s2] h) (fun v h' => v = .b (decide (l1 = l2)) ∧ h' = h) := by
 refine Ev.enter (fun n => aOj n _ _ h) ?_
 unfold s63 aGq
 refine Ev.op (N1.2.len _) (Ev.op (N2.2.len _) (bWu (fun e => ?_) (fun e => ?_)))
 ·refine yt ?_
  refine bVs ⟨?_, rfl⟩
  have : l1 ≠ l2 := fun h => e (by rw [h])
  simp [this]
 ·refine yj ?_
  unfold aGr
  refine Ev.op (N1.2.len _) ?_
  unfold aJd aUu
  exact aQp S N1 N2 l1 l2 0 0 (by simp) (by simp) (by omega) (by omega)
end
end Go.Dd

namespace Go.Dd
open Go.Proofs
theorem aUe (n : Nat) (x y z : DV) (h : Hp) : aK (n + 1) 64 [x, y, z] h = s64 (aK n) n x y z h := by kernel_rfl
theorem aXk (n : Nat) (x y : DV) (h : Hp) : aK (n + 1) 37 [x, y] h = s37 (aK n) n x y h := by kernel_rfl
theorem bCe (rec : FuncId → List DV → Hp → aG) (x y : DV) (h : Hp) : dJ CF rec (.f 37 [] []) [x, y] h = rec 37 [x, y] h := by kernel_rfl
theorem bKg (k k' m m' : Int) (t t' : List Nat) (ns ns' ts ts' : List (List Nat)) (ks ks' : List Node) :
 nEq (.mk k t m ns ts ks) (.mk k' t' m' ns' ts' ks') = (decide (k = k') && decide (t = t') && decide (m = m') && decide (ns = ns') && decide (ts = ts') && oX ks ks') := by
 show (decide (ns = ns') && decide (ts = ts') && decide (k = k') && decide (t = t') && decide (m = m') && oX ks ks') = _
 generalize decide (ns = ns') = a
 generalize decide (ts = ts') = b
 generalize decide (k = k') = c
 generalize decide (t = t') = d
 generalize decide (m = m') = e
 cases a <;> cases b <;> cases c <;> cases d <;> cases e <;> rfl
theorem bLj {ks ks' : List Node} {I : Im} {A Q L : Ls} {h : Hp} {s s' : DV} (N : NS I s ks) (N' : NS I s' ks') (S : Sy I A Q L h)
 (lp : ks.length = ks'.length → Ev (fun n => jT (aK n) n (n - 0) s' (.f 37 [] []) s (.i .i64 (ks.length : Int)) (.i .i64 ((0 : Nat) : Int)) h) (fun v h' => v = .b (oX ks ks') ∧ Sy I A Q L h')) :
 Ev (fun n => aK n 64 [s, s', .f 37 [] []] h) (fun v h' => v = .b (oX ks ks') ∧ Sy I A Q L h') := by
 refine Ev.enter (fun n => aUe n _ _ _ h) ?_
 unfold s64 aIi
 refine Ev.op (N.len _) (Ev.op (N'.len _) (bWu (fun e => ?_) (fun e => ?_)))
 ·refine yt ?_
  refine bVs ⟨?_, S⟩
  rw [aBc ks ks' (by omega)]
 ·refine yj ?_
  unfold aHn
  refine Ev.op (N.len _) ?_
  unfold aKy aXc
  exact lp (by omega)
mutual
theorem aCq : ∀ (x y : Node) (I : Im) (A Q L : Ls) (h : Hp) (cs cs' : List DV), Sy I A Q L h → NV I x cs → NV I y cs' → Ev (fun n => aK n 37 [.a cs, .a cs'] h) (fun v h' => v = .b (nEq x y) ∧ Sy I A Q L h')
 | .mk k t m ns ts ks, .mk k' t' m' ns' ts' ks', I, A, Q, L, h, cs, cs', S, ⟨s1, s2, s3, e, a1, a2, a3, cells, F, NL⟩, ⟨s1', s2', s3', e', a1', a2', a3', cells', F', NL'⟩ => by
  subst e
  subst e'
  have o1 := a1.2.one
  have o2 := a2.2.one
  have o3 := F.one
  have o1' := a1'.2.one
  have o2' := a2'.2.one
  have o3' := F'.one
  refine Ev.enter (fun n => aXk n _ _ h) ?_
  unfold s37
  refine Ev.box S rfl (fun b h1 S1 => ?_)
  refine Ev.box S1 rfl (fun b' h2 S2 => ?_)
  rw [bKg]
  refine wf ?_; refine wl ?_; refine wf ?_; refine wl ?_
  refine bVv (fun e1 => ?_) (fun e1 => ?_)
  ·refine zt (wf (zt ?_)); refine wl ?_; refine zt (wf (zt ?_)); refine wl ?_; refine zt ?_
   refine bYt (fun e2 => ?_) (fun e2 => ?_)
   ·refine ap (zt (wf (zt ?_))); refine wl ?_; refine zt (wf (zt ?_)); refine wl ?_; refine zt ?_
    refine bVv (fun e3 => ?_) (fun e3 => ?_)
    ·refine ap (zt (wf (zt ?_))); refine wl ?_; refine zt (wf (zt ?_)); refine wl ?_; refine zt ?_
     refine bVq (aWc S2 a1 a1') ?_
     rintro _ _ ⟨rfl, rfl⟩
     by_cases e4 : ns = ns'
     ·rw [decide_eq_true e4]
      refine ap (zt (wf (zt ?_))); refine wl ?_; refine zt (wf (zt ?_)); refine wl ?_; refine zt ?_
      refine bVq (aWc S2 a2 a2') ?_
      rintro _ _ ⟨rfl, rfl⟩
      by_cases e5 : ts = ts'
      ·rw [decide_eq_true e5]
       refine ap (zt (wf (zt ?_))); refine wl ?_; refine zt (wf (zt ?_)); refine wl ?_; refine zt ?_
       refine bVq (bLj ⟨a3, cells, F, NL⟩ ⟨a3', cells', F', NL'⟩ S2 (fun hl => aBn ks ks' I A Q _ _ s3 s3' ks ks' 0 0 ⟨a3, cells, F, NL⟩ ⟨a3', cells', F', NL'⟩ (by simp) (by simp) hl (by omega) S2)) ?_
       rintro _ h9 ⟨rfl, S9⟩
       simp only [e1, e2, e3, decide_true, Bool.true_and]
       generalize oX ks ks' = c
       cases c with
       | true =>
        refine ap ?_
        exact bVs ⟨rfl, dp⟩
       | false =>
        refine ap ?_
        exact bVs ⟨rfl, dp⟩
      ·rw [decide_eq_false e5]
       refine ap (yf (yf (yf (yf (yf (aq ?_))))))
       exact bVs ⟨by simp, dp⟩
     ·rw [decide_eq_false e4]
      refine ap (yf (yf (yf (yf (yf (aq (yf (yf (yf (yf (yf (aq ?_))))))))))))
      exact bVs ⟨by simp, dp⟩
    ·refine ap (yf (yf (yf (yf (yf (aq (yf (yf (yf (yf (yf (aq (yf (yf (yf (yf (yf (aq ?_))))))))))))))))))
     exact bVs ⟨by simp [e3], dp⟩
   ·refine ap (yf (yf (yf (yf (yf (aq (yf (yf (yf (yf (yf (aq (yf (yf (yf (yf (yf (aq (yf (yf (yf (yf (yf (aq ?_))))))))))))))))))))))))
    exact bVs ⟨by simp [e2], dp⟩
  ·refine yf (yf (yf (yf (yf (aq (yf (yf (yf (yf (yf (aq (yf (yf (yf (yf (yf (aq (yf (yf (yf (yf (yf (aq (yf (yf (yf (yf (yf (aq ?_)))))))))))))))))))))))))))))
   exact bVs ⟨by simp [e1], dp⟩
theorem aBn : ∀ (r r' : List Node) (I : Im) (A Q L : Ls) (h : Hp) (s s' : DV) (ks ks' : List Node) (i j : Nat), NS I s ks → NS I s' ks' → ks.drop i = r → ks'.drop i = r' → r.length = r'.length → i ≤ ks.length → Sy I A Q L h →
 Ev (fun n => jT (aK n) n (n - j) s' (.f 37 [] []) s (.i .i64 (ks.length : Int)) (.i .i64 (i : Int)) h) (fun v h' => v = .b (oX r r') ∧ Sy I A Q L h')
 | [], r', I, A, Q, L, h, s, s', ks, ks', i, j, N, N', hr, hr', hl, hi, S => by
  have h2 : r' = [] := by cases r' with
   | nil => rfl
   | cons => simp at hl
  subst h2
  refine bVx j (ll := fun n p => jT (aK n) n p s' (.f 37 [] []) s (.i .i64 (ks.length : Int)) (.i .i64 (i : Int)) h) (bb := fun n p => qA (aK n) n (jT (aK n) n p) s' (.f 37 [] []) s (.i .i64 (ks.length : Int)) (.i .i64 (i : Int)) h) (fun _ _ => rfl) ?_
  have hl2 : i = ks.length := by
   have := congrArg List.length hr
   simp at this
   omega
  unfold qA
  refine bWr (fun e1 => ?_) (fun e1 => ?_)
  ·omega
  ·refine yj ?_
   unfold gE
   exact bVs ⟨rfl, S⟩
 | x :: r, r', I, A, Q, L, h, s, s', ks, ks', i, j, N, N', hr, hr', hl, hi, S => by
  obtain ⟨y, r', rfl⟩ : ∃ y q, r' = y :: q := by cases r' with
   | nil => simp at hl
   | cons y q => exact ⟨y, q, rfl⟩
  refine bVx j (ll := fun n p => jT (aK n) n p s' (.f 37 [] []) s (.i .i64 (ks.length : Int)) (.i .i64 (i : Int)) h) (bb := fun n p => qA (aK n) n (jT (aK n) n p) s' (.f 37 [] []) s (.i .i64 (ks.length : Int)) (.i .i64 (i : Int)) h) (fun _ _ => rfl) ?_
  have hx : ks[i]? = some x := dA0 hr
  have hy : ks'[i]? = some y := by
   have := congrArg (fun l => l[0]?) hr'
   simpa [aJ] using this
  have hlt := (gLt hx)
  have e1' : ks.drop (i + 1) = r := dA1 hr
  have e2' : ks'.drop (i + 1) = r' := by
   have := congrArg (List.drop 1) hr'
   simpa [aJ, List.drop_drop] using this
  have hb := N.1
  unfold qA
  refine bWr (fun e1 => ?_) (fun e1 => ?_)
  ·refine yt ?_
   obtain ⟨p1, q1, d1, u1, u2, u3⟩ := N.at hx
   obtain ⟨p2, q2, d2, v1, v2, v3⟩ := N'.at hy
   obtain ⟨l1, k1, m1⟩ := u2.shape
   obtain ⟨l2, k2, m2⟩ := v2.shape
   refine Ev.op (u1 _) (Ev.op (u3 _ _ _ _ _ (ILe.refl _) S) ?_)
   refine wa fun _ _ _ => ?_; refine wt fun _ _ => ?_
   refine Ev.op (v1 _) (Ev.op (v3 _ _ _ _ _ (ILe.refl _) (by assumption)) ?_)
   refine wa fun _ _ _ => ?_; refine wt fun _ _ => ?_; refine ws ?_; refine ws ?_
   simp only [bCe]
   refine bVq (aCq x y I A Q _ _ d1 d2 (by assumption) u2 v2) ?_
   rintro _ h1 ⟨rfl, S1⟩
   simp only [oX]
   cases e : nEq x y with
   | false =>
    refine ao (yt ?_)
    exact bVs ⟨by simp, dp⟩
   | true =>
    refine an (yj ?_)
    refine bWa ?_
    rw [vU (by omega)]
    refine (aBn r r' I A Q L h1 s s' ks ks' (i + 1) (j + 1) N N' e1' e2' (by simpa using hl) (by omega) (dp)).mono ?_
    rintro v h' ⟨rfl, S2⟩
    exact ⟨by simp, S2⟩
  ·omega
end
end Go.Dd

namespace Go.Dd
open Go.Proofs
section
variable {I : Im} {A Q L : Ls}
end
end Go.Dd

namespace Go.Dd
open Go.Proofs
theorem bUh {l : List Nat} {b : Nat} (h2 : b ≤ l.length) (h : Hp) : eC (.s l) none (some (.i .i64 (Int.ofNat b))) h = some (.s (l.take b), h) := by
 have e1 : loD none b = some 0 := by simp [loD]
 have e2 : hiD (some (.i .i64 (Int.ofNat b))) l.length l.length = some b := by
  show (if 0 ≤ (Int.ofNat b) ∧ (Int.ofNat b) ≤ (l.length : Int) then some (Int.ofNat b).toNat else none) = _
  have hi' : (Int.ofNat b) = (b : Int) := rfl
  rw [if_pos ⟨by omega, by omega⟩]
  rfl
 simp only [eC, e1, e2, List.drop_zero]
theorem aDy {H : PF} {f : Nat} {lx : List Tok × Int × Int} (h : lx.2.2 = 0) : fI H f lx = fI H f (lx.1, 0, 0) := by
 unfold fI
 rw [if_pos h, if_pos rfl]
theorem bRn {u : List Nat} (hu : u.length ≤ 2000) : ∃ lx res, mR 2001 2001 u = some lx ∧ fI qS 2004 lx = some res ∧ (res.2.2 = 0 → lx.2.2 = 0 ∧ lx.1.length ≤ 2001 ∧ Good lx.1 ∧ qU lx.1 ≤ fX res.1 ∧ fX res.1 ≤ iK lx.1) := by
 obtain ⟨lx, hl, hg⟩ := bLc hu
 by_cases e : lx.2.2 = 0
 ·obtain ⟨g1, g2⟩ := hg e
  obtain ⟨x, a, e', h1, h2⟩ := bPz (f := 2004) g1 (by omega) (by omega)
  refine ⟨lx, _, hl, (aDy e).trans h1, fun h => ⟨e, g2, g1, h2 h⟩⟩
 ·refine ⟨lx, (zN, lx.2.1, lx.2.2), hl, ?_, fun h => absurd h e⟩
  unfold fI
  rw [if_neg e]
end Go.Dd

namespace Go.Dd
section
variable {α β : Type} {V : α → α → Prop} {W : β → β → Prop}
end
variable {s s' : PSt}
def aJa (f : Nat) (x : Node) (st : PSt) : Option (Node × PSt) := (fT f st).bind fun b => (cY (dK f) f [] b.2).bind fun c => (cJ c.2 0 []).bind fun d => some (x.with b.1 c.1, d.2)
theorem aEl (H : PF) (f : Nat) (l : List Tok) : fI H f (l, 0, 0) = (H ⟨l, 0, 0, 0⟩).bind fun a => (aJa f a.1 a.2).bind fun d => if d.2.err = 0 then some (d.1, 0, 0) else some (zN, d.2.pos, d.2.err) := by
 unfold fI aJa
 rw [if_pos rfl]
 cases H ⟨l, 0, 0, 0⟩ with
 | none => rfl
 | some a =>
  simp only [Option.bind_some]
  cases fT f a.2 with
  | none => rfl
  | some b =>
   simp only [Option.bind_some]
   cases cY (dK f) f [] b.2 with
   | none => rfl
   | some c =>
    simp only [Option.bind_some]
    cases cJ c.2 0 [] with
    | none => rfl
    | some d => rfl
end Go.Dd

namespace Go.Dd
def aOc (c : Nat) : Prop := cU c = false ∧ c ≠ 58 ∧ c ≠ 61 ∧ cX signs c = false ∧ c ≠ 39
def Stop (v : List Nat) : Prop := aOc (nx v 0)
def aIl (v : List Nat) : Prop := cX signs (nx v 0) = false
theorem Stop.three {v : List Nat} (h : Stop v) : aIl v := by
 exact h.2.2.2.1
theorem aCn {c : Nat} (h : cU c = false) : bJ c = false := by
 unfold cU at h
 cases e : bJ c with
 | false => rfl
 | true => rw [e] at h; simp at h
theorem aFw (so : Nat → Bool) : ∀ (u : List Nat) (k : Nat) (v : List Nat), (∀ c r, v = c :: r → so c = false) → (u.takeWhile so).length ≤ k → k ≤ u.length → (u.take k ++ v).takeWhile so = u.takeWhile so
 | [], k, v, hv, h1, h2 => by
  have : k = 0 := by simpa using h2
  subst this
  cases v with
  | nil => rfl
  | cons c r => simp [hv c r rfl]
 | a :: u, 0, v, hv, h1, h2 => by
  have ha : so a = false := by
   cases e : so a with
   | false => rfl
   | true => simp [e] at h1
  cases v with
  | nil => simp [ha]
  | cons c r => simp [hv c r rfl, ha]
 | a :: u, k + 1, v, hv, h1, h2 => by
  cases e : so a with
  | false => simp [e]
  | true =>
   simp [e] at h1 h2
   have := aFw so u k v hv h1 h2
   simp [e, this]
theorem zW (so : Nat → Bool) : ∀ (u : List Nat) (k : Nat) (v : List Nat), (u.takeWhile so).length < k → k ≤ u.length → (u.take k ++ v).takeWhile so = u.takeWhile so
 | [], k, v, h1, h2 => by simp at h1 h2; omega
 | a :: u, 0, v, h1, h2 => by omega
 | a :: u, k + 1, v, h1, h2 => by
  cases e : so a with
  | false => simp [e]
  | true =>
   simp [e] at h1 h2
   have := zW so u k v h1 h2
   simp [e, this]
theorem aAt (so : Nat → Bool) : ∀ (m : Nat) (u : List Nat) (k : Nat) (v : List Nat), (∀ c r, v = c :: r → so c = false) → bI so m u ≤ k → k ≤ u.length → bI so m (u.take k ++ v) = bI so m u
 | 0, u, k, v, hv, h1, h2 => rfl
 | m + 1, [], k, v, hv, h1, h2 => by
  have : k = 0 := by simpa using h2
  subst this
  cases v with
  | nil => rfl
  | cons c r => simp [bI, hv c r rfl]
 | m + 1, a :: u, 0, v, hv, h1, h2 => by
  have ha : so a = false := by
   cases e : so a with
   | false => rfl
   | true => simp [bI, e] at h1
  cases v with
  | nil => simp [bI, ha]
  | cons c r => simp [bI, hv c r rfl, ha]
 | m + 1, a :: u, k + 1, v, hv, h1, h2 => by
  cases e : so a with
  | false => simp [bI, e]
  | true =>
   simp [bI, e] at h1 h2
   have := aAt so m u k v hv h1 h2
   simp [bI, e, this]
theorem gW {u v : List Nat} {k j : Nat} (h : j < k) (hk : k ≤ u.length) : nx (u.take k ++ v) j = nx u j := by
 unfold nx
 rw [List.getD, List.getD, List.getElem?_append_left (by simp; omega), List.getElem?_take_of_lt h]
theorem aJq {u v : List Nat} {k : Nat} (hk : k ≤ u.length) : nx (u.take k ++ v) k = nx v 0 := by
 unfold nx
 rw [List.getD, List.getD, List.getElem?_append_right (by simp; omega)]
 simp [Nat.min_eq_left hk]
theorem iJ {u v : List Nat} {k j : Nat} (h : j ≤ k) (hk : k ≤ u.length) : (u.take k ++ v).drop j = (u.drop j).take (k - j) ++ v := by
 rw [List.drop_append_of_le_length (by simp; omega), List.drop_take]
theorem nxd (u : List Nat) (j k : Nat) : nx (u.drop j) k = nx u (j + k) := by
 unfold nx
 rw [List.getD, List.getD, List.getElem?_drop]
theorem pM {u v : List Nat} {k : Nat} (hv : ∀ c r, v = c :: r → cU c = false) (h1 : (aI u).2.2 ≤ k) (h2 : k ≤ u.length) : aI (u.take k ++ v) = aI u := by
 rw [wG] at h1
 unfold aI
 rw [aFw cU u k v hv h1 h2]
theorem Stop.name {v : List Nat} (h : Stop v) : ∀ c r, v = c :: r → cU c = false := by
 intro c r e
 subst e
 exact h.1
theorem bXw {v : List Nat} (h : aIl v) : ∀ c r, v = c :: r → cX signs c = false := by
 intro c r e
 subst e
 exact h
theorem Stop.head {v : List Nat} (h : Stop v) : aOc (nx v 0) := h
theorem oA {v : List Nat} (h : Stop v) : cQ v = false := by
 unfold cQ
 simp [h.head.2.1]
theorem aNb {u v : List Nat} {n : Nat} (hn : n + 1 ≤ u.length) (h : Stop v) : cQ ((u.take (n + 1) ++ v).drop n) = decide (nx u n = 58) := by
 unfold cQ
 rw [nxd, nxd, gW (by omega) hn, aJq hn]
 simp [h.head.2.2.1]
theorem pR {u : List Nat} {n : Nat} (h : cQ (u.drop n) = true) : nx u n = 58 := by
 unfold cQ at h
 rw [nxd] at h
 simp at h
 exact h.1
theorem aEw {c : Nat} (h : aT c = true) : cX signs c = false ∧ c ≠ 39 ∧ c ≠ 34 := by
 simp [aT] at h
 refine ⟨?_, by omega, by omega⟩
 cases e : cX signs c with
 | false => rfl
 | true =>
  exfalso
  simp [cX, signs] at e
  omega
theorem aDj : ∀ (f : Nat) (out u : List Nat) (res : List Nat × Int × Nat), jA f out u = some res → res.2.2 ≤ u.length ∧ (res.2.1 = 0 → ∀ v, nx v 0 ≠ 39 → jA f out (u.take res.2.2 ++ v) = some res)
 | 0, out, u, res, h => by cases h
 | f + 1, out, u, res, h => by
  have hl := oH cH u
  unfold jA at h
  by_cases h1 : (u.takeWhile cH).length = u.length
  ·rw [if_pos h1] at h
   cases h
   exact ⟨Nat.le_refl _, fun e => by cases e⟩
  ·rw [if_neg h1] at h
   by_cases h2 : nx u ((u.takeWhile cH).length + 1) = 39
   ·rw [if_pos h2] at h
    obtain ⟨r, e1, e2⟩ := bE h
    cases e2
    obtain ⟨a1, a2⟩ := aDj f _ _ r e1
    have h3 : (u.takeWhile cH).length + 1 < u.length := by
     apply Decidable.byContradiction
     intro hn
     rw [nx, List.getD, List.getElem?_eq_none (by omega)] at h2
     cases h2
    simp at a1
    refine ⟨by show r.2.2 + _ ≤ _; omega, fun e v hv => ?_⟩
    have e0 : (r.1, r.2.1, r.2.2 + ((u.takeWhile cH).length + 2)).2.2 = r.2.2 + ((u.takeWhile cH).length + 2) := rfl
    rw [e0]
    have ht : (u.take (r.2.2 + ((u.takeWhile cH).length + 2)) ++ v).takeWhile cH = u.takeWhile cH := zW cH u _ v (by omega) (by omega)
    unfold jA
    rw [ht]
    rw [if_neg (by simp; omega), gW (by omega) (by omega), if_pos h2, iJ (by omega) (by omega)]
    rw [show r.2.2 + ((u.takeWhile cH).length + 2) - ((u.takeWhile cH).length + 2) = r.2.2 by omega, a2 e v hv]
    rfl
   ·rw [if_neg h2] at h
    cases h
    refine ⟨by show _ + 1 ≤ _; omega, fun _ v hv => ?_⟩
    show jA (f + 1) out (u.take ((u.takeWhile cH).length + 1) ++ v) = _
    have hk : (u.takeWhile cH).length + 1 ≤ u.length := by omega
    have ht : (u.take ((u.takeWhile cH).length + 1) ++ v).takeWhile cH = u.takeWhile cH := zW cH u _ v (by omega) hk
    unfold jA
    rw [ht, if_neg (by simp; omega), aJq hk, if_neg hv]
theorem aDm : ∀ (f : Nat) (out u : List Nat) (res : List Nat × Int × Nat), mO f out u = some res → res.2.1 = 0 → ∀ v, Stop v → mO f out (u.take res.2.2 ++ v) = some res
 | 0, out, u, res, h => by cases h
 | f + 1, out, u, res, h => by
  intro he v hv
  have hlen := (mG (f + 1) out u res h).1
  have fin : res = (out, 0, 0) → mO (f + 1) out (u.take res.2.2 ++ v) = some res := by
   rintro rfl
   show mO (f + 1) out (u.take 0 ++ v) = _
   rw [List.take_zero, List.nil_append]
   unfold mO
   rw [if_neg (by simp [aCn hv.head.1])]
  unfold mO at h
  split at h
  ·rename_i h1
   split at h
   ·rename_i h2
    split at h
    ·rename_i h3
     obtain ⟨r, e1, e2⟩ := bE h
     cases e2
     have hc := iG h2
     simp at hc
     have hlr := (mG f _ _ r e1).1
     simp at hlr
     have ih := aDm f _ _ r e1 he v hv
     show mO (f + 1) out (u.take (r.2.2 + ((aI u).2.2 + 1)) ++ v) = _
     have hk : r.2.2 + ((aI u).2.2 + 1) ≤ u.length := by omega
     have en : aI (u.take (r.2.2 + ((aI u).2.2 + 1)) ++ v) = aI u := pM hv.name (by omega) hk
     unfold mO
     rw [gW (by omega) hk, if_pos h1, en]
     have ec : cQ ((u.take (r.2.2 + ((aI u).2.2 + 1)) ++ v).drop (aI u).2.2) = true := by
      have hd := pR h2
      unfold cQ at h2 ⊢
      rw [nxd, nxd] at h2 ⊢
      rw [gW (by omega) hk]
      by_cases hr : r.2.2 = 0
      ·rw [hr, Nat.zero_add, aJq (by omega)]
       simp [hd, hv.head.2.2.1]
      ·rw [gW (by omega) hk]
       exact h2
     rw [if_pos ec, if_pos h3, iJ (by omega) hk, show r.2.2 + ((aI u).2.2 + 1) - ((aI u).2.2 + 1) = r.2.2 by omega, ih]
     rfl
    ·rename_i h3
     cases h
     exact absurd he h3
   ·cases h; exact fin rfl
  ·cases h; exact fin rfl
theorem uQ {f : Nat} {u : List Nat} {res : List Nat × Int × Nat} (h : dP f u = some res) (he : res.2.1 = 0) : 1 ≤ res.2.2 := by
 unfold dP at h
 split at h
 ·split at h
  ·rename_i h1
   have := oF h1
   split at h
   ·split at h
    ·obtain ⟨r, e1, e2⟩ := bE h
     cases e2
     show 1 ≤ r.2.2 + _
     omega
    ·cases h; exact this
   ·cases h; exact this
  ·cases h; cases he
 ·rename_i h1
  cases h
  show 1 ≤ bI _ _ _
  omega
theorem aFo {f : Nat} {u : List Nat} {res : List Nat × Int × Nat} (h : dP f u = some res) (he : res.2.1 = 0) {v : List Nat} (hv : Stop v) : dP f (u.take res.2.2 ++ v) = some res := by
 have hlen := (lC h).1
 have hpos := uQ h he
 have hs : bI (cX signs) 2 u ≤ res.2.2 → bI (cX signs) 2 (u.take res.2.2 ++ v) = bI (cX signs) 2 u := fun hh => aAt _ 2 u _ v (bXw hv.three) hh hlen
 unfold dP at h
 by_cases h0 : bI (cX signs) 2 u = 0
 ·rw [if_pos h0] at h
  have hs := hs (by omega)
  split at h
  ·rename_i h1
   split at h
   ·rename_i h2
    split at h
    ·rename_i h3
     obtain ⟨r, e1, e2⟩ := bE h
     cases e2
     have hc := iG h3
     simp at hc
     have hlr := (mG f _ _ r e1).1
     simp at hlr
     have ih := aDm f _ _ r e1 he v hv
     have hk : r.2.2 + ((aI u).2.2 + 1) ≤ u.length := by omega
     have en : aI (u.take (r.2.2 + ((aI u).2.2 + 1)) ++ v) = aI u := pM hv.name (by omega) hk
     show dP f (u.take (r.2.2 + ((aI u).2.2 + 1)) ++ v) = _
     unfold dP
     rw [show bI (cX signs) 2 (u.take (r.2.2 + ((aI u).2.2 + 1)) ++ v) = 0 from hs.trans h0, if_pos rfl, gW (by omega) hk, if_pos h1, en, if_pos h2]
     have ec : cQ ((u.take (r.2.2 + ((aI u).2.2 + 1)) ++ v).drop (aI u).2.2) = true := by
      have hd := pR h3
      unfold cQ at h3 ⊢
      rw [nxd, nxd] at h3 ⊢
      rw [gW (by omega) hk]
      by_cases hr : r.2.2 = 0
      ·rw [hr, Nat.zero_add, aJq (by omega)]
       simp [hd, hv.head.2.2.1]
      ·rw [gW (by omega) hk]
       exact h3
     rw [if_pos ec, iJ (by omega) hk, show r.2.2 + ((aI u).2.2 + 1) - ((aI u).2.2 + 1) = r.2.2 by omega, ih]
     rfl
    ·rename_i h3
     cases h
     show dP f (u.take (aI u).2.2 ++ v) = _
     have hlen : (aI u).2.2 ≤ u.length := hlen
     have en : aI (u.take (aI u).2.2 ++ v) = aI u := pM hv.name (Nat.le_refl _) hlen
     unfold dP
     rw [show bI (cX signs) 2 (u.take (aI u).2.2 ++ v) = 0 from hs.trans h0, if_pos rfl, gW (oF h1) hlen, if_pos h1, en, if_pos h2, iJ (Nat.le_refl _) hlen, Nat.sub_self]
     rw [show cQ (List.take 0 (u.drop (aI u).2.2) ++ v) = false from oA hv]
     rfl
   ·rename_i h2
    cases h
    exact absurd he h2
  ·cases h; cases he
 ·rw [if_neg h0] at h
  cases h
  show dP f (u.take (bI (cX signs) 2 u) ++ v) = _
  have hs := hs (Nat.le_refl _)
  have hlen : bI (cX signs) 2 u ≤ u.length := hlen
  have hs : bI (cX signs) 2 (u.take (bI (cX signs) 2 u) ++ v) = bI (cX signs) 2 u := hs
  unfold dP
  rw [hs, if_neg h0, List.take_append_of_le_length (by simp; omega), List.take_take, Nat.min_self]
theorem aMk {f : Nat} {u : List Nat} {rs : Int × List Nat × Int × Int × Nat} (h : aW f u = some rs) (he : rs.2.2.2.1 = 0) (hp : 1 ≤ rs.2.2.2.2) (hl : rs.2.2.2.2 ≤ u.length) {v : List Nat} (h3 : rs.1 = 3 → aIl v) (hv : rs.1 ≠ 3 → Stop v) :
 aW f (u.take rs.2.2.2.2 ++ v) = some rs := by
 have n0 : nx (u.take rs.2.2.2.2 ++ v) 0 = nx u 0 := gW hp hl
 unfold aW at h
 by_cases h1 : bJ (nx u 0) = true
 ·rw [if_pos h1] at h
  by_cases h2 : (aI u).2.1 = 0
  ·rw [if_pos h2] at h
   by_cases hc : cQ (u.drop (aI u).2.2) = true
   ·rw [if_pos hc] at h
    cases h
    have hv := hv (by show (2 : Int) ≠ 3; decide)
    have hl : (aI u).2.2 + 1 ≤ u.length := hl
    have n0 : nx (u.take ((aI u).2.2 + 1) ++ v) 0 = nx u 0 := n0
    show aW f (u.take ((aI u).2.2 + 1) ++ v) = _
    unfold aW
    rw [n0, if_pos h1, pM hv.name (by omega) hl, if_pos h2, aNb hl hv, pR hc]
    rfl
   ·rw [if_neg hc] at h
    cases h
    have hv := hv (by show (1 : Int) ≠ 3; decide)
    have hl : (aI u).2.2 ≤ u.length := hl
    have n0 : nx (u.take (aI u).2.2 ++ v) 0 = nx u 0 := n0
    show aW f (u.take (aI u).2.2 ++ v) = _
    unfold aW
    rw [n0, if_pos h1, pM hv.name (Nat.le_refl _) hl, if_pos h2, iJ (Nat.le_refl _) hl, Nat.sub_self]
    rw [show cQ (List.take 0 (u.drop (aI u).2.2) ++ v) = false from oA hv]
    rfl
  ·rw [if_neg h2] at h
   cases h
   exact absurd he h2
 ·rw [if_neg h1] at h
  by_cases hd : aT (nx u 0) = true
  ·rw [if_pos hd] at h
   cases h
   have hv := hv (by show (4 : Int) ≠ 3; decide)
   have hl : (u.takeWhile aT).length ≤ u.length := hl
   have n0 : nx (u.take (u.takeWhile aT).length ++ v) 0 = nx u 0 := n0
   show aW f (u.take (u.takeWhile aT).length ++ v) = _
   have ht : (u.take (u.takeWhile aT).length ++ v).takeWhile aT = u.takeWhile aT := aFw aT u _ v (fun c r e => by
    have := hv.name c r e
    unfold cU at this
    cases e2 : aT c with
    | false => rfl
    | true => rw [e2] at this; simp at this) (Nat.le_refl _) hl
   unfold aW dE
   rw [n0, if_neg h1, if_pos hd, ht]
  ·rw [if_neg hd] at h
   by_cases hq : nx u 0 = 39
   ·rw [if_pos hq] at h
    obtain ⟨r, e1, e2⟩ := bE h
    cases e2
    have hv := hv (by show (5 : Int) ≠ 3; decide)
    have hl : r.2.2 + 1 ≤ u.length := hl
    have n0 : nx (u.take (r.2.2 + 1) ++ v) 0 = nx u 0 := n0
    show aW f (u.take (r.2.2 + 1) ++ v) = _
    unfold aW
    rw [n0, if_neg h1, if_neg hd, if_pos hq, iJ (by omega) hl, Nat.add_sub_cancel, (aDj f _ _ r e1).2 he v hv.head.2.2.2.2]
    rfl
   ·rw [if_neg hq] at h
    by_cases hh : nx u 0 = 35
    ·rw [if_pos hh] at h
     by_cases h40 : nx u 1 = 40
     ·rw [if_pos h40] at h
      cases h
      have hl : 2 ≤ u.length := hl
      have n0 : nx (u.take 2 ++ v) 0 = nx u 0 := n0
      show aW f (u.take 2 ++ v) = _
      unfold aW
      rw [n0, if_neg h1, if_neg hd, if_neg hq, if_pos hh, gW (by omega) hl, if_pos h40]
     ·rw [if_neg h40] at h
      obtain ⟨r, e1, e2⟩ := bE h
      cases e2
      have hv := hv (by show (6 : Int) ≠ 3; decide)
      have hl : r.2.2 + 1 ≤ u.length := hl
      have n0 : nx (u.take (r.2.2 + 1) ++ v) 0 = nx u 0 := n0
      have hp := uQ e1 he
      show aW f (u.take (r.2.2 + 1) ++ v) = _
      unfold aW
      rw [n0, if_neg h1, if_neg hd, if_neg hq, if_pos hh, gW (by omega) hl, if_neg h40, iJ (by omega) hl, Nat.add_sub_cancel, aFo e1 he hv]
      rfl
    ·rw [if_neg hh] at h
     by_cases ha : nx u 0 = 58 ∧ nx u 1 = 61
     ·rw [if_pos ha] at h
      cases h
      have hl : 2 ≤ u.length := hl
      have n0 : nx (u.take 2 ++ v) 0 = nx u 0 := n0
      show aW f (u.take 2 ++ v) = _
      unfold aW
      rw [n0, if_neg h1, if_neg hd, if_neg hq, if_neg hh, gW (by omega) hl, if_pos ha]
     ·rw [if_neg ha] at h
      by_cases hb : nx u 0 = 58 ∧ bJ (nx u 1) = true
      ·rw [if_pos hb] at h
       cases h
       have hv := hv (by show (8 : Int) ≠ 3; decide)
       have hl : (aI (u.drop 1)).2.2 + 1 ≤ u.length := hl
       have n0 : nx (u.take ((aI (u.drop 1)).2.2 + 1) ++ v) 0 = nx u 0 := n0
       have hp : 1 ≤ (aI (u.drop 1)).2.2 := oF (by rw [nxd]; exact hb.2)
       show aW f (u.take ((aI (u.drop 1)).2.2 + 1) ++ v) = _
       unfold aW
       rw [n0, if_neg h1, if_neg hd, if_neg hq, if_neg hh, gW (by omega) hl, if_neg ha, if_pos hb, iJ (by omega) hl, Nat.add_sub_cancel, pM hv.name (Nat.le_refl _) (by rw [List.length_drop]; omega)]
      ·rw [if_neg hb] at h
       have z58 : (cX signs (nx u 0) = true ∨ cX dN (nx u 0) = true) → nx u 0 ≠ 58 := by
        intro hh e
        rw [e] at hh
        rcases hh with hh | hh <;> exact absurd hh (by decide)
       by_cases hs : cX signs (nx u 0) = true
       ·rw [if_pos hs] at h
        cases h
        have h3 := h3 rfl
        have hl : bI (cX signs) 2 u ≤ u.length := hl
        have n0 : nx (u.take (bI (cX signs) 2 u) ++ v) 0 = nx u 0 := n0
        have z := z58 (.inl hs)
        show aW f (u.take (bI (cX signs) 2 u) ++ v) = _
        unfold aW
        rw [n0, if_neg h1, if_neg hd, if_neg hq, if_neg hh, if_neg (fun x => z x.1), if_neg (fun x => z x.1), if_pos hs, aAt _ 2 u _ v (bXw h3) (Nat.le_refl _) hl,
         List.take_append_of_le_length (by simp; omega), List.take_take, Nat.min_self]
       ·rw [if_neg hs] at h
        by_cases hm : cX dN (nx u 0) = true
        ·rw [if_pos hm] at h
         cases h
         have hl : bI (cX dN) 1 u ≤ u.length := hl
         have n0 : nx (u.take (bI (cX dN) 1 u) ++ v) 0 = nx u 0 := n0
         have z := z58 (.inr hm)
         have r1 : bI (cX dN) 1 u = 1 := by
          cases u with
          | nil => simp [bI] at hp
          | cons c u =>
           have : cX dN c = true := hm
           simp [bI, this]
         show aW f (u.take (bI (cX dN) 1 u) ++ v) = _
         have r2 : bI (cX dN) 1 (u.take (bI (cX dN) 1 u) ++ v) = 1 := by
          rw [r1]
          cases u with
          | nil => simp [bI] at r1
          | cons c u =>
           have : cX dN c = true := hm
           simp [bI, this]
         unfold aW
         rw [n0, if_neg h1, if_neg hd, if_neg hq, if_neg hh, if_neg (fun x => z x.1), if_neg (fun x => z x.1), if_neg hs, if_pos hm, r2, r1]
         rw [List.take_append_of_le_length (by simp; omega), List.take_take, Nat.min_self]
        ·rw [if_neg hm] at h
         cases h
         cases he
theorem aGa {f : Nat} {u : List Nat} {rs : Int × List Nat × Int × Int × Nat} (h : aW f u = some rs) (he : rs.2.2.2.1 = 0) : cX cB (nx u 0) = false ∧ nx u 0 ≠ 34 ∧ (rs.1 = 4 → aT (nx u 0) = true) := by
 have no : (cX cB (nx u 0) = true ∨ nx u 0 = 34) → False := by
  intro hh
  have hc : nx u 0 = 9 ∨ nx u 0 = 10 ∨ nx u 0 = 13 ∨ nx u 0 = 32 ∨ nx u 0 = 34 := by
   rcases hh with hh | hh
   ·simp [cX, cB] at hh; omega
   ·omega
  unfold aW at h
  generalize hx : nx u 0 = x at *
  rcases hc with rfl | rfl | rfl | rfl | rfl <;>
  ·simp (config := { decide := true }) only [if_false, false_and] at h
   simp [cX, signs, dN, bJ, aT] at h
   rw [← h] at he
   cases he
 refine ⟨?_, fun e => no (.inr e), fun e => ?_⟩
 ·cases e : cX cB (nx u 0) with
  | false => rfl
  | true => exact (no (.inl e)).elim
 ·apply Decidable.byContradiction
  intro hd
  unfold aW at h
  rw [if_neg hd] at h
  repeat' split at h
  all_goals first
   | (cases h; simp at e)
   | (obtain ⟨r, e1, e2⟩ := bE h; cases e2; simp at e)
end Go.Dd

namespace Go.Dd
inductive Gap : List Nat → Prop
 | nil : Gap []
 | blank (c : Nat) (w : List Nat) : cX cB c = true → Gap w → Gap (c :: w)
 | rem (r w : List Nat) : (∀ c ∈ r, c ≠ 34) → Gap w → Gap (34 :: (r ++ 34 :: w))
theorem Gap.app {a b : List Nat} (h : Gap a) (k : Gap b) : Gap (a ++ b) := by
 induction h with
 | nil => exact k
 | blank c w hc _ ih => exact .blank c _ hc ih
 | rem r w hr _ ih => simpa using Gap.rem r (w ++ b) hr ih
inductive Lx (g : Nat) : List Nat → Nat → List Tok → Prop
 | fin (w : List Nat) (p : Nat) : Gap w → Lx g w p [⟨0, [], 0, ((p + w.length : Nat) : Int)⟩]
 | tok (w u : List Nat) (p k : Nat) (rs : Int × List Nat × Int × Int × Nat) (l : List Tok) : Gap w → aW g u = some rs → rs.2.2.2.1 = 0 → rs.2.2.2.2 = k → 1 ≤ k → k ≤ u.length → rs.1 ≠ 0 →
  Lx g (u.drop k) (p + w.length + k) l → Lx g (w ++ u) p (⟨rs.1, rs.2.1, rs.2.2.1, ((p + w.length : Nat) : Int)⟩ :: l)
theorem bZe {g : Nat} {u : List Nat} {p : Nat} {l : List Tok} {w : List Nat} (h : Lx g u (p + w.length) l) (k : Gap w) : Lx g (w ++ u) p l := by
 generalize hp : p + w.length = q at h
 cases h with
 | fin _ _ g' =>
  have := Lx.fin (g := g) (w ++ u) p (k.app g')
  rw [List.length_append, ← Nat.add_assoc, hp] at this
  exact this
 | tok w' u _ k' rs l g' h1 h2 h3 h4 h5 h6 h7 =>
  have := Lx.tok (g := g) (w ++ w') u p k' rs l (k.app g') h1 h2 h3 h4 h5 h6 (by rw [List.length_append, ← Nat.add_assoc, hp]; exact h7)
  rw [List.length_append, ← Nat.add_assoc, hp, List.append_assoc] at this
  exact this
theorem Lx.first {g : Nat} {v : List Nat} {m : Nat} {ll : List Tok} (h : Lx g v m ll) : ∃ a b, ll = a :: b ∧ ∃ w, Gap w ∧ a.pos = ((m + w.length : Nat) : Int) ∧ v.take w.length = w ∧ w.length ≤ v.length := by
 cases h with
 | fin _ _ hw => exact ⟨_, _, rfl, v, hw, rfl, by simp, Nat.le_refl _⟩
 | tok w u _ _ _ _ hw => exact ⟨_, _, rfl, w, hw, rfl, by simp, by simp⟩
theorem aCm (r v : List Nat) (c : Nat) : (r ++ c :: v).drop (r.length + 1) = v := by
 rw [show r.length + 1 = (r ++ [c]).length by simp, show r ++ c :: v = (r ++ [c]) ++ v by simp, List.drop_left]
theorem tF : ∀ (u : List Nat), Gap (u.takeWhile (cX cB))
 | [] => .nil
 | c :: u => by
  cases e : cX cB c with
  | false => simp [e]; exact .nil
  | true => simp [e]; exact .blank c _ e (tF u)
theorem wH : ∀ (u : List Nat) (i k : Nat), cZ 34 u i = ((i + k : Nat) : Int) → ∃ r w, u = r ++ 34 :: w ∧ r.length = k ∧ ∀ c ∈ r, c ≠ 34
 | [], i, k, h => by
  have : cZ 34 [] i = -1 := rfl
  omega
 | c :: u, i, k, h => by
  have e : cZ 34 (c :: u) i = bif Nat.beq c 34 then Int.ofNat i else cZ 34 u (i + 1) := rfl
  cases hc : Nat.beq c 34 with
  | true =>
   rw [e, hc] at h
   have : c = 34 := Nat.eq_of_beq_eq_true hc
   subst this
   have h : (i : Int) = ((i + k : Nat) : Int) := h
   exact ⟨[], u, rfl, by simp; omega, by simp⟩
  | false =>
   rw [e, hc] at h
   have h : cZ 34 u (i + 1) = ((i + k : Nat) : Int) := h
   have hne : c ≠ 34 := fun e2 => by rw [e2] at hc; cases hc
   have hk : 1 ≤ k := by
    apply Decidable.byContradiction
    intro hn
    have hge := lT 34 u (i + 1) (by omega)
    obtain ⟨k', h1, h2⟩ := hge
    omega
   obtain ⟨r, w, a, b, d⟩ := wH u (i + 1) (k - 1) (by rw [h]; congr 1; omega)
   refine ⟨c :: r, w, by rw [a]; rfl, by simp [b]; omega, fun x hx => ?_⟩
   rcases List.mem_cons.1 hx with rfl | hx
   ·exact hne
   ·exact d x hx
theorem bCw (so : Nat → Bool) (u : List Nat) : u = u.takeWhile so ++ u.drop (u.takeWhile so).length := by
 induction u with
 | nil => rfl
 | cons c u ih =>
  cases e : so c with
  | false => simp [e]
  | true =>
   simp [e]
   exact ih
theorem xQ {g : Nat} {s : List Nat} (hg : s.length < g) : ∀ (f i : Nat) (out : List Tok) (res : List Tok × Int × Int), i ≤ s.length → iQ g s f i out = some res → res.2.2 = 0 → ∃ l, res = (out ++ l, 0, 0) ∧ Lx g (s.drop i) i l
 | 0, i, out, res, hi, h => by cases h
 | f + 1, i, out, res, hi, h => by
  intro he
  have hle := oH (cX cB) (s.drop i)
  have hdl : (s.drop i).length = s.length - i := by simp
  have hsp := bCw (cX cB) (s.drop i)
  have hgap := tF (s.drop i)
  unfold iQ at h
  generalize hw : (s.drop i).takeWhile (cX cB) = w at *
  rw [List.drop_drop] at hsp
  by_cases h1 : s.length ≤ i + w.length
  ·rw [if_pos h1] at h
   cases h
   refine ⟨_, rfl, ?_⟩
   rw [List.drop_eq_nil_of_le h1, List.append_nil] at hsp
   rw [hsp, show s.length = i + w.length by omega]
   exact .fin w i hgap
  ·rw [if_neg h1] at h
   by_cases h2 : nx s (i + w.length) = 34
   ·rw [if_pos h2] at h
    by_cases h3 : cZ 34 (s.drop (i + w.length + 1)) 0 < 0
    ·rw [if_pos h3] at h
     cases h
     cases he
    ·rw [if_neg h3] at h
     obtain ⟨k, k1, k2⟩ := lT 34 _ _ h3
     obtain ⟨r, w', a1, a2, a3⟩ := wH _ 0 k k2
     rw [k2] at h
     simp only [Nat.zero_add, Int.toNat_natCast] at h
     simp at k1
     obtain ⟨l, b1, b2⟩ := xQ hg f _ out res (by omega) h he
     refine ⟨l, b1, ?_⟩
     rw [hsp]
     have hd : s.drop (i + w.length) = 34 :: (r ++ 34 :: w') := by
      rw [← a1]
      have hlt : i + w.length < s.length := by omega
      rw [List.drop_eq_getElem_cons hlt]
      congr 1
      rw [nx, List.getD, List.getElem?_eq_getElem hlt] at h2
      exact h2
     have hd2 : s.drop (i + w.length + k + 2) = w' := by
      rw [show i + w.length + k + 2 = (i + w.length) + (k + 2) by omega, ← List.drop_drop, hd]
      rw [show k + 2 = (k + 1) + 1 by omega, List.drop_succ_cons, ← a2, aCm]
     rw [hd2] at b2
     rw [hd]
     have := bZe (w := w ++ 34 :: (r ++ [34])) (p := i) (u := w') (by
      have e : i + (w ++ 34 :: (r ++ [34])).length = i + w.length + k + 2 := by simp; omega
      rw [e]; exact b2) (hgap.app (by simpa using Gap.rem r [] a3 .nil))
     simpa using this
   ·rw [if_neg h2] at h
    obtain ⟨rs, c1, c2⟩ := bE h
    have hu : s.drop (i + w.length) ≠ [] := by
     intro h
     have := congrArg List.length h
     simp at this
     omega
    obtain ⟨rs', d1, d2⟩ := aQn (f := g) hu (by simp; omega)
    rw [c1] at d1
    cases d1
    by_cases h4 : rs.2.2.2.1 = 0
    ·rw [if_pos h4] at c2
     obtain ⟨e1, e2, e3, e4⟩ := d2 h4
     rw [if_neg (by omega)] at c2
     simp at e2
     obtain ⟨l, b1, b2⟩ := xQ hg f _ _ res (by omega) c2 he
     refine ⟨⟨rs.1, rs.2.1, rs.2.2.1, ((i + w.length : Nat) : Int)⟩ :: l, by rw [b1]; simp, ?_⟩
     rw [hsp]
     refine .tok w _ i _ rs l hgap c1 h4 rfl e1 (by simp; omega) e3 ?_
     rw [List.drop_drop]
     exact b2
    ·rw [if_neg h4] at c2
     cases c2
     exact absurd he h4
theorem aDr {g : Nat} {s : List Nat} {out : List Tok} {X : List Tok × Int × Int} {u w : List Nat} (hw : Gap w) : ∀ (i f : Nat), s.drop i = w ++ u → i ≤ s.length → (∀ f, u.length < f → iQ g s f (i + w.length) out = some X) → (w ++ u).length < f → iQ g s f i out = some X := by
 induction hw with
 | nil => intro i f hd hi H hf; exact H f (by simpa using hf)
 | blank c w hc _ ih =>
  intro i f hd hi H hf
  obtain ⟨f, rfl⟩ : ∃ q, f = q + 1 := ⟨f - 1, by simp at hf; omega⟩
  have hd' : s.drop (i + 1) = w ++ u := by
   have := congrArg (List.drop 1) hd
   simpa [List.drop_drop] using this
  have hi' : i + 1 ≤ s.length := by
   have := congrArg List.length hd
   simp at this
   omega
  have := ih (i + 1) (f + 1) hd' hi' (fun f hf => by
   have := H f hf
   rw [List.length_cons] at this
   rw [show i + 1 + w.length = i + (w.length + 1) by omega]
   exact this) (by simp at hf ⊢; omega)
  rw [← this]
  have e : ((s.drop i).takeWhile (cX cB)).length = ((s.drop (i + 1)).takeWhile (cX cB)).length + 1 := by
   rw [hd, hd']; simp [hc]
  unfold iQ
  rw [e, show i + (((s.drop (i + 1)).takeWhile (cX cB)).length + 1) = i + 1 + ((s.drop (i + 1)).takeWhile (cX cB)).length by omega]
 | rem r w hr _ ih =>
  intro i f hd hi H hf
  obtain ⟨f, rfl⟩ : ∃ q, f = q + 1 := ⟨f - 1, by simp at hf; omega⟩
  have hd' : s.drop (i + 1) = r ++ 34 :: (w ++ u) := by
   have := congrArg (List.drop 1) hd
   simpa [List.drop_drop] using this
  have hd2 : s.drop (i + r.length + 2) = w ++ u := by
   have := congrArg (List.drop (r.length + 1)) hd'
   rw [List.drop_drop, aCm] at this
   rw [show i + r.length + 2 = i + 1 + (r.length + 1) by omega]
   exact this
  have hl := congrArg List.length hd
  simp at hl hf
  have hidx : ∀ (r : List Nat) (v : List Nat) (j : Nat), (∀ c ∈ r, c ≠ 34) → cZ 34 (r ++ 34 :: v) j = ((j + r.length : Nat) : Int) := by
   intro r
   induction r with
   | nil => intro v j _; rfl
   | cons c r ih =>
    intro v j hc
    have hne : Nat.beq c 34 = false := by
     cases e : Nat.beq c 34 with
     | false => rfl
     | true => exact absurd (Nat.eq_of_beq_eq_true e) (hc c (by simp))
    show (bif Nat.beq c 34 then Int.ofNat j else cZ 34 (r ++ 34 :: v) (j + 1)) = _
    rw [hne]
    show cZ 34 (r ++ 34 :: v) (j + 1) = _
    rw [ih v (j + 1) (fun x hx => hc x (by simp [hx]))]
    congr 1
    simp; omega
  unfold iQ
  have e : (s.drop i).takeWhile (cX cB) = [] := by
   rw [hd]
   have : cX cB 34 = false := by decide
   simp [this]
  rw [e]
  simp only [List.length_nil, Nat.add_zero]
  rw [if_neg (by omega)]
  have h34 : nx s i = 34 := by
   have : s[i]? = some 34 := by
    have := congrArg (fun l => l[0]?) hd
    simpa using this
   rw [nx, List.getD, this]; rfl
  have hx := hidx r (w ++ u) 0 hr
  rw [Nat.zero_add] at hx
  rw [if_pos h34, hd', if_neg (by rw [hx]; omega), hx, Int.toNat_natCast]
  refine ih (i + r.length + 2) f hd2 (by omega) (fun f hf => ?_) (by simp; omega)
  have := H f hf
  rw [show i + r.length + 2 + w.length = i + (34 :: (r ++ 34 :: w)).length by simp; omega]
  exact this
theorem bDf {g : Nat} {s : List Nat} : ∀ (l : List Tok) (u : List Nat) (i f : Nat) (out : List Tok), Lx g u i l → s.drop i = u → i ≤ s.length → u.length < f → iQ g s f i out = some (out ++ l, 0, 0) := by
 intro l
 induction l with
 | nil => intro u i f out h; cases h
 | cons t l ih =>
  intro u i f out h hd hi hf
  cases h with
  | fin _ _ hw =>
   refine aDr (u := []) hw i f (by simpa using hd) hi (fun f hf => ?_) (by simpa using hf)
   obtain ⟨f, rfl⟩ : ∃ q, f = q + 1 := ⟨f - 1, by omega⟩
   have hl := congrArg List.length hd
   simp at hl
   unfold iQ
   rw [if_pos (by omega), show s.length = i + u.length by omega]
  | tok w u _ k rs l hw h1 h2 h3 h4 h5 h6 h7 =>
   refine aDr (u := u) hw i f hd hi (fun f hf => ?_) hf
   obtain ⟨f, rfl⟩ : ∃ q, f = q + 1 := ⟨f - 1, by omega⟩
   have hl := congrArg List.length hd
   simp at hl
   have hd' : s.drop (i + w.length) = u := by
    rw [← List.drop_drop, hd]; simp
   obtain ⟨q1, q2, _⟩ := aGa h1 h2
   have hne : u ≠ [] := by
    intro e; rw [e] at h5; simp at h5; omega
   obtain ⟨c, u', rfl⟩ : ∃ c u', u = c :: u' := by cases u with
    | nil => exact absurd rfl hne
    | cons c u' => exact ⟨c, u', rfl⟩
   have q1 : cX cB c = false := q1
   have q2 : c ≠ 34 := q2
   unfold iQ
   rw [hd', show (c :: u').takeWhile (cX cB) = [] by simp [q1]]
   simp only [List.length_nil, Nat.add_zero]
   have hx : nx s (i + w.length) = c := by
    have : s[i + w.length]? = some c := by
     have := congrArg (fun l => l[0]?) hd'
     simpa using this
    rw [nx, List.getD, this]; rfl
   simp at hl h5
   rw [if_neg (by omega), hx, if_neg q2, hd', h1]
   simp only [Option.bind_some]
   rw [if_pos h2, if_neg (by rw [h3]; simp; omega), h3]
   subst h3
   rw [ih (((c :: u').drop rs.2.2.2.2)) (i + w.length + rs.2.2.2.2) f (out ++ [(⟨rs.1, rs.2.1, rs.2.2.1, ((i + w.length : Nat) : Int)⟩ : Tok)]) h7 (by rw [← List.drop_drop, hd']) (by omega) (by simp at hf ⊢; omega)]
   simp
theorem wC {n : Nat} (h : n ≤ 1000000) : jV ((n : Int) + 1) = ((n + 1 : Nat) : Int) := by
 unfold jV
 rw [gV _ (by omega) (by omega)]
 omega
end Go.Dd

namespace Go.Dd
open Go.Proofs
section
variable {I : Im} {A L : Ls} {h : Hp} {p : Pos} {s : DV} {i : Nat} {st : PSt}
end
end Go.Dd

namespace Go.Dd
open Go.Proofs
end Go.Dd

namespace Go.Dd
open Go.Proofs
end Go.Dd

namespace Go.Dd
open Go.Proofs
section
variable {I : Im} {A L : Ls} {h : Hp} {p : Pos} {s : DV} {i : Nat} {st : PSt}
end
end Go.Dd

namespace Go.Dd
def TOk (t : Tok) : Prop := (t.kind = 4 → t.text = []) ∧ (t.kind = 5 ∨ t.kind = 6 → t.num = 0)
def GT (l : List Tok) : Prop := 1 ≤ l.length ∧ ∀ t ∈ l, TOk t
section
variable {α α' β β' : Type} {V : α → α' → Prop} {W : β → β' → Prop} {e : Int}
end
variable {a b : PSt}
end Go.Dd

namespace Go.Dd
variable {a b : PSt}
end Go.Dd

namespace Go.Dd
open Go.Proofs
end Go.Dd

namespace Go.Dd
theorem aLx {f : Nat} {u : List Nat} {rs : Int × List Nat × Int × Int × Nat} (h : aW f u = some rs) (p : Int) : TOk ⟨rs.1, rs.2.1, rs.2.2.1, p⟩ := by
 have key : (rs.1 = 4 → rs.2.1 = []) ∧ (rs.1 = 5 ∨ rs.1 = 6 → rs.2.2.1 = 0) := by
  unfold aW at h
  repeat' split at h
  all_goals first
   | (cases h; exact ⟨fun _ => rfl, fun e => by simp at e⟩)
   | (cases h; exact ⟨fun e => by simp at e, fun e => by simp at e⟩)
   | (obtain ⟨r, e1, e2⟩ := bE h; cases e2; exact ⟨fun e => by simp at e, fun _ => rfl⟩)
 exact key
theorem bLh {g : Nat} : ∀ (l : List Tok) (v : List Nat) (p : Nat), Lx g v p l → GT l := by
 intro l
 induction l with
 | nil => intro v p h; cases h
 | cons t l ih =>
  intro v p h
  cases h with
  | fin _ _ hw =>
   refine ⟨by simp, fun t ht => ?_⟩
   simp at ht
   subst ht
   exact ⟨fun e => (by cases e), fun e => (by rcases e with e | e <;> cases e)⟩
  | tok w u _ k rs l hw h1 h2 h3 h4 h5 h6 h7 =>
   have := ih _ _ h7
   refine ⟨by simp, fun t ht => ?_⟩
   rcases List.mem_cons.1 ht with rfl | ht
   ·exact aLx h1 _
   ·exact this.2 t ht
theorem bHq {u : List Nat} (hu : u.length ≤ 2000) {lx : List Tok × Int × Int} (hl : mR 2001 2001 u = some lx) (he : lx.2.2 = 0) : GT lx.1 ∧ Lx 2001 u 0 lx.1 := by
 unfold mR at hl
 rw [if_neg (by omega)] at hl
 obtain ⟨l, h1, h2⟩ := xQ (by omega) 2001 0 [] lx (by omega) hl he
 have e : lx.1 = l := by rw [h1]; rfl
 rw [e]
 exact ⟨bLh _ _ _ h2, h2⟩
theorem bGx : ∀ (f : Nat) (st : PSt) (t : List Nat) (l : List (List Nat)), Good st.toks → (st.err = 0 → st.toks.length ≤ f ∧ t.length + st.toks.length * 10000 ≤ bV) → 1 ≤ f → ∃ r st', nY f t l false st = some (r, st') ∧ Good st'.toks ∧ st'.toks.length ≤ st.toks.length ∧ (st'.err = 0 → st.err = 0)
 | 0, st, t, l, h, hb, hf => by omega
 | f + 1, st, t, l, h, hb, hf => by
  obtain ⟨u, r, e, hu, h2, h3⟩ := eA h
  unfold nY
  simp only [Bool.false_eq_true, if_false]
  rw [mP hu, Option.bind_some]
  cases hc : mJ st u 2 [] with
  | false => exact ⟨(t, l), st, by simp, h, Nat.le_refl _, id⟩
  | true =>
   obtain ⟨c1, c2⟩ := dB hc
   obtain ⟨b1, b2⟩ := hb c1
   obtain ⟨s1, a1, a2, a3, a4, a5, a6, a7, a8⟩ := eB h hu (by omega)
   have hn : cJ st 2 [] = some (u, s1) := by
    unfold cJ
    rw [mP hu, Option.bind_some, hc, if_pos rfl, a1]
   have htx := h.text e
   have hp := a6.pos
   simp only [if_true]
   rw [hn, Option.bind_some, if_pos (by show t.length + u.text.length ≤ bV; omega)]
   obtain ⟨w, s2, g1, g2, g3⟩ := aLt a6 1 (.inl rfl) l.length
   rw [show (u, s1).2 = s1 from rfl, g1, Option.bind_some]
   obtain ⟨rr, s3, k1, k2, k3, k4⟩ := bGx f s2 (t ++ u.text) (l ++ [w]) g2.good (fun he => ⟨by omega, by
    have : s2.toks.length * 10000 ≤ s1.toks.length * 10000 := Nat.mul_le_mul_right _ g3
    simp; omega⟩) (by omega)
   exact ⟨rr, s3, k1, k2, by omega, fun _ => c1⟩
theorem aVk {f : Nat} {st : PSt} (h : Good st.toks) (hb : st.toks.length + 1 ≤ f) (hm : f ≤ 1000000) : ∃ r st', gO f st = some (r, st') ∧ Good st'.toks ∧ st'.toks.length ≤ st.toks.length := by
 obtain ⟨u, r, e, hu, h2, h3⟩ := eA h
 have hp := h.pos
 unfold gO
 rw [mP hu, Option.bind_some]
 cases hc : mJ st u 1 [] with
 | true =>
  obtain ⟨c1, c2⟩ := dB hc
  obtain ⟨s1, a1, a2, a3, a4, a5, a6, a7, a8⟩ := eB h hu (by omega)
  exact ⟨_, s1, by rw [if_pos rfl, a1]; rfl, a6, by omega⟩
 | false =>
  simp only [Bool.false_eq_true, if_false]
  rw [mP hu, Option.bind_some]
  cases hc : mJ st u 3 [] with
  | true =>
   obtain ⟨c1, c2⟩ := dB hc
   obtain ⟨s1, a1, a2, a3, a4, a5, a6, a7, a8⟩ := eB h hu (by omega)
   obtain ⟨w, s2, g1, g2, g3⟩ := aLt a6 1 (.inl rfl) 0
   exact ⟨_, s2, by rw [if_pos rfl, a1, Option.bind_some, show (u, s1).2 = s1 from rfl, g1]; rfl, g2.good, by omega⟩
  | false =>
   simp only [Bool.false_eq_true, if_false]
   obtain ⟨f, rfl⟩ : ∃ k, f = k + 1 := ⟨f - 1, by omega⟩
   unfold nY
   simp only [if_true, Option.bind_some]
   have first : ∃ v s1, cJ st 2 [] = some (v, s1) ∧ Good s1.toks ∧ s1.toks.length ≤ st.toks.length ∧ v.text.length ≤ 10000 := by
    unfold cJ
    rw [mP hu, Option.bind_some]
    cases hc : mJ st u 2 [] with
    | true =>
     obtain ⟨c1, c2⟩ := dB hc
     obtain ⟨s1, a1, a2, a3, a4, a5, a6, a7, a8⟩ := eB h hu (by omega)
     exact ⟨u, s1, by rw [if_pos rfl, a1], a6, by omega, h.text e⟩
    | false =>
     simp only [Bool.false_eq_true, if_false]
     rw [hu]
     exact ⟨z4, _, rfl, by rw [bW]; exact h, by rw [bW]; omega, by simp [z4]⟩
   obtain ⟨v, s1, d1, d2, d3, d4⟩ := first
   rw [d1, Option.bind_some, if_pos (by show ([] : List Nat).length + v.text.length ≤ bV; simp [bV]; omega)]
   obtain ⟨w, s2, g1, g2, g3⟩ := aLt d2 1 (.inl rfl) 0
   rw [show (v, s1).2 = s1 from rfl, show ([] : List (List Nat)).length = 0 from rfl, g1, Option.bind_some]
   have h2p := g2.good.pos
   obtain ⟨rr, s3, k1, k2, k3, k4⟩ := bGx f s2 ([] ++ v.text) ([] ++ [w]) g2.good (fun he => ⟨by omega, by
    have : s2.toks.length * 10000 ≤ 1000000 * 10000 := Nat.mul_le_mul_right _ (by omega)
    simp [bV]; omega⟩) (by omega)
   exact ⟨rr, s3, k1, k2, by omega⟩
theorem aNn {st : PSt} (h : Good st.toks) (kd : Int) (hk : kd ≠ 0) (tx : List Nat) : ∃ t s', cJ st kd tx = some (t, s') ∧ Good s'.toks ∧ s'.toks.length ≤ st.toks.length := by
 obtain ⟨u, r, e, hu, h2, h3⟩ := eA h
 unfold cJ
 rw [mP hu, Option.bind_some]
 cases hc : mJ st u kd tx with
 | true =>
  obtain ⟨c1, c2⟩ := dB hc
  obtain ⟨s1, a1, a2, a3, a4, a5, a6, a7, a8⟩ := eB h hu (by rw [c2]; exact hk)
  exact ⟨u, s1, by rw [if_pos rfl, a1], a6, by omega⟩
 | false =>
  simp only [Bool.false_eq_true, if_false]
  rw [hu]
  exact ⟨z4, _, rfl, by rw [bW]; exact h, by rw [bW]; omega⟩
theorem bSg {f : Nat} {st : PSt} (h : Good st.toks) (hb : st.toks.length + 1 ≤ f) (hm : f ≤ 1000000) : ∃ x st', lS f st = some (x, st') ∧ Good st'.toks ∧ st'.toks.length ≤ st.toks.length := by
 obtain ⟨r, s1, a1, a2, a3⟩ := aVk h hb hm
 unfold lS
 rw [a1, Option.bind_some]
 obtain ⟨u, q, e, hu, h2, h3⟩ := eA a2
 unfold qK
 rw [mP hu]
 simp only [Option.bind_some]
 cases hc : mJ s1 u 3 [60] with
 | false => exact ⟨_, s1, rfl, a2, a3⟩
 | true =>
  obtain ⟨c1, c2⟩ := dB hc
  obtain ⟨s2, b1, b2, b3, b4, b5, b6, b7, b8⟩ := eB a2 hu (by omega)
  simp only [if_true]
  rw [b1, Option.bind_some]
  obtain ⟨t3, s3, d1, d2, d3⟩ := aNn b6 2 (by decide) jQ
  rw [show (u, s2).2 = s2 from rfl, d1, Option.bind_some]
  obtain ⟨t4, s4, e1, e2, e3⟩ := aNn d2 4 (by decide) []
  rw [show (t3, s3).2 = s3 from rfl, e1, Option.bind_some]
  have g5 : Good (if 255 < t4.num then cP s4 t4 2 else s4).toks ∧ (if 255 < t4.num then cP s4 t4 2 else s4).toks.length = s4.toks.length := by
   split
   ·rw [bW]; exact ⟨e2, rfl⟩
   ·exact ⟨e2, rfl⟩
  obtain ⟨t5, s5, k1, k2, k3⟩ := aNn g5.1 3 (by decide) [62]
  rw [show (if 255 < (t4, s4).1.num then cP (t4, s4).2 (t4, s4).1 2 else (t4, s4).2) = (if 255 < t4.num then cP s4 t4 2 else s4) from rfl, k1]
  exact ⟨_, s5, rfl, k2, by omega⟩
theorem bOx {f : Nat} {st : PSt} (x : Node) (h : Good st.toks) (hf : st.toks.length + 3 ≤ f) (hm : f ≤ 1000000) : ∃ y s, aJa f x st = some (y, s) := by
 obtain ⟨ts, s2, b1, b2⟩ := aEx (f := f) h (fun _ => by omega) (by omega)
 have hl2 := b2.len
 obtain ⟨ks, s3, k, c1, c2, c3⟩ := xJ (aEi f (by omega) hm) f s2 [] b2.good (fun _ => by omega) (by omega)
 obtain ⟨u, s4, d1, d2, d3⟩ := uN c2.good 0 [] 0 (fun h => absurd rfl h) (fun _ => rfl)
 unfold aJa
 rw [b1, Option.bind_some, c1, Option.bind_some, d1]
 exact ⟨_, _, rfl⟩
theorem aYe {u : List Nat} (hu : u.length ≤ 2000) : ∃ lx res, mR 2001 2001 u = some lx ∧ fI (lS 2004) 2004 lx = some res ∧ (res.2.2 = 0 → res.2.1 = 0) := by
 obtain ⟨lx, hl, hg⟩ := bLc hu
 refine ⟨lx, ?_⟩
 by_cases e : lx.2.2 = 0
 ·obtain ⟨g1, g2⟩ := hg e
  obtain ⟨x, s1, h1, h2, h3⟩ := bSg (f := 2004) (st := ⟨lx.1, 0, 0, 0⟩) g1 (by show lx.1.length + 1 ≤ _; omega) (by omega)
  have h3 : s1.toks.length ≤ lx.1.length := h3
  obtain ⟨y, s2, h4⟩ := bOx (f := 2004) x h2 (by omega) (by omega)
  rw [aDy e, aEl, h1, Option.bind_some, h4]
  by_cases e2 : s2.err = 0
  ·exact ⟨(y, 0, 0), hl, by simp [e2], fun _ => rfl⟩
  ·exact ⟨(zN, s2.pos, s2.err), hl, by simp [e2], fun h => absurd h e2⟩
 ·refine ⟨(zN, lx.2.1, lx.2.2), hl, ?_, fun h => absurd h e⟩
  unfold fI
  rw [if_neg e]
end Go.Dd

namespace Go.Dd
open Go.Proofs
def Node.temps : Node → List (List Nat) | .mk _ _ _ _ ts _ => ts
def Node.names : Node → List (List Nat) | .mk _ _ _ ns _ _ => ns
def Node.num : Node → Int | .mk _ _ m _ _ _ => m
noncomputable def iP (u : List Nat) : List Tok × Int × Int := (mR 2001 2001 u).getD ([], 0, 0)
noncomputable def cA (u : List Nat) : Node × Int × Int := (fI qS 2004 (iP u)).getD (zN, 0, 0)
noncomputable def oI (u : List Nat) : Node × Int × Int := (fI (lS 2004) 2004 (iP u)).getD (zN, 0, 0)
theorem tK {u : List Nat} (h : 2000 < u.length) : mR 2001 2001 u = some ([], 0, 12) := by
 unfold mR
 rw [if_pos h]
theorem oP (u : List Nat) : mR 2001 2001 u = some (iP u) := by
 unfold iP
 by_cases h : u.length ≤ 2000
 ·obtain ⟨lx, h1, _⟩ := bLc h
  rw [h1]; rfl
 ·rw [tK (by omega)]; rfl
theorem lI (u : List Nat) : fI qS 2004 (iP u) = some (cA u) := by
 unfold cA
 by_cases h : u.length ≤ 2000
 ·obtain ⟨lx, res, h1, h2, _⟩ := bRn h
  have e : iP u = lx := by unfold iP; rw [h1]; rfl
  rw [e, h2]; rfl
 ·have e : iP u = ([], 0, 12) := by unfold iP; rw [tK (by omega)]; rfl
  rw [e]; rfl
theorem aCu (u : List Nat) : fI (lS 2004) 2004 (iP u) = some (oI u) := by
 unfold oI
 by_cases h : u.length ≤ 2000
 ·obtain ⟨lx, res, h1, h2, _⟩ := aYe h
  have e : iP u = lx := by unfold iP; rw [h1]; rfl
  rw [e, h2]; rfl
 ·have e : iP u = ([], 0, 12) := by unfold iP; rw [tK (by omega)]; rfl
  rw [e]; rfl
def oT (s : List Nat) (x : Node) (r : Node × Int × Int) : List Nat × Int := if r.2.2 = 0 ∧ nEq x r.1 = true then (s, 0) else ([], 1)
noncomputable def aBz (x : Node) : List Nat × Int := oT (aQ x.temps (fU x.kids)) x (cA (aQ x.temps (fU x.kids)))
theorem bBv (n : Nat) (x y z w : DV) (h : Hp) : aK (n + 1) 22 [x, y, z, w] h = s22 (aK n) n x y z w h := by kernel_rfl
theorem bDn (n : Nat) (x : DV) (h : Hp) : aK (n + 1) 13 [x] h = s13 (aK n) n x h := by kernel_rfl
section
variable {I : Im} {A L : Ls} {h : Hp}
theorem aJr {Q : Ls} {x y : Node} {c d : List DV} {s : List Nat} {a e : Int} (S : Sy I A Q L h) (N : NV I x c) (M : NV I y d) :
 Ev (fun n => aK n 22 [.s s, .a c, .a d, .i .i64 e] h) (fun v h' => v = .t [.s (oT s x (y, a, e)).1, .i .i64 (oT s x (y, a, e)).2] ∧ Sy I A Q L h') := by
 obtain ⟨c1, o1, b1⟩ := N.shape
 obtain ⟨c2, o2, b2⟩ := M.shape
 refine Ev.enter (fun n => bBv n _ _ _ _ h) ?_
 unfold s22
 refine Ev.box S rfl (fun p h1 S1 => ?_)
 refine Ev.box S1 rfl (fun q h2 S2 => ?_)
 refine bWu (fun e1 => ?_) (fun e1 => ?_)
 ·have e1' : ¬ e = 0 := e1
  refine yg (yg (yg (yg (ap (yt ?_)))))
  exact bVs ⟨by simp [oT, e1'], dp⟩
 ·have e1' : e = 0 := e1
  refine zf ?_; refine ws ?_; refine zf ?_; refine ws ?_; refine zf ?_
  refine bVq (aCq x y I A Q _ _ c d (by assumption) N M) ?_
  rintro _ h3 ⟨rfl, S3⟩
  cases en : nEq x y with
  | true =>
   refine zf (an (aq (yj ?_)))
   exact bVs ⟨by simp [oT, e1', en], dp⟩
  | false =>
   refine zf (ao (aq (yt ?_)))
   exact bVs ⟨by simp [oT, e1', en], dp⟩
theorem aNa {x : Node} {cs : List DV} (S : Sy I A [] L h) (N : NV I x cs) (T : ∀ y ∈ x.kids, kD y) (hl : (aQ x.temps (fU x.kids)).length ≤ bV) (hb : ∀ c ∈ aQ x.temps (fU x.kids), c < 256) :
 Ev (fun n => aK n 13 [.a cs] h) (fun v h' => v = .t [.s (aBz x).1, .i .i64 (aBz x).2] ∧ Sy I A [] L h') := by
 obtain ⟨c1, o1, b1⟩ := N.shape
 have N0 := N
 obtain ⟨k, t, m, ns, ts, ks⟩ := x
 have hl' : (aQ ts (fU ks)).length ≤ 100000000000 := hl
 refine Ev.enter (fun n => bDn n _ h) ?_
 unfold s13
 refine Ev.box S rfl (fun p h1 S1 => ?_)
 refine bXs S1 (eJ) c1 o1 ?_
 refine bVq (pF S1 N0 T hl') ?_
 rintro _ h2 ⟨rfl, S2⟩
 refine bVq (aHu S2 hl hb 2001 2001 2004 (by simp [bV]) (by simp [bV]) _ (oP _) _ (lI _)) ?_
 rintro _ h3 ⟨J, ds, rfl, g3, S3, N3⟩
 obtain ⟨c3, o3, b3⟩ := N3.shape
 refine wx ?_; refine wx ?_; refine wx ?_; refine wa fun _ _ _ => ?_; refine wt fun _ _ => ?_; refine ws ?_; refine ws ?_
 refine bVq (aJr (a := (cA (aQ ts (fU ks))).2.1) (by assumption) (N0.mono g3) N3) ?_
 rintro _ h5 ⟨rfl, S5⟩
 refine wx ?_; refine wx ?_
 exact bVs ⟨rfl, (dp : Sy J A [] L _).weak g3⟩
end
end Go.Dd

namespace Go.Dd
open Go.Proofs
def AB (l : List Nat) : Prop := ∀ c ∈ l, c < 256
theorem AB.nil : AB [] := fun c h => by cases h
theorem AB.cons {x : Nat} {l : List Nat} (h : x < 256) (H : AB l) : AB (x :: l) := fun c hc => by
 rcases List.mem_cons.1 hc with rfl | hc
 ·exact h
 ·exact H c hc
theorem AB.app {l k : List Nat} (H : AB l) (K : AB k) : AB (l ++ k) := fun c hc => by
 rcases List.mem_append.1 hc with hc | hc
 ·exact H c hc
 ·exact K c hc
theorem AB.join {sep : List Nat} (h : AB sep) : ∀ {l : List (List Nat)}, (∀ x ∈ l, AB x) → AB (aF sep l)
 | [], _ => AB.nil
 | [x], H => H x (by simp)
 | x :: y :: l, H => (H x (by simp)).app (h.app (AB.join h (l := y :: l) fun z hz => H z (by simp [hz])))
theorem bYw {c : Nat} {new : List Nat} (h : AB new) : ∀ {l : List Nat}, AB l → AB (dD c new l)
 | [], _ => AB.nil
 | x :: l, H => by
  have ih := bYw h (c := c) (l := l) fun z hz => H z (by simp [hz])
  show AB (bif Nat.beq x c then new ++ dD c new l else x :: dD c new l)
  cases Nat.beq x c with
  | true => exact h.app ih
  | false => exact AB.cons (H x (by simp)) ih
theorem bYf : ∀ (f n : Nat) (acc : List Nat), AB acc → AB (eQ f n acc)
 | 0, n, acc, H => H
 | f + 1, n, acc, H => by
  show AB (bif Nat.ble 10 n then eQ f (n / 10) ((48 + n % 10) :: acc) else (48 + n) :: acc)
  have h1 : 48 + n % 10 < 256 := by omega
  cases e : Nat.ble 10 n with
  | true => exact bYf f _ _ (AB.cons h1 H)
  | false =>
   have : ¬ 10 ≤ n := fun h => by rw [Nat.ble_eq_true_of_le h] at e; cases e
   exact AB.cons (by omega) H
theorem AB.itoa (n : Int) : AB (fK n) := by
 cases n with
 | ofNat n => exact bYf _ _ _ AB.nil
 | negSucc n => exact AB.cons (by omega) (bYf _ _ _ AB.nil)
theorem bXt {c : Nat} : ∀ {l acc : List Nat}, AB acc → AB l → ∀ x ∈ cE c acc l, AB x
 | [], acc, H, _, x, hx => by
  simp [cE] at hx
  subst hx; exact H
 | y :: l, acc, H, K, x, hx => by
  have K' : AB l := fun z hz => K z (by simp [hz])
  have H' : AB (acc ++ [y]) := H.app (AB.cons (K y (by simp)) AB.nil)
  unfold cE at hx
  cases e : Nat.beq y c with
  | true =>
   rw [e] at hx
   rcases List.mem_cons.1 hx with rfl | hx
   ·exact H'
   ·exact bXt AB.nil K' x hx
  | false =>
   rw [e] at hx
   exact bXt H' K' x hx
theorem AB.parts {s : List Nat} (H : AB s) : ∀ x ∈ dF s, AB x := fun x hx => bXt AB.nil H x (List.dropLast_subset _ hx)
def ABk (l : List (Nat × List Nat)) : Prop := ∀ p ∈ l, AB p.2
theorem bXu {l : List (Nat × List Nat)} (H : ABk l) (i h : Nat) : AB (bM l i h) := by
 unfold bM
 split
 ·exact AB.nil
 ·rename_i own x e
  have := H (own, x) (List.mem_of_getElem? e)
  split
  ·exact AB.cons (by omega) (this.app (AB.cons (by omega) AB.nil))
  ·exact this
theorem AB.keys {a : List (Nat × List Nat)} (H : ABk a) : ∀ {ps : List (List Nat)} {i : Nat}, (∀ x ∈ ps, AB x) → ∀ x ∈ fR ps a i, AB x
 | [], i, _, x, hx => by simp [fR] at hx
 | p :: ps, i, K, x, hx => by
  simp only [fR, List.mem_cons] at hx
  rcases hx with rfl | hx
  ·exact (K p (by simp)).app (AB.cons (by omega) (bXu H _ _))
  ·exact AB.keys H (fun z hz => K z (by simp [hz])) x hx
theorem bXx {s : List Nat} {a : List (Nat × List Nat)} (H : AB s) (K : ABk a) : AB (aS s a) := by
 unfold aS
 split
 ·exact H
 ·split
  ·exact H.app (AB.cons (by omega) (bXu K _ _))
  ·exact AB.join (AB.cons (by omega) AB.nil) (AB.keys K H.parts)
theorem AB.send {s : List Nat} {a : List (Nat × List Nat)} (H : AB s) (K : ABk a) : AB (fH s a) := by
 unfold fH
 split
 ·exact AB.nil
 ·exact (bXu K _ _).app (AB.cons (by omega) (bXx H fun p hp => K p (List.mem_of_mem_drop hp)))
theorem AB.body {ts kids : List (List Nat)} (H : ∀ x ∈ ts, AB x) (K : ∀ x ∈ kids, AB x) : AB (aQ ts kids) := by
 unfold aQ
 refine AB.app ?_ (AB.join (AB.cons (by omega) (AB.cons (by omega) AB.nil)) K)
 split
 ·exact AB.nil
 ·exact AB.cons (by omega) (AB.cons (by omega) ((AB.join (AB.cons (by omega) AB.nil) H).app (AB.cons (by omega) (AB.cons (by omega) (AB.cons (by omega) AB.nil)))))
theorem AB.names : ∀ {l : List (List Nat)}, (∀ x ∈ l, AB x) → AB (bF l)
 | [], _ => AB.nil
 | p :: l, H => AB.cons (by omega) ((H p (by simp)).app (AB.cons (by omega) (AB.names fun z hz => H z (by simp [hz]))))
mutual
def By : Node → Prop
 | .mk k t m ns ts ks => AB t ∧ (∀ x ∈ ns, AB x) ∧ (∀ x ∈ ts, AB x) ∧ ByL ks
def ByL : List Node → Prop
 | [] => True
 | x :: l => By x ∧ ByL l
end
def NfB (x : Nf) : Prop := AB x.t ∧ AB x.tx ∧ ABk x.ks
theorem bYx {l : List Nf} (H : ∀ x ∈ l, NfB x) : AB (jD l) := by
 unfold jD
 split
 ·rename_i a b r
  refine AB.app (AB.send (H b (by simp)).1 ?_) (AB.join AB.nil ?_)
  ·intro p hp
   rcases List.mem_cons.1 hp with rfl | hp
   ·exact (H a (by simp)).2.1
   ·exact (H b (by simp)).2.2 p hp
  ·intro x hx
   obtain ⟨y, hy, rfl⟩ := List.mem_map.1 hx
   have := H y (by simp [hy])
   exact AB.cons (by omega) (AB.cons (by omega) (bXx this.1 this.2.2))
 ·exact AB.nil
mutual
theorem By.nf : ∀ {x : Node}, By x → NfB (nf x)
 | .mk k t m ns ts ks, ⟨h1, h2, h3, h4⟩ => by
  have K := ByL.nf h4
  have Kt : ∀ x ∈ (pL ks).map Nf.tx, AB x := fun x hx => by
   obtain ⟨y, hy, rfl⟩ := List.mem_map.1 hx
   exact (K y hy).2.1
  have Kh : ABk ((pL ks).map Nf.ht) := fun p hp => by
   obtain ⟨y, hy, rfl⟩ := List.mem_map.1 hp
   exact (K y hy).2.1
  refine ⟨h1, ?_, Kh⟩
  show AB (vF k t m ns ts (pL ks))
  unfold vF
  split
  ·exact AB.itoa m
  split
  ·exact AB.cons (by omega) ((bYw (AB.cons (by omega) (AB.cons (by omega) AB.nil)) h1).app (AB.cons (by omega) AB.nil))
  split
  ·exact AB.cons (by omega) h1
  split
  ·exact AB.cons (by omega) (AB.cons (by omega) ((AB.join (AB.cons (by omega) AB.nil) Kt).app (AB.cons (by omega) AB.nil)))
  split
  ·exact h1.app (AB.cons (by omega) (AB.cons (by omega) (AB.cons (by omega) (AB.cons (by omega) (AB.join AB.nil Kt)))))
  split
  ·exact AB.cons (by omega) (AB.join AB.nil Kt)
  split
  ·exact AB.send h1 Kh
  split
  ·exact bYx K
  split
  ·refine AB.cons (by omega) (AB.app ?_ ((AB.body h3 Kt).app (AB.cons (by omega) AB.nil)))
   split
   ·exact AB.nil
   ·exact (AB.names h2).app (AB.cons (by omega) (AB.cons (by omega) AB.nil))
  ·exact h1
theorem ByL.nf : ∀ {l : List Node}, ByL l → ∀ y ∈ pL l, NfB y
 | [], _ => fun y hy => by cases hy
 | x :: l, ⟨h1, h2⟩ => fun y hy => by
  have p := By.nf h1
  have q := ByL.nf h2
  rcases List.mem_cons.1 (show y ∈ Go.Dd.nf x :: pL l from hy) with e | hy
  ·rw [e]; exact p
  ·exact q y hy
end
theorem ByL.mem : ∀ {l : List Node}, ByL l → ∀ y ∈ l, By y
 | [], _ => fun y hy => by cases hy
 | x :: l, h => fun y hy => by
  rcases List.mem_cons.1 hy with e | hy
  ·rw [e]; exact h.1
  ·exact ByL.mem h.2 y hy
theorem By.body {x : Node} (h : By x) : AB (aQ x.temps (fU x.kids)) := by
 obtain ⟨k, t, m, ns, ts, ks⟩ := x
 obtain ⟨h1, h2, h3, h4⟩ := h
 refine AB.body h3 fun z hz => ?_
 obtain ⟨y, hy, rfl⟩ := List.mem_map.1 hz
 exact (By.nf (h4.mem y hy)).2.1
theorem sZ : ∀ (f n : Nat) (acc : List Nat), (eQ f n acc).length ≤ f + acc.length
 | 0, n, acc => by simp [eQ]
 | f + 1, n, acc => by
  show (bif Nat.ble 10 n then eQ f (n / 10) ((48 + n % 10) :: acc) else (48 + n) :: acc).length ≤ _
  cases Nat.ble 10 n with
  | false => simp; omega
  | true =>
   have := sZ f (n / 10) ((48 + n % 10) :: acc)
   simp at this ⊢; omega
theorem aEc (n : Int) : (fK n).length ≤ 21 := by
 cases n with
 | ofNat n =>
  have := sZ 20 n []
  show (eQ 20 n []).length ≤ 21
  simp at this; omega
 | negSucc n =>
  have := sZ 20 (Nat.succ n) []
  show (45 :: eQ 20 (Nat.succ n) []).length ≤ 21
  simp at this ⊢; omega
def cS (l : List (List Nat)) : Nat := (l.map List.length).sum
theorem kJ (sep : List Nat) : ∀ (l : List (List Nat)), (aF sep l).length ≤ cS l + l.length * sep.length
 | [] => by simp [aF]
 | [x] => by simp [aF, cS]
 | x :: y :: l => by
  have := kJ sep (y :: l)
  simp only [aF, List.length_append, cS, List.map_cons, List.sum_cons, List.length_cons] at this ⊢
  rw [show (l.length + 1 + 1) * sep.length = (l.length + 1) * sep.length + sep.length by rw [Nat.add_mul _ 1]; omega]
  omega
theorem lD {c : Nat} : ∀ (l acc : List Nat), cS (cE c acc l) = acc.length + l.length ∧ (cE c acc l).length ≤ l.length + 1
 | [], acc => by simp [cE, cS]
 | x :: l, acc => by
  have h1 := lD (c := c) l []
  have h2 := lD (c := c) l (acc ++ [x])
  unfold cE
  cases Nat.beq x c with
  | true =>
   simp only [cond_true, cS, List.map_cons, List.sum_cons, List.length_cons, List.length_append] at h1 ⊢
   simp at h1 ⊢
   omega
  | false =>
   simp only [cond_false, List.length_cons]
   simp at h2
   omega
theorem lU : ∀ (l : List (List Nat)), cS l.dropLast ≤ cS l
 | [] => by simp
 | [x] => by simp [cS]
 | x :: y :: l => by
  have := lU (y :: l)
  simp only [List.dropLast_cons_cons, cS, List.map_cons, List.sum_cons] at this ⊢
  omega
theorem vL (s : List Nat) : cS (dF s) ≤ s.length ∧ (dF s).length ≤ s.length := by
 obtain ⟨h1, h2⟩ := lD (c := 58) s []
 have := lU (cE 58 [] s)
 unfold dF
 constructor
 ·simp at h1; omega
 ·simp; omega
theorem jF {x : Nat} : ∀ {l : List Nat}, x ∈ l → x ≤ l.sum
 | y :: l, h => by
  rcases List.mem_cons.1 h with rfl | h
  ·simp
  ·have := jF h; simp; omega
end Go.Dd

namespace Go.Dd
open Go.Proofs Go.RowKit
section
variable {H : Type} {enc : TypeId × Value → H} {w : World}
end
end Go.Dd

namespace Go.Dd
open Go.Proofs Go.RowKit
abbrev bOn : List (String × DataW Unit) := YtliejomdaookoaaGreatDoor.Rows.showApartRow.laid
theorem aNk : (YtliejomdaookoaaGreatDoor.Rows.laid_internal_strconv_uint64pow10 : DataW Unit) = Lib.tabData .u64 Lib.pow10Tab := by kernel_rfl
theorem aPr {W : World} (hL : laidMet Tryz.prog bOn W) (hs : W.ShapedOpen Tryz.prog) : Facts W := by
 refine ⟨Tryz.laysM143.s1_3 W hs, ?_⟩
 obtain ⟨g, t, cs, fuel, p, hg, ht, hv, hd⟩ := Lib.laidMet.reads hL (n := "internal/strconv.uint64pow10") (d := YtliejomdaookoaaGreatDoor.Rows.laid_internal_strconv_uint64pow10) (.tail _ (.tail _ (.head _)))
 have e1 : Tryz.prog.globalNamed "internal/strconv.uint64pow10" = some 1 := by kernel_rfl
 obtain rfl := Option.some.inj (e1.symm.trans hg)
 have e2 : (Tryz.prog.globals[1]?).map (·.type) = some 136 := by kernel_rfl
 obtain rfl := Option.some.inj (e2.symm.trans ht)
 rw [aNk] at hd
 have hc := Lib.cells_of_tab Tryz.underlying136 Tryz.underlying124 (by kernel_rfl) (by kernel_rfl) hd
 unfold World.var? at hv
 rw [e1] at hv
 simp only [Option.bind_some] at hv
 split at hv
 ·rename_i cs' t' z' hh
  obtain rfl := Option.some.inj hv
  refine ⟨t', z', ?_⟩
  rw [hh]
  congr 2
  rw [← hc]
 ·cases hv
theorem yT {H : Type} {enc : TypeId × Value → H} {a : Assume} {C : Checked} {os : Os} {f : FuncId} {fn : Func} {s : ChangeSpec} {conds : List PathCond} {apart fresh handsOn again : Bool} {X : World → Array Value → Prop}
 (hX : ∀ (w w' : World) (args : Array Value), w.heap = w'.heap → X w args → X w' args)
 (own : ownKnob C.prog.godebug = none) (started : os.Started) (noInit : C.prog.inits.idxOf? f = none) (hfn : C.prog.funcs[f]? = some fn)
 (witness : ∃ (w : World) (tape : Tape) (i : Input), w.os = os ∧ (w.forCall tape i).Shaped C.prog ∧ i.vars = [] ∧ Input.okWide C.prog (w.forCall tape i) .any w.heap.size f i ∧
  ((s.pre enc C.prog fn conds apart (w.forCall tape i).memory i.args ∧ X (w.forCall tape i).memory i.args) ∧ sizedMet enc C.prog fn (OpenSpec.ofChange s) apart (w.forCall tape i).memory i.args) ∧ a.holds C.prog (lone (Frame.enter C.prog f i.args .normal) [] (w.forCall tape i)))
 (contract : ∀ (W : World) (base : Nat) (args : Array Value) (ds gs : List (DataW H)) (before : List MemPlace),
  (∀ (j : Nat) t v, fn.params[j]? = some t → args[j]? = some v → Value.okWide C.prog W .any base t v) →
  DataW.Whole enc C.prog fn.params.toList s.vars apart W args.toList ds gs before →
  X W args → W.ShapedOpen C.prog →
  Calls C.prog f args W fun e W' => ∃ v, e = .returned v ∧ s.post enc C.prog fn apart fresh handsOn again W args v W') :
 ReturnsInHanded a C os f .any (fun w args => (s.pre enc C.prog fn conds apart w args ∧ X w args) ∧ sizedMet enc C.prog fn (OpenSpec.ofChange s) apart w args) (s.post enc C.prog fn apart fresh handsOn again) := by
 refine returnsInHanded_of_calls own started noInit witness ?_
 intro w tape i _ hsh _ hok hpre hholds
 obtain ⟨_, _, _, fn', hfn', _, _, _, _, hval⟩ := hok
 have e : fn' = fn := Option.some.inj (hfn'.symm.trans hfn)
 subst e
 obtain ⟨⟨⟨ds, gs, before, hw, hc⟩, hx⟩, hz⟩ := hpre
 have hw' := DataW.Whole.of_heap (w' := w.forCall tape i) (by rfl) hw
 refine (contract (w.forCall tape i) w.heap.size i.args ds gs before hval hw' (hX _ _ _ (by rfl) hx) hsh).mono fun e W' ⟨v, he, hp⟩ => ?_
 subst he
 exact ChangeSpec.post_blind hp
theorem own : ownKnob Tryz.prog.godebug = none := by kernel_rfl
end Go.Dd

namespace Go.Dd
def bG (k : Int) (t : List Nat) : List Nat :=
 if k = 5 then 39 :: (dD 39 [39, 39] t ++ [39]) else if k = 6 then 35 :: t else if k = 7 then [35, 40] else if k = 8 then 58 :: t else if k = 9 then [58, 61] else t
def Fol (k : Int) (v : List Nat) : Prop := (k = 3 → aIl v) ∧ (k ≠ 3 → k ≠ 7 → k ≠ 9 → k ≠ 10 → Stop v)
def TV (k : Int) (t : List Nat) : Prop := bG k t ≠ [] ∧ ∀ v, Fol k v → aW 2001 (bG k t ++ v) = some (k, t, 0, 0, (bG k t).length)
theorem xP : ∀ (t : List Nat), (∀ c ∈ t, c ≠ 39) → dD 39 [39, 39] t = t
 | [], _ => rfl
 | c :: t, h => by
  have ih := xP t fun d hd => h d (by simp [hd])
  show (bif Nat.beq c 39 then [39, 39] ++ dD 39 [39, 39] t else c :: dD 39 [39, 39] t) = _
  cases e : Nat.beq c 39 with
  | true => exact absurd (Nat.eq_of_beq_eq_true e) (h c (by simp))
  | false => simp [ih]
theorem aCj : ∀ (t s : List Nat), dD 39 [39, 39] (t ++ s) = dD 39 [39, 39] t ++ dD 39 [39, 39] s
 | [], s => rfl
 | c :: t, s => by
  have ih := aCj t s
  show (bif Nat.beq c 39 then [39, 39] ++ dD 39 [39, 39] (t ++ s) else c :: dD 39 [39, 39] (t ++ s)) = (bif Nat.beq c 39 then [39, 39] ++ dD 39 [39, 39] t else c :: dD 39 [39, 39] t) ++ _
  cases e : Nat.beq c 39 with
  | true => simp [ih]
  | false => simp [ih]
theorem aKo (so : Nat → Bool) : ∀ (u : List Nat), (u.takeWhile so).length ≠ u.length → ∃ c r, u = u.takeWhile so ++ c :: r ∧ so c = false
 | [], h => by simp at h
 | c :: u, h => by
  cases e : so c with
  | false => exact ⟨c, u, by simp [e], e⟩
  | true =>
   obtain ⟨d, r, h1, h2⟩ := aKo so u (by simpa [aJ, e] using h)
   refine ⟨d, r, ?_, h2⟩
   simp only [List.takeWhile_cons, e, if_true, List.cons_append]
   exact congrArg (c :: ·) h1
theorem uW : ∀ (f : Nat) (out w : List Nat) (r : List Nat × Int × Nat), jA f out w = some r → r.2.1 = 0 → ∃ t, r.1 = out ++ t ∧ w.take r.2.2 = dD 39 [39, 39] t ++ [39]
 | 0, out, w, r, h, he => by cases h
 | f + 1, out, w, r, h, he => by
  unfold jA at h
  split at h
  ·cases h; cases he
  ·rename_i hn
   obtain ⟨c, r', hw, hc⟩ := aKo cH w hn
   have hc' : c = 39 := by simpa [aJ, cH] using hc
   subst hc'
   have htw : ∀ d ∈ w.takeWhile cH, d ≠ 39 := fun d hd => by
    have := uG cH w d hd
    simpa [aJ, cH] using this
   generalize ht : w.takeWhile cH = t at *
   subst hw
   split at h
   ·rename_i h39
    obtain ⟨q, hq, h⟩ := bE h
    cases h
    have hr : ∃ r2, r' = 39 :: r2 := by
     cases r' with
     | nil => simp [nx, List.getD] at h39
     | cons d r2 =>
      refine ⟨r2, ?_⟩
      have : d = 39 := by simpa [aJ, nx, List.getD, List.getElem?_append_right] using h39
      rw [this]
    obtain ⟨r2, rfl⟩ := hr
    have hd : (t ++ 39 :: 39 :: r2).drop (t.length + 2) = r2 := by
     rw [← List.drop_drop, List.drop_left]
     rfl
    rw [hd] at hq
    obtain ⟨t', h1, h2⟩ := uW f _ r2 q hq he
    refine ⟨t ++ (39 :: t'), by rw [h1]; simp, ?_⟩
    show (t ++ 39 :: 39 :: r2).take (q.2.2 + (t.length + 2)) = _
    rw [aCj, xP t htw]
    have e1 : dD 39 [39, 39] (39 :: t') = [39, 39] ++ dD 39 [39, 39] t' := rfl
    rw [e1]
    rw [show q.2.2 + (t.length + 2) = t.length + (q.2.2 + 2) by omega, List.take_length_add_append]
    simp [h2]
   ·cases h
    refine ⟨t, rfl, ?_⟩
    show (t ++ 39 :: r').take (t.length + 1) = _
    rw [List.take_length_add_append, xP t htw]
    rfl
theorem mD {u : List Nat} {c : Nat} (hc : c ≠ 0) (h : nx u 0 = c) : ∃ r, u = c :: r := by
 cases u with
 | nil => simp [nx, List.getD] at h; omega
 | cons d r =>
  have : d = c := by simpa [aJ, nx, List.getD] using h
  exact ⟨r, by rw [this]⟩
theorem aUy : TV 7 [] := ⟨by decide, fun v _ => by simp [bG, aW, nx, bJ, aT]⟩
theorem aPb : TV 9 [] := ⟨by decide, fun v _ => by simp [bG, aW, nx, bJ, aT]⟩
theorem aLl {c : Nat} (h : c ∈ dN) : TV 10 [c] := by
 have : c = 94 ∨ c = 46 ∨ c = 59 ∨ c = 40 ∨ c = 41 ∨ c = 91 ∨ c = 93 ∨ c = 124 := by simpa [aJ, dN] using h
 rcases this with rfl | rfl | rfl | rfl | rfl | rfl | rfl | rfl <;> exact ⟨by decide, fun v _ => by simp [bG, aW, nx, bJ, aT, cX, signs, dN, bI]⟩
theorem vX {f : Nat} {u : List Nat} {rs : Int × List Nat × Int × Int × Nat} (h : aW f u = some rs) (he : rs.2.2.2.1 = 0) :
 (rs.1 = 4 ∧ rs.2.1 = [] ∧ rs.2.2.1 = (dE u).1 ∧ rs.2.2.2.2 = (dE u).2.2 ∧ (dE u).2.1 = 0) ∨
  (rs.1 ≠ 4 ∧ rs.1 ≠ 0 ∧ rs.2.2.1 = 0 ∧ (rs.1 = 7 ∨ rs.1 = 9 ∨ rs.1 = 10 → TV rs.1 rs.2.1) ∧ u.take rs.2.2.2.2 = bG rs.1 rs.2.1) := by
 unfold aW at h
 split at h
 ·split at h
  ·rename_i h2
   split at h
   ·rename_i hc
    cases h
    refine .inr ⟨by show (2 : Int) ≠ 4; decide, by show (2 : Int) ≠ 0; decide, rfl, by show (2 : Int) = 7 ∨ (2 : Int) = 9 ∨ (2 : Int) = 10 → _; intro h; omega, ?_⟩
    show u.take ((aI u).2.2 + 1) = (aI u).1 ++ [58]
    rw [nS hc, hZ h2]
   ·cases h
    refine .inr ⟨by show (1 : Int) ≠ 4; decide, by show (1 : Int) ≠ 0; decide, rfl, by show (1 : Int) = 7 ∨ (1 : Int) = 9 ∨ (1 : Int) = 10 → _; intro h; omega, ?_⟩
    exact (hZ h2).symm
  ·rename_i h2
   cases h
   exact absurd he h2
 split at h
 ·cases h
  exact .inl ⟨rfl, rfl, rfl, rfl, he⟩
 split at h
 ·rename_i h1
  obtain ⟨q, hq, h⟩ := bE h
  cases h
  obtain ⟨u', rfl⟩ := mD (by decide) h1
  obtain ⟨t, h2, h3⟩ := uW f [] u' q hq he
  refine .inr ⟨by show (5 : Int) ≠ 4; decide, by show (5 : Int) ≠ 0; decide, rfl, by show (5 : Int) = 7 ∨ (5 : Int) = 9 ∨ (5 : Int) = 10 → _; intro h; omega, ?_⟩
  show (39 :: u').take (q.2.2 + 1) = bG 5 q.1
  rw [List.take_succ_cons, h3, h2]
  rfl
 split at h
 ·rename_i h1
  obtain ⟨u', rfl⟩ := mD (by decide) h1
  split at h
  ·rename_i h2
   cases h
   refine .inr ⟨by show (7 : Int) ≠ 4; decide, by show (7 : Int) ≠ 0; decide, rfl, fun _ => aUy, ?_⟩
   have : ∃ r, u' = 40 :: r := mD (by decide) (by simpa [aJ, nx, List.getD] using h2)
   obtain ⟨r, rfl⟩ := this
   rfl
  ·obtain ⟨q, hq, h⟩ := bE h
   cases h
   have h3 := (lC (f := f) (u := u') hq).2 he
   refine .inr ⟨by show (6 : Int) ≠ 4; decide, by show (6 : Int) ≠ 0; decide, rfl, by show (6 : Int) = 7 ∨ (6 : Int) = 9 ∨ (6 : Int) = 10 → _; intro h; omega, ?_⟩
   show (35 :: u').take (q.2.2 + 1) = bG 6 q.1
   rw [List.take_succ_cons, ← h3]
   rfl
 split at h
 ·rename_i h1
  cases h
  obtain ⟨u', rfl⟩ := mD (by decide) h1.1
  have : ∃ r, u' = 61 :: r := mD (by decide) (by simpa [aJ, nx, List.getD] using h1.2)
  obtain ⟨r, rfl⟩ := this
  exact .inr ⟨by show (9 : Int) ≠ 4; decide, by show (9 : Int) ≠ 0; decide, rfl, fun _ => aPb, rfl⟩
 split at h
 ·rename_i h1
  cases h
  obtain ⟨u', rfl⟩ := mD (by decide) h1.1
  refine .inr ⟨by show (8 : Int) ≠ 4; decide, by show (8 : Int) ≠ 0; decide, rfl, by show (8 : Int) = 7 ∨ (8 : Int) = 9 ∨ (8 : Int) = 10 → _; intro h; omega, ?_⟩
  have he' : (aI u').2.1 = 0 := he
  show (58 :: u').take ((aI u').2.2 + 1) = 58 :: (aI u').1
  rw [List.take_succ_cons, hZ he']
 split at h
 ·cases h
  exact .inr ⟨by show (3 : Int) ≠ 4; decide, by show (3 : Int) ≠ 0; decide, rfl, by show (3 : Int) = 7 ∨ (3 : Int) = 9 ∨ (3 : Int) = 10 → _; intro h; omega, rfl⟩
 split at h
 ·rename_i h1
  cases h
  refine .inr ⟨by show (10 : Int) ≠ 4; decide, by show (10 : Int) ≠ 0; decide, rfl, fun _ => ?_, rfl⟩
  show TV 10 (u.take (bI (cX dN) 1 u))
  cases u with
  | nil => simp [nx, List.getD, cX, dN] at h1
  | cons c u' =>
   have h2 : cX dN c = true := by simpa [aJ, nx, List.getD] using h1
   have : (c :: u').take (bI (cX dN) 1 (c :: u')) = [c] := by simp [bI, h2]
   rw [this]
   refine aLl ?_
   have : c = 94 ∨ c = 46 ∨ c = 59 ∨ c = 40 ∨ c = 41 ∨ c = 91 ∨ c = 93 ∨ c = 124 := by simpa [aJ, cX, dN] using h2
   simpa [aJ, dN] using this
 ·cases h
  cases he
theorem bHv {u : List Nat} {rs : Int × List Nat × Int × Int × Nat} (h : aW 2001 u = some rs) (he : rs.2.2.2.1 = 0) (hp : 1 ≤ rs.2.2.2.2) (hl : rs.2.2.2.2 ≤ u.length) (h4 : rs.1 ≠ 4) : TV rs.1 rs.2.1 ∧ rs.2.2.1 = 0 ∧ u.take rs.2.2.2.2 = bG rs.1 rs.2.1 := by
 rcases vX h he with h9 | ⟨_, h0, h1, h8, h2⟩
 ·exact absurd h9.1 h4
 refine ⟨?_, h1, h2⟩
 by_cases h7 : rs.1 = 7 ∨ rs.1 = 9 ∨ rs.1 = 10
 ·exact h8 h7
 refine ⟨?_, fun v hv => ?_⟩
 ·rw [← h2]
  intro e
  have := congrArg List.length e
  rw [List.length_take, Nat.min_eq_left hl, List.length_nil] at this
  omega
 ·have hk : (bG rs.1 rs.2.1).length = rs.2.2.2.2 := by rw [← h2, List.length_take, Nat.min_eq_left hl]
  rw [hk, ← h2]
  have := aMk h he hp hl (v := v) hv.1 (fun h3 => hv.2 h3 (fun h => h7 (.inl h)) (fun h => h7 (.inr (.inl h))) (fun h => h7 (.inr (.inr h))))
  rw [this]
  obtain ⟨a, b, c, d, e⟩ := rs
  simp only at he h1 ⊢
  rw [he, h1]
end Go.Dd

namespace Go.Dd
theorem stop_nil : Stop [] := ⟨by decide, by decide, by decide, by decide, by decide⟩
theorem dO (v : List Nat) : Stop (32 :: v) := ⟨by show cU 32 = false; decide, by show (32 : Nat) ≠ 58; decide, by show (32 : Nat) ≠ 61; decide, by show cX signs 32 = false; decide, by show (32 : Nat) ≠ 39; decide⟩
theorem kG {c : Nat} (h : c ∈ dN) (v : List Nat) : Stop (c :: v) := by
 have : c = 94 ∨ c = 46 ∨ c = 59 ∨ c = 40 ∨ c = 41 ∨ c = 91 ∨ c = 93 ∨ c = 124 := by simpa [aJ, dN] using h
 show aOc c
 rcases this with rfl | rfl | rfl | rfl | rfl | rfl | rfl | rfl <;> exact ⟨by decide, by decide, by decide, by decide, by decide⟩
theorem Stop.fol {v : List Nat} (h : Stop v) (k : Int) : Fol k v := ⟨fun _ => h.three, fun _ _ _ _ => h⟩
theorem fB {k : Int} {t v : List Nat} {p : Nat} {r : List Tok} (h : TV k t) (h0 : k ≠ 0) (hv : Fol k v) (hr : Lx 2001 v (p + (bG k t).length) r) : Lx 2001 (bG k t ++ v) p (⟨k, t, 0, (p : Int)⟩ :: r) := by
 have h1 : 1 ≤ (bG k t).length := by
  cases e : bG k t with
  | nil => exact absurd e h.1
  | cons c l => simp
 have := Lx.tok (g := 2001) [] (bG k t ++ v) p (bG k t).length (k, t, 0, 0, (bG k t).length) r .nil (h.2 v hv) rfl rfl h1 (by simp) h0 (by
  rw [List.drop_left]
  exact hr)
 exact this
theorem fA {v : List Nat} {p : Nat} {r : List Tok} (h : Lx 2001 v (p + 1) r) : Lx 2001 (32 :: v) p r := bZe (w := [32]) h (.blank 32 [] (by decide) .nil)
theorem aIj : ∀ (f n : Nat) (acc : List Nat), n < 10 ^ (f + 1) → n ≤ 1152921504606846976 → fV 0 (eQ (f + 1) n acc) = fV (n : Int) acc
 | 0, n, acc, h, hn => by
  show fV 0 (bif Nat.ble 10 n then eQ 0 (Nat.div n 10) (Nat.add 48 (Nat.mod n 10) :: acc) else Nat.add 48 n :: acc) = _
  have : Nat.ble 10 n = false := by
   cases e : Nat.ble 10 n with
   | false => rfl
   | true => have := Nat.le_of_ble_eq_true e; simp at h; omega
  rw [this]
  simp at h
  show (if 115292150460684697 < (0 : Int) then _ else if 1152921504606846976 < (0 : Int) * 10 + (((48 + n : Nat) : Int) - 48) then _ else fV ((0 : Int) * 10 + (((48 + n : Nat) : Int) - 48)) acc) = _
  rw [if_neg (by decide), if_neg (by omega), show ((0 : Int) * 10 + (((48 + n : Nat) : Int) - 48)) = (n : Int) by omega]
 | f + 1, n, acc, h, hn => by
  show fV 0 (bif Nat.ble 10 n then eQ (f + 1) (Nat.div n 10) (Nat.add 48 (Nat.mod n 10) :: acc) else Nat.add 48 n :: acc) = _
  cases e : Nat.ble 10 n with
  | false =>
   have : n < 10 := by
    apply Decidable.byContradiction
    intro hc
    rw [Nat.ble_eq_true_of_le (by omega)] at e
    cases e
   show (if 115292150460684697 < (0 : Int) then _ else if 1152921504606846976 < (0 : Int) * 10 + (((48 + n : Nat) : Int) - 48) then _ else fV ((0 : Int) * 10 + (((48 + n : Nat) : Int) - 48)) acc) = _
   rw [if_neg (by decide), if_neg (by omega), show ((0 : Int) * 10 + (((48 + n : Nat) : Int) - 48)) = (n : Int) by omega]
  | true =>
   show fV 0 (eQ (f + 1) (n / 10) ((48 + n % 10) :: acc)) = _
   have hp : 10 ^ (f + 1 + 1) = 10 ^ (f + 1) * 10 := rfl
   rw [aIj f (n / 10) _ (by omega) (by omega)]
   show (if 115292150460684697 < ((n / 10 : Nat) : Int) then _ else if 1152921504606846976 < ((n / 10 : Nat) : Int) * 10 + (((48 + n % 10 : Nat) : Int) - 48) then _ else fV (((n / 10 : Nat) : Int) * 10 + (((48 + n % 10 : Nat) : Int) - 48)) acc) = _
   rw [if_neg (by omega), if_neg (by omega)]
   congr 1
   omega
theorem tN : ∀ (f n : Nat) (acc : List Nat), (∀ c ∈ acc, aT c = true) → ∀ c ∈ eQ f n acc, aT c = true
 | 0, n, acc, h => h
 | f + 1, n, acc, h => by
  show ∀ c ∈ (bif Nat.ble 10 n then eQ f (Nat.div n 10) (Nat.add 48 (Nat.mod n 10) :: acc) else Nat.add 48 n :: acc), _
  cases e : Nat.ble 10 n with
  | true =>
   refine tN f _ _ fun c hc => ?_
   rcases List.mem_cons.1 hc with rfl | hc
   ·show aT (48 + n % 10) = true
    simp [aT]; omega
   ·exact h c hc
  | false =>
   intro c hc
   have : n < 10 := by
    apply Decidable.byContradiction
    intro hc
    rw [Nat.ble_eq_true_of_le (by omega)] at e
    cases e
   rcases List.mem_cons.1 hc with rfl | hc
   ·show aT (48 + n) = true
    simp [aT]; omega
   ·exact h c hc
theorem aGu : ∀ (f n : Nat) (acc : List Nat), eQ (f + 1) n acc ≠ []
 | 0, n, acc => by
  show (bif Nat.ble 10 n then _ :: acc else _ :: acc) ≠ []
  cases Nat.ble 10 n <;> exact List.cons_ne_nil _ _
 | f + 1, n, acc => by
  show (bif Nat.ble 10 n then eQ (f + 1) (Nat.div n 10) _ else _ :: acc) ≠ []
  cases Nat.ble 10 n with
  | true => exact aGu f _ _
  | false => exact List.cons_ne_nil _ _
theorem uD : ∀ (f n k : Nat) (acc : List Nat), n < 10 ^ (k + 1) → (eQ f n acc).length ≤ k + 1 + acc.length
 | 0, n, k, acc, h => by show acc.length ≤ _; omega
 | f + 1, n, k, acc, h => by
  show (bif Nat.ble 10 n then eQ f (Nat.div n 10) (Nat.add 48 (Nat.mod n 10) :: acc) else Nat.add 48 n :: acc).length ≤ _
  cases e : Nat.ble 10 n with
  | false => show acc.length + 1 ≤ _; omega
  | true =>
   have := Nat.le_of_ble_eq_true e
   cases k with
   | zero => simp at h; omega
   | succ k =>
    have hp : 10 ^ (k + 1 + 1) = 10 ^ (k + 1) * 10 := rfl
    have := uD f (n / 10) k ((48 + n % 10) :: acc) (by omega)
    simp only [List.length_cons] at this
    show (eQ f (n / 10) ((48 + n % 10) :: acc)).length ≤ _
    omega
theorem zR (so : Nat → Bool) : ∀ (a v : List Nat), (∀ c ∈ a, so c = true) → (∀ c r, v = c :: r → so c = false) → (a ++ v).takeWhile so = a
 | [], v, h, hv => by
  cases v with
  | nil => rfl
  | cons c r => simp [hv c r rfl]
 | c :: a, v, h, hv => by
  have := zR so a v (fun d hd => h d (by simp [hd])) hv
  simp [h c (by simp), this]
def dg (n : Nat) : List Nat := eQ 20 n []
theorem aAv (n : Nat) : ∃ c l, dg n = c :: l ∧ aT c = true := by
 cases e : dg n with
 | nil => exact absurd e (aGu 19 n [])
 | cons c l => exact ⟨c, l, rfl, tN 20 n [] (fun c hc => by cases hc) c (by show c ∈ dg n; rw [e]; simp)⟩
theorem aMy {n : Nat} (hn : n ≤ 1152921504606846976) {v : List Nat} (hv : ∀ c r, v = c :: r → cU c = false) : aW 2001 (dg n ++ v) = some (4, [], (n : Int), 0, (dg n).length) := by
 obtain ⟨c, l, e, hc⟩ := aAv n
 have e2 : (dg n ++ v).takeWhile aT = dg n := zR aT _ _ (tN 20 n [] fun c hc => by cases hc) fun c r e => by
  have := hv c r e
  unfold cU at this
  cases e3 : aT c with
  | false => rfl
  | true => rw [e3] at this; simp at this
 have h0 : nx (dg n ++ v) 0 = c := by rw [e]; rfl
 have h1 : bJ c = false := by
  simp [aT] at hc
  simp [bJ]; omega
 have h2 := aIj 19 n [] (by show n < 100000000000000000000; omega) hn
 unfold aW dE
 rw [h0, if_neg (by simp [h1]), if_pos hc, e2]
 show some ((4 : Int), ([] : List Nat), (fV 0 (dg n)).1, (fV 0 (dg n)).2, (dg n).length) = _
 rw [show fV 0 (dg n) = ((n : Int), 0) from h2]
theorem aGi {n : Nat} (hn : n ≤ 1152921504606846976) {v : List Nat} {p : Nat} {r : List Tok} (hv : ∀ c r, v = c :: r → cU c = false) (hr : Lx 2001 v (p + (dg n).length) r) : Lx 2001 (dg n ++ v) p (⟨4, [], (n : Int), (p : Int)⟩ :: r) := by
 obtain ⟨c, l, e, hc⟩ := aAv n
 exact Lx.tok (g := 2001) [] (dg n ++ v) p (dg n).length (4, [], (n : Int), 0, (dg n).length) r .nil (aMy hn hv) rfl rfl (by rw [e]; simp) (by simp) (by show (4 : Int) ≠ 0; decide) (by
  rw [List.drop_left]
  exact hr)
theorem aQb : TV 3 [45] := ⟨by decide, fun v hv => by
 have h := hv.1 rfl
 have : bI (cX signs) 2 (45 :: v) = 1 := by
  show (if cX signs 45 then bI (cX signs) 1 v + 1 else 0) = 1
  rw [if_pos (by decide)]
  cases v with
  | nil => rfl
  | cons c r =>
   have h : cX signs c = false := h
   show (if cX signs c then _ else 0) + 1 = 1
   rw [h]; rfl
 show aW 2001 (45 :: v) = _
 unfold aW
 rw [show nx (45 :: v) 0 = 45 from rfl, this]
 rfl⟩
theorem bIt {n : Nat} (hn : n ≤ 1152921504606846976) {v : List Nat} {p : Nat} {r : List Tok} (hv : Stop v) (hr : Lx 2001 v (p + 1 + (dg n).length) r) : Lx 2001 (45 :: (dg n ++ v)) p (⟨3, [45], 0, (p : Int)⟩ :: ⟨4, [], (n : Int), ((p + 1 : Nat) : Int)⟩ :: r) := by
 refine fB (k := 3) (t := [45]) aQb (by decide) ⟨fun _ => ?_, fun h => absurd rfl h⟩ (aGi hn hv.name hr)
 obtain ⟨c, l, e, hc⟩ := aAv n
 show cX signs (nx (dg n ++ v) 0) = false
 rw [e]
 exact (aEw hc).1
theorem bLx : ∀ (s : List Nat) (i : Nat), (∀ c ∈ s, c ≠ 58) → cZ 58 s i = -1
 | [], i, h => rfl
 | c :: s, i, h => by
  have ih := bLx s (i + 1) fun d hd => h d (by simp [hd])
  show (bif Nat.beq c 58 then Int.ofNat i else cZ 58 s (i + 1)) = -1
  cases e : Nat.beq c 58 with
  | true => exact absurd (Nat.eq_of_beq_eq_true e) (h c (by simp))
  | false => exact ih
theorem bGe : ∀ (s r : List Nat) (i : Nat), 0 ≤ cZ 58 (s ++ 58 :: r) i
 | [], r, i => by show (0 : Int) ≤ (bif Nat.beq 58 58 then Int.ofNat i else _); simp
 | c :: s, r, i => by
  have ih := bGe s r (i + 1)
  show 0 ≤ (bif Nat.beq c 58 then Int.ofNat i else cZ 58 (s ++ 58 :: r) (i + 1))
  cases e : Nat.beq c 58 with
  | true => simp
  | false => exact ih
theorem bLz {c : Nat} (h : cU c = true) : c ≠ 58 := fun e => by rw [e] at h; cases h
theorem aQf {c : Nat} (h : cX signs c = true) : c ≠ 58 ∧ oL c = false := by
 have : c = 43 ∨ c = 45 ∨ c = 42 ∨ c = 47 ∨ c = 60 ∨ c = 62 ∨ c = 61 ∨ c = 126 ∨ c = 44 ∨ c = 64 ∨ c = 38 ∨ c = 37 := by simpa [aJ, cX, signs] using h
 rcases this with rfl | rfl | rfl | rfl | rfl | rfl | rfl | rfl | rfl | rfl | rfl | rfl <;> exact ⟨by decide, by decide⟩
theorem aIh (so : Nat → Bool) : ∀ (m : Nat) (u : List Nat), ∀ c ∈ u.take (bI so m u), so c = true
 | 0, u => fun c hc => by simp [bI] at hc
 | m + 1, [] => fun c hc => by simp [bI] at hc
 | m + 1, a :: u => fun c hc => by
  cases e : so a with
  | false => simp [bI, e] at hc
  | true =>
   simp only [bI, e, if_true, List.take_succ_cons] at hc
   rcases List.mem_cons.1 hc with rfl | hc
   ·exact e
   ·exact aIh so m u c hc
theorem eF {k : Int} {t : List Nat} (h : TV k t) : (k = 1 → bR t = 1 ∧ (∀ c ∈ t, c ≠ 58)) ∧ (k = 2 → ∃ q, t = q ++ [58] ∧ ∀ c ∈ q, c ≠ 58) ∧ (k = 3 → bR t = 2 ∧ (∀ c ∈ t, c ≠ 58)) := by
 have h1 := h.2 [] (stop_nil.fol k)
 have hne := h.1
 generalize bG k t ++ [] = u at h1
 have hnm : ∀ c ∈ u.takeWhile cU, c ≠ 58 := fun c hc => bLz (uG cU u c hc)
 have fin1 : ∀ {x : Nat}, bJ (nx u 0) = true → bR (u.takeWhile cU) = 1 := fun {_} hl => by
  unfold bR
  rw [bLx _ 0 hnm, if_neg (by decide)]
  cases u with
  | nil => cases hl
  | cons c u =>
   have hl : bJ c = true := hl
   have : cU c = true := by unfold cU; rw [hl]; rfl
   simp only [List.takeWhile_cons, this, if_true]
   have : oL c = true := hl
   simp [this]
 unfold aW at h1
 split at h1
 ·rename_i hl
  split at h1
  ·rename_i hn
   have en : (aI u).1 = u.takeWhile cU := by
    unfold aI at hn ⊢
    split
    ·rename_i h24; rw [if_pos h24] at hn; cases hn
    ·rfl
   split at h1
   ·simp only [aZ, bS] at h1
    refine ⟨fun e => by omega, fun _ => ⟨u.takeWhile cU, by rw [← h1.2.1, en], hnm⟩, fun e => by omega⟩
   ·simp only [aZ, bS] at h1
    refine ⟨fun _ => ?_, fun e => by omega, fun e => by omega⟩
    rw [← h1.2.1, en]
    exact ⟨fin1 (x := 0) hl, hnm⟩
  ·rename_i hn
   simp only [aZ, bS] at h1
   exact absurd h1.2.2.2.1 hn
 split at h1
 ·simp only [aZ, bS] at h1
  exact ⟨fun e => by omega, fun e => by omega, fun e => by omega⟩
 split at h1
 ·obtain ⟨q, hq, h1⟩ := bE h1
  simp only [aZ, bS] at h1
  exact ⟨fun e => by omega, fun e => by omega, fun e => by omega⟩
 split at h1
 ·split at h1
  ·simp only [aZ, bS] at h1
   exact ⟨fun e => by omega, fun e => by omega, fun e => by omega⟩
  ·obtain ⟨q, hq, h1⟩ := bE h1
   simp only [aZ, bS] at h1
   exact ⟨fun e => by omega, fun e => by omega, fun e => by omega⟩
 split at h1
 ·simp only [aZ, bS] at h1
  exact ⟨fun e => by omega, fun e => by omega, fun e => by omega⟩
 split at h1
 ·simp only [aZ, bS] at h1
  exact ⟨fun e => by omega, fun e => by omega, fun e => by omega⟩
 split at h1
 ·simp only [aZ, bS] at h1
  refine ⟨fun e => by omega, fun e => by omega, fun e => ?_⟩
  have hall := aIh (cX signs) 2 u
  rw [h1.2.1] at hall
  have h58 : ∀ c ∈ t, c ≠ 58 := fun c hc => (aQf (hall c hc)).1
  refine ⟨?_, h58⟩
  unfold bR
  rw [bLx _ 0 h58, if_neg (by decide)]
  cases t with
  | nil => rfl
  | cons c t => simp [(aQf (hall c (by simp))).2]
 split at h1
 ·simp only [aZ, bS] at h1
  exact ⟨fun e => by omega, fun e => by omega, fun e => by omega⟩
 ·simp only [aZ, bS] at h1
  have := h1.2.2.2.1
  omega
theorem tG : ∀ (q acc r : List Nat), (∀ c ∈ q, c ≠ 58) → cE 58 acc (q ++ 58 :: r) = (acc ++ q ++ [58]) :: cE 58 [] r
 | [], acc, r, h => by
  show (bif Nat.beq 58 58 then _ else _) = _
  simp
 | c :: q, acc, r, h => by
  have ih := tG q (acc ++ [c]) r fun d hd => h d (by simp [hd])
  have hc : Nat.beq c 58 = false := by
   cases e : Nat.beq c 58 with
   | false => rfl
   | true => exact absurd (Nat.eq_of_beq_eq_true e) (h c (by simp))
  show (bif Nat.beq c 58 then (acc ++ [c]) :: cE 58 [] (q ++ 58 :: r) else cE 58 (acc ++ [c]) (q ++ 58 :: r)) = _
  rw [hc]
  show cE 58 (acc ++ [c]) (q ++ 58 :: r) = _
  rw [ih]
  simp
theorem tS : ∀ (ps : List (List Nat)), (∀ p ∈ ps, ∃ q, p = q ++ [58] ∧ ∀ c ∈ q, c ≠ 58) → cE 58 [] ps.flatten = ps ++ [[]]
 | [], h => rfl
 | p :: ps, h => by
  obtain ⟨q, rfl, hq⟩ := h p (by simp)
  have ih := tS ps fun x hx => h x (by simp [hx])
  rw [List.flatten_cons, List.append_assoc]
  rw [show [58] ++ ps.flatten = 58 :: ps.flatten from rfl, tG q [] _ hq, ih]
  simp
theorem oD {ps : List (List Nat)} (h : ∀ p ∈ ps, TV 2 p) : dF ps.flatten = ps := by
 unfold dF
 rw [tS ps fun p hp => (eF (h p hp)).2.1 rfl]
 simp
theorem jO {ps : List (List Nat)} (h : ∀ p ∈ ps, TV 2 p) (hne : ps ≠ []) : bR ps.flatten = 3 := by
 obtain ⟨p, r, rfl⟩ : ∃ p r, ps = p :: r := by cases ps with
  | nil => exact absurd rfl hne
  | cons p r => exact ⟨p, r, rfl⟩
 obtain ⟨q, rfl, _⟩ := (eF (h p (by simp))).2.1 rfl
 unfold bR
 rw [if_pos]
 have := bGe q r.flatten 0
 simpa [aJ] using this
end Go.Dd

namespace Go.Dd
def sd (T : List Tok) (d : Nat) : PSt := ⟨T, (d : Int), 0, 0⟩
theorem hK (t : Tok) (r : List Tok) (d : Nat) : bB (sd (t :: r) d) 0 = some t := by simp [bB, sd]
theorem aBo (t u : Tok) (r : List Tok) (d : Nat) : bB (sd (t :: u :: r) d) 1 = some u := by simp [bB, sd, show min 1 (r.length + 1) = 1 by omega]
theorem eP {t u : Tok} {r : List Tok} {d : Nat} (h : t.kind ≠ 0) : aU (sd (t :: u :: r) d) = some (t, sd (u :: r) d) := by
 unfold aU
 rw [hK, Option.bind_some, if_neg h, if_pos (by simp [sd])]
 rfl
theorem is1 (t : Tok) (r : List Tok) (d : Nat) (k : Int) (x : List Nat) : dR (sd (t :: r) d) k x = some (decide (t.kind = k) && (decide (x = []) || decide (t.text = x))) := by
 unfold dR
 rw [hK, Option.bind_some]
 simp [sd]
theorem vB {t : Tok} {r : List Tok} {d : Nat} {k : Int} (h : t.kind = k) : dR (sd (t :: r) d) k [] = some true := by rw [is1, h]; simp
theorem isN {t : Tok} {r : List Tok} {d : Nat} {k : Int} {x : List Nat} (h : t.kind ≠ k) : dR (sd (t :: r) d) k x = some false := by rw [is1]; simp [h]
theorem isX {t : Tok} {r : List Tok} {d : Nat} {k : Int} {x : List Nat} (h : t.kind = k) (h2 : t.text = x) : dR (sd (t :: r) d) k x = some true := by rw [is1, h, h2]; simp
theorem isY {t : Tok} {r : List Tok} {d : Nat} {k : Int} {x : List Nat} (hx : x ≠ []) (h : ¬ (t.kind = k ∧ t.text = x)) : dR (sd (t :: r) d) k x = some false := by
 rw [is1]
 simp [hx]
 intro a b
 exact h ⟨a, b⟩
theorem lM {t u : Tok} {r : List Tok} {d : Nat} {k : Int} {x : List Nat} (h : dR (sd (t :: u :: r) d) k x = some true) (h0 : t.kind ≠ 0) : cJ (sd (t :: u :: r) d) k x = some (t, sd (u :: r) d) := by
 unfold cJ
 rw [h, Option.bind_some, if_pos rfl, eP h0]
theorem Lx.cons {g : Nat} {v : List Nat} {p : Nat} {r : List Tok} (h : Lx g v p r) : ∃ t l, r = t :: l := by
 obtain ⟨a, b, e, _⟩ := h.first
 exact ⟨a, b, e⟩
def Hd (P : Tok → Prop) (r : List Tok) : Prop := ∃ t l, r = t :: l ∧ P t
def pP (t : Tok) : Prop := t.kind ≠ 9
def pU (t : Tok) : Prop := t.kind ≠ 9 ∧ t.kind ≠ 1
def pB (t : Tok) : Prop := t.kind ≠ 9 ∧ t.kind ≠ 1 ∧ t.kind ≠ 3
def pK (t : Tok) : Prop := t.kind ≠ 9 ∧ t.kind ≠ 1 ∧ t.kind ≠ 3 ∧ t.kind ≠ 2
def pE (t : Tok) : Prop := t.kind ≠ 9 ∧ t.kind ≠ 1 ∧ t.kind ≠ 3 ∧ t.kind ≠ 2 ∧ ¬ (t.kind = 10 ∧ t.text = [59])
theorem Hd.mono {P Q : Tok → Prop} (h : ∀ t, P t → Q t) {r : List Tok} : Hd P r → Hd Q r := fun ⟨t, l, e, k⟩ => ⟨t, l, e, h t k⟩
def HG (t : Tok) : Prop := t.kind ≠ 0 ∧ (t.kind ≠ 8 ∧ t.kind ≠ 2) ∧ (t.kind = 3 → t.text = [45]) ∧ (t.kind = 10 → t.text = [40] ∨ t.text = [91])
def NA (T : List Tok) : Prop := ∃ t u l, T = t :: u :: l ∧ HG t ∧ ¬ (t.kind = 1 ∧ u.kind = 9)
def HE (T : List Tok) : Prop := ∃ t u l, T = t :: u :: l ∧ HG t
theorem NA.he {T : List Tok} : NA T → HE T := fun ⟨t, u, l, a, b, _⟩ => ⟨t, u, l, a, b⟩
def PP (f : Nat) : PF := dG (nQ f) (dK f) f
def FU (f : Nat) : PF := fun st => (PP f st).bind fun q => bX f q.1 q.2
def FB (f : Nat) : PF := fun st => (FU f st).bind fun u => bP (PP f) f f u.1 u.2
def FK (f : Nat) : PF := fun st => (FB f st).bind fun w => iN (PP f) f w.1 w.2
def RdP (d : Nat) (x : Node) (tx : List Nat) : Prop := ∀ v p r, p + (tx ++ v).length ≤ 100000 → Stop v → Lx 2001 v (p + tx.length) r → Hd pP r → ∃ T, Lx 2001 (tx ++ v) p T ∧ r.length < T.length ∧ NA T ∧ ∀ f, T.length + 2 ≤ f → PP f (sd T d) = some (x, sd r d)
def RdU (d : Nat) (x : Node) (tx : List Nat) : Prop := ∀ v p r, p + (tx ++ v).length ≤ 100000 → Stop v → Lx 2001 v (p + tx.length) r → Hd pP r → ∃ T, Lx 2001 (tx ++ v) p T ∧ r.length < T.length ∧ NA T ∧ ∀ f, T.length + 2 ≤ f → ∃ g, r.length + 1 ≤ g ∧ FU f (sd T d) = bX g x (sd r d)
def RdB (d : Nat) (x : Node) (tx : List Nat) : Prop := ∀ v p r, p + (tx ++ v).length ≤ 100000 → Stop v → Lx 2001 v (p + tx.length) r → Hd pU r → ∃ T, Lx 2001 (tx ++ v) p T ∧ r.length < T.length ∧ NA T ∧ ∀ f, T.length + 2 ≤ f → ∃ g, r.length + 1 ≤ g ∧ FB f (sd T d) = bP (PP f) f g x (sd r d)
def RdK (d : Nat) (x : Node) (tx : List Nat) : Prop := ∀ v p r, p + (tx ++ v).length ≤ 100000 → Stop v → Lx 2001 v (p + tx.length) r → Hd pK r → ∃ T, Lx 2001 (tx ++ v) p T ∧ r.length < T.length ∧ NA T ∧ ∀ f, T.length + 2 ≤ f → FK f (sd T d) = some (x, sd r d)
def RdE (d : Nat) (x : Node) (tx : List Nat) : Prop := ∀ v p r, p + (tx ++ v).length ≤ 100000 → Stop v → Lx 2001 v (p + tx.length) r → Hd pE r → ∃ T, Lx 2001 (tx ++ v) p T ∧ r.length < T.length ∧ HE T ∧ ∀ f, T.length + 2 ≤ f → dK (f + 1) (sd T d) = some (x, sd r d)
theorem pD {g : Nat} {x : Node} {r : List Tok} {d : Nat} (hg : 1 ≤ g) (h : Hd pU r) : bX g x (sd r d) = some (x, sd r d) := by
 obtain ⟨t, l, rfl, h1, h2⟩ := h
 obtain ⟨g, rfl⟩ : ∃ k, g = k + 1 := ⟨g - 1, by omega⟩
 unfold bX
 rw [isN h2]
 rfl
theorem kR {P : PF} {f g : Nat} {x : Node} {r : List Tok} {d : Nat} (hg : 1 ≤ g) (h : Hd pB r) : bP P f g x (sd r d) = some (x, sd r d) := by
 obtain ⟨t, l, rfl, h1, h2, h3⟩ := h
 obtain ⟨g, rfl⟩ : ∃ k, g = k + 1 := ⟨g - 1, by omega⟩
 unfold bP
 rw [isN h3]
 rfl
theorem aQj {P : PF} {f : Nat} {x : Node} {r : List Tok} {d : Nat} (h : Hd pK r) : iN P f x (sd r d) = some (x, sd r d) := by
 obtain ⟨t, l, rfl, h1, h2, h3, h4⟩ := h
 unfold iN
 rw [isN h4]
 rfl
theorem RdP.u {d : Nat} {x : Node} {tx : List Nat} (h : RdP d x tx) : RdU d x tx := fun v p r hl hv hr hd => by
 obtain ⟨T, a, b, c, e⟩ := h v p r hl hv hr hd
 refine ⟨T, a, b, c, fun f hf => ⟨f, by omega, ?_⟩⟩
 unfold FU
 rw [e f hf]
 rfl
theorem RdU.b {d : Nat} {x : Node} {tx : List Nat} (h : RdU d x tx) : RdB d x tx := fun v p r hl hv hr hd => by
 obtain ⟨T, a, b, c, e⟩ := h v p r hl hv hr (hd.mono fun _ h => h.1)
 refine ⟨T, a, b, c, fun f hf => ⟨f, by omega, ?_⟩⟩
 obtain ⟨g, g1, g2⟩ := e f hf
 unfold FB
 rw [g2, pD (by omega) hd]
 rfl
theorem RdB.k {d : Nat} {x : Node} {tx : List Nat} (h : RdB d x tx) : RdK d x tx := fun v p r hl hv hr hd => by
 obtain ⟨T, a, b, c, e⟩ := h v p r hl hv hr (hd.mono fun _ h => ⟨h.1, h.2.1⟩)
 refine ⟨T, a, b, c, fun f hf => ?_⟩
 obtain ⟨g, g1, g2⟩ := e f hf
 unfold FK
 rw [g2, kR (by omega) (hd.mono fun _ h => ⟨h.1, h.2.1, h.2.2.1⟩), Option.bind_some, aQj hd]
theorem nG (f : Nat) (st : PSt) : gU (PP f) f st = (FK f st).bind fun n => (dR n.2 10 [59]).bind fun c => if c then
 if n.1.kind = 7 then (n.1.kids[0]?).bind fun k0 => jW (PP f) f f [k0, gA n.1] n.2
 else (bB n.2 0).bind fun t => some (n.1, cP n.2 t 13)
 else some n := by
 unfold gU FK FB FU
 simp only [Option.bind_assoc]
theorem aCd {f : Nat} {T : List Tok} {d : Nat} (h : NA T) : dK (f + 1) (sd T d) = gU (PP f) f (sd T d) := by
 obtain ⟨t, u, l, rfl, h1, h2⟩ := h
 show lL (PP f) (dK f) f (sd (t :: u :: l) d) = _
 unfold lL
 by_cases h3 : t.kind = 1
 ·have h4 : u.kind ≠ 9 := fun h => h2 ⟨h3, h⟩
  rw [vB h3, Option.bind_some, if_pos rfl, aBo]
  simp [h4]
 ·rw [isN h3]
  rfl
theorem RdK.e {d : Nat} {x : Node} {tx : List Nat} (h : RdK d x tx) : RdE d x tx := fun v p r hl hv hr hd => by
 obtain ⟨T, a, b, c, e⟩ := h v p r hl hv hr (hd.mono fun _ h => ⟨h.1, h.2.1, h.2.2.1, h.2.2.2.1⟩)
 refine ⟨T, a, b, c.he, fun f hf => ?_⟩
 rw [aCd c, nG, e f hf, Option.bind_some]
 obtain ⟨t, l, rfl, h1⟩ := hd
 rw [isY (by decide) h1.2.2.2.2]
 rfl
theorem aSz (t : List Nat) : bG 1 t = t := rfl
theorem RdU.send {d : Nat} {x : Node} {tx n : List Nat} (h : RdU d x tx) (hn : TV 1 n) : RdU d (aH n [x]) (tx ++ 32 :: n) := fun v p r hl hv hr hd => by
 obtain ⟨t0, l0, rfl, hd⟩ := hd
 have l1 := fB (p := p + tx.length + 1) hn (by decide) (hv.fol 1) (r := t0 :: l0) (by
  rw [show p + tx.length + 1 + (bG 1 n).length = p + (tx ++ 32 :: n).length by simp [aSz]; omega]
  exact hr)
 obtain ⟨T, a, b, c, e⟩ := h (32 :: (n ++ v)) p _ (by simp only [List.length_append, List.length_cons] at hl ⊢; omega) (dO _) (fA l1) ⟨_, _, rfl, by show (1 : Int) ≠ 9; decide⟩
 simp only [List.length_cons] at b
 refine ⟨T, by simpa using a, by simp only [List.length_cons]; omega, c, fun f hf => ?_⟩
 obtain ⟨g, g1, g2⟩ := e f hf
 simp only [List.length_cons] at g1
 obtain ⟨g, rfl⟩ : ∃ k, g = k + 1 := ⟨g - 1, by omega⟩
 refine ⟨g, by simp only [List.length_cons]; omega, ?_⟩
 rw [g2]
 show bX (g + 1) x (sd (_ :: t0 :: l0) d) = _
 conv => lhs; unfold bX
 rw [vB rfl, Option.bind_some, if_pos rfl, eP (by show (1 : Int) ≠ 0; decide)]
 rfl
theorem RdB.send {d : Nat} {x y : Node} {tx ty s : List Nat} (h : RdB d x tx) (hs : TV 3 s) (hy : RdU d y ty) : RdB d (aH s [x, y]) (tx ++ 32 :: (s ++ 32 :: ty)) := fun v p r hl hv hr hd => by
 obtain ⟨T1, a1, b1, c1, e1⟩ := hy v (p + tx.length + 1 + s.length + 1) r (by simp only [List.length_append, List.length_cons] at hl ⊢; omega) hv (by
  rw [show p + tx.length + 1 + s.length + 1 + ty.length = p + (tx ++ 32 :: (s ++ 32 :: ty)).length by simp; omega]
  exact hr) (hd.mono fun _ h => h.1)
 have l1 := fB (p := p + tx.length + 1) hs (by decide) ((dO (ty ++ v)).fol 3) (r := T1) (fA a1)
 obtain ⟨T, a, b, c, e⟩ := h (32 :: (s ++ 32 :: (ty ++ v))) p _ (by simp only [List.length_append, List.length_cons] at hl ⊢; omega) (dO _) (fA l1) ⟨_, _, rfl, by show (3 : Int) ≠ 9; decide, by show (3 : Int) ≠ 1; decide⟩
 simp only [List.length_cons] at b
 refine ⟨T, by simpa using a, by omega, c, fun f hf => ?_⟩
 obtain ⟨g, g1, g2⟩ := e f hf
 simp only [List.length_cons] at g1
 obtain ⟨g, rfl⟩ : ∃ k, g = k + 1 := ⟨g - 1, by omega⟩
 refine ⟨g, by omega, ?_⟩
 obtain ⟨q, q1, q2⟩ := e1 f (by omega)
 rw [g2]
 obtain ⟨t1, u1, k1, rfl, _⟩ := c1
 conv => lhs; unfold bP
 rw [vB rfl, Option.bind_some, if_pos rfl, eP (by show (3 : Int) ≠ 0; decide), Option.bind_some]
 have : ((PP f (sd (t1 :: u1 :: k1) d)).bind fun q => (bX f q.1 q.2).bind fun u => bP (PP f) f g (aH s [x, u.1]) u.2) = bP (PP f) f g (aH s [x, y]) (sd r d) := by
  rw [← Option.bind_assoc]
  show (FU f (sd (t1 :: u1 :: k1) d)).bind _ = _
  rw [q2, pD (by omega) hd]
  rfl
 exact this
theorem bQm {n : Nat} (h : n ≤ 1000000) : jV ((n : Int) + 1) = ((n + 1 : Nat) : Int) := wC h
theorem bPe {n : Nat} (h : n ≤ 1000000) : jV (((n + 1 : Nat) : Int) - 1) = (n : Int) := by
 unfold jV
 rw [gV _ (by omega) (by omega)]
 omega
theorem lJ {t : Tok} {r : List Tok} {d : Nat} (h3 : t.kind ≠ 3) (h4 : t.kind ≠ 4) (h5 : t.kind ≠ 5) (h6 : t.kind ≠ 6) : dY (sd (t :: r) d) = some ((.mk 0 t.text t.num [] [] [], false), sd (t :: r) d) := by
 have hn : pG (sd (t :: r) d) = some false := by
  unfold pG
  obtain ⟨u, hu⟩ : ∃ u, bB (sd (t :: r) d) 1 = some u := by
   cases r with
   | nil => exact ⟨t, by simp [bB, sd]⟩
   | cons u r => exact ⟨u, aBo _ _ _ _⟩
  rw [hu, Option.bind_some, isN h3, Option.bind_some, hK]
  rfl
 unfold dY
 rw [hK, Option.bind_some, if_pos (by rfl), hn, Option.bind_some, if_neg (by decide), if_neg h4, if_neg h5, if_neg h6]
theorem lR {F : PF} {t u : Tok} {r r' : List Tok} {d : Nat} {x : Node} (h0 : t.kind ≠ 0) (hd : d < 20) (h : F (sd (u :: r) (d + 1)) = some (x, sd r' (d + 1))) : cT F (sd (t :: u :: r) d) = some (x, sd r' d) := by
 unfold cT
 rw [eP h0, Option.bind_some]
 have h1 : ¬ ((sd (u :: r) d).deep = 20) := by show ¬ ((d : Int) = 20); omega
 rw [if_neg h1]
 have h2 : ({ (sd (u :: r) d) with deep := jV ((sd (u :: r) d).deep + 1) } : PSt) = sd (u :: r) (d + 1) := by
  show (⟨u :: r, jV ((d : Int) + 1), 0, 0⟩ : PSt) = _
  rw [bQm (by omega)]
  rfl
 show (F ({ (sd (u :: r) d) with deep := jV ((sd (u :: r) d).deep + 1) } : PSt)).bind _ = _
 rw [h2, h]
 show some (x, (⟨r', jV (((d + 1 : Nat) : Int) - 1), 0, 0⟩ : PSt)) = _
 rw [bPe (by omega)]
 rfl
theorem jB {c : Nat} (h : c ∈ dN) {v : List Nat} {p : Nat} {r : List Tok} (hr : Lx 2001 v (p + 1) r) : Lx 2001 (c :: v) p (⟨10, [c], 0, (p : Int)⟩ :: r) :=
 fB (k := 10) (t := [c]) (aLl h) (by decide) ⟨fun h => absurd h (by decide), fun _ _ _ h => absurd rfl h⟩ hr
theorem RdE.paren {d : Nat} {x : Node} {tx : List Nat} (h : RdE (d + 1) x tx) (hd : d < 20) : RdP d x (40 :: (tx ++ [41])) := fun v p r hl hv hr hr0 => by
 obtain ⟨t0, l0, rfl, _⟩ := hr0
 have l1 := jB (c := 41) (by decide) (v := v) (p := p + 1 + tx.length) (r := t0 :: l0) (by
  rw [show p + 1 + tx.length + 1 = p + (40 :: (tx ++ [41])).length by simp; omega]
  exact hr)
 obtain ⟨T, a, b, c, e⟩ := h (41 :: v) (p + 1) _ (by simp only [laE, lcE, lnE] at hl ⊢; omega) (kG (by decide) v) l1 ⟨_, _, rfl, by show (10 : Int) ≠ 9; decide, by show (10 : Int) ≠ 1; decide, by show (10 : Int) ≠ 3; decide, by show (10 : Int) ≠ 2; decide, by rintro ⟨_, h⟩; exact absurd h (show ([41] : List Nat) ≠ [59] by decide)⟩
 have l2 := jB (c := 40) (by decide) a
 simp only [List.length_cons] at b
 obtain ⟨t1, u1, l1, rfl, h1⟩ := c
 refine ⟨_, by simpa using l2, by simp only [List.length_cons] at b ⊢; omega, ⟨_, _, _, rfl, ⟨by show (10 : Int) ≠ 0; decide, by show (10 : Int) ≠ 8 ∧ (10 : Int) ≠ 2; decide, fun h => absurd h (by show (10 : Int) ≠ 3; decide), fun _ => .inl rfl⟩, fun h => absurd h.1 (by show (10 : Int) ≠ 1; decide)⟩, fun f hf => ?_⟩
 obtain ⟨f, rfl⟩ : ∃ k, f = k + 1 := ⟨f - 1, by omega⟩
 have hE := e f (by simp only [List.length_cons] at hf ⊢; omega)
 unfold PP dG
 rw [lJ (by show (10 : Int) ≠ 3; decide) (by show (10 : Int) ≠ 4; decide) (by show (10 : Int) ≠ 5; decide) (by show (10 : Int) ≠ 6; decide), Option.bind_some]
 show (if false = true then _ else (bB (sd (_ :: t1 :: u1 :: l1) d) 0).bind _) = _
 rw [if_neg (by decide), hK, Option.bind_some, if_pos (by rfl), if_neg (by show (10 : Int) ≠ 1; decide), if_neg (by show (10 : Int) ≠ 7; decide)]
 show (dR (sd (_ :: t1 :: u1 :: l1) d) 10 [40]).bind _ = _
 rw [isX rfl rfl, Option.bind_some, if_pos rfl]
 refine lR (by show (10 : Int) ≠ 0; decide) hd ?_
 unfold kQ
 rw [hE, Option.bind_some]
 show (cJ (sd (_ :: t0 :: l0) (d + 1)) 10 [41]).bind _ = _
 rw [lM (isX rfl rfl) (by show (10 : Int) ≠ 0; decide)]
 rfl
theorem RdE.assign {d : Nat} {x : Node} {tx n : List Nat} (h : RdE d x tx) (hn : TV 1 n) : RdE d (.mk 6 n 0 [] [] [x]) (n ++ 32 :: 58 :: 61 :: 32 :: tx) := fun v p r hl hv hr hr0 => by
 obtain ⟨T, a, b, c, e⟩ := h v (p + n.length + 1 + 2 + 1) r (by simp only [List.length_append, List.length_cons] at hl ⊢; omega) hv (by
  rw [show p + n.length + 1 + 2 + 1 + tx.length = p + (n ++ 32 :: 58 :: 61 :: 32 :: tx).length by simp; omega]
  exact hr) hr0
 have l1 := fB (k := 9) (t := []) (p := p + n.length + 1) aPb (by decide) ⟨fun h => absurd h (by decide), fun _ _ h _ => absurd rfl h⟩ (fA a)
 have l2 := fB (p := p) hn (by decide) ((dO _).fol 1) (r := _) (fA l1)
 obtain ⟨t1, u1, k1, rfl, h1⟩ := c
 refine ⟨_, by simpa [aJ, bG] using l2, by simp only [List.length_cons] at b ⊢; omega, ⟨_, _, _, rfl, by show (1 : Int) ≠ 0; decide, by show (1 : Int) ≠ 8 ∧ (1 : Int) ≠ 2; decide, fun h => absurd h (by show (1 : Int) ≠ 3; decide), fun h => absurd h (by show (1 : Int) ≠ 10; decide)⟩, fun f hf => ?_⟩
 obtain ⟨f, rfl⟩ : ∃ k, f = k + 1 := ⟨f - 1, by omega⟩
 have hE := e f (by simp only [List.length_cons] at hf ⊢; omega)
 show lL (PP (f + 1)) (dK (f + 1)) (f + 1) (sd (_ :: _ :: t1 :: u1 :: k1) d) = _
 unfold lL
 rw [vB rfl, Option.bind_some, if_pos rfl, aBo, Option.bind_some]
 have e9 : ∀ (pp : Int), decide ((⟨9, [], 0, pp⟩ : Tok).kind = 9) = true := fun _ => rfl
 rw [e9, Option.bind_some, if_pos rfl, eP (by show (1 : Int) ≠ 0; decide), Option.bind_some]
 show (aU (sd (_ :: t1 :: u1 :: k1) d)).bind _ = _
 rw [eP (by show (9 : Int) ≠ 0; decide), Option.bind_some]
 show (dK (f + 1) (sd (t1 :: u1 :: k1) d)).bind _ = _
 rw [hE]
 rfl
end Go.Dd

namespace Go.Dd
theorem aEo {t : Tok} {r : List Tok} {d : Nat} (h3 : t.kind ≠ 3) : pG (sd (t :: r) d) = some false := by
 unfold pG
 obtain ⟨u, hu⟩ : ∃ u, bB (sd (t :: r) d) 1 = some u := by
  cases r with
  | nil => exact ⟨t, by simp [bB, sd]⟩
  | cons u r => exact ⟨u, aBo _ _ _ _⟩
 rw [hu, Option.bind_some, isN h3, Option.bind_some, hK]
 rfl
theorem bCp {t u : Tok} {r : List Tok} {d : Nat} (h : t.kind = 4) : dY (sd (t :: u :: r) d) = some ((.mk 1 t.text t.num [] [] [], true), sd (u :: r) d) := by
 unfold dY
 rw [hK, Option.bind_some, if_pos (by rfl), aEo (by omega), Option.bind_some, if_neg (by decide), if_pos h, eP (by omega)]
 rfl
theorem bCg {t u : Tok} {r : List Tok} {d : Nat} (h : t.kind = 5) : dY (sd (t :: u :: r) d) = some ((.mk 2 t.text t.num [] [] [], true), sd (u :: r) d) := by
 unfold dY
 rw [hK, Option.bind_some, if_pos (by rfl), aEo (by omega), Option.bind_some, if_neg (by decide), if_neg (by omega), if_pos h, eP (by omega)]
 rfl
theorem aZi {t u : Tok} {r : List Tok} {d : Nat} (h : t.kind = 6) : dY (sd (t :: u :: r) d) = some ((.mk 3 t.text t.num [] [] [], true), sd (u :: r) d) := by
 unfold dY
 rw [hK, Option.bind_some, if_pos (by rfl), aEo (by omega), Option.bind_some, if_neg (by decide), if_neg (by omega), if_neg (by omega), if_pos h, eP (by omega)]
 rfl
theorem aMr {t u w : Tok} {r : List Tok} {d : Nat} (h : t.kind = 3) (hx : t.text = [45]) (h4 : u.kind = 4) (hp : u.pos = jV (t.pos + 1)) : dY (sd (t :: u :: w :: r) d) = some ((.mk 1 [] (jV (0 - u.num)) [] [] [], true), sd (w :: r) d) := by
 have hn : pG (sd (t :: u :: w :: r) d) = some true := by
  unfold pG
  rw [aBo, Option.bind_some, isX h hx, Option.bind_some, hK, Option.bind_some, h4, hp]
  simp
 unfold dY
 rw [hK, Option.bind_some, if_pos (by rfl), hn, Option.bind_some, if_pos rfl, eP (by omega), Option.bind_some]
 show (aU (sd (u :: w :: r) d)).bind _ = _
 rw [eP (by omega)]
 rfl
def RdL (d : Nat) (x : Node) (tx : List Nat) : Prop := ∀ v p r, p + (tx ++ v).length ≤ 100000 → Stop v → Lx 2001 v (p + tx.length) r → ∃ T, Lx 2001 (tx ++ v) p T ∧ r.length < T.length ∧ HE T ∧ (∀ t u l, T = t :: u :: l → t.kind ≠ 1 ∧ ¬ (t.kind = 10 ∧ t.text = [41])) ∧ dY (sd T d) = some ((x, true), sd r d)
theorem RdL.p {d : Nat} {x : Node} {tx : List Nat} (h : RdL d x tx) : RdP d x tx := fun v p r hl hv hr hd => by
 obtain ⟨T, a, b, ⟨t, u, l, e, c⟩, c2, k⟩ := h v p r hl hv hr
 refine ⟨T, a, b, ⟨t, u, l, e, c, fun h => (c2 t u l e).1 h.1⟩, fun f hf => ?_⟩
 unfold PP dG
 rw [k]
 rfl
theorem bIw {d : Nat} {t : List Nat} (h : TV 5 t) : RdL d (.mk 2 t 0 [] [] []) (39 :: (dD 39 [39, 39] t ++ [39])) := fun v p r hl hv hr => by
 obtain ⟨t0, l0, rfl⟩ := hr.cons
 have := fB (p := p) h (by decide) (hv.fol 5) hr
 exact ⟨_, this, by simp, ⟨_, _, _, rfl, by show (5 : Int) ≠ 0; decide, by show (5 : Int) ≠ 8 ∧ (5 : Int) ≠ 2; decide, fun h => absurd h (by show (5 : Int) ≠ 3; decide), fun h => absurd h (by show (5 : Int) ≠ 10; decide)⟩, fun _ _ _ e => by
  cases e
  exact ⟨by show (5 : Int) ≠ 1; decide, fun h => absurd h.1 (by show (5 : Int) ≠ 10; decide)⟩, bCg rfl⟩
theorem bMp {d : Nat} {t : List Nat} (h : TV 6 t) : RdL d (.mk 3 t 0 [] [] []) (35 :: t) := fun v p r hl hv hr => by
 obtain ⟨t0, l0, rfl⟩ := hr.cons
 have := fB (p := p) h (by decide) (hv.fol 6) hr
 exact ⟨_, this, by simp, ⟨_, _, _, rfl, by show (6 : Int) ≠ 0; decide, by show (6 : Int) ≠ 8 ∧ (6 : Int) ≠ 2; decide, fun h => absurd h (by show (6 : Int) ≠ 3; decide), fun h => absurd h (by show (6 : Int) ≠ 10; decide)⟩, fun _ _ _ e => by
  cases e
  exact ⟨by show (6 : Int) ≠ 1; decide, fun h => absurd h.1 (by show (6 : Int) ≠ 10; decide)⟩, aZi rfl⟩
theorem aBs (n : Nat) : fK (-((n + 1 : Nat) : Int)) = 45 :: dg (n + 1) := rfl
theorem aVd {d : Nat} {n : Nat} (hn : n ≤ 1152921504606846976) : RdL d (.mk 1 [] (n : Int) [] [] []) (fK (n : Int)) := fun v p r hl hv hr => by
 obtain ⟨t0, l0, rfl⟩ := hr.cons
 have := aGi (p := p) hn hv.name hr
 exact ⟨_, this, by simp, ⟨_, _, _, rfl, by show (4 : Int) ≠ 0; decide, by show (4 : Int) ≠ 8 ∧ (4 : Int) ≠ 2; decide, fun h => absurd h (by show (4 : Int) ≠ 3; decide), fun h => absurd h (by show (4 : Int) ≠ 10; decide)⟩, fun _ _ _ e => by
  cases e
  exact ⟨by show (4 : Int) ≠ 1; decide, fun h => absurd h.1 (by show (4 : Int) ≠ 10; decide)⟩, bCp rfl⟩
theorem bNt {d : Nat} {n : Nat} (hn : n ≤ 1152921504606846976) : RdL d (.mk 1 [] (jV (0 - (n : Int))) [] [] []) (fK (jV (0 - (n : Int)))) := by
 cases n with
 | zero => exact aVd (n := 0) (by omega)
 | succ n =>
  have e : jV (0 - ((n + 1 : Nat) : Int)) = -((n + 1 : Nat) : Int) := by
   unfold jV
   rw [gV _ (by omega) (by omega)]
   omega
  rw [e, aBs]
  intro v p r hl hv hr
  obtain ⟨t0, l0, rfl⟩ := hr.cons
  simp only [List.length_append, List.length_cons] at hl
  have := bIt (p := p) hn hv (r := t0 :: l0) (by
   rw [show p + 1 + (dg (n + 1)).length = p + (45 :: dg (n + 1)).length by simp only [List.length_cons]; omega]
   exact hr)
  refine ⟨_, this, by simp, ⟨_, _, _, rfl, by show (3 : Int) ≠ 0; decide, by show (3 : Int) ≠ 8 ∧ (3 : Int) ≠ 2; decide, fun _ => rfl, fun h => absurd h (by show (3 : Int) ≠ 10; decide)⟩, fun _ _ _ e => by
   cases e
   exact ⟨by show (3 : Int) ≠ 1; decide, fun h => absurd h.1 (by show (3 : Int) ≠ 10; decide)⟩, ?_⟩
  rw [aMr rfl rfl rfl (by show ((p + 1 : Nat) : Int) = jV ((p : Int) + 1); rw [wC (by omega)])]
  show some ((Node.mk 1 [] (jV (0 - ((n + 1 : Nat) : Int))) [] [] [], true), _) = _
  rw [e]
theorem bJx {d : Nat} {n : List Nat} (h : TV 1 n) : RdP d (.mk 5 n 0 [] [] []) n := fun v p r hl hv hr hd => by
 obtain ⟨t0, l0, rfl, h9⟩ := hd
 have := fB (p := p) h (by decide) (hv.fol 1) hr
 refine ⟨_, this, by simp, ⟨_, _, _, rfl, ⟨by show (1 : Int) ≠ 0; decide, by show (1 : Int) ≠ 8 ∧ (1 : Int) ≠ 2; decide, fun h => absurd h (by show (1 : Int) ≠ 3; decide), fun h => absurd h (by show (1 : Int) ≠ 10; decide)⟩, fun h => h9 h.2⟩, fun f hf => ?_⟩
 unfold PP dG
 rw [lJ (by show (1 : Int) ≠ 3; decide) (by show (1 : Int) ≠ 4; decide) (by show (1 : Int) ≠ 5; decide) (by show (1 : Int) ≠ 6; decide), Option.bind_some]
 show (if false = true then _ else (bB (sd (_ :: t0 :: l0) d) 0).bind _) = _
 rw [if_neg (by decide), hK, Option.bind_some, if_pos (by rfl), if_pos (by rfl)]
 show (aU (sd (_ :: t0 :: l0) d)).bind _ = _
 rw [eP (by show (1 : Int) ≠ 0; decide)]
 rfl
def KQ : List (List Nat × Node × List Nat) → List Nat
 | [] => []
 | q :: qs => 32 :: (q.1 ++ 32 :: (q.2.2 ++ KQ qs))
def KOk (d : Nat) (qs : List (List Nat × Node × List Nat)) : Prop := ∀ q ∈ qs, TV 2 q.1 ∧ RdB d q.2.1 q.2.2
theorem KQ.stop {qs : List (List Nat × Node × List Nat)} {v : List Nat} (h : Stop v) : Stop (KQ qs ++ v) := by
 cases qs with
 | nil => exact h
 | cons q qs => exact dO _
theorem zV {d : Nat} : ∀ (qs : List (List Nat × Node × List Nat)) (v : List Nat) (p : Nat) (r : List Tok), KOk d qs → p + (KQ qs ++ v).length ≤ 100000 → Stop v → Lx 2001 v (p + (KQ qs).length) r → Hd pK r →
 ∃ T, Lx 2001 (KQ qs ++ v) p T ∧ r.length + qs.length ≤ T.length ∧ Hd pB T ∧ (qs ≠ [] → ∃ t l, T = t :: l ∧ t.kind = 2) ∧ ∀ f g t ks, T.length + 2 ≤ f → T.length + 1 ≤ g → t.length + (KQ qs).length ≤ 100000 →
  dQ (PP f) f g t ks (sd T d) = some (aH (t ++ (qs.map Prod.fst).flatten) (ks ++ qs.map fun q => q.2.1), sd r d)
 | [], v, p, r, hk, hl, hv, hr, hd => by
  refine ⟨r, hr, by simp, hd.mono fun _ h => ⟨h.1, h.2.1, h.2.2.1⟩, fun h => absurd rfl h, fun f g t ks hf hg ht => ?_⟩
  obtain ⟨t0, l0, rfl, h1, h2, h3, h4⟩ := hd
  obtain ⟨g, rfl⟩ : ∃ k, g = k + 1 := ⟨g - 1, by omega⟩
  unfold dQ
  rw [isN h4]
  simp
 | q :: qs, v, p, r, hk, hl, hv, hr, hd => by
  have hq := hk q (by simp)
  simp only [KQ, List.length_append, List.length_cons] at hl hr
  obtain ⟨T1, a1, b1, c1, _, e1⟩ := zV qs v (p + 1 + q.1.length + 1 + q.2.2.length) r (fun x hx => hk x (by simp [hx])) (by simp only [List.length_append]; omega) hv (by
   rw [show p + 1 + q.1.length + 1 + q.2.2.length + (KQ qs).length = p + (q.1.length + (q.2.2.length + (KQ qs).length + 1) + 1) by omega]
   exact hr) hd
  obtain ⟨T2, a2, b2, c2, e2⟩ := hq.2 (KQ qs ++ v) (p + 1 + q.1.length + 1) T1 (by simp only [List.length_append]; omega) (KQ.stop hv) a1 (c1.mono fun _ h => ⟨h.1, h.2.1⟩)
  have l1 := fB (p := p + 1) hq.1 (by decide) ((dO (q.2.2 ++ (KQ qs ++ v))).fol 2) (r := T2) (fA a2)
  refine ⟨_, by simpa [aJ, KQ, bG] using fA l1, by simp only [List.length_cons]; omega, ⟨_, _, rfl, by show (2 : Int) ≠ 9; decide, by show (2 : Int) ≠ 1; decide, by show (2 : Int) ≠ 3; decide⟩, fun _ => ⟨_, _, rfl, rfl⟩, fun f g t ks hf hg ht => ?_⟩
  simp only [List.length_cons] at hf hg
  obtain ⟨g, rfl⟩ : ∃ k, g = k + 1 := ⟨g - 1, by omega⟩
  simp only [KQ, List.length_append, List.length_cons] at ht
  obtain ⟨q1, q2, q3⟩ := e2 f (by omega)
  have e3 := e1 f g (t ++ q.1) (ks ++ [q.2.1]) (by omega) (by omega) (by simp only [List.length_append]; omega)
  obtain ⟨t1, u1, k1, rfl, _⟩ := c2
  unfold dQ
  rw [vB rfl, Option.bind_some, if_pos rfl, eP (by show (2 : Int) ≠ 0; decide), Option.bind_some]
  show (if t.length + q.1.length ≤ bV then _ else none) = _
  rw [if_pos (by unfold bV; omega)]
  have : ((PP f (sd (t1 :: u1 :: k1) d)).bind fun x => (bX f x.1 x.2).bind fun u => (bP (PP f) f f u.1 u.2).bind fun w => dQ (PP f) f g (t ++ q.1) (ks ++ [w.1]) w.2) = dQ (PP f) f g (t ++ q.1) (ks ++ [q.2.1]) (sd T1 d) := by
   have h2 : FB f (sd (t1 :: u1 :: k1) d) = some (q.2.1, sd T1 d) := by rw [q3, kR (by omega) c1]
   have h3 : ((PP f (sd (t1 :: u1 :: k1) d)).bind fun x => (bX f x.1 x.2).bind fun u => (bP (PP f) f f u.1 u.2).bind fun w => dQ (PP f) f g (t ++ q.1) (ks ++ [w.1]) w.2) = (FB f (sd (t1 :: u1 :: k1) d)).bind fun w => dQ (PP f) f g (t ++ q.1) (ks ++ [w.1]) w.2 := by
    unfold FB FU
    simp only [Option.bind_assoc]
   rw [h3, h2]
   rfl
  refine this.trans ?_
  rw [e3]
  simp
theorem RdK.keys {d : Nat} {x : Node} {tx : List Nat} {qs : List (List Nat × Node × List Nat)} (h : RdB d x tx) (hk : KOk d qs) (hne : qs ≠ []) : RdK d (aH (qs.map Prod.fst).flatten (x :: qs.map fun q => q.2.1)) (tx ++ KQ qs) := fun v p r hl hv hr hd => by
 simp only [List.length_append] at hl
 obtain ⟨T1, a1, b1, c1, d1, e1⟩ := zV qs v (p + tx.length) r hk (by simp only [List.length_append]; omega) hv (by
  rw [show p + tx.length + (KQ qs).length = p + (tx ++ KQ qs).length by simp; omega]
  exact hr) hd
 obtain ⟨T, a, b, c, e⟩ := h (KQ qs ++ v) p T1 (by simp only [List.length_append]; omega) (KQ.stop hv) a1 (c1.mono fun _ h => ⟨h.1, h.2.1⟩)
 refine ⟨T, by simpa using a, by omega, c, fun f hf => ?_⟩
 obtain ⟨g, g1, g2⟩ := e f hf
 unfold FK
 rw [g2, kR (by omega) c1, Option.bind_some]
 obtain ⟨t, l, rfl, h2⟩ := d1 hne
 show iN (PP f) f x (sd (t :: l) d) = _
 unfold iN
 rw [vB h2, Option.bind_some, if_pos rfl, e1 f f [] [x] (by omega) (by omega) (by simp; omega)]
 simp
def RdM (d : Nat) (m : Node) (tx : List Nat) : Prop := ∀ v p r, p + (tx ++ v).length ≤ 100000 → Stop v → Lx 2001 v (p + tx.length) r → Hd pK r → ∃ T, Lx 2001 (tx ++ v) p T ∧ r.length < T.length ∧ (∃ t u l, T = t :: u :: l) ∧ ∀ f, T.length + 2 ≤ f → ∃ n, oU (PP f) f (sd T d) = some (n, sd r d) ∧ gA n = m
theorem lP (t : List Nat) (x : Node) (ks : List Node) : gA (aH t (x :: ks)) = aH t ks := by simp [gA, aH, Node.kids, Node.text]
theorem bUz {d : Nat} {n : List Nat} (h : TV 1 n) : RdM d (aH n []) n := fun v p r hl hv hr hd => by
 obtain ⟨t0, l0, rfl, _⟩ := hd
 have := fB (p := p) h (by decide) (hv.fol 1) hr
 refine ⟨_, this, by simp, ⟨_, _, _, rfl⟩, fun f hf => ⟨aH n [zN], ?_, lP _ _ _⟩⟩
 unfold oU
 rw [hK, Option.bind_some, if_pos (by rfl), eP (by show (1 : Int) ≠ 0; decide)]
 rfl
theorem bVg {d : Nat} {s : List Nat} {y : Node} {ty : List Nat} (hs : TV 3 s) (hy : RdU d y ty) : RdM d (aH s [y]) (s ++ 32 :: ty) := fun v p r hl hv hr hd => by
 simp only [List.length_append, List.length_cons] at hl
 obtain ⟨T1, a1, b1, c1, e1⟩ := hy v (p + s.length + 1) r (by simp only [List.length_append]; omega) hv (by
  rw [show p + s.length + 1 + ty.length = p + (s ++ 32 :: ty).length by simp; omega]
  exact hr) (hd.mono fun _ h => h.1)
 have l1 := fB (p := p) hs (by decide) ((dO (ty ++ v)).fol 3) (r := T1) (fA a1)
 obtain ⟨t1, u1, k1, rfl, _⟩ := c1
 refine ⟨_, by simpa [aJ, bG] using l1, by simp only [List.length_cons] at b1 ⊢; omega, ⟨_, _, _, rfl⟩, fun f hf => ⟨aH s [zN, y], ?_, lP _ _ _⟩⟩
 obtain ⟨q, q1, q2⟩ := e1 f (by simp only [List.length_cons] at hf ⊢; omega)
 unfold oU
 rw [hK, Option.bind_some, if_neg (by show (3 : Int) ≠ 1; decide), if_pos (by rfl), eP (by show (3 : Int) ≠ 0; decide), Option.bind_some]
 show ((PP f (sd (t1 :: u1 :: k1) d)).bind fun q => (bX f q.1 q.2).bind fun u => some (aH s [zN, u.1], u.2)) = _
 rw [← Option.bind_assoc]
 show (FU f (sd (t1 :: u1 :: k1) d)).bind _ = _
 rw [q2, pD (by omega) (hd.mono fun _ h => ⟨h.1, h.2.1⟩)]
 rfl
theorem bUf {d : Nat} {qs : List (List Nat × Node × List Nat)} (hk : KOk d qs) (hne : qs ≠ []) : RdM d (aH (qs.map Prod.fst).flatten (qs.map fun q => q.2.1)) ((KQ qs).drop 1) := fun v p r hl hv hr hd => by
 obtain ⟨q, qs, rfl⟩ : ∃ a b, qs = a :: b := by cases qs with
  | nil => exact absurd rfl hne
  | cons a b => exact ⟨a, b, rfl⟩
 simp only [KQ, List.drop_succ_cons, List.drop_zero] at hl hr ⊢
 simp only [List.length_append, List.length_cons] at hl hr
 have hq := hk q (by simp)
 obtain ⟨T1, a1, b1, c1, _, e1⟩ := zV qs v (p + q.1.length + 1 + q.2.2.length) r (fun x hx => hk x (by simp [hx])) (by simp only [List.length_append]; omega) hv (by
  rw [show p + q.1.length + 1 + q.2.2.length + (KQ qs).length = p + (q.1.length + (q.2.2.length + (KQ qs).length + 1)) by omega]
  exact hr) hd
 obtain ⟨T2, a2, b2, c2, e2⟩ := hq.2 (KQ qs ++ v) (p + q.1.length + 1) T1 (by simp only [List.length_append]; omega) (KQ.stop hv) a1 (c1.mono fun _ h => ⟨h.1, h.2.1⟩)
 have l1 := fB (p := p) hq.1 (by decide) ((dO (q.2.2 ++ (KQ qs ++ v))).fol 2) (r := T2) (fA a2)
 obtain ⟨t1, u1, k1, rfl, _⟩ := c2
 refine ⟨_, by simpa [aJ, bG] using l1, by simp only [List.length_cons] at b2 ⊢; omega, ⟨_, _, _, rfl⟩, fun f hf => ⟨aH (q.1 ++ (qs.map Prod.fst).flatten) (zN :: q.2.1 :: qs.map fun q => q.2.1), ?_, by rw [lP]; simp⟩⟩
 simp only [List.length_cons] at hf
 obtain ⟨g, rfl⟩ : ∃ k, f = k + 1 := ⟨f - 1, by omega⟩
 obtain ⟨q1, q2, q3⟩ := e2 (g + 1) (by simp only [List.length_cons]; omega)
 simp only [List.length_cons] at b2
 have e3 := e1 (g + 1) g q.1 [zN, q.2.1] (by omega) (by omega) (by omega)
 unfold oU
 rw [hK, Option.bind_some, if_neg (by show (2 : Int) ≠ 1; decide), if_neg (by show (2 : Int) ≠ 3; decide), if_pos (by rfl)]
 unfold iN
 rw [vB rfl, Option.bind_some, if_pos rfl]
 conv => lhs; unfold dQ
 rw [vB rfl, Option.bind_some, if_pos rfl, eP (by show (2 : Int) ≠ 0; decide), Option.bind_some]
 show (if 0 + q.1.length ≤ bV then _ else none) = _
 rw [if_pos (by unfold bV; omega)]
 have h2 : FB (g + 1) (sd (t1 :: u1 :: k1) d) = some (q.2.1, sd T1 d) := by rw [q3, kR (by omega) c1]
 have h3 : ((PP (g + 1) (sd (t1 :: u1 :: k1) d)).bind fun x => (bX (g + 1) x.1 x.2).bind fun u => (bP (PP (g + 1)) (g + 1) (g + 1) u.1 u.2).bind fun w => dQ (PP (g + 1)) (g + 1) g ([] ++ q.1) ([zN] ++ [w.1]) w.2) = (FB (g + 1) (sd (t1 :: u1 :: k1) d)).bind fun w => dQ (PP (g + 1)) (g + 1) g ([] ++ q.1) ([zN] ++ [w.1]) w.2 := by
  unfold FB FU
  simp only [Option.bind_assoc]
 refine h3.trans ?_
 rw [h2, Option.bind_some]
 refine Eq.trans ?_ (e3.trans ?_)
 ·rfl
 ·simp
def FQ : List (Node × List Nat) → List Nat
 | [] => []
 | m :: ms => 59 :: 32 :: (m.2 ++ FQ ms)
theorem FQ.stop {ms : List (Node × List Nat)} {v : List Nat} (h : Stop v) : Stop (FQ ms ++ v) := by
 cases ms with
 | nil => exact h
 | cons q qs => exact kG (by decide) _
theorem aWb {d : Nat} : ∀ (ms : List (Node × List Nat)) (v : List Nat) (p : Nat) (r : List Tok), (∀ m ∈ ms, RdM d m.1 m.2) → p + (FQ ms ++ v).length ≤ 100000 → Stop v → Lx 2001 v (p + (FQ ms).length) r → Hd pE r →
 ∃ T, Lx 2001 (FQ ms ++ v) p T ∧ r.length + ms.length ≤ T.length ∧ Hd pK T ∧ (ms ≠ [] → ∃ t l, T = t :: l ∧ t.kind = 10 ∧ t.text = [59]) ∧ ∀ f g ks, T.length + 2 ≤ f → T.length + 1 ≤ g →
  jW (PP f) f g ks (sd T d) = some (.mk 8 [] 0 [] [] (ks ++ ms.map Prod.fst), sd r d)
 | [], v, p, r, hk, hl, hv, hr, hd => by
  refine ⟨r, hr, by simp, hd.mono fun _ h => ⟨h.1, h.2.1, h.2.2.1, h.2.2.2.1⟩, fun h => absurd rfl h, fun f g ks hf hg => ?_⟩
  obtain ⟨t0, l0, rfl, h1⟩ := hd
  obtain ⟨g, rfl⟩ : ∃ k, g = k + 1 := ⟨g - 1, by omega⟩
  unfold jW
  rw [isY (by decide) h1.2.2.2.2]
  simp
 | m :: ms, v, p, r, hk, hl, hv, hr, hd => by
  have hm := hk m (by simp)
  simp only [FQ, List.length_append, List.length_cons] at hl hr
  obtain ⟨T1, a1, b1, c1, _, e1⟩ := aWb ms v (p + 1 + 1 + m.2.length) r (fun x hx => hk x (by simp [hx])) (by simp only [List.length_append]; omega) hv (by
   rw [show p + 1 + 1 + m.2.length + (FQ ms).length = p + (m.2.length + (FQ ms).length + 1 + 1) by omega]
   exact hr) hd
  obtain ⟨T2, a2, b2, c2, e2⟩ := hm (FQ ms ++ v) (p + 1 + 1) T1 (by simp only [List.length_append]; omega) (FQ.stop hv) a1 c1
  have l1 := jB (c := 59) (by decide) (p := p) (fA a2)
  refine ⟨_, by simpa [aJ, FQ] using l1, by simp only [List.length_cons]; omega, ⟨_, _, rfl, by show (10 : Int) ≠ 9; decide, by show (10 : Int) ≠ 1; decide, by show (10 : Int) ≠ 3; decide, by show (10 : Int) ≠ 2; decide⟩, fun _ => ⟨_, _, rfl, rfl, rfl⟩, fun f g ks hf hg => ?_⟩
  simp only [List.length_cons] at hf hg
  obtain ⟨g, rfl⟩ : ∃ k, g = k + 1 := ⟨g - 1, by omega⟩
  obtain ⟨n, n1, n2⟩ := e2 f (by omega)
  have e3 := e1 f g (ks ++ [m.1]) (by omega) (by omega)
  obtain ⟨t1, u1, k1, rfl⟩ := c2
  unfold jW
  rw [isX rfl rfl, Option.bind_some, if_pos rfl, eP (by show (10 : Int) ≠ 0; decide), Option.bind_some]
  show ((oU (PP f) f (sd (t1 :: u1 :: k1) d)).bind fun q => jW (PP f) f g (ks ++ [gA q.1]) q.2) = _
  rw [n1, Option.bind_some, n2]
  refine e3.trans ?_
  simp
theorem RdE.cascade {d : Nat} {k0 : Node} {t : List Nat} {args : List Node} {tx : List Nat} {ms : List (Node × List Nat)} (h : RdK d (aH t (k0 :: args)) tx) (hk : ∀ m ∈ ms, RdM d m.1 m.2) (hne : ms ≠ []) :
 RdE d (.mk 8 [] 0 [] [] (k0 :: aH t args :: ms.map Prod.fst)) (tx ++ FQ ms) := fun v p r hl hv hr hd => by
 simp only [List.length_append] at hl
 obtain ⟨T1, a1, b1, c1, d1, e1⟩ := aWb ms v (p + tx.length) r hk (by simp only [List.length_append]; omega) hv (by
  rw [show p + tx.length + (FQ ms).length = p + (tx ++ FQ ms).length by simp; omega]
  exact hr) hd
 obtain ⟨T, a, b, c, e⟩ := h (FQ ms ++ v) p T1 (by simp only [List.length_append]; omega) (FQ.stop hv) a1 c1
 refine ⟨T, by simpa using a, by omega, c.he, fun f hf => ?_⟩
 rw [aCd c, nG, e f hf, Option.bind_some]
 obtain ⟨t1, l1, rfl, h2, h3⟩ := d1 hne
 show (dR (sd (t1 :: l1) d) 10 [59]).bind _ = _
 rw [isX h2 h3, Option.bind_some, if_pos rfl, if_pos (by rfl)]
 show (some k0).bind _ = _
 rw [Option.bind_some, lP, e1 f f _ (by omega) (by omega)]
 rfl
end Go.Dd

namespace Go.Dd
theorem tH (sep a b : List Nat) (l : List (List Nat)) : aF sep (a :: b :: l) = a ++ (sep ++ aF sep (b :: l)) := rfl
theorem rR (sep a : List Nat) : aF sep [a] = a := rfl
def RdA (d : Nat) (x : Node) (tx : List Nat) : Prop := ∀ v p r, p + (tx ++ v).length ≤ 100000 → Stop v → Lx 2001 v (p + tx.length) r → ∃ T, Lx 2001 (tx ++ v) p T ∧ r.length < T.length ∧ ∀ f g xs, T.length + 1 ≤ f → dH (nQ f) (g + 1) xs (sd T d) = dH (nQ f) g (xs ++ [x]) (sd r d)
theorem RdL.a {d : Nat} {x : Node} {tx : List Nat} (h : RdL d x tx) : RdA d x tx := fun v p r hl hv hr => by
 obtain ⟨T, a, b, ⟨t, u, l, e, c⟩, c2, k⟩ := h v p r hl hv hr
 refine ⟨T, a, b, fun f g xs hf => ?_⟩
 conv => lhs; unfold dH
 subst e
 rw [if_pos (by rfl), isY (by decide) (c2 _ _ _ rfl).2, Option.bind_some, if_neg (by decide), k]
 rfl
theorem aDx {d : Nat} : ∀ (es : List (Node × List Nat)) (v : List Nat) (p : Nat) (r : List Tok), (∀ e ∈ es, RdA d e.1 e.2) → p + (aF [32] (es.map Prod.snd) ++ v).length ≤ 100000 → Stop v → Lx 2001 v (p + (aF [32] (es.map Prod.snd)).length) r → Hd (fun t => t.kind = 10 ∧ t.text = [41]) r →
 ∃ T, Lx 2001 (aF [32] (es.map Prod.snd) ++ v) p T ∧ r.length + es.length ≤ T.length ∧ ∀ f g xs, T.length + 1 ≤ f → T.length + 1 ≤ g → dH (nQ f) g xs (sd T d) = some (xs ++ es.map Prod.fst, sd r d)
 | [], v, p, r, hk, hl, hv, hr, hd => by
  refine ⟨r, hr, by simp, fun f g xs hf hg => ?_⟩
  obtain ⟨t0, l0, rfl, h1, h2⟩ := hd
  obtain ⟨g, rfl⟩ : ∃ k, g = k + 1 := ⟨g - 1, by omega⟩
  unfold dH
  rw [if_pos (by rfl), isX h1 h2]
  simp
 | [e], v, p, r, hk, hl, hv, hr, hd => by
  obtain ⟨T, a, b, c⟩ := hk e (by simp) v p r hl hv hr
  refine ⟨T, a, by simp only [List.length_cons, List.length_nil]; omega, fun f g xs hf hg => ?_⟩
  obtain ⟨g, rfl⟩ : ∃ k, g = k + 1 := ⟨g - 1, by omega⟩
  rw [c f g xs hf]
  obtain ⟨t0, l0, rfl, h1, h2⟩ := hd
  obtain ⟨g, rfl⟩ : ∃ k, g = k + 1 := ⟨g - 1, by simp only [List.length_cons] at b; omega⟩
  unfold dH
  rw [if_pos (by rfl), isX h1 h2]
  simp
 | e :: e2 :: es, v, p, r, hk, hl, hv, hr, hd => by
  have ej : aF [32] ((e :: e2 :: es).map Prod.snd) = e.2 ++ 32 :: aF [32] ((e2 :: es).map Prod.snd) := tH _ _ _ _
  rw [ej] at hl hr ⊢
  simp only [List.length_append, List.length_cons] at hl hr
  obtain ⟨T1, a1, b1, c1⟩ := aDx (e2 :: es) v (p + e.2.length + 1) r (fun x hx => hk x (by simp only [List.mem_cons] at hx ⊢; exact .inr hx)) (by simp only [List.length_append]; omega) hv (by
   rw [show p + e.2.length + 1 + (aF [32] ((e2 :: es).map Prod.snd)).length = p + (e.2.length + ((aF [32] ((e2 :: es).map Prod.snd)).length + 1)) by omega]
   exact hr) hd
  obtain ⟨T, a, b, c⟩ := hk e (by simp) (32 :: (aF [32] ((e2 :: es).map Prod.snd) ++ v)) p T1 (by simp only [List.length_append, List.length_cons]; omega) (dO _) (fA a1)
  simp only [List.length_cons] at b1
  refine ⟨T, by simpa using a, by simp only [List.length_cons]; omega, fun f g xs hf hg => ?_⟩
  obtain ⟨g, rfl⟩ : ∃ k, g = k + 1 := ⟨g - 1, by omega⟩
  rw [c f g xs hf, c1 f g _ (by omega) (by omega)]
  simp
theorem aUx {d : Nat} {es : List (Node × List Nat)} (hd : d < 20) (hk : ∀ e ∈ es, RdA (d + 1) e.1 e.2) {v : List Nat} {p : Nat} {r : List Tok} (hl : p + (35 :: 40 :: (aF [32] (es.map Prod.snd) ++ [41]) ++ v).length ≤ 100000) (hr : Lx 2001 v (p + (35 :: 40 :: (aF [32] (es.map Prod.snd) ++ [41])).length) r) :
 ∃ T, Lx 2001 (35 :: 40 :: (aF [32] (es.map Prod.snd) ++ [41]) ++ v) p (⟨7, [], 0, (p : Int)⟩ :: T) ∧ r.length < T.length ∧ (∃ a b, T = a :: b) ∧ ∀ f, T.length + 2 ≤ f → cT (nQ f) (sd (⟨7, [], 0, (p : Int)⟩ :: T) d) = some (.mk 4 [] 0 [] [] (es.map Prod.fst), sd r d) := by
 obtain ⟨t0, l0, rfl⟩ := hr.cons
 simp only [laE, lcE, lnE, List.cons_append] at hl hr
 have l1 := jB (c := 41) (by decide) (v := v) (p := p + 2 + (aF [32] (es.map Prod.snd)).length) (r := t0 :: l0) (by
  rw [show p + 2 + (aF [32] (es.map Prod.snd)).length + 1 = p + ((aF [32] (es.map Prod.snd)).length + (0 + 1) + 1 + 1) by omega]
  exact hr)
 obtain ⟨T, a, b, c⟩ := aDx es (41 :: v) (p + 2) _ hk (by simp only [List.length_append, List.length_cons]; omega) (kG (by decide) v) l1 ⟨_, _, rfl, rfl, rfl⟩
 have l2 := fB (k := 7) (t := []) (p := p) aUy (by decide) ⟨fun h => absurd h (by decide), fun _ h => absurd rfl h⟩ a
 simp only [List.length_cons] at b
 obtain ⟨t1, k1, rfl⟩ := a.cons
 refine ⟨_, by simpa [aJ, bG] using l2, by simp only [List.length_cons] at b ⊢; omega, ⟨_, _, rfl⟩, fun f hf => ?_⟩
 refine lR (by show (7 : Int) ≠ 0; decide) hd ?_
 obtain ⟨f, rfl⟩ : ∃ k, f = k + 1 := ⟨f - 1, by omega⟩
 show fO (nQ f) f (sd (t1 :: k1) (d + 1)) = _
 unfold fO
 rw [c f f [] (by omega) (by omega), Option.bind_some]
 show (aU (sd (_ :: t0 :: l0) (d + 1))).bind _ = _
 rw [eP (by show (10 : Int) ≠ 0; decide)]
 simp
theorem bCl {d : Nat} {es : List (Node × List Nat)} (hd : d < 20) (hk : ∀ e ∈ es, RdA (d + 1) e.1 e.2) : RdA d (.mk 4 [] 0 [] [] (es.map Prod.fst)) (35 :: 40 :: (aF [32] (es.map Prod.snd) ++ [41])) := fun v p r hl hv hr => by
 obtain ⟨T, a, b, ⟨t1, k1, rfl⟩, c⟩ := aUx hd hk hl hr
 refine ⟨_, a, by simp only [List.length_cons] at b ⊢; omega, fun f g xs hf => ?_⟩
 conv => lhs; unfold dH
 rw [if_pos (by rfl), isN (by show (7 : Int) ≠ 10; decide), Option.bind_some, if_neg (by decide), lJ (by show (7 : Int) ≠ 3; decide) (by show (7 : Int) ≠ 4; decide) (by show (7 : Int) ≠ 5; decide) (by show (7 : Int) ≠ 6; decide), Option.bind_some]
 show (if false = true then _ else (dR (sd (_ :: t1 :: k1) d) 7 []).bind _) = _
 rw [if_neg (by decide), vB rfl, Option.bind_some, if_pos rfl, Option.bind_some, if_pos rfl, c f (by simp only [List.length_cons] at hf ⊢; omega)]
 rfl
theorem bBc {d : Nat} {es : List (Node × List Nat)} (hd : d < 20) (hk : ∀ e ∈ es, RdA (d + 1) e.1 e.2) : RdP d (.mk 4 [] 0 [] [] (es.map Prod.fst)) (35 :: 40 :: (aF [32] (es.map Prod.snd) ++ [41])) := fun v p r hl hv hr h9 => by
 obtain ⟨T, a, b, ⟨t1, k1, rfl⟩, c⟩ := aUx hd hk hl hr
 refine ⟨_, a, by simp only [List.length_cons] at b ⊢; omega, ⟨_, _, _, rfl, ⟨by show (7 : Int) ≠ 0; decide, by show (7 : Int) ≠ 8 ∧ (7 : Int) ≠ 2; decide, fun h => absurd h (by show (7 : Int) ≠ 3; decide), fun h => absurd h (by show (7 : Int) ≠ 10; decide)⟩, fun h => absurd h.1 (by show (7 : Int) ≠ 1; decide)⟩, fun f hf => ?_⟩
 unfold PP dG
 rw [lJ (by show (7 : Int) ≠ 3; decide) (by show (7 : Int) ≠ 4; decide) (by show (7 : Int) ≠ 5; decide) (by show (7 : Int) ≠ 6; decide), Option.bind_some]
 show (if false = true then _ else (bB (sd (_ :: t1 :: k1) d) 0).bind _) = _
 rw [if_neg (by decide), hK, Option.bind_some, if_pos (by rfl), if_neg (by show (7 : Int) ≠ 1; decide), if_pos (by rfl)]
 exact c f (by simp only [List.length_cons] at hf ⊢; omega)
inductive SOk (d : Nat) : List (Node × List Nat) → Prop
 | nil : SOk d []
 | cons (x : Node) (tx : List Nat) (l : List (Node × List Nat)) : RdE d x tx → SOk d l → SOk d ((x, tx) :: l)
 | ret (x : Node) (tx : List Nat) : RdE d x tx → SOk d [(.mk 10 [] 0 [] [] [x], 94 :: tx)]
def pEnd (t : Tok) : Prop := t.kind = 0 ∨ (t.kind = 10 ∧ t.text = [93])
theorem pEnd.e {t : Tok} (h : pEnd t) : pE t := by
 rcases h with h | h
 ·exact ⟨by omega, by omega, by omega, by omega, fun h2 => by omega⟩
 ·exact ⟨by omega, by omega, by omega, by omega, fun h2 => by rw [h.2] at h2; exact absurd h2.2 (by decide)⟩
def pS (t : Tok) : Prop := (t.kind ≠ 8 ∧ t.kind ≠ 2) ∧ ¬ (t.kind = 10 ∧ t.text = [124]) ∧ ¬ (t.kind = 3 ∧ t.text = [60])
theorem pEnd.s {t : Tok} (h : pEnd t) : pS t := by
 rcases h with h | h
 ·exact ⟨by omega, fun h2 => by omega, fun h2 => by omega⟩
 ·exact ⟨by omega, fun h2 => by rw [h.2] at h2; exact absurd h2.2 (by decide), fun h2 => by omega⟩
theorem HG.s {t : Tok} (h : HG t) : pS t := by
 refine ⟨h.2.1, fun h2 => ?_, fun h2 => ?_⟩
 ·rcases h.2.2.2 h2.1 with h3 | h3 <;> (rw [h3] at h2; exact absurd h2.2 (by decide))
 ·have h3 := h.2.2.1 h2.1
  rw [h3] at h2
  exact absurd h2.2 (by decide)
theorem aKc {t u : Tok} {l : List Tok} {d : Nat} (h : HG t) : dR (sd (t :: u :: l) d) 0 [] = some false ∧ dR (sd (t :: u :: l) d) 10 [93] = some false ∧ dR (sd (t :: u :: l) d) 10 [94] = some false := by
 refine ⟨isN h.1, isY (by decide) fun h2 => ?_, isY (by decide) fun h2 => ?_⟩ <;> (rcases h.2.2.2 h2.1 with h3 | h3 <;> (rw [h3] at h2; exact absurd h2.2 (by decide)))
theorem aHj {r : List Tok} {d : Nat} (h : Hd pEnd r) : dR (sd r d) 10 [46] = some false := by
 obtain ⟨t, l, rfl, h⟩ := h
 refine isY (by decide) fun h2 => ?_
 rcases h with h | h
 ·omega
 ·rw [h.2] at h2; exact absurd h2.2 (by decide)
theorem aWj {d : Nat} {l : List (Node × List Nat)} (h : SOk d l) : ∀ (v : List Nat) (p : Nat) (r : List Tok), p + (aF [46, 32] (l.map Prod.snd) ++ v).length ≤ 100000 → Stop v → Lx 2001 v (p + (aF [46, 32] (l.map Prod.snd)).length) r → Hd pEnd r →
 ∃ T, Lx 2001 (aF [46, 32] (l.map Prod.snd) ++ v) p T ∧ r.length ≤ T.length ∧ Hd pS T ∧ ∀ f g xs, T.length + 2 ≤ f → T.length + 1 ≤ g → cY (dK (f + 1)) g xs (sd T d) = some (xs ++ l.map Prod.fst, sd r d) := by
 induction h with
 | nil =>
  intro v p r hl hv hr hd
  refine ⟨r, hr, Nat.le_refl _, hd.mono fun _ h => h.s, fun f g xs hf hg => ?_⟩
  obtain ⟨t, l, rfl, h⟩ := hd
  obtain ⟨g, rfl⟩ : ∃ k, g = k + 1 := ⟨g - 1, by omega⟩
  unfold cY
  rw [if_pos (by rfl)]
  by_cases h0 : t.kind = 0
  ·rw [vB h0]
   simp
  ·have h1 : t.kind = 10 ∧ t.text = [93] := h.resolve_left h0
   rw [isN h0, Option.bind_some, if_neg (by decide), isX h1.1 h1.2]
   simp
 | cons x tx l hx hs ih =>
  intro v p r hl hv hr hd
  cases l with
  | nil =>
   obtain ⟨T, a, b, ⟨t1, u1, k1, rfl, c⟩, e⟩ := hx v p r hl hv hr (hd.mono fun _ h => h.e)
   refine ⟨_, a, by omega, ⟨_, _, rfl, c.s⟩, fun f g xs hf hg => ?_⟩
   obtain ⟨g, rfl⟩ : ∃ k, g = k + 1 := ⟨g - 1, by omega⟩
   obtain ⟨i0, i1, i2⟩ := aKc (d := d) (u := u1) (l := k1) c
   unfold cY
   rw [if_pos (by rfl), i0, Option.bind_some, if_neg (by decide), i1, Option.bind_some, if_neg (by decide), i2, Option.bind_some, if_neg (by decide), e f (by omega), Option.bind_some, aHj hd]
   simp
  | cons y l =>
   have ej : aF [46, 32] (((x, tx) :: y :: l).map Prod.snd) = tx ++ 46 :: 32 :: aF [46, 32] ((y :: l).map Prod.snd) := tH _ _ _ _
   rw [ej] at hl hr ⊢
   simp only [List.length_append, List.length_cons] at hl hr
   obtain ⟨T1, a1, b1, c1, e1⟩ := ih v (p + tx.length + 1 + 1) r (by simp only [List.length_append]; omega) hv (by
    rw [show p + tx.length + 1 + 1 + (aF [46, 32] ((y :: l).map Prod.snd)).length = p + (tx.length + ((aF [46, 32] ((y :: l).map Prod.snd)).length + 1 + 1)) by omega]
    exact hr) hd
   have l1 := jB (c := 46) (by decide) (p := p + tx.length) (fA a1)
   obtain ⟨T, a, b, ⟨t1, u1, k1, rfl, c⟩, e⟩ := hx (46 :: 32 :: (aF [46, 32] ((y :: l).map Prod.snd) ++ v)) p _ (by simp only [List.length_append, List.length_cons]; omega) (kG (by decide) _) l1 ⟨_, _, rfl, by show (10 : Int) ≠ 9; decide, by show (10 : Int) ≠ 1; decide, by show (10 : Int) ≠ 3; decide, by show (10 : Int) ≠ 2; decide, by rintro ⟨_, h⟩; exact absurd h (show ([46] : List Nat) ≠ [59] by decide)⟩
   simp only [List.length_cons] at b
   refine ⟨_, by simpa using a, by simp only [List.length_cons]; omega, ⟨_, _, rfl, c.s⟩, fun f g xs hf hg => ?_⟩
   simp only [List.length_cons] at hf hg
   obtain ⟨g, rfl⟩ : ∃ k, g = k + 1 := ⟨g - 1, by omega⟩
   obtain ⟨i0, i1, i2⟩ := aKc (d := d) (u := u1) (l := k1) c
   obtain ⟨t2, k2, rfl⟩ := a1.cons
   unfold cY
   rw [if_pos (by rfl), i0, Option.bind_some, if_neg (by decide), i1, Option.bind_some, if_neg (by decide), i2, Option.bind_some, if_neg (by decide), e f (by simp only [List.length_cons]; omega), Option.bind_some]
   show (dR (sd (_ :: t2 :: k2) d) 10 [46]).bind _ = _
   rw [isX rfl rfl, Option.bind_some, if_pos rfl]
   show (aU (sd (_ :: t2 :: k2) d)).bind _ = _
   rw [eP (by show (10 : Int) ≠ 0; decide), Option.bind_some, e1 f g _ (by omega) (by omega)]
   simp
 | ret x tx hx =>
  intro v p r hl hv hr hd
  have ej : aF [46, 32] ([((.mk 10 [] 0 [] [] [x] : Node), 94 :: tx)].map Prod.snd) = 94 :: tx := rfl
  rw [ej] at hl hr ⊢
  simp only [List.length_append, List.length_cons] at hl hr
  obtain ⟨T, a, b, ⟨t1, u1, k1, rfl, c⟩, e⟩ := hx v (p + 1) r (by simp only [List.length_append]; omega) hv (by
   rw [show p + 1 + tx.length = p + (tx.length + 1) by omega]
   exact hr) (hd.mono fun _ h => h.e)
  have l1 := jB (c := 94) (by decide) (p := p) a
  refine ⟨_, l1, by simp only [List.length_cons] at b ⊢; omega, ⟨_, _, rfl, by show (10 : Int) ≠ 8 ∧ (10 : Int) ≠ 2; decide, by rintro ⟨_, h⟩; exact absurd h (show ([94] : List Nat) ≠ [124] by decide), fun h => absurd h.1 (by show (10 : Int) ≠ 3; decide)⟩, fun f g xs hf hg => ?_⟩
  obtain ⟨g, rfl⟩ : ∃ k, g = k + 1 := ⟨g - 1, by omega⟩
  unfold cY
  rw [if_pos (by rfl), isN (by show (10 : Int) ≠ 0; decide), Option.bind_some, if_neg (by decide), isY (by decide) (by rintro ⟨_, h⟩; exact absurd h (show ([94] : List Nat) ≠ [93] by decide)), Option.bind_some, if_neg (by decide), isX rfl rfl, Option.bind_some, if_pos rfl, eP (by show (10 : Int) ≠ 0; decide), Option.bind_some]
  show (dK (f + 1) (sd (t1 :: u1 :: k1) d)).bind _ = _
  rw [e f (by simp only [List.length_cons] at hf ⊢; omega), Option.bind_some, aHj hd]
  simp
end Go.Dd

namespace Go.Dd
open Go.Proofs
theorem bDl (n : Nat) (x : DV) (h : Hp) : aK (n + 1) 20 [x] h = s20 (aK n) n x h := by kernel_rfl
theorem bDt (n : Nat) (x y : DV) (h : Hp) : aK (n + 1) 31 [x, y] h = s31 (aK n) n x y h := by kernel_rfl
theorem aXw (n : Nat) (x : DV) (h : Hp) : aK (n + 1) 11 [x] h = s11 (aK n) n x h := by kernel_rfl
theorem aUl (rec : FuncId → List DV → Hp → aG) (x y : DV) (h : Hp) : dJ CF rec (.f 31 [] [y]) [x] h = rec 31 [x, y] h := by kernel_rfl
def gB (ns : List (List Nat)) (i : Nat) : List Nat := (ns[i]?).getD []
def eM (ns : List (List Nat)) : List (List Nat) → Nat → List (List Nat)
 | [], _ => []
 | p :: ps, i => (p ++ 32 :: gB ns i) :: eM ns ps (i + 1)
def bQ (t : List Nat) (ns : List (List Nat)) : List Nat :=
 if bR t = 2 then t ++ 32 :: gB ns 0 else if bR t = 3 then aF [32] (eM ns (dF t) 0) else t
def fJ : List Nat := [32, 60, 112, 114, 105, 109, 105, 116, 105, 118, 101, 58, 32]
def eG (t : List Nat) (m : Int) (ns : List (List Nat)) : List Nat :=
 (if m = 0 then bQ t ns else bQ t ns ++ (fJ ++ (fK m ++ [62]))) ++ [32]
section
variable {I : Im} {A Q L : Ls} {h : Hp}
theorem aVs {b : Pos} {c : List DV} {s1 : DV} {ns : List (List Nat)} (Y : SS I s1 ns) (S : Sy I A Q L h) (hg : h.bl.get b = some (.row .ex c)) (g : c[3]? = some s1) (i : Nat) :
 Ev (fun n => aK n 31 [.i .i64 (i : Int), .p b 0] h) (fun v h' => v = .s (gB ns i) ∧ h' = h) := by
 refine Ev.enter (fun n => bDt n _ _ h) ?_
 unfold s31
 refine bXe (bYv hg (by simpa using g) Y.2.one ?_)
 refine Ev.op (Y.2.len _) ?_
 refine bWz (fun e1 => ?_) (fun e1 => ?_)
 ·refine yt ?_
  refine bVs ⟨?_, rfl⟩
  have : ns.length ≤ i := by omega
  simp [gB, List.getElem?_eq_none this]
 ·refine yj ?_
  have hi : i < ns.length := by omega
  have hx : ns[i]? = some ns[i] := by simp [hi]
  obtain ⟨p, o, ei, el⟩ := Y.at S hx
  refine bXe (bYv hg (by simpa using g) Y.2.one ?_)
  refine Ev.op (ei _) ?_
  refine Ev.op el ?_
  exact bVs ⟨by simp [gB, hx], rfl⟩
theorem yK (ns : List (List Nat)) (i : Nat) : (gB ns i).length ≤ cS ns := by
 unfold gB
 cases e : ns[i]? with
 | none => simp
 | some x =>
  simp only [Option.getD_some]
  exact jF (List.mem_map_of_mem (List.mem_of_getElem? e))
theorem wA {P : DV → Hp → Prop} {b : Pos} {c : List DV} {s1 y : DV} {ns ps : List (List Nat)} (Z : SS I s1 ns) (Y : SS I y ps) (g : c[3]? = some s1) (hlim : cS ns + cS ps ≤ 1000000000) : ∀ (r : List (List Nat)) (i j : Nat) (B : Ls) (h : Hp) (x : DV) (acc : List (List Nat)), ps.drop i = r → i ≤ ps.length → acc.length = i → Sy I (B ++ A) Q ((b, some (.row .ex c)) :: L) h → Gr I 1 B x acc.length (acc.map .s) →
 (∀ (J : Im) (h' : Hp) (x' : DV), ILe I J → Sy J A Q ((b, some (.row .ex c)) :: L) h' → SS J x' (acc ++ eM ns r i) → Ev (fun n => dW (aK n) n (.p b 0) x' h') P) →
 Ev (fun n => iS (aK n) n (n - j) (.p b 0) (.f 31 [] [.p b 0]) x y (.i .i64 (ps.length : Int)) (.i .i64 (i : Int)) h) P
 | [], i, j, B, h, x, acc, hr, hi, ha, S, G, K => by
  refine bVx j (ll := fun n m => iS (aK n) n m (.p b 0) (.f 31 [] [.p b 0]) x y (.i .i64 (ps.length : Int)) (.i .i64 (i : Int)) h) (bb := fun n m => lZ (aK n) n (iS (aK n) n m) (.p b 0) (.f 31 [] [.p b 0]) x y (.i .i64 (ps.length : Int)) (.i .i64 (i : Int)) h) (fun _ _ => rfl) ?_
  unfold lZ
  have hle : ps.length ≤ i := List.drop_eq_nil_iff.1 hr
  refine bWr (fun e1 => absurd e1 (by omega)) (fun e1 => ?_)
  refine bWp ?_
  obtain ⟨J, gJ, S3, F3⟩ := G.freeze S
  have hY := Y.1
  exact K J _ _ gJ S3 ⟨by simp [eM]; omega, by simpa [aJ, eM] using F3⟩
 | p :: r, i, j, B, h, x, acc, hr, hi, ha, S, G, K => by
  refine bVx j (ll := fun n m => iS (aK n) n m (.p b 0) (.f 31 [] [.p b 0]) x y (.i .i64 (ps.length : Int)) (.i .i64 (i : Int)) h) (bb := fun n m => lZ (aK n) n (iS (aK n) n m) (.p b 0) (.f 31 [] [.p b 0]) x y (.i .i64 (ps.length : Int)) (.i .i64 (i : Int)) h) (fun _ _ => rfl) ?_
  unfold lZ
  have hl2 : ps.length ≤ bV := Y.1
  have hx : ps[i]? = some p := by
   have : (ps.drop i)[0]? = some p := by rw [hr]; rfl
   simpa [aJ] using this
  have hi' := (gLt hx)
  have hr2 : ps.drop (i + 1) = r := by
   have := iZ hx
   rw [hr] at this
   simpa [aJ] using this.symm
  have hpl : p.length ≤ cS ps := jF (List.mem_map_of_mem (List.mem_of_getElem? hx))
  have hal := yK ns i
  refine bWr (fun e1 => ?_) (fun e1 => absurd (show (i : Int) < ps.length by omega) e1)
  refine bXd ?_
  obtain ⟨bp, o, ei, el⟩ := Y.at S hx
  refine Ev.op (ei _) ?_
  refine Ev.op el ?_
  simp only [aUl]
  refine bVq (aVs Z S (S.memL (eJ)) g i) ?_
  rintro _ _ ⟨rfl, hq⟩
  rw [hq]
  clear hq
  refine bWl S (cs := [.s p, .s [32], .s (gB ns i)]) (by simp [cI, cD]) ?_
  intro b1 h7 S7
  refine bVq (dX [p, [32], gB ns i] S7 (eJ) rfl (by simp [aF]; omega) (by simp)) ?_
  rintro _ _ ⟨rfl, rfl⟩
  have ej : aF [] [p, [32], gB ns i] = p ++ 32 :: gB ns i := by simp [aF]
  rw [ej]
  refine bWl S7 (cs := [.s (p ++ 32 :: gB ns i)]) rfl ?_
  intro b2 h9 S9
  obtain ⟨x4, h4, B4, e4, S4, G4⟩ := kH G S9 (eJ) (by omega)
  refine Ev.op e4 ?_
  refine bWa ?_
  rw [vU (by omega)]
  refine wA Z Y g hlim r (i + 1) (j + 1) B4 h4 x4 (acc ++ [p ++ 32 :: gB ns i]) hr2 (by omega) (by simp [ha]) S4.dropL.dropL G4 ?_
  intro J h' x' gJ SJ YJ
  exact K J h' x' gJ SJ (by simpa [aJ, eM] using YJ)
theorem qH (ns : List (List Nat)) : ∀ (ps : List (List Nat)) (i : Nat), cS (eM ns ps i) ≤ cS ps + ps.length * (cS ns + 1) ∧ (eM ns ps i).length = ps.length
 | [], i => by simp [eM, cS]
 | p :: ps, i => by
  have ih := qH ns ps (i + 1)
  have ha := yK ns i
  simp only [eM, cS, List.map_cons, List.sum_cons, List.length_append, List.length_cons, Nat.add_mul, Nat.one_mul] at ih ha ⊢
  omega
theorem aOa (t : List Nat) (ns : List (List Nat)) : (bQ t ns).length ≤ 10 + 3 * t.length + (t.length + 1) * (cS ns + 1) := by
 unfold bQ
 have ha := yK ns 0
 split
 ·simp only [List.length_append, List.length_cons, Nat.add_mul]; omega
 ·split
  ·have h1 := kJ [32] (eM ns (dF t) 0)
   obtain ⟨h2, h3⟩ := qH ns (dF t) 0
   obtain ⟨h4, h5⟩ := vL t
   have h6 : (dF t).length * (cS ns + 1) ≤ t.length * (cS ns + 1) := Nat.mul_le_mul_right _ h5
   simp only [List.length_cons, List.length_nil] at h1
   simp only [Nat.add_mul] at h6 ⊢
   omega
  ·omega
theorem aBh {t : List Nat} (m : Int) {ns : List (List Nat)} (ht : t.length ≤ 10000) (hn : cS ns ≤ 10000) : (bQ t ns).length ≤ 1000000000 ∧ (eG t m ns).length ≤ 1000000100 := by
 have h1 := aOa t ns
 have h2 : (t.length + 1) * (cS ns + 1) ≤ 10001 * 10001 := Nat.mul_le_mul (by omega) (by omega)
 have h3 := aEc m
 refine ⟨by omega, ?_⟩
 unfold eG
 split
 ·simp; omega
 ·simp [fJ]; omega
theorem aMp {k m : Int} {t : List Nat} {ns ts : List (List Nat)} {ks : List Node} {cs : List DV} (S : Sy I A Q L h) (N : NV I (.mk k t m ns ts ks) cs) (ht : t.length ≤ 10000) (hn : cS ns ≤ 10000)
 (hm0 : -9223372036854775808 ≤ m) (hm1 : m ≤ 9223372036854775807) :
 Ev (fun n => aK n 20 [.a cs] h) (fun v h' => v = .s (eG t m ns) ∧ Sy I A Q L h') := by
 obtain ⟨hp, hh⟩ := aBh m ht hn
 have hi := aEc m
 refine Ev.enter (fun n => bDl n _ h) ?_
 unfold s20
 obtain ⟨s1, s2, s3, rfl, a, bb, c, cells, F, NL⟩ := N
 refine Ev.box S rfl ?_
 intro b h1 S1
 have fin : ∀ (J : Im) (h : Hp), ILe I J → Sy J A Q ((b, some (.row .ex [.i .i64 k, .s t, .i .i64 m, s1, s2, s3])) :: L) h →
  Ev (fun n => bC (aK n) n (.p b 0) (.s (bQ t ns)) h) (fun v h' => v = .s (eG t m ns) ∧ Sy I A Q L h') := by
  intro J h gJ S
  unfold bC
  refine bXe (bXj S (eJ) rfl rfl ?_)
  have fin5 : ∀ (q : List Nat) (h : Hp), Sy J A Q ((b, some (.row .ex [.i .i64 k, .s t, .i .i64 m, s1, s2, s3])) :: L) h → q.length ≤ 1000000099 →
   Ev (fun n => aKw (aK n) n (.s q) h) (fun v h' => v = .s (q ++ [32]) ∧ Sy I A Q L h') := by
   intro q h S hq
   unfold aKw
   refine bWl S (cs := [.s q, .s [32]]) (by simp [cI, cD]) ?_
   intro b2 h2 S2
   refine bVq (dX [q, [32]] S2 (eJ) rfl (by simp [aF]; omega) (by simp)) ?_
   rintro _ _ ⟨rfl, rfl⟩
   exact bVs ⟨by simp [aF], S2.dropL.dropL.weak gJ⟩
  refine bWu (fun e1 => ?_) (fun e1 => ?_)
  ·have e1' : ¬ m = 0 := e1
   have eh : eG t m ns = (bQ t ns ++ (fJ ++ (fK m ++ [62]))) ++ [32] := by rw [eG, if_neg e1']
   rw [eh] at hh ⊢
   refine yt ?_
   refine bXe (bXj S (eJ) rfl rfl ?_)
   refine Ev.op (aKs hm0 hm1 _) ?_
   refine bWl S (cs := [.s (bQ t ns), .s fJ, .s (fK m), .s [62]]) (by simp [cI, cD, fJ]) ?_
   intro b2 h2 S2
   refine bVq (dX [bQ t ns, fJ, fK m, [62]] S2 (eJ) rfl (by simp [aF, fJ]; omega) (by simp)) ?_
   rintro _ _ ⟨rfl, rfl⟩
   have ej : aF [] [bQ t ns, fJ, fK m, [62]] = bQ t ns ++ (fJ ++ (fK m ++ [62])) := by simp [aF]
   rw [ej]
   refine fin5 _ _ S2.dropL ?_
   simp only [laE, lcE, lnE] at hh ⊢
   omega
  ·have e1' : m = 0 := e1
   have eh : eG t m ns = bQ t ns ++ [32] := by rw [eG, if_pos e1']
   rw [eh]
   refine yj ?_
   exact fin5 _ _ S (by omega)
 unfold aIk aKj
 refine bXe (bXj S1 (eJ) rfl rfl ?_)
 unfold aJl
 refine bXe (bXj S1 (eJ) rfl rfl ?_)
 refine bVq (mL t h1) ?_
 rintro _ _ ⟨rfl, hq⟩
 rw [hq]
 clear hq
 unfold aIn
 refine bVv (fun e1 => ?_) (fun e1 => ?_)
 ·have e1' : bR t = 2 := by have h0 := e1; simp at h0; omega
  have ep : bQ t ns = t ++ 32 :: gB ns 0 := by rw [bQ, if_pos e1']
  unfold aCh
  refine yt ?_
  have Sr := S1.res
  refine bXe ?_
  refine bXj Sr (List.Mem.tail _ (eJ)) rfl rfl ?_
  simp only [aUl]
  refine bVq (aVs a Sr (Sr.memL (List.Mem.tail _ (eJ))) rfl 0) ?_
  rintro _ _ ⟨rfl, hq⟩
  rw [hq]
  clear hq
  refine Ev.cnd ?_ ?_
  ·rw [Bool.and_true]; exact eY Sr (List.Mem.tail _ (eJ)) rfl rfl (oC _)
  refine bWk Sr (cs := [.s t, .s [32], .s (gB ns 0)]) (Rpl.head _) (by simp [cI, cD]) ?_
  intro h3 S3
  refine bVq (dX [t, [32], gB ns 0] S3 (eJ) rfl (by have := yK ns 0; simp [aF]; omega) (by simp)) ?_
  rintro _ _ ⟨rfl, rfl⟩
  have ej : aF [] [t, [32], gB ns 0] = bQ t ns := by rw [ep]; simp [aF]
  rw [ej]
  exact fin _ _ (ILe.refl _) S3.dropL
 ·have e1' : ¬ bR t = 2 := by have h0 := e1; simp at h0; omega
  unfold aCh
  refine yj ?_
  unfold aUf
  refine bVv (fun e2 => ?_) (fun e2 => ?_)
  ·have e2' : bR t = 3 := by have h0 := e2; simp at h0; omega
   have ep : bQ t ns = aF [32] (eM ns (dF t) 0) := by rw [bQ, if_neg e1', if_pos e2']
   unfold aBu
   refine yt ?_
   unfold aFl zM
   refine bXe (bXj S1 (eJ) rfl rfl ?_)
   refine bVq (aCi S1 (by omega)) ?_
   rintro v h2 ⟨J, g, S2, Y⟩
   refine Ev.op (Y.2.len _) ?_
   unfold aAm aEh
   obtain ⟨pl1, pl2⟩ := vL t
   refine wA (a.mono g) Y rfl (by omega) (dF t) 0 0 [] h2 .l0 [] rfl (by omega) rfl S2 (Gr.nil J 1) ?_
   intro J2 h3 x3 g3 S3 Y3
   unfold dW
   simp only [List.nil_append] at Y3
   refine Ev.op (SS.join Y3 S3 (by rw [← ep]; omega)) ?_
   rw [← ep]
   exact fin _ _ (g.trans g3) S3
  ·have e2' : ¬ bR t = 3 := by have h0 := e2; simp at h0; omega
   have ep : bQ t ns = t := by rw [bQ, if_neg e1', if_neg e2']
   unfold aBu
   refine yj ?_
   have := fin _ _ (ILe.refl _) S1
   rw [ep] at this
   exact this
end
def iC (x : Node) : List Nat := eG x.text x.num x.names ++ aQ x.temps (fU x.kids)
noncomputable def wU (x : Node) : List Nat × Int := oT (iC x) x (oI (iC x))
section
variable {I : Im} {A L : Ls} {h : Hp}
theorem aBl {x : Node} {cs : List DV} (S : Sy I A [] L h) (N : NV I x cs) (T : ∀ y ∈ x.kids, kD y) (ht : x.text.length ≤ 10000) (hn : cS x.names ≤ 10000) (hm0 : -9223372036854775808 ≤ x.num) (hm1 : x.num ≤ 9223372036854775807)
 (hl : (aQ x.temps (fU x.kids)).length ≤ 1000000000) (hb : AB (iC x)) :
 Ev (fun n => aK n 11 [.a cs] h) (fun v h' => v = .t [.s (wU x).1, .i .i64 (wU x).2] ∧ Sy I A [] L h') := by
 obtain ⟨c1, o1, b1⟩ := N.shape
 have N0 := N
 obtain ⟨k, t, m, ns, ts, ks⟩ := x
 have hl' : (aQ ts (fU ks)).length ≤ 1000000000 := hl
 have hh : (eG t m ns).length ≤ 1000000100 := (aBh m ht hn).2
 have em : iC (.mk k t m ns ts ks) = eG t m ns ++ aQ ts (fU ks) := rfl
 have hlim : (iC (.mk k t m ns ts ks)).length ≤ bV := by rw [em]; simp [bV]; omega
 refine Ev.enter (fun n => aXw n _ h) ?_
 unfold s11
 refine Ev.box S rfl (fun p h1 S1 => ?_)
 have Sr := S1.res
 generalize hh9 : gI 1 h1 = hr at Sr
 refine bXs Sr (List.Mem.tail _ (eJ)) c1 o1 ?_
 refine bVq (aMp Sr N0 ht hn hm0 hm1) ?_
 rintro _ h2 ⟨rfl, S2⟩
 refine bXs S2 (List.Mem.tail _ (eJ)) c1 o1 ?_
 refine Ev.cnd ?_ ?_
 ·rw [ldA (Sr.memL (List.Mem.tail _ (eJ))) (sG c1 o1)]
  simp [bU, b1]
 refine bVq (pF S2 N0 T (by omega)) ?_
 rintro _ h3 ⟨rfl, S3⟩
 refine bWk S3 (cs := [.s (eG t m ns), .s (aQ ts (fU ks))]) (Rpl.head _) (by simp [cI, cD]) ?_
 intro h4 S4
 refine bVq (dX [eG t m ns, aQ ts (fU ks)] S4 (eJ) rfl (by simp [aF]; omega) (by simp)) ?_
 rintro _ _ ⟨rfl, hq⟩
 rw [hq]
 clear hq
 have ej : aF [] [eG t m ns, aQ ts (fU ks)] = iC (.mk k t m ns ts ks) := by rw [em]; simp [aF]
 rw [ej]
 refine bVq (aMc S4.dropL hlim hb 2001 2001 2004 2004 (by simp [bV]) (by simp [bV]) (by simp [bV]) _ (oP _) _ (aCu _)) ?_
 rintro _ h5 ⟨J, ds, rfl, g3, S5, N3⟩
 obtain ⟨c3, o3, b3⟩ := N3.shape
 refine wx ?_; refine wx ?_; refine wx ?_; refine wa fun _ _ _ => ?_; refine wt fun _ _ => ?_; refine ws ?_; refine ws ?_
 refine bVq (aJr (a := (oI (iC (.mk k t m ns ts ks))).2.1) (by assumption) (N0.mono g3) N3) ?_
 rintro _ h7 ⟨rfl, S7⟩
 refine wx ?_; refine wx ?_
 exact bVs ⟨rfl, (dp : Sy J A [] L _).weak g3⟩
end
end Go.Dd

namespace Go.Dd
def NQ : List (List Nat) → List Nat
 | [] => []
 | t :: l => t ++ 32 :: NQ l
theorem aLk : ∀ (ts : List (List Nat)) (s : List Nat), ts ≠ [] → aF [32] ts ++ (32 :: s) = NQ ts ++ s
 | [], s, h => absurd rfl h
 | [t], s, h => by simp [rR, NQ]
 | t :: u :: l, s, h => by
  have := aLk (u :: l) s (by simp)
  rw [tH]
  show t ++ ([32] ++ aF [32] (u :: l)) ++ (32 :: s) = (t ++ 32 :: NQ (u :: l)) ++ s
  simp only [List.append_assoc, List.cons_append, List.nil_append]
  rw [this]
theorem aCk {d : Nat} : ∀ (ts : List (List Nat)) (v : List Nat) (p : Nat) (r : List Tok), (∀ t ∈ ts, TV 1 t) → Lx 2001 v (p + (NQ ts).length + 2) r →
 ∃ T, Lx 2001 (NQ ts ++ 124 :: 32 :: v) p T ∧ r.length < T.length ∧ (∃ a b, T = a :: b) ∧ ∀ g l, T.length ≤ g → fS g l (sd T d) = some (l ++ ts, sd r d)
 | [], v, p, r, ht, hr => by
  obtain ⟨t0, l0, rfl⟩ := hr.cons
  have l1 := jB (c := 124) (by decide) (p := p) (fA hr)
  refine ⟨_, l1, by simp, ⟨_, _, rfl⟩, fun g l hg => ?_⟩
  simp only [List.length_cons] at hg
  obtain ⟨g, rfl⟩ : ∃ k, g = k + 1 := ⟨g - 1, by omega⟩
  unfold fS
  rw [isN (by show (10 : Int) ≠ 1; decide), Option.bind_some, if_neg (by decide), lM (isX rfl rfl) (by show (10 : Int) ≠ 0; decide)]
  simp
 | t :: ts, v, p, r, ht, hr => by
  simp only [NQ, List.length_append, List.length_cons] at hr
  obtain ⟨T, a, b, ⟨t1, k1, rfl⟩, e⟩ := aCk ts v (p + t.length + 1) r (fun x hx => ht x (by simp [hx])) (by
   rw [show p + t.length + 1 + (NQ ts).length + 2 = p + (t.length + ((NQ ts).length + 1)) + 2 by omega]
   exact hr)
  have l1 := fB (p := p) (ht t (by simp)) (by decide) ((dO _).fol 1) (fA a)
  refine ⟨_, by simpa [aJ, NQ, bG] using l1, by simp only [List.length_cons] at b ⊢; omega, ⟨_, _, rfl⟩, fun g l hg => ?_⟩
  simp only [List.length_cons] at hg
  obtain ⟨g, rfl⟩ : ∃ k, g = k + 1 := ⟨g - 1, by omega⟩
  unfold fS
  rw [vB rfl, Option.bind_some, if_pos rfl, eP (by show (1 : Int) ≠ 0; decide), Option.bind_some]
  show fS g (l ++ [t]) (sd (t1 :: k1) d) = _
  rw [e g _ (by simp only [List.length_cons]; omega)]
  simp
def pT (t : Tok) : Prop := (t.kind ≠ 8 ∧ t.kind ≠ 2) ∧ ¬ (t.kind = 3 ∧ t.text = [60])
theorem aAa {d : Nat} {ts : List (List Nat)} {l : List (Node × List Nat)} (ht : ∀ t ∈ ts, TV 1 t) (h : SOk d l) (v : List Nat) (p : Nat) (r : List Tok) (hl : p + (aQ ts (l.map Prod.snd) ++ v).length ≤ 100000) (hv : Stop v) (hr : Lx 2001 v (p + (aQ ts (l.map Prod.snd)).length) r) (hd : Hd pEnd r) :
 ∃ T, Lx 2001 (aQ ts (l.map Prod.snd) ++ v) p T ∧ r.length ≤ T.length ∧ Hd pT T ∧ ∀ f g k, T.length + 2 ≤ f → T.length + 1 ≤ g → T.length + 1 ≤ k → ∃ s2, fT k (sd T d) = some (ts, s2) ∧ cY (dK (f + 1)) g [] s2 = some (l.map Prod.fst, sd r d) := by
 by_cases h0 : ts = []
 ·subst h0
  have e0 : aQ [] (l.map Prod.snd) = aF [46, 32] (l.map Prod.snd) := by simp [aQ]
  rw [e0] at hl hr ⊢
  obtain ⟨T, a, b, ⟨t1, k1, rfl, c⟩, e⟩ := aWj h v p r hl hv hr hd
  refine ⟨_, a, b, ⟨_, _, rfl, c.1, c.2.2⟩, fun f g k hf hg hk => ⟨_, ?_, (e f g [] hf hg).trans (by simp)⟩⟩
  unfold fT
  rw [isY (by decide) c.2.1]
  rfl
 ·have e0 : ∀ w : List Nat, aQ ts (l.map Prod.snd) ++ w = 124 :: 32 :: (NQ ts ++ 124 :: 32 :: (aF [46, 32] (l.map Prod.snd) ++ w)) := fun w => by
   unfold aQ
   rw [if_neg (by simpa using h0)]
   have := aLk ts (124 :: 32 :: (aF [46, 32] (l.map Prod.snd) ++ w)) h0
   simp only [List.append_assoc, List.cons_append, List.nil_append]
   rw [this]
  have e1 := congrArg List.length (e0 [])
  rw [e0] at hl ⊢
  simp only [List.length_append, List.length_cons, List.append_nil] at hl e1
  obtain ⟨T1, a1, b1, ⟨t1, k1, rfl, c1⟩, q1⟩ := aWj h v (p + 2 + (NQ ts).length + 2) r (by simp only [List.length_append]; omega) hv (by
   rw [show p + 2 + (NQ ts).length + 2 + (aF [46, 32] (l.map Prod.snd)).length = p + (aQ ts (l.map Prod.snd)).length by omega]
   exact hr) hd
  obtain ⟨T2, a2, b2, ⟨t2, k2, rfl⟩, q2⟩ := aCk (d := d) ts _ (p + 2) _ ht a1
  have l1 := jB (c := 124) (by decide) (p := p) (fA a2)
  simp only [List.length_cons] at b1 b2
  refine ⟨_, l1, by simp only [List.length_cons]; omega, ⟨_, _, rfl, by show (10 : Int) ≠ 8 ∧ (10 : Int) ≠ 2; decide, fun h => absurd h.1 (by show (10 : Int) ≠ 3; decide)⟩, fun f g k hf hg hk => ⟨sd (t1 :: k1) d, ?_, ?_⟩⟩
  ·simp only [List.length_cons] at hk
   unfold fT
   rw [isX rfl rfl, Option.bind_some, if_pos rfl, eP (by show (10 : Int) ≠ 0; decide), Option.bind_some]
   show fS k [] (sd (t2 :: k2) d) = _
   rw [q2 k [] (by simp only [List.length_cons]; omega)]
   rfl
  ·simp only [List.length_cons] at hf hg
   exact (q1 f g [] (by simp only [List.length_cons]; omega) (by simp only [List.length_cons]; omega)).trans (by simp)
theorem aSp (t : List Nat) : bG 8 t = 58 :: t := rfl
theorem wE {d : Nat} : ∀ (ns : List (List Nat)) (v : List Nat) (p : Nat) (r : List Tok), (∀ t ∈ ns, TV 8 t) → Lx 2001 v (p + (bF ns).length) r → Hd (fun t => t.kind ≠ 8) r →
 ∃ T, Lx 2001 (bF ns ++ v) p T ∧ r.length ≤ T.length ∧ (∃ a b, T = a :: b) ∧ ∀ g l, T.length + 1 ≤ g → l.length + ns.length ≤ 4 → fC g l (sd T d) = some (l ++ ns, sd r d)
 | [], v, p, r, ht, hr, hd => by
  obtain ⟨t0, l0, rfl, h⟩ := hd
  refine ⟨_, hr, Nat.le_refl _, ⟨_, _, rfl⟩, fun g l hg hn => ?_⟩
  obtain ⟨g, rfl⟩ : ∃ k, g = k + 1 := ⟨g - 1, by omega⟩
  unfold fC
  rw [isN h]
  simp
 | t :: ns, v, p, r, ht, hr, hd => by
  simp only [bF, List.length_append, List.length_cons] at hr
  obtain ⟨T, a, b, ⟨t1, k1, rfl⟩, e⟩ := wE ns v (p + 1 + t.length + 1) r (fun x hx => ht x (by simp [hx])) (by
   rw [show p + 1 + t.length + 1 + (bF ns).length = p + (t.length + ((bF ns).length + 1) + 1) by omega]
   exact hr) hd
  have l1 := fB (p := p) (ht t (by simp)) (by decide) ((dO _).fol 8) (r := t1 :: k1) (v := 32 :: (bF ns ++ v)) (fA (by
   rw [aSp, List.length_cons, show p + (t.length + 1) + 1 = p + 1 + t.length + 1 by omega]
   exact a))
  refine ⟨_, by simpa [aJ, bF, bG] using l1, by simp only [List.length_cons] at b ⊢; omega, ⟨_, _, rfl⟩, fun g l hg hn => ?_⟩
  simp only [List.length_cons] at hg hn
  obtain ⟨g, rfl⟩ : ∃ k, g = k + 1 := ⟨g - 1, by omega⟩
  unfold fC jM
  rw [vB rfl, Option.bind_some, if_pos rfl, lM (vB rfl) (by show (8 : Int) ≠ 0; decide), Option.bind_some]
  show fC g (l ++ [t]) (if l.length = 4 then _ else sd (t1 :: k1) d) = _
  rw [if_neg (by omega), e g _ (by simp only [List.length_cons]; omega) (by simp only [laE, lcE, lnE]; omega)]
  simp
theorem aRf {d : Nat} {ns ts : List (List Nat)} {l : List (Node × List Nat)} (hd20 : d < 20) (hn : ∀ t ∈ ns, TV 8 t) (hn4 : ns.length ≤ 4) (ht : ∀ t ∈ ts, TV 1 t) (h : SOk (d + 1) l) :
 RdP d (.mk 9 [] 0 ns ts (l.map Prod.fst)) (91 :: ((if bF ns = [] then [] else bF ns ++ [124, 32]) ++ (aQ ts (l.map Prod.snd) ++ [93]))) := fun v p r hl hv hr h9 => by
 obtain ⟨t0, l0, rfl, _⟩ := h9
 generalize eh : (if bF ns = [] then [] else bF ns ++ [124, 32]) = hh at *
 simp only [laE, lcE, lnE, List.cons_append] at hl hr
 have l1 := jB (c := 93) (by decide) (v := v) (p := p + 1 + hh.length + (aQ ts (l.map Prod.snd)).length) (r := t0 :: l0) (by
  rw [show p + 1 + hh.length + (aQ ts (l.map Prod.snd)).length + 1 = p + (hh.length + ((aQ ts (l.map Prod.snd)).length + (0 + 1)) + 1) by omega]
  exact hr)
 obtain ⟨T1, a1, b1, ⟨t1, k1, rfl, c1⟩, e1⟩ := aAa (d := d + 1) ht h (93 :: v) (p + 1 + hh.length) _ (by simp only [List.length_append, List.length_cons]; omega) (kG (by decide) v) l1 ⟨_, _, rfl, .inr ⟨rfl, rfl⟩⟩
 have H : ∃ T2, Lx 2001 (hh ++ (aQ ts (l.map Prod.snd) ++ 93 :: v)) (p + 1) T2 ∧ (t1 :: k1).length ≤ T2.length ∧ (∃ a b, T2 = a :: b) ∧ ∀ g, T2.length + 1 ≤ g → ∃ s1, fC g [] (sd T2 (d + 1)) = some (ns, s1) ∧ bar ns s1 = some (sd (t1 :: k1) (d + 1)) := by
  cases ns with
  | nil =>
   have : hh = [] := by rw [← eh]; rfl
   subst this
   refine ⟨_, a1, Nat.le_refl _, ⟨_, _, rfl⟩, fun g hg => ⟨sd (t1 :: k1) (d + 1), ?_, ?_⟩⟩
   ·obtain ⟨g, rfl⟩ : ∃ k, g = k + 1 := ⟨g - 1, by omega⟩
    unfold fC
    rw [isN c1.1.1]
    rfl
   ·unfold bar
    rw [if_neg (by simp)]
  | cons n ns =>
   have e2 : hh = bF (n :: ns) ++ [124, 32] := by rw [← eh, if_neg (by simp [bF])]
   have l2 := jB (c := 124) (by decide) (p := p + 1 + (bF (n :: ns)).length) (v := 32 :: (aQ ts (l.map Prod.snd) ++ 93 :: v)) (r := t1 :: k1) (fA (by
    rw [show p + 1 + (bF (n :: ns)).length + 1 + 1 = p + 1 + hh.length by rw [e2]; simp only [laE, lcE, lnE]; omega]
    exact a1))
   obtain ⟨T2, a2, b2, c2, q2⟩ := wE (d := d + 1) (n :: ns) _ (p + 1) _ hn l2 ⟨_, _, rfl, by show (10 : Int) ≠ 8; decide⟩
   refine ⟨T2, by rw [e2]; simpa using a2, by simp only [List.length_cons] at b2 ⊢; omega, c2, fun g hg => ⟨_, (q2 g [] hg (by simpa using hn4)), ?_⟩⟩
   unfold bar
   rw [if_pos (by simp), isY (by decide) (by rintro ⟨_, h⟩; exact absurd h (show ([124] : List Nat) ≠ [93] by decide)), Option.bind_some, if_neg (by decide), lM (isX rfl rfl) (by show (10 : Int) ≠ 0; decide)]
   rfl
 obtain ⟨T2, a2, b2, ⟨t2, k2, rfl⟩, q2⟩ := H
 have l3 := jB (c := 91) (by decide) (p := p) a2
 simp only [List.length_cons] at b1 b2
 refine ⟨_, by simpa using l3, by simp only [List.length_cons]; omega, ⟨_, _, _, rfl, ⟨by show (10 : Int) ≠ 0; decide, by show (10 : Int) ≠ 8 ∧ (10 : Int) ≠ 2; decide, fun h => absurd h (by show (10 : Int) ≠ 3; decide), fun _ => .inr rfl⟩, fun h => absurd h.1 (by show (10 : Int) ≠ 1; decide)⟩, fun f hf => ?_⟩
 simp only [List.length_cons] at hf
 obtain ⟨f, rfl⟩ : ∃ k, f = k + 1 := ⟨f - 1, by omega⟩
 unfold PP dG
 rw [lJ (by show (10 : Int) ≠ 3; decide) (by show (10 : Int) ≠ 4; decide) (by show (10 : Int) ≠ 5; decide) (by show (10 : Int) ≠ 6; decide), Option.bind_some]
 show (if false = true then _ else (bB (sd (_ :: t2 :: k2) d) 0).bind _) = _
 rw [if_neg (by decide), hK, Option.bind_some, if_pos (by rfl), if_neg (by show (10 : Int) ≠ 1; decide), if_neg (by show (10 : Int) ≠ 7; decide)]
 show (dR (sd (_ :: t2 :: k2) d) 10 [40]).bind _ = _
 rw [isY (by decide) (by rintro ⟨_, h⟩; exact absurd h (show ([91] : List Nat) ≠ [40] by decide)), Option.bind_some, if_neg (by decide)]
 show (dR (sd (_ :: t2 :: k2) d) 10 [91]).bind _ = _
 rw [isX rfl rfl, Option.bind_some, if_pos rfl]
 refine lR (by show (10 : Int) ≠ 0; decide) hd20 ?_
 obtain ⟨s1, p1, p2⟩ := q2 (f + 1) (by simp only [List.length_cons]; omega)
 obtain ⟨s2, p3, p4⟩ := e1 f (f + 1) (f + 1) (by simp only [List.length_cons]; omega) (by simp only [List.length_cons]; omega) (by simp only [List.length_cons]; omega)
 unfold jS
 rw [p1, Option.bind_some]
 show (bar ns s1).bind _ = _
 rw [p2, Option.bind_some, p3, Option.bind_some]
 show (cY (dK (f + 1)) (f + 1) [] s2).bind _ = _
 rw [p4, Option.bind_some]
 show (cJ (sd (_ :: t0 :: l0) (d + 1)) 10 [93]).bind _ = _
 rw [lM (isX rfl rfl) (by show (10 : Int) ≠ 0; decide)]
 rfl
theorem aKz {u : List Nat} {T : List Tok} (hu : u.length ≤ 2000) (h : Lx 2001 u 0 T) : iP u = (T, 0, 0) := by
 have e := oP u
 unfold mR at e
 rw [if_neg (by omega), bDf (s := u) T u 0 2001 [] h rfl (by omega) (by omega)] at e
 simpa using e.symm
theorem aDg {p d : Nat} : cJ (sd [⟨0, [], 0, (p : Int)⟩] d) 0 [] = some (⟨0, [], 0, (p : Int)⟩, sd [⟨0, [], 0, (p : Int)⟩] d) := by
 unfold cJ
 rw [vB rfl, Option.bind_some, if_pos rfl]
 unfold aU
 rw [hK, Option.bind_some, if_pos (by rfl)]
theorem aGj {g : Nat} : ∀ (l : List Tok) (v : List Nat) (p : Nat), Lx g v p l → l.length ≤ v.length + 1
 | [], v, p, h => by cases h
 | t :: l, v, p, h => by
  cases h with
  | fin _ _ hw => simp
  | tok w u _ k rs l hw h1 h2 h3 h4 h5 h6 h7 =>
   have := aGj l _ _ h7
   simp only [List.length_drop] at this
   simp only [List.length_append, List.length_cons]
   omega
theorem aYj {ts : List (List Nat)} {l : List (Node × List Nat)} (ht : ∀ t ∈ ts, TV 1 t) (h : SOk 0 l) (hu : (aQ ts (l.map Prod.snd)).length ≤ 1990) :
 cA (aQ ts (l.map Prod.snd)) = (.mk 11 [100, 111, 73, 116] 0 [] ts (l.map Prod.fst), 0, 0) := by
 have l0 := Lx.fin (g := 2001) [] (0 + (aQ ts (l.map Prod.snd)).length) .nil
 obtain ⟨T, a, b, c, e⟩ := aAa ht h [] 0 _ (by simp; omega) stop_nil l0 ⟨_, _, rfl, .inl rfl⟩
 rw [List.append_nil] at a
 have hT := aGj _ _ _ a
 obtain ⟨s2, p1, p2⟩ := e 2003 2004 2004 (by omega) (by omega) (by omega)
 have q := lI (aQ ts (l.map Prod.snd))
 rw [aKz (by omega) a] at q
 unfold fI qS at q
 rw [if_pos rfl, Option.bind_some] at q
 have q1 : ((fT 2004 (sd T 0)).bind fun b => (cY (dK 2004) 2004 [] b.2).bind fun c => (cJ c.2 0 []).bind fun d =>
  if d.2.err = 0 then some ((Node.mk 11 [100, 111, 73, 116] 0 [] [] []).with b.1 c.1, 0, 0) else some (zN, d.2.pos, d.2.err)) = some (cA (aQ ts (l.map Prod.snd))) := q
 rw [p1, Option.bind_some] at q1
 have q2 : ((cY (dK 2004) 2004 [] s2).bind fun c => (cJ c.2 0 []).bind fun d =>
  if d.2.err = 0 then some ((Node.mk 11 [100, 111, 73, 116] 0 [] [] []).with ts c.1, (0 : Int), (0 : Int)) else some (zN, d.2.pos, d.2.err)) = some (cA (aQ ts (l.map Prod.snd))) := q1
 rw [p2, Option.bind_some, aDg, Option.bind_some, if_pos (by rfl)] at q2
 exact (Option.some.inj q2).symm
end Go.Dd

namespace Go.Dd
def YQ : List (List Nat × List Nat) → List Nat
 | [] => []
 | z :: l => z.1 ++ 32 :: (z.2 ++ 32 :: YQ l)
theorem aKd : ∀ (zs : List (List Nat × List Nat)) (s : List Nat), zs ≠ [] → aF [32] (zs.map fun z => z.1 ++ 32 :: z.2) ++ (32 :: s) = YQ zs ++ s
 | [], s, h => absurd rfl h
 | [z], s, h => by simp [rR, YQ]
 | z :: u :: l, s, h => by
  have := aKd (u :: l) s (by simp)
  show (z.1 ++ 32 :: z.2) ++ ([32] ++ aF [32] ((u :: l).map fun z => z.1 ++ 32 :: z.2)) ++ (32 :: s) = (z.1 ++ 32 :: (z.2 ++ 32 :: YQ (u :: l))) ++ s
  simp only [List.append_assoc, List.cons_append, List.nil_append]
  rw [this]
theorem uY : ∀ (zs : List (List Nat × List Nat)) (pre : List (List Nat)), eM (pre ++ zs.map Prod.snd) (zs.map Prod.fst) pre.length = zs.map fun z => z.1 ++ 32 :: z.2
 | [], pre => rfl
 | z :: zs, pre => by
  have ih := uY zs (pre ++ [z.2])
  have e : gB (pre ++ (z :: zs).map Prod.snd) pre.length = z.2 := by simp [gB]
  show (z.1 ++ 32 :: gB (pre ++ (z :: zs).map Prod.snd) pre.length) :: eM (pre ++ (z :: zs).map Prod.snd) (zs.map Prod.fst) (pre.length + 1) = _
  rw [e]
  simp only [List.append_assoc, laE, lcE, lnE, List.cons_append, List.nil_append] at ih
  simp only [List.map_cons]
  rw [← ih]
theorem aLo {d : Nat} : ∀ (zs : List (List Nat × List Nat)) (v : List Nat) (p : Nat) (r : List Tok), (∀ z ∈ zs, TV 2 z.1 ∧ TV 1 z.2) → Lx 2001 v (p + (YQ zs).length) r → Hd (fun t => t.kind ≠ 2) r →
 ∃ T, Lx 2001 (YQ zs ++ v) p T ∧ r.length ≤ T.length ∧ (∃ a b, T = a :: b ∧ (zs ≠ [] → a.kind = 2)) ∧ ∀ g t l, T.length + 1 ≤ g → l.length + zs.length ≤ 4 → t.length + (YQ zs).length ≤ 100000 → nY g t l false (sd T d) = some ((t ++ (zs.map Prod.fst).flatten, l ++ zs.map Prod.snd), sd r d)
 | [], v, p, r, ht, hr, hd => by
  obtain ⟨t0, l0, rfl, h⟩ := hd
  refine ⟨_, hr, Nat.le_refl _, ⟨_, _, rfl, fun h => absurd rfl h⟩, fun g t l hg hn hx => ?_⟩
  obtain ⟨g, rfl⟩ : ∃ k, g = k + 1 := ⟨g - 1, by omega⟩
  unfold nY
  rw [if_neg (by decide), isN h]
  simp
 | z :: zs, v, p, r, ht, hr, hd => by
  simp only [YQ, List.length_append, List.length_cons] at hr
  have hz := ht z (by simp)
  obtain ⟨T, a, b, ⟨t1, k1, rfl, _⟩, e⟩ := aLo zs v (p + z.1.length + 1 + z.2.length + 1) r (fun x hx => ht x (by simp [hx])) (by
   rw [show p + z.1.length + 1 + z.2.length + 1 + (YQ zs).length = p + (z.1.length + (z.2.length + ((YQ zs).length + 1) + 1)) by omega]
   exact hr) hd
  have l1 := fB (p := p + z.1.length + 1) hz.2 (by decide) ((dO _).fol 1) (fA a)
  have l2 := fB (p := p) hz.1 (by decide) ((dO _).fol 2) (fA l1)
  refine ⟨_, by simpa [aJ, YQ, bG] using l2, by simp only [List.length_cons] at b ⊢; omega, ⟨_, _, rfl, fun _ => rfl⟩, fun g t l hg hn hx => ?_⟩
  simp only [List.length_cons, YQ, List.length_append] at hg hn hx
  obtain ⟨g, rfl⟩ : ∃ k, g = k + 1 := ⟨g - 1, by omega⟩
  unfold nY
  rw [if_neg (by decide), vB rfl, Option.bind_some, if_pos rfl, lM (vB rfl) (by show (2 : Int) ≠ 0; decide), Option.bind_some]
  show (if t.length + z.1.length ≤ bV then (jM (sd (_ :: t1 :: k1) d) 1 l.length).bind _ else none) = _
  rw [if_pos (by unfold bV; omega)]
  unfold jM
  rw [lM (vB rfl) (by show (1 : Int) ≠ 0; decide), Option.bind_some, Option.bind_some]
  show nY g (t ++ z.1) (l ++ [z.2]) false (if l.length = 4 then _ else sd (t1 :: k1) d) = _
  rw [if_neg (by omega), e g _ _ (by simp only [List.length_cons]; omega) (by simp only [laE, lcE, lnE]; omega) (by simp only [List.length_append]; omega)]
  simp
def bGu (t : List Nat) (ns : List (List Nat)) : Prop := (TV 1 t ∧ ns = []) ∨ (TV 3 t ∧ ∃ a, ns = [a] ∧ TV 1 a) ∨ ∃ zs : List (List Nat × List Nat), t = (zs.map Prod.fst).flatten ∧ ns = zs.map Prod.snd ∧ zs ≠ [] ∧ zs.length ≤ 4 ∧ ∀ z ∈ zs, TV 2 z.1 ∧ TV 1 z.2
theorem bCa {t : List Nat} {ns : List (List Nat)} (h : bGu t ns) (v : List Nat) (p : Nat) (r : List Tok) (hl : p + (bQ t ns).length + 1 ≤ 100000) (hr : Lx 2001 v (p + (bQ t ns).length + 1) r) (hd : Hd (fun t => t.kind ≠ 2) r) :
 ∃ T, Lx 2001 (bQ t ns ++ 32 :: v) p T ∧ r.length ≤ T.length ∧ ∀ g, T.length + 1 ≤ g → gO g (sd T 0) = some ((t, ns), sd r 0) := by
 obtain ⟨t0, l0, rfl, h0⟩ := hd
 rcases h with ⟨h1, rfl⟩ | ⟨h3, a, rfl, ha⟩ | ⟨zs, rfl, rfl, hne, h4, hz⟩
 ·have e : bQ t [] = t := by unfold bQ; rw [((eF h1).1 rfl).1]; rfl
  rw [e] at hr ⊢
  have l1 := fB (p := p) h1 (by decide) ((dO v).fol 1) (fA hr)
  refine ⟨_, l1, by simp, fun g hg => ?_⟩
  unfold gO
  rw [vB rfl, Option.bind_some, if_pos rfl, eP (by show (1 : Int) ≠ 0; decide)]
  rfl
 ·have e : bQ t [a] = t ++ 32 :: a := by unfold bQ; rw [((eF h3).2.2 rfl).1]; rfl
  rw [e] at hr ⊢
  simp only [List.length_append, List.length_cons] at hr
  have l1 := fB (p := p + t.length + 1) ha (by decide) ((dO v).fol 1) (r := t0 :: l0) (fA (by
   rw [aSz, show p + t.length + 1 + a.length + 1 = p + (t.length + (a.length + 1)) + 1 by omega]
   exact hr))
  have l2 := fB (p := p) h3 (by decide) ((dO _).fol 3) (fA l1)
  refine ⟨_, by simpa [aJ, bG] using l2, by simp only [List.length_cons]; omega, fun g hg => ?_⟩
  unfold gO
  rw [isN (by show (3 : Int) ≠ 1; decide), Option.bind_some, if_neg (by decide), vB rfl, Option.bind_some, if_pos rfl, eP (by show (3 : Int) ≠ 0; decide), Option.bind_some]
  unfold jM
  show ((cJ (sd (_ :: t0 :: l0) 0) 1 []).bind _).bind _ = _
  rw [lM (vB rfl) (by show (1 : Int) ≠ 0; decide)]
  rfl
 ·have hk : ∀ q ∈ zs.map Prod.fst, TV 2 q := fun q hq => by
   obtain ⟨z, h1, rfl⟩ := List.mem_map.1 hq
   exact (hz z h1).1
  have e : ∀ w, bQ (zs.map Prod.fst).flatten (zs.map Prod.snd) ++ 32 :: w = YQ zs ++ w := fun w => by
   unfold bQ
   rw [jO hk (by simpa using hne), if_neg (by decide), if_pos rfl, oD hk, show eM (zs.map Prod.snd) (zs.map Prod.fst) 0 = _ from uY zs []]
   exact aKd zs w hne
  have e1 := congrArg List.length (e [])
  simp only [laE, lcE, lnE, List.append_nil] at e1
  rw [e]
  obtain ⟨T, a, b, ⟨t1, k1, rfl, c⟩, q⟩ := aLo (d := 0) zs v p (t0 :: l0) hz (by
   rw [← e1]
   exact hr) ⟨_, _, rfl, h0⟩
  have hc := c hne
  refine ⟨_, a, b, fun g hg => ?_⟩
  ·have q1 := q g [] [] hg (by simpa using h4) (by simp; omega)
   obtain ⟨g, rfl⟩ : ∃ k, g = k + 1 := ⟨g - 1, by omega⟩
   unfold gO
   rw [isN (by omega), Option.bind_some, if_neg (by decide), isN (by omega), Option.bind_some, if_neg (by decide)]
   have e3 : nY (g + 1) [] [] true (sd (t1 :: k1) 0) = nY (g + 1) [] [] false (sd (t1 :: k1) 0) := by
    conv => lhs; unfold nY
    conv => rhs; unfold nY
    rw [if_pos rfl, if_neg (by decide), vB hc]
   rw [e3, q1]
   simp
theorem bFd : TV 3 [60] := ⟨by decide, fun v hv => by
 have h := hv.1 rfl
 have : bI (cX signs) 2 (60 :: v) = 1 := by
  show (if cX signs 60 then bI (cX signs) 1 v + 1 else 0) = 1
  rw [if_pos (by decide)]
  cases v with
  | nil => rfl
  | cons c r =>
   have h : cX signs c = false := h
   show (if cX signs c then _ else 0) + 1 = 1
   rw [h]; rfl
 show aW 2001 (60 :: v) = _
 unfold aW
 rw [show nx (60 :: v) 0 = 60 from rfl, this]
 rfl⟩
theorem aZc : TV 3 [62] := ⟨by decide, fun v hv => by
 have h := hv.1 rfl
 have : bI (cX signs) 2 (62 :: v) = 1 := by
  show (if cX signs 62 then bI (cX signs) 1 v + 1 else 0) = 1
  rw [if_pos (by decide)]
  cases v with
  | nil => rfl
  | cons c r =>
   have h : cX signs c = false := h
   show (if cX signs c then _ else 0) + 1 = 1
   rw [h]; rfl
 show aW 2001 (62 :: v) = _
 unfold aW
 rw [show nx (62 :: v) 0 = 62 from rfl, this]
 rfl⟩
theorem aYw : TV 2 jQ := ⟨by decide, fun v hv => by
 have h : Stop v := hv.2 (by decide) (by decide) (by decide) (by decide)
 have e : (jQ ++ v).takeWhile cU = [112, 114, 105, 109, 105, 116, 105, 118, 101] := by
  have : jQ ++ v = [112, 114, 105, 109, 105, 116, 105, 118, 101] ++ (58 :: v) := rfl
  rw [this]
  exact zR cU _ _ (by decide) fun c r e => by cases e; decide
 have e2 : cQ ((jQ ++ v).drop 9) = true := by
  show (decide (nx (58 :: v) 0 = 58) && !decide (nx (58 :: v) 1 = 61)) = true
  have h1 : nx (58 :: v) 1 = nx v 0 := rfl
  rw [h1]
  have := h.head.2.2.1
  simp [nx, this]
  exact this
 have en : aI (jQ ++ v) = ([112, 114, 105, 109, 105, 116, 105, 118, 101], 0, 9) := by
  unfold aI
  rw [e]
  rfl
 have ex : nx (jQ ++ v) 0 = 112 := rfl
 show aW 2001 (jQ ++ v) = _
 unfold aW
 rw [en, ex, if_pos (by decide), if_pos rfl, if_pos e2]
 rfl⟩
def PrQ (m : Nat) (body : List Nat) : List Nat := if m = 0 then body else 60 :: (jQ ++ 32 :: (fK (m : Int) ++ 62 :: 32 :: body))
theorem aZf {m : Nat} (hm : m ≤ 255) {w : List Nat} {p : Nat} {r : List Tok} (hr : Lx 2001 w (p + ((PrQ m w).length - w.length)) r) (hd : Hd pT r) :
 ∃ T, Lx 2001 (PrQ m w) p T ∧ r.length ≤ T.length ∧ Hd (fun t => t.kind ≠ 2) T ∧ qK (sd T 0) = some ((m : Int), sd r 0) := by
 by_cases h0 : m = 0
 ·subst h0
  have e : PrQ 0 w = w := rfl
  rw [e] at hr ⊢
  rw [Nat.sub_self, Nat.add_zero] at hr
  refine ⟨r, hr, Nat.le_refl _, hd.mono fun _ h => h.1.2, ?_⟩
  obtain ⟨t, l, rfl, h⟩ := hd
  unfold qK
  rw [isY (by decide) h.2]
  rfl
 ·have e : PrQ m w = 60 :: (jQ ++ 32 :: (dg m ++ 62 :: 32 :: w)) := by unfold PrQ; rw [if_neg h0]; rfl
  rw [e] at hr ⊢
  obtain ⟨t0, l0, rfl, h⟩ := hd
  have el : (60 :: (jQ ++ 32 :: (dg m ++ 62 :: 32 :: w))).length - w.length = 1 + 10 + 1 + (dg m).length + 1 + 1 := by
   simp only [List.length_cons, List.length_append]
   show (10 + ((dg m).length + (w.length + 1 + 1) + 1) + 1) - w.length = _
   omega
  rw [el] at hr
  have l1 := fB (p := p + 1 + 10 + 1 + (dg m).length) aZc (by decide) ((dO w).fol 3) (r := t0 :: l0) (fA (by
   rw [show p + 1 + 10 + 1 + (dg m).length + (bG 3 [62]).length + 1 = p + (1 + 10 + 1 + (dg m).length + 1 + 1) by rw [show (bG 3 [62]).length = 1 from rfl]; omega]
   exact hr))
  have l2 := aGi (n := m) (p := p + 1 + 10 + 1) (by omega) (v := 62 :: 32 :: w) (fun c r e => by cases e; decide) l1
  have l3 := fB (p := p + 1) aYw (by decide) ((dO _).fol 2) (fA l2)
  have l4 := fB (p := p) bFd (by decide) ⟨fun _ => by show cX signs 112 = false; decide, fun h => absurd rfl h⟩ l3
  refine ⟨_, l4, by simp only [List.length_cons]; omega, ⟨_, _, rfl, by show (3 : Int) ≠ 2; decide⟩, ?_⟩
  unfold qK
  rw [isX rfl rfl, Option.bind_some, if_pos rfl, eP (by show (3 : Int) ≠ 0; decide), Option.bind_some]
  show ((cJ (sd (_ :: _ :: _ :: t0 :: l0) 0) 2 jQ).bind _) = _
  rw [lM (isX rfl rfl) (by show (2 : Int) ≠ 0; decide), Option.bind_some]
  show ((cJ (sd (_ :: _ :: t0 :: l0) 0) 4 []).bind _) = _
  rw [lM (vB rfl) (by show (4 : Int) ≠ 0; decide), Option.bind_some]
  show ((cJ (if 255 < (m : Int) then _ else sd (_ :: t0 :: l0) 0) 3 [62]).bind _) = _
  rw [if_neg (by omega), lM (isX rfl rfl) (by show (3 : Int) ≠ 0; decide)]
  rfl
theorem aLi (t : List Nat) (m : Nat) (ns : List (List Nat)) (w : List Nat) : eG t (m : Int) ns ++ w = bQ t ns ++ 32 :: PrQ m w := by
 unfold eG PrQ
 by_cases h0 : m = 0
 ·subst h0
  rw [if_pos (by rfl), if_pos rfl]
  simp
 ·rw [if_neg (by omega), if_neg h0]
  show (bQ t ns ++ (fJ ++ (fK (m : Int) ++ [62])) ++ [32]) ++ w = _
  have : fJ = 32 :: 60 :: (jQ ++ [32]) := rfl
  rw [this]
  simp
theorem bEy {t : List Nat} {m : Nat} {ns ts : List (List Nat)} {l : List (Node × List Nat)} (hp : bGu t ns) (hm : m ≤ 255) (ht : ∀ t ∈ ts, TV 1 t) (h : SOk 0 l) (hu : (eG t (m : Int) ns ++ aQ ts (l.map Prod.snd)).length ≤ 1990) :
 oI (eG t (m : Int) ns ++ aQ ts (l.map Prod.snd)) = (.mk 11 t (m : Int) ns ts (l.map Prod.fst), 0, 0) := by
 rw [aLi] at hu ⊢
 generalize ew : aQ ts (l.map Prod.snd) = w at *
 have hlw : w.length ≤ (PrQ m w).length := by unfold PrQ; split <;> simp <;> omega
 simp only [List.length_append, List.length_cons] at hu
 have l0 := Lx.fin (g := 2001) [] ((bQ t ns).length + 1 + ((PrQ m w).length - w.length) + w.length) .nil
 obtain ⟨T, a, b, c, e⟩ := aAa ht h [] ((bQ t ns).length + 1 + ((PrQ m w).length - w.length)) _ (by rw [ew]; simp; omega) stop_nil (by rw [ew]; exact l0) ⟨_, _, rfl, .inl rfl⟩
 rw [List.append_nil, ew] at a
 obtain ⟨T2, a2, b2, c2, e2⟩ := aZf hm (p := (bQ t ns).length + 1) a c
 obtain ⟨T3, a3, b3, e3⟩ := bCa hp (PrQ m w) 0 T2 (by omega) (by
  rw [Nat.zero_add]
  exact a2) c2
 have hT := aGj _ _ _ a3
 simp only [List.length_append, List.length_cons] at hT
 obtain ⟨s2, p1, p2⟩ := e 2003 2004 2004 (by omega) (by omega) (by omega)
 have q := aCu (bQ t ns ++ 32 :: PrQ m w)
 rw [aKz (by simp; omega) a3] at q
 have eh : lS 2004 (sd T3 0) = some (.mk 11 t (m : Int) ns [] [], sd T 0) := by
  unfold lS
  rw [e3 2004 (by omega), Option.bind_some]
  show (qK (sd T2 0)).bind _ = _
  rw [e2]
  rfl
 unfold fI at q
 rw [if_pos rfl] at q
 have q0 : ((lS 2004 (sd T3 0)).bind fun a => (fT 2004 a.2).bind fun b => (cY (dK 2004) 2004 [] b.2).bind fun c => (cJ c.2 0 []).bind fun d =>
  if d.2.err = 0 then some (a.1.with b.1 c.1, (0 : Int), (0 : Int)) else some (zN, d.2.pos, d.2.err)) = some (oI (bQ t ns ++ 32 :: PrQ m w)) := q
 rw [eh, Option.bind_some] at q0
 have q1 : ((fT 2004 (sd T 0)).bind fun b => (cY (dK 2004) 2004 [] b.2).bind fun c => (cJ c.2 0 []).bind fun d =>
  if d.2.err = 0 then some ((Node.mk 11 t (m : Int) ns [] []).with b.1 c.1, (0 : Int), (0 : Int)) else some (zN, d.2.pos, d.2.err)) = some (oI (bQ t ns ++ 32 :: PrQ m w)) := q0
 rw [p1, Option.bind_some] at q1
 have q2 : ((cY (dK 2004) 2004 [] s2).bind fun c => (cJ c.2 0 []).bind fun d =>
  if d.2.err = 0 then some ((Node.mk 11 t (m : Int) ns [] []).with ts c.1, (0 : Int), (0 : Int)) else some (zN, d.2.pos, d.2.err)) = some (oI (bQ t ns ++ 32 :: PrQ m w)) := q1
 rw [p2, Option.bind_some, aDg, Option.bind_some, if_pos (by rfl)] at q2
 exact (Option.some.inj q2).symm
end Go.Dd

namespace Go.Dd
def TKV (t : Tok) : Prop := AB t.text ∧ ((t.kind = 0 ∧ t.text = [] ∧ t.num = 0) ∨ (t.kind = 4 ∧ t.text = [] ∧ ∃ n : Nat, t.num = (n : Int) ∧ n ≤ 1152921504606846976) ∨ (t.kind ≠ 0 ∧ t.kind ≠ 4 ∧ TV t.kind t.text ∧ t.num = 0))
def lF (t : Tok) : Nat := if t.kind = 0 then 0 else if t.kind = 4 then (fK t.num).length + 2 else (bG t.kind t.text).length + 2
def mu (l : List Tok) : Nat := (l.map lF).sum
def VT (l : List Tok) : Prop := ∀ t ∈ l, TKV t
theorem xB (t : Tok) (l : List Tok) : mu (t :: l) = lF t + mu l := by simp [mu]
theorem aBw : ∀ (w : List Nat) (a n : Int), (∀ c ∈ w, aT c = true) → 0 ≤ a → fV a w = (n, 0) → 0 ≤ n ∧ (a ≤ 1152921504606846976 → n ≤ 1152921504606846976) ∧ n < (a + 1) * (10 ^ w.length : Nat)
 | [], a, n, hc, ha, h => by
  cases h
  refine ⟨ha, id, by simp; omega⟩
 | c :: w, a, n, hc, ha, h => by
  have hd := hc c (by simp)
  simp [aT] at hd
  unfold fV at h
  split at h
  ·cases h
  split at h
  ·cases h
  ·rename_i h1 h2
   obtain ⟨q1, q2, q3⟩ := aBw w _ n (fun d hd => hc d (by simp [hd])) (by omega) h
   refine ⟨q1, fun _ => q2 (by omega), ?_⟩
   refine Int.lt_of_lt_of_le q3 ?_
   rw [List.length_cons, Nat.pow_succ]
   have hp : (0 : Int) ≤ ((10 ^ w.length : Nat) : Int) := Int.natCast_nonneg _
   generalize ((10 ^ w.length : Nat)) = K at *
   rw [Nat.mul_comm, Int.natCast_mul, ← Int.mul_assoc]
   refine Int.mul_le_mul_of_nonneg_right ?_ hp
   have : ((10 : Nat) : Int) = 10 := rfl
   rw [this]
   omega
theorem aMs {u : List Nat} (h : (dE u).2.1 = 0) : ∃ n : Nat, (dE u).1 = (n : Int) ∧ n ≤ 1152921504606846976 ∧ ((u.takeWhile aT).length = 0 ∨ (dg n).length ≤ (u.takeWhile aT).length) := by
 have e : fV 0 (u.takeWhile aT) = ((dE u).1, 0) := by
  have h1 : (fV 0 (u.takeWhile aT)).2 = 0 := h
  exact Prod.ext rfl h1
 obtain ⟨q1, q2, q3⟩ := aBw _ 0 _ (fun c hc => uG aT u c hc) (by omega) e
 refine ⟨(dE u).1.toNat, by omega, by have := q2 (by omega); omega, ?_⟩
 rcases Nat.eq_zero_or_pos (u.takeWhile aT).length with h0 | h0
 ·exact .inl h0
 ·refine .inr ?_
  obtain ⟨k, hk⟩ : ∃ k, (u.takeWhile aT).length = k + 1 := ⟨(u.takeWhile aT).length - 1, by omega⟩
  rw [hk] at q3 ⊢
  have := uD 20 (dE u).1.toNat k [] (by omega)
  simpa [aJ, dg] using this
theorem bXn : ∀ {t : List Nat}, AB (dD 39 [39, 39] t) → AB t
 | [], h => AB.nil
 | c :: t, h => by
  have e : dD 39 [39, 39] (c :: t) = bif Nat.beq c 39 then [39, 39] ++ dD 39 [39, 39] t else c :: dD 39 [39, 39] t := rfl
  rw [e] at h
  cases hc : Nat.beq c 39 with
  | true =>
   rw [hc] at h
   have : c = 39 := Nat.eq_of_beq_eq_true hc
   refine AB.cons (by omega) (bXn fun x hx => h x (by simp [hx]))
  | false =>
   rw [hc] at h
   exact AB.cons (h c (by simp)) (bXn fun x hx => h x (by simp [hx]))
theorem bYg {k : Int} {t : List Nat} (h : AB (bG k t)) (h7 : k = 7 ∨ k = 9 → t = []) : AB t := by
 unfold bG at h
 split at h
 ·exact bXn fun c hc => h c (by simp [hc])
 split at h
 ·exact fun c hc => h c (by simp [hc])
 split at h
 ·rename_i e
  rw [h7 (.inl e)]
  exact AB.nil
 split at h
 ·exact fun c hc => h c (by simp [hc])
 split at h
 ·rename_i e
  rw [h7 (.inr e)]
  exact AB.nil
 ·exact h
theorem aEd {k : Int} {t : List Nat} (h : TV k t) (hk : k = 7 ∨ k = 9) : t = [] := by
 rcases hk with rfl | rfl
 ·have := h.2 [] (stop_nil.fol 7)
  have e : bG 7 t = [35, 40] := rfl
  rw [e] at this
  have e2 : aW 2001 ([35, 40] ++ []) = some (7, [], 0, 0, 2) := rfl
  rw [e2] at this
  simp only [aZ, bS] at this
  exact this.2.1.symm
 ·have := h.2 [] (stop_nil.fol 9)
  have e : bG 9 t = [58, 61] := rfl
  rw [e] at this
  have e2 : aW 2001 ([58, 61] ++ []) = some (9, [], 0, 0, 2) := rfl
  rw [e2] at this
  simp only [aZ, bS] at this
  exact this.2.1.symm
theorem aTv {f : Nat} {u : List Nat} {rs : Int × List Nat × Int × Int × Nat} (h : aW f u = some rs) (he : rs.2.2.2.1 = 0) (h4 : rs.1 = 4) : rs.2.1 = [] ∧ rs.2.2.1 = (dE u).1 ∧ rs.2.2.2.2 = (dE u).2.2 ∧ (dE u).2.1 = 0 := by
 rcases vX h he with ⟨_, a, b, c, d⟩ | ⟨a, _⟩
 ·exact ⟨a, b, c, d⟩
 ·exact absurd h4 a
theorem aCo : ∀ (l : List Tok) (v : List Nat) (p : Nat), AB v → Lx 2001 v p l → VT l ∧ mu l ≤ 3 * v.length
 | [], v, p, hb, h => by cases h
 | t :: l, v, p, hb, h => by
  cases h with
  | fin _ _ hw =>
   refine ⟨fun t ht => ?_, by simp [mu, lF]⟩
   have : t = ⟨0, [], 0, ((p + v.length : Nat) : Int)⟩ := by simpa using ht
   subst this
   exact ⟨AB.nil, .inl ⟨rfl, rfl, rfl⟩⟩
  | tok w u _ k rs _ hw h1 h2 h3 h4 h5 h6 h7 =>
   have hbu : AB u := fun c hc => hb c (by simp [hc])
   obtain ⟨q1, q2⟩ := aCo l (u.drop k) _ (fun c hc => hbu c (List.mem_of_mem_drop hc)) h7
   rw [List.length_drop] at q2
   subst h3
   by_cases hk : rs.1 = 4
   ·obtain ⟨a1, a2, a3, a4⟩ := aTv h1 h2 hk
    obtain ⟨n, b1, b2, b3⟩ := aMs a4
    have e3 : (dE u).2.2 = (u.takeWhile aT).length := rfl
    rw [e3] at a3
    have b4 := b3.resolve_left (by omega)
    refine ⟨fun t ht => ?_, ?_⟩
    ·rcases List.mem_cons.1 ht with rfl | ht
     ·exact ⟨by show AB rs.2.1; rw [a1]; exact AB.nil, .inr (.inl ⟨hk, a1, n, by rw [← b1]; exact a2, b2⟩)⟩
     ·exact q1 t ht
    ·rw [xB]
     have : lF ⟨rs.1, rs.2.1, rs.2.2.1, ((p + w.length : Nat) : Int)⟩ = (dg n).length + 2 := by
      unfold lF
      rw [if_neg h6, if_pos hk]
      show (fK rs.2.2.1).length + 2 = _
      rw [a2, b1]
      rfl
     rw [this, List.length_append]
     omega
   ·obtain ⟨a1, a2, a3⟩ := bHv h1 h2 h4 h5 hk
    refine ⟨fun t ht => ?_, ?_⟩
    ·rcases List.mem_cons.1 ht with rfl | ht
     ·refine ⟨bYg (k := rs.1) ?_ (aEd a1), .inr (.inr ⟨h6, hk, a1, a2⟩)⟩
      rw [← a3]
      exact fun c hc => hbu c (List.mem_of_mem_take hc)
     ·exact q1 t ht
    ·rw [xB]
     have : lF ⟨rs.1, rs.2.1, rs.2.2.1, ((p + w.length : Nat) : Int)⟩ = rs.2.2.2.2 + 2 := by
      unfold lF
      rw [if_neg h6, if_neg hk]
      show (bG rs.1 rs.2.1).length + 2 = _
      rw [← a3, List.length_take, Nat.min_eq_left h5]
     rw [this, List.length_append]
     omega
def Sst (st : PSt) (d m : Nat) : Prop := st.err = 0 ∧ st.deep = (d : Int) ∧ d ≤ 20 ∧ VT st.toks ∧ mu st.toks = m ∧ m ≤ 100000
def SO {α : Type} (P : PSt → Prop) (F : PSt → Option (α × PSt)) (C : Nat → α → Nat → Prop) : Prop := ∀ st x st', P st → F st = some (x, st') → st'.err = 0 → st.err = 0 ∧ ∀ d m, Sst st d m → ∃ n m', m' + n = m ∧ Sst st' d m' ∧ C d x n
def Any (_ : PSt) : Prop := True
def Hk (k : Int) (x : List Nat) (st : PSt) : Prop := ∃ t, bB st 0 = some t ∧ t.kind = k ∧ (x ≠ [] → t.text = x)
section
variable {α β : Type} {P P' : PSt → Prop} {F G : PSt → Option (α × PSt)} {C D : Nat → α → Nat → Prop}
theorem SO.mono (h : SO P F C) (k : ∀ d x n, d ≤ 20 → n ≤ 100000 → C d x n → D d x n) : SO P F D := fun st x st' hp he h0 => by
 obtain ⟨a, b⟩ := h st x st' hp he h0
 refine ⟨a, fun d m S => ?_⟩
 obtain ⟨n, m', e, S', c⟩ := b d m S
 exact ⟨n, m', e, S', k d x n S.2.2.1 (by have := S.2.2.2.2.2; omega) c⟩
theorem SO.pre (h : SO P F C) (k : ∀ st, P' st → P st) : SO P' F C := fun st x st' hp he h0 => h st x st' (k st hp) he h0
theorem SO.bind {K : α × PSt → Option (β × PSt)} {E : α → Nat → β → Nat → Prop} (h : SO P F C) (k : ∀ x, SO Any (fun st => K (x, st)) (E x)) : SO P (fun st => (F st).bind K) (fun d y n => ∃ x a b, a + b = n ∧ C d x a ∧ E x d y b) := fun st y st' hp he h0 => by
 obtain ⟨⟨x, s1⟩, e1, e2⟩ := bE he
 obtain ⟨k1, k2⟩ := k x s1 y st' trivial e2 h0
 obtain ⟨a1, a2⟩ := h st x s1 hp e1 k1
 refine ⟨a1, fun d m S => ?_⟩
 obtain ⟨n, m', q1, q2, q3⟩ := a2 d m S
 obtain ⟨n2, m2, q4, q5, q6⟩ := k2 d m' q2
 exact ⟨n + n2, m2, by omega, q5, x, n, n2, rfl, q3, q6⟩
theorem SO.ret (x : α) : SO P (fun st => some (x, st)) (fun d y n => y = x ∧ n = 0) := fun st y st' hp he h0 => by
 cases he
 exact ⟨h0, fun d m S => ⟨0, m, rfl, S, rfl, rfl⟩⟩
theorem kI {st : PSt} {k : Int} {x : List Nat} (h : dR st k x = some true) : st.err = 0 ∧ Hk k x st := by
 unfold dR at h
 obtain ⟨t, ht, h⟩ := bE h
 simp at h
 refine ⟨h.1.1, t, ht, h.1.2, fun hx => h.2.resolve_left hx⟩
theorem vN {st : PSt} {k : Int} {x : List Nat} (h : dR st k x = some false) (he : st.err = 0) : ¬ Hk k x st := by
 unfold dR at h
 obtain ⟨t, ht, h⟩ := bE h
 rintro ⟨u, h1, h2, h3⟩
 rw [ht] at h1
 cases h1
 simp [he, h2] at h
 exact h.2 (h3 h.1)
theorem bXg {k : Int} {x : List Nat} (h : SO (fun st => P st ∧ Hk k x st) F C) (g : SO (fun st => P st ∧ (st.err = 0 → ¬ Hk k x st)) G C) : SO P (fun st => (dR st k x).bind fun c => if c then F st else G st) C := fun st y st' hp he h0 => by
 obtain ⟨c, e1, e2⟩ := bE he
 cases c with
 | true => exact h st y st' ⟨hp, (kI e1).2⟩ e2 h0
 | false => exact g st y st' ⟨hp, vN e1⟩ e2 h0
theorem bXv {t : Tok} {e : Int} (he : e ≠ 0) (x : α) : SO P (fun st => some (x, cP st t e)) C := fun st y st' hp hs h0 => by
 exfalso
 cases hs
 unfold cP at h0
 split at h0
 ·exact he h0
 ·exact absurd h0 (by assumption)
end
theorem take_so {Q : Tok → Prop} : SO (fun st => ∃ t, bB st 0 = some t ∧ Q t) aU (fun d t n => Q t ∧ TKV t ∧ n = lF t) := fun st y st' ⟨t, ht, hq⟩ he h0 => by
 unfold aU at he
 rw [ht, Option.bind_some] at he
 have hmem : t ∈ st.toks := by
  unfold bB at ht
  exact List.mem_of_getElem? ht
 by_cases hk : t.kind = 0
 ·rw [if_pos hk] at he
  obtain ⟨rfl, rfl⟩ : t = y ∧ st = st' := by simpa using he
  refine ⟨h0, fun d m S => ⟨0, m, rfl, S, hq, S.2.2.2.1 _ hmem, ?_⟩⟩
  unfold lF
  rw [if_pos hk]
 ·rw [if_neg hk] at he
  by_cases h2 : 2 ≤ st.toks.length
  ·rw [if_pos h2] at he
   obtain ⟨rfl, rfl⟩ : t = y ∧ ({ st with toks := st.toks.drop 1 } : PSt) = st' := by simpa using he
   refine ⟨h0, fun d m S => ?_⟩
   obtain ⟨s1, s2, s3, s4, s5, s6⟩ := S
   have ht0 : st.toks[0]? = some t := by
    unfold bB at ht
    simpa using ht
   obtain ⟨r, hr⟩ : ∃ r, st.toks = t :: r := by
    cases e : st.toks with
    | nil => rw [e] at ht0; cases ht0
    | cons a r => rw [e] at ht0; cases ht0; exact ⟨r, rfl⟩
   rw [hr, xB] at s5
   refine ⟨lF t, mu r, by omega, ⟨s1, s2, s3, ?_, ?_, by omega⟩, hq, s4 _ hmem, rfl⟩
   ·show VT (st.toks.drop 1)
    exact fun x hx => s4 x (List.mem_of_mem_drop hx)
   ·show mu (st.toks.drop 1) = _
    rw [hr]
    rfl
  ·rw [if_neg h2] at he
   cases he
theorem dV {k : Int} {x : List Nat} {P : PSt → Prop} : SO (fun st => P st ∧ Hk k x st) aU (fun d t n => (t.kind = k ∧ (x ≠ [] → t.text = x)) ∧ TKV t ∧ n = lF t) := take_so.pre fun st h => h.2
theorem mH {P : PSt → Prop} (k : Int) (x : List Nat) : SO P (fun st => cJ st k x) (fun d t n => (t.kind = k ∧ (x ≠ [] → t.text = x)) ∧ TKV t ∧ n = lF t) := by
 unfold cJ
 refine bXg dV ?_
 intro st y st' hp he h0
 obtain ⟨t, _, he⟩ := bE he
 exact bXv (P := Any) (C := fun d t n => (t.kind = k ∧ (x ≠ [] → t.text = x)) ∧ TKV t ∧ n = lF t) (t := t) (e := 13) (by decide) z4 st y st' trivial he h0
end Go.Dd

namespace Go.Dd
def nht (x : Node) : Nat := jE x.kind x.text
def eX (x : Node) : List Nat := (nf x).tx
theorem bSc : ∀ (x : Node), (nf x).ht = (nht x, eX x)
 | .mk k t m ns ts ks => rfl
def jU (h : Nat) (x : Node) : List Nat := if nht x > h then 40 :: (eX x ++ [41]) else eX x
def qR (l : List Node) : List (Nat × List Nat) := l.map fun x => (nht x, eX x)
theorem aGs (l : List Node) : (pL l).map Nf.ht = qR l := by
 rw [pJ, List.map_map]
 exact List.map_congr_left fun x _ => bSc x
theorem aXi (l : List Node) : (pL l).map Nf.tx = l.map eX := by
 rw [pJ, List.map_map]
 rfl
theorem rM (h : Nat) (x : Node) : (eX x).length ≤ (jU h x).length ∧ (jU h x).length ≤ (eX x).length + 2 := by
 unfold jU
 split
 ·simp; omega
 ·omega
theorem mM (t : List Nat) (x : Node) (args : List Node) : eX (aH t (x :: args)) = jU (if bR t = 1 then 1 else 2) x ++ 32 :: aS t (qR args) := by
 show vF 7 t 0 [] [] (pL (x :: args)) = _
 show fH t ((pL (x :: args)).map Nf.ht) = _
 rw [aGs]
 unfold fH
 rw [if_neg (by simp [qR])]
 rfl
theorem aZo {t : List Nat} (h : TV 1 t) (a : List (Nat × List Nat)) : aS t a = t := by
 unfold aS
 rw [if_pos ((eF h).1 rfl).1]
theorem bDp {t : List Nat} (h : TV 3 t) (x : Node) : aS t (qR [x]) = t ++ 32 :: jU 1 x := by
 unfold aS
 have := ((eF h).2.2 rfl).1
 rw [if_neg (by omega), if_pos this]
 rfl
def q3 (z : List Nat × Node) : List Nat × Node × List Nat := (z.1, z.2, jU 2 z.2)
theorem vZ : ∀ (zs : List (List Nat × Node)) (pre : List (Nat × List Nat)), fR (zs.map Prod.fst) (pre ++ qR (zs.map Prod.snd)) pre.length = zs.map fun z => z.1 ++ 32 :: jU 2 z.2
 | [], pre => rfl
 | z :: zs, pre => by
  have ih := vZ zs (pre ++ [(nht z.2, eX z.2)])
  have e : bM (pre ++ qR ((z :: zs).map Prod.snd)) pre.length 2 = jU 2 z.2 := by
   unfold bM
   simp [qR]
   rfl
  show (z.1 ++ 32 :: bM (pre ++ qR ((z :: zs).map Prod.snd)) pre.length 2) :: fR (zs.map Prod.fst) (pre ++ qR ((z :: zs).map Prod.snd)) (pre.length + 1) = _
  rw [e]
  simp only [List.append_assoc, laE, lcE, lnE, List.cons_append, List.nil_append] at ih
  simp only [List.map_cons]
  rw [← ih]
  rfl
theorem aKe : ∀ (zs : List (List Nat × Node)), zs ≠ [] → 32 :: aF [32] (zs.map fun z => z.1 ++ 32 :: jU 2 z.2) = KQ (zs.map q3)
 | [], h => absurd rfl h
 | [z], h => by simp [rR, KQ, q3]
 | z :: u :: l, h => by
  have := aKe (u :: l) (by simp)
  show 32 :: ((z.1 ++ 32 :: jU 2 z.2) ++ ([32] ++ aF [32] ((u :: l).map fun z => z.1 ++ 32 :: jU 2 z.2))) = 32 :: (z.1 ++ 32 :: (jU 2 z.2 ++ KQ ((u :: l).map q3)))
  rw [← this]
  simp
theorem aYl {zs : List (List Nat × Node)} (h : ∀ z ∈ zs, TV 2 z.1) (hne : zs ≠ []) : 32 :: aS (zs.map Prod.fst).flatten (qR (zs.map Prod.snd)) = KQ (zs.map q3) := by
 have hk : ∀ q ∈ zs.map Prod.fst, TV 2 q := fun q hq => by
  obtain ⟨z, h1, rfl⟩ := List.mem_map.1 hq
  exact h z h1
 have h3 := jO hk (by simpa using hne)
 unfold aS
 rw [if_neg (by omega), if_neg (by omega), oD hk, show fR (zs.map Prod.fst) (qR (zs.map Prod.snd)) 0 = _ from vZ zs []]
 exact aKe zs hne
def WU (d : Nat) (x : Node) : Prop := ∀ e, e ≤ d → RdU e x (jU 1 x)
def WB (d : Nat) (x : Node) : Prop := ∀ e, e ≤ d → RdB e x (jU 2 x)
def MsgOk (d : Nat) (t : List Nat) (args : List Node) : Prop := (TV 1 t ∧ args = []) ∨ (TV 3 t ∧ ∃ a, args = [a] ∧ WU d a) ∨ ∃ zs : List (List Nat × Node), zs ≠ [] ∧ t = (zs.map Prod.fst).flatten ∧ args = zs.map Prod.snd ∧ ∀ z ∈ zs, TV 2 z.1 ∧ WB d z.2
def SendOk (d : Nat) (x : Node) : Prop := ∃ t k0 args, x = aH t (k0 :: args) ∧ MsgOk d t args ∧ (bR t = 1 → WU d k0) ∧ (bR t ≠ 1 → WB d k0)
structure GG (d : Nat) (x : Node) : Prop where
 u : ∀ e, e ≤ d → nht x ≤ 1 → RdU e x (eX x)
 b : ∀ e, e ≤ d → nht x ≤ 2 → RdB e x (eX x)
 e : ∀ e, e ≤ d → RdE e x (eX x)
 s : x.kind = 7 → SendOk d x
structure PU (d : Nat) (x : Node) : Prop where
 g : GG d x
 u : WU d x
 b : WB d x
structure PB (d : Nat) (x : Node) : Prop where
 g : GG d x
 b : WB d x
theorem PU.pb {d : Nat} {x : Node} (h : PU d x) : PB d x := ⟨h.g, h.b⟩
theorem MsgOk.le {d e : Nat} {t : List Nat} {args : List Node} (h : MsgOk d t args) (he : e ≤ d) : MsgOk e t args := by
 rcases h with h | ⟨h, a, h1, h2⟩ | ⟨zs, h1, h2, h3, h4⟩
 ·exact .inl h
 ·exact .inr (.inl ⟨h, a, h1, fun k hk => h2 k (by omega)⟩)
 ·exact .inr (.inr ⟨zs, h1, h2, h3, fun z hz => ⟨(h4 z hz).1, fun k hk => (h4 z hz).2 k (by omega)⟩⟩)
theorem SendOk.le {d e : Nat} {x : Node} (h : SendOk d x) (he : e ≤ d) : SendOk e x := by
 obtain ⟨t, k0, args, h1, h2, h3, h4⟩ := h
 exact ⟨t, k0, args, h1, h2.le he, fun k q hq => h3 k q (by omega), fun k q hq => h4 k q (by omega)⟩
theorem GG.le {d e : Nat} {x : Node} (h : GG d x) (he : e ≤ d) : GG e x := ⟨fun k hk => h.u k (by omega), fun k hk => h.b k (by omega), fun k hk => h.e k (by omega), fun k => (h.s k).le he⟩
theorem PU.low {d : Nat} {x : Node} (h0 : nht x = 0) (h7 : x.kind ≠ 7) (h : ∀ e, e ≤ d → RdP e x (eX x)) : PU d x := by
 have e1 : jU 1 x = eX x := by unfold jU; rw [if_neg (by omega)]
 have e2 : jU 2 x = eX x := by unfold jU; rw [if_neg (by omega)]
 exact ⟨⟨fun e he _ => (h e he).u, fun e he _ => (h e he).u.b, fun e he => (h e he).u.b.k.e, fun k => absurd k h7⟩, fun e he => by rw [e1]; exact (h e he).u, fun e he => by rw [e2]; exact (h e he).u.b⟩
theorem PU.paren {d : Nat} {x : Node} (h : GG (d + 1) x) (hd : d < 20) : PU d x := by
 refine ⟨h.le (by omega), fun e he => ?_, fun e he => ?_⟩
 ·unfold jU
  split
  ·exact (RdE.paren (h.e (e + 1) (by omega)) (by omega)).u
  ·exact h.u e (by omega) (by omega)
 ·unfold jU
  split
  ·exact (RdE.paren (h.e (e + 1) (by omega)) (by omega)).u.b
  ·exact h.b e (by omega) (by omega)
theorem iO (t : List Nat) (ks : List Node) : nht (aH t ks) = bR t := rfl
theorem PU.send {d : Nat} {x : Node} {n : List Nat} (h : PU d x) (hn : TV 1 n) : PU d (aH n [x]) ∧ eX (aH n [x]) = jU 1 x ++ 32 :: n := by
 have hk := ((eF hn).1 rfl).1
 have e0 : eX (aH n [x]) = jU 1 x ++ 32 :: n := by rw [mM, hk, aZo hn]; rfl
 have e1 : jU 1 (aH n [x]) = eX (aH n [x]) := by unfold jU; rw [if_neg (by rw [iO]; omega)]
 have e2 : jU 2 (aH n [x]) = eX (aH n [x]) := by unfold jU; rw [if_neg (by rw [iO]; omega)]
 have H : ∀ e, e ≤ d → RdU e (aH n [x]) (eX (aH n [x])) := fun e he => by rw [e0]; exact (h.u e he).send hn
 refine ⟨⟨⟨fun e he _ => H e he, fun e he _ => (H e he).b, fun e he => (H e he).b.k.e, fun _ => ⟨n, x, [], rfl, .inl ⟨hn, rfl⟩, fun _ => h.u, fun k => absurd hk k⟩⟩, fun e he => by rw [e1]; exact H e he, fun e he => by rw [e2]; exact (H e he).b⟩, e0⟩
theorem PB.send {d : Nat} {x y : Node} {s : List Nat} (h : PB d x) (hs : TV 3 s) (hy : PU d y) : PB d (aH s [x, y]) ∧ eX (aH s [x, y]) = jU 2 x ++ 32 :: (s ++ 32 :: jU 1 y) := by
 have hk := ((eF hs).2.2 rfl).1
 have e0 : eX (aH s [x, y]) = jU 2 x ++ 32 :: (s ++ 32 :: jU 1 y) := by rw [mM, hk, bDp hs]; rfl
 have e2 : jU 2 (aH s [x, y]) = eX (aH s [x, y]) := by unfold jU; rw [if_neg (by rw [iO]; omega)]
 have H : ∀ e, e ≤ d → RdB e (aH s [x, y]) (eX (aH s [x, y])) := fun e he => by rw [e0]; exact (h.b e he).send hs (hy.u e he)
 exact ⟨⟨⟨fun e he h1 => by rw [iO] at h1; omega, fun e he _ => H e he, fun e he => (H e he).k.e, fun _ => ⟨s, x, [y], rfl, .inr (.inl ⟨hs, y, rfl, hy.u⟩), fun k => by omega, fun _ => h.b⟩⟩, fun e he => by rw [e2]; exact H e he⟩, e0⟩
theorem GG.keys {d : Nat} {x : Node} {zs : List (List Nat × Node)} (h : PB d x) (hne : zs ≠ []) (hz : ∀ z ∈ zs, TV 2 z.1 ∧ WB d z.2) :
 GG d (aH (zs.map Prod.fst).flatten (x :: zs.map Prod.snd)) ∧ eX (aH (zs.map Prod.fst).flatten (x :: zs.map Prod.snd)) = jU 2 x ++ KQ (zs.map q3) ∧ ∀ e, e ≤ d → RdK e (aH (zs.map Prod.fst).flatten (x :: zs.map Prod.snd)) (eX (aH (zs.map Prod.fst).flatten (x :: zs.map Prod.snd))) := by
 have hk : ∀ q ∈ zs.map Prod.fst, TV 2 q := fun q hq => by
  obtain ⟨z, h1, rfl⟩ := List.mem_map.1 hq
  exact (hz z h1).1
 have h3 := jO hk (by simpa using hne)
 have e0 : eX (aH (zs.map Prod.fst).flatten (x :: zs.map Prod.snd)) = jU 2 x ++ KQ (zs.map q3) := by
  rw [mM, h3, aYl (fun z h => (hz z h).1) hne]
  rfl
 have ef : (zs.map q3).map Prod.fst = zs.map Prod.fst := by rw [List.map_map]; rfl
 have es : ((zs.map q3).map fun q => q.2.1) = zs.map Prod.snd := by rw [List.map_map]; rfl
 have H : ∀ e, e ≤ d → RdK e (aH (zs.map Prod.fst).flatten (x :: zs.map Prod.snd)) (eX (aH (zs.map Prod.fst).flatten (x :: zs.map Prod.snd))) := fun e he => by
  have := RdK.keys (qs := zs.map q3) (h.b e he) (fun q hq => by
   obtain ⟨z, h1, rfl⟩ := List.mem_map.1 hq
   exact ⟨(hz z h1).1, (hz z h1).2 e he⟩) (by simpa using hne)
  rw [ef, es] at this
  rw [e0]
  exact this
 refine ⟨⟨fun e he h1 => by rw [iO] at h1; omega, fun e he h1 => by rw [iO] at h1; omega, fun e he => (H e he).e, fun _ => ⟨_, x, _, rfl, .inr (.inr ⟨zs, hne, rfl, rfl, hz⟩), fun k => by omega, fun _ => h.b⟩⟩, e0, H⟩
theorem SendOk.k {d : Nat} {t : List Nat} {k0 : Node} {args : List Node} (hm : MsgOk d t args) (h1 : bR t = 1 → WU d k0) (h2 : bR t ≠ 1 → WB d k0) : ∀ e, e ≤ d → RdK e (aH t (k0 :: args)) (eX (aH t (k0 :: args))) := fun e he => by
 rcases hm with ⟨h, rfl⟩ | ⟨h, a, rfl, ha⟩ | ⟨zs, hne, rfl, rfl, hz⟩
 ·have hk := ((eF h).1 rfl).1
  rw [mM, hk, aZo h]
  exact ((h1 hk) e he |>.send h).b.k
 ·have hk := ((eF h).2.2 rfl).1
  rw [mM, hk, bDp h]
  exact ((h2 (by omega)) e he |>.send h (ha e he)).k
 ·have hk : ∀ q ∈ zs.map Prod.fst, TV 2 q := fun q hq => by
   obtain ⟨z, h1, rfl⟩ := List.mem_map.1 hq
   exact (hz z h1).1
  have h3 := jO hk (by simpa using hne)
  have ef : (zs.map q3).map Prod.fst = zs.map Prod.fst := by rw [List.map_map]; rfl
  have es : ((zs.map q3).map fun q => q.2.1) = zs.map Prod.snd := by rw [List.map_map]; rfl
  have := RdK.keys (qs := zs.map q3) ((h2 (by omega)) e he) (fun q hq => by
   obtain ⟨z, h1, rfl⟩ := List.mem_map.1 hq
   exact ⟨(hz z h1).1, (hz z h1).2 e he⟩) (by simpa using hne)
  rw [ef, es] at this
  rw [mM, h3, aYl (fun z h => (hz z h).1) hne]
  exact this
theorem MsgOk.m {d : Nat} {t : List Nat} {args : List Node} (hm : MsgOk d t args) : ∀ e, e ≤ d → RdM e (aH t args) (aS t (qR args)) := fun e he => by
 rcases hm with ⟨h, rfl⟩ | ⟨h, a, rfl, ha⟩ | ⟨zs, hne, rfl, rfl, hz⟩
 ·rw [aZo h]
  exact bUz h
 ·rw [bDp h]
  exact bVg h (ha e he)
 ·have ef : (zs.map q3).map Prod.fst = zs.map Prod.fst := by rw [List.map_map]; rfl
  have es : ((zs.map q3).map fun q => q.2.1) = zs.map Prod.snd := by rw [List.map_map]; rfl
  have := bUf (d := e) (qs := zs.map q3) (fun q hq => by
   obtain ⟨z, h1, rfl⟩ := List.mem_map.1 hq
   exact ⟨(hz z h1).1, (hz z h1).2 e he⟩) (by simpa using hne)
  rw [ef, es, ← aYl (fun z h => (hz z h).1) hne] at this
  exact this
theorem GG.cascade {d : Nat} {t : List Nat} {k0 : Node} {args : List Node} {ms : List (List Nat × List Node)} (hm : MsgOk d t args) (h1 : bR t = 1 → WU d k0) (h2 : bR t ≠ 1 → WB d k0) (hs : ∀ m ∈ ms, MsgOk d m.1 m.2) (hne : ms ≠ []) :
 GG d (.mk 8 [] 0 [] [] (k0 :: aH t args :: ms.map fun m => aH m.1 m.2)) ∧ eX (.mk 8 [] 0 [] [] (k0 :: aH t args :: ms.map fun m => aH m.1 m.2)) = eX (aH t (k0 :: args)) ++ FQ (ms.map fun m => (aH m.1 m.2, aS m.1 (qR m.2))) := by
 have ek : (ms.map fun m => (aH m.1 m.2, aS m.1 (qR m.2))).map Prod.fst = ms.map fun m => aH m.1 m.2 := by rw [List.map_map]; rfl
 have e0 : eX (.mk 8 [] 0 [] [] (k0 :: aH t args :: ms.map fun m => aH m.1 m.2)) = eX (aH t (k0 :: args)) ++ FQ (ms.map fun m => (aH m.1 m.2, aS m.1 (qR m.2))) := by
  show fH t ((nf k0).ht :: (pL args).map Nf.ht) ++ aF [] ((pL (ms.map fun m => aH m.1 m.2)).map fun x => 59 :: 32 :: aS x.t x.ks) = _
  congr 1
  clear ek hs hne
  induction ms with
  | nil => rfl
  | cons m ms ih =>
   have e : (nf (aH m.1 m.2)).t = m.1 ∧ (nf (aH m.1 m.2)).ks = qR m.2 := ⟨rfl, aGs m.2⟩
   cases ms with
   | nil =>
    show 59 :: 32 :: aS (nf (aH m.1 m.2)).t (nf (aH m.1 m.2)).ks = 59 :: 32 :: (aS m.1 (qR m.2) ++ [])
    rw [e.1, e.2, List.append_nil]
   | cons m2 ms =>
    show (59 :: 32 :: aS (nf (aH m.1 m.2)).t (nf (aH m.1 m.2)).ks) ++ ([] ++ aF [] ((pL ((m2 :: ms).map fun m => aH m.1 m.2)).map fun x => 59 :: 32 :: aS x.t x.ks)) = 59 :: 32 :: (aS m.1 (qR m.2) ++ FQ _)
    rw [e.1, e.2, List.nil_append, ih]
    rfl
 have hh : nht (.mk 8 [] 0 [] [] (k0 :: aH t args :: ms.map fun m => aH m.1 m.2)) = 4 := rfl
 refine ⟨⟨fun e he h1 => by omega, fun e he h1 => by omega, fun e he => ?_, fun k => absurd k (by show (8 : Int) ≠ 7; decide)⟩, e0⟩
 have := RdE.cascade (SendOk.k hm h1 h2 e he) (ms := ms.map fun m => (aH m.1 m.2, aS m.1 (qR m.2))) (fun m hm => by
  obtain ⟨z, h1, rfl⟩ := List.mem_map.1 hm
  exact (hs z h1).m e he) (by simpa using hne)
 rw [ek, ← e0] at this
 exact this
theorem GG.assign {d : Nat} {x : Node} {n : List Nat} (h : GG d x) (hn : TV 1 n) : GG d (.mk 6 n 0 [] [] [x]) ∧ eX (.mk 6 n 0 [] [] [x]) = n ++ 32 :: 58 :: 61 :: 32 :: eX x := by
 have e0 : eX (.mk 6 n 0 [] [] [x]) = n ++ 32 :: 58 :: 61 :: 32 :: eX x := rfl
 have hh : nht (.mk 6 n 0 [] [] [x]) = 5 := rfl
 exact ⟨⟨fun e he h1 => by omega, fun e he h1 => by omega, fun e he => by rw [e0]; exact (h.e e he).assign hn, fun k => absurd k (by show (6 : Int) ≠ 7; decide)⟩, e0⟩
end Go.Dd

namespace Go.Dd
theorem aSq {k : Int} {t : List Nat} (h : k = 7 ∨ k = 9 → t = []) : t.length ≤ (bG k t).length := by
 unfold bG
 split
 ·simp only [List.length_cons, List.length_append]
  have : t.length ≤ (dD 39 [39, 39] t).length := by
   induction t with
   | nil => exact Nat.le_refl _
   | cons c t ih =>
    have e : dD 39 [39, 39] (c :: t) = bif Nat.beq c 39 then [39, 39] ++ dD 39 [39, 39] t else c :: dD 39 [39, 39] t := rfl
    have ih := ih (fun hk => by have := h hk; cases this)
    rw [e]
    cases Nat.beq c 39 with
    | true => simp; omega
    | false => simp; omega
  omega
 split
 ·simp
 split
 ·rename_i e; rw [h (.inl e)]; simp
 split
 ·simp
 split
 ·rename_i e; rw [h (.inr e)]; simp
 ·exact Nat.le_refl _
theorem tkv {t : Tok} {k : Int} (h : TKV t) (hk : t.kind = k) (h0 : k ≠ 0) (h4 : k ≠ 4) : TV k t.text ∧ lF t = (bG k t.text).length + 2 ∧ t.num = 0 ∧ AB t.text ∧ t.text.length + 2 ≤ lF t := by
 obtain ⟨a, h⟩ := h
 rcases h with h | h | ⟨h1, h2, h3, h5⟩
 ·omega
 ·omega
 ·rw [hk] at h3
  have e : lF t = (bG k t.text).length + 2 := by unfold lF; rw [if_neg h1, if_neg h2, hk]
  exact ⟨h3, e, h5, a, by have := aSq (k := k) (aEd h3); omega⟩
theorem bVu {α β : Type} {P : PSt → Prop} {F : PSt → Option (α × PSt)} {C : Nat → α → Nat → Prop} {E : α → Nat → β → Nat → Prop} (K : α → PSt → Option (β × PSt)) (h : SO P F C) (k : ∀ x, SO Any (K x) (E x)) : SO P (fun st => (F st).bind fun r => K r.1 r.2) (fun d y n => ∃ x a b, a + b = n ∧ C d x a ∧ E x d y b) :=
 SO.bind (K := fun r => K r.1 r.2) h k
theorem pY : ∀ {l : List Node}, (∀ x ∈ l, Sk x) → SkL l
 | [], h => trivial
 | x :: l, h => ⟨h x (by simp), pY fun y hy => h y (by simp [hy])⟩
theorem pQ : ∀ {l : List Node}, (∀ x ∈ l, By x) → ByL l
 | [], h => trivial
 | x :: l, h => ⟨h x (by simp), pQ fun y hy => h y (by simp [hy])⟩
theorem rD {t : List Nat} {ks : List Node} (h : t.length ≤ 100000) (h2 : ks.length ≤ 100001) (hk : ∀ x ∈ ks, Sk x) : Sk (aH t ks) := ⟨by omega, by omega, by omega, by unfold bV; omega, pY hk⟩
theorem rF {t : List Nat} {ks : List Node} (h : AB t) (hk : ∀ x ∈ ks, By x) : By (aH t ks) := ⟨h, fun x hx => by (cases hx), fun x hx => by (cases hx), pQ hk⟩
def CU (d : Nat) (x : Node) (n : Nat) : Prop := PU d x ∧ (jU 1 x).length + 2 ≤ n ∧ Sk x ∧ By x
def CB (d : Nat) (x : Node) (n : Nat) : Prop := PB d x ∧ (jU 2 x).length + 2 ≤ n ∧ Sk x ∧ By x
def CE (d : Nat) (x : Node) (n : Nat) : Prop := GG d x ∧ (eX x).length + 2 ≤ n ∧ Sk x ∧ By x
theorem kO {h : Nat} {x : Node} (hx : nht x ≤ h) : jU h x = eX x := by unfold jU; rw [if_neg (by omega)]
theorem aWl (x : Node) : (jU 2 x).length ≤ (jU 1 x).length := by
 have := rM 1 x
 have := rM 2 x
 by_cases h : nht x ≤ 2
 ·rw [kO h]; omega
 ·unfold jU
  rw [if_pos (by omega), if_pos (by omega)]
  exact Nat.le_refl _
theorem CU.cb {d : Nat} {x : Node} {n : Nat} (h : CU d x n) : CB d x n := ⟨h.1.pb, by have := aWl x; have := h.2.1; omega, h.2.2⟩
theorem CB.ce {d : Nat} {x : Node} {n : Nat} (h : CB d x n) : CE d x n := ⟨h.1.g, by have := rM 2 x; have := h.2.1; omega, h.2.2⟩
theorem oN : ∀ (f : Nat) (x : Node), SO Any (bX f x) (fun d y n => ∀ a, CU d x a → CU d y (a + n))
 | 0, x => fun st y st' _ h => by cases h
 | f + 1, x => by
  show SO Any (fun st => (dR st 1 []).bind fun c => if c then (aU st).bind fun r => bX f (aH r.1.text [x]) r.2 else some (x, st)) _
  refine bXg ((bVu (fun t st => bX f (aH t.text [x]) st) dV (fun t => oN f (aH t.text [x]))).mono ?_) ((SO.ret x).mono ?_)
  ·rintro d y n hd hn ⟨t, a, b, rfl, ⟨⟨hk, _⟩, hv, rfl⟩, H⟩ c ⟨h1, h2, h3, h4⟩
   obtain ⟨k1, k2, k3, k4, k5⟩ := tkv hv hk (by decide) (by decide)
   obtain ⟨p1, p2⟩ := h1.send k1
   have := H (c + lF t) ⟨p1, by
    rw [kO (by rw [iO, ((eF k1).1 rfl).1]; omega), p2, List.length_append, List.length_cons]
    omega, rD (by omega) (by simp) (by simpa using h3), rF k4 (by simpa using h4)⟩
   rw [← Nat.add_assoc]
   exact this
  ·rintro d y n hd hn ⟨rfl, rfl⟩ a h
   exact h
theorem vP {P : PF} {g : Nat} (hP : SO Any P CU) : ∀ (f : Nat) (x : Node), SO Any (bP P g f x) (fun d y n => ∀ a, CB d x a → CB d y (a + n))
 | 0, x => fun st y st' _ h => by cases h
 | f + 1, x => by
  show SO Any (fun st => (dR st 3 []).bind fun c => if c then (aU st).bind fun r => (P r.2).bind fun q => (bX g q.1 q.2).bind fun u => bP P g f (aH r.1.text [x, u.1]) u.2 else some (x, st)) _
  refine bXg ((bVu (fun t st => (P st).bind fun q => (bX g q.1 q.2).bind fun u => bP P g f (aH t.text [x, u.1]) u.2) dV (fun t => bVu (fun q st => (bX g q st).bind fun u => bP P g f (aH t.text [x, u.1]) u.2) hP fun q => bVu (fun u st => bP P g f (aH t.text [x, u]) st) (oN g q) fun u => vP hP f (aH t.text [x, u]))).mono ?_) ((SO.ret x).mono ?_)
  ·rintro d y n hd hn ⟨t, a, b, rfl, ⟨⟨hk, _⟩, hv, rfl⟩, q, a2, b2, rfl, hq, u, a3, b3, rfl, hu, H⟩ c ⟨h1, h2, h3, h4⟩
   obtain ⟨k1, k2, k3, k4, k5⟩ := tkv hv hk (by decide) (by decide)
   obtain ⟨q1, q2, q3, q4⟩ := hu a2 hq
   obtain ⟨p1, p2⟩ := h1.send k1 q1
   have := H (c + (lF t + (a2 + a3))) ⟨p1, by
    rw [kO (by rw [iO, ((eF k1).2.2 rfl).1]; omega), p2]
    simp only [List.length_append, List.length_cons]
    omega, rD (by omega) (by simp) (by
     intro z hz
     rcases List.mem_cons.1 hz with rfl | hz
     ·exact h3
     ·have : z = u := by simpa using hz
      rw [this]; exact q3), rF k4 (by
     intro z hz
     rcases List.mem_cons.1 hz with rfl | hz
     ·exact h4
     ·have : z = u := by simpa using hz
      rw [this]; exact q4)⟩
   rw [show c + (lF t + (a2 + (a3 + b3))) = c + (lF t + (a2 + a3)) + b3 by omega]
   exact this
  ·rintro d y n hd hn ⟨rfl, rfl⟩ a h
   exact h
theorem aHb {P : PF} {g : Nat} (hP : SO Any P CU) : SO Any (fun st => (P st).bind fun q => (bX g q.1 q.2).bind fun u => bP P g g u.1 u.2) CB :=
 (bVu (fun q st => (bX g q st).bind fun u => bP P g g u.1 u.2) hP fun q => bVu (fun u st => bP P g g u st) (oN g q) fun u => vP hP g u).mono fun d x n _ _ h => by
  obtain ⟨q, a, b, e, h1, u, a2, b2, e2, h2, h3⟩ := h
  have := h3 _ (h2 a h1).cb
  rw [show n = a + a2 + b2 by omega]
  exact this
def KZ (d : Nat) (zs : List (List Nat × Node)) (n : Nat) : Prop := (∀ z ∈ zs, (TV 2 z.1 ∧ WB d z.2) ∧ AB z.1 ∧ Sk z.2 ∧ By z.2) ∧ (KQ (zs.map q3)).length + 2 * zs.length ≤ n ∧ zs.length ≤ n ∧ (zs.map Prod.fst).flatten.length ≤ n
theorem KZ.nil {d : Nat} : KZ d [] 0 := ⟨fun z hz => (by cases hz), Nat.le_refl _, Nat.le_refl _, Nat.le_refl _⟩
theorem KZ.cons {d : Nat} {p : List Nat} {x : Node} {zs : List (List Nat × Node)} {n a w : Nat} (h : KZ d zs n) (hp : TV 2 p) (hb : AB p) (hw : p.length + 2 ≤ w) (hx : CB d x a) : KZ d ((p, x) :: zs) (w + (a + n)) := by
 obtain ⟨h1, h2, h3, h4⟩ := h
 obtain ⟨x1, x2, x3, x4⟩ := hx
 refine ⟨fun z hz => ?_, ?_, ?_, ?_⟩
 ·rcases List.mem_cons.1 hz with rfl | hz
  ·exact ⟨⟨hp, x1.b⟩, hb, x3, x4⟩
  ·exact h1 z hz
 ·show (32 :: (p ++ 32 :: (jU 2 x ++ KQ (zs.map q3)))).length + 2 * (zs.length + 1) ≤ _
  simp only [List.length_cons, List.length_append]
  omega
 ·simp only [List.length_cons]; omega
 ·simp only [List.map_cons, List.flatten_cons, List.length_append]; omega
theorem aBd {P : PF} {g : Nat} (hP : SO Any P CU) : ∀ (f : Nat) (t : List Nat) (ks : List Node), SO Any (dQ P g f t ks) (fun d y n => ∃ zs, y = aH (t ++ (zs.map Prod.fst).flatten) (ks ++ zs.map Prod.snd) ∧ KZ d zs n)
 | 0, t, ks => fun st y st' _ h => by cases h
 | f + 1, t, ks => by
  show SO Any (fun st => (dR st 2 []).bind fun c => if c then (aU st).bind fun r => if t.length + r.1.text.length ≤ bV then
   (P r.2).bind fun q => (bX g q.1 q.2).bind fun u => (bP P g g u.1 u.2).bind fun w => dQ P g f (t ++ r.1.text) (ks ++ [w.1]) w.2 else none
   else some (aH t ks, st)) _
  refine bXg ((bVu (fun r st => if t.length + r.text.length ≤ bV then
   (P st).bind fun q => (bX g q.1 q.2).bind fun u => (bP P g g u.1 u.2).bind fun w => dQ P g f (t ++ r.text) (ks ++ [w.1]) w.2 else none) dV (E := fun r d y n => ∃ x a b, a + b = n ∧ CB d x a ∧ ∃ zs, y = aH (t ++ r.text ++ (zs.map Prod.fst).flatten) (ks ++ [x] ++ zs.map Prod.snd) ∧ KZ d zs b) (fun r => ?_)).mono ?_) ((SO.ret _).mono ?_)
  ·by_cases hl : t.length + r.text.length ≤ bV
   ·have := bVu (fun w st => dQ P g f (t ++ r.text) (ks ++ [w]) st) (aHb (g := g) hP) fun w => aBd hP f (t ++ r.text) (ks ++ [w])
    intro st y st' hp he h0
    refine this st y st' hp ?_ h0
    have he : (if t.length + r.text.length ≤ bV then (P st).bind fun q => (bX g q.1 q.2).bind fun u => (bP P g g u.1 u.2).bind fun w => dQ P g f (t ++ r.text) (ks ++ [w.1]) w.2 else none) = some (y, st') := he
    rw [if_pos hl] at he
    rw [← he]
    simp only [Option.bind_assoc]
   ·intro st y st' hp he h0
    have he : (if t.length + r.text.length ≤ bV then (P st).bind fun q => (bX g q.1 q.2).bind fun u => (bP P g g u.1 u.2).bind fun w => dQ P g f (t ++ r.text) (ks ++ [w.1]) w.2 else none) = some (y, st') := he
    rw [if_neg hl] at he
    cases he
  ·rintro d y n hd hn ⟨r, a, b, rfl, ⟨⟨hk, _⟩, hv, rfl⟩, x, a2, b2, rfl, hx, zs, rfl, hz⟩
   obtain ⟨k1, k2, k3, k4, k5⟩ := tkv hv hk (by decide) (by decide)
   exact ⟨(r.text, x) :: zs, by simp, hz.cons k1 k4 k5 hx⟩
  ·rintro d y n hd hn ⟨rfl, rfl⟩
   exact ⟨[], by simp, KZ.nil⟩
theorem SO.pick {α : Type} {P : PSt → Prop} {F : PSt → Option (α × PSt)} {C D : Nat → α → Nat → Prop} (h : SO P F C) (k : ∀ st x st', P st → F st = some (x, st') → st'.err = 0 → ∀ d n, C d x n → D d x n) : SO P F D := fun st x st' hp he h0 => by
 obtain ⟨a, b⟩ := h st x st' hp he h0
 refine ⟨a, fun d m S => ?_⟩
 obtain ⟨n, m', e, S', c⟩ := b d m S
 exact ⟨n, m', e, S', k st x st' hp he h0 d n c⟩
theorem uL {P : PF} {g : Nat} : ∀ (f : Nat) (t : List Nat) (ks : List Node) (st : PSt) (y : Node) (st' : PSt), dQ P g f t ks st = some (y, st') → ks.length ≤ y.kids.length
 | 0, t, ks, st, y, st', h => by cases h
 | f + 1, t, ks, st, y, st', h => by
  unfold dQ at h
  obtain ⟨c, e1, h⟩ := bE h
  cases c with
  | true =>
   rw [if_pos rfl] at h
   obtain ⟨r, e2, h⟩ := bE h
   split at h
   ·obtain ⟨q, e3, h⟩ := bE h
    obtain ⟨u, e4, h⟩ := bE h
    obtain ⟨w, e5, h⟩ := bE h
    have := uL f _ _ _ y st' h
    simp at this
    omega
   ·cases h
  | false =>
   rw [if_neg (by decide)] at h
   cases h
   exact Nat.le_refl _
theorem wM {P : PF} {g f : Nat} {t : List Nat} {ks : List Node} {st : PSt} {y : Node} {st' : PSt} (h : dQ P g f t ks st = some (y, st')) (hk : dR st 2 [] = some true) : ks.length < y.kids.length := by
 cases f with
 | zero => cases h
 | succ f =>
  unfold dQ at h
  rw [hk, Option.bind_some, if_pos rfl] at h
  obtain ⟨r, e2, h⟩ := bE h
  split at h
  ·obtain ⟨q, e3, h⟩ := bE h
   obtain ⟨u, e4, h⟩ := bE h
   obtain ⟨w, e5, h⟩ := bE h
   have := uL f _ _ _ y st' h
   simp at this
   omega
  ·cases h
theorem aCy {P : PF} {g : Nat} (hP : SO Any P CU) (x : Node) : SO Any (iN P g x) (fun d y n => (y = x ∧ n = 0) ∨ ∃ zs, zs ≠ [] ∧ y = aH (zs.map Prod.fst).flatten (x :: zs.map Prod.snd) ∧ KZ d zs n) := fun st y st' hp he h0 => by
 unfold iN at he
 obtain ⟨c, e1, he⟩ := bE he
 cases c with
 | true =>
  rw [if_pos rfl] at he
  obtain ⟨a, b⟩ := aBd hP g [] [x] st y st' trivial he h0
  refine ⟨a, fun d m S => ?_⟩
  obtain ⟨n, m', e, S', zs, q1, q2⟩ := b d m S
  refine ⟨n, m', e, S', .inr ⟨zs, ?_, by simpa using q1, q2⟩⟩
  rintro rfl
  have := wM he e1
  rw [q1] at this
  simp [aH, Node.kids] at this
 | false =>
  rw [if_neg (by decide)] at he
  cases he
  exact ⟨h0, fun d m S => ⟨0, m, rfl, S, .inl ⟨rfl, rfl⟩⟩⟩
end Go.Dd

namespace Go.Dd
theorem bYi {α β : Type} {P : PSt → Prop} {F : PSt → Option (α × PSt)} {C : Nat → α → Nat → Prop} {E : α → Nat → β → Nat → Prop} (Q : α → PSt → Prop) (K : α → PSt → Option (β × PSt)) (h : SO P F C) (hq : ∀ st x s1, P st → F st = some (x, s1) → Q x s1) (k : ∀ x, SO (Q x) (K x) (E x)) : SO P (fun st => (F st).bind fun r => K r.1 r.2) (fun d y n => ∃ x a b, a + b = n ∧ C d x a ∧ E x d y b) := fun st y st' hp he h0 => by
 obtain ⟨⟨x, s1⟩, e1, e2⟩ := bE he
 obtain ⟨k1, k2⟩ := k x s1 y st' (hq st x s1 hp e1) e2 h0
 obtain ⟨a1, a2⟩ := h st x s1 hp e1 k1
 refine ⟨a1, fun d m S => ?_⟩
 obtain ⟨n, m', q1, q2, q3⟩ := a2 d m S
 obtain ⟨n2, m2, q4, q5, q6⟩ := k2 d m' q2
 exact ⟨n + n2, m2, by omega, q5, x, n, n2, rfl, q3, q6⟩
theorem SO.look {α : Type} {P : PSt → Prop} {C : Nat → α → Nat → Prop} (K : Tok → PSt → Option (α × PSt)) (h : ∀ t, SO (fun st => P st ∧ bB st 0 = some t) (K t) C) : SO P (fun st => (bB st 0).bind fun t => K t st) C := fun st y st' hp he h0 => by
 obtain ⟨t, e1, e2⟩ := bE he
 exact h t st y st' ⟨hp, e1⟩ e2 h0
theorem bWw {α : Type} {P : PSt → Prop} {F G : PSt → Option (α × PSt)} {C : Nat → α → Nat → Prop} (e : ∀ st, F st = G st) (h : SO P G C) : SO P F C := fun st y st' hp he h0 => h st y st' hp ((e st).symm.trans he) h0
theorem iM {t : Tok} {P : PSt → Prop} : SO (fun st => P st ∧ bB st 0 = some t) aU (fun d u n => u = t ∧ TKV t ∧ n = lF t) :=
 ((take_so (Q := fun u => u = t)).pre fun st h => ⟨t, h.2, rfl⟩).mono fun d u n _ _ h => by
   obtain ⟨rfl, b, c⟩ := h
   exact ⟨rfl, b, c⟩
theorem bYh : ∀ {l : List (List Nat)}, (∀ x ∈ l, AB x) → AB l.flatten
 | [], h => AB.nil
 | x :: l, h => by
  rw [List.flatten_cons]
  exact AB.app (h x (by simp)) (bYh fun y hy => h y (by simp [hy]))
def AC (d : Nat) (t : List Nat) (args : List Node) (n : Nat) : Prop := MsgOk d t args ∧ (aS t (qR args)).length + 2 ≤ n ∧ AB t ∧ t.length ≤ n ∧ args.length ≤ n ∧ ∀ a ∈ args, Sk a ∧ By a
theorem bIe {P : PF} {g : Nat} (hP : SO Any P CU) : SO Any (oU P g) (fun d y n => ∃ t args, gA y = aH t args ∧ AC d t args n) := by
 unfold oU
 refine SO.look (fun t st => if t.kind = 1 then (aU st).bind fun r => some (aH t.text [zN], r.2)
  else if t.kind = 3 then (aU st).bind fun r => (P r.2).bind fun q => (bX g q.1 q.2).bind fun u => some (aH t.text [zN, u.1], u.2)
  else if t.kind = 2 then iN P g zN st
  else some (zN, cP st t 13)) fun t => ?_
 by_cases h1 : t.kind = 1
 ·refine bWw (fun st => if_pos h1) ((bVu (fun (r : Tok) st => some (aH t.text [zN], st)) (iM (t := t) (P := Any)) fun r => SO.ret _).mono ?_)
  rintro d y n hd hn ⟨r, a, b, rfl, ⟨rfl, hv, rfl⟩, rfl, rfl⟩
  obtain ⟨k1, k2, k3, k4, k5⟩ := tkv hv h1 (by decide) (by decide)
  exact ⟨r.text, [], lP _ _ _, .inl ⟨k1, rfl⟩, by rw [aZo k1]; omega, k4, by omega, Nat.zero_le _, fun a ha => by cases ha⟩
 by_cases h3 : t.kind = 3
 ·refine bWw (fun st => (if_neg h1).trans (if_pos h3)) ((bVu (fun (r : Tok) st => (P st).bind fun q => (bX g q.1 q.2).bind fun u => some (aH t.text [zN, u.1], u.2)) (iM (t := t) (P := Any)) fun r => bVu (fun q st => (bX g q st).bind fun u => some (aH t.text [zN, u.1], u.2)) hP fun q => bVu (fun u st => some (aH t.text [zN, u], st)) (oN g q) fun u => SO.ret _).mono ?_)
  rintro d y n hd hn ⟨r, a, b, rfl, ⟨rfl, hv, rfl⟩, q, a2, b2, rfl, hq, u, a3, b3, rfl, hu, rfl, rfl⟩
  obtain ⟨k1, k2, k3, k4, k5⟩ := tkv hv h3 (by decide) (by decide)
  obtain ⟨q1, q2, q3, q4⟩ := hu a2 hq
  refine ⟨r.text, [u], lP _ _ _, .inr (.inl ⟨k1, u, rfl, q1.u⟩), ?_, k4, by omega, by simp; omega, fun a ha => ?_⟩
  ·rw [bDp k1]
   simp only [List.length_append, List.length_cons]
   omega
  ·have : a = u := by simpa using ha
   rw [this]
   exact ⟨q3, q4⟩
 by_cases h2 : t.kind = 2
 ·refine bWw (fun st => (if_neg h1).trans ((if_neg h3).trans (if_pos h2))) ((SO.pick ((aCy (g := g) hP zN).pre (P' := fun st => Any st ∧ bB st 0 = some t) fun _ _ => trivial) (D := fun d y n => ∃ zs, zs ≠ [] ∧ y = aH (zs.map Prod.fst).flatten (zN :: zs.map Prod.snd) ∧ KZ d zs n) ?_).mono ?_)
  ·intro st y st' hp he h0 d n hc
   rcases hc with ⟨rfl, _⟩ | hc
   ·exfalso
    unfold iN at he
    obtain ⟨c, e1, he⟩ := bE he
    cases c with
    | true =>
     rw [if_pos rfl] at he
     have := wM he e1
     simp [zN, Node.kids] at this
    | false =>
     rw [if_neg (by decide)] at he
     cases he
     exact vN e1 h0 ⟨t, hp.2, h2, fun h => absurd rfl h⟩
   ·exact hc
  ·rintro d y n hd hn ⟨zs, hne, rfl, hz1, hz2, hz3, hz4⟩
   refine ⟨_, _, lP _ _ _, .inr (.inr ⟨zs, hne, rfl, rfl, fun z hz => (hz1 z hz).1⟩), ?_, ?_, hz4, by simpa using hz3, fun a ha => ?_⟩
   ·have := congrArg List.length (aYl (fun z hz => (hz1 z hz).1.1) hne)
    simp only [List.length_cons] at this
    have : 1 ≤ zs.length := by
     cases zs with
     | nil => exact absurd rfl hne
     | cons a b => simp
    omega
   ·exact bYh fun p hp => by
     obtain ⟨z, hz, rfl⟩ := List.mem_map.1 hp
     exact (hz1 z hz).2.1
   ·obtain ⟨z, hz, rfl⟩ := List.mem_map.1 ha
    exact (hz1 z hz).2.2
 ·exact bWw (fun st => (if_neg h1).trans ((if_neg h3).trans (if_neg h2))) (bXv (by decide) _)
def MZ (d : Nat) (ms : List (List Nat × List Node)) (n : Nat) : Prop := (∀ m ∈ ms, MsgOk d m.1 m.2 ∧ AB m.1 ∧ m.1.length ≤ 100000 ∧ m.2.length ≤ 100000 ∧ ∀ a ∈ m.2, Sk a ∧ By a) ∧ (FQ (ms.map fun m => (aH m.1 m.2, aS m.1 (qR m.2)))).length ≤ n ∧ ms.length ≤ n
theorem aOz {P : PF} {g : Nat} (hP : SO Any P CU) : ∀ (f : Nat) (ks : List Node), SO Any (jW P g f ks) (fun d y n => ∃ ms, y = .mk 8 [] 0 [] [] (ks ++ ms.map fun m => aH m.1 m.2) ∧ MZ d ms n)
 | 0, ks => fun st y st' _ h => by cases h
 | f + 1, ks => by
  show SO Any (fun st => (dR st 10 [59]).bind fun c => if c then (aU st).bind fun r => (oU P g r.2).bind fun q => jW P g f (ks ++ [gA q.1]) q.2 else some (.mk 8 [] 0 [] [] ks, st)) _
  refine bXg ((bVu (fun (t : Tok) st => (oU P g st).bind fun q => jW P g f (ks ++ [gA q.1]) q.2) dV (fun t => bVu (fun q st => jW P g f (ks ++ [gA q]) st) (bIe hP) fun q => aOz hP f (ks ++ [gA q]))).mono ?_) ((SO.ret _).mono ?_)
  ·rintro d y n hd hn ⟨t, a, b, rfl, ⟨⟨hk, _⟩, hv, rfl⟩, q, a2, b2, rfl, ⟨t2, args, e2, m1, m2, m3, m4, m5, m6⟩, ms, rfl, z1, z2, z3⟩
   obtain ⟨k1, k2, k3, k4, k5⟩ := tkv hv hk (by decide) (by decide)
   refine ⟨(t2, args) :: ms, by simp [e2], fun m hm => ?_, ?_, ?_⟩
   ·rcases List.mem_cons.1 hm with rfl | hm
    ·exact ⟨m1, m3, by show t2.length ≤ _; omega, by show args.length ≤ _; omega, m6⟩
    ·exact z1 m hm
   ·show (59 :: 32 :: (aS t2 (qR args) ++ FQ _)).length ≤ _
    simp only [List.length_cons, List.length_append]
    omega
   ·simp only [List.length_cons]
    omega
  ·rintro d y n hd hn ⟨rfl, rfl⟩
   exact ⟨[], by simp, fun m hm => (by cases hm), Nat.le_refl _, Nat.le_refl _⟩
theorem wB {P : PF} {g : Nat} : ∀ (f : Nat) (ks : List Node) (st : PSt) (y : Node) (st' : PSt), jW P g f ks st = some (y, st') → ks.length ≤ y.kids.length
 | 0, ks, st, y, st', h => by cases h
 | f + 1, ks, st, y, st', h => by
  unfold jW at h
  obtain ⟨c, e1, h⟩ := bE h
  cases c with
  | true =>
   rw [if_pos rfl] at h
   obtain ⟨r, e2, h⟩ := bE h
   obtain ⟨q, e3, h⟩ := bE h
   have := wB f _ _ y st' h
   simp at this
   omega
  | false =>
   rw [if_neg (by decide)] at h
   cases h
   exact Nat.le_refl _
theorem aNp {P : PF} {g f : Nat} {ks : List Node} {st : PSt} {y : Node} {st' : PSt} (h : jW P g f ks st = some (y, st')) (hk : dR st 10 [59] = some true) : ks.length < y.kids.length := by
 cases f with
 | zero => cases h
 | succ f =>
  unfold jW at h
  rw [hk, Option.bind_some, if_pos rfl] at h
  obtain ⟨r, e2, h⟩ := bE h
  obtain ⟨q, e3, h⟩ := bE h
  have := wB f _ _ y st' h
  simp at this
  omega
theorem aYz {d : Nat} {w : Node} {a n : Nat} {zs : List (List Nat × Node)} (hw : CB d w a) (hne : zs ≠ []) (hz : KZ d zs n) (hn : a + n ≤ 100000) : CE d (aH (zs.map Prod.fst).flatten (w :: zs.map Prod.snd)) (a + n) := by
 obtain ⟨z1, z2, z3, z4⟩ := hz
 obtain ⟨w1, w2, w3, w4⟩ := hw
 obtain ⟨g1, g2, _⟩ := GG.keys w1 hne fun z h => (z1 z h).1
 refine ⟨g1, ?_, rD (by omega) (by simp; omega) fun x hx => ?_, rF (bYh fun p hp => ?_) fun x hx => ?_⟩
 ·rw [g2, List.length_append]
  omega
 ·rcases List.mem_cons.1 hx with rfl | hx
  ·exact w3
  ·obtain ⟨z, hz, rfl⟩ := List.mem_map.1 hx
   exact (z1 z hz).2.2.1
 ·obtain ⟨z, hz, rfl⟩ := List.mem_map.1 hp
  exact (z1 z hz).2.1
 ·rcases List.mem_cons.1 hx with rfl | hx
  ·exact w4
  ·obtain ⟨z, hz, rfl⟩ := List.mem_map.1 hx
   exact (z1 z hz).2.2.2
theorem bOe {f : Nat} (hP : SO Any (PP f) CU) : SO Any (FK f) CE := by
 have := bVu (fun w st => iN (PP f) f w st) (aHb (g := f) hP) fun w => aCy (g := f) hP w
 refine bWw (fun st => ?_) (this.mono ?_)
 ·unfold FK FB FU
  simp only [Option.bind_assoc]
 ·rintro d y n hd hn ⟨w, a, b, rfl, hw, ⟨rfl, rfl⟩ | ⟨zs, hne, rfl, hz⟩⟩
  ·exact hw.ce
  ·exact aYz hw hne hz hn
theorem uO {f : Nat} (hP : SO Any (PP f) CU) : SO Any (gU (PP f) f) CE := by
 refine bWw (nG f) ?_
 refine SO.mono (bVu (fun (x : Node) st => (dR st 10 [59]).bind fun c => if c then
  if x.kind = 7 then (x.kids[0]?).bind fun k0 => jW (PP f) f f [k0, gA x] st
  else (bB st 0).bind fun t => some (x, cP st t 13)
  else some (x, st)) (E := fun x d y n => ∀ a, a + n ≤ 100000 → CE d x a → CE d y (a + n)) (bOe hP) fun x => ?_) ?_
 ·refine bXg ?_ ((SO.ret x).mono ?_)
  ·by_cases h7 : x.kind = 7
   ·refine bWw (fun st => if_pos h7) ?_
    intro st y st' hp he h0
    obtain ⟨k0, e1, e2⟩ := bE he
    obtain ⟨q1, q2⟩ := aOz hP f [k0, gA x] st y st' trivial e2 h0
    have hi : dR st 10 [59] = some true := by
     obtain ⟨t, t1, t2, t3⟩ := hp.2
     unfold dR
     rw [t1, Option.bind_some, q1, t2, t3 (by decide)]
     simp
    have hgrow := aNp e2 hi
    refine ⟨q1, fun d m S => ?_⟩
    obtain ⟨n, m', q3, q4, ms, rfl, z1, z2, z3⟩ := q2 d m S
    refine ⟨n, m', q3, q4, fun a ha ⟨x1, x2, x3, x4⟩ => ?_⟩
    obtain ⟨t, k1, args, rfl, s2, s3, s4⟩ := x1.s h7
    have ek : k1 = k0 := by simpa [aJ, aH, Node.kids] using e1
    subst ek
    have hne : ms ≠ [] := by
     rintro rfl
     simp [Node.kids] at hgrow
    obtain ⟨g1, g2⟩ := GG.cascade (ms := ms) s2 s3 s4 (fun m hm => (z1 m hm).1) hne
    obtain ⟨b1, _, _, b4, b5, b6⟩ := x3
    obtain ⟨c1, _, _, c4, c5⟩ := x4
    have e3 : [k1, gA (aH t (k1 :: args))] ++ ms.map (fun m => aH m.1 m.2) = k1 :: aH t args :: ms.map fun m => aH m.1 m.2 := by rw [lP]; rfl
    rw [e3]
    refine ⟨g1, by rw [g2, List.length_append]; omega, ⟨by simp, by omega, by omega, ?_, b5, ?_⟩, ⟨AB.nil, fun x hx => (by cases hx), fun x hx => (by cases hx), c4, ?_⟩⟩
    ·simp only [List.length_cons, List.length_map]
     unfold bV
     omega
    ·refine ⟨⟨b1, by omega, by omega, ?_, b6⟩, pY fun x hx => ?_⟩
     ·simp only [List.length_cons] at b4
      omega
     ·obtain ⟨m, hm, rfl⟩ := List.mem_map.1 hx
      obtain ⟨_, m2, m3, m4, m5⟩ := z1 m hm
      exact rD m3 (by omega) fun a ha => (m5 a ha).1
    ·refine ⟨⟨c1, fun x hx => (by cases hx), fun x hx => (by cases hx), c5⟩, pQ fun x hx => ?_⟩
     obtain ⟨m, hm, rfl⟩ := List.mem_map.1 hx
     obtain ⟨_, m2, m3, m4, m5⟩ := z1 m hm
     exact rF m2 fun a ha => (m5 a ha).2
   ·refine bWw (fun st => if_neg h7) ?_
    refine SO.look (fun t st => some (x, cP st t 13)) fun t => bXv (by decide) x
  ·rintro d y n hd hn ⟨rfl, rfl⟩ a _ h
   exact h
 ·rintro d y n hd hn ⟨x, a, b, rfl, hx, H⟩
  exact H a hn hx
end Go.Dd

namespace Go.Dd
theorem vS {st s1 : PSt} {t t2 : Tok} (h : aU st = some (t, s1)) (h0 : t.kind ≠ 0) (h1 : bB st 1 = some t2) : bB s1 0 = some t2 := by
 unfold aU at h
 obtain ⟨u, e1, h⟩ := bE h
 by_cases hk : u.kind = 0
 ·rw [if_pos hk] at h
  cases h
  exact absurd hk h0
 ·rw [if_neg hk] at h
  by_cases h2 : 2 ≤ st.toks.length
  ·rw [if_pos h2] at h
   cases h
   unfold bB at h1 ⊢
   have e : min 1 (st.toks.length - 1) = 1 := by omega
   rw [e] at h1
   simpa using h1
  ·rw [if_neg h2] at h
   cases h
theorem sR {st s1 : PSt} {t : Tok} (h : aU st = some (t, s1)) : s1.err = st.err ∧ bB st 0 = some t := by
 unfold aU at h
 obtain ⟨u, e1, h⟩ := bE h
 split at h
 ·cases h
  exact ⟨rfl, e1⟩
 ·split at h
  ·cases h
   exact ⟨rfl, e1⟩
  ·cases h
def CL (x : Node) (n : Nat) : Prop := (∀ e, RdL e x (eX x)) ∧ nht x = 0 ∧ x.kind ≠ 7 ∧ (eX x).length + 2 ≤ n ∧ Sk x ∧ By x
theorem SO.err {α : Type} {P : PSt → Prop} {F : PSt → Option (α × PSt)} {x : α} {C : Nat → α → Nat → Prop} : SO (fun st => P st ∧ st.err ≠ 0) (fun st => some (x, st)) C := fun st y st' hp he h0 => by
 cases he
 exact absurd h0 hp.2
theorem SO.ok {α : Type} {P : PSt → Prop} {F G : PSt → Option (α × PSt)} {C : Nat → α → Nat → Prop} (h : SO (fun st => P st ∧ st.err = 0) F C) (g : SO (fun st => P st ∧ st.err ≠ 0) G C) : SO P (fun st => if st.err = 0 then F st else G st) C := fun st y st' hp he h0 => by
 by_cases h1 : st.err = 0
 ·have he : (if st.err = 0 then F st else G st) = some (y, st') := he
  rw [if_pos h1] at he
  exact h st y st' ⟨hp, h1⟩ he h0
 ·have he : (if st.err = 0 then F st else G st) = some (y, st') := he
  rw [if_neg h1] at he
  exact g st y st' ⟨hp, h1⟩ he h0
theorem plain_so : SO Any dY (fun d r n => (r.2 = true ∧ CL r.1 n) ∨ (r.2 = false ∧ n = 0)) := by
 unfold dY
 refine SO.look (fun t st => if st.err = 0 then (pG st).bind fun c =>
  if c then (aU st).bind fun r => (aU r.2).bind fun q => some ((Node.mk 1 [] (jV (0 - q.1.num)) [] [] [], true), q.2)
  else if t.kind = 4 then (aU st).bind fun r => some ((Node.mk 1 t.text t.num [] [] [], true), r.2)
  else if t.kind = 5 then (aU st).bind fun r => some ((Node.mk 2 t.text t.num [] [] [], true), r.2)
  else if t.kind = 6 then (aU st).bind fun r => some ((Node.mk 3 t.text t.num [] [] [], true), r.2)
  else some ((Node.mk 0 t.text t.num [] [] [], false), st)
  else some ((Node.mk 0 t.text t.num [] [] [], false), st)) fun t => ?_
 refine SO.ok ?_ (SO.err (F := dY))
 intro st y st' hp he h0
 obtain ⟨c, e1, he⟩ := bE he
 obtain ⟨⟨_, ht⟩, herr⟩ := hp
 cases c with
 | true =>
  have hn : ∃ t2, bB st 1 = some t2 ∧ t2.kind = 4 ∧ Hk 3 [45] st := by
   unfold pG at e1
   obtain ⟨t2, l1, e1⟩ := bE e1
   obtain ⟨c, l2, e1⟩ := bE e1
   obtain ⟨u, l3, e1⟩ := bE e1
   simp at e1
   refine ⟨t2, l1, e1.1.2, ?_⟩
   rw [e1.1.1] at l2
   exact (kI l2).2
  obtain ⟨t2, l1, l2, l3⟩ := hn
  have := bYi (P := fun s => Any s ∧ Hk 3 [45] s ∧ bB s 1 = some t2) (fun _ s => Any s ∧ bB s 0 = some t2) (fun (_ : Tok) s => (aU s).bind fun q => some (((Node.mk 1 [] (jV (0 - q.1.num)) [] [] [] : Node), true), q.2)) ((dV (P := Any) (k := 3) (x := [45])).pre fun s h => ⟨trivial, h.2.1⟩) (fun s x s1 h1 h2 => by
   obtain ⟨a, b, c⟩ := h1
   obtain ⟨u, u1, u2, _⟩ := b
   have := (sR h2).2
   rw [u1] at this
   cases this
   exact ⟨trivial, vS h2 (by omega) c⟩) (fun x => bVu (fun (q : Tok) s => some (((Node.mk 1 [] (jV (0 - q.num)) [] [] [] : Node), true), s)) iM fun q => SO.ret _)
  obtain ⟨q1, q2⟩ := this st y st' ⟨trivial, l3, l1⟩ he h0
  refine ⟨q1, fun d m S => ?_⟩
  obtain ⟨n, m', r1, r2, t1, a, b, rfl, ⟨⟨hk1, hx⟩, hv, rfl⟩, u, a2, b2, rfl, ⟨rfl, hv2, rfl⟩, rfl, rfl⟩ := q2 d m S
  refine ⟨_, m', r1, r2, .inl ⟨rfl, ?_⟩⟩
  obtain ⟨k1, k2, k3, k4, k5⟩ := tkv hv hk1 (by decide) (by decide)
  have k6 := hx (by decide)
  rw [k6] at k2
  have k7 : lF t1 = 3 := k2
  obtain ⟨_, hv2⟩ := hv2
  rcases hv2 with hv2 | ⟨_, _, k, hk, hle⟩ | hv2
  ·omega
  ·have hw : lF u = (dg k).length + 2 := by
    unfold lF
    rw [if_neg (by omega), if_pos l2, hk]
    rfl
   rw [hk, k7, hw]
   have hlen : (fK (jV (0 - (k : Int)))).length ≤ (dg k).length + 1 := by
    cases k with
    | zero => decide
    | succ k =>
     have e : jV (0 - ((k + 1 : Nat) : Int)) = -((k + 1 : Nat) : Int) := by
      unfold jV
      rw [gV _ (by omega) (by omega)]
      omega
     rw [e, aBs]
     simp
   have hr : -9223372036854775808 ≤ jV (0 - (k : Int)) ∧ jV (0 - (k : Int)) ≤ 9223372036854775807 := by
    unfold jV
    rw [gV _ (by omega) (by omega)]
    omega
   exact ⟨fun e => bNt hle, rfl, by show (1 : Int) ≠ 7; decide, by show (fK _).length + 2 ≤ _; omega, ⟨by simp, hr.1, hr.2, by unfold bV; simp, trivial⟩, ⟨AB.nil, fun x hx => (by cases hx), fun x hx => (by cases hx), trivial⟩⟩
  ·exact absurd l2 hv2.2.1
 | false =>
  rw [if_neg (by decide)] at he
  by_cases h4 : t.kind = 4
  ·rw [if_pos h4] at he
   have := bVu (fun (_ : Tok) s => some (((Node.mk 1 t.text t.num [] [] [] : Node), true), s)) (iM (t := t) (P := Any)) fun q => SO.ret _
   obtain ⟨q1, q2⟩ := this st y st' ⟨trivial, ht⟩ he h0
   refine ⟨q1, fun d m S => ?_⟩
   obtain ⟨n, m', r1, r2, t1, a, b, rfl, ⟨rfl, hv, rfl⟩, rfl, rfl⟩ := q2 d m S
   refine ⟨_, m', r1, r2, .inl ⟨rfl, ?_⟩⟩
   obtain ⟨_, hv2⟩ := hv
   rcases hv2 with hv2 | ⟨_, hx, k, hk, hle⟩ | hv2
   ·omega
   ·have hw : lF t1 = (dg k).length + 2 := by
     unfold lF
     rw [if_neg (by omega), if_pos h4, hk]
     rfl
    rw [hk, hw, hx]
    exact ⟨fun e => aVd hle, rfl, by show (1 : Int) ≠ 7; decide, Nat.le_refl _, ⟨by simp, by omega, by omega, by unfold bV; simp, trivial⟩, ⟨AB.nil, fun x hx => (by cases hx), fun x hx => (by cases hx), trivial⟩⟩
   ·exact absurd h4 hv2.2.1
  rw [if_neg h4] at he
  by_cases h5 : t.kind = 5
  ·rw [if_pos h5] at he
   have := bVu (fun (_ : Tok) s => some (((Node.mk 2 t.text t.num [] [] [] : Node), true), s)) (iM (t := t) (P := Any)) fun q => SO.ret _
   obtain ⟨q1, q2⟩ := this st y st' ⟨trivial, ht⟩ he h0
   refine ⟨q1, fun d m S => ?_⟩
   have hm := S.2.2.2.2.2
   obtain ⟨n, m', r1, r2, t1, a, b, rfl, ⟨rfl, hv, rfl⟩, rfl, rfl⟩ := q2 d m S
   refine ⟨_, m', r1, r2, .inl ⟨rfl, ?_⟩⟩
   obtain ⟨k1, k2, k3, k4, k5⟩ := tkv hv h5 (by decide) (by decide)
   rw [k3]
   exact ⟨fun e => bIw k1, rfl, by show (2 : Int) ≠ 7; decide, by rw [k2]; exact Nat.le_refl _, ⟨by omega, by omega, by omega, by unfold bV; simp, trivial⟩, ⟨k4, fun x hx => (by cases hx), fun x hx => (by cases hx), trivial⟩⟩
  rw [if_neg h5] at he
  by_cases h6 : t.kind = 6
  ·rw [if_pos h6] at he
   have := bVu (fun (_ : Tok) s => some (((Node.mk 3 t.text t.num [] [] [] : Node), true), s)) (iM (t := t) (P := Any)) fun q => SO.ret _
   obtain ⟨q1, q2⟩ := this st y st' ⟨trivial, ht⟩ he h0
   refine ⟨q1, fun d m S => ?_⟩
   have hm := S.2.2.2.2.2
   obtain ⟨n, m', r1, r2, t1, a, b, rfl, ⟨rfl, hv, rfl⟩, rfl, rfl⟩ := q2 d m S
   refine ⟨_, m', r1, r2, .inl ⟨rfl, ?_⟩⟩
   obtain ⟨k1, k2, k3, k4, k5⟩ := tkv hv h6 (by decide) (by decide)
   rw [k3]
   exact ⟨fun e => bMp k1, rfl, by show (3 : Int) ≠ 7; decide, by rw [k2]; exact Nat.le_refl _, ⟨by omega, by omega, by omega, by unfold bV; simp, trivial⟩, ⟨k4, fun x hx => (by cases hx), fun x hx => (by cases hx), trivial⟩⟩
  rw [if_neg h6] at he
  cases he
  exact ⟨h0, fun d m S => ⟨0, m, rfl, S, .inr ⟨rfl, rfl⟩⟩⟩
theorem mC {F : PF} {P : PSt → Prop} {k : Int} {tx : List Nat} {C : Nat → Node → Nat → Prop} (h : SO Any F C) : SO (fun st => P st ∧ Hk k tx st) (cT F) (fun d x n => d < 20 ∧ ∃ t a, (t.kind = k ∧ (tx ≠ [] → t.text = tx)) ∧ TKV t ∧ n = lF t + a ∧ C (d + 1) x a) := fun st y st' hp he h0 => by
 unfold cT at he
 obtain ⟨⟨t, s1⟩, e1, he⟩ := bE he
 by_cases h20 : s1.deep = 20
 ·have he : (if s1.deep = 20 then some (zN, cP s1 t 14) else _) = some (y, st') := he
  rw [if_pos h20] at he
  exfalso
  exact (bXv (P := Any) (C := fun _ _ _ => True) (t := t) (e := 14) (by decide) zN s1 y st' trivial he h0).2 |> fun _ => by
   cases he
   unfold cP at h0
   split at h0
   ·cases h0
   ·exact absurd h0 (by assumption)
 ·have he : (if s1.deep = 20 then some (zN, cP s1 t 14) else (F { s1 with deep := jV (s1.deep + 1) }).bind fun q => some (q.1, { q.2 with deep := jV (q.2.deep - 1) })) = some (y, st') := he
  rw [if_neg h20] at he
  obtain ⟨⟨x, s2⟩, e2, he⟩ := bE he
  cases he
  have h0 : s2.err = 0 := h0
  obtain ⟨a1, a2⟩ := h _ x s2 trivial e2 h0
  obtain ⟨b1, b2⟩ := dV (P := P) st t s1 hp e1 a1
  refine ⟨b1, fun d m S => ?_⟩
  obtain ⟨n, m', c1, ⟨c2, c3, c4, c5, c6, c7⟩, c8, c9, rfl⟩ := b2 d m S
  have hd : d < 20 := by
   apply Decidable.byContradiction
   intro hc
   have : d = 20 := by omega
   rw [c3, this] at h20
   exact h20 rfl
  have S2 : Sst { s1 with deep := jV (s1.deep + 1) } (d + 1) m' := ⟨c2, by show jV (s1.deep + 1) = _; rw [c3, bQm (by omega)], by omega, c5, c6, c7⟩
  obtain ⟨n2, m2, d1, ⟨d2, d3, d4, d5, d6, d7⟩, d8⟩ := a2 (d + 1) m' S2
  exact ⟨lF t + n2, m2, by omega, ⟨d2, by show jV (s2.deep - 1) = _; rw [d3, bPe (by omega)], by omega, d5, d6, d7⟩, hd, t, n2, c8, c9, rfl, d8⟩
end Go.Dd

namespace Go.Dd
def LZ (d : Nat) (es : List Node) (n : Nat) : Prop := (∀ x ∈ es, (∀ e, e ≤ d → RdA e x (eX x)) ∧ Sk x ∧ By x) ∧ cS (es.map eX) + 2 * es.length ≤ n
def CLs (d : Nat) (x : Node) (n : Nat) : Prop := ∃ es k, x = .mk 4 [] 0 [] [] es ∧ LZ d es k ∧ k + 3 = n
theorem aEz (es : List Node) : eX (.mk 4 [] 0 [] [] es) = 35 :: 40 :: (aF [32] (es.map eX) ++ [41]) := by
 show vF 4 [] 0 [] [] (pL es) = _
 unfold vF
 rw [aXi]
 rfl
theorem aOy {d : Nat} {es : List Node} {n : Nat} (hd : d < 20) (h : LZ (d + 1) es n) (hn : n ≤ 100000) : (∀ e, e ≤ d → RdA e (.mk 4 [] 0 [] [] es) (eX (.mk 4 [] 0 [] [] es))) ∧ (∀ e, e ≤ d → RdP e (.mk 4 [] 0 [] [] es) (eX (.mk 4 [] 0 [] [] es))) ∧ (eX (.mk 4 [] 0 [] [] es)).length ≤ n + 3 ∧ Sk (.mk 4 [] 0 [] [] es) ∧ By (.mk 4 [] 0 [] [] es) := by
 obtain ⟨h1, h2⟩ := h
 have e1 : (es.map fun x => (x, eX x)).map Prod.fst = es := by rw [List.map_map]; exact List.map_id es
 have e2 : (es.map fun x => (x, eX x)).map Prod.snd = es.map eX := by rw [List.map_map]; rfl
 have hk : ∀ e, e ≤ d → ∀ z ∈ (es.map fun x => (x, eX x)), RdA (e + 1) z.1 z.2 := fun e he z hz => by
  obtain ⟨x, hx, rfl⟩ := List.mem_map.1 hz
  exact (h1 x hx).1 (e + 1) (by omega)
 refine ⟨fun e he => ?_, fun e he => ?_, ?_, ?_, ?_⟩
 ·have := bCl (d := e) (by omega) (hk e he)
  rw [e1, e2, ← aEz] at this
  exact this
 ·have := bBc (d := e) (by omega) (hk e he)
  rw [e1, e2, ← aEz] at this
  exact this
 ·rw [aEz]
  have := kJ [32] (es.map eX)
  simp only [List.length_map, List.length_cons, List.length_nil, List.length_append] at this ⊢
  omega
 ·exact ⟨by simp, by omega, by omega, by unfold bV; omega, pY fun x hx => (h1 x hx).2.1⟩
 ·exact ⟨AB.nil, fun x hx => (by cases hx), fun x hx => (by cases hx), pQ fun x hx => (h1 x hx).2.2⟩
theorem LZ.cons {d : Nat} {x : Node} {es : List Node} {a n : Nat} (h : LZ d es n) (h1 : ∀ e, e ≤ d → RdA e x (eX x)) (h2 : (eX x).length + 2 ≤ a) (h3 : Sk x) (h4 : By x) : LZ d (x :: es) (a + n) := by
 obtain ⟨q1, q2⟩ := h
 refine ⟨fun y hy => ?_, ?_⟩
 ·rcases List.mem_cons.1 hy with rfl | hy
  ·exact ⟨h1, h3, h4⟩
  ·exact q1 y hy
 ·show cS (eX x :: es.map eX) + 2 * (es.length + 1) ≤ _
  have : cS (eX x :: es.map eX) = (eX x).length + cS (es.map eX) := by simp [cS]
  omega
theorem oR {t : Tok} {c : Nat} (hv : TKV t) (h : t.kind = 10) (hx : t.text = [c]) : lF t = 3 := by
 obtain ⟨_, h2, _⟩ := tkv hv h (by decide) (by decide)
 rw [h2, hx]
 rfl
theorem rL {LI : PF} (hL : SO Any LI CLs) : ∀ (f : Nat) (xs : List Node), SO Any (dH LI f xs) (fun d ys n => ∃ es, ys = xs ++ es ∧ LZ d es n)
 | 0, xs => fun st y st' _ h => by cases h
 | f + 1, xs => by
  show SO Any (fun st => if st.err = 0 then (dR st 10 [41]).bind fun c => if c then some (xs, st) else
   (dY st).bind fun r => if r.1.2 then dH LI f (xs ++ [r.1.1]) r.2 else
    (dR r.2 7 []).bind fun c1 => (if c1 then some true else dR r.2 10 [40]).bind fun c2 =>
     if c2 then (cT LI r.2).bind fun q => dH LI f (xs ++ [q.1]) q.2 else (bB r.2 0).bind fun t => dH LI f (xs ++ [r.1.1]) (cP r.2 t 13)
   else some (xs, st)) _
  refine SO.ok (bXg ((SO.ret xs).mono ?_) (SO.mono (bVu (fun (r : Node × Bool) st => if r.2 then dH LI f (xs ++ [r.1]) st else
   (dR st 7 []).bind fun c1 => (if c1 then some true else dR st 10 [40]).bind fun c2 =>
    if c2 then (cT LI st).bind fun q => dH LI f (xs ++ [q.1]) q.2 else (bB st 0).bind fun t => dH LI f (xs ++ [r.1]) (cP st t 13)) (E := fun r d ys n => (r.2 = true ∧ ∃ es, ys = xs ++ [r.1] ++ es ∧ LZ d es n) ∨ (r.2 = false ∧ ∃ es, ys = xs ++ es ∧ LZ d es n)) (plain_so.pre fun _ _ => trivial) fun r => ?_) ?_)) (SO.err (F := dH LI f xs))
  ·rintro d y n hd hn ⟨rfl, rfl⟩
   exact ⟨[], by simp, fun x hx => (by cases hx), Nat.le_refl _⟩
  ·obtain ⟨x, b⟩ := r
   cases b with
   | true =>
    refine SO.mono (rL hL f (xs ++ [x])) fun d y n hd hn h => .inl ⟨rfl, h⟩
   | false =>
    have key : ∀ (k : Int) (tx : List Nat), (k = 7 ∧ tx = [] ∨ k = 10 ∧ tx = [40]) → SO (fun s => Any s ∧ Hk k tx s) (fun st => (cT LI st).bind fun q => dH LI f (xs ++ [q.1]) q.2) (fun d ys n => ∃ es, ys = xs ++ es ∧ LZ d es n) := fun k tx hk => by
     refine SO.mono (bVu (fun q st => dH LI f (xs ++ [q]) st) (mC hL) fun q => rL hL f (xs ++ [q])) ?_
     rintro d y n hd hn ⟨q, a, b, rfl, ⟨h20, t, a2, ⟨ht, htx⟩, hv, rfl, es, m, rfl, hz, rfl⟩, es2, rfl, hz2⟩
     have hw : 3 ≤ lF t := by
      rcases hk with ⟨rfl, rfl⟩ | ⟨rfl, rfl⟩
      ·obtain ⟨k1, k2, _⟩ := tkv hv ht (by decide) (by decide)
       have : (bG 7 t.text).length = 2 := rfl
       omega
      ·rw [oR hv ht (htx (by decide))]
       exact Nat.le_refl _
     obtain ⟨p1, p2, p3, p4, p5⟩ := aOy h20 hz (by omega)
     exact ⟨_ :: es2, by simp, hz2.cons p1 (by omega) p4 p5⟩
    refine SO.mono (C := fun d ys n => ∃ es, ys = xs ++ es ∧ LZ d es n) ?_ fun d y n hd hn h => .inr ⟨rfl, h⟩
    intro st y st' hp he h0
    obtain ⟨c1, e1, he⟩ := bE he
    cases c1 with
    | true =>
     rw [if_pos rfl, Option.bind_some, if_pos rfl] at he
     exact key 7 [] (.inl ⟨rfl, rfl⟩) st y st' ⟨trivial, (kI e1).2⟩ he h0
    | false =>
     rw [if_neg (by decide)] at he
     obtain ⟨c2, e2, h2⟩ := bE he
     cases c2 with
     | true =>
      rw [if_pos rfl] at h2
      exact key 10 [40] (.inr ⟨rfl, rfl⟩) st y st' ⟨trivial, (kI e2).2⟩ h2 h0
     | false =>
      rw [if_neg (by decide)] at h2
      obtain ⟨t, _, h3⟩ := bE h2
      have := (rL hL f _ _ y st' trivial h3 h0).1
      exfalso
      unfold cP at this
      split at this
      ·cases this
      ·exact absurd this (by assumption)
  ·rintro d y n hd hn ⟨r, a, b, rfl, h1, h2⟩
   rcases h2 with ⟨hr, es, rfl, hz⟩ | ⟨hr, es, rfl, hz⟩
   ·rcases h1 with ⟨_, c1, c2, c3, c4, c5, c6⟩ | ⟨h1, _⟩
    ·exact ⟨r.1 :: es, by simp, hz.cons (fun e _ => (c1 e).a) c4 c5 c6⟩
    ·rw [hr] at h1; cases h1
   ·rcases h1 with ⟨h1, _⟩ | ⟨_, rfl⟩
    ·rw [hr] at h1; cases h1
    ·exact ⟨es, rfl, by rw [Nat.zero_add]; exact hz⟩
theorem oQ {LI : PF} : ∀ (f : Nat) (xs : List Node) (st : PSt) (ys : List Node) (st' : PSt), dH LI f xs st = some (ys, st') → st'.err = 0 → Hk 10 [41] st'
 | 0, xs, st, ys, st', h, h0 => by cases h
 | f + 1, xs, st, ys, st', h, h0 => by
  unfold dH at h
  by_cases he : st.err = 0
  ·rw [if_pos he] at h
   obtain ⟨c, e1, h⟩ := bE h
   cases c with
   | true =>
    rw [if_pos rfl] at h
    cases h
    exact (kI e1).2
   | false =>
    rw [if_neg (by decide)] at h
    obtain ⟨r, e2, h⟩ := bE h
    split at h
    ·exact oQ f _ _ _ _ h h0
    ·obtain ⟨c1, e3, h⟩ := bE h
     obtain ⟨c2, e4, h⟩ := bE h
     split at h
     ·obtain ⟨q, e5, h⟩ := bE h
      exact oQ f _ _ _ _ h h0
     ·obtain ⟨t, e5, h⟩ := bE h
      exact oQ f _ _ _ _ h h0
  ·rw [if_neg he] at h
   cases h
   exact absurd h0 he
theorem aLn : ∀ f, SO Any (nQ f) CLs
 | 0 => fun st y st' _ h => by cases h
 | f + 1 => by
  show SO Any (fun st => (dH (nQ f) f [] st).bind fun r => (aU r.2).bind fun q => some (Node.mk 4 [] 0 [] [] r.1, q.2)) _
  intro st y st' hp he h0
  obtain ⟨⟨ys, s1⟩, e1, he⟩ := bE he
  obtain ⟨⟨t, s2⟩, e2, he⟩ := bE he
  cases he
  have h1 : s1.err = 0 := by rw [← (sR e2).1]; exact h0
  obtain ⟨a1, a2⟩ := rL (aLn f) f [] st ys s1 trivial e1 h1
  obtain ⟨b1, b2⟩ := dV (P := Any) s1 t s2 ⟨trivial, oQ f [] st ys s1 e1 h1⟩ e2 h0
  refine ⟨a1, fun d m S => ?_⟩
  obtain ⟨n, m', c1, c2, es, rfl, c3⟩ := a2 d m S
  obtain ⟨n2, m2, d1, d2, ⟨d3, d4⟩, d5, rfl⟩ := b2 d m' c2
  exact ⟨n + lF t, m2, by omega, d2, ys, n, rfl, c3, by rw [oR d5 d3 (d4 (by decide))]⟩
end Go.Dd

namespace Go.Dd
def hdB (ts : List (List Nat)) : List Nat := if ts.length = 0 then [] else 124 :: 32 :: (aF [32] ts ++ [32, 124, 32])
theorem aHr (ts kids : List (List Nat)) : aQ ts kids = hdB ts ++ aF [46, 32] kids := rfl
def TZ (ts : List (List Nat)) : Prop := ∀ t ∈ ts, TV 1 t ∧ AB t
theorem nN (t : List Nat) (l : List (List Nat)) : cS (t :: l) = t.length + cS l := by simp [cS]
theorem wD : ∀ (f : Nat) (l : List (List Nat)), SO Any (fS f l) (fun d ys n => ∃ ts, ys = l ++ ts ∧ TZ ts ∧ cS ts + 2 * ts.length + 3 ≤ n)
 | 0, l => fun st y st' _ h => by cases h
 | f + 1, l => by
  show SO Any (fun st => (dR st 1 []).bind fun c => if c then (aU st).bind fun r => fS f (l ++ [r.1.text]) r.2 else (cJ st 10 [124]).bind fun r => some (l, r.2)) _
  refine bXg ((bVu (fun (t : Tok) st => fS f (l ++ [t.text]) st) dV (fun t => wD f (l ++ [t.text]))).mono ?_) ((bVu (fun (_ : Tok) st => some (l, st)) (mH 10 [124]) fun _ => SO.ret l).mono ?_)
  ·rintro d y n hd hn ⟨t, a, b, rfl, ⟨⟨hk, _⟩, hv, rfl⟩, ts, rfl, h1, h2⟩
   obtain ⟨k1, k2, k3, k4, k5⟩ := tkv hv hk (by decide) (by decide)
   refine ⟨t.text :: ts, by simp, fun x hx => ?_, ?_⟩
   ·rcases List.mem_cons.1 hx with rfl | hx
    ·exact ⟨k1, k4⟩
    ·exact h1 x hx
   ·rw [nN, List.length_cons]
    omega
  ·rintro d y n hd hn ⟨t, a, b, rfl, ⟨⟨hk, hx⟩, hv, rfl⟩, rfl, rfl⟩
   refine ⟨[], by simp, fun x hx => (by cases hx), ?_⟩
   rw [oR hv hk (hx (by decide))]
   exact Nat.le_refl _
theorem aCz (f : Nat) : SO Any (fT f) (fun d ts n => TZ ts ∧ (hdB ts).length ≤ n) := by
 show SO Any (fun st => (dR st 10 [124]).bind fun c => if c then (aU st).bind fun r => fS f [] r.2 else some ([], st)) _
 refine bXg ((bVu (fun (_ : Tok) st => fS f [] st) dV (fun t => wD f [])).mono ?_) ((SO.ret _).mono ?_)
 ·rintro d y n hd hn ⟨t, a, b, rfl, ⟨⟨hk, hx⟩, hv, rfl⟩, ts, rfl, h1, h2⟩
  refine ⟨h1, ?_⟩
  have := oR hv hk (hx (by decide))
  have := kJ [32] y
  show (hdB y).length ≤ _
  unfold hdB
  split
  ·simp
  ·simp only [List.length_cons, List.length_append, List.length_nil] at this ⊢
   omega
 ·rintro d y n hd hn ⟨rfl, rfl⟩
  exact ⟨fun x hx => (by cases hx), Nat.le_refl _⟩
theorem wQ : ∀ (f : Nat) (l : List (List Nat)), SO Any (fC f l) (fun d ys n => ∃ ns, ys = l ++ ns ∧ (∀ t ∈ ns, TV 8 t ∧ AB t) ∧ (bF ns).length + ns.length ≤ n ∧ (l.length ≤ 4 → l.length + ns.length ≤ 4))
 | 0, l => fun st y st' _ h => by cases h
 | f + 1, l => by
  show SO Any (fun st => (dR st 8 []).bind fun c => if c then (jM st 8 l.length).bind fun r => fC f (l ++ [r.1]) r.2 else some (l, st)) _
  refine bXg ?_ ((SO.ret l).mono ?_)
  ·intro st y st' hp he h0
   obtain ⟨r, e1, he⟩ := bE he
   unfold jM at e1
   obtain ⟨⟨t, s1⟩, e2, e1⟩ := bE e1
   have := wQ f (l ++ [r.1])
   obtain ⟨a1, a2⟩ := this r.2 y st' trivial he h0
   by_cases h4 : l.length = 4
   ·rw [if_pos h4] at e1
    cases e1
    exfalso
    have a1 : (cP s1 t 18).err = 0 := a1
    unfold cP at a1
    split at a1
    ·cases a1
    ·exact absurd a1 (by assumption)
   ·rw [if_neg h4] at e1
    cases e1
    obtain ⟨b1, b2⟩ := mH (P := Any) 8 [] st t s1 trivial e2 a1
    refine ⟨b1, fun d m S => ?_⟩
    obtain ⟨n, m', c1, c2, ⟨c3, _⟩, c4, rfl⟩ := b2 d m S
    obtain ⟨n2, m2, d1, d2, ns, rfl, d3, d4, d5⟩ := a2 d m' c2
    obtain ⟨k1, k2, k3, k4, k5⟩ := tkv c4 c3 (by decide) (by decide)
    refine ⟨lF t + n2, m2, by omega, d2, t.text :: ns, by simp, fun x hx => ?_, ?_, fun hl => ?_⟩
    ·rcases List.mem_cons.1 hx with rfl | hx
     ·exact ⟨k1, k4⟩
     ·exact d3 x hx
    ·rw [k2, aSp]
     show (58 :: (t.text ++ 32 :: bF ns)).length + (ns.length + 1) ≤ _
     simp only [List.length_cons, List.length_append]
     omega
    ·have := d5 (by simp; omega)
     simp only [laE, lcE, lnE] at this ⊢
     omega
  ·rintro d y n hd hn ⟨rfl, rfl⟩
   exact ⟨[], by simp, fun x hx => (by cases hx), Nat.le_refl _, fun h => by simpa using h⟩
def SZ (d : Nat) (l : List (Node × List Nat)) (n : Nat) : Prop := (∀ e, e ≤ d → SOk e l) ∧ (∀ z ∈ l, z.2 = eX z.1 ∧ Sk z.1 ∧ By z.1) ∧ cS (l.map Prod.snd) + 2 * l.length ≤ n
theorem SZ.nil {d : Nat} : SZ d [] 0 := ⟨fun e _ => .nil, fun z hz => (by cases hz), Nat.le_refl _⟩
theorem SZ.cons {d : Nat} {x : Node} {a n : Nat} {l : List (Node × List Nat)} (h : SZ d l n) (hx : CE d x a) : SZ d ((x, eX x) :: l) (a + n) := by
 obtain ⟨h1, h2, h3⟩ := h
 obtain ⟨x1, x2, x3, x4⟩ := hx
 refine ⟨fun e he => .cons _ _ _ (x1.e e he) (h1 e he), fun z hz => ?_, ?_⟩
 ·rcases List.mem_cons.1 hz with rfl | hz
  ·exact ⟨rfl, x3, x4⟩
  ·exact h2 z hz
 ·rw [List.map_cons, nN, List.length_cons]
  show (eX x).length + _ + _ ≤ _
  omega
theorem SZ.ret {d : Nat} {x : Node} {a : Nat} (hx : CE d x a) : SZ d [(.mk 10 [] 0 [] [] [x], 94 :: eX x)] (3 + a) := by
 obtain ⟨x1, x2, x3, x4⟩ := hx
 refine ⟨fun e he => .ret _ _ (x1.e e he), fun z hz => ?_, ?_⟩
 ·have : z = (.mk 10 [] 0 [] [] [x], 94 :: eX x) := by simpa using hz
  subst this
  exact ⟨rfl, ⟨by simp, by omega, by omega, by unfold bV; simp, x3, trivial⟩, ⟨AB.nil, fun x hx => (by cases hx), fun x hx => (by cases hx), x4, trivial⟩⟩
 ·show cS [94 :: eX x] + 2 * 1 ≤ _
  rw [nN]
  simp [cS]
  omega
theorem SZ.more {d : Nat} {l : List (Node × List Nat)} {n m : Nat} (h : SZ d l n) (hm : n ≤ m) : SZ d l m := ⟨h.1, h.2.1, by have := h.2.2; omega⟩
theorem uX {E : PF} (hE : SO Any E CE) : ∀ (f : Nat) (xs : List Node), SO Any (cY E f xs) (fun d ys n => ∃ l : List (Node × List Nat), ys = xs ++ l.map Prod.fst ∧ SZ d l n)
 | 0, xs => fun st y st' _ h => by cases h
 | f + 1, xs => by
  show SO Any (fun st => if st.err = 0 then (dR st 0 []).bind fun c => if c then some (xs, st) else (dR st 10 [93]).bind fun c => if c then some (xs, st) else
   (dR st 10 [94]).bind fun c =>
    if c then (aU st).bind fun r => (E r.2).bind fun q => (dR q.2 10 [46]).bind fun d => if d then (aU q.2).bind fun u => some (xs ++ [Node.mk 10 [] 0 [] [] [q.1]], u.2) else some (xs ++ [Node.mk 10 [] 0 [] [] [q.1]], q.2)
    else (E st).bind fun q => (dR q.2 10 [46]).bind fun d => if d then (aU q.2).bind fun u => cY E f (xs ++ [q.1]) u.2 else some (xs ++ [q.1], q.2)
   else some (xs, st)) _
  have r0 : ∀ {P : PSt → Prop}, SO P (fun st => some (xs, st)) (fun d ys n => ∃ l : List (Node × List Nat), ys = xs ++ l.map Prod.fst ∧ SZ d l n) := (SO.ret xs).mono fun d y n hd hn h => by
   obtain ⟨rfl, rfl⟩ := h
   exact ⟨[], by simp, SZ.nil⟩
  refine SO.ok (bXg r0 (bXg r0 (bXg ?_ ?_))) (SO.err (F := cY E f xs))
  ·refine (bVu (fun (_ : Tok) st => (E st).bind fun q => (dR q.2 10 [46]).bind fun d => if d then (aU q.2).bind fun u => some (xs ++ [Node.mk 10 [] 0 [] [] [q.1]], u.2) else some (xs ++ [Node.mk 10 [] 0 [] [] [q.1]], q.2)) dV fun t => bVu (fun q st => (dR st 10 [46]).bind fun d => if d then (aU st).bind fun u => some (xs ++ [Node.mk 10 [] 0 [] [] [q]], u.2) else some (xs ++ [Node.mk 10 [] 0 [] [] [q]], st)) hE fun q => bXg (C := fun d ys n => ys = xs ++ [Node.mk 10 [] 0 [] [] [q]]) ((bVu (fun (_ : Tok) st => some (xs ++ [Node.mk 10 [] 0 [] [] [q]], st)) dV fun _ => SO.ret _).mono ?_) ((SO.ret _).mono ?_)).mono ?_
   ·rintro d y n hd hn ⟨t, a, b, rfl, _, rfl, rfl⟩
    rfl
   ·rintro d y n hd hn ⟨rfl, rfl⟩
    rfl
   ·rintro d y n hd hn ⟨t, a, b, rfl, ⟨⟨hk, hx⟩, hv, rfl⟩, q, a2, b2, rfl, hq, rfl⟩
    have := oR hv hk (hx (by decide))
    exact ⟨[(.mk 10 [] 0 [] [] [q], 94 :: eX q)], by simp, (SZ.ret hq).more (by omega)⟩
  ·refine SO.mono (bVu (fun q st => (dR st 10 [46]).bind fun d => if d then (aU st).bind fun u => cY E f (xs ++ [q]) u.2 else some (xs ++ [q], st)) (hE.pre fun _ _ => trivial) fun q => bXg (C := fun d ys n => ∃ l : List (Node × List Nat), ys = xs ++ [q] ++ l.map Prod.fst ∧ SZ d l n) ((bVu (fun (_ : Tok) st => cY E f (xs ++ [q]) st) dV fun _ => uX hE f (xs ++ [q])).mono ?_) ((SO.ret _).mono ?_)) ?_
   ·rintro d y n hd hn ⟨t, a, b, rfl, _, l, rfl, h⟩
    exact ⟨l, rfl, h.more (by omega)⟩
   ·rintro d y n hd hn ⟨rfl, rfl⟩
    exact ⟨[], by simp, SZ.nil⟩
   ·rintro d y n hd hn ⟨q, a, b, rfl, hq, l, rfl, h⟩
    exact ⟨(q, eX q) :: l, by simp, h.cons hq⟩
end Go.Dd

namespace Go.Dd
theorem aDu (ns ts : List (List Nat)) (ks : List Node) : eX (.mk 9 [] 0 ns ts ks) = 91 :: ((if bF ns = [] then [] else bF ns ++ [124, 32]) ++ (aQ ts (ks.map eX) ++ [93])) := by
 show vF 9 [] 0 ns ts (pL ks) = _
 unfold vF
 rw [aXi]
 rfl
def CBl (d : Nat) (x : Node) (n : Nat) : Prop := ∃ ns ts l, x = .mk 9 [] 0 ns ts (l.map Prod.fst) ∧ (∀ t ∈ ns, TV 8 t ∧ AB t) ∧ ns.length ≤ 4 ∧ TZ ts ∧ (∃ k, SZ d l k ∧ (bF ns).length + ns.length + (hdB ts).length + k + 3 ≤ n)
theorem aSf {l : List (List Nat)} {st s1 : PSt} (h : bar l st = some s1) (h0 : s1.err = 0) : st.err = 0 ∧ ∀ d m, Sst st d m → ∃ n m', m' + n = m ∧ Sst s1 d m' := by
 unfold bar at h
 split at h
 ·obtain ⟨c, e1, h⟩ := bE h
  cases c with
  | true =>
   rw [if_pos rfl] at h
   cases h
   exact ⟨h0, fun d m S => ⟨0, m, rfl, S⟩⟩
  | false =>
   rw [if_neg (by decide)] at h
   obtain ⟨⟨t, s2⟩, e2, h⟩ := bE h
   cases h
   obtain ⟨a1, a2⟩ := mH (P := Any) 10 [124] st t s2 trivial e2 h0
   refine ⟨a1, fun d m S => ?_⟩
   obtain ⟨n, m', c1, c2, _⟩ := a2 d m S
   exact ⟨n, m', c1, c2⟩
 ·cases h
  exact ⟨h0, fun d m S => ⟨0, m, rfl, S⟩⟩
theorem aVm {E : PF} (hE : SO Any E CE) (f : Nat) : SO Any (jS E f) CBl := fun st y st' hp he h0 => by
 unfold jS at he
 obtain ⟨⟨ns, s1⟩, e1, he⟩ := bE he
 obtain ⟨s2, e2, he⟩ := bE he
 obtain ⟨⟨ts, s3⟩, e3, he⟩ := bE he
 obtain ⟨⟨ks, s4⟩, e4, he⟩ := bE he
 obtain ⟨⟨t, s5⟩, e5, he⟩ := bE he
 cases he
 obtain ⟨a1, a2⟩ := mH (P := Any) 10 [93] s4 t s5 trivial e5 h0
 obtain ⟨b1, b2⟩ := uX hE f [] s3 ks s4 trivial e4 a1
 obtain ⟨c1, c2⟩ := aCz f s2 ts s3 trivial e3 b1
 obtain ⟨d1, d2⟩ := aSf e2 c1
 obtain ⟨g1, g2⟩ := wQ f [] st ns s1 trivial e1 d1
 refine ⟨g1, fun d m S => ?_⟩
 obtain ⟨n1, m1, i1, i2, ns', rfl, i3, i4, i5⟩ := g2 d m S
 obtain ⟨n2, m2, j1, j2⟩ := d2 d m1 i2
 obtain ⟨n3, m3, k1, k2, k3, k4⟩ := c2 d m2 j2
 obtain ⟨n4, m4, l1, l2, l, rfl, l3⟩ := b2 d m3 k2
 obtain ⟨n5, m5, o1, o2, ⟨o3, o4⟩, o5, rfl⟩ := a2 d m4 l2
 have := oR o5 o3 (o4 (by decide))
 refine ⟨n1 + n2 + n3 + n4 + lF t, m5, by omega, o2, ns, ts, l, rfl, i3, by simpa using i5 (by simp), k3, n4, l3, by omega⟩
theorem aVt {d : Nat} {x : Node} {n : Nat} (hd : d < 20) (h : CBl (d + 1) x n) (hn : n ≤ 100000) : CU d x (3 + n) := by
 obtain ⟨ns, ts, l, rfl, h1, h2, h3, k, ⟨h4, h5, h6⟩, h7⟩ := h
 have e2 : l.map Prod.snd = (l.map Prod.fst).map eX := by
  rw [List.map_map]
  exact List.map_congr_left fun z hz => (h5 z hz).1
 have hR : ∀ e, e ≤ d → RdP e (.mk 9 [] 0 ns ts (l.map Prod.fst)) (eX (.mk 9 [] 0 ns ts (l.map Prod.fst))) := fun e he => by
  rw [aDu, ← e2]
  exact aRf (by omega) (fun t ht => (h1 t ht).1) h2 (fun t ht => (h3 t ht).1) (h4 (e + 1) (by omega))
 refine ⟨PU.low rfl (by show (9 : Int) ≠ 7; decide) hR, ?_, ?_, ?_⟩
 ·rw [kO (by show 0 ≤ 1; omega), aDu, ← e2, aHr]
  have := kJ [46, 32] (l.map Prod.snd)
  simp only [List.length_map, List.length_cons, List.length_nil, List.length_append] at this ⊢
  split
  ·simp only [List.length_nil]
   omega
  ·rename_i hne
   have : 1 ≤ ns.length := by
    cases ns with
    | nil => exact absurd rfl hne
    | cons a b => simp
   simp only [laE, lcE, lnE]
   omega
 ·refine ⟨by simp, by omega, by omega, ?_, pY fun x hx => ?_⟩
  ·rw [List.length_map]
   unfold bV
   omega
  ·obtain ⟨z, hz, rfl⟩ := List.mem_map.1 hx
   exact (h5 z hz).2.1
 ·refine ⟨AB.nil, fun x hx => (h1 x hx).2, fun x hx => (h3 x hx).2, pQ fun x hx => ?_⟩
  obtain ⟨z, hz, rfl⟩ := List.mem_map.1 hx
  exact (h5 z hz).2.2
theorem aPp {E : PF} (hE : SO Any E CE) : SO Any (kQ E) (fun d x n => ∃ a, CE d x a ∧ a + 3 = n) := by
 refine (bVu (fun (x : Node) st => (cJ st 10 [41]).bind fun q => some (x, q.2)) hE fun x => bVu (fun (_ : Tok) st => some (x, st)) (mH 10 [41]) fun _ => SO.ret x).mono ?_
 rintro d y n hd hn ⟨x, a, b, rfl, hx, t, a2, b2, rfl, ⟨⟨hk, hx2⟩, hv, rfl⟩, rfl, rfl⟩
 exact ⟨a, hx, by rw [oR hv hk (hx2 (by decide))]⟩
theorem aFz {LI E : PF} (hL : SO Any LI CLs) (hE : SO Any E CE) (f : Nat) : SO Any (dG LI E f) CU := by
 unfold dG
 refine SO.mono (bVu (fun (r : Node × Bool) st => if r.2 then some (r.1, st) else (bB st 0).bind fun t => if st.err = 0 then if t.kind = 1 then (aU st).bind fun q => some (Node.mk 5 q.1.text 0 [] [] [], q.2) else if t.kind = 7 then cT LI st else (dR st 10 [40]).bind fun c => if c then cT (kQ E) st else (dR st 10 [91]).bind fun c => if c then cT (jS E f) st else some (zN, cP st t 13) else some (zN, st)) (E := fun r d x n => (r.2 = true ∧ x = r.1 ∧ n = 0) ∨ (r.2 = false ∧ CU d x n)) plain_so fun r => ?_) ?_
 ·obtain ⟨x, b⟩ := r
  cases b with
  | true => exact (SO.ret x).mono fun d y n hd hn h => .inl ⟨rfl, h⟩
  | false =>
   refine SO.mono (C := CU) ?_ fun d y n hd hn h => .inr ⟨rfl, h⟩
   refine SO.look (fun t st => if st.err = 0 then if t.kind = 1 then (aU st).bind fun q => some (Node.mk 5 q.1.text 0 [] [] [], q.2) else if t.kind = 7 then cT LI st else (dR st 10 [40]).bind fun c => if c then cT (kQ E) st else (dR st 10 [91]).bind fun c => if c then cT (jS E f) st else some (zN, cP st t 13) else some (zN, st)) fun t => SO.ok ?_ (SO.err (F := LI))
   by_cases h1 : t.kind = 1
   ·refine bWw (fun st => if_pos h1) ((bVu (fun (q : Tok) st => some (Node.mk 5 q.text 0 [] [] [], st)) ((iM (t := t) (P := Any)).pre fun st h => h.1) fun q => SO.ret _).mono ?_)
    rintro d y n hd hn ⟨t1, a, b, rfl, ⟨rfl, hv, rfl⟩, rfl, rfl⟩
    obtain ⟨k1, k2, k3, k4, k5⟩ := tkv hv h1 (by decide) (by decide)
    refine ⟨PU.low rfl (by show (5 : Int) ≠ 7; decide) fun e _ => bJx k1, ?_, ⟨by omega, by omega, by omega, by unfold bV; simp, trivial⟩, ⟨k4, fun x hx => (by cases hx), fun x hx => (by cases hx), trivial⟩⟩
    rw [kO (by show 0 ≤ 1; omega)]
    exact k5
   by_cases h7 : t.kind = 7
   ·refine bWw (fun st => (if_neg h1).trans (if_pos h7)) (((mC (P := Any) (k := 7) (tx := []) hL).pre fun st h => ⟨trivial, t, h.1.2, h7, fun h => absurd rfl h⟩).mono ?_)
    rintro d y n hd hn ⟨h20, t1, a, ⟨ht, _⟩, hv, rfl, es, m, rfl, hz, rfl⟩
    obtain ⟨k1, k2, _⟩ := tkv hv ht (by decide) (by decide)
    have hw : lF t1 = 4 := k2
    obtain ⟨p1, p2, p3, p4, p5⟩ := aOy h20 hz (by omega)
    refine ⟨PU.low rfl (by show (4 : Int) ≠ 7; decide) p2, ?_, p4, p5⟩
    rw [kO (by show 0 ≤ 1; omega)]
    omega
   refine bWw (fun st => (if_neg h1).trans (if_neg h7)) (bXg ?_ (bXg ?_ (bXv (by decide) _)))
   ·refine ((mC (k := 10) (tx := [40]) (aPp hE))).mono ?_
    rintro d y n hd hn ⟨h20, t1, a, ⟨ht, hx⟩, hv, rfl, a2, ⟨x1, x2, x3, x4⟩, rfl⟩
    have hw := oR hv ht (hx (by decide))
    have := rM 1 y
    exact ⟨PU.paren x1 h20, by omega, x3, x4⟩
   ·refine ((mC (k := 10) (tx := [91]) (aVm hE f))).mono ?_
    rintro d y n hd hn ⟨h20, t1, a, ⟨ht, hx⟩, hv, rfl, hb⟩
    have hw := oR hv ht (hx (by decide))
    rw [hw]
    exact aVt h20 hb (by omega)
 ·rintro d y n hd hn ⟨r, a, b, rfl, h1, h2⟩
  rcases h2 with ⟨hr, rfl, rfl⟩ | ⟨hr, h2⟩
  ·rcases h1 with ⟨_, c1, c2, c3, c4, c5, c6⟩ | ⟨h1, _⟩
   ·exact ⟨PU.low c2 c3 fun e _ => (c1 e).p, by rw [kO (by omega)]; exact c4, c5, c6⟩
   ·rw [hr] at h1; cases h1
  ·rcases h1 with ⟨h1, _⟩ | ⟨_, rfl⟩
   ·rw [hr] at h1; cases h1
   ·rw [Nat.zero_add]
    exact h2
end Go.Dd

namespace Go.Dd
theorem aRr {f : Nat} (hP : SO Any (PP f) CU) (hE : SO Any (dK f) CE) : SO Any (dK (f + 1)) CE := fun st y st' hp he h0 => by
 have he : lL (PP f) (dK f) f st = some (y, st') := he
 unfold lL at he
 obtain ⟨c, e1, he⟩ := bE he
 cases c with
 | false =>
  rw [if_neg (by decide), Option.bind_some, if_neg (by decide)] at he
  exact uO hP st y st' trivial he h0
 | true =>
  rw [if_pos rfl] at he
  obtain ⟨b, e2, h9⟩ := bE he
  cases b with
  | false =>
   rw [if_neg (by decide)] at h9
   exact uO hP st y st' trivial h9 h0
  | true =>
   rw [if_pos rfl] at h9
   obtain ⟨t2, l1, e2⟩ := bE e2
   have l2 : t2.kind = 9 := by simpa using e2
   have l3 := (kI e1).2
   have := bYi (P := fun s => Any s ∧ Hk 1 [] s ∧ bB s 1 = some t2) (fun _ s => Any s ∧ bB s 0 = some t2) (fun (r : Tok) s => (aU s).bind fun q => (dK f q.2).bind fun u => some (Node.mk 6 r.text 0 [] [] [u.1], u.2)) ((dV (P := Any) (k := 1) (x := [])).pre fun s h => ⟨trivial, h.2.1⟩) (fun s x s1 h1 h2 => by
    obtain ⟨a, b, c⟩ := h1
    obtain ⟨u, u1, u2, _⟩ := b
    have := (sR h2).2
    rw [u1] at this
    cases this
    exact ⟨trivial, vS h2 (by omega) c⟩) (fun r => bVu (fun (_ : Tok) s => (dK f s).bind fun u => some (Node.mk 6 r.text 0 [] [] [u.1], u.2)) iM fun _ => bVu (fun (u : Node) s => some (Node.mk 6 r.text 0 [] [] [u], s)) hE fun u => SO.ret _)
   obtain ⟨q1, q2⟩ := this st y st' ⟨trivial, l3, l1⟩ h9 h0
   refine ⟨q1, fun d m S => ?_⟩
   have hm := S.2.2.2.2.2
   obtain ⟨n, m', r1, r2, t1, a, b, rfl, ⟨⟨hk1, hx⟩, hv, rfl⟩, t3, a2, b2, rfl, ⟨rfl, hv2, rfl⟩, u, a3, b3, rfl, ⟨x1, x2, x3, x4⟩, rfl, rfl⟩ := q2 d m S
   obtain ⟨k1, k2, k3, k4, k5⟩ := tkv hv hk1 (by decide) (by decide)
   obtain ⟨_, j2, _⟩ := tkv hv2 l2 (by decide) (by decide)
   have j3 : lF t3 = 4 := j2
   obtain ⟨g1, g2⟩ := x1.assign k1
   refine ⟨_, m', r1, r2, g1, ?_, ⟨by omega, by omega, by omega, by unfold bV; simp, x3, trivial⟩, ⟨k4, fun x hx => (by cases hx), fun x hx => (by cases hx), x4, trivial⟩⟩
   rw [g2]
   simp only [List.length_append, List.length_cons]
   omega
theorem xV : ∀ f, SO Any (dK f) CE
 | 0 => fun st y st' _ h => by cases h
 | f + 1 => aRr (aFz (aLn f) (xV f) f) (xV f)
theorem aGx {f : Nat} {st : PSt} {ts : List (List Nat)} {ks : List Node} {s1 s2 s3 : PSt} {t : Tok} (e1 : fT f st = some (ts, s1)) (e2 : cY (dK f) f [] s1 = some (ks, s2)) (e3 : cJ s2 0 [] = some (t, s3)) (h0 : s3.err = 0) :
 st.err = 0 ∧ ∀ m, Sst st 0 m → ∃ l : List (Node × List Nat), ks = l.map Prod.fst ∧ TZ ts ∧ SOk 0 l ∧ (∀ z ∈ l, z.2 = eX z.1 ∧ Sk z.1 ∧ By z.1) ∧ l.length ≤ m ∧ (aQ ts (l.map Prod.snd)).length ≤ m := by
 obtain ⟨a1, a2⟩ := mH (P := Any) 0 [] s2 t s3 trivial e3 h0
 obtain ⟨b1, b2⟩ := uX (xV f) f [] s1 ks s2 trivial e2 a1
 obtain ⟨c1, c2⟩ := aCz f st ts s1 trivial e1 b1
 refine ⟨c1, fun m S => ?_⟩
 obtain ⟨n1, m1, i1, i2, i3, i4⟩ := c2 0 m S
 obtain ⟨n2, m2, j1, j2, l, rfl, j3, j4, j5⟩ := b2 0 m1 i2
 have := kJ [46, 32] (l.map Prod.snd)
 refine ⟨l, rfl, i3, j3 0 (Nat.le_refl _), j4, by omega, ?_⟩
 rw [aHr, List.length_append]
 simp only [List.length_map, List.length_cons, List.length_nil] at this
 omega
theorem sY {u : List Nat} (hu : u.length ≤ 2000) (hb : AB u) (h : (iP u).2.2 = 0) : VT (iP u).1 ∧ mu (iP u).1 ≤ 3 * u.length := by
 have e := oP u
 obtain ⟨_, h2⟩ := bHq hu e h
 exact aCo _ _ _ hb h2
theorem uF {u : List Nat} (hu : u.length ≤ 500) (hb : AB u) (h : (cA u).2.2 = 0) :
 (cA (aQ (cA u).1.temps (fU (cA u).1.kids))).2.2 = 0 ∧ (cA (aQ (cA u).1.temps (fU (cA u).1.kids))).1 = (cA u).1 ∧ Sk (cA u).1 ∧ By (cA u).1 ∧ (aQ (cA u).1.temps (fU (cA u).1.kids)).length ≤ 1500 := by
 have q := lI u
 unfold fI at q
 by_cases hl : (iP u).2.2 = 0
 ·obtain ⟨v1, v2⟩ := sY (by omega) hb hl
  rw [if_pos hl] at q
  obtain ⟨⟨x, s0⟩, e0, q⟩ := bE q
  cases e0
  obtain ⟨⟨ts, s1⟩, e1, q⟩ := bE q
  obtain ⟨⟨ks, s2⟩, e2, q⟩ := bE q
  obtain ⟨⟨t, s3⟩, e3, q⟩ := bE q
  by_cases h3 : s3.err = 0
  ·have q : some ((Node.mk 11 [100, 111, 73, 116] 0 [] [] []).with ts ks, (0 : Int), (0 : Int)) = some (cA u) := by
    have q : (if s3.err = 0 then some ((Node.mk 11 [100, 111, 73, 116] 0 [] [] []).with ts ks, (0 : Int), (0 : Int)) else some (zN, s3.pos, s3.err)) = some (cA u) := q
    rw [if_pos h3] at q
    exact q
   obtain ⟨a1, a2⟩ := aGx e1 e2 e3 h3
   obtain ⟨l, rfl, b1, b2, b3, b5, b4⟩ := a2 _ ⟨rfl, rfl, by omega, v1, rfl, by show mu (iP u).1 ≤ 100000; omega⟩
   have b4 : (aQ ts (l.map Prod.snd)).length ≤ mu (iP u).1 := b4
   have b5 : l.length ≤ mu (iP u).1 := b5
   have q := Option.some.inj q
   rw [← q]
   have ek : fU (l.map Prod.fst) = l.map Prod.snd := by
    unfold fU
    rw [List.map_map]
    exact List.map_congr_left fun z hz => (b3 z hz).1.symm
   show (cA (aQ ts (fU (l.map Prod.fst)))).2.2 = 0 ∧ (cA (aQ ts (fU (l.map Prod.fst)))).1 = Node.mk 11 [100, 111, 73, 116] 0 [] ts (l.map Prod.fst) ∧ Sk (Node.mk 11 [100, 111, 73, 116] 0 [] ts (l.map Prod.fst)) ∧ By (Node.mk 11 [100, 111, 73, 116] 0 [] ts (l.map Prod.fst)) ∧ (aQ ts (fU (l.map Prod.fst))).length ≤ 1500
   rw [ek, aYj (fun t ht => (b1 t ht).1) b2 (by omega)]
   refine ⟨rfl, rfl, ⟨by simp, by omega, by omega, by rw [List.length_map]; unfold bV; omega, pY fun x hx => ?_⟩, ⟨fun c hc => ?_, fun x hx => (by cases hx), fun x hx => (b1 x hx).2, pQ fun x hx => ?_⟩, by omega⟩
   ·obtain ⟨z, hz, rfl⟩ := List.mem_map.1 hx
    exact (b3 z hz).2.1
   ·have : c = 100 ∨ c = 111 ∨ c = 73 ∨ c = 116 := by simpa using hc
    omega
   ·obtain ⟨z, hz, rfl⟩ := List.mem_map.1 hx
    exact (b3 z hz).2.2
  ·have q : (if s3.err = 0 then some ((Node.mk 11 [100, 111, 73, 116] 0 [] [] []).with ts ks, (0 : Int), (0 : Int)) else some (zN, s3.pos, s3.err)) = some (cA u) := q
   rw [if_neg h3] at q
   have q := Option.some.inj q
   rw [← q] at h
   exact absurd h h3
 ·rw [if_neg hl] at q
  have q := Option.some.inj q
  rw [← q] at h
  exact absurd h hl
end Go.Dd

namespace Go.Dd
end Go.Dd

namespace Go.Dd
theorem aEk {u : List Nat} (hu : u.length ≤ 500) (hb : AB u) (h : (cA u).2.2 = 0) {n : List Nat} (hn : TV 1 n) (hn2 : n.length ≤ 100) (hn3 : AB n) :
 iC (.mk 11 n 0 [] (cA u).1.temps (cA u).1.kids) = n ++ 32 :: aQ (cA u).1.temps (fU (cA u).1.kids) := by
 show eG n ((0 : Nat) : Int) [] ++ aQ (cA u).1.temps (fU (cA u).1.kids) = _
 rw [aLi]
 have e : bQ n [] = n := by unfold bQ; rw [((eF hn).1 rfl).1]; rfl
 rw [e]
 rfl
end Go.Dd

namespace Go.Dd
open Go.Proofs
section
variable {I : Im} {A L : Ls} {h : Hp}
structure Shw (x : Node) : Prop where
 kids : ∀ y ∈ x.kids, kD y
 len : (aQ x.temps (fU x.kids)).length ≤ bV
 by' : AB (aQ x.temps (fU x.kids))
theorem aZh (x y : List Nat) (h : Hp) : fZ .eql (.s x) (.s y) h = some (.b (decide (x = y)), h) := by
 rw [aOs]
 congr 3
 rw [Bool.eq_iff_iff, jL, decide_eq_true_eq]
end
end Go.Dd

namespace Go.Dd
open Go.Proofs
section
variable {I : Im} {A L : Ls} {h : Hp}
theorem aFi {u : List Nat} (hu : u.length ≤ 500) (hb : AB u) (he : (cA u).2.2 = 0) :
 Shw (cA u).1 ∧ aBz (cA u).1 = (aQ (cA u).1.temps (fU (cA u).1.kids), 0) := by
 obtain ⟨h1, h2, h3, h4, h5⟩ := uF hu hb he
 refine ⟨⟨(tZ _ h3).2.1, by unfold bV; omega, h4.body⟩, ?_⟩
 unfold aBz oT
 rw [if_pos ⟨h1, by rw [h2]; exact rY _⟩]
end
end Go.Dd

namespace Go.Dd
theorem sE {u : List Nat} (hu : u.length ≤ 500) (hb : AB u) (h : (cA u).2.2 = 0) :
 ∃ ts, ∃ l : List (Node × List Nat), (cA u).1 = .mk 11 [100, 111, 73, 116] 0 [] ts (l.map Prod.fst) ∧ TZ ts ∧ SOk 0 l ∧ (∀ z ∈ l, z.2 = eX z.1 ∧ Sk z.1 ∧ By z.1) ∧ (aQ ts (l.map Prod.snd)).length ≤ 1500 := by
 have q := lI u
 unfold fI at q
 by_cases hl : (iP u).2.2 = 0
 ·obtain ⟨v1, v2⟩ := sY (by omega) hb hl
  rw [if_pos hl] at q
  obtain ⟨⟨x, s0⟩, e0, q⟩ := bE q
  cases e0
  obtain ⟨⟨ts, s1⟩, e1, q⟩ := bE q
  obtain ⟨⟨ks, s2⟩, e2, q⟩ := bE q
  obtain ⟨⟨t, s3⟩, e3, q⟩ := bE q
  by_cases h3 : s3.err = 0
  ·have q : some ((Node.mk 11 [100, 111, 73, 116] 0 [] [] []).with ts ks, (0 : Int), (0 : Int)) = some (cA u) := by
    have q : (if s3.err = 0 then some ((Node.mk 11 [100, 111, 73, 116] 0 [] [] []).with ts ks, (0 : Int), (0 : Int)) else some (zN, s3.pos, s3.err)) = some (cA u) := q
    rw [if_pos h3] at q
    exact q
   obtain ⟨a1, a2⟩ := aGx e1 e2 e3 h3
   obtain ⟨l, rfl, b1, b2, b3, b5, b4⟩ := a2 _ ⟨rfl, rfl, by omega, v1, rfl, by show mu (iP u).1 ≤ 100000; omega⟩
   have b4 : (aQ ts (l.map Prod.snd)).length ≤ mu (iP u).1 := b4
   have q := Option.some.inj q
   rw [← q]
   exact ⟨ts, l, rfl, b1, b2, b3, by omega⟩
  ·have q : (if s3.err = 0 then some ((Node.mk 11 [100, 111, 73, 116] 0 [] [] []).with ts ks, (0 : Int), (0 : Int)) else some (zN, s3.pos, s3.err)) = some (cA u) := q
   rw [if_neg h3] at q
   have q := Option.some.inj q
   rw [← q] at h
   exact absurd h h3
 ·rw [if_neg hl] at q
  have q := Option.some.inj q
  rw [← q] at h
  exact absurd h hl
def fooX : List Nat := [102, 111, 111]
theorem aOb : TV 1 fooX := ⟨by decide, fun v hv => by
 have h : Stop v := hv.2 (by decide) (by decide) (by decide) (by decide)
 have e : (fooX ++ v).takeWhile cU = fooX := zR cU _ _ (by decide) h.name
 have en : aI (fooX ++ v) = (fooX, 0, 3) := by
  unfold aI
  rw [e]
  rfl
 have ex : nx (fooX ++ v) 0 = 102 := rfl
 have e2 : cQ ((fooX ++ v).drop 3) = false := by
  show cQ v = false
  exact oA h
 show aW 2001 (fooX ++ v) = _
 unfold aW
 rw [en, ex, if_pos (by decide), if_pos rfl, if_neg (by rw [e2]; decide)]
 rfl⟩
structure ShwN (x : Node) : Prop where
 kids : ∀ y ∈ x.kids, kD y
 t0 : x.text.length ≤ 10000
 n0 : cS x.names ≤ 10000
 m0 : -9223372036854775808 ≤ x.num
 m1 : x.num ≤ 9223372036854775807
 b0 : (aQ x.temps (fU x.kids)).length ≤ 1000000000
 a0 : AB (iC x)
theorem aUd {u : List Nat} (hu : u.length ≤ 500) (hb : AB u) (he : (cA u).2.2 = 0) :
 ShwN (.mk 11 fooX 0 [] (cA u).1.temps (cA u).1.kids) ∧ wU (.mk 11 fooX 0 [] (cA u).1.temps (cA u).1.kids) = (fooX ++ 32 :: aQ (cA u).1.temps (fU (cA u).1.kids), 0) := by
 obtain ⟨h1, h2, h3, h4, h5⟩ := uF hu hb he
 have em := aEk hu hb he aOb (by decide) (by intro c hc; simp [fooX] at hc; omega)
 have eb := h4.body
 have sk := (tZ _ h3).2.1
 obtain ⟨ts, l, e1, b1, b2, b3, b4⟩ := sE hu hb he
 rw [e1] at em eb sk h5 ⊢
 have ek : fU (l.map Prod.fst) = l.map Prod.snd := by
  unfold fU
  rw [List.map_map]
  exact List.map_congr_left fun z hz => (b3 z hz).1.symm
 have em : iC (.mk 11 fooX 0 [] ts (l.map Prod.fst)) = fooX ++ 32 :: aQ ts (fU (l.map Prod.fst)) := em
 have eb : AB (aQ ts (fU (l.map Prod.fst))) := eb
 have h5 : (aQ ts (fU (l.map Prod.fst))).length ≤ 1500 := h5
 refine ⟨⟨sk, by show fooX.length ≤ 10000; decide, by show cS [] ≤ 10000; decide, by show -9223372036854775808 ≤ (0 : Int); decide, by show (0 : Int) ≤ 9223372036854775807; decide, by show (aQ ts (fU (l.map Prod.fst))).length ≤ _; omega, ?_⟩, ?_⟩
 ·show AB (iC (.mk 11 fooX 0 [] ts (l.map Prod.fst)))
  rw [em]
  exact AB.app (by intro c hc; simp [fooX] at hc; omega) (AB.cons (by omega) eb)
 ·show wU (.mk 11 fooX 0 [] ts (l.map Prod.fst)) = (fooX ++ 32 :: aQ ts (fU (l.map Prod.fst)), 0)
  have hr := bEy (t := fooX) (m := 0) (ns := []) (.inl ⟨aOb, rfl⟩) (by omega) (fun t ht => (b1 t ht).1) b2 (by
   have : iC (.mk 11 fooX 0 [] ts (l.map Prod.fst)) = eG fooX ((0 : Nat) : Int) [] ++ aQ ts (fU (l.map Prod.fst)) := rfl
   rw [← ek, ← this, em, List.length_append, List.length_cons]
   have : fooX.length = 3 := rfl
   omega)
  rw [← ek] at hr
  have hr : oI (iC (.mk 11 fooX 0 [] ts (l.map Prod.fst))) = (.mk 11 fooX 0 [] ts (l.map Prod.fst), 0, 0) := hr
  unfold wU oT
  rw [hr, if_pos ⟨rfl, rY _⟩, em]
end Go.Dd

