/- A part of the proof: T8 T9 T10 T11 T12 T13 T14 U1 U2 U3 T15 T16 T17 T18 U4 T19 Z1 Z4 P0 P1 P2 P3 P4 P5: each text has a comment of its own. -/
import Derived.Test.YtliejomdaookoaaGreatDoorSm2
set_option linter.unusedVariables false
set_option linter.unusedSimpArgs false
set_option linter.constructorNameAsVariable false
set_option maxRecDepth 100000
namespace Go.Dd
open Go.Proofs
theorem lI {I : Im} {B A Q L : Ls} {h : Hp} {x : DV} {l : List (List Nat)} (G : Gr I 1 B x l.length (l.map .s)) {t : List Nat} {b : Pos} (S : Sy I (B ++ A) Q L h) (m : (b, some (.row .ex [.s t])) ∈ L) (hl : l.length + 1 ≤ bG) :
 ∃ x' h' B', aY 1 16 x (.l b 0 1 1) h = some (x', h') ∧ Sy I (B' ++ A) Q L h' ∧ Gr I 1 B' x' (l ++ [t]).length ((l ++ [t]).map .s) := by
 have hr : (l.length + 1) * 16 ≤ fH := by simp [fH, bG] at hl ⊢; omega
 obtain ⟨x4, h4, B4, e4, S4, G4⟩ := G.app S (nG S (n := 1) m rfl (aU rfl aX)) rfl (aU rfl aX) (by omega) hr
 exact ⟨x4, h4, B4, e4, S4, by simpa using G4⟩
theorem vX {P : DV → Hp → Prop} : ∀ (f j : Nat) (I : Im) (B A L : Ls) (h : Hp) (p : Pos) (s x : DV) (st : PSt) (l l' : List (List Nat)) (z : List DV) (st' : PSt) (b2 b3 : Pos),
 Sy I (B ++ A) [PS p s st] ((b3, some (.row .ex [.i .i64 (Int.ofNat 9), .s [], .i .i64 (Int.ofNat 0), x, .l0, .l0])) :: (b2, some (.row .ex z)) :: L) h → Gr I 1 B x l.length (l.map .s) → z.length = 6 → (∀ v ∈ z, v.one = true) →
 l.length + f ≤ bG → TS' I s st.toks → lX f l st = some (l', st') →
 (∀ (B' : Ls) (h' : Hp) (s' x' : DV), Sy I (B' ++ A) [PS p s' st'] ((b3, some (.row .ex [.i .i64 (Int.ofNat 9), .s [], .i .i64 (Int.ofNat 0), x', .l0, .l0])) :: (b2, some (.row .ex z)) :: L) h' → Gr I 1 B' x' l'.length (l'.map .s) → l'.length ≤ bG → TS' I s' st'.toks →
  Ev (fun n => fE (aI n) n (.p p 0) (.p b2 0) (.p b3 0) h') P) →
 Ev (fun n => oL (aI n) n (n - j) (.p p 0) (.p b2 0) (.p b3 0) h) P
 | 0, j, I, B, A, L, h, p, s, x, st, l, l', z, st', b2, b3, S, G, z1, z2, hl, T, hm, K => by cases hm
 | f + 1, j, I, B, A, L, h, p, s, x, st, l, l', z, st', b2, b3, S, G, z1, z2, hl, T, hm, K => by
  unfold lX at hm
  obtain ⟨c, hc, hm⟩ := aT hm
  refine eAw j (ll := fun n m => oL (aI n) n m (.p p 0) (.p b2 0) (.p b3 0) h) (bb := fun n m => xI (aI n) n (oL (aI n) n m) (.p p 0) (.p b2 0) (.p b3 0) h) (fun _ _ => rfl) ?_
  have hx := G.one
  unfold xI
  refine eAr (eV S T hc) ?_
  rintro _ _ ⟨rfl, S1⟩
  cases c with
  | false =>
   refine yj ?_
   rw [if_neg (by simp)] at hm
   simp only [aZ, bT] at hm
   obtain ⟨rfl, rfl⟩ := hm
   exact K B _ s x S1 G (by omega) T
  | true =>
   refine yt (wf ?_)
   rw [if_pos rfl] at hm
   obtain ⟨⟨t, st1⟩, ht, hm⟩ := aT hm
   have Sr := S1.res
   refine wl ?_; refine wf ?_; refine wl ?_
   refine eAr (aMe Sr T G.len ht) ?_
   rintro _ _ ⟨rfl, s2, S2, T2⟩
   refine Ev.cnd ?_ ?_
   ·rw [Bool.and_true]; exact dQ S2 (by repeat (first | exact bX | apply List.Mem.tail)) rfl hx G.beq
   refine eBl S2 (cs := [.s t]) (by repeat (first | exact Rpl.head _ | apply Rpl.tail)) rfl ?_
   intro h3 S3
   obtain ⟨x4, h4, B4, e4, S4, G4⟩ := lI G S3 (by repeat (first | exact bX | apply List.Mem.tail)) (by omega)
   have hx4 := G4.one
   refine Ev.op e4 ?_
   refine wf ?_; refine wu fun _ _ => ?_
   exact vX f (j + 1) I B4 A L _ p s2 x4 st1 (l ++ [t]) l' z st' b2 b3 (dp) G4 z1 z2 (by simp; omega) T2 hm K
theorem bOt {E : PF} (HE : uE 79 E) (f : Nat) (hf : f ≤ bG) : uE 154 (tA E f) := by
 intro I A L h p s st x st' S T hm
 unfold tA at hm
 obtain ⟨⟨l, st1⟩, h1, hm⟩ := aT hm
 obtain ⟨st2, h2, hm⟩ := aT hm
 obtain ⟨⟨ts, st3⟩, h3, hm⟩ := aT hm
 obtain ⟨⟨ks, st4⟩, h4, hm⟩ := aT hm
 obtain ⟨⟨t, st5⟩, h5, hm⟩ := aT hm
 simp only [aZ, bT] at hm
 obtain ⟨rfl, rfl⟩ := hm
 refine Ev.enter (fun n => bUm n _ h) ?_
 unfold s154 aNa aMh aVh
 refine wa fun _ _ _ => ?_; refine wd ?_; refine wa fun _ _ _ => ?_; refine wt fun _ _ => ?_
 refine vX f 0 I [] A L _ p s .l0 st [] l _ st1 _ _ (by assumption) (Gr.nil I 1) rfl (by first | assumption | exact bV _ | (repeat (first | exact aX | refine aU (by first | rfl | assumption | exact Fz.one (by assumption)) ?_))) (by simpa using hf) T h1 ?_
 intro B h' s' x' S1 G1 hl T1
 have hx := G1.one
 unfold fE
 have rest : ∀ (h' : Hp) (s' : DV) (b2 b3 : Pos) (z : List DV), z.length = 6 → (∀ v ∈ z, v.one = true) → Sy I (B ++ A) [PS p s' st2] ((b3, some (.row .ex [.i .i64 (Int.ofNat 9), .s [], .i .i64 (Int.ofNat 0), x', .l0, .l0])) :: (b2, some (.row .ex z)) :: L) h' → TS' I s' st2.toks →
  Ev (fun n => aIa (aI n) n (.p p 0) (.p b2 0) (.p b3 0) h') (NPost I A L p (.mk 9 [] 0 l ts ks) st5) := by
  intro h' s' b2 b3 z z1 z2 S2 T2
  unfold aIa
  obtain ⟨J, gJ, S3, F3⟩ := G1.freeze S2
  refine eAr (aPi f hf S3 (T2.mono gJ) h3) ?_
  rintro v4 h4' ⟨K, s4, g4, S4, T4, N4⟩
  have o4 := N4.2.one
  refine wf ?_; refine wu fun _ _ => ?_
  refine eAr (aRq HE f hf (by assumption) T4 h4) ?_
  rintro v5 h5' ⟨M, s5, g5, S5, T5, N5⟩
  have o5 := N5.one
  refine wf ?_; refine wu fun _ _ => ?_
  refine eAr (iX (by assumption) T5 h5) ?_
  rintro _ _ ⟨rfl, s6, S6, T6⟩
  refine ws ?_; refine wt fun _ _ => ?_; refine ws ?_
  exact eAs ⟨M, s6, _, rfl, (gJ.trans g4).trans g5, dp, T6, NV.of ⟨hl, (F3.mono g4).mono g5⟩ (N4.mono g5) N5⟩
 refine wf ?_; refine wl ?_
 refine Ev.op (G1.len _) ?_
 unfold bar at h2
 refine eBj (fun e1 => ?_) (fun e1 => ?_)
 ·have e2 : 0 < l.length := by simp at e1; exact e1
  simp only [if_pos e2] at h2
  obtain ⟨c, hc, h2⟩ := aT h2
  refine zt (wm (zt ?_))
  refine eAr (eV (by assumption) T1 hc) ?_
  rintro _ _ ⟨rfl, S2⟩
  cases c with
  | true =>
   refine zt (an (ap (yj ?_)))
   simp only [if_true, aZ] at h2
   subst h2
   exact rest _ s' _ _ _ rfl (by first | assumption | exact bV _ | (repeat (first | exact aX | refine aU (by first | rfl | assumption | exact Fz.one (by assumption)) ?_))) S2 T1
  | false =>
   refine zt (ao (ap (yt ?_)))
   obtain ⟨⟨t2, st6⟩, ht2, h2⟩ := aT (by simpa using h2)
   simp only [aZ] at h2
   subst h2
   refine eAr (iX (by assumption) T1 ht2) ?_
   rintro _ _ ⟨rfl, s3, S3, T3⟩
   exact rest _ s3 _ _ _ rfl (by first | assumption | exact bV _ | (repeat (first | exact aX | refine aU (by first | rfl | assumption | exact Fz.one (by assumption)) ?_))) S3 T3
 ·have e2 : ¬ 0 < l.length := fun e => e1 (by show (0 : Int) < _; omega)
  simp only [if_neg e2, aZ] at h2
  subst h2
  refine yf (yf (yf (aq (yj ?_))))
  exact rest _ s' _ _ _ rfl (by first | assumption | exact bV _ | (repeat (first | exact aX | refine aU (by first | rfl | assumption | exact Fz.one (by assumption)) ?_))) S1 T1
theorem aVr {LI E : PF} (HL : uE 152 LI) (HE : uE 79 E) (f : Nat) (hf : f ≤ bG) : uE 137 (gA LI E f) := by
 intro I A L h p s st x st' S T hm
 unfold gA at hm
 obtain ⟨⟨⟨y, d⟩, st1⟩, hy, hm⟩ := aT hm
 refine Ev.enter (fun n => bZg n _ h) ?_
 unfold s137 bXg
 refine wa fun _ _ _ => ?_
 refine eAr (aSk (by assumption) T hy) ?_
 rintro _ _ ⟨s2, cs, rfl, S2, T2, N2⟩
 obtain ⟨l2, o2, q2⟩ := N2.shape
 have hs2 := T2.2.one
 refine wx ?_; refine wx ?_; refine wa fun _ _ _ => ?_; refine wt fun _ _ => ?_
 cases d with
 | true =>
  refine yt ?_; refine ws ?_; refine wt fun _ _ => ?_; refine ws ?_
  simp only [if_true, aZ, bT] at hm
  obtain ⟨rfl, rfl⟩ := hm
  exact eAs ⟨I, s2, _, rfl, ILe.refl _, dp, T2, N2⟩
 | false =>
  refine yj ?_
  rw [if_neg (by simp)] at hm
  obtain ⟨t, ht, hm⟩ := aT hm
  unfold bNt aVp
  refine eAr (iR (k := 0) (by assumption) T2 ht) ?_
  rintro _ _ ⟨rfl, S3⟩
  refine wa fun _ _ _ => ?_; refine wt fun _ _ => ?_; refine wn (wf ?_); refine wq ?_
  refine eBi (fun e1 => ?_) (fun e1 => ?_)
  ·refine yt ?_; refine wd ?_; refine wt fun _ _ => ?_; refine ws ?_
   rw [if_neg (show ¬ st1.err = 0 from e1)] at hm
   simp only [aZ, bT] at hm
   obtain ⟨rfl, rfl⟩ := hm
   exact eAs ⟨I, s2, _, rfl, ILe.refl _, dp, T2, NV.flat _ _ _⟩
  ·refine yj (wf ?_); refine wl ?_
   rw [if_pos (show st1.err = 0 from e1)] at hm
   refine eAv (fun e2 => ?_) (fun e2 => ?_)
   ·refine yt ?_
    rw [if_pos (show t.kind = 1 from e2)] at hm
    obtain ⟨⟨t1, st2⟩, ht1, hm⟩ := aT hm
    simp only [aZ, bT] at hm
    obtain ⟨rfl, rfl⟩ := hm
    refine eAr (cX (by assumption) T2 ht1) ?_
    rintro _ _ ⟨rfl, s3, S3, T3⟩
    refine wp ?_; refine wd ?_; refine wt fun _ _ => ?_; refine ws ?_
    exact eAs ⟨I, s3, _, rfl, ILe.refl _, dp, T3, NV.flat _ _ _⟩
   ·refine yj (wf ?_); refine wl ?_
    rw [if_neg (show ¬ t.kind = 1 from e2)] at hm
    refine eAv (fun e3 => ?_) (fun e3 => ?_)
    ·refine yt ?_
     rw [if_pos (show t.kind = 7 from e3)] at hm
     refine eAr (qK bBo HL (by assumption) T2 hm) ?_
     rintro _ _ ⟨J, s5, ds, rfl, g5, S5, T5, N5⟩
     obtain ⟨l5, o5, q5⟩ := N5.shape
     refine wt fun _ _ => ?_; refine ws ?_
     exact eAs ⟨J, s5, _, rfl, g5, dp, T5, N5⟩
    ·refine yj ?_
     rw [if_neg (show ¬ t.kind = 7 from e3)] at hm
     obtain ⟨c, hc, hm⟩ := aT hm
     refine eAr (eV (by assumption) T2 hc) ?_
     rintro _ _ ⟨rfl, S4⟩
     cases c with
     | true =>
      refine yt ?_
      refine eAr (qK cGc (bRl HE) (by assumption) T2 hm) ?_
      rintro _ _ ⟨J, s5, ds, rfl, g5, S5, T5, N5⟩
      obtain ⟨l5, o5, q5⟩ := N5.shape
      refine wt fun _ _ => ?_; refine ws ?_
      exact eAs ⟨J, s5, _, rfl, g5, dp, T5, N5⟩
     | false =>
      refine yj ?_
      rw [if_neg (by simp)] at hm
      obtain ⟨c, hc, hm⟩ := aT hm
      refine eAr (eV (by assumption) T2 hc) ?_
      rintro _ _ ⟨rfl, S5⟩
      cases c with
      | true =>
       refine yt ?_
       refine eAr (qK cGd (bOt HE f hf) (by assumption) T2 hm) ?_
       rintro _ _ ⟨J, s5, ds, rfl, g5, S5, T5, N5⟩
       obtain ⟨l5, o5, q5⟩ := N5.shape
       refine wt fun _ _ => ?_; refine ws ?_
       exact eAs ⟨J, s5, _, rfl, g5, dp, T5, N5⟩
      | false =>
       refine yj ?_; refine ws ?_
       simp only [Bool.false_eq_true, if_false, aZ, bT] at hm
       obtain ⟨rfl, rfl⟩ := hm
       refine eAr (lT (by assumption) T2.2.one t _) ?_
       rintro _ _ ⟨rfl, S6⟩
       refine wd ?_; refine wt fun _ _ => ?_; refine ws ?_
       exact eAs ⟨I, s2, _, rfl, ILe.refl _, dp, by rw [bJ]; exact T2, NV.flat _ _ _⟩
theorem wA {P : PF} (HP : uE 137 P) (g : Nat) : ∀ (f j : Nat) (I : Im) (A L : Ls) (h : Hp) (p : Pos) (s : DV) (st : PSt) (x y : Node) (cs z : List DV) (st' : PSt) (b3 b4 : Pos), Sy I A [PS p s st] ((b4, some (.row .ex z)) :: (b3, some (.row .ex cs)) :: L) h →
 z.length = 6 → (∀ v ∈ z, v.one = true) → TS' I s st.toks → NV I x cs → iV P g f x st = some (y, st') → Ev (fun n => nD (aI n) n (n - j) (.p p 0) (.p b3 0) (.p b4 0) h) (NPost I A L p y st')
 | 0, j, I, A, L, h, p, s, st, x, y, cs, z, st', b3, b4, S, z1, z2, T, N, hm => by cases hm
 | f + 1, j, I, A, L, h, p, s, st, x, y, cs, z, st', b3, b4, S, z1, z2, T, N, hm => by
  unfold iV at hm
  obtain ⟨c, hc, hm⟩ := aT hm
  refine eAw j (ll := fun n m => nD (aI n) n m (.p p 0) (.p b3 0) (.p b4 0) h) (bb := fun n m => xN (aI n) n (nD (aI n) n m) (.p p 0) (.p b3 0) (.p b4 0) h) (fun _ _ => rfl) ?_
  unfold xN fL
  obtain ⟨l1, o1, q1⟩ := N.shape
  refine eAr (eV S T hc) ?_
  rintro _ _ ⟨rfl, S1⟩
  cases c with
  | false =>
   refine yj ?_; refine ws ?_; refine wt fun _ _ => ?_; refine ws ?_
   rw [if_neg (by simp)] at hm
   simp only [aZ, bT] at hm
   obtain ⟨rfl, rfl⟩ := hm
   exact eAs ⟨I, s, cs, rfl, ILe.refl _, dp, T, N⟩
  | true =>
   refine yt ?_
   rw [if_pos rfl] at hm
   obtain ⟨⟨t, st1⟩, ht, hm⟩ := aT hm
   obtain ⟨⟨y1, st2⟩, hy1, hm⟩ := aT hm
   obtain ⟨⟨y2, st3⟩, hy2, hm⟩ := aT hm
   refine eAr (cX S1 T ht) ?_
   rintro _ _ ⟨rfl, s2, S2, T2⟩
   refine wa fun _ _ _ => ?_; refine wt fun _ _ => ?_; refine wf ?_
   have Sr := Sy.res (by assumption)
   refine wl ?_; refine ws ?_
   refine eAr (HP _ _ _ _ _ _ _ _ _ Sr T2 hy1) ?_
   rintro _ _ ⟨J, s5, ds, rfl, g5, S5, T5, N5⟩
   refine Ev.cnd ?_ ?_
   ·rw [aEq S5 (by repeat (first | exact bX | apply List.Mem.tail)) l1 o1 q1, dQ S5 (by repeat (first | exact bX | apply List.Mem.tail)) rfl rfl (mZ _)]; rfl
   refine eAr (uB g _ _ _ _ _ _ _ _ _ _ _ S5 T5 N5 hy2) ?_
   rintro _ _ ⟨K, s6, es, rfl, g6, S6, T6, N6⟩
   obtain ⟨l6, o6, q6⟩ := N6.shape
   refine Ev.cnd ?_ ?_
   ·rw [aEq S6 (by repeat (first | exact bX | apply List.Mem.tail)) l1 o1 q1, dQ S6 (by repeat (first | exact bX | apply List.Mem.tail)) rfl rfl (mZ _)]; rfl
   refine eBl S6 (by repeat (first | exact Rpl.head _ | apply Rpl.tail)) (aLt l1 l6) ?_
   intro h7 S7
   have NL7 : NVL K [x, y2] (cs ++ es) := (eBf ((N.mono g5).mono g6)).app (eBf N6)
   obtain ⟨c1, c2⟩ := NL7.shape
   obtain ⟨M, g8, S8, F8, _⟩ := Fz.built (sz := 6) (n := 2) S7 c1 c2
   have N8 : NS M _ [x, y2] := ⟨by simp [bG], _, F8, NL7.mono g8⟩
   refine eAr (xS S8 N8) ?_
   rintro _ _ ⟨cs9, rfl, N9, S9⟩
   obtain ⟨l9, o9, q9⟩ := N9.shape
   refine wt fun _ _ => ?_
   refine (wA HP g f (j + 1) M A L _ p s6 st3 _ y cs9 z st' b3 b4 ?_ z1 z2 (T6.mono g8) N9 hm).mono (NPost.le ((g5.trans g6).trans g8))
   exact Sy.dropL (by assumption)
theorem aFg {P : PF} (HP : uE 137 P) (g f : Nat) : dKh 135 (iV P g f) := by
 intro I A L h p s st x y cs st' S T N hm
 refine Ev.enter (fun n => bOc n _ _ h) ?_
 unfold s135 aNp aWr
 refine wb fun _ _ _ => ?_; refine wa fun _ _ _ => ?_
 exact wA HP g f 0 _ _ _ _ _ _ _ _ _ _ _ _ _ _ (by assumption) rfl (by first | assumption | exact bV _ | (repeat (first | exact aX | refine aU (by first | rfl | assumption | exact Fz.one (by assumption)) ?_))) T N hm
end Go.Dd

namespace Go.Dd
open Go.Proofs
theorem Sy.swap {I : Im} {A Q L : Ls} {a b : Pos × Option Ob} {h : Hp} (S : Sy I A Q (a :: b :: L) h) : Sy I A Q (b :: a :: L) h :=
 aSz ((List.Perm.refl _).append (List.Perm.swap _ _ _)) S
theorem eDy {I : Im} {A Q L : Ls} {a b : Pos × Option Ob} {h : Hp} (S : Sy I A Q (a :: b :: L) h) : Sy I A Q (a :: L) h := S.swap.dropL
theorem eDz {I : Im} {A Q L : Ls} {a b c : Pos × Option Ob} {h : Hp} (S : Sy I A Q (a :: b :: c :: L) h) : Sy I A Q (a :: b :: L) h :=
 dBm ((List.Sublist.refl _).append (((List.sublist_cons_self c L).cons_cons b).cons_cons a)) S
theorem eEa {I : Im} {A Q L L' : Ls} {h : Hp} {k : Nat → DV → Hp → aF} {P : DV → Hp → Prop} {b : Pos} {cs : List DV} (S : Sy I A Q L h) (r : Rpl b none (some (.row .ex cs)) L L')
 (H : ∀ h', Sy I A Q L' h' → Ev (fun m => k m (.p b 0) h') P) : Ev (fun m => bnd (uT b cs h) (k m)) P :=
 Ev.op (v := .p b 0) (h := ⟨h.next, Tr.set (.row .ex cs) b h.bl⟩) rfl (H _ (S.setL r rfl (fun c => eBp _ _ _ _)))
theorem cMy {I : Im} {A Q L : Ls} {h : Hp} (S : Sy I A Q L h) {t : List Nat} {x : DV} (hx : x.one = true) :
 Ev (fun n => aI n 149 [.s t, x] h) (fun v h' => v = .a [.i .i64 (Int.ofNat 7), .s t, .i .i64 (Int.ofNat 0), .l0, .l0, x] ∧ Sy I A Q L h') := by
 refine Ev.enter (fun n => aRn n _ _ h) ?_
 unfold s149
 refine wa fun _ _ _ => ?_; refine wd ?_; refine wt fun _ _ => ?_; refine ws ?_
 exact eAs ⟨rfl, dp⟩
theorem aFl {P : PF} (HP : uE 137 P) (g : Nat) : ∀ (f j : Nat) (I : Im) (B A L : Ls) (h : Hp) (p : Pos) (s x : DV) (st : PSt) (t : List Nat) (xs : List Node) (y : Node) (cells z : List DV) (st' : PSt) (b4 b5 : Pos),
 Sy I (B ++ A) [PS p s st] ((b5, some (.row .ex [.i .i64 (Int.ofNat 7), .s t, .i .i64 (Int.ofNat 0), .l0, .l0, x])) :: (b4, some (.row .ex z)) :: L) h → Gr I 6 B x xs.length cells → NVL I xs cells → z.length = 6 → (∀ v ∈ z, v.one = true) →
 xs.length + f ≤ bG → TS' I s st.toks → oQ P g f t xs st = some (y, st') →
 Ev (fun n => oB (aI n) n (n - j) (.p p 0) (.p b4 0) (.p b5 0) h) (NPost I A L p y st')
 | 0, j, I, B, A, L, h, p, s, x, st, t, xs, y, cells, z, st', b4, b5, S, G, NL, z1, z2, hl, T, hm => by cases hm
 | f + 1, j, I, B, A, L, h, p, s, x, st, t, xs, y, cells, z, st', b4, b5, S, G, NL, z1, z2, hl, T, hm => by
  unfold oQ at hm
  obtain ⟨c, hc, hm⟩ := aT hm
  refine eAw j (ll := fun n m => oB (aI n) n m (.p p 0) (.p b4 0) (.p b5 0) h) (bb := fun n m => wY (aI n) n (oB (aI n) n m) (.p p 0) (.p b4 0) (.p b5 0) h) (fun _ _ => rfl) ?_
  have hx := G.one
  unfold wY fS
  refine eAr (eV S T hc) ?_
  rintro _ _ ⟨rfl, S1⟩
  cases c with
  | false =>
   rw [if_neg (by simp)] at hm
   simp only [aZ, bT] at hm
   obtain ⟨rfl, rfl⟩ := hm
   obtain ⟨J, gJ, S3, N3⟩ := G.nodes NL S1 (by omega)
   refine yj ?_; refine ws ?_; refine wt fun _ _ => ?_; refine ws ?_
   exact eAs ⟨J, s, _, rfl, gJ, dp, T.mono gJ, NV.of (SS.nil J) (SS.nil J) N3⟩
  | true =>
   rw [if_pos rfl] at hm
   obtain ⟨⟨t1, st1⟩, ht, hm⟩ := aT hm
   split at hm
   ·rename_i hlen
    obtain ⟨⟨y1, st2⟩, hy1, hm⟩ := aT hm
    obtain ⟨⟨y2, st3⟩, hy2, hm⟩ := aT hm
    obtain ⟨⟨y3, st4⟩, hy3, hm⟩ := aT hm
    refine yt (wf ?_); refine wl ?_
    refine eAr (cX S1 T ht) ?_
    rintro _ _ ⟨rfl, s2, S2, T2⟩
    refine Ev.cnd ?_ ?_
    ·rw [Bool.and_true]; exact dQ S2 (by repeat (first | exact bX | apply List.Mem.tail)) rfl rfl (mZ _)
    refine wp ?_
    refine eAz (by simp only [bG] at hlen; omega) ?_
    refine wf ?_; refine wu fun _ _ => ?_; refine wf ?_
    have Sr := Sy.res (by assumption)
    refine wl ?_
    refine eAr (HP _ _ _ _ _ _ _ _ _ Sr T2 hy1) ?_
    rintro _ _ ⟨J, s5, ds, rfl, g5, S5, T5, N5⟩
    refine Ev.cnd ?_ ?_
    ·rw [Bool.and_true]; exact dQ S5 (by repeat (first | exact bX | apply List.Mem.tail)) rfl hx G.beq
    refine eAr (uB g _ _ _ _ _ _ _ _ _ _ _ S5 T5 N5 hy2) ?_
    rintro _ _ ⟨K, s6, es, rfl, g6, S6, T6, N6⟩
    refine Ev.cnd ?_ ?_
    ·rw [Bool.and_true]; exact dQ S6 (by repeat (first | exact bX | apply List.Mem.tail)) rfl hx G.beq
    refine eAr (aFg HP g g _ _ _ _ _ _ _ _ _ _ _ S6 T6 N6 hy3) ?_
    rintro _ _ ⟨M, s7, fs, rfl, g7, S7, T7, N7⟩
    obtain ⟨l7, o7, q7⟩ := N7.shape
    refine Ev.cnd ?_ ?_
    ·rw [Bool.and_true]; exact dQ S7 (by repeat (first | exact bX | apply List.Mem.tail)) rfl hx G.beq
    refine eBl S7 (by repeat (first | exact Rpl.head _ | apply Rpl.tail)) (fV l7) ?_
    intro h8 S8
    have g57 := (g5.trans g6).trans g7
    obtain ⟨x10, h10, B10, cells10, e10, S10, G10, NL10⟩ := eW (G.mono g57) (NL.mono g57) N7 S8 (by repeat (first | exact bX | apply List.Mem.tail)) (by omega)
    have hx10 := G10.one
    refine Ev.op e10 ?_
    refine wf ?_; refine wu fun _ _ => ?_
    refine (aFl HP g f (j + 1) M B10 A L _ p s7 x10 st4 (t ++ t1.text) (xs ++ [y3]) y cells10 z st' b4 b5 ?_ G10 NL10 z1 z2 (by simp; omega) T7 hm).mono (NPost.le g57)
    exact Sy.dropL (by assumption)
   ·cases hm
theorem aYb {P : PF} (HP : uE 137 P) (g : Nat) (hg : g + 1 ≤ bG) : dKh 134 (uF P g) := by
 intro I A L h p s st x y cs st' S T N hm
 unfold uF at hm
 obtain ⟨c, hc, hm⟩ := aT hm
 obtain ⟨l1, o1, q1⟩ := N.shape
 refine Ev.enter (fun n => cAy n _ _ h) ?_
 unfold s134 aGu
 refine wb fun _ _ _ => ?_; refine wa fun _ _ _ => ?_
 refine eAr (eV (by assumption) T hc) ?_
 rintro _ _ ⟨rfl, S1⟩
 cases c with
 | false =>
  refine ao (yt ?_); refine ws ?_; refine wt fun _ _ => ?_; refine ws ?_
  rw [if_neg (by simp)] at hm
  simp only [aZ, bT] at hm
  obtain ⟨rfl, rfl⟩ := hm
  exact eAs ⟨I, s, cs, rfl, ILe.refl _, dp, T, N⟩
 | true =>
  rw [if_pos rfl] at hm
  unfold aIo aGk aVo
  refine an (yj ?_); refine ws ?_
  refine eBm S1 (fV l1) ?_
  intro b2 h2 S2
  obtain ⟨J, gJ, S4, F4, G4⟩ := Fz.built (sz := 6) (n := 1) S2 (by omega) o1
  refine eAr (cMy S4 rfl) ?_
  rintro _ _ ⟨rfl, S5⟩
  refine wa fun _ _ _ => ?_; refine wt fun _ _ => ?_
  exact (aFl HP g g 0 J [] A L _ p s _ st [] [x] y cs _ st' _ _ (eDz (by assumption)) G4 (eBf (N.mono gJ)) (by rfl) (by first | assumption | exact bV _ | (repeat (first | exact aX | refine aU (by first | rfl | assumption | exact Fz.one (by assumption)) ?_))) (by simp; omega) (T.mono gJ) hm).mono (NPost.le gJ)
theorem dGv {P : PF} (HP : uE 137 P) (g : Nat) (hg : g + 1 ≤ bG) : uE 139 (aTg P g) := by
 intro I A L h p s st x st' S T hm
 unfold aTg at hm
 obtain ⟨t, ht, hm⟩ := aT hm
 refine Ev.enter (fun n => bRe n _ h) ?_
 unfold s139
 refine wa fun _ _ _ => ?_; refine wa fun _ _ _ => ?_
 refine eAr (iR (k := 0) (by assumption) T ht) ?_
 rintro _ _ ⟨rfl, S1⟩
 refine wa fun _ _ _ => ?_; refine wt fun _ _ => ?_; refine wf ?_; refine wl ?_
 have NZ : ∀ J : Im, NV J zN [.i .i64 (Int.ofNat 0), .s [], .i .i64 (Int.ofNat 0), .l0, .l0, .l0] := fun J => NV.flat _ _ _
 have ZO : ∀ v ∈ [DV.i .i64 (Int.ofNat 0), .s [], .i .i64 (Int.ofNat 0), .l0, .l0, .l0], v.one = true := by first | assumption | exact bV _ | (repeat (first | exact aX | refine aU (by first | rfl | assumption | exact Fz.one (by assumption)) ?_))
 refine eAv (fun e1 => ?_) (fun e1 => ?_)
 ·rw [if_pos (show t.kind = 1 from e1)] at hm
  obtain ⟨⟨t1, st1⟩, ht1, hm⟩ := aT hm
  simp only [aZ, bT] at hm
  obtain ⟨rfl, rfl⟩ := hm
  refine yt ?_
  refine eAr (cX (by assumption) T ht1) ?_
  rintro _ _ ⟨rfl, s2, S2, T2⟩
  refine wf ?_; refine wl ?_; refine ws ?_
  refine eBm S2 (fV rfl) ?_
  intro b3 h3 S3
  obtain ⟨J, gJ, S4, F4, _⟩ := Fz.built (sz := 6) (n := 1) S3 rfl ZO
  have N4 : NS J _ [zN] := ⟨by simp [bG], _, F4, eBf (NZ J)⟩
  refine eAr (xS S4 N4) ?_
  rintro _ _ ⟨cs5, rfl, N5, S5⟩
  obtain ⟨l5, o5, b5⟩ := N5.shape
  refine wt fun _ _ => ?_; refine ws ?_
  exact eAs ⟨J, s2, _, rfl, gJ, dp, T2.mono gJ, N5⟩
 ·rw [if_neg (show ¬ t.kind = 1 from e1)] at hm
  refine yj ?_
  refine eAv (fun e2 => ?_) (fun e2 => ?_)
  ·rw [if_pos (show t.kind = 3 from e2)] at hm
   obtain ⟨⟨t1, st1⟩, ht1, hm⟩ := aT hm
   obtain ⟨⟨y1, st2⟩, hy1, hm⟩ := aT hm
   obtain ⟨⟨y2, st3⟩, hy2, hm⟩ := aT hm
   simp only [aZ, bT] at hm
   obtain ⟨rfl, rfl⟩ := hm
   refine yt ?_
   refine eAr (cX (by assumption) T ht1) ?_
   rintro _ _ ⟨rfl, s2, S2, T2⟩
   have Sr := S2.res
   refine wf ?_; refine wl ?_; refine ws ?_
   refine eAr (HP _ _ _ _ _ _ _ _ _ Sr T2 hy1) ?_
   rintro _ _ ⟨J, s5, ds, rfl, g5, S5, T5, N5⟩
   refine Ev.cnd ?_ ?_
   ·rw [aEq (n := 6) S5 (by repeat (first | exact bX | apply List.Mem.tail)) rfl ZO (NZ J).shape.2.2, dQ S5 (by repeat (first | exact bX | apply List.Mem.tail)) rfl rfl (mZ _)]; rfl
   refine eAr (uB g _ _ _ _ _ _ _ _ _ _ _ S5 T5 N5 hy2) ?_
   rintro _ _ ⟨K, s6, es, rfl, g6, S6, T6, N6⟩
   obtain ⟨l6, o6, q6⟩ := N6.shape
   refine Ev.cnd ?_ ?_
   ·rw [aEq (n := 6) S6 (by repeat (first | exact bX | apply List.Mem.tail)) rfl ZO (NZ J).shape.2.2, dQ S6 (by repeat (first | exact bX | apply List.Mem.tail)) rfl rfl (mZ _)]; rfl
   refine eBl S6 (by repeat (first | exact Rpl.head _ | apply Rpl.tail)) (aLt rfl l6) ?_
   intro h7 S7
   have NL7 : NVL K [zN, y2] (_ ++ es) := (eBf (NZ K)).app (eBf N6)
   obtain ⟨c1, c2⟩ := NL7.shape
   obtain ⟨M, g8, S8, F8, _⟩ := Fz.built (sz := 6) (n := 2) S7 c1 c2
   have N8 : NS M _ [zN, y2] := ⟨by simp [bG], _, F8, NL7.mono g8⟩
   refine eAr (xS S8 N8) ?_
   rintro _ _ ⟨cs9, rfl, N9, S9⟩
   obtain ⟨l9, o9, q9⟩ := N9.shape
   refine wt fun _ _ => ?_; refine ws ?_
   exact eAs ⟨M, s6, _, rfl, (g5.trans g6).trans g8, dp, T6.mono g8, N9⟩
  ·rw [if_neg (show ¬ t.kind = 3 from e2)] at hm
   refine yj ?_
   refine eAv (fun e3 => ?_) (fun e3 => ?_)
   ·rw [if_pos (show t.kind = 2 from e3)] at hm
    refine yt ?_; refine ws ?_
    refine eAr (aYb HP g hg _ _ _ _ _ _ _ _ _ _ _ (by assumption) T (NZ I) hm) ?_
    rintro _ _ ⟨J, s5, ds, rfl, g5, S5, T5, N5⟩
    obtain ⟨l5, o5, q5⟩ := N5.shape
    refine wt fun _ _ => ?_; refine ws ?_
    exact eAs ⟨J, s5, _, rfl, g5, dp, T5, N5⟩
   ·rw [if_neg (show ¬ t.kind = 2 from e3)] at hm
    simp only [aZ, bT] at hm
    obtain ⟨rfl, rfl⟩ := hm
    refine yj ?_; refine ws ?_
    refine eAr (lT (by assumption) T.2.one t _) ?_
    rintro _ _ ⟨rfl, S6⟩
    refine ws ?_; refine wt fun _ _ => ?_; refine ws ?_
    exact eAs ⟨I, s, _, rfl, ILe.refl _, dp, by rw [bJ]; exact T, NZ I⟩
theorem aSw {P : PF} (HP : uE 137 P) (g : Nat) (hg : g + 1 ≤ bG) : ∀ (f j : Nat) (I : Im) (B A L : Ls) (h : Hp) (p : Pos) (s x : DV) (st : PSt) (xs : List Node) (y : Node) (cells z : List DV) (st' : PSt) (b2 b4 : Pos),
 Sy I (B ++ A) [PS p s st] ((b4, some (.row .ex [.i .i64 (Int.ofNat 8), .s [], .i .i64 (Int.ofNat 0), .l0, .l0, x])) :: (b2, some (.row .ex z)) :: L) h → Gr I 6 B x xs.length cells → NVL I xs cells → z.length = 6 → (∀ v ∈ z, v.one = true) →
 xs.length + f ≤ bG → TS' I s st.toks → aQc P g f xs st = some (y, st') →
 Ev (fun n => nL (aI n) n (n - j) (.p p 0) (.p b2 0) (.p b4 0) h) (NPost I A L p y st')
 | 0, j, I, B, A, L, h, p, s, x, st, xs, y, cells, z, st', b2, b4, S, G, NL, z1, z2, hl, T, hm => by cases hm
 | f + 1, j, I, B, A, L, h, p, s, x, st, xs, y, cells, z, st', b2, b4, S, G, NL, z1, z2, hl, T, hm => by
  unfold aQc at hm
  obtain ⟨c, hc, hm⟩ := aT hm
  refine eAw j (ll := fun n m => nL (aI n) n m (.p p 0) (.p b2 0) (.p b4 0) h) (bb := fun n m => xO (aI n) n (nL (aI n) n m) (.p p 0) (.p b2 0) (.p b4 0) h) (fun _ _ => rfl) ?_
  have hx := G.one
  unfold xO fN
  refine eAr (eV S T hc) ?_
  rintro _ _ ⟨rfl, S1⟩
  cases c with
  | false =>
   rw [if_neg (by simp)] at hm
   simp only [aZ, bT] at hm
   obtain ⟨rfl, rfl⟩ := hm
   obtain ⟨J, gJ, S3, N3⟩ := G.nodes NL S1 (by omega)
   refine yj ?_; refine ws ?_; refine wt fun _ _ => ?_; refine ws ?_
   exact eAs ⟨J, s, _, rfl, gJ, dp, T.mono gJ, NV.of (SS.nil J) (SS.nil J) N3⟩
  | true =>
   rw [if_pos rfl] at hm
   obtain ⟨⟨t1, st1⟩, ht, hm⟩ := aT hm
   obtain ⟨⟨y1, st2⟩, hy1, hm⟩ := aT hm
   refine yt ?_
   refine eAr (cX S1 T ht) ?_
   rintro _ _ ⟨rfl, s2, S2, T2⟩
   have Sr := S2.res
   refine wf ?_; refine wl ?_
   refine eAr (dGv HP g hg _ _ _ _ _ _ _ _ _ Sr T2 hy1) ?_
   rintro _ _ ⟨J, s5, ds, rfl, g5, S5, T5, N5⟩
   refine Ev.cnd ?_ ?_
   ·rw [Bool.and_true]; exact dQ S5 (by repeat (first | exact bX | apply List.Mem.tail)) rfl hx G.beq
   refine eAr (aCs S5 N5) ?_
   rintro _ _ ⟨K, es, rfl, g6, S6, N6⟩
   obtain ⟨l6, o6, q6⟩ := N6.shape
   refine Ev.cnd ?_ ?_
   ·rw [Bool.and_true]; exact dQ S6 (by repeat (first | exact bX | apply List.Mem.tail)) rfl hx G.beq
   refine eBl S6 (by repeat (first | exact Rpl.head _ | apply Rpl.tail)) (fV l6) ?_
   intro h8 S8
   have g56 := g5.trans g6
   obtain ⟨x10, h10, B10, cells10, e10, S10, G10, NL10⟩ := eW (G.mono g56) (NL.mono g56) N6 S8 (by repeat (first | exact bX | apply List.Mem.tail)) (by omega)
   have hx10 := G10.one
   refine Ev.op e10 ?_
   refine wf ?_; refine wu fun _ _ => ?_
   refine (aSw HP g hg f (j + 1) K B10 A L _ p s5 x10 st2 (xs ++ [kB y1]) y cells10 z st' b2 b4 ?_ G10 NL10 z1 z2 (by simp; omega) (T5.mono g6) hm).mono (NPost.le g56)
   exact Sy.dropL (by assumption)
theorem aTv {P : PF} (HP : uE 137 P) (g : Nat) (hg : g + 2 ≤ bG) : uE 114 (lE P g) := by
 intro I A L h p s st x st' S T hm
 unfold lE at hm
 obtain ⟨⟨y1, st1⟩, hy1, hm⟩ := aT hm
 obtain ⟨⟨y2, st2⟩, hy2, hm⟩ := aT hm
 obtain ⟨⟨y3, st3⟩, hy3, hm⟩ := aT hm
 obtain ⟨⟨y4, st4⟩, hy4, hm⟩ := aT hm
 obtain ⟨c, hc, hm⟩ := aT hm
 refine Ev.enter (fun n => bSk n _ h) ?_
 unfold s114 vN
 refine wa fun _ _ _ => ?_
 refine eAr (HP _ _ _ _ _ _ _ _ _ (by assumption) T hy1) ?_
 rintro _ _ ⟨J1, s1, c1, rfl, g1, S1, T1, N1⟩
 refine eAr (uB g _ _ _ _ _ _ _ _ _ _ _ S1 T1 N1 hy2) ?_
 rintro _ _ ⟨J2, s2, c2, rfl, g2, S2, T2, N2⟩
 refine eAr (aFg HP g g _ _ _ _ _ _ _ _ _ _ _ S2 T2 N2 hy3) ?_
 rintro _ _ ⟨J3, s3, c3, rfl, g3, S3, T3, N3⟩
 refine eAr (aYb HP g (by omega) _ _ _ _ _ _ _ _ _ _ _ S3 T3 N3 hy4) ?_
 rintro _ _ ⟨J4, s4, c4, rfl, g4, S4, T4, N4⟩
 have g14 := ((g1.trans g2).trans g3).trans g4
 obtain ⟨l4, o4, q4⟩ := N4.shape
 refine wa fun _ _ _ => ?_; refine wt fun _ _ => ?_
 unfold aGc
 refine eAr (eV (by assumption) T4 hc) ?_
 rintro _ _ ⟨rfl, S5⟩
 cases c with
 | false =>
  rw [if_neg (by simp)] at hm
  simp only [aZ, bT] at hm
  obtain ⟨rfl, rfl⟩ := hm
  refine ao (yt ?_); refine ws ?_; refine wt fun _ _ => ?_; refine ws ?_
  exact eAs ⟨J4, s4, _, rfl, g14, dp, T4, N4⟩
 | true =>
  rw [if_pos rfl] at hm
  have N4' := N4
  obtain ⟨k, t, m, ns, ts, ks⟩ := y4
  obtain ⟨d1, d2, d3, rfl, a1, a2, a3, cells, F, NL⟩ := N4
  have o1 := a1.2.one
  have o2 := a2.2.one
  have o3 := F.one
  unfold aGd
  refine an (yj (wf ?_)); refine wl ?_
  refine eBi (fun e1 => ?_) (fun e1 => ?_)
  ·rw [if_neg (show ¬ Node.kind (.mk k t m ns ts ks) = 7 from e1)] at hm
   obtain ⟨u, hu, hm⟩ := aT hm
   simp only [aZ, bT] at hm
   obtain ⟨rfl, rfl⟩ := hm
   refine yt ?_
   refine eAr (iR (k := 0) (by assumption) T4 hu) ?_
   rintro _ _ ⟨rfl, S6⟩
   refine eAr (lT S6 T4.2.one u _) ?_
   rintro _ _ ⟨rfl, S7⟩
   refine ws ?_; refine wt fun _ _ => ?_; refine ws ?_
   exact eAs ⟨J4, s4, _, rfl, g14, dp, by rw [bJ]; exact T4, N4'⟩
  ·rw [if_pos (show Node.kind (.mk k t m ns ts ks) = 7 from e1)] at hm
   obtain ⟨k0, hk0, hm⟩ := aT hm
   refine yj ?_
   unfold aJf
   rename_i bx _ _ by' _ _ _ _
   have Sr : Sy J4 A [PS p s4 st4] ((_, none) :: (_, none) :: _) (fP 2 _) := S5.res.res
   have NS3 : NS J4 d3 ks := ⟨a3, cells, F, NL⟩
   obtain ⟨b6, o6, c6, i6, N6, L6⟩ := NS3.at (i := 0) hk0
   refine wf ?_; refine wl ?_
   refine Ev.op (i6 _) (Ev.op (L6 J4 _ _ _ _ (ILe.refl _) Sr) ?_)
   refine ws ?_
   refine eAr (aCs Sr N4') ?_
   rintro _ _ ⟨K, es, rfl, g7, S7, N7⟩
   obtain ⟨l7, o7, q7⟩ := N7.shape
   obtain ⟨l6, o6', q6⟩ := N6.shape
   refine Ev.cnd ?_ ?_
   ·rw [L6 K _ _ _ _ g7 S7, dQ S7 (by repeat (first | exact bX | apply List.Mem.tail)) rfl o3 F.beq]
    simpa [aG, bM] using q6
   refine eBl S7 (by repeat (first | exact Rpl.head _ | apply Rpl.tail)) (aLt l6 l7) ?_
   intro h8 S8
   have NL8 : NVL K [k0, kB (.mk k t m ns ts ks)] (c6 ++ es) := (eBf (N6.mono g7)).app (eBf N7)
   obtain ⟨e8, e9⟩ := NL8.shape
   obtain ⟨M, g9, S9, F9, G9⟩ := Fz.built (sz := 6) (n := 2) S8.swap e8 e9
   refine wd ?_
   refine eEa S9 (Rpl.head _) ?_
   intro h10 S10
   refine wt fun _ _ => ?_
   unfold aHl aUb
   refine (aSw HP g (by omega) g 0 M [] A L _ p s4 _ st4 [k0, kB (.mk k t m ns ts ks)] x (c6 ++ es) _ st' _ _ (eDy (by assumption)) G9 (NL8.mono g9) (by rfl) (by first | assumption | exact bV _ | (repeat (first | exact aX | refine aU (by first | rfl | assumption | exact Fz.one (by assumption)) ?_))) (by simp; omega) ((T4.mono g7).mono g9) hm).mono (NPost.le ((g14.trans g7).trans g9))
theorem cIc {P E : PF} (HP : uE 137 P) (HE : uE 79 E) (g : Nat) (hg : g + 2 ≤ bG) : uE 79 (tW P E g) := by
 intro I A L h p s st x st' S T hm
 unfold tW at hm
 obtain ⟨c, hc, hm⟩ := aT hm
 obtain ⟨d, hd, hm2⟩ := aT hm
 refine Ev.enter (fun n => cUo n _ h) ?_
 unfold s79
 refine wa fun _ _ _ => ?_
 refine eAr (eV (by assumption) T hc) ?_
 rintro _ _ ⟨rfl, S1⟩
 have cas : d = false → ∀ (b1 : Pos) (z : List DV) h', z.length = 6 → (∀ v ∈ z, v.one = true) → Sy I A [PS p s st] ((b1, some (.row .ex z)) :: L) h' →
  Ev (fun n => bnd (aI n 114 [.p p 0] h') fun v21 h21 => bnd (aC 6 (.p b1 0) v21 h21) fun _ h22 => bnd (aD 6 (.p b1 0) h22) fun v23 _ => some (v23, h22)) (NPost I A L p x st') := by
  intro hd0 b1 z h' z1 z2 S'
  subst hd0
  rw [if_neg (by simp)] at hm2
  refine eAr (aTv HP g hg _ _ _ _ _ _ _ _ _ S' T hm2) ?_
  rintro _ _ ⟨J, s5, ds, rfl, g5, S5, T5, N5⟩
  obtain ⟨l5, o5, q5⟩ := N5.shape
  refine wt fun _ _ => ?_; refine ws ?_
  exact eAs ⟨J, s5, _, rfl, g5, dp, T5, N5⟩
 cases c with
 | false =>
  simp only [Bool.false_eq_true, if_false, aZ] at hd
  have C := cas hd.symm _ _ _ rfl (by first | assumption | exact bV _ | (repeat (first | exact aX | refine aU (by first | rfl | assumption | exact Fz.one (by assumption)) ?_))) S1
  refine yf (yf (yf (yf (aq (yj ?_)))))
  exact C
 | true =>
  rw [if_pos rfl] at hd
  obtain ⟨t, ht, hd⟩ := aT hd
  simp only [aZ] at hd
  refine zt (wm (zt ?_))
  refine eAr (iR (k := 1) S1 T ht) ?_
  rintro _ _ ⟨rfl, S2⟩
  refine zt ?_; refine wp ?_; refine zt ?_
  refine eAv (fun e1 => ?_) (fun e1 => ?_)
  ·rw [decide_eq_true (show t.kind = 9 from e1)] at hd
   subst hd
   rw [if_pos rfl] at hm2
   obtain ⟨⟨t1, st1⟩, ht1, hm2⟩ := aT hm2
   obtain ⟨⟨t2, st2⟩, ht2, hm2⟩ := aT hm2
   obtain ⟨⟨y, st3⟩, hy, hm2⟩ := aT hm2
   simp only [aZ, bT] at hm2
   obtain ⟨rfl, rfl⟩ := hm2
   refine ap (yt ?_)
   refine eAr (cX S2 T ht1) ?_
   rintro _ _ ⟨rfl, s3, S3, T3⟩
   refine wp ?_; refine wd ?_; refine wa fun _ _ _ => ?_; refine wt fun _ _ => ?_
   refine eAr (cX (by assumption) T3 ht2) ?_
   rintro _ _ ⟨rfl, s4, S4, T4⟩
   refine eAr (HE _ _ _ _ _ _ _ _ _ S4 T4 hy) ?_
   rintro _ _ ⟨J, s5, ds, rfl, g5, S5, T5, N5⟩
   obtain ⟨l5, o5, q5⟩ := N5.shape
   refine eBm S5 (fV l5) ?_
   intro b6 h6 S6
   obtain ⟨K, g7, S7, F7, _⟩ := Fz.built (sz := 6) (n := 1) S6 (by omega) o5
   have N7 : NS K _ [y] := ⟨by simp [bG], ds, F7, eBf (N5.mono g7)⟩
   refine wf ?_; refine wu fun _ _ => ?_; refine ws ?_; refine wt fun _ _ => ?_; refine ws ?_
   exact eAs ⟨K, s5, _, rfl, g5.trans g7, dp, T5.mono g7, NV.of (SS.nil K) (SS.nil K) N7⟩
  ·rw [decide_eq_false (show ¬ t.kind = 9 from e1)] at hd
   have C := cas hd.symm _ _ _ rfl (by first | assumption | exact bV _ | (repeat (first | exact aX | refine aU (by first | rfl | assumption | exact Fz.one (by assumption)) ?_))) S2
   refine ap (yj ?_)
   exact C
theorem aDb : ∀ (f : Nat), f + 2 ≤ bG → uE 79 (mO f)
 | 0, _ => fun I A L h p s st x st' S T hm => by cases hm
 | f + 1, hf => cIc (aVr (bMt f (by omega)) (aDb f (by omega)) f (by omega)) (aDb f (by omega)) f (by omega)
end Go.Dd

namespace Go.Dd
open Go.Proofs
def bB (c : Nat) : Bool := (decide (97 ≤ c) && decide (c ≤ 122)) || (decide (65 ≤ c) && decide (c ≤ 90))
def bQ (c : Nat) : Bool := decide (48 ≤ c) && decide (c ≤ 57)
def fX (c : Nat) : Bool := bB c || bQ c
def dM (c : Nat) : Bool := !decide (c = 39)
def dK (l : List Nat) (c : Nat) : Bool := l.contains c
section
variable {k : Nat → DV → Hp → aF} {P : DV → Hp → Prop} {h : Hp}
theorem eBd {l : List Nat} (H : Ev (fun n => k n (.i .i64 (l.length : Int)) h) P) : Ev (fun n => bnd (dE (.s l) h) (k n)) P := H
theorem iK {l : List Nat} {i c : Nat} (e : l[i]? = some c) (h : Hp) : bK (.s l) (.i .i64 (i : Int)) h = some (.i .u8 (Int.ofNat c), h) := by
 show (if 0 ≤ (i : Int) then (match l[(i : Int).toNat]? with
  | some c => some (DV.i .u8 (c : Int), h)
  | none => none) else none) = _
 rw [if_pos (by omega), show (i : Int).toNat = i by omega, e]
 rfl
theorem wT {l : List Nat} {a b : Nat} (h1 : a ≤ b) (h2 : b ≤ l.length) (h : Hp) : dC (.s l) (some (.i .i64 (a : Int))) (some (.i .i64 (b : Int))) h = some (.s ((l.take b).drop a), h) := by
 have e1 : hiD (some (.i .i64 (b : Int))) l.length l.length = some b := by
  show (if 0 ≤ (b : Int) ∧ (b : Int) ≤ (l.length : Int) then some (b : Int).toNat else none) = _
  rw [if_pos ⟨by omega, by omega⟩]; rfl
 have e2 : loD (some (.i .i64 (a : Int))) b = some a := by
  show (if 0 ≤ (a : Int) ∧ (a : Int) ≤ (b : Int) then some (a : Int).toNat else none) = _
  rw [if_pos ⟨by omega, by omega⟩]; rfl
 simp only [dC, e1, e2]
theorem dYq {l : List Nat} {a : Nat} (h1 : a ≤ l.length) (h : Hp) : dC (.s l) (some (.i .i64 (a : Int))) none h = some (.s (l.drop a), h) := by
 have e1 : hiD none l.length l.length = some l.length := by simp [hiD]
 have e2 : loD (some (.i .i64 (a : Int))) l.length = some a := by
  show (if 0 ≤ (a : Int) ∧ (a : Int) ≤ (l.length : Int) then some (a : Int).toNat else none) = _
  rw [if_pos ⟨by omega, by omega⟩]; rfl
 simp only [dC, e1, e2, List.take_length]
end
theorem bZh (n : Nat) (x : DV) (h : Hp) : aI (n + 1) 107 [x] h = s107 (aI n) n x h := by kernel_rfl
theorem cFk (n : Nat) (x : DV) (h : Hp) : aI (n + 1) 110 [x] h = s110 (aI n) n x h := by kernel_rfl
theorem bSt (n : Nat) (x : DV) (h : Hp) : aI (n + 1) 132 [x] h = s132 (aI n) n x h := by kernel_rfl
theorem cEh (n : Nat) (x : DV) (h : Hp) : aI (n + 1) 133 [x] h = s133 (aI n) n x h := by kernel_rfl
theorem bTe (n : Nat) (x y : DV) (h : Hp) : aI (n + 1) 105 [x, y] h = s105 (aI n) n x y h := by kernel_rfl
theorem cTs (n : Nat) (x : DV) (h : Hp) : aI (n + 1) 75 [x] h = s75 (aI n) n x h := by kernel_rfl
theorem cVb (n : Nat) (x y : DV) (h : Hp) : aI (n + 1) 57 [x, y] h = s57 (aI n) n x y h := by kernel_rfl
theorem cQd (n : Nat) (x y : DV) (h : Hp) : aI (n + 1) 85 [x, y] h = s85 (aI n) n x y h := by kernel_rfl
theorem bPx (n : Nat) (x y : DV) (h : Hp) : aI (n + 1) 106 [x, y] h = s106 (aI n) n x y h := by kernel_rfl
theorem cHw (n : Nat) (x y z : DV) (h : Hp) : aI (n + 1) 74 [x, y, z] h = s74 (aI n) n x y z h := by kernel_rfl
theorem cBk (n : Nat) (x : DV) (h : Hp) : aI (n + 1) 108 [x] h = s108 (aI n) n x h := by kernel_rfl
theorem cDz (n : Nat) (x : DV) (h : Hp) : aI (n + 1) 109 [x] h = s109 (aI n) n x h := by kernel_rfl
theorem cTz (rec : FuncId → List DV → Hp → aF) (x y : DV) (h : Hp) : eA CF rec (.f 105 [] [y]) [x] h = rec 105 [x, y] h := by kernel_rfl
theorem cSe (rec : FuncId → List DV → Hp → aF) (x : DV) (h : Hp) : eA CF rec (.f 110 [] []) [x] h = rec 110 [x] h := by kernel_rfl
theorem cLy (rec : FuncId → List DV → Hp → aF) (x : DV) (h : Hp) : eA CF rec (.f 132 [] []) [x] h = rec 132 [x] h := by kernel_rfl
theorem cMt (rec : FuncId → List DV → Hp → aF) (x : DV) (h : Hp) : eA CF rec (.f 133 [] []) [x] h = rec 133 [x] h := by kernel_rfl
theorem mU (c : Nat) (h : Hp) : Ev (fun n => aI n 107 [.i .u8 (Int.ofNat c)] h) (fun v h' => v = .b (bB c) ∧ h' = h) := by
 refine Ev.enter (fun n => bZh n _ h) ?_
 unfold s107
 refine eBo (fun e1 => ?_) (fun e1 => ?_)
 ·refine zt (wm (zt ?_))
  refine eCh (fun e2 => ?_) (fun e2 => ?_)
  ·refine ap (yg (yg (yg (yu (yu (yg (ap ?_)))))))
   exact eAs ⟨by simp at e1 e2; simp [bB]; omega, rfl⟩
  ·refine ap (zf (wm (zf ?_)))
   refine eBo (fun e3 => ?_) (fun e3 => ?_)
   ·refine zf (wm (zt (wm (zt ?_))))
    refine eCh (fun e4 => ?_) (fun e4 => ?_)
    ·refine zf (ap (aq ?_))
     exact eAs ⟨by simp at e1 e2 e3 e4; omega, rfl⟩
    ·refine zf (ap (aq ?_))
     exact eAs ⟨by simp at e1 e2 e3 e4; simp [bB]; omega, rfl⟩
   ·refine zf (wm (yf (yf (zf (aq (aq ?_))))))
    exact eAs ⟨by simp at e1 e2 e3; omega, rfl⟩
 ·refine yf (yf (aq (zf (wm (zf ?_)))))
  refine eBo (fun e3 => ?_) (fun e3 => ?_)
  ·refine zf (wm (zt (wm (zt ?_))))
   refine eCh (fun e4 => ?_) (fun e4 => ?_)
   ·refine zf (ap (aq ?_))
    exact eAs ⟨by simp at e1 e3 e4; simp [bB]; omega, rfl⟩
   ·refine zf (ap (aq ?_))
    exact eAs ⟨by simp at e1 e3 e4; simp [bB]; omega, rfl⟩
  ·refine zf (wm (yf (yf (zf (aq (aq ?_))))))
   exact eAs ⟨by simp at e1 e3; simp [bB]; omega, rfl⟩
theorem aCl (c : Nat) (h : Hp) : Ev (fun n => aI n 110 [.i .u8 (Int.ofNat c)] h) (fun v h' => v = .b (bQ c) ∧ h' = h) := by
 refine Ev.enter (fun n => cFk n _ h) ?_
 unfold s110
 refine eBo (fun e1 => ?_) (fun e1 => ?_)
 ·refine zt (wm (zt ?_))
  refine eCh (fun e2 => ?_) (fun e2 => ?_)
  ·refine ap ?_
   exact eAs ⟨by simp at e1 e2; simp [bQ]; omega, rfl⟩
  ·refine ap ?_
   exact eAs ⟨by simp at e1 e2; simp [bQ]; omega, rfl⟩
 ·refine yf (yf (aq ?_))
  exact eAs ⟨by simp at e1; simp [bQ]; omega, rfl⟩
def aEr (I : Im) (f : DV) (so : Nat → Bool) : Prop := ∀ (J : Im) (A Q L : Ls) (h : Hp) (c : Nat), ILe I J → Sy J A Q L h → c < 256 → Ev (fun n => eA CF (aI n) f [.i .u8 (Int.ofNat c)] h) (fun v h' => v = .b (so c) ∧ h' = h)
theorem cFv (I : Im) : aEr I (.f 110 [] []) bQ := by
 intro J A Q L h c _ _ _
 simp only [cSe]
 exact aCl c h
theorem dHd (I : Im) : aEr I (.f 132 [] []) fX := by
 intro J A Q L h c _ _ _
 simp only [cLy]
 refine Ev.enter (fun n => bSt n _ h) ?_
 unfold s132
 refine eAr (mU c h) ?_
 rintro _ _ ⟨rfl, rfl⟩
 cases e : bB c with
 | true =>
  refine yg (yg (ap ?_))
  exact eAs ⟨by simp [fX, e], rfl⟩
 | false =>
  refine zf (wm (zf ?_))
  refine eAr (aCl c _) ?_
  rintro _ _ ⟨rfl, rfl⟩
  refine aq ?_
  exact eAs ⟨by simp [fX, e], rfl⟩
theorem dNz (I : Im) : aEr I (.f 133 [] []) dM := by
 intro J A Q L h c _ _ _
 simp only [cMt]
 refine Ev.enter (fun n => cEh n _ h) ?_
 unfold s133
 refine eBi (fun e1 => ?_) (fun e1 => ?_)
 ·exact eAs ⟨by simp at e1; simp [dM]; omega, rfl⟩
 ·exact eAs ⟨by simp at e1; simp [dM]; omega, rfl⟩
theorem aKt (c : Nat) : ∀ (l : List Nat) (i : Nat), decide (0 ≤ dZ c l i) = l.contains c
 | [], i => rfl
 | x :: l, i => by
  have ih := aKt c l (i + 1)
  unfold dZ
  cases e : Nat.beq x c with
  | true =>
   have e2 := Nat.eq_of_beq_eq_true e
   subst e2
   simp
  | false =>
   have e2 : ¬ x = c := fun e2 => by subst e2; simp at e
   simp only [cond_false, ih]
   have e3 : ¬ c = x := fun e3 => e2 e3.symm
   simp [e3]
theorem aBj (l : List Nat) (c : Nat) (hc : c < 256) (h : Hp) : Ev (fun n => aI n 57 [.s l, .i .u8 (Int.ofNat c)] h) (fun v h' => v = .i .i64 (dZ c l 0) ∧ h' = h) := by
 refine Ev.enter (fun n => cVb n _ _ h) ?_
 unfold s57
 refine eAr (F := fun n => aI n 85 [.s l, .i .u8 (Int.ofNat c)] h) (Q := fun v h' => v = .i .i64 (dZ c l 0) ∧ h' = h) ?_ ?_
 ·refine Ev.enter (fun n => cQd n _ _ h) ?_
  unfold s85
  have e : bJy [.s l, .i .u8 (Int.ofNat c)] h = some (.i .i64 (dZ c l 0), h) := by
   have e2 : Nat.blt c 256 = true := by simpa [aG, Nat.blt_eq] using hc
   show (bif Nat.blt c 256 then some (DV.i IntKind.i64 (dZ c l 0), h) else none) = _
   rw [e2]
   rfl
  refine Ev.op e ?_
  exact eAs ⟨rfl, rfl⟩
 ·rintro _ _ ⟨rfl, rfl⟩
  exact eAs ⟨rfl, rfl⟩
theorem aDu {I : Im} {A Q L : Ls} {h : Hp} (S : Sy I A Q L h) (l : List Nat) :
 Ev (fun n => aI n 75 [.s l] h) (fun v h' => ∃ J, ILe I J ∧ Sy J A Q L h' ∧ aEr J v (dK l)) := by
 refine Ev.enter (fun n => cTs n _ h) ?_
 unfold s75
 refine Ev.box S rfl ?_
 intro b h1 S1
 obtain ⟨S2, g⟩ := S1.freeze
 refine eAs ⟨_, g, S2, ?_⟩
 intro J A' Q' L' h' c gJ S' hc
 simp only [cTz]
 refine Ev.enter (fun n => bTe n _ _ h') ?_
 unfold s105
 refine eDs (S'.im _ _ (gJ _ _ (eCg _ _ _))) rfl rfl ?_
 refine eAr (aBj l c hc h') ?_
 rintro _ _ ⟨rfl, rfl⟩
 refine Ev.op (gF .geq (.b (decide (dZ c l 0 ≥ Int.ofNat 0))) rfl) ?_
 refine eAs ⟨?_, rfl⟩
 rw [show (decide (dZ c l 0 ≥ Int.ofNat 0)) = l.contains c from aKt c l 0]
 rfl
def RS (r : Pos) (s : List Nat) (at_ : Nat) : Pos × Option Ob := (r, some (.row .ex [.s s, .i .i64 (at_ : Int)]))
def dO (so : Nat → Bool) : Nat → List Nat → Nat
 | 0, _ => 0
 | _ + 1, [] => 0
 | m + 1, c :: u => if so c then dO so m u + 1 else 0
def aDx (s : List Nat) (i : Nat) : Nat := s.getD i 0
theorem oM (so : Nat → Bool) : ∀ (m : Nat) (u : List Nat), dO so m u ≤ u.length
 | 0, _ => by simp [dO]
 | _ + 1, [] => by simp [dO]
 | m + 1, c :: u => by
  have := oM so m u
  simp only [dO, List.length_cons]
  split <;> omega
section
variable {I : Im} {A L : Ls} {h : Hp} {r : Pos} {s : List Nat} {i : Nat}
theorem oX (n : Nat) (h : n ≤ 1000000000000) : IntKind.i64.wrap (n : Int) = (n : Int) := dW _ (by omega) (by omega)
theorem kU (S : Sy I A [RS r s i] L h) (hs : s.length ≤ bG) (hi : i ≤ s.length) (k : Nat) (hk : k ≤ 2) :
 Ev (fun n => aI n 106 [.p r 0, .i .i64 (Int.ofNat k)] h) (fun v h' => v = .i .u8 (Int.ofNat (aDx s (i + k))) ∧ h' = h) := by
 refine Ev.enter (fun n => bPx n _ _ h) ?_
 unfold s106
 have e0 : IntKind.i64.wrap ((i : Int) + Int.ofNat k) = ((i + k : Nat) : Int) := by
  rw [show (i : Int) + Int.ofNat k = ((i + k : Nat) : Int) by simp]
  exact oX _ (by simp only [bG] at hs; omega)
 refine wn (wf ?_); refine wq ?_
 refine eAx ?_
 rw [e0]
 refine wn (wf ?_); refine wq ?_
 refine eBd ?_
 refine eBo (fun e1 => ?_) (fun e1 => ?_)
 ·refine yt ?_
  have e2 : s.length ≤ i + k := by omega
  exact eAs ⟨by simp [aDx, List.getD, List.getElem?_eq_none e2], rfl⟩
 ·refine yj (wn (wf ?_)); refine wq ?_; refine wn (wf ?_); refine wq ?_
  refine eAx ?_
  rw [e0]
  have e2 : i + k < s.length := by omega
  refine Ev.op (iK (c := s[i + k]) (by simp [e2]) _) ?_
  exact eAs ⟨by simp [aDx, List.getD, e2], rfl⟩
theorem bRq {f : DV} {so : Nat → Bool} (C : aEr I f so) (hs : s.length ≤ bG) (hb : ∀ c ∈ s, c < 256) (from_ : Nat) : ∀ (m j i : Nat) (h : Hp) (lJ : Nat), Sy I A [RS r s i] L h → from_ ≤ i → i ≤ s.length → (i - from_) + m = lJ → lJ ≤ bG →
 Ev (fun n => nZ (aI n) n (n - j) (.p r 0) f (.i .i64 (lJ : Int)) (.i .i64 (from_ : Int)) h) (fun v h' => v = .s ((s.take (i + dO so m (s.drop i))).drop from_) ∧ Sy I A [RS r s (i + dO so m (s.drop i))] L h') := by
 intro m
 induction m with
 | zero =>
  intro j i h lJ S h1 h2 h3 h4
  refine eAw j (ll := fun n m => nZ (aI n) n m (.p r 0) f (.i .i64 (lJ : Int)) (.i .i64 (from_ : Int)) h) (bb := fun n m => uV (aI n) n (nZ (aI n) n m) (.p r 0) f (.i .i64 (lJ : Int)) (.i .i64 (from_ : Int)) h) (fun _ _ => rfl) ?_
  unfold uV iZ
  refine wn (wf ?_); refine wq ?_; refine wn (wf ?_); refine wq ?_
  refine eBd ?_
  have fin : Ev (fun n => bnd (dC (.s s) (some (.i .i64 (from_ : Int))) (some (.i .i64 (i : Int))) h) fun v7 h7 => some (v7, h7)) (fun v h' => v = .s ((s.take (i + dO so 0 (s.drop i))).drop from_) ∧ Sy I A [RS r s (i + dO so 0 (s.drop i))] L h') :=
   Ev.op (wT h1 h2 h) (eAs ⟨by simp [dO], by simpa [aG, dO] using S⟩)
  refine eBa (fun e1 => ?_) (fun e1 => ?_)
  ·refine zt (wm (zt (wn (zt (wf (zt ?_)))))); refine wq ?_; refine zt (wm (zt ?_))
   refine eBq ?_
   rw [show (i : Int) - (from_ : Int) = ((i - from_ : Nat) : Int) by omega, oX _ (by simp only [bG] at hs; omega)]
   refine zt (wm (zt ?_))
   refine eBa (fun e2 => ?_) (fun e2 => ?_)
   ·omega
   ·refine ap (yf (yf (yf (yf (yf (yf (yf (yf (yf (yf (yf (aq (yj (wn (wf ?_))))))))))))))); refine wq ?_; refine wn (wf ?_); refine wq ?_
    exact fin
  ·refine yf (yf (yf (yf (yf (yf (yf (yf (aq (yf (yf (yf (yf (yf (yf (yf (yf (yf (yf (yf (aq (yj (wn (wf ?_))))))))))))))))))))))); refine wq ?_; refine wn (wf ?_); refine wq ?_
   exact fin
 | succ m ih =>
  intro j i h lJ S h1 h2 h3 h4
  refine eAw j (ll := fun n m => nZ (aI n) n m (.p r 0) f (.i .i64 (lJ : Int)) (.i .i64 (from_ : Int)) h) (bb := fun n m => uV (aI n) n (nZ (aI n) n m) (.p r 0) f (.i .i64 (lJ : Int)) (.i .i64 (from_ : Int)) h) (fun _ _ => rfl) ?_
  unfold uV iZ
  refine wn (wf ?_); refine wq ?_; refine wn (wf ?_); refine wq ?_
  refine eBd ?_
  have fin : dO so (m + 1) (s.drop i) = 0 → Ev (fun n => bnd (dC (.s s) (some (.i .i64 (from_ : Int))) (some (.i .i64 (i : Int))) h) fun v7 h7 => some (v7, h7)) (fun v h' => v = .s ((s.take (i + dO so (m + 1) (s.drop i))).drop from_) ∧ Sy I A [RS r s (i + dO so (m + 1) (s.drop i))] L h') := fun e0 => by
   rw [e0]
   exact Ev.op (wT h1 h2 h) (eAs ⟨rfl, S⟩)
  refine eBa (fun e1 => ?_) (fun e1 => ?_)
  ·have e1' : i < s.length := by omega
   have hd : s.drop i = s[i] :: s.drop (i + 1) := List.drop_eq_getElem_cons e1'
   refine zt (wm (zt (wn (zt (wf (zt ?_)))))); refine wq ?_; refine zt (wm (zt ?_))
   refine eBq ?_
   rw [show (i : Int) - (from_ : Int) = ((i - from_ : Nat) : Int) by omega, oX _ (by simp only [bG] at hs; omega)]
   refine zt (wm (zt ?_))
   refine eBa (fun e2 => ?_) (fun e2 => ?_)
   ·refine ap (zt (wm (zt (wm (zt (wn (zt (wf (zt ?_))))))))); refine wq ?_; refine zt (wm (zt (wn (zt (wf (zt ?_)))))); refine wq ?_; refine zt ?_
    refine Ev.op (iK (c := s[i]) (by simp [e1']) _) ?_
    refine zt ?_
    refine eAr (C I _ _ _ _ s[i] (ILe.refl _) S (hb _ (List.getElem_mem e1'))) ?_
    rintro _ _ ⟨rfl, rfl⟩
    refine ap ?_
    cases e3 : so s[i] with
    | false =>
     refine yj (wn (wf ?_)); refine wq ?_; refine wn (wf ?_); refine wq ?_
     exact fin (by rw [hd]; simp [dO, e3])
    | true =>
     refine yt (wn (wf ?_)); refine wq ?_
     refine eAx ?_
     have e4 : IntKind.i64.wrap ((i : Int) + Int.ofNat 1) = ((i + 1 : Nat) : Int) := by
      rw [show (i : Int) + Int.ofNat 1 = ((i + 1 : Nat) : Int) by simp]
      exact oX _ (by simp only [bG] at hs; omega)
     rw [e4]
     refine wn (wf ?_); refine wv fun _ _ => ?_
     have := ih (j + 1) (i + 1) _ lJ (by assumption) (by omega) (by omega) (by omega) h4
     have e5 : i + 1 + dO so m (s.drop (i + 1)) = i + dO so (m + 1) (s.drop i) := by
      rw [hd]
      simp [dO, e3]
      omega
     rw [e5] at this
     exact this
   ·omega
  ·refine yf (yf (yf (yf (yf (yf (yf (yf (aq (yf (yf (yf (yf (yf (yf (yf (yf (yf (yf (yf (aq (yj (wn (wf ?_))))))))))))))))))))))); refine wq ?_; refine wn (wf ?_); refine wq ?_
   have e1' : s.drop i = [] := List.drop_eq_nil_of_le (by omega)
   exact fin (by rw [e1']; rfl)
theorem rG {f : DV} {so : Nat → Bool} (C : aEr I f so) (S : Sy I A [RS r s i] L h) (hs : s.length ≤ bG) (hb : ∀ c ∈ s, c < 256) (hi : i ≤ s.length) (lJ : Nat) (hm : lJ ≤ bG) :
 Ev (fun n => aI n 74 [.p r 0, f, .i .i64 (lJ : Int)] h) (fun v h' => v = .s ((s.drop i).take (dO so lJ (s.drop i))) ∧ Sy I A [RS r s (i + dO so lJ (s.drop i))] L h') := by
 refine Ev.enter (fun n => cHw n _ _ _ h) ?_
 unfold s74 bDf aXz bWo
 refine wn (wf ?_); refine wq ?_
 refine (bRq C hs hb i lJ 0 i h lJ S (Nat.le_refl _) hi (by omega) hm).mono ?_
 rintro v h' ⟨rfl, S'⟩
 refine ⟨?_, S'⟩
 rw [List.drop_take, Nat.add_sub_cancel_left]
end
end Go.Dd

namespace Go.Dd
open Go.Proofs
theorem tN (so : Nat → Bool) : ∀ (u : List Nat) (m : Nat), u.length ≤ m → dO so m u = (u.takeWhile so).length
 | [], 0, _ => rfl
 | [], _ + 1, _ => rfl
 | c :: u, 0, h => by simp at h
 | c :: u, m + 1, h => by
  have := tN so u m (by simpa using h)
  simp only [dO, this]
  cases e : so c <;> simp [e]
theorem tU (so : Nat → Bool) : ∀ (u : List Nat), u.take (u.takeWhile so).length = u.takeWhile so
 | [] => rfl
 | c :: u => by
  have := tU so u
  cases e : so c <;> simp [e, this]
theorem oR (so : Nat → Bool) : ∀ (u : List Nat), (u.takeWhile so).length ≤ u.length
 | [] => Nat.le_refl _
 | c :: u => by
  have := oR so u
  cases e : so c <;> simp [e]
  omega
theorem bYg (so : Nat → Bool) : ∀ (u : List Nat) (c : Nat), c ∈ u.takeWhile so → so c = true
 | [], c, h => by simp at h
 | d :: u, c, h => by
  cases e : so d with
  | false => simp [e] at h
  | true =>
   simp [e] at h
   rcases h with rfl | h
   ·exact e
   ·exact bYg so u c h
def nx (u : List Nat) (k : Nat) : Nat := u.getD k 0
def bH (u : List Nat) : List Nat × Int × Nat := if 24 < (u.takeWhile fX).length then ([], 12, (u.takeWhile fX).length) else (u.takeWhile fX, 0, (u.takeWhile fX).length)
def dP (u : List Nat) : Bool := decide (nx u 0 = 58) && !decide (nx u 1 = 61)
def mX : Int → List Nat → Int × Int
 | n, [] => (n, 0)
 | n, c :: w => if 115292150460684697 < n then (0, 2) else if 1152921504606846976 < n * 10 + ((c : Int) - 48) then (0, 2) else mX (n * 10 + ((c : Int) - 48)) w
def qH (u : List Nat) : Int × Int × Nat := ((mX 0 (u.takeWhile bQ)).1, (mX 0 (u.takeWhile bQ)).2, (u.takeWhile bQ).length)
def qR : Nat → List Nat → List Nat → Option (List Nat × Int × Nat)
 | 0, _, _ => none
 | f + 1, out, u =>
  if (u.takeWhile dM).length = u.length then some ([], 11, u.length)
  else if nx u ((u.takeWhile dM).length + 1) = 39 then
   (qR f (out ++ u.takeWhile dM ++ [39]) (u.drop ((u.takeWhile dM).length + 2))).bind fun r => some (r.1, r.2.1, r.2.2 + ((u.takeWhile dM).length + 2))
  else some (out ++ u.takeWhile dM, 0, (u.takeWhile dM).length + 1)
def signs : List Nat := [43, 45, 42, 47, 60, 62, 61, 126, 44, 64, 38, 37]
def marks : List Nat := [94, 46, 59, 40, 41, 91, 93, 124]
def bP : List Nat := [9, 10, 13, 32]
def aDr : Nat → List Nat → List Nat → Option (List Nat × Int × Nat)
 | 0, _, _ => none
 | f + 1, out, u =>
  if bB (nx u 0) then
   if dP (u.drop (bH u).2.2) then
    if (bH u).2.1 = 0 then (aDr f (out ++ ((bH u).1 ++ [58])) (u.drop ((bH u).2.2 + 1))).bind fun r => some (r.1, r.2.1, r.2.2 + ((bH u).2.2 + 1))
    else some ([], (bH u).2.1, (bH u).2.2 + 1)
   else some (out, 0, 0)
  else some (out, 0, 0)
def kT (f : Nat) (u : List Nat) : Option (List Nat × Int × Nat) :=
 if dO (dK signs) 2 u = 0 then
  if bB (nx u 0) then
   if (bH u).2.1 = 0 then
    if dP (u.drop (bH u).2.2) then (aDr f ((bH u).1 ++ [58]) (u.drop ((bH u).2.2 + 1))).bind fun r => some (r.1, r.2.1, r.2.2 + ((bH u).2.2 + 1))
    else some ((bH u).1, 0, (bH u).2.2)
   else some ((bH u).1, (bH u).2.1, (bH u).2.2)
  else some ([], 10, 0)
 else some (u.take (dO (dK signs) 2 u), 0, dO (dK signs) 2 u)
theorem kJ (s : List Nat) (i k : Nat) : aDx s (i + k) = nx (s.drop i) k := by simp [aDx, nx, List.getD, List.getElem?_drop]
theorem gB (u : List Nat) : (bH u).2.2 ≤ u.length := by
 unfold bH
 have := oR fX u
 split <;> exact this
section
variable {I : Im} {A L : Ls} {h : Hp} {r : Pos} {s : List Nat} {i : Nat}
theorem bJa (S : Sy I A [RS r s i] L h) (hs : s.length ≤ bG) (hb : ∀ c ∈ s, c < 256) (hi : i ≤ s.length) :
 Ev (fun n => aI n 108 [.p r 0] h) (fun v h' => v = .t [.s (bH (s.drop i)).1, .i .i64 (bH (s.drop i)).2.1] ∧ Sy I A [RS r s (i + (bH (s.drop i)).2.2)] L h') := by
 refine Ev.enter (fun n => cBk n _ h) ?_
 unfold s108
 refine wn (wf ?_); refine wq ?_
 refine eBd ?_
 refine eAr (rG (dHd I) S hs hb hi s.length hs) ?_
 rintro _ h1 ⟨rfl, S1⟩
 have e0 : dO fX s.length (s.drop i) = ((s.drop i).takeWhile fX).length := tN _ _ _ (by simp)
 rw [e0] at S1 ⊢
 rw [tU]
 refine eBd ?_
 unfold bH
 refine eBj (fun e1 => ?_) (fun e1 => ?_)
 ·refine yt ?_
  have e2 : 24 < ((s.drop i).takeWhile fX).length := by simp at e1; omega
  rw [if_pos e2]
  exact eAs ⟨rfl, S1⟩
 ·refine yj ?_
  have e2 : ¬ 24 < ((s.drop i).takeWhile fX).length := by simp at e1; omega
  rw [if_neg e2]
  exact eAs ⟨rfl, S1⟩
theorem eG {i : Nat} (k : Nat) (hs : i + k ≤ 1000000000000) : IntKind.i64.wrap ((i : Int) + Int.ofNat k) = ((i + k : Nat) : Int) := by
 rw [show (i : Int) + Int.ofNat k = ((i + k : Nat) : Int) by simp]
 exact oX _ hs
theorem aTy (S : Sy I A [RS r s i] L h) (hs : s.length ≤ bG) (hi : i ≤ s.length) :
 Ev (fun n => aI n 109 [.p r 0] h) (fun v h' => v = .b (dP (s.drop i)) ∧ Sy I A [RS r s (if dP (s.drop i) then i + 1 else i)] L h') := by
 refine Ev.enter (fun n => cDz n _ h) ?_
 unfold s109
 refine eAr (kU S hs hi 0 (by omega)) ?_
 rintro _ _ ⟨rfl, rfl⟩
 rw [kJ]
 unfold dP
 refine eBi (fun e1 => ?_) (fun e1 => ?_)
 ·refine yg (yg (yg (ap (yt ?_))))
  have e2 : ¬ nx (s.drop i) 0 = 58 := by simp at e1; omega
  simp only [e2, decide_false, Bool.false_and, Bool.false_eq_true, if_false]
  exact eAs ⟨rfl, S⟩
 ·refine zf (wm (zf ?_))
  have e2 : nx (s.drop i) 0 = 58 := by simp at e1; omega
  refine eAr (kU S hs hi 1 (by omega)) ?_
  rintro _ _ ⟨rfl, rfl⟩
  rw [kJ]
  refine zf ?_
  refine eAv (fun e3 => ?_) (fun e3 => ?_)
  ·refine aq (yt ?_)
   have e4 : nx (s.drop i) 1 = 61 := by simp at e3; omega
   simp only [e2, e4, decide_true, Bool.not_true, Bool.and_false, Bool.false_eq_true, if_false]
   exact eAs ⟨rfl, S⟩
  ·refine aq (yj (wn (wf ?_))); refine wq ?_
   have e4 : ¬ nx (s.drop i) 1 = 61 := by simp at e3; omega
   simp only [e2, e4, decide_true, decide_false, Bool.not_false, Bool.and_true, if_true]
   refine eAx ?_
   rw [eG 1 (by simp only [bG] at hs; omega)]
   refine wn (wf ?_); refine wv fun _ _ => ?_
   exact eAs ⟨rfl, by assumption⟩
theorem jU {u : List Nat} (h : dP u = true) : 1 ≤ u.length := by
 unfold dP at h
 cases u with
 | nil => simp [nx] at h
 | cons => simp
end
theorem dMr {I : Im} {A Q L L' : Ls} {h : Hp} {k : Nat → DV → Hp → aF} {P : DV → Hp → Prop} {b : Pos} {l : List Nat} {pos c : Nat} (S : Sy I A Q L h) (r : Rpl b (some (.it l pos)) (some (.it l (pos + 1))) L L') (e : l[pos]? = some c) (hc : c < 128)
 (H : ∀ h', Sy I A Q L' h' → Ev (fun m => k m (.t [.b true, .i .i64 (pos : Int), .i .i32 (c : Int)]) h') P) : Ev (fun m => bnd (vZ (.p b 0) h) (k m)) P := by
 refine Ev.op (v := .t [.b true, .i .i64 (pos : Int), .i .i32 (c : Int)]) (h := ⟨h.next, Tr.set (.it l (pos + 1)) b h.bl⟩) ?_ (H _ (S.setL r rfl (fun c => eBp _ _ _ _)))
 simp [vZ, S.memL r.at.1, e, hc]
theorem dUy {I : Im} {A Q L : Ls} {h : Hp} {k : Nat → DV → Hp → aF} {P : DV → Hp → Prop} {b : Pos} {l : List Nat} {pos : Nat} (S : Sy I A Q L h) (r : (b, some (.it l pos)) ∈ L) (e : l[pos]? = none)
 (H : Ev (fun m => k m (.t [.b false]) h) P) : Ev (fun m => bnd (vZ (.p b 0) h) (k m)) P := by
 refine Ev.op (v := .t [.b false]) (h := h) ?_ H
 simp [vZ, S.memL r, e]
theorem bSj (n : Nat) (x : DV) (h : Hp) : aI (n + 1) 111 [x] h = s111 (aI n) n x h := by kernel_rfl
theorem bUk (n : Nat) (x : DV) (h : Hp) : aI (n + 1) 112 [x] h = s112 (aI n) n x h := by kernel_rfl
theorem bQg (n : Nat) (x : DV) (h : Hp) : aI (n + 1) 113 [x] h = s113 (aI n) n x h := by kernel_rfl
theorem cLv (n : Nat) (x : DV) (h : Hp) : aI (n + 1) 76 [x] h = s76 (aI n) n x h := by kernel_rfl
theorem cNx (n : Nat) (x : DV) (h : Hp) : aI (n + 1) 48 [x] h = s48 (aI n) n x h := by kernel_rfl
theorem bNv {I : Im} {A Q L : Ls} {b : Pos} {l : List Nat} (hd : ∀ c ∈ l, bQ c = true) : ∀ (w : List Nat) (j pos : Nat) (h : Hp) (x : Int), Sy I A Q ((b, some (.it l pos)) :: L) h → l.drop pos = w → 0 ≤ x → x ≤ 1152921504606846976 →
 Ev (fun n => kN (aI n) n (n - j) (.i .i64 x) (.p b 0) h) (fun v h' => v = .t [.i .i64 (mX x w).1, .i .i64 (mX x w).2] ∧ Sy I A Q L h') := by
 intro w
 induction w with
 | nil =>
  intro j pos h x S hw h0 h1
  refine eAw j (ll := fun n m => kN (aI n) n m (.i .i64 x) (.p b 0) h) (bb := fun n m => qF (aI n) n (kN (aI n) n m) (.i .i64 x) (.p b 0) h) (fun _ _ => rfl) ?_
  unfold qF eX
  refine dUy S (bX) (List.getElem?_eq_none (by simpa using hw)) ?_
  refine wx ?_; refine yj ?_
  exact eAs ⟨rfl, S.dropL⟩
 | cons c w ih =>
  intro j pos h x S hw h0 h1
  have hg : l[pos]? = some c := by
   have : (l.drop pos)[0]? = some c := by rw [hw]; rfl
   simpa [aG] using this
  have hw' : l.drop (pos + 1) = w := by
   rw [← List.drop_drop, hw]; rfl
  have hdc := hd c (List.mem_of_getElem? hg)
  simp [bQ] at hdc
  refine eAw j (ll := fun n m => kN (aI n) n m (.i .i64 x) (.p b 0) h) (bb := fun n m => qF (aI n) n (kN (aI n) n m) (.i .i64 x) (.p b 0) h) (fun _ _ => rfl) ?_
  unfold qF
  refine dMr S (Rpl.head _) hg (by omega) ?_
  intro h2 S2
  refine wx ?_; refine yt ?_; refine wx ?_
  unfold mX
  refine eBj (fun e1 => ?_) (fun e1 => ?_)
  ·refine yt ?_
   rw [if_pos (show (115292150460684697 : Int) < x from e1)]
   exact eAs ⟨rfl, S2.dropL⟩
  ·rw [if_neg (show ¬ (115292150460684697 : Int) < x from e1)]
   have e1' : x ≤ 115292150460684697 := by
    have : ¬ (115292150460684697 : Int) < x := e1
    omega
   refine yj ?_
   refine eDr ?_
   refine eBq ?_
   have a1 : IntKind.i64.wrap (x * Int.ofNat 10) = x * 10 := dW _ (by show -9223372036854775808 ≤ x * 10; omega) (by show x * 10 ≤ _; omega)
   have a2 : IntKind.i32.wrap ((c : Int) - Int.ofNat 48) = (c : Int) - 48 := by
    show IntKind.i32.wrap ((c : Int) - 48) = _
    unfold IntKind.wrap
    simp [IntKind.bits, IntKind.signed, IntKind.min, IntKind.max]
    omega
   have a3 : ∀ h, lB .i64 (.i .i32 ((c : Int) - 48)) h = some (.i .i64 ((c : Int) - 48), h) := fun h => by
    show some (DV.i .i64 (IntKind.i64.wrap ((c : Int) - 48)), h) = _
    rw [dW _ (by omega) (by omega)]
   rw [a1, a2]
   refine Ev.op (a3 _) ?_
   refine eAx ?_
   rw [dW _ (by omega) (by omega)]
   refine eBj (fun e2 => ?_) (fun e2 => ?_)
   ·refine yt ?_
    rw [if_pos (show (1152921504606846976 : Int) < x * 10 + ((c : Int) - 48) from e2)]
    exact eAs ⟨rfl, S2.dropL⟩
   ·refine yj ?_
    rw [if_neg (show ¬ (1152921504606846976 : Int) < x * 10 + ((c : Int) - 48) from e2)]
    have e2' : ¬ (1152921504606846976 : Int) < x * 10 + ((c : Int) - 48) := e2
    exact ih (j + 1) (pos + 1) h2 _ S2 hw' (by omega) (by omega)
section
variable {I : Im} {A L : Ls} {h : Hp} {r : Pos} {s : List Nat} {i : Nat}
theorem dLe (S : Sy I A [RS r s i] L h) (hs : s.length ≤ bG) (hb : ∀ c ∈ s, c < 256) (hi : i ≤ s.length) :
 Ev (fun n => aI n 111 [.p r 0] h) (fun v h' => v = .t [.i .i64 (qH (s.drop i)).1, .i .i64 (qH (s.drop i)).2.1] ∧ Sy I A [RS r s (i + (qH (s.drop i)).2.2)] L h') := by
 refine Ev.enter (fun n => bSj n _ h) ?_
 unfold s111 aKk aIu aHk aUl
 refine wn (wf ?_); refine wq ?_
 refine eBd ?_
 refine eAr (rG (cFv I) S hs hb hi s.length hs) ?_
 rintro _ h1 ⟨rfl, S1⟩
 have e0 : dO bQ s.length (s.drop i) = ((s.drop i).takeWhile bQ).length := tN _ _ _ (by simp)
 rw [e0] at S1 ⊢
 rw [tU]
 refine Ev.op (v := .p h1.next 0) (h := nw (.it ((s.drop i).takeWhile bQ) 0) h1) rfl ?_
 have S2 := S1.new (.it ((s.drop i).takeWhile bQ) 0)
 exact bNv (fun c hc => bYg bQ _ c hc) _ 0 0 _ 0 S2 rfl (by omega) (by omega)
theorem bKr (hs : s.length ≤ bG) (hb : ∀ c ∈ s, c < 256) : ∀ (f j i : Nat) (h : Hp) (out : List Nat) (res : List Nat × Int × Nat), Sy I A [RS r s i] L h → i ≤ s.length → out.length ≤ 3 * i → qR f out (s.drop i) = some res →
 Ev (fun n => nX (aI n) n (n - j) (.p r 0) (.s out) h) (fun v h' => v = .t [.s res.1, .i .i64 res.2.1] ∧ Sy I A [RS r s (i + res.2.2)] L h') := by
 intro f
 induction f with
 | zero => intro j i h out res S hi ho hm; cases hm
 | succ f ih =>
  intro j i h out res S hi ho hm
  unfold qR at hm
  have hlen := oR dM (s.drop i)
  have hd : (s.drop i).length = s.length - i := by simp
  refine eAw j (ll := fun n m => nX (aI n) n m (.p r 0) (.s out) h) (bb := fun n m => wX (aI n) n (nX (aI n) n m) (.p r 0) (.s out) h) (fun _ _ => rfl) ?_
  unfold wX
  refine wn (wf ?_); refine wq ?_
  refine eBd ?_
  refine eAr (rG (dNz I) S hs hb hi s.length hs) ?_
  rintro _ h1 ⟨rfl, S1⟩
  have e0 : dO dM s.length (s.drop i) = ((s.drop i).takeWhile dM).length := tN _ _ _ (by simp)
  rw [e0] at S1 ⊢
  rw [tU]
  generalize hw : (s.drop i).takeWhile dM = w at hm S1 hlen ⊢
  simp only [bG] at hs
  refine eAz (by omega) ?_
  refine wn (wf ?_); refine wq ?_; refine wn (wf ?_); refine wq ?_
  refine eBd ?_
  refine eBo (fun e1 => ?_) (fun e1 => ?_)
  ·refine yt ?_
   have e2 : w.length = (s.drop i).length := by omega
   rw [if_pos e2] at hm
   cases hm
   exact eAs ⟨rfl, by rw [← e2]; exact S1⟩
  ·have e2 : ¬ w.length = (s.drop i).length := by omega
   rw [if_neg e2] at hm
   refine yj (wn (wf ?_)); refine wq ?_
   refine eAx ?_
   rw [eG 1 (by omega)]
   refine wn (wf ?_); refine wv fun _ _ => ?_
   rename_i h2 S2
   refine eAr (kU S2 hs (by omega) 0 (by omega)) ?_
   rintro _ _ ⟨rfl, rfl⟩
   have e3 : aDx s (i + w.length + 1 + 0) = nx (s.drop i) (w.length + 1) := by rw [show i + w.length + 1 + 0 = i + (w.length + 1) by omega, kJ]
   rw [e3]
   refine eBi (fun e4 => ?_) (fun e4 => ?_)
   ·refine yt ?_
    rw [if_neg (show ¬ nx (s.drop i) (w.length + 1) = 39 by simp at e4; omega)] at hm
    cases hm
    exact eAs ⟨rfl, S2⟩
   ·have e5 : nx (s.drop i) (w.length + 1) = 39 := by simp at e4; omega
    rw [if_pos e5] at hm
    obtain ⟨res', hr, hm⟩ := aT hm
    simp only [aZ] at hm
    subst hm
    have e6 : i + w.length + 2 ≤ s.length := by
     have : w.length + 1 < (s.drop i).length := by
      apply Decidable.byContradiction
      intro hn
      rw [nx, List.getD, List.getElem?_eq_none (by omega)] at e5
      cases e5
     omega
    refine yj ?_
    refine eAz (by simp; omega) ?_
    refine wn (wf ?_); refine wq ?_
    refine eAx ?_
    rw [eG 1 (by omega)]
    refine wn (wf ?_); refine wv fun _ _ => ?_
    refine (ih (j + 1) (i + w.length + 1 + 1) _ (out ++ w ++ [39]) res' (by assumption) (by omega) (by simp; omega) ?_).mono ?_
    ·rw [← hr, List.drop_drop]
     congr 2
    ·rintro v h' ⟨rfl, S'⟩
     refine ⟨rfl, ?_⟩
     have e7 : i + w.length + 1 + 1 + res'.2.2 = i + (res'.2.2 + (w.length + 2)) := by omega
     rw [← e7]; exact S'
theorem cHf (S : Sy I A [RS r s i] L h) (hs : s.length ≤ bG) (hb : ∀ c ∈ s, c < 256) (hi : i ≤ s.length) (f : Nat) (res : List Nat × Int × Nat) (hm : qR f [] (s.drop i) = some res) :
 Ev (fun n => aI n 112 [.p r 0] h) (fun v h' => v = .t [.s res.1, .i .i64 res.2.1] ∧ Sy I A [RS r s (i + res.2.2)] L h') := by
 refine Ev.enter (fun n => bUk n _ h) ?_
 unfold s112 aIi aIq aTc
 exact bKr hs hb f 0 i h [] res S hi (by simp) hm
end
end Go.Dd

namespace Go.Dd
open Go.Proofs
def lA (f : Nat) (u : List Nat) : Option (Int × List Nat × Int × Int × Nat) :=
 if bB (nx u 0) then
  if (bH u).2.1 = 0 then
   if dP (u.drop (bH u).2.2) then some (2, (bH u).1 ++ [58], 0, 0, (bH u).2.2 + 1) else some (1, (bH u).1, 0, 0, (bH u).2.2)
  else some (1, (bH u).1, 0, (bH u).2.1, (bH u).2.2)
 else if bQ (nx u 0) then some (4, [], (qH u).1, (qH u).2.1, (qH u).2.2)
 else if nx u 0 = 39 then (qR f [] (u.drop 1)).bind fun r => some (5, r.1, 0, r.2.1, r.2.2 + 1)
 else if nx u 0 = 35 then
  if nx u 1 = 40 then some (7, [], 0, 0, 2) else (kT f (u.drop 1)).bind fun r => some (6, r.1, 0, r.2.1, r.2.2 + 1)
 else if nx u 0 = 58 ∧ nx u 1 = 61 then some (9, [], 0, 0, 2)
 else if nx u 0 = 58 ∧ bB (nx u 1) then some (8, (bH (u.drop 1)).1, 0, (bH (u.drop 1)).2.1, (bH (u.drop 1)).2.2 + 1)
 else if dK signs (nx u 0) then some (3, u.take (dO (dK signs) 2 u), 0, 0, dO (dK signs) 2 u)
 else if dK marks (nx u 0) then some (10, u.take (dO (dK marks) 1 u), 0, 0, dO (dK marks) 1 u)
 else some (0, [], 0, 10, 0)
def nB (g : Nat) (s : List Nat) : Nat → Nat → List Tok → Option (List Tok × Int × Int)
 | 0, _, _ => none
 | f + 1, i, out =>
  if s.length ≤ i + ((s.drop i).takeWhile (dK bP)).length then some (out ++ [⟨0, [], 0, (s.length : Int)⟩], 0, 0)
  else if nx s (i + ((s.drop i).takeWhile (dK bP)).length) = 34 then
   if dZ 34 (s.drop (i + ((s.drop i).takeWhile (dK bP)).length + 1)) 0 < 0 then some ([], ((i + ((s.drop i).takeWhile (dK bP)).length : Nat) : Int), 11)
   else nB g s f (i + ((s.drop i).takeWhile (dK bP)).length + (dZ 34 (s.drop (i + ((s.drop i).takeWhile (dK bP)).length + 1)) 0).toNat + 2) out
  else (lA g (s.drop (i + ((s.drop i).takeWhile (dK bP)).length))).bind fun r =>
   if r.2.2.2.1 = 0 then if (s.drop (i + ((s.drop i).takeWhile (dK bP)).length)).length < r.2.2.2.2 then none else nB g s f (i + ((s.drop i).takeWhile (dK bP)).length + r.2.2.2.2) (out ++ [⟨r.1, r.2.1, r.2.2.1, ((i + ((s.drop i).takeWhile (dK bP)).length : Nat) : Int)⟩])
   else some ([], ((i + ((s.drop i).takeWhile (dK bP)).length : Nat) : Int), r.2.2.2.1)
def qN (g f : Nat) (s : List Nat) : Option (List Tok × Int × Int) := if 2000 < s.length then some ([], 0, 12) else nB g s f 0 []
theorem mT (u : List Nat) : (bH u).1.length ≤ (bH u).2.2 := by
 unfold bH
 split <;> simp
section
variable {I : Im} {A L : Ls} {h : Hp} {r : Pos} {s : List Nat} {i : Nat}
theorem bRk (hs : s.length ≤ bG) (hb : ∀ c ∈ s, c < 256) : ∀ (f j i : Nat) (h : Hp) (out : List Nat) (res : List Nat × Int × Nat), Sy I A [RS r s i] L h → i ≤ s.length → out.length ≤ 3 * i → aDr f out (s.drop i) = some res →
 Ev (fun n => oA (aI n) n (n - j) (.p r 0) (.s out) h) (fun v h' => v = .t [.s res.1, .i .i64 res.2.1] ∧ Sy I A [RS r s (i + res.2.2)] L h') := by
 intro f
 induction f with
 | zero => intro j i h out res S hi ho hm; cases hm
 | succ f ih =>
  intro j i h out res S hi ho hm
  unfold aDr at hm
  refine eAw j (ll := fun n m => oA (aI n) n m (.p r 0) (.s out) h) (bb := fun n m => xR (aI n) n (oA (aI n) n m) (.p r 0) (.s out) h) (fun _ _ => rfl) ?_
  unfold xR fO
  refine eAr (kU S hs hi 0 (by omega)) ?_
  rintro _ _ ⟨rfl, rfl⟩
  rw [kJ]
  refine eAr (mU _ _) ?_
  rintro _ _ ⟨rfl, rfl⟩
  cases e1 : bB (nx (s.drop i) 0) with
  | false =>
   refine yj ?_
   rw [if_neg (by simp [e1])] at hm
   cases hm
   exact eAs ⟨rfl, S⟩
  | true =>
   rw [if_pos e1] at hm
   refine yt (wn (wf ?_)); refine wq ?_
   refine eAr (bJa S hs hb hi) ?_
   rintro _ _ ⟨rfl, S1⟩
   have hn := gB (s.drop i)
   have hn1 := mT (s.drop i)
   have hd : (s.drop i).length = s.length - i := by simp
   have hdd : s.drop (i + (bH (s.drop i)).2.2) = (s.drop i).drop (bH (s.drop i)).2.2 := by rw [List.drop_drop]
   generalize hN : bH (s.drop i) = N at hm S1 hn hn1 hdd ⊢
   refine wx ?_; refine wx ?_
   refine eAr (aTy S1 hs (by omega)) ?_
   rintro _ _ ⟨rfl, S2⟩
   rw [hdd] at S2 ⊢
   cases e2 : dP ((s.drop i).drop N.2.2) with
   | false =>
    rw [e2] at hm S2
    simp only [Bool.false_eq_true, if_false, aZ] at hm
    subst hm
    refine ao (yt (wn (wf ?_))); refine wv fun _ _ => ?_
    exact eAs ⟨rfl, by assumption⟩
   | true =>
    rw [if_pos e2] at hm
    rw [e2, if_pos rfl] at S2
    have hc := jU e2
    have hc2 : i + N.2.2 + 1 ≤ s.length := by simp at hc; omega
    refine an (yj ?_)
    refine eBi (fun e3 => ?_) (fun e3 => ?_)
    ·rw [if_neg (show ¬ N.2.1 = 0 from e3)] at hm
     cases hm
     refine yt ?_
     exact eAs ⟨rfl, S2⟩
    ·rw [if_pos (show N.2.1 = 0 from e3)] at hm
     obtain ⟨res', hr, hm⟩ := aT hm
     simp only [aZ] at hm
     subst hm
     simp only [bG] at hs
     refine yj ?_
     refine eAz (by simp; omega) ?_
     refine eAz (by simp; omega) ?_
     refine (ih (j + 1) (i + N.2.2 + 1) _ (out ++ (N.1 ++ [58])) res' S2 hc2 (by simp; omega) ?_).mono ?_
     ·rw [← hr, List.drop_drop, Nat.add_assoc]
     ·rintro v h' ⟨rfl, S'⟩
      refine ⟨rfl, ?_⟩
      have e7 : i + N.2.2 + 1 + res'.2.2 = i + (res'.2.2 + (N.2.2 + 1)) := by omega
      rw [← e7]; exact S'
theorem bJj (S : Sy I A [RS r s i] L h) (hs : s.length ≤ bG) (hb : ∀ c ∈ s, c < 256) (hi : i ≤ s.length) (f : Nat) (res : List Nat × Int × Nat) (hm : kT f (s.drop i) = some res) :
 Ev (fun n => aI n 113 [.p r 0] h) (fun v h' => v = .t [.s res.1, .i .i64 res.2.1] ∧ ∃ J, ILe I J ∧ Sy J A [RS r s (i + res.2.2)] L h') := by
 refine Ev.enter (fun n => bQg n _ h) ?_
 unfold kT at hm
 unfold s113 aMr
 refine eAr (aDu S signs) ?_
 rintro cl h1 ⟨J, gJ, S1, C1⟩
 refine eAr (rG C1 S1 hs hb hi 2 (by simp [bG])) ?_
 rintro _ h2 ⟨rfl, S2⟩
 have hd : (s.drop i).length = s.length - i := by simp
 have hr := oM (dK signs) 2 (s.drop i)
 refine eDd (fun e1 => ?_) (fun e1 => ?_)
 ·refine yt ?_
  have e2 : ¬ dO (dK signs) 2 (s.drop i) = 0 := fun e => e1 (by rw [e]; rfl)
  rw [if_neg e2] at hm
  cases hm
  exact eAs ⟨rfl, J, gJ, S2⟩
 ·have e2 : dO (dK signs) 2 (s.drop i) = 0 := by
   have := congrArg List.length e1
   rw [List.length_take] at this
   simp only [List.length_nil] at this
   omega
  rw [if_pos e2] at hm
  rw [e2, Nat.add_zero] at S2
  refine yj ?_
  unfold aJg
  refine eAr (kU S2 hs hi 0 (by omega)) ?_
  rintro _ _ ⟨rfl, rfl⟩
  rw [kJ]
  refine eAr (mU _ _) ?_
  rintro _ _ ⟨rfl, rfl⟩
  cases e3 : bB (nx (s.drop i) 0) with
  | false =>
   refine ao (yt ?_)
   rw [if_neg (by simp [e3])] at hm
   cases hm
   exact eAs ⟨rfl, J, gJ, S2⟩
  | true =>
   rw [if_pos e3] at hm
   refine an (yj ?_)
   unfold aLp
   refine eAr (bJa S2 hs hb hi) ?_
   rintro _ _ ⟨rfl, S3⟩
   have hn := gB (s.drop i)
   have hn1 := mT (s.drop i)
   have hdd : s.drop (i + (bH (s.drop i)).2.2) = (s.drop i).drop (bH (s.drop i)).2.2 := by rw [List.drop_drop]
   generalize hN : bH (s.drop i) = N at hm S3 hn hn1 hdd ⊢
   refine wx ?_; refine wx ?_
   unfold aIm
   refine eBi (fun e4 => ?_) (fun e4 => ?_)
   ·rw [if_neg (show ¬ N.2.1 = 0 from e4)] at hm
    cases hm
    refine yg (yg (yg (ap (yt ?_))))
    exact eAs ⟨rfl, J, gJ, S3⟩
   ·rw [if_pos (show N.2.1 = 0 from e4)] at hm
    refine zf (wm (zf ?_))
    refine eAr (aTy S3 hs (by omega)) ?_
    rintro _ _ ⟨rfl, S4⟩
    rw [hdd] at S4 ⊢
    cases e5 : dP ((s.drop i).drop N.2.2) with
    | false =>
     rw [e5] at hm S4
     simp only [Bool.false_eq_true, if_false, aZ] at hm
     subst hm
     refine zf (ao (aq (yt ?_)))
     refine eAs ⟨?_, J, gJ, S4⟩
     rw [show N.2.1 = 0 from e4]
    | true =>
     rw [e5] at hm S4
     simp only [if_true] at hm
     rw [if_pos rfl] at S4
     obtain ⟨res', hr', hm⟩ := aT hm
     simp only [aZ] at hm
     subst hm
     have hc := jU e5
     have hc2 : i + N.2.2 + 1 ≤ s.length := by simp at hc; omega
     have hs' := hs
     simp only [bG] at hs
     refine zf (an (aq (yj ?_)))
     unfold aHb aMm aVq
     refine eAz (by simp; omega) ?_
     refine (bRk hs' hb f 0 (i + N.2.2 + 1) _ (N.1 ++ [58]) res' S4 hc2 (by simp; omega) ?_).mono ?_
     ·rw [← hr', List.drop_drop, Nat.add_assoc]
     ·rintro v h' ⟨rfl, S'⟩
      refine ⟨rfl, J, gJ, ?_⟩
      have e7 : i + N.2.2 + 1 + res'.2.2 = i + (res'.2.2 + (N.2.2 + 1)) := by omega
      rw [← e7]; exact S'
end
end Go.Dd

namespace Go.Dd
open Go.Proofs
section
variable {I : Im} {A L : Ls} {h : Hp} {r : Pos} {s : List Nat} {i : Nat}
theorem dMg (S : Sy I A [RS r s i] L h) (hs : s.length ≤ bG) (hb : ∀ c ∈ s, c < 256) (hi : i < s.length) (f : Nat) (res : Int × List Nat × Int × Int × Nat) (hm : lA f (s.drop i) = some res) :
 Ev (fun n => aI n 76 [.p r 0] h) (fun v h' => v = .t [.a (tc ⟨res.1, res.2.1, res.2.2.1, (i : Int)⟩), .i .i64 res.2.2.2.1] ∧ ∃ J, ILe I J ∧ Sy J A [RS r s (i + res.2.2.2.2)] L h') := by
 refine Ev.enter (fun n => cLv n _ h) ?_
 unfold lA at hm
 unfold s76 cZx
 refine wa fun _ _ _ => ?_; refine wn (wf ?_); refine wq ?_; refine wd ?_; refine wa fun _ _ _ => ?_; refine wt fun _ _ => ?_
 unfold cZz cXx
 rename_i h0 S0
 have hd : (s.drop i).length = s.length - i := by simp
 have hs' := hs
 simp only [bG] at hs'
 have hcd : s.drop i = s[i] :: s.drop (i + 1) := List.drop_eq_getElem_cons hi
 have hn0 : nx (s.drop i) 0 < 256 := by rw [hcd]; exact hb _ (List.getElem_mem hi)
 refine eAr (kU S0 hs (by omega) 0 (by omega)) ?_
 rintro _ _ ⟨rfl, rfl⟩
 rw [kJ]
 unfold cYe
 refine eAr (mU _ _) ?_
 rintro _ _ ⟨rfl, rfl⟩
 cases e1 : bB (nx (s.drop i) 0) with
 | true =>
  rw [if_pos e1] at hm
  refine yt (wf ?_); refine wu fun _ _ => ?_
  refine eAr (bJa (by assumption) hs hb (by omega)) ?_
  rintro _ _ ⟨rfl, S1⟩
  have hn := gB (s.drop i)
  have hn1 := mT (s.drop i)
  have hdd : s.drop (i + (bH (s.drop i)).2.2) = (s.drop i).drop (bH (s.drop i)).2.2 := by rw [List.drop_drop]
  generalize hN : bH (s.drop i) = N at hm S1 hn hn1 hdd ⊢
  refine wx ?_; refine wx ?_; refine wf ?_; refine wu fun _ _ => ?_
  unfold fW
  refine eAv (fun e2 => ?_) (fun e2 => ?_)
  ·rw [if_pos (show N.2.1 = 0 from e2)] at hm
   refine zt (wm (zt ?_))
   refine eAr (aTy (by assumption) hs (by omega)) ?_
   rintro _ _ ⟨rfl, S2⟩
   rw [hdd] at S2 ⊢
   cases e3 : dP ((s.drop i).drop N.2.2) with
   | true =>
    rw [e3] at hm S2
    simp only [if_true, aZ] at hm
    subst hm
    rw [if_pos rfl] at S2
    refine ap (yt (wf ?_)); refine wl ?_
    refine eAz (by simp; omega) ?_
    refine wf ?_; refine wu fun _ _ => ?_; refine wf ?_; refine wu fun _ _ => ?_; refine ws ?_; refine wt fun _ _ => ?_; refine ws ?_
    refine eAs ⟨?_, I, ILe.refl _, dp⟩
    rw [show N.2.1 = 0 from e2]; rfl
   | false =>
    rw [e3] at hm S2
    simp only [Bool.false_eq_true, if_false, aZ] at hm
    subst hm
    refine ap (yj ?_); refine ws ?_; refine wt fun _ _ => ?_; refine ws ?_
    refine eAs ⟨?_, I, ILe.refl _, dp⟩
    rw [show N.2.1 = 0 from e2]; rfl
  ·rw [if_neg (show ¬ N.2.1 = 0 from e2)] at hm
   cases hm
   refine yf (yf (aq (yj ?_))); refine ws ?_; refine wt fun _ _ => ?_; refine ws ?_
   exact eAs ⟨rfl, I, ILe.refl _, dp⟩
 | false =>
 rw [if_neg (by simp [e1])] at hm
 refine yj ?_
 refine eAr (aCl _ _) ?_
 rintro _ _ ⟨rfl, rfl⟩
 cases e2 : bQ (nx (s.drop i) 0) with
 | true =>
  rw [if_pos e2] at hm
  cases hm
  refine yt (wf ?_); refine wu fun _ _ => ?_
  refine eAr (dLe (by assumption) hs hb (by omega)) ?_
  rintro _ _ ⟨rfl, S1⟩
  refine wx ?_; refine wx ?_; refine wf ?_; refine wu fun _ _ => ?_
  unfold fW
  refine ws ?_; refine wt fun _ _ => ?_; refine ws ?_
  exact eAs ⟨rfl, I, ILe.refl _, dp⟩
 | false =>
 rw [if_neg (by simp [e2])] at hm
 refine yj ?_
 refine eAv (fun e3 => ?_) (fun e3 => ?_)
 ·rw [if_pos (show nx (s.drop i) 0 = 39 by simp at e3; omega)] at hm
  obtain ⟨res', hr, hm⟩ := aT hm
  simp only [aZ] at hm
  subst hm
  refine yt (wn (wf ?_)); refine wq ?_
  refine eAx ?_
  rw [eG 1 (by omega)]
  refine wn (wf ?_); refine wv fun _ _ => ?_; refine wf ?_; refine wu fun _ _ => ?_
  refine eAr (cHf (by assumption) hs hb (by omega) f res' (by rw [← hr, List.drop_drop])) ?_
  rintro _ _ ⟨rfl, S1⟩
  refine wx ?_; refine wx ?_; refine wf ?_; refine wu fun _ _ => ?_
  unfold fW
  refine ws ?_; refine wt fun _ _ => ?_; refine ws ?_
  refine eAs ⟨rfl, I, ILe.refl _, ?_⟩
  rw [show i + (res'.2.2 + 1) = i + 1 + res'.2.2 by omega]
  exact dp
 rw [if_neg (show ¬ nx (s.drop i) 0 = 39 by simp at e3; omega)] at hm
 refine yj ?_
 refine eAv (fun e4 => ?_) (fun e4 => ?_)
 ·rw [if_pos (show nx (s.drop i) 0 = 35 by simp at e4; omega)] at hm
  refine zt (wm (zt ?_))
  refine eAr (kU (by assumption) hs (by omega) 1 (by omega)) ?_
  rintro _ _ ⟨rfl, rfl⟩
  rw [kJ]
  refine zt ?_
  refine eAv (fun e5 => ?_) (fun e5 => ?_)
  ·have e5' : nx (s.drop i) 1 = 40 := by simp at e5; omega
   rw [if_pos e5'] at hm
   cases hm
   refine ap (yt (wn (wf ?_))); refine wq ?_
   refine eAx ?_
   rw [eG 2 (by omega)]
   refine wn (wf ?_); refine wv fun _ _ => ?_; refine wf ?_; refine wu fun _ _ => ?_
   unfold fW
   refine ws ?_; refine wt fun _ _ => ?_; refine ws ?_
   exact eAs ⟨rfl, I, ILe.refl _, dp⟩
  ·rw [if_neg (show ¬ nx (s.drop i) 1 = 40 by simp at e5; omega)] at hm
   obtain ⟨res', hr, hm⟩ := aT hm
   simp only [aZ] at hm
   subst hm
   refine ap (yj ?_)
   refine eAv (fun e6 => ?_) (fun e6 => absurd e4 e6)
   refine yt (wn (wf ?_)); refine wq ?_
   refine eAx ?_
   rw [eG 1 (by omega)]
   refine wn (wf ?_); refine wv fun _ _ => ?_; refine wf ?_; refine wu fun _ _ => ?_
   refine eAr (bJj (by assumption) hs hb (by omega) f res' (by rw [← hr, List.drop_drop])) ?_
   rintro _ _ ⟨rfl, J, gJ, S1⟩
   refine wx ?_; refine wx ?_; refine wf ?_; refine wu fun _ _ => ?_
   unfold fW
   refine ws ?_; refine wt fun _ _ => ?_; refine ws ?_
   refine eAs ⟨rfl, J, gJ, ?_⟩
   rw [show i + (res'.2.2 + 1) = i + 1 + res'.2.2 by omega]
   exact dp
 rw [if_neg (show ¬ nx (s.drop i) 0 = 35 by simp at e4; omega)] at hm
 refine yf (yf (yf (aq (yj ?_))))
 refine eAv (fun e6 => absurd e6 e4) (fun e6 => ?_)
 refine yj ?_
 have fin : ¬ (nx (s.drop i) 0 = 58 ∧ nx (s.drop i) 1 = 61) → ¬ (nx (s.drop i) 0 = 58 ∧ bB (nx (s.drop i) 1) = true) → ∀ (h' : Hp) (b2 b4 : Pos),
  Sy I A [RS r s i] ((b4, some (.row .ex [.i .i64 (Int.ofNat 0), .s [], .i .i64 (Int.ofNat 0), .i .i64 (i : Int)])) :: (b2, some (.row .ex [.i .i64 (Int.ofNat 0), .s [], .i .i64 (Int.ofNat 0), .i .i64 (Int.ofNat 0)])) :: L) h' →
  Ev (fun n => bnd (aI n 75 [.s [43, 45, 42, 47, 60, 62, 61, 126, 44, 64, 38, 37]] h') fun v111 h111 =>
   bnd (eA CF (aI n) v111 [.i .u8 (Int.ofNat (nx (s.drop i) 0))] h111) fun v112 h112 =>
   aV v112 (
    bnd (aI n 75 [.s [43, 45, 42, 47, 60, 62, 61, 126, 44, 64, 38, 37]] h112) fun v113 h113 =>
    bnd (aI n 74 [.p r 0, v113, .i .i64 (Int.ofNat 2)] h113) fun v114 h114 =>
    bnd (aA 0 (.p b4 0) h114) fun v115 h115 =>
    bnd (aC 1 v115 (.i .i64 (Int.ofNat 3)) h115) fun _ h116 =>
    bnd (aA 1 (.p b4 0) h116) fun v117 h117 =>
    bnd (aC 1 v117 v114 h117) fun _ h118 =>
    fW (aI n) n (.p b2 0) (.p b4 0) (.i .i64 (Int.ofNat 0)) h118) (
    bnd (aI n 75 [.s [94, 46, 59, 40, 41, 91, 93, 124]] h112) fun v119 h119 =>
    bnd (eA CF (aI n) v119 [.i .u8 (Int.ofNat (nx (s.drop i) 0))] h119) fun v120 h120 =>
    aV v120 (
     bnd (aI n 75 [.s [94, 46, 59, 40, 41, 91, 93, 124]] h120) fun v121 h121 =>
     bnd (aI n 74 [.p r 0, v121, .i .i64 (Int.ofNat 1)] h121) fun v122 h122 =>
     bnd (aA 0 (.p b4 0) h122) fun v123 h123 =>
     bnd (aC 1 v123 (.i .i64 (Int.ofNat 10)) h123) fun _ h124 =>
     bnd (aA 1 (.p b4 0) h124) fun v125 h125 =>
     bnd (aC 1 v125 v122 h125) fun _ h126 =>
     fW (aI n) n (.p b2 0) (.p b4 0) (.i .i64 (Int.ofNat 0)) h126) (
     fW (aI n) n (.p b2 0) (.p b4 0) (.i .i64 (Int.ofNat 10)) h120)))
   (fun v h' => v = .t [.a (tc ⟨res.1, res.2.1, res.2.2.1, (i : Int)⟩), .i .i64 res.2.2.2.1] ∧ ∃ J, ILe I J ∧ Sy J A [RS r s (i + res.2.2.2.2)] L h') := by
  intro n1 n2 h' b2 b4 S'
  rw [if_neg n1, if_neg n2] at hm
  refine eAr (aDu S' signs) ?_
  rintro cl h1 ⟨J, gJ, S1, C1⟩
  refine eAr (C1 J _ _ _ _ _ (ILe.refl _) S1 hn0) ?_
  rintro _ _ ⟨rfl, rfl⟩
  cases e7 : dK signs (nx (s.drop i) 0) with
  | true =>
   rw [if_pos e7] at hm
   cases hm
   refine yt ?_
   refine eAr (aDu S1 signs) ?_
   rintro cl2 h2 ⟨K, gK, S2, C2⟩
   refine eAr (rG C2 S2 hs hb (by omega) 2 (by simp [bG])) ?_
   rintro _ h3 ⟨rfl, S3⟩
   refine wf ?_; refine wu fun _ _ => ?_; refine wf ?_; refine wu fun _ _ => ?_
   unfold fW
   refine ws ?_; refine wt fun _ _ => ?_; refine ws ?_
   exact eAs ⟨rfl, K, gJ.trans gK, dp⟩
  | false =>
   rw [if_neg (by simp [e7])] at hm
   refine yj ?_
   refine eAr (aDu S1 marks) ?_
   rintro cl2 h2 ⟨K, gK, S2, C2⟩
   refine eAr (C2 K _ _ _ _ _ (ILe.refl _) S2 hn0) ?_
   rintro _ _ ⟨rfl, rfl⟩
   cases e8 : dK marks (nx (s.drop i) 0) with
   | true =>
    rw [if_pos e8] at hm
    cases hm
    refine yt ?_
    refine eAr (aDu S2 marks) ?_
    rintro cl3 h3 ⟨M, gM, S3, C3⟩
    refine eAr (rG C3 S3 hs hb (by omega) 1 (by simp [bG])) ?_
    rintro _ h4 ⟨rfl, S4⟩
    refine wf ?_; refine wu fun _ _ => ?_; refine wf ?_; refine wu fun _ _ => ?_
    unfold fW
    refine ws ?_; refine wt fun _ _ => ?_; refine ws ?_
    exact eAs ⟨rfl, M, (gJ.trans gK).trans gM, dp⟩
   | false =>
    rw [if_neg (by simp [e8])] at hm
    cases hm
    refine yj ?_
    unfold fW
    refine ws ?_; refine wt fun _ _ => ?_; refine ws ?_
    exact eAs ⟨rfl, K, gJ.trans gK, dp⟩
 refine eAv (fun e7 => ?_) (fun e7 => ?_)
 ·have e7' : nx (s.drop i) 0 = 58 := by simp at e7; omega
  refine zt (wm (zt ?_))
  refine eAr (kU (by assumption) hs (by omega) 1 (by omega)) ?_
  rintro _ _ ⟨rfl, rfl⟩
  rw [kJ]
  refine zt ?_
  refine eAv (fun e8 => ?_) (fun e8 => ?_)
  ·have e8' : nx (s.drop i) 1 = 61 := by simp at e8; omega
   rw [if_pos ⟨e7', e8'⟩] at hm
   cases hm
   refine ap (yt (wn (wf ?_))); refine wq ?_
   refine eAx ?_
   rw [eG 2 (by omega)]
   refine wn (wf ?_); refine wv fun _ _ => ?_; refine wf ?_; refine wu fun _ _ => ?_
   unfold fW
   refine ws ?_; refine wt fun _ _ => ?_; refine ws ?_
   exact eAs ⟨rfl, I, ILe.refl _, dp⟩
  ·have e8' : ¬ nx (s.drop i) 1 = 61 := by simp at e8; omega
   refine ap (yj ?_)
   refine eAv (fun e9 => ?_) (fun e9 => absurd e7 e9)
   refine zt (wm (zt ?_))
   refine eAr (kU (by assumption) hs (by omega) 1 (by omega)) ?_
   rintro _ _ ⟨rfl, rfl⟩
   rw [kJ]
   refine zt ?_
   refine eAr (mU _ _) ?_
   rintro _ _ ⟨rfl, rfl⟩
   cases e10 : bB (nx (s.drop i) 1) with
   | true =>
    rw [if_neg (fun q => e8' q.2), if_pos ⟨e7', e10⟩] at hm
    cases hm
    refine ap (yt (wn (wf ?_))); refine wq ?_
    refine eAx ?_
    rw [eG 1 (by omega)]
    refine wn (wf ?_); refine wv fun _ _ => ?_; refine wf ?_; refine wu fun _ _ => ?_
    refine eAr (bJa (by assumption) hs hb (by omega)) ?_
    rintro _ _ ⟨rfl, S1⟩
    have hdd : s.drop (i + 1) = (s.drop i).drop 1 := by rw [List.drop_drop]
    rw [hdd] at S1 ⊢
    refine wx ?_; refine wx ?_; refine wf ?_; refine wu fun _ _ => ?_
    unfold fW
    refine ws ?_; refine wt fun _ _ => ?_; refine ws ?_
    refine eAs ⟨rfl, I, ILe.refl _, ?_⟩
    rw [show i + ((bH ((s.drop i).drop 1)).2.2 + 1) = i + 1 + (bH ((s.drop i).drop 1)).2.2 by omega]
    exact dp
   | false =>
    have F := fin (fun q => e8' q.2) (fun q => by rw [e10] at q; exact absurd q.2 (by simp)) _ _ _ S0
    refine ap (yj ?_)
    exact F
 ·have e7' : ¬ nx (s.drop i) 0 = 58 := by simp at e7; omega
  refine yf (yf (yf (aq (yj ?_))))
  refine eAv (fun e9 => absurd e9 e7) (fun e9 => ?_)
  have F := fin (fun q => e7' q.1) (fun q => e7' q.1) _ _ _ S0
  refine yf (yf (yf (aq (yj ?_))))
  exact F
end
theorem oY (c : Nat) : ∀ (l : List Nat) (i : Nat), ¬ dZ c l i < 0 → ∃ k : Nat, k < l.length ∧ dZ c l i = ((i + k : Nat) : Int)
 | [], i, h => absurd (by show Int.negSucc 0 < 0; decide) h
 | x :: l, i, h => by
  unfold dZ at h ⊢
  cases e : Nat.beq x c with
  | true => exact ⟨0, by simp, by simp⟩
  | false =>
   rw [e] at h
   obtain ⟨k, h1, h2⟩ := oY c l (i + 1) h
   refine ⟨k + 1, by simpa using h1, ?_⟩
   simp only [cond_false, h2]
   omega
theorem xF {I : Im} {B A Q L : Ls} {h : Hp} {x : DV} {l : List Tok} (G : Gr I 4 B x l.length (l.map tc).flatten) {t : Tok} {b : Pos} (S : Sy I (B ++ A) Q L h) (m : (b, some (.row .ex (tc t))) ∈ L) (hl : l.length + 1 ≤ bG) :
 ∃ x' h' B', aY 4 40 x (.l b 0 1 1) h = some (x', h') ∧ Sy I (B' ++ A) Q L h' ∧ Gr I 4 B' x' (l ++ [t]).length ((l ++ [t]).map tc).flatten := by
 have hr : (l.length + 1) * 40 ≤ fH := by simp [fH, bG] at hl ⊢; omega
 obtain ⟨x4, h4, B4, e4, S4, G4⟩ := G.app S (nG S (n := 1) m rfl (bV t)) rfl (bV t) (by omega) hr
 exact ⟨x4, h4, B4, e4, S4, by simpa using G4⟩
theorem aZj (t : Tok) : cU [(.i .i64 (Int.ofNat 0)), (.s []), (.i .i64 (Int.ofNat 0)), (.i .i64 (Int.ofNat 0))] [(0, 4, .a (tc t))] = some (tc t) := by
 simp [cU, cN, tc]
def bDj (I : Im) (A Q L : Ls) (res : List Tok × Int × Int) (v : DV) (h : Hp) : Prop :=
 ∃ J x, v = .t [x, .i .i64 res.2.1, .i .i64 res.2.2] ∧ ILe I J ∧ Sy J A Q L h ∧ TS' J x res.1
theorem TS'.nil (I : Im) : TS' I .l0 [] := ⟨by simp, .inl ⟨.inl rfl, rfl, rfl⟩⟩
theorem bKa {A L : Ls} {s : List Nat} (hs : s.length ≤ bG) (hb : ∀ c ∈ s, c < 256) (g : Nat) {r : Pos} : ∀ (f j i : Nat) (I : Im) (B : Ls) (h : Hp) (x : DV) (out : List Tok) (res : List Tok × Int × Int), Sy I (B ++ A) [RS r s i] L h → Gr I 4 B x out.length (out.map tc).flatten →
 i ≤ s.length → out.length + f ≤ bG → nB g s f i out = some res →
 Ev (fun n => rB (aI n) n (n - j) (.s s) (.p r 0) x h) (bDj I A [] L res) := by
 intro f
 induction f with
 | zero => intro j i I B h x out res S G hi hl hm; cases hm
 | succ f ih =>
  intro j i I B h x out res S G hi hl hm
  unfold nB at hm
  refine eAw j (ll := fun n m => rB (aI n) n m (.s s) (.p r 0) x h) (bb := fun n m => aGx (aI n) n (rB (aI n) n m) (.s s) (.p r 0) x h) (fun _ _ => rfl) ?_
  unfold aGx
  refine eAr (aDu S bP) ?_
  rintro cl h1 ⟨J, gJ, S1, C1⟩
  refine eBd ?_
  refine eAr (rG C1 S1 hs hb hi s.length hs) ?_
  rintro _ h2 ⟨rfl, S2⟩
  have e0 : dO (dK bP) s.length (s.drop i) = ((s.drop i).takeWhile (dK bP)).length := tN _ _ _ (by simp)
  rw [e0] at S2
  have hle := oR (dK bP) (s.drop i)
  have hdl : (s.drop i).length = s.length - i := by simp
  generalize hw : ((s.drop i).takeWhile (dK bP)).length = w at hm S2 hle
  have hi2 : i + w ≤ s.length := by omega
  generalize hi3 : i + w = i' at hm S2 hi2
  have hdrop : ∀ {K : Im} {e : Pos × Option Ob} {M : Ls} {h'' : Hp}, Sy K A [e] M h'' → Sy K A [] M h'' := fun S => Sy.dropL (eEf (Q := []) S)
  have hs' := hs
  simp only [bG] at hs'
  refine wn (wf ?_); refine wq ?_
  refine eBd ?_
  refine eBo (fun e1 => ?_) (fun e1 => ?_)
  ·have e1' : s.length ≤ i' := by omega
   rw [if_pos e1'] at hm
   cases hm
   refine yt ?_
   unfold jG
   refine eBd ?_
   refine wd ?_
   refine eBm S2 (aZj ⟨0, [], 0, (s.length : Int)⟩) ?_
   intro b3 h3 S3
   obtain ⟨x4, h4, B4, e4, S4, G4⟩ := xF (G.mono gJ) S3 (bX) (by omega)
   refine Ev.op e4 ?_
   obtain ⟨K, gK, S5, F5⟩ := G4.freeze S4
   exact eAs ⟨K, x4, rfl, gJ.trans gK, hdrop S5.dropL, by simp; omega, F5⟩
  ·have e1' : i' < s.length := by omega
   rw [if_neg (by omega)] at hm
   refine yj (wn (wf ?_)); refine wq ?_
   refine Ev.op (iK (c := s[i']) (by simp [e1']) _) ?_
   have hnx : nx s i' = s[i'] := by simp [nx, List.getD, e1']
   refine eAv (fun e2 => ?_) (fun e2 => ?_)
   ·have e2' : nx s i' = 34 := by rw [hnx]; simp at e2; omega
    rw [if_pos e2'] at hm
    refine yt (wn (wf ?_)); refine wq ?_
    refine eAx ?_
    rw [eG 1 (by omega)]
    refine Ev.op (dYq (by omega) _) ?_
    refine eAr (aBj _ 34 (by omega) _) ?_
    rintro _ _ ⟨rfl, rfl⟩
    refine eBa (fun e3 => ?_) (fun e3 => ?_)
    ·rw [if_pos (show dZ 34 (s.drop (i' + 1)) 0 < 0 from e3)] at hm
     cases hm
     refine yt (wn (wf ?_)); refine wq ?_
     obtain ⟨K, gK, S5, F5⟩ := (G.mono gJ).freeze S2
     exact eAs ⟨K, .l0, rfl, gJ.trans gK, hdrop S5, TS'.nil K⟩
    ·have e3' : ¬ dZ 34 (s.drop (i' + 1)) 0 < 0 := e3
     rw [if_neg e3'] at hm
     obtain ⟨k, hk1, hk2⟩ := oY 34 _ _ e3'
     rw [hk2] at hm ⊢
     have hk3 : k < s.length - (i' + 1) := by simpa using hk1
     simp only [Nat.zero_add, Int.toNat_natCast] at hm
     refine yj (wn (wf ?_)); refine wq ?_
     refine eAx ?_
     rw [Nat.zero_add, eG 2 (by omega)]
     refine eAx ?_
     rw [show (i' : Int) + ((k + 2 : Nat) : Int) = ((i' + k + 2 : Nat) : Int) by omega, oX _ (by omega)]
     refine wn (wf ?_); refine wv fun _ _ => ?_
     refine (ih (j + 1) (i' + k + 2) J B _ x out res (by assumption) (G.mono gJ) (by omega) (by omega) hm).mono ?_
     rintro v h' ⟨K, y, a1, a2, a3⟩
     exact ⟨K, y, a1, gJ.trans a2, a3⟩
   ·have e2' : ¬ nx s i' = 34 := by rw [hnx]; simp at e2; omega
    rw [if_neg e2'] at hm
    obtain ⟨rs, hr, hm⟩ := aT hm
    refine yj ?_
    refine eAr (dMg S2 hs hb e1' g rs hr) ?_
    rintro _ h3 ⟨rfl, K, gK, S3⟩
    refine wx ?_; refine wx ?_; refine wa fun _ _ _ => ?_; refine wt fun _ _ => ?_
    refine eBi (fun e3 => ?_) (fun e3 => ?_)
    ·rw [if_neg (show ¬ rs.2.2.2.1 = 0 from e3)] at hm
     cases hm
     refine yt (wf ?_); refine wl ?_
     obtain ⟨M, gM, S5, F5⟩ := ((G.mono gJ).mono gK).freeze (by assumption)
     exact eAs ⟨M, .l0, rfl, (gJ.trans gK).trans gM, hdrop S5.dropL, TS'.nil M⟩
    ·rw [if_pos (show rs.2.2.2.1 = 0 from e3)] at hm
     split at hm
     ·cases hm
     ·rename_i hfit
      refine yj ?_; refine ws ?_
      refine eBm (by assumption) (aZj ⟨rs.1, rs.2.1, rs.2.2.1, (i' : Int)⟩) ?_
      intro b4 h4 S4
      obtain ⟨x5, h5, B5, e5, S5, G5⟩ := xF ((G.mono gJ).mono gK) S4 (bX) (by omega)
      refine Ev.op e5 ?_
      refine (ih (j + 1) (i' + rs.2.2.2.2) K B5 h5 x5 _ res S5.dropL.dropL G5 (by simp at hfit; omega) (by simp; omega) hm).mono ?_
      rintro v h' ⟨M, y, a1, a2, a3⟩
      exact ⟨M, y, a1, (gJ.trans gK).trans a2, a3⟩
theorem dOb {I : Im} {A L : Ls} {h : Hp} (S : Sy I A [] L h) {s : List Nat} (hs : s.length ≤ bG) (hb : ∀ c ∈ s, c < 256) (g f : Nat) (hf : f ≤ bG) (res : List Tok × Int × Int) (hm : qN g f s = some res) :
 Ev (fun n => aI n 48 [.s s] h) (bDj I A [] L res) := by
 unfold qN at hm
 refine Ev.enter (fun n => cNx n _ h) ?_
 unfold s48 aZe
 refine eBd ?_
 refine eBj (fun e1 => ?_) (fun e1 => ?_)
 ·rw [if_pos (show 2000 < s.length by simp at e1; omega)] at hm
  cases hm
  refine yt ?_
  exact eAs ⟨I, .l0, rfl, ILe.refl _, S, TS'.nil I⟩
 ·rw [if_neg (show ¬ 2000 < s.length by simp at e1; omega)] at hm
  refine yj ?_
  unfold bJb bBb bIi bJd bXu
  refine wd ?_; refine wb fun _ _ _ => ?_
  rename_i r h1 S1
  exact bKa hs hb g f 0 0 I [] _ .l0 [] res (eEe S1) (Gr.nil I 4) (by omega) (by simpa using hf) hm
end Go.Dd

namespace Go.Dd
open Go.Proofs
def aDm : Nat → List Nat → List (List Nat) → Bool → PSt → Option ((List Nat × List (List Nat)) × PSt)
 | 0, _, _, _, _ => none
 | f + 1, t, l, first, st => (if first then some true else eD st 2 []).bind fun c => if c then (eB st 2 []).bind fun r => if t.length + r.1.text.length ≤ bG then (qS r.2 1 l.length).bind fun q => aDm f (t ++ r.1.text) (l ++ [q.1]) false q.2 else none else some ((t, l), st)
def lD (f : Nat) (st : PSt) : Option ((List Nat × List (List Nat)) × PSt) :=
 (eD st 1 []).bind fun c => if c then (cP st).bind fun r => some ((r.1.text, []), r.2) else (eD st 3 []).bind fun c =>
  if c then (cP st).bind fun r => (qS r.2 1 0).bind fun q => some ((r.1.text, [q.1]), q.2) else aDm f [] [] true st
def bXy : List Nat := [112, 114, 105, 109, 105, 116, 105, 118, 101, 58]
def aFe (st : PSt) : Option (Int × PSt) :=
 (eD st 3 [60]).bind fun c => if c then (cP st).bind fun r => (eB r.2 2 bXy).bind fun a => (eB a.2 4 []).bind fun b =>
  (eB (if 255 < b.1.num then bS b.2 b.1 2 else b.2) 3 [62]).bind fun d => some (b.1.num, d.2) else some (0, st)
def pK (f : Nat) : PF := fun st => (lD f st).bind fun a => (aFe a.2).bind fun b => some (.mk 11 a.1.1 b.1 a.1.2 [] [], b.2)
def Node.with (x : Node) (ts : List (List Nat)) (ks : List Node) : Node := match x with
 | .mk k t m ns _ _ => .mk k t m ns ts ks
def lV (H : PF) (f : Nat) (lx : List Tok × Int × Int) : Option (Node × Int × Int) :=
 if lx.2.2 = 0 then (H ⟨lx.1, 0, 0, 0⟩).bind fun a => (lM f a.2).bind fun b => (jM (mO f) f [] b.2).bind fun c => (eB c.2 0 []).bind fun d =>
  if d.2.err = 0 then some (a.1.with b.1 c.1, 0, 0) else some (zN, d.2.pos, d.2.err)
 else some (zN, lx.2.1, lx.2.2)
theorem cOx (n : Nat) (x y : DV) (h : Hp) : aI (n + 1) 52 [x, y] h = s52 (aI n) n x y h := by kernel_rfl
theorem cJw (n : Nat) (x : DV) (h : Hp) : aI (n + 1) 53 [x] h = s53 (aI n) n x h := by kernel_rfl
theorem cNv (n : Nat) (x : DV) (h : Hp) : aI (n + 1) 29 [x] h = s29 (aI n) n x h := by kernel_rfl
theorem cQz (n : Nat) (x y : DV) (h : Hp) : aI (n + 1) 26 [x, y] h = s26 (aI n) n x y h := by kernel_rfl
theorem cQb (n : Nat) (x : DV) (h : Hp) : aI (n + 1) 17 [x] h = s17 (aI n) n x h := by kernel_rfl
theorem dFl (rec : FuncId → List DV → Hp → aF) (x : DV) (h : Hp) : eA CF rec (.f 29 [] []) [x] h = rec 29 [x] h := by kernel_rfl
theorem cSx {I : Im} {A L : Ls} {h : Hp} {p : Pos} {s : DV} {st : PSt} (S : Sy I A [PS p s st] L h) (T : TS' I s st.toks) {m : Int} {st' : PSt} (hm : aFe st = some (m, st')) :
 Ev (fun n => aI n 53 [.p p 0] h) (fun v h' => v = .i .i64 m ∧ ∃ s', Sy I A [PS p s' st'] L h' ∧ TS' I s' st'.toks) := by
 unfold aFe at hm
 obtain ⟨c, hc, hm⟩ := aT hm
 refine Ev.enter (fun n => cJw n _ h) ?_
 unfold s53 cXy
 refine eAr (eV S T hc) ?_
 rintro _ _ ⟨rfl, S1⟩
 cases c with
 | false =>
  simp only [Bool.false_eq_true, if_false, aZ, bT] at hm
  obtain ⟨rfl, rfl⟩ := hm
  refine ao (yt ?_)
  exact eAs ⟨rfl, s, S1, T⟩
 | true =>
  rw [if_pos rfl] at hm
  obtain ⟨⟨t1, st1⟩, h1, hm⟩ := aT hm
  obtain ⟨⟨t2, st2⟩, h2, hm⟩ := aT hm
  obtain ⟨⟨t3, st3⟩, h3, hm⟩ := aT hm
  obtain ⟨⟨t4, st4⟩, h4, hm⟩ := aT hm
  simp only [aZ, bT] at hm
  obtain ⟨rfl, rfl⟩ := hm
  refine an (yj ?_)
  unfold cXq
  refine eAr (cX S1 T h1) ?_
  rintro _ _ ⟨rfl, s2, S2, T2⟩
  unfold cWw
  refine eAr (iX S2 T2 h2) ?_
  rintro _ _ ⟨rfl, s3, S3, T3⟩
  unfold cXp
  refine eAr (iX S3 T3 h3) ?_
  rintro _ _ ⟨rfl, s4, S4, T4⟩
  refine wa fun _ _ _ => ?_; refine wt fun _ _ => ?_
  unfold cYw cBg
  refine wf ?_; refine wl ?_
  refine eBj (fun e1 => ?_) (fun e1 => ?_)
  ·refine yt ?_; refine ws ?_
   simp only [if_pos (show 255 < t3.num from e1)] at h4
   refine eAr (lT (by assumption) T4.2.one t3 _) ?_
   rintro _ _ ⟨rfl, S5⟩
   refine eAr (iX S5 (by rw [bJ]; exact T4) h4) ?_
   rintro _ _ ⟨rfl, s6, S6, T6⟩
   refine wf ?_; refine wl ?_
   exact eAs ⟨rfl, s6, dp, T6⟩
  ·refine yj ?_
   simp only [if_neg (show ¬ 255 < t3.num from e1)] at h4
   refine eAr (iX (by assumption) T4 h4) ?_
   rintro _ _ ⟨rfl, s6, S6, T6⟩
   refine wf ?_; refine wl ?_
   exact eAs ⟨rfl, s6, dp, T6⟩
def cFl (I : Im) (A L : Ls) (p b : Pos) (r : List Nat × List (List Nat)) (st : PSt) (v : DV) (h : Hp) : Prop :=
 ∃ J s x, ILe I J ∧ Sy J A [PS p s st] ((b, some (.row .ex [.i .i64 (Int.ofNat 11), .s r.1, .i .i64 (Int.ofNat 0), x, .l0, .l0])) :: L) h ∧ TS' J s st.toks ∧ SS J x r.2
theorem bRv {A L : Ls} {p b : Pos} : ∀ (f j : Nat) (I : Im) (B : Ls) (h : Hp) (s x : DV) (st : PSt) (t : List Nat) (l : List (List Nat)) (first : Bool) (r : List Nat × List (List Nat)) (st' : PSt),
 Sy I (B ++ A) [PS p s st] ((b, some (.row .ex [.i .i64 (Int.ofNat 11), .s t, .i .i64 (Int.ofNat 0), x, .l0, .l0])) :: L) h → Gr I 1 B x l.length (l.map .s) → l.length + f ≤ bG → TS' I s st.toks → aDm f t l first st = some (r, st') →
 Ev (fun n => pG (aI n) n (n - j) (.p p 0) (.p b 0) (.b first) h) (cFl I A L p b r st') := by
 intro f
 induction f with
 | zero => intro j I B h s x st t l first r st' S G hl T hm; cases hm
 | succ f ih =>
  intro j I B h s x st t l first r st' S G hl T hm
  unfold aDm at hm
  obtain ⟨c, hc, hm⟩ := aT hm
  refine eAw j (ll := fun n m => pG (aI n) n m (.p p 0) (.p b 0) (.b first) h) (bb := fun n m => aKy (aI n) n (pG (aI n) n m) (.p p 0) (.p b 0) (.b first) h) (fun _ _ => rfl) ?_
  have hx := G.one
  unfold aKy
  have rest : c = true → ∀ h1, Sy I (B ++ A) [PS p s st] ((b, some (.row .ex [.i .i64 (Int.ofNat 11), .s t, .i .i64 (Int.ofNat 0), x, .l0, .l0])) :: L) h1 →
   Ev (fun n => bnd (bI (.p b 0) h1) fun v26 h26 =>
    bnd (aA 1 v26 h26) fun v27 h27 =>
    bnd (aB v27 h27) fun v28 h28 =>
    bnd (aI n 51 [.p p 0, .i .i64 (Int.ofNat 2), .s []] h28) fun v29 h29 =>
    Dd.cnd (bM (aB v27 h29) v28 && true) (
    bnd (bY 1 v29 h29) fun v30 h30 =>
    bnd (cB .add v28 v30 h30) fun v31 h31 =>
    bnd (bI (.p b 0) h31) fun v32 h32 =>
    bnd (aA 1 v32 h32) fun v33 h33 =>
    bnd (aC 1 v33 v31 h33) fun v34 h34 =>
    bnd (bI (.p b 0) (fP 1 h34)) fun v35 h35 =>
    bnd (aA 3 v35 h35) fun v36 h36 =>
    bnd (aB v36 h36) fun v37 h37 =>
    bnd (bI (.p b 0) h37) fun v38 h38 =>
    bnd (aA 3 v38 h38) fun v39 h39 =>
    bnd (aB v39 h39) fun v40 h40 =>
    bnd (aI n 82 [.p p 0, .i .i64 (Int.ofNat 1), v40] h40) fun v41 h41 =>
    Dd.cnd (bM (aB v36 h41) v37 && true) (
    bnd (aW (cS 0 h34.next) [.s []] 1 [(0, 1, v41)] h41) fun v42 h42 =>
    bnd (aY 1 16 v37 v42 h42) fun v43 h43 =>
    bnd (bI (.p b 0) h43) fun v44 h44 =>
    bnd (aA 3 v44 h44) fun v45 h45 =>
    bnd (aC 1 v45 v43 h45) fun v46 h46 =>
    pG (aI n) n (n - (j + 1)) (.p p 0) (.p b 0) (.b false) h46))) (cFl I A L p b r st') := by
   intro hc1 h1 S1
   subst hc1
   rw [if_pos rfl] at hm
   obtain ⟨⟨t1, st1⟩, ht1, hm⟩ := aT hm
   split at hm
   ·rename_i hlen
    obtain ⟨⟨t2, st2⟩, ht2, hm⟩ := aT hm
    refine wn (wf ?_); refine wl ?_
    refine eAr (iX S1 T ht1) ?_
    rintro _ _ ⟨rfl, s2, S2, T2⟩
    refine Ev.cnd ?_ ?_
    ·rw [Bool.and_true]; exact dQ S2 (by repeat (first | exact bX | apply List.Mem.tail)) rfl rfl (mZ _)
    refine wp ?_
    refine eAz (by simp only [bG] at hlen; omega) ?_
    refine wn (wf ?_); refine wu fun _ _ => ?_; refine wn (wf ?_)
    have Sr := Sy.res (by assumption)
    refine wl ?_; refine wn (wf ?_); refine wl ?_
    refine eAr (aMe Sr T2 G.len ht2) ?_
    rintro _ _ ⟨rfl, s3, S3, T3⟩
    refine Ev.cnd ?_ ?_
    ·rw [Bool.and_true]; exact dQ S3 (by repeat (first | exact bX | apply List.Mem.tail)) rfl hx G.beq
    refine eBl S3 (cs := [.s t2]) (by repeat (first | exact Rpl.head _ | apply Rpl.tail)) rfl ?_
    intro h4 S4
    obtain ⟨x5, h5, B5, e5, S5, G5⟩ := lI G S4 (by repeat (first | exact bX | apply List.Mem.tail)) (by omega)
    have hx5 := G5.one
    refine Ev.op e5 ?_
    refine wn (wf ?_); refine wu fun _ _ => ?_
    exact ih (j + 1) I B5 _ s3 x5 st2 (t ++ t1.text) (l ++ [t2]) false r st' (dp) G5 (by simp; omega) T3 hm
   ·cases hm
  cases first with
  | true =>
   simp only [if_true, aZ] at hc
   have R := rest hc.symm _ S
   exact R
  | false =>
   simp only [Bool.false_eq_true, if_false] at hc
   refine zf (wm (zf ?_))
   refine eAr (eV S T hc) ?_
   rintro _ _ ⟨rfl, S1⟩
   cases c with
   | true =>
    have R := rest rfl _ S1
    exact R
   | false =>
    simp only [Bool.false_eq_true, if_false, aZ, bT] at hm
    obtain ⟨rfl, rfl⟩ := hm
    refine aq (yj ?_)
    obtain ⟨J, gJ, S5, F5⟩ := G.freeze S1
    exact eAs ⟨J, s, x, gJ, S5, T.mono gJ, by simp; omega, F5⟩
theorem aWo {I : Im} {A L : Ls} {h : Hp} {p b : Pos} {s : DV} {st : PSt} (f : Nat) (hf : f ≤ bG) (S : Sy I A [PS p s st] ((b, some (.row .ex [.i .i64 (Int.ofNat 11), .s [], .i .i64 (Int.ofNat 0), .l0, .l0, .l0])) :: L) h) (T : TS' I s st.toks) {r : List Nat × List (List Nat)} {st' : PSt} (hm : lD f st = some (r, st')) :
 Ev (fun n => aI n 52 [.p p 0, .p b 0] h) (cFl I A L p b r st') := by
 unfold lD at hm
 obtain ⟨c, hc, hm⟩ := aT hm
 refine Ev.enter (fun n => cOx n _ _ h) ?_
 unfold s52
 refine eAr (eV S T hc) ?_
 rintro _ _ ⟨rfl, S1⟩
 unfold bBn
 cases c with
 | true =>
  rw [if_pos rfl] at hm
  obtain ⟨⟨t1, st1⟩, ht1, hm⟩ := aT hm
  simp only [aZ, bT] at hm
  obtain ⟨rfl, rfl⟩ := hm
  refine yt ?_
  refine eAr (cX S1 T ht1) ?_
  rintro _ _ ⟨rfl, s2, S2, T2⟩
  refine wp ?_; refine wn (wf ?_); refine wu fun _ _ => ?_
  exact eAs ⟨I, s2, .l0, ILe.refl _, by assumption, T2, SS.nil I⟩
 | false =>
  rw [if_neg (by simp)] at hm
  obtain ⟨c, hc, hm⟩ := aT hm
  refine yj ?_
  unfold cBv
  refine eAr (eV S1 T hc) ?_
  rintro _ _ ⟨rfl, S2⟩
  unfold bBz
  cases c with
  | true =>
   rw [if_pos rfl] at hm
   obtain ⟨⟨t1, st1⟩, ht1, hm⟩ := aT hm
   obtain ⟨⟨t2, st2⟩, ht2, hm⟩ := aT hm
   simp only [aZ, bT] at hm
   obtain ⟨rfl, rfl⟩ := hm
   refine yt ?_
   refine eAr (cX S2 T ht1) ?_
   rintro _ _ ⟨rfl, s3, S3, T3⟩
   refine wp ?_; refine wn (wf ?_); refine wu fun _ _ => ?_; refine wn (wf ?_)
   have Sr := Sy.res (by assumption)
   refine wl ?_; refine wn (wf ?_); refine wl ?_
   have G := Gr.nil I 1
   refine eAr (aMe Sr T3 G.len ht2) ?_
   rintro _ _ ⟨rfl, s4, S4, T4⟩
   refine Ev.cnd ?_ ?_
   ·rw [Bool.and_true]; exact dQ S4 (by repeat (first | exact bX | apply List.Mem.tail)) rfl rfl G.beq
   refine eBl S4 (cs := [.s t2]) (by repeat (first | exact Rpl.head _ | apply Rpl.tail)) rfl ?_
   intro h5 S5
   obtain ⟨x6, h6, B6, e6, S6, G6⟩ := lI (l := []) (A := A) (B := []) G S5 (by repeat (first | exact bX | apply List.Mem.tail)) (by simp [bG])
   have hx6 := G6.one
   refine Ev.op e6 ?_
   refine wn (wf ?_); refine wu fun _ _ => ?_
   obtain ⟨J, gJ, S7, F7⟩ := G6.freeze (A0 := A) (by assumption)
   exact eAs ⟨J, s4, x6, gJ, S7.dropL, T4.mono gJ, by simp [bG], F7⟩
  | false =>
   simp only [Bool.false_eq_true, if_false] at hm
   refine yj ?_
   unfold bOb aYs bZq
   exact bRv f 0 I [] _ s .l0 st [] [] true r st' S2 (Gr.nil I 1) (by simpa using hf) T hm
theorem cOl (f : Nat) (hf : f ≤ bG) : uE 29 (pK f) := by
 intro I A L h p s st x st' S T hm
 unfold pK at hm
 obtain ⟨⟨⟨t, l⟩, st1⟩, h1, hm⟩ := aT hm
 obtain ⟨⟨m, st2⟩, h2, hm⟩ := aT hm
 simp only [aZ, bT] at hm
 obtain ⟨rfl, rfl⟩ := hm
 refine Ev.enter (fun n => cNv n _ h) ?_
 unfold s29
 refine wa fun _ _ _ => ?_; refine wd ?_; refine wa fun _ _ _ => ?_; refine wt fun _ _ => ?_
 refine eAr (aWo f hf (by assumption) T h1) ?_
 rintro _ _ ⟨J, s3, x3, g3, S3, T3, N3⟩
 have o3 := N3.2.one
 refine eAr (cSx S3 T3 h2) ?_
 rintro _ _ ⟨rfl, s4, S4, T4⟩
 refine wf ?_; refine wu fun _ _ => ?_; refine ws ?_; refine wt fun _ _ => ?_; refine ws ?_
 exact eAs ⟨J, s4, _, rfl, g3, dp, T4, NV.of N3 (SS.nil J) (NS.nil J)⟩
def aSl (I : Im) (A L : Ls) (res : Node × Int × Int) (v : DV) (h : Hp) : Prop :=
 ∃ J cs, v = .t [.a cs, .i .i64 res.2.1, .i .i64 res.2.2] ∧ ILe I J ∧ Sy J A [] L h ∧ NV J res.1 cs
theorem cIh {I : Im} {A L : Ls} {h : Hp} {gh : FuncId} {H : PF} (hg : ∀ (rec : FuncId → List DV → Hp → aF) (x : DV) (h : Hp), eA CF rec (.f gh [] []) [x] h = rec gh [x] h) (HH : uE gh H) (S : Sy I A [] L h) {s : List Nat} (hs : s.length ≤ bG) (hb : ∀ c ∈ s, c < 256) (g fl f : Nat) (hfl : fl ≤ bG) (hf : f + 2 ≤ bG)
 (lx : List Tok × Int × Int) (hl : qN g fl s = some lx) (res : Node × Int × Int) (hm : lV H f lx = some res) :
 Ev (fun n => aI n 26 [.s s, .f gh [] []] h) (aSl I A L res) := by
 refine Ev.enter (fun n => cQz n _ _ h) ?_
 unfold s26
 simp only [hg]
 unfold lV at hm
 refine wa fun _ _ _ => ?_
 refine eAr (dOb (by assumption) hs hb g fl hfl lx hl) ?_
 rintro _ h1 ⟨J, x1, rfl, g1, S1, T1⟩
 have o1 := T1.2.one
 refine wx ?_; refine wx ?_; refine wx ?_
 refine eBi (fun e1 => ?_) (fun e1 => ?_)
 ·rw [if_neg (show ¬ lx.2.2 = 0 from e1)] at hm
  cases hm
  refine yt ?_; refine wd ?_; refine wt fun _ _ => ?_; refine ws ?_
  exact eAs ⟨J, _, rfl, g1, dp, NV.flat _ _ _⟩
 ·rw [if_pos (show lx.2.2 = 0 from e1)] at hm
  obtain ⟨⟨y, st1⟩, hy, hm⟩ := aT hm
  obtain ⟨⟨ts, st2⟩, h2, hm⟩ := aT hm
  obtain ⟨⟨ks, st3⟩, h3, hm⟩ := aT hm
  obtain ⟨⟨t, st4⟩, h4, hm⟩ := aT hm
  refine yj ?_; refine wd ?_; refine wb fun _ _ _ => ?_
  rename_i p hp Sp
  refine eAr (HH _ _ _ _ p x1 ⟨lx.1, 0, 0, 0⟩ _ _ (eEe Sp) T1 hy) ?_
  rintro _ _ ⟨K, s2, cs, rfl, g2, S2, T2, N2⟩
  obtain ⟨k, tt, mm, ns, ts0, ks0⟩ := y
  obtain ⟨d1, d2, d3, rfl, a1, a2, a3, cells, F, NL⟩ := N2
  have q1 := a1.2.one
  have q2 := a2.2.one
  have q3 := F.one
  refine wa fun _ _ _ => ?_; refine wt fun _ _ => ?_
  refine eAr (aPi f (by omega) (by assumption) T2 h2) ?_
  rintro v3 _ ⟨M, s3, g3, S3, T3, N3⟩
  have q4 := N3.2.one
  refine wf ?_; refine wu fun _ _ => ?_
  refine eAr (aRq (aDb f hf) f (by omega) (by assumption) T3 h3) ?_
  rintro v4 _ ⟨O, s4, g4, S4, T4, N4⟩
  have q5 := N4.one
  refine wf ?_; refine wu fun _ _ => ?_
  refine eAr (iX (by assumption) T4 h4) ?_
  rintro _ _ ⟨rfl, s5, S5, T5⟩
  have q6 := T5.2.one
  have hdrop : ∀ {K : Im} {e : Pos × Option Ob} {M : Ls} {h'' : Hp}, Sy K A [e] M h'' → Sy K A [] M h'' := fun S => Sy.dropL (eEf (Q := []) S)
  refine wn (wf ?_); refine wq ?_
  refine eBi (fun e2 => ?_) (fun e2 => ?_)
  ·rw [if_neg (show ¬ st4.err = 0 from e2)] at hm
   cases hm
   refine yt ?_; refine wd ?_; refine wn (wf ?_); refine wq ?_; refine wn (wf ?_); refine wq ?_; refine wt fun _ _ => ?_
   refine Ev.cnd ?_ ?_
   ·rename_i hq Sq
    rw [ld1 (Sq.memQ (bX)) rfl rfl, ld1 (Sq.memQ (bX)) rfl rfl]
    simp [bM, DV.beq]
   refine ws ?_
   exact eAs ⟨O, _, rfl, ((g1.trans g2).trans g3).trans g4, hdrop (dp), NV.flat _ _ _⟩
  ·rw [if_pos (show st4.err = 0 from e2)] at hm
   cases hm
   refine yj ?_; refine ws ?_; refine wt fun _ _ => ?_; refine ws ?_
   refine eAs ⟨O, _, rfl, ((g1.trans g2).trans g3).trans g4, hdrop (dp), ?_⟩
   exact NV.of ((a1.mono g3).mono g4) (N3.mono g4) N4
theorem bLl {I : Im} {A L : Ls} {h : Hp} (S : Sy I A [] L h) {s : List Nat} (hs : s.length ≤ bG) (hb : ∀ c ∈ s, c < 256) (g fl f fh : Nat) (hfl : fl ≤ bG) (hf : f + 2 ≤ bG) (hfh : fh ≤ bG)
 (lx : List Tok × Int × Int) (hl : qN g fl s = some lx) (res : Node × Int × Int) (hm : lV (pK fh) f lx = some res) :
 Ev (fun n => aI n 17 [.s s] h) (aSl I A L res) := by
 refine Ev.enter (fun n => cQb n _ h) ?_
 unfold s17
 refine wa fun _ _ _ => ?_
 refine eAr (cIh dFl (cOl fh hfh) (by assumption) hs hb g fl f hfl hf lx hl res hm) ?_
 rintro _ h1 ⟨J, cs, rfl, g1, S1, N1⟩
 obtain ⟨l1, o1, b1⟩ := N1.shape
 refine wx ?_; refine wx ?_; refine wx ?_; refine wt fun _ _ => ?_; refine ws ?_
 exact eAs ⟨J, cs, rfl, g1, dp, N1⟩
end Go.Dd

namespace Go.Dd
def Good (l : List Tok) : Prop := ∃ a e, l = a ++ [e] ∧ e.kind = 0 ∧ (∀ t ∈ a, t.kind ≠ 0) ∧ ∀ t ∈ a ++ [e], t.text.length ≤ 10000
def T1 (t : Tok) : Nat := if t.kind = 1 ∨ t.kind = 4 ∨ t.kind = 5 ∨ t.kind = 6 ∨ t.kind = 8 then 1 else 0
def T2 (t : Tok) : Nat := if t.kind = 1 ∨ t.kind = 4 ∨ t.kind = 5 ∨ t.kind = 6 ∨ t.kind = 8 ∨ t.kind = 2 ∨ t.kind = 3 then 1 else 0
def aQn (l : List Tok) : Nat := (l.map T1).sum
def lJ (l : List Tok) : Nat := (l.map T2).sum
mutual
def iY : Node → Nat
 | .mk k _ _ ns ts ks => (if k ≠ 9 ∧ k ≠ 8 ∧ k ≠ 10 ∧ k ≠ 11 ∧ k ≠ 4 then 1 else 0) + ns.length + ts.length + fZ ks
def fZ : List Node → Nat
 | [] => 0
 | x :: l => iY x + fZ l
end
theorem gS : ∀ (a b : List Node), fZ (a ++ b) = fZ a + fZ b
 | [], b => by simp [fZ]
 | x :: a, b => by simp [fZ, gS a b]; omega
theorem Good.head {l : List Tok} (h : Good l) : ∃ t r, l = t :: r ∧ (t.kind = 0 → r = []) ∧ (t.kind ≠ 0 → Good r ∧ 1 ≤ r.length) := by
 obtain ⟨a, e, rfl, he, ha, hb⟩ := h
 cases a with
 | nil => exact ⟨e, [], rfl, fun _ => rfl, fun h => absurd he h⟩
 | cons t a =>
  refine ⟨t, a ++ [e], rfl, fun h => absurd h (ha t (by simp)), fun _ => ⟨⟨a, e, rfl, he, fun u hu => ha u (by simp [hu]), fun u hu => hb u (by simp at hu ⊢; exact .inr hu)⟩, by simp⟩⟩
theorem Good.text {l : List Tok} (h : Good l) {t : Tok} {r : List Tok} (e : l = t :: r) : t.text.length ≤ 10000 := by
 obtain ⟨a, e', rfl, he, ha, hb⟩ := h
 exact hb t (by rw [e]; simp)
structure Stp (a b : PSt) (k : Nat) : Prop where
 good : Good b.toks
 err : a.err ≠ 0 → b.err ≠ 0
 run : ∃ c, a.toks = c ++ b.toks ∧ (b.err = 0 → aQn c ≤ k ∧ k ≤ lJ c)
theorem Stp.ok {a b : PSt} {k : Nat} (h : Stp a b k) (e : b.err = 0) : a.err = 0 := Decidable.byContradiction fun n => h.err n e
theorem Stp.refl {a : PSt} (h : Good a.toks) : Stp a a 0 := ⟨h, id, [], rfl, fun _ => by simp [aQn, lJ]⟩
theorem Stp.trans {a b c : PSt} {j k : Nat} (h : Stp a b j) (g : Stp b c k) : Stp a c (j + k) := by
 obtain ⟨x, hx, h1⟩ := h.run
 obtain ⟨y, hy, h2⟩ := g.run
 refine ⟨g.good, fun e => g.err (h.err e), x ++ y, by rw [hx, hy, List.append_assoc], fun e => ?_⟩
 have e' := g.ok e
 obtain ⟨a1, a2⟩ := h1 e'
 obtain ⟨b1, b2⟩ := h2 e
 simp only [aQn, lJ, List.map_append, List.sum_append] at *
 omega
theorem Stp.any {a b : PSt} {j : Nat} (h : Stp a b j) (e : b.err ≠ 0) (k : Nat) : Stp a b k := ⟨h.good, h.err, by
 obtain ⟨x, hx, h1⟩ := h.run
 exact ⟨x, hx, fun e' => absurd e' e⟩⟩
theorem Stp.cast {a b : PSt} {j k : Nat} (h : Stp a b j) (e : b.err = 0 → j = k) : Stp a b k := by
 by_cases hb : b.err = 0
 ·rw [← e hb]; exact h
 ·exact h.any hb k
theorem Stp.len {a b : PSt} {k : Nat} (h : Stp a b k) : b.toks.length ≤ a.toks.length := by
 obtain ⟨x, hx, _⟩ := h.run
 rw [hx]; simp
theorem Stp.same {a b : PSt} (h : Good b.toks) (e1 : b.toks = a.toks) (e2 : b.err = a.err) : Stp a b 0 := ⟨h, fun e => by rw [e2]; exact e, [], by simp [e1], fun _ => by simp [aQn, lJ]⟩
theorem eS {st : PSt} (h : Good st.toks) : ∃ t r, st.toks = t :: r ∧ bN st 0 = some t ∧ (t.kind = 0 → r = []) ∧ (t.kind ≠ 0 → Good r ∧ 1 ≤ r.length) := by
 obtain ⟨t, r, e, h1, h2⟩ := h.head
 exact ⟨t, r, e, by simp [bN, e], h1, h2⟩
theorem cYt {st : PSt} (h : Good st.toks) : ∃ t, bN st 1 = some t := by
 obtain ⟨t, r, e, h1, h2⟩ := h.head
 unfold bN
 have : min 1 (st.toks.length - 1) < st.toks.length := by rw [e]; simp; omega
 exact ⟨st.toks[min 1 (st.toks.length - 1)], by simp [this]⟩
def qM (st : PSt) (t : Tok) (kind : Int) (text : List Nat) : Bool := decide (st.err = 0) && decide (t.kind = kind) && (decide (text = []) || decide (t.text = text))
theorem qV {st : PSt} {t : Tok} (h : bN st 0 = some t) (kind : Int) (text : List Nat) : eD st kind text = some (qM st t kind text) := by
 unfold eD; rw [h]; rfl
theorem dN {st : PSt} {t : Tok} {kind : Int} {text : List Nat} (h : qM st t kind text = true) : st.err = 0 ∧ t.kind = kind := by
 simp [qM] at h
 exact h.1
theorem cZl {st : PSt} (h : Good st.toks) {t : Tok} {r : List Tok} (e : st.toks = t :: r) (hk : t.kind ≠ 0) : cP st = some (t, { st with toks := r }) ∧ Good r := by
 obtain ⟨t', r', e', h1, h2⟩ := h.head
 rw [e] at e'
 cases e'
 obtain ⟨g1, g2⟩ := h2 hk
 refine ⟨?_, g1⟩
 unfold cP
 have : bN st 0 = some t := by simp [bN, e]
 simp only [this, Option.bind_some, if_neg hk]
 rw [if_pos (by rw [e]; simp; omega), e]
 rfl
theorem cXd {st : PSt} (h : Good st.toks) {t : Tok} {r : List Tok} (e : st.toks = t :: r) (hk : t.kind = 0) : cP st = some (t, st) := by
 unfold cP
 have : bN st 0 = some t := by simp [bN, e]
 simp [this, hk]
theorem eP {st : PSt} (h : Good st.toks) {t : Tok} (ht : bN st 0 = some t) (hk : t.kind ≠ 0) : ∃ st', cP st = some (t, st') ∧ st'.err = st.err ∧ st'.deep = st.deep ∧ st'.pos = st.pos ∧ st'.toks.length + 1 = st.toks.length ∧ Good st'.toks ∧ st.toks = t :: st'.toks ∧ ∀ k, T1 t ≤ k → k ≤ T2 t → Stp st st' k := by
 obtain ⟨t', r, e, h1, _, _⟩ := eS h
 rw [h1] at ht
 cases ht
 obtain ⟨a1, a2⟩ := cZl h e hk
 refine ⟨_, a1, rfl, rfl, rfl, by rw [e]; simp, a2, e, fun k k1 k2 => ⟨a2, id, [t], by simp [e], fun _ => by simp [aQn, lJ]; omega⟩⟩
theorem cWr {st : PSt} (h : Good st.toks) : ∃ t st', cP st = some (t, st') ∧ st'.err = st.err ∧ Good st'.toks ∧ ∃ c, st.toks = c ++ st'.toks ∧ (c = [] ∨ c = [t]) := by
 obtain ⟨t, r, e, h1, h2, h3⟩ := eS h
 by_cases hk : t.kind = 0
 ·exact ⟨t, st, cXd h e hk, rfl, h, [], rfl, .inl rfl⟩
 ·obtain ⟨a1, a2⟩ := cZl h e hk
  exact ⟨t, _, a1, rfl, a2, [t], by simp [e], .inr rfl⟩
theorem aCo {st : PSt} (h : Good st.toks) (t : Tok) (e : Int) (he : e ≠ 0) (k : Nat) : Stp st (bS st t e) k ∧ (bS st t e).err ≠ 0 := by
 have : (bS st t e).err ≠ 0 := by
  unfold bS
  split
  ·exact he
  ·rename_i h; exact h
 refine ⟨⟨by rw [bJ]; exact h, fun _ => this, [], by rw [bJ]; simp, fun e' => absurd e' this⟩, this⟩
theorem aDz {st : PSt} (h : Good st.toks) (kd : Int) (tx : List Nat) (k : Nat) (hk : kd ≠ 0 → ∀ t : Tok, t.kind = kd → T1 t ≤ k ∧ k ≤ T2 t) (h0 : kd = 0 → k = 0) :
 ∃ t st', eB st kd tx = some (t, st') ∧ Stp st st' k ∧ (st'.err = 0 → st.err = 0 ∧ t.kind = kd) := by
 obtain ⟨t, r, e, h1, h2, h3⟩ := eS h
 unfold eB
 rw [qV h1]
 simp only [Option.bind_some]
 cases hc : qM st t kd tx with
 | true =>
  obtain ⟨c1, c2⟩ := dN hc
  by_cases hz : t.kind = 0
  ·refine ⟨t, st, by simp [cXd h e hz], ?_, fun _ => ⟨c1, c2⟩⟩
   rw [h0 (by rw [← c2]; exact hz)]
   exact Stp.refl h
  ·obtain ⟨st', a1, a2, a3, a4, a5, a6, a7, a8⟩ := eP h h1 hz
   obtain ⟨k1, k2⟩ := hk (by rw [← c2]; exact hz) t c2
   exact ⟨t, st', by simp [a1], a8 k k1 k2, fun _ => ⟨c1, c2⟩⟩
 | false =>
  obtain ⟨f1, f2⟩ := aCo h t 13 (by decide) k
  exact ⟨z4, _, by simp [h1], f1, fun e => absurd e f2⟩
theorem tIn {j : Int} {k : Nat} (h : (j = 1 ∨ j = 4 ∨ j = 5 ∨ j = 6 ∨ j = 8) ∧ k = 1 ∨ (j = 2 ∨ j = 3) ∧ k ≤ 1 ∨ (j = 7 ∨ j = 9 ∨ j = 10) ∧ k = 0) : ∀ t : Tok, t.kind = j → T1 t ≤ k ∧ k ≤ T2 t := by
 intro t ht
 unfold T1 T2
 rw [ht]
 rcases h with ⟨rfl | rfl | rfl | rfl | rfl, rfl⟩ | ⟨rfl | rfl, hk⟩ | ⟨rfl | rfl | rfl, rfl⟩ <;> simp <;> omega
theorem bAz {st : PSt} (h : Good st.toks) (kd : Int) (hk : kd = 1 ∨ kd = 8) (len : Nat) : ∃ t st', qS st kd len = some (t, st') ∧ Stp st st' 1 ∧ st'.toks.length ≤ st.toks.length := by
 obtain ⟨t, st1, h1, h2, h3⟩ := aDz h kd [] 1 (fun _ => tIn (by rcases hk with rfl | rfl <;> simp)) (by rcases hk with rfl | rfl <;> simp)
 unfold qS
 rw [h1]
 simp only [Option.bind_some]
 by_cases hl : len = 4
 ·obtain ⟨f1, f2⟩ := aCo h2.good t 18 (by decide) 0
  refine ⟨_, _, rfl, ?_, ?_⟩
  ·simp only [hl, if_true]; exact h2.trans f1
  ·simp only [hl, if_true, bJ]; exact h2.len
 ·refine ⟨_, _, rfl, ?_, ?_⟩
  ·simp only [hl, if_false]; exact h2
  ·simp only [hl, if_false]; exact h2.len
theorem dZl {st : PSt} (h : Good st.toks) : ∃ c, bKl st = some c ∧ (c = true → st.err = 0 ∧ ∃ t u r, st.toks = t :: u :: r ∧ t.kind = 3 ∧ u.kind = 4) := by
 obtain ⟨t, r, e, h1, h2, h3⟩ := eS h
 obtain ⟨u, hu⟩ := cYt h
 unfold bKl
 rw [hu, qV h1, h1]
 refine ⟨_, rfl, fun hc => ?_⟩
 simp at hc
 obtain ⟨⟨c1, c2⟩, _⟩ := hc
 obtain ⟨d1, d2⟩ := dN c1
 refine ⟨d1, t, u, r.drop 1, ?_, d2, c2⟩
 obtain ⟨_, hl⟩ := h3 (by rw [d2]; decide)
 cases r with
 | nil => simp at hl
 | cons v r =>
  have : u = v := by
   unfold bN at hu
   rw [e] at hu
   simp at hu
   exact hu.symm
  rw [e, this]; rfl
theorem aVm {st : PSt} (h : Good st.toks) : ∃ x c st', mC st = some ((x, c), st') ∧ (c = true → Stp st st' (iY x) ∧ st'.toks.length < st.toks.length ∧ st.err = 0 ∧ st'.err = 0) ∧ (c = false → st' = st) ∧ x.kind ≠ 7 := by
 obtain ⟨t, r, e, h1, h2, h3⟩ := eS h
 unfold mC
 rw [h1]
 simp only [Option.bind_some]
 by_cases he : st.err = 0
 ·rw [if_pos he]
  obtain ⟨c, hc, hc2⟩ := dZl h
  rw [hc]
  simp only [Option.bind_some]
  cases c with
  | true =>
   obtain ⟨_, t', u, r', e', k1, k2⟩ := hc2 rfl
   have ht' : t = t' := by rw [e] at e'; exact (List.cons.inj e').1
   subst ht'
   obtain ⟨s1, a1, a2, a3, a4, a5, a6, a7, a8⟩ := eP h h1 (by rw [k1]; decide)
   have hr : s1.toks = u :: r' := by
    rw [a7] at e'; exact (List.cons.inj e').2
   have hl : bN s1 0 = some u := by simp [bN, hr]
   obtain ⟨s2, b1, b2, b3, b4, b5, b6, b7, b8⟩ := eP a6 hl (by rw [k2]; decide)
   simp only [if_true, a1, Option.bind_some, b1]
   refine ⟨_, _, _, rfl, fun _ => ⟨?_, by show s2.toks.length < _; omega, he, by show s2.err = 0; rw [b2, a2]; exact he⟩, (fun h => by cases h), ?_⟩
   rotate_left
   ·show (1 : Int) ≠ 7
    decide
   have S1 := a8 0 (by simp [T1, k1]) (by simp)
   have S2 := b8 1 (by simp [T1, k2]) (by simp [T2, k2])
   have : iY (.mk 1 [] (wJ (0 - u.num)) [] [] []) = 0 + 1 := by simp [iY, fZ]
   rw [this]
   exact S1.trans S2
  | false =>
   simp only [Bool.false_eq_true, if_false]
   have one : ∀ (j : Int) (kk : Int), (j = 4 ∨ j = 5 ∨ j = 6) → (kk ≠ 9 ∧ kk ≠ 8 ∧ kk ≠ 10 ∧ kk ≠ 11 ∧ kk ≠ 4) ∧ kk ≠ 7 → t.kind = j →
    ∃ x c st', ((cP st).bind fun r => some ((Node.mk kk t.text t.num [] [] [], true), r.2)) = some ((x, c), st') ∧ (c = true → Stp st st' (iY x) ∧ st'.toks.length < st.toks.length ∧ st.err = 0 ∧ st'.err = 0) ∧ (c = false → st' = st) ∧ x.kind ≠ 7 := by
    intro j kk hj hkk ht
    obtain ⟨s1, a1, a2, a3, a4, a5, a6, a7, a8⟩ := eP h h1 (by rw [ht]; omega)
    rw [a1]
    refine ⟨_, _, _, rfl, fun _ => ⟨?_, by show s1.toks.length < _; omega, he, by show s1.err = 0; rw [a2]; exact he⟩, (fun h => by cases h), ?_⟩
    rotate_left
    ·exact hkk.2
    have : iY (.mk kk t.text t.num [] [] []) = 1 := by simp [iY, fZ]; omega
    rw [this]
    exact a8 1 (by simp [T1]; split <;> omega) (by simp [T2]; rcases hj with rfl | rfl | rfl <;> simp [ht])
   by_cases h4 : t.kind = 4
   ·rw [if_pos h4]; exact one 4 1 (by simp) (by decide) h4
   ·rw [if_neg h4]
    by_cases h5 : t.kind = 5
    ·rw [if_pos h5]; exact one 5 2 (by simp) (by decide) h5
    ·rw [if_neg h5]
     by_cases h6 : t.kind = 6
     ·rw [if_pos h6]; exact one 6 3 (by simp) (by decide) h6
     ·rw [if_neg h6]
      exact ⟨_, _, _, rfl, (fun h => by cases h), fun _ => rfl, by show (0 : Int) ≠ 7; decide⟩
 ·rw [if_neg he]
  exact ⟨_, _, _, rfl, (fun h => by cases h), fun _ => rfl, by show (0 : Int) ≠ 7; decide⟩
end Go.Dd

namespace Go.Dd
def Shp (x : Node) : Prop := x.kind = 7 → ∃ t ks, x = cV t ks ∧ ks ≠ []
def wH (f : PF) (b : Nat) : Prop := ∀ st, Good st.toks → (st.err = 0 → st.toks.length ≤ b) → ∃ x st', f st = some (x, st') ∧ Stp st st' (iY x) ∧ Shp x
def jB (f : PF) (b : Nat) : Prop := ∀ st, Good st.toks → (st.err = 0 → st.toks.length ≤ b) → ∃ x st', f st = some (x, st') ∧ Stp st st' (iY x) ∧ Shp x ∧ (st'.err = 0 → st'.toks.length < st.toks.length)
theorem Shp.flat (k : Int) (t : List Nat) (m : Int) (ns ts : List (List Nat)) (ks : List Node) (h : k ≠ 7) : Shp (.mk k t m ns ts ks) := fun e => absurd e h
theorem Shp.send (t : List Nat) (x : Node) (ks : List Node) : Shp (cV t (x :: ks)) := fun _ => ⟨t, _, rfl, by simp⟩
theorem iO (t : List Nat) (ks : List Node) : iY (cV t ks) = 1 + fZ ks := by simp [cV, iY]
theorem cW (x : Node) (l : List Node) : fZ (x :: l) = iY x + fZ l := by simp [fZ]
theorem eF : fZ [] = 0 := by simp [fZ]
theorem xQ {f : PF} {b : Nat} (Hf : wH f b) {st : PSt} (h : Good st.toks) {t : Tok} (ht : bN st 0 = some t) (hk : t.kind = 7 ∨ t.kind = 10) (hb : st.err = 0 → st.toks.length ≤ b + 1) :
 ∃ x st', gI f st = some (x, st') ∧ Stp st st' (iY x) ∧ Shp x ∧ (st'.err = 0 → st'.toks.length < st.toks.length) := by
 obtain ⟨s1, a1, a2, a3, a4, a5, a6, a7, a8⟩ := eP h ht (by omega)
 have S1 := a8 0 (by unfold T1; split <;> omega) (by omega)
 unfold gI
 rw [a1]
 simp only [Option.bind_some]
 by_cases hd : s1.deep = 20
 ·rw [if_pos hd]
  obtain ⟨f1, f2⟩ := aCo a6 t 14 (by decide) (iY zN)
  refine ⟨_, _, rfl, ?_, Shp.flat _ _ _ _ _ _ (by decide), fun e => absurd e f2⟩
  have := S1.trans f1
  rwa [Nat.zero_add] at this
 ·rw [if_neg hd]
  obtain ⟨x, s2, b1, b2, b3⟩ := Hf { s1 with deep := wJ (s1.deep + 1) } a6 (fun e => by
   have : st.err = 0 := by rw [← a2]; exact e
   have := hb this
   show s1.toks.length ≤ b
   omega)
  rw [b1]
  refine ⟨_, _, rfl, ?_, b3, fun e => ?_⟩
  ·have S0 : Stp s1 { s1 with deep := wJ (s1.deep + 1) } 0 := Stp.same a6 rfl rfl
   have S3 : Stp s2 { s2 with deep := wJ (s2.deep - 1) } 0 := Stp.same b2.good rfl rfl
   have := ((S1.trans S0).trans b2).trans S3
   have e0 : 0 + 0 + iY x + 0 = iY x := by omega
   rwa [e0] at this
  ·have := b2.len
   have this : s2.toks.length ≤ s1.toks.length := this
   show s2.toks.length < _
   omega
theorem aGe : ∀ (f : Nat) (st : PSt) (x : Node), Good st.toks → (st.err = 0 → st.toks.length ≤ f) → 1 ≤ f → ∃ y st' k, iT f x st = some (y, st') ∧ Stp st st' k ∧ iY y = iY x + k ∧ (Shp x → Shp y)
 | 0, st, x, h, hf, h1 => by omega
 | f + 1, st, x, h, hf, h1 => by
  obtain ⟨t, r, e, ht, h2, h3⟩ := eS h
  unfold iT
  rw [qV ht]
  simp only [Option.bind_some]
  cases hc : qM st t 1 [] with
  | false => exact ⟨x, st, 0, by simp, Stp.refl h, by simp, id⟩
  | true =>
   obtain ⟨c1, c2⟩ := dN hc
   obtain ⟨s1, a1, a2, a3, a4, a5, a6, a7, a8⟩ := eP h ht (by omega)
   have hl := hf c1
   have hr : 1 ≤ s1.toks.length := by
    obtain ⟨t', r', e', _⟩ := a6.head
    rw [e']; simp
   obtain ⟨y, st', k, b1, b2, b3, b4⟩ := aGe f s1 (cV t.text [x]) a6 (fun _ => by omega) (by omega)
   refine ⟨y, st', 1 + k, by simp [a1, b1], (a8 1 (by simp [T1, c2]) (by simp [T2, c2])).trans b2, ?_, fun _ => b4 (Shp.send _ _ _)⟩
   rw [b3, iO, cW, eF]
   omega
theorem bEv : ∀ (f : Nat) (st : PSt) (l : List (List Nat)), Good st.toks → (st.err = 0 → st.toks.length ≤ f) → 1 ≤ f → ∃ l' st' k, oV f l st = some (l', st') ∧ Stp st st' k ∧ l'.length = l.length + k
 | 0, st, l, h, hf, h1 => by omega
 | f + 1, st, l, h, hf, h1 => by
  obtain ⟨t, r, e, ht, h2, h3⟩ := eS h
  unfold oV
  rw [qV ht]
  simp only [Option.bind_some]
  cases hc : qM st t 1 [] with
  | false =>
   obtain ⟨u, s1, a1, a2, a3⟩ := aDz h 10 [124] 0 (fun _ => tIn (by simp)) (by simp)
   exact ⟨l, s1, 0, by simp [a1], a2, by simp⟩
  | true =>
   obtain ⟨c1, c2⟩ := dN hc
   obtain ⟨s1, a1, a2, a3, a4, a5, a6, a7, a8⟩ := eP h ht (by omega)
   have hl := hf c1
   have hr : 1 ≤ s1.toks.length := by
    obtain ⟨t', r', e', _⟩ := a6.head
    rw [e']; simp
   obtain ⟨l', st', k, b1, b2, b3⟩ := bEv f s1 (l ++ [t.text]) a6 (fun _ => by omega) (by omega)
   refine ⟨l', st', 1 + k, by simp [a1, b1], (a8 1 (by simp [T1, c2]) (by simp [T2, c2])).trans b2, ?_⟩
   rw [b3]; simp; omega
theorem bSn {f : Nat} {st : PSt} (h : Good st.toks) (hf : st.err = 0 → st.toks.length ≤ f) (h1 : 1 ≤ f) : ∃ l st', lM f st = some (l, st') ∧ Stp st st' l.length := by
 obtain ⟨t, r, e, ht, h2, h3⟩ := eS h
 unfold lM
 rw [qV ht]
 simp only [Option.bind_some]
 cases hc : qM st t 10 [124] with
 | false => exact ⟨[], st, by simp, Stp.refl h⟩
 | true =>
  obtain ⟨c1, c2⟩ := dN hc
  obtain ⟨s1, a1, a2, a3, a4, a5, a6, a7, a8⟩ := eP h ht (by omega)
  obtain ⟨l, st', k, b1, b2, b3⟩ := bEv f s1 [] a6 (fun e => by have := hf c1; omega) h1
  have S1 := (a8 0 (by simp [T1, c2]) (by omega)).trans b2
  refine ⟨l, st', by simp [a1, b1], ?_⟩
  rw [show l.length = 0 + k by rw [b3]; simp]
  exact S1
theorem bEh : ∀ (f : Nat) (st : PSt) (l : List (List Nat)), Good st.toks → (st.err = 0 → st.toks.length ≤ f) → 1 ≤ f → ∃ l' st' k, lX f l st = some (l', st') ∧ Stp st st' k ∧ l'.length = l.length + k
 | 0, st, l, h, hf, h1 => by omega
 | f + 1, st, l, h, hf, h1 => by
  obtain ⟨t, r, e, ht, h2, h3⟩ := eS h
  unfold lX
  rw [qV ht]
  simp only [Option.bind_some]
  cases hc : qM st t 8 [] with
  | false => exact ⟨l, st, 0, by simp, Stp.refl h, by simp⟩
  | true =>
   obtain ⟨c1, c2⟩ := dN hc
   have hl := hf c1
   obtain ⟨s0, z1, z2, z3, z4, z5, z6, z7, z8⟩ := eP h ht (by omega)
   obtain ⟨tx, s1, a1, a2, a3⟩ := bAz h 8 (.inr rfl) l.length
   have hlen : s1.toks.length + 1 ≤ st.toks.length := by
    unfold qS eB at a1
    rw [qV ht, hc] at a1
    simp only [Option.bind_some, if_true, z1, aZ, bT] at a1
    obtain ⟨_, rfl⟩ := a1
    split
    ·rw [bJ]; omega
    ·omega
   have hr : 1 ≤ s1.toks.length := by
    obtain ⟨t', r', e', _⟩ := a2.good.head
    rw [e']; simp
   obtain ⟨l', st', k, b1, b2, b3⟩ := bEh f s1 (l ++ [tx]) a2.good (fun _ => by omega) (by omega)
   refine ⟨l', st', 1 + k, by simp [a1, b1], a2.trans b2, ?_⟩
   rw [b3]; simp; omega
theorem dCu {E : PF} {b : Nat} (HE : jB E b) : wH (uW E) b := by
 intro st h hb
 obtain ⟨x, s1, a1, a2, a3, a4⟩ := HE st h hb
 obtain ⟨u, s2, c1, c2, c3⟩ := aDz a2.good 10 [41] 0 (fun _ => tIn (by simp)) (by simp)
 refine ⟨x, s2, by simp [uW, a1, c1], ?_, a3⟩
 exact a2.trans c2
theorem aRs {LI : PF} {b : Nat} (HL : wH LI b) : ∀ (f : Nat) (st : PSt) (xs : List Node), Good st.toks → (st.err = 0 → st.toks.length < f ∧ st.toks.length ≤ b + 1) → 1 ≤ f → ∃ ys st' k, jZ LI f xs st = some (ys, st') ∧ Stp st st' k ∧ fZ ys = fZ xs + k ∧ (st'.err = 0 → ∃ t, bN st' 0 = some t ∧ t.kind = 10)
 | 0, st, xs, h, hf, h1 => by omega
 | f + 1, st, xs, h, hf, h1 => by
  obtain ⟨t, r, e, ht, h2, h3⟩ := eS h
  unfold jZ
  by_cases he : st.err = 0
  ·rw [if_pos he, qV ht]
   simp only [Option.bind_some]
   obtain ⟨hl1, hl2⟩ := hf he
   cases hc : qM st t 10 [41] with
   | true => exact ⟨xs, st, 0, by simp, Stp.refl h, by simp, fun _ => ⟨t, ht, (dN hc).2⟩⟩
   | false =>
    simp only [Bool.false_eq_true, if_false]
    obtain ⟨x, c, s1, a1, a2, a3, _⟩ := aVm h
    rw [a1]
    simp only [Option.bind_some]
    cases c with
    | true =>
     obtain ⟨b1, b2, b3, b4⟩ := a2 rfl
     have hr : 1 ≤ s1.toks.length := by
      obtain ⟨t', r', e', _⟩ := b1.good.head
      rw [e']; simp
     obtain ⟨ys, st', k, d1, d2, d3, d4⟩ := aRs HL f s1 (xs ++ [x]) b1.good (fun _ => by omega) (by omega)
     refine ⟨ys, st', iY x + k, by simp [d1], b1.trans d2, ?_, d4⟩
     rw [d3, gS, cW, eF]; omega
    | false =>
     have := a3 rfl
     subst this
     simp only [Bool.false_eq_true, if_false]
     rw [qV ht]
     simp only [Option.bind_some]
     have nest : (t.kind = 7 ∨ t.kind = 10) → ∃ ys st' k, ((gI LI s1).bind fun q => jZ LI f (xs ++ [q.1]) q.2) = some (ys, st') ∧ Stp s1 st' k ∧ fZ ys = fZ xs + k ∧ (st'.err = 0 → ∃ t, bN st' 0 = some t ∧ t.kind = 10) := by
      intro hk
      obtain ⟨y, s2, b1, b2, b3, b4⟩ := xQ HL h ht hk (fun _ => hl2)
      by_cases he2 : s2.err = 0
      ·have := b4 he2
       have hr : 1 ≤ s2.toks.length := by
        obtain ⟨t', r', e', _⟩ := b2.good.head
        rw [e']; simp
       obtain ⟨ys, st', k, d1, d2, d3, d4⟩ := aRs HL f s2 (xs ++ [y]) b2.good (fun _ => by omega) (by omega)
       refine ⟨ys, st', iY y + k, by simp [b1, d1], b2.trans d2, ?_, d4⟩
       rw [d3, gS, cW, eF]; omega
      ·have hr : 1 ≤ f := by
        rw [e] at hl1
        simp at hl1
        omega
       obtain ⟨ys, st', k, d1, d2, d3, d4⟩ := aRs HL f s2 (xs ++ [y]) b2.good (fun e => absurd e he2) hr
       refine ⟨ys, st', iY y + k, by simp [b1, d1], b2.trans d2, ?_, d4⟩
       rw [d3, gS, cW, eF]; omega
     cases hc1 : qM s1 t 7 [] with
     | true =>
      simp only [if_true, Option.bind_some]
      exact nest (.inl (dN hc1).2)
     | false =>
      simp only [Bool.false_eq_true, if_false]
      rw [qV ht]
      simp only [Option.bind_some]
      cases hc2 : qM s1 t 10 [40] with
      | true =>
       simp only [if_true]
       exact nest (.inr (dN hc2).2)
      | false =>
       simp only [Bool.false_eq_true, if_false, ht, Option.bind_some]
       obtain ⟨f1, f2⟩ := aCo h t 13 (by decide) (iY x)
       have hr : 1 ≤ f := by rw [e] at hl1; simp at hl1; omega
       obtain ⟨ys, st', k, d1, d2, d3, d4⟩ := aRs HL f (bS s1 t 13) (xs ++ [x]) (by rw [bJ]; exact h) (fun e => absurd e f2) hr
       refine ⟨ys, st', iY x + k, d1, f1.trans d2, ?_, d4⟩
       rw [d3, gS, cW, eF]; omega
  ·rw [if_neg he]
   exact ⟨xs, st, 0, rfl, Stp.refl h, by simp, fun e => absurd e he⟩
end Go.Dd

namespace Go.Dd
theorem Good.pos {l : List Tok} (h : Good l) : 1 ≤ l.length := by
 obtain ⟨t, r, e, _⟩ := h.head
 rw [e]; simp
theorem bKk {LI : PF} {b f : Nat} (HL : wH LI b) (hf : b + 1 < f) : wH (gE LI f) (b + 1) := by
 intro st h hb
 obtain ⟨ys, s1, k, a1, a2, a3, a4⟩ := aRs HL f st [] h (fun e => ⟨by have := hb e; omega, hb e⟩) (by omega)
 have hc : iY (.mk 4 [] 0 [] [] ys) = k := by simp [iY, a3, fZ]
 by_cases he : s1.err = 0
 ·obtain ⟨t, ht, hk⟩ := a4 he
  obtain ⟨s2, b1, b2, b3, b4, b5, b6, b7, b8⟩ := eP a2.good ht (by omega)
  refine ⟨.mk 4 [] 0 [] [] ys, s2, by simp [gE, a1, b1], ?_, Shp.flat _ _ _ _ _ _ (by decide)⟩
  rw [hc]
  exact a2.trans (b8 0 (by simp [T1, hk]) (by omega))
 ·obtain ⟨t, s2, b1, b2, b3, c, b4, b5⟩ := cWr a2.good
  refine ⟨.mk 4 [] 0 [] [] ys, s2, by simp [gE, a1, b1], ?_, Shp.flat _ _ _ _ _ _ (by decide)⟩
  have he2 : s2.err ≠ 0 := by rw [b2]; exact he
  have : Stp s1 s2 0 := ⟨b3, fun _ => he2, c, b4, fun e => absurd e he2⟩
  exact (a2.trans this).any he2 _
theorem aVx {E : PF} {b : Nat} (HE : jB E b) : ∀ (f : Nat) (st : PSt) (xs : List Node), Good st.toks → (st.err = 0 → st.toks.length ≤ f ∧ st.toks.length ≤ b) → 1 ≤ f → ∃ ys st' k, jM E f xs st = some (ys, st') ∧ Stp st st' k ∧ fZ ys = fZ xs + k
 | 0, st, xs, h, hf, h1 => by omega
 | f + 1, st, xs, h, hf, h1 => by
  obtain ⟨t, r, e, ht, h2, h3⟩ := eS h
  unfold jM
  by_cases he : st.err = 0
  ·rw [if_pos he, qV ht]
   simp only [Option.bind_some]
   obtain ⟨hl1, hl2⟩ := hf he
   have fin : ∃ ys st' k, some (xs, st) = some (ys, st') ∧ Stp st st' k ∧ fZ ys = fZ xs + k := ⟨xs, st, 0, rfl, Stp.refl h, by simp⟩
   cases hc : qM st t 0 [] with
   | true => simpa using fin
   | false =>
    simp only [Bool.false_eq_true, if_false]
    rw [qV ht]
    simp only [Option.bind_some]
    cases hc2 : qM st t 10 [93] with
    | true => simpa using fin
    | false =>
     simp only [Bool.false_eq_true, if_false]
     rw [qV ht]
     simp only [Option.bind_some]
     cases hc3 : qM st t 10 [94] with
     | true =>
      simp only [if_true]
      obtain ⟨c1, c2⟩ := dN hc3
      obtain ⟨s1, a1, a2, a3, a4, a5, a6, a7, a8⟩ := eP h ht (by omega)
      obtain ⟨x, s2, b1, b2, b3, b4⟩ := HE s1 a6 (fun _ => by omega)
      obtain ⟨u, r2, e2, hu, _, _⟩ := eS b2.good
      have S1 := (a8 0 (by simp [T1, c2]) (by omega)).trans b2
      have hcn : fZ (xs ++ [Node.mk 10 [] 0 [] [] [x]]) = fZ xs + (0 + iY x) := by rw [gS, cW, eF]; simp [iY, fZ]
      rw [a1]
      simp only [Option.bind_some, b1]
      rw [qV hu]
      simp only [Option.bind_some]
      cases hc4 : qM s2 u 10 [46] with
      | false => exact ⟨xs ++ [Node.mk 10 [] 0 [] [] [x]], s2, _, by simp, S1, hcn⟩
      | true =>
       obtain ⟨d1, d2⟩ := dN hc4
       obtain ⟨s3, g1, g2, g3, g4, g5, g6, g7, g8⟩ := eP b2.good hu (by omega)
       refine ⟨xs ++ [Node.mk 10 [] 0 [] [] [x]], s3, _, by simp [g1], S1.trans (g8 0 (by simp [T1, d2]) (by omega)), by rw [hcn]; omega⟩
     | false =>
      simp only [Bool.false_eq_true, if_false]
      obtain ⟨x, s2, b1, b2, b3, b4⟩ := HE st h (fun _ => hl2)
      obtain ⟨u, r2, e2, hu, _, _⟩ := eS b2.good
      have hcn : fZ (xs ++ [x]) = fZ xs + iY x := by rw [gS, cW, eF]; omega
      rw [b1]
      simp only [Option.bind_some]
      rw [qV hu]
      simp only [Option.bind_some]
      cases hc4 : qM s2 u 10 [46] with
      | false => exact ⟨xs ++ [x], s2, _, by simp, b2, hcn⟩
      | true =>
       obtain ⟨d1, d2⟩ := dN hc4
       obtain ⟨s3, g1, g2, g3, g4, g5, g6, g7, g8⟩ := eP b2.good hu (by omega)
       have hlt := b4 d1
       have hp := g6.pos
       obtain ⟨ys, st', k, k1, k2, k3⟩ := aVx HE f s3 (xs ++ [x]) g6 (fun _ => by omega) (by omega)
       refine ⟨ys, st', _, by simp [g1, k1], (b2.trans (g8 0 (by simp [T1, d2]) (by omega))).trans k2, by rw [k3, hcn]; omega⟩
  ·rw [if_neg he]
   exact ⟨xs, st, 0, rfl, Stp.refl h, by simp⟩
theorem dZa {l : List (List Nat)} {st : PSt} (h : Good st.toks) : ∃ st', bar l st = some st' ∧ Stp st st' 0 := by
 obtain ⟨t, r, e, ht, h2, h3⟩ := eS h
 unfold bar
 by_cases hl : 0 < l.length
 ·rw [if_pos hl, qV ht]
  simp only [Option.bind_some]
  cases hc : qM st t 10 [93] with
  | true => exact ⟨st, by simp, Stp.refl h⟩
  | false =>
   obtain ⟨u, s1, a1, a2, a3⟩ := aDz h 10 [124] 0 (fun _ => tIn (by simp)) (by simp)
   exact ⟨s1, by simp [a1], a2⟩
 ·rw [if_neg hl]
  exact ⟨st, rfl, Stp.refl h⟩
theorem dIl {E : PF} {b f : Nat} (HE : jB E b) (hf : b ≤ f) (h1 : 1 ≤ f) : wH (tA E f) b := by
 intro st h hb
 obtain ⟨l, s1, k, a1, a2, a3⟩ := bEh f st [] h (fun e => by have := hb e; omega) h1
 obtain ⟨s2, b1, b2⟩ := dZa (l := l) a2.good
 have S2 := a2.trans b2
 have lt : ∀ s : PSt, (∃ k, Stp st s k) → s.err = 0 → s.toks.length ≤ b := fun s ⟨k, S⟩ e => by
  have h1 := hb (S.ok e)
  have := S.len
  omega
 obtain ⟨ts, s3, c1, c2⟩ := bSn (f := f) S2.good (fun e => by have := lt s2 ⟨_, S2⟩ e; omega) h1
 have S3 := S2.trans c2
 obtain ⟨ks, s4, k4, d1, d2, d3⟩ := aVx HE f s3 [] S3.good (fun e => by have := lt s3 ⟨_, S3⟩ e; omega) h1
 have S4 := S3.trans d2
 obtain ⟨u, s5, e1, e2, e3⟩ := aDz S4.good 10 [93] 0 (fun _ => tIn (by simp)) (by simp)
 have S5 := S4.trans e2
 refine ⟨.mk 9 [] 0 l ts ks, s5, by simp [tA, a1, b1, c1, d1, e1], ?_, Shp.flat _ _ _ _ _ _ (by decide)⟩
 have : iY (.mk 9 [] 0 l ts ks) = k + 0 + ts.length + k4 + 0 := by
  simp [iY, d3, fZ] at a3 ⊢
  omega
 rw [this]
 exact S5
theorem cFn {LI E : PF} {b f : Nat} (HL : wH LI b) (HE : jB E b) (hf : b ≤ f) (h1 : 1 ≤ f) : jB (gA LI E f) (b + 1) := by
 intro st h hb
 obtain ⟨t, r, e, ht, h2, h3⟩ := eS h
 obtain ⟨x, c, s1, a1, a2, a3, a7⟩ := aVm h
 unfold gA
 rw [a1]
 simp only [Option.bind_some]
 cases c with
 | true =>
  obtain ⟨b1, b2, b3, b4⟩ := a2 rfl
  exact ⟨x, s1, by simp, b1, fun e7 => absurd e7 a7, fun _ => b2⟩
 | false =>
  have := a3 rfl
  subst this
  simp only [Bool.false_eq_true, if_false, ht, Option.bind_some]
  by_cases he : s1.err = 0
  ·rw [if_pos he]
   by_cases k1 : t.kind = 1
   ·rw [if_pos k1]
    obtain ⟨s2, c1, c2, c3, c4, c5, c6, c7, c8⟩ := eP h ht (by omega)
    rw [c1]
    refine ⟨_, _, rfl, ?_, Shp.flat _ _ _ _ _ _ (by decide), fun _ => by show s2.toks.length < _; omega⟩
    have : iY (.mk 5 t.text 0 [] [] []) = 1 := by simp [iY, fZ]
    rw [this]
    exact c8 1 (by simp [T1, k1]) (by simp [T2, k1])
   ·rw [if_neg k1]
    by_cases k7 : t.kind = 7
    ·rw [if_pos k7]
     exact xQ HL h ht (.inl k7) hb
    ·rw [if_neg k7, qV ht]
     simp only [Option.bind_some]
     cases hc : qM s1 t 10 [40] with
     | true =>
      simp only [if_true]
      exact xQ (dCu HE) h ht (.inr (dN hc).2) hb
     | false =>
      simp only [Bool.false_eq_true, if_false]
      rw [qV ht]
      simp only [Option.bind_some]
      cases hc2 : qM s1 t 10 [91] with
      | true =>
       simp only [if_true]
       exact xQ (dIl HE hf h1) h ht (.inr (dN hc2).2) hb
      | false =>
       simp only [Bool.false_eq_true, if_false]
       obtain ⟨f1, f2⟩ := aCo h t 13 (by decide) (iY zN)
       exact ⟨_, _, rfl, f1, Shp.flat _ _ _ _ _ _ (by decide), fun e => absurd e f2⟩
  ·rw [if_neg he]
   exact ⟨_, _, rfl, (Stp.refl h).any he _, Shp.flat _ _ _ _ _ _ (by decide), fun e => absurd e he⟩
theorem bAx {P : PF} {b g : Nat} (HP : jB P b) (hg : b ≤ g) (hg1 : 1 ≤ g) : ∀ (f : Nat) (st : PSt) (x : Node), Good st.toks → (st.err = 0 → st.toks.length ≤ f ∧ st.toks.length ≤ b + 1) → 1 ≤ f →
 ∃ y st' k, iV P g f x st = some (y, st') ∧ Stp st st' k ∧ iY y = iY x + k ∧ (Shp x → Shp y)
 | 0, st, x, h, hf, h1 => by omega
 | f + 1, st, x, h, hf, h1 => by
  obtain ⟨t, r, e, ht, h2, h3⟩ := eS h
  unfold iV
  rw [qV ht]
  simp only [Option.bind_some]
  cases hc : qM st t 3 [] with
  | false => exact ⟨x, st, 0, by simp, Stp.refl h, by simp, id⟩
  | true =>
   obtain ⟨c1, c2⟩ := dN hc
   obtain ⟨hl1, hl2⟩ := hf c1
   obtain ⟨s1, a1, a2, a3, a4, a5, a6, a7, a8⟩ := eP h ht (by omega)
   have hp := a6.pos
   obtain ⟨q, s2, b1, b2, b3, b4⟩ := HP s1 a6 (fun _ => by omega)
   have hl := b2.len
   obtain ⟨u, s3, ku, d1, d2, d3, d4⟩ := aGe g s2 q b2.good (fun _ => by omega) hg1
   have hl3 := d2.len
   obtain ⟨y, st', k, k1, k2, k3, k4⟩ := bAx HP hg hg1 f s3 (cV t.text [x, u]) d2.good (fun _ => by omega) (by omega)
   refine ⟨y, st', 1 + iY q + ku + k, by simp [a1, b1, d1, k1], (((a8 1 (by simp [T1, c2]) (by simp [T2, c2])).trans b2).trans d2).trans k2, ?_, fun _ => k4 (Shp.send _ _ _)⟩
   rw [k3, iO, cW, cW, eF, d3]
   omega
theorem dNe {P : PF} {b g : Nat} (HP : jB P b) (hg : b + 1 ≤ g) {st : PSt} (h : Good st.toks) (hb : st.err = 0 → st.toks.length ≤ b) :
 ∃ q s2 u s3 w s4, P st = some (q, s2) ∧ iT g q s2 = some (u, s3) ∧ iV P g g u s3 = some (w, s4) ∧ Stp st s4 (iY w) ∧ Shp w ∧ (s4.err = 0 → s4.toks.length < st.toks.length) := by
 obtain ⟨q, s2, b1, b2, b3, b4⟩ := HP st h hb
 have hl2 := b2.len
 obtain ⟨u, s3, ku, d1, d2, d3, d4⟩ := aGe g s2 q b2.good (fun e => by have := hb (b2.ok e); omega) (by omega)
 have hl3 := d2.len
 obtain ⟨w, s4, k, k1, k2, k3, k4⟩ := bAx (g := g) HP (by omega) (by omega) g s3 u d2.good (fun e => by have := hb (b2.ok (d2.ok e)); omega) (by omega)
 have hl4 := k2.len
 refine ⟨q, s2, u, s3, w, s4, b1, d1, k1, ?_, k4 (d4 b3), fun e => ?_⟩
 ·rw [k3, d3]
  exact (b2.trans d2).trans k2
 ·have := b4 (d2.ok (k2.ok e))
  omega
theorem bMh {P : PF} {b g : Nat} (HP : jB P b) (hg : b + 1 ≤ g) : ∀ (f : Nat) (st : PSt) (t : List Nat) (ks : List Node), Good st.toks → (st.err = 0 → st.toks.length ≤ f ∧ st.toks.length ≤ b + 1 ∧ t.length + st.toks.length * 10000 ≤ bG) → 1 ≤ f → ks ≠ [] →
 ∃ y st' k, oQ P g f t ks st = some (y, st') ∧ Stp st st' k ∧ iY y = 1 + fZ ks + k ∧ Shp y
 | 0, st, t, ks, h, hf, h1, hk => by omega
 | f + 1, st, t, ks, h, hf, h1, hk => by
  obtain ⟨u, r, e, ht, h2, h3⟩ := eS h
  unfold oQ
  rw [qV ht]
  simp only [Option.bind_some]
  cases hc : qM st u 2 [] with
  | false => exact ⟨cV t ks, st, 0, by simp, Stp.refl h, by rw [iO]; rfl, fun _ => ⟨t, ks, rfl, hk⟩⟩
  | true =>
   obtain ⟨c1, c2⟩ := dN hc
   obtain ⟨hl1, hl2, hl3⟩ := hf c1
   obtain ⟨s1, a1, a2, a3, a4, a5, a6, a7, a8⟩ := eP h ht (by omega)
   have hp := a6.pos
   have htx := h.text a7
   obtain ⟨q, s2, w, s3, v, s4, b1, b2, b3, b4, b5, b6⟩ := dNe HP hg a6 (fun _ => by omega)
   have hl4 := b4.len
   obtain ⟨y, st', k, k1, k2, k3, k4⟩ := bMh HP hg f s4 (t ++ u.text) (ks ++ [v]) b4.good (fun _ => ⟨by omega, by omega, by
    have : s4.toks.length * 10000 ≤ s1.toks.length * 10000 := Nat.mul_le_mul_right _ hl4
    have e2 : st.toks.length * 10000 = s1.toks.length * 10000 + 10000 := by rw [← a5]; omega
    simp
    omega⟩) (by omega) (by simp)
   refine ⟨y, st', 0 + iY v + k, ?_, ((a8 0 (by simp [T1, c2]) (by omega)).trans b4).trans k2, ?_, k4⟩
   ·simp only [if_true, a1, Option.bind_some]
    rw [if_pos (by omega)]
    simp [b1, b2, b3, k1]
   ·rw [k3, gS, cW, eF]; omega
theorem cYj {P : PF} {b g : Nat} (HP : jB P b) (hg : b + 2 ≤ g) (hb : b ≤ 1000000) {st : PSt} {x : Node} (h : Good st.toks) (hf : st.err = 0 → st.toks.length ≤ b + 1) :
 ∃ y st' k, uF P g x st = some (y, st') ∧ Stp st st' k ∧ iY y = iY x + k ∧ (Shp x → Shp y) ∧ ((∃ t, bN st 0 = some t ∧ qM st t 2 [] = true) → ∃ t ks, y = cV t (x :: ks)) := by
 obtain ⟨u, r, e, ht, h2, h3⟩ := eS h
 unfold uF
 rw [qV ht]
 simp only [Option.bind_some]
 cases hc : qM st u 2 [] with
 | false =>
  refine ⟨x, st, 0, by simp, Stp.refl h, by simp, id, ?_⟩
  rintro ⟨t, q1, q2⟩
  rw [ht] at q1
  cases q1
  rw [hc] at q2
  cases q2
 | true =>
  obtain ⟨c1, c2⟩ := dN hc
  have hl := hf c1
  obtain ⟨s1, a1, a2, a3, a4, a5, a6, a7, a8⟩ := eP h ht (by omega)
  have hp := a6.pos
  have htx := h.text a7
  obtain ⟨q, s2, w, s3, v, s4, b1, b2, b3, b4, b5, b6⟩ := dNe (g := g) HP (by omega) a6 (fun _ => by omega)
  have hl4 := b4.len
  obtain ⟨g', rfl⟩ : ∃ g', g = g' + 1 := ⟨g - 1, by omega⟩
  have all : ∀ (f : Nat) (st : PSt) (t : List Nat) (ks : List Node) (y : Node) (st' : PSt), oQ P (g' + 1) f t (x :: ks) st = some (y, st') → ∃ t ks, y = cV t (x :: ks) := by
   intro f
   induction f with
   | zero => intro st t ks y st' hk; cases hk
   | succ f ih =>
    intro st t ks y st' hk
    unfold oQ at hk
    obtain ⟨c, _, hk⟩ := aT hk
    split at hk
    ·obtain ⟨_, _, hk⟩ := aT hk
     split at hk
     ·obtain ⟨_, _, hk⟩ := aT hk
      obtain ⟨_, _, hk⟩ := aT hk
      obtain ⟨_, _, hk⟩ := aT hk
      exact ih _ _ _ _ _ hk
     ·cases hk
    ·cases hk
     exact ⟨_, _, rfl⟩
  obtain ⟨y, st', k, k1, k2, k3, k4⟩ := bMh (g := g' + 1) HP (by omega) g' s4 ([] ++ u.text) ([x] ++ [v]) b4.good (fun _ => ⟨by omega, by omega, by
   have : s4.toks.length * 10000 ≤ 1000001 * 10000 := Nat.mul_le_mul_right _ (by omega)
   simp [bG]
   omega⟩) (by omega) (by simp)
  have hres : oQ P (g' + 1) (g' + 1) [] [x] st = some (y, st') := by
   unfold oQ
   rw [qV ht, hc]
   simp only [Option.bind_some, if_true, a1]
   rw [if_pos (by simp [bG]; omega)]
   simp only [Option.bind_some, b1, b2, b3]
   exact k1
  refine ⟨y, st', 1 + iY v + k, by simpa using hres, ((a8 1 (by simp [T1, c2]) (by simp [T2, c2])).trans b4).trans k2, ?_, fun _ => k4, fun _ => all _ _ _ _ _ _ hres⟩
  rw [k3, gS, cW, cW, eF]; omega
theorem dDc : iY zN = 1 := by simp [zN, iY, fZ]
theorem qD (t : List Nat) (x : Node) (ks : List Node) : kB (cV t (x :: ks)) = cV t ks := by simp [kB, cV, Node.kids, Node.text]
theorem dZo {P : PF} {b g : Nat} (HP : jB P b) (hg : b + 2 ≤ g) (hb : b ≤ 1000000) {st : PSt} (h : Good st.toks) (hf : st.err = 0 → st.toks.length ≤ b + 1) :
 ∃ y st', aTg P g st = some (y, st') ∧ Stp st st' (iY (kB y)) := by
 obtain ⟨t, r, e, ht, h2, h3⟩ := eS h
 unfold aTg
 rw [ht]
 simp only [Option.bind_some]
 have any : ∀ {y : Node} {st' : PSt} {k : Nat}, Stp st st' k → (st.err = 0 → k = iY (kB y)) → Stp st st' (iY (kB y)) := fun S hk => S.cast (fun e => hk (S.ok e))
 by_cases k1 : t.kind = 1
 ·rw [if_pos k1]
  obtain ⟨s1, a1, a2, a3, a4, a5, a6, a7, a8⟩ := eP h ht (by omega)
  rw [a1]
  refine ⟨_, _, rfl, ?_⟩
  rw [qD, iO, eF]
  exact a8 1 (by simp [T1, k1]) (by simp [T2, k1])
 ·rw [if_neg k1]
  by_cases k3 : t.kind = 3
  ·rw [if_pos k3]
   obtain ⟨s1, a1, a2, a3, a4, a5, a6, a7, a8⟩ := eP h ht (by omega)
   have hp := a6.pos
   obtain ⟨q, s2, b1, b2, b3, b4⟩ := HP s1 a6 (fun e => by have := hf (by rw [← a2]; exact e); omega)
   have hl := b2.len
   obtain ⟨u, s3, ku, d1, d2, d3, d4⟩ := aGe g s2 q b2.good (fun e => by have := hf (by rw [← a2]; exact b2.ok e); omega) (by omega)
   simp only [a1, Option.bind_some, b1, d1]
   refine ⟨_, _, rfl, ?_⟩
   rw [qD, iO, cW, eF, d3]
   have := ((a8 1 (by simp [T1, k3]) (by simp [T2, k3])).trans b2).trans d2
   have e2 : 1 + iY q + ku = 1 + (iY q + ku + 0) := by omega
   rwa [e2] at this
  ·rw [if_neg k3]
   by_cases k2 : t.kind = 2
   ·rw [if_pos k2]
    obtain ⟨y, st', k, b1, b2, b3, b4, b5⟩ := cYj (x := zN) HP hg hb h hf
    refine ⟨y, st', b1, b2.cast fun e => ?_⟩
    have he := b2.ok e
    obtain ⟨tt, ks, rfl⟩ := b5 ⟨t, ht, by simp [qM, he, k2]⟩
    rw [qD, iO]
    rw [iO, cW, dDc] at b3
    omega
   ·rw [if_neg k2]
    obtain ⟨f1, f2⟩ := aCo h t 13 (by decide) (iY (kB zN))
    exact ⟨_, _, rfl, f1⟩
theorem dVw {P : PF} {b g : Nat} (HP : jB P b) (hg : b + 2 ≤ g) (hb : b ≤ 1000000) : ∀ (f : Nat) (st : PSt) (ks : List Node), Good st.toks → (st.err = 0 → st.toks.length ≤ f ∧ st.toks.length ≤ b + 1) → 1 ≤ f →
 ∃ y st' k, aQc P g f ks st = some (y, st') ∧ Stp st st' k ∧ iY y = fZ ks + k ∧ Shp y
 | 0, st, ks, h, hf, h1 => by omega
 | f + 1, st, ks, h, hf, h1 => by
  obtain ⟨t, r, e, ht, h2, h3⟩ := eS h
  unfold aQc
  rw [qV ht]
  simp only [Option.bind_some]
  cases hc : qM st t 10 [59] with
  | false => exact ⟨.mk 8 [] 0 [] [] ks, st, 0, by simp, Stp.refl h, by simp [iY], Shp.flat _ _ _ _ _ _ (by decide)⟩
  | true =>
   obtain ⟨c1, c2⟩ := dN hc
   obtain ⟨hl1, hl2⟩ := hf c1
   obtain ⟨s1, a1, a2, a3, a4, a5, a6, a7, a8⟩ := eP h ht (by omega)
   have hp := a6.pos
   obtain ⟨q, s2, b1, b2⟩ := dZo HP hg hb a6 (fun _ => by omega)
   have hl := b2.len
   obtain ⟨y, st', k, k1, k2, k3, k4⟩ := dVw HP hg hb f s2 (ks ++ [kB q]) b2.good (fun _ => by omega) (by omega)
   refine ⟨y, st', 0 + iY (kB q) + k, by simp [a1, b1, k1], ((a8 0 (by simp [T1, c2]) (by omega)).trans b2).trans k2, ?_, k4⟩
   rw [k3, gS, cW, eF]; omega
theorem aQp {P : PF} {b g : Nat} (HP : jB P b) (hg : b + 2 ≤ g) (hb : b ≤ 1000000) : jB (lE P g) b := by
 intro st h hbd
 obtain ⟨q, s2, u, s3, w, s4, b1, b2, b3, b4, b5, b6⟩ := dNe (g := g) HP (by omega) h hbd
 have hl4 := b4.len
 obtain ⟨y, s5, k, d1, d2, d3, d4, d5⟩ := cYj (x := w) HP hg hb b4.good (fun e => by have := hbd (b4.ok e); omega)
 have hl5 := d2.len
 obtain ⟨t, r, e, ht, h2, h3⟩ := eS d2.good
 have S5 := b4.trans d2
 have hS : Stp st s5 (iY y) := by rw [d3]; exact S5
 have hlt : s5.err = 0 → s5.toks.length < st.toks.length := fun e => by
  have := b6 (d2.ok e)
  omega
 unfold lE
 simp only [b1, Option.bind_some, b2, b3, d1]
 rw [qV ht]
 simp only [Option.bind_some]
 cases hc : qM s5 t 10 [59] with
 | false => exact ⟨y, s5, by simp, hS, d4 b5, hlt⟩
 | true =>
  obtain ⟨c1, c2⟩ := dN hc
  simp only [if_true]
  by_cases k7 : y.kind = 7
  ·rw [if_pos k7]
   obtain ⟨tx, ks, rfl, hks⟩ := d4 b5 k7
   cases ks with
   | nil => exact absurd rfl hks
   | cons k0 ks =>
    have : (cV tx (k0 :: ks)).kids[0]? = some k0 := rfl
    rw [this]
    simp only [Option.bind_some, qD]
    have hl := hbd (S5.ok c1)
    obtain ⟨z, s6, k6, e1, e2, e3, e4⟩ := dVw HP hg hb g s5 [k0, cV tx ks] d2.good (fun _ => by omega) (by omega)
    have hl6 := e2.len
    refine ⟨z, s6, e1, ?_, e4, fun e => by have := hlt (e2.ok e); omega⟩
    have := hS.trans e2
    have ec : iY (cV tx (k0 :: ks)) + k6 = iY z := by
     rw [e3, iO, cW, cW, cW, eF, iO]; omega
    rwa [ec] at this
  ·rw [if_neg k7, ht]
   simp only [Option.bind_some]
   obtain ⟨f1, f2⟩ := aCo d2.good t 13 (by decide) 0
   exact ⟨_, _, rfl, hS.trans f1, d4 b5, fun e => absurd e f2⟩
theorem cZv {P E : PF} {b g : Nat} (HP : jB P b) (HE : b = 0 ∨ jB E (b - 1)) (hg : b + 2 ≤ g) (hb : b ≤ 1000000) : jB (tW P E g) b := by
 intro st h hbd
 obtain ⟨t, r, e, ht, h2, h3⟩ := eS h
 obtain ⟨u, hu⟩ := cYt h
 unfold tW
 rw [qV ht]
 simp only [Option.bind_some]
 cases hc : qM st t 1 [] with
 | false =>
  simp only [Bool.false_eq_true, if_false, Option.bind_some]
  exact aQp HP hg hb st h hbd
 | true =>
  simp only [if_true, hu, Option.bind_some]
  by_cases k9 : u.kind = 9
  ·rw [decide_eq_true k9]
   simp only [if_true]
   obtain ⟨c1, c2⟩ := dN hc
   obtain ⟨s1, a1, a2, a3, a4, a5, a6, a7, a8⟩ := eP h ht (by omega)
   have hu1 : bN s1 0 = some u := by
    have hp := a6.pos
    have e1 : st.toks.length - 1 = s1.toks.length := by omega
    unfold bN at hu ⊢
    rw [a7] at hu
    simp at hu ⊢
    rw [show min 1 s1.toks.length = 0 + 1 by omega] at hu
    simpa using hu
   obtain ⟨s2, b1, b2, b3, b4, b5, b6, b7, b8⟩ := eP a6 hu1 (by omega)
   have hl := hbd c1
   have hp := b6.pos
   have HE' : jB E (b - 1) := HE.resolve_left (by omega)
   obtain ⟨x, s3, d1, d2, d3, d4⟩ := HE' s2 b6 (fun _ => by omega)
   have hl3 := d2.len
   simp only [a1, Option.bind_some, b1, d1]
   refine ⟨_, _, rfl, ?_, Shp.flat _ _ _ _ _ _ (by decide), fun e => by show s3.toks.length < _; omega⟩
   have : iY (.mk 6 t.text 0 [] [] [x]) = 1 + 0 + iY x := by simp [iY, fZ]
   rw [this]
   exact ((a8 1 (by simp [T1, c2]) (by simp [T2, c2])).trans (b8 0 (by simp [T1, k9]) (by omega))).trans d2
  ·rw [decide_eq_false k9]
   simp only [Bool.false_eq_true, if_false]
   exact aQp HP hg hb st h hbd
theorem cZs : ∀ (f : Nat), 3 ≤ f → wH (wU f) (f - 3)
 | 0, h => by omega
 | f + 1, h => by
  by_cases h3 : f = 2
  ·subst h3
   intro st g hb
   have he : st.err ≠ 0 := fun e => by have := hb e; have := g.pos; omega
   unfold wU gE jZ
   rw [if_neg he]
   obtain ⟨t, s2, b1, b2, b3, c, b4, b5⟩ := cWr g
   have he2 : s2.err ≠ 0 := by rw [b2]; exact he
   refine ⟨.mk 4 [] 0 [] [] [], s2, by simp [b1], ⟨b3, fun _ => he2, c, b4, fun e => absurd e he2⟩, Shp.flat _ _ _ _ _ _ (by decide)⟩
  ·have := bKk (f := f) (cZs f (by omega)) (by omega)
   rw [show f - 3 + 1 = f + 1 - 3 by omega] at this
   exact this
theorem aTx (LI E : PF) (f : Nat) : jB (gA LI E f) 0 := by
 intro st h hb
 have he : st.err ≠ 0 := fun e => by have := hb e; have := h.pos; omega
 obtain ⟨t, r, e, ht, h2, h3⟩ := eS h
 obtain ⟨x, c, s1, a1, a2, a3, a7⟩ := aVm h
 unfold gA
 rw [a1]
 simp only [Option.bind_some]
 cases c with
 | true => exact absurd (a2 rfl).2.2.1 he
 | false =>
  have := a3 rfl
  subst this
  simp only [Bool.false_eq_true, if_false, ht, Option.bind_some]
  rw [if_neg he]
  exact ⟨_, _, rfl, (Stp.refl h).any he _, Shp.flat _ _ _ _ _ _ (by decide), fun e => absurd e he⟩
theorem bQz : ∀ (f : Nat), 3 ≤ f → f ≤ 1000000 → jB (mO f) (f - 3)
 | 0, h, _ => by omega
 | f + 1, h, hm => by
  by_cases h3 : f = 2
  ·subst h3
   exact cZv (b := 0) (g := 2) (aTx (wU 2) (mO 2) 2) (.inl rfl) (by decide) (by decide)
  ·have HE := bQz f (by omega) (by omega)
   have HL := cZs f (by omega)
   have := cZv (P := gA (wU f) (mO f) f) (E := mO f) (b := f - 3 + 1) (g := f) (cFn HL HE (by omega) (by omega)) (.inr HE) (by omega) (by omega)
   rw [show f - 3 + 1 = f + 1 - 3 by omega] at this
   exact this
end Go.Dd

namespace Go.Dd
open Go.Proofs
theorem cVv (n : Nat) (x : DV) (h : Hp) : aI (n + 1) 94 [x] h = s94 (aI n) n x h := by kernel_rfl
theorem cTu (n : Nat) (x y : DV) (h : Hp) : aI (n + 1) 95 [x, y] h = s95 (aI n) n x y h := by kernel_rfl
theorem cKd (n : Nat) (x y : DV) (h : Hp) : aI (n + 1) 96 [x, y] h = s96 (aI n) n x y h := by kernel_rfl
theorem cNu (n : Nat) (x y : DV) (h : Hp) : aI (n + 1) 97 [x, y] h = s97 (aI n) n x y h := by kernel_rfl
theorem cVl (n : Nat) (x y : DV) (h : Hp) : aI (n + 1) 98 [x, y] h = s98 (aI n) n x y h := by kernel_rfl
theorem cNo (n : Nat) (x y : DV) (h : Hp) : aI (n + 1) 99 [x, y] h = s99 (aI n) n x y h := by kernel_rfl
theorem cJq (n : Nat) (x y : DV) (h : Hp) : aI (n + 1) 66 [x, y] h = s66 (aI n) n x y h := by kernel_rfl
theorem cPe (n : Nat) (x y : DV) (h : Hp) : aI (n + 1) 67 [x, y] h = s67 (aI n) n x y h := by kernel_rfl
theorem cVq (n : Nat) (x : DV) (h : Hp) : aI (n + 1) 43 [x] h = s43 (aI n) n x h := by kernel_rfl
def gN (c : Nat) : Nat := if bB c then 1 else if bQ c then 2 else if dK bP c then 5 else if dK signs c then 3 else if dK marks c then 4 else 0
def vS (u : List Nat) : Int := match u with
 | [] => -1
 | c :: _ => (gN c : Int)
theorem aUp (c : Nat) (h : Hp) : ∀ (w : List Nat) (j i : Nat), marks.drop i = w → i ≤ 8 →
 Ev (fun n => kS (aI n) n (n - j) (.i .u8 (Int.ofNat c)) (.s marks) (.i .i64 (i : Int)) h) (fun v h' => v = .i .i64 (if dK w c then 4 else 0) ∧ h' = h) := by
 intro w
 induction w with
 | nil =>
  intro j i hw hi
  refine eAw j (ll := fun n m => kS (aI n) n m (.i .u8 (Int.ofNat c)) (.s marks) (.i .i64 (i : Int)) h) (bb := fun n m => pZ (aI n) n (kS (aI n) n m) (.i .u8 (Int.ofNat c)) (.s marks) (.i .i64 (i : Int)) h) (fun _ _ => rfl) ?_
  unfold pZ iJ
  have hl : marks.length ≤ i := by simpa using hw
  refine eBd ?_
  refine eBa (fun e1 => by omega) (fun e1 => ?_)
  refine yj ?_
  exact eAs ⟨rfl, rfl⟩
 | cons d w ih =>
  intro j i hw hi
  have hg : marks[i]? = some d := by
   have : (marks.drop i)[0]? = some d := by rw [hw]; rfl
   simpa [aG] using this
  have hw' : marks.drop (i + 1) = w := by rw [← List.drop_drop, hw]; rfl
  have hlt := (wV hg)
  refine eAw j (ll := fun n m => kS (aI n) n m (.i .u8 (Int.ofNat c)) (.s marks) (.i .i64 (i : Int)) h) (bb := fun n m => pZ (aI n) n (kS (aI n) n m) (.i .u8 (Int.ofNat c)) (.s marks) (.i .i64 (i : Int)) h) (fun _ _ => rfl) ?_
  unfold pZ
  refine eBd ?_
  refine eBa (fun e1 => ?_) (fun e1 => by omega)
  refine yt ?_
  refine Ev.op (iK hg _) ?_
  refine eAv (fun e2 => ?_) (fun e2 => ?_)
  ·refine yt ?_
   have : d = c := by simp at e2; omega
   subst this
   exact eAs ⟨by simp [dK], rfl⟩
  ·refine yj ?_
   have hne : ¬ c = d := fun e => e2 (by rw [e])
   refine eAx ?_
   rw [eG 1 (by omega)]
   refine (ih (j + 1) (i + 1) hw' hlt).mono ?_
   rintro v h' ⟨rfl, rfl⟩
   refine ⟨?_, rfl⟩
   simp [dK, hne]
theorem aVl (c : Nat) (h : Hp) : ∀ (w : List Nat) (j i : Nat), signs.drop i = w → i ≤ 12 →
 Ev (fun n => kP (aI n) n (n - j) (.i .u8 (Int.ofNat c)) (.s signs) (.i .i64 (i : Int)) h) (fun v h' => v = .i .i64 (if dK w c then 3 else if dK marks c then 4 else 0) ∧ h' = h) := by
 intro w
 induction w with
 | nil =>
  intro j i hw hi
  refine eAw j (ll := fun n m => kP (aI n) n m (.i .u8 (Int.ofNat c)) (.s signs) (.i .i64 (i : Int)) h) (bb := fun n m => pU (aI n) n (kP (aI n) n m) (.i .u8 (Int.ofNat c)) (.s signs) (.i .i64 (i : Int)) h) (fun _ _ => rfl) ?_
  unfold pU gZ bFo bIk aUt
  have hl : signs.length ≤ i := by simpa using hw
  refine eBd ?_
  refine eBa (fun e1 => by omega) (fun e1 => ?_)
  refine yj ?_
  refine (aUp c h marks 0 0 rfl (by omega)).mono ?_
  rintro v h' ⟨rfl, rfl⟩
  exact ⟨by simp [dK], rfl⟩
 | cons d w ih =>
  intro j i hw hi
  have hg : signs[i]? = some d := by
   have : (signs.drop i)[0]? = some d := by rw [hw]; rfl
   simpa [aG] using this
  have hw' : signs.drop (i + 1) = w := by rw [← List.drop_drop, hw]; rfl
  have hlt := (wV hg)
  refine eAw j (ll := fun n m => kP (aI n) n m (.i .u8 (Int.ofNat c)) (.s signs) (.i .i64 (i : Int)) h) (bb := fun n m => pU (aI n) n (kP (aI n) n m) (.i .u8 (Int.ofNat c)) (.s signs) (.i .i64 (i : Int)) h) (fun _ _ => rfl) ?_
  unfold pU
  refine eBd ?_
  refine eBa (fun e1 => ?_) (fun e1 => by omega)
  refine yt ?_
  refine Ev.op (iK hg _) ?_
  refine eAv (fun e2 => ?_) (fun e2 => ?_)
  ·refine yt ?_
   have : d = c := by simp at e2; omega
   subst this
   exact eAs ⟨by simp [dK], rfl⟩
  ·refine yj ?_
   have hne : ¬ c = d := fun e => e2 (by rw [e])
   refine eAx ?_
   rw [eG 1 (by omega)]
   refine (ih (j + 1) (i + 1) hw' hlt).mono ?_
   rintro v h' ⟨rfl, rfl⟩
   refine ⟨?_, rfl⟩
   simp [dK, hne]
theorem tZ (c : Nat) (h : Hp) : Ev (fun n => aI n 94 [.i .u8 (Int.ofNat c)] h) (fun v h' => v = .i .i64 (gN c : Int) ∧ h' = h) := by
 refine Ev.enter (fun n => cVv n _ h) ?_
 unfold s94 bHu
 have yes : bB c = true → Ev (fun n => some (DV.i .i64 (Int.ofNat 1), h)) (fun v h' => v = .i .i64 (gN c : Int) ∧ h' = h) := fun e => eAs ⟨by simp [gN, e], rfl⟩
 have no : bB c = false → Ev (fun n => aQq (aI n) n (.i .u8 (Int.ofNat c)) h) (fun v h' => v = .i .i64 (gN c : Int) ∧ h' = h) := fun e => by
  unfold aQq
  have yes2 : bQ c = true → Ev (fun n => some (DV.i .i64 (Int.ofNat 2), h)) (fun v h' => v = .i .i64 (gN c : Int) ∧ h' = h) := fun e2 => eAs ⟨by simp [gN, e, e2], rfl⟩
  have no2 : bQ c = false → Ev (fun n => aQx (aI n) n (.i .u8 (Int.ofNat c)) h) (fun v h' => v = .i .i64 (gN c : Int) ∧ h' = h) := fun e2 => by
   unfold aQx
   have yes3 : dK bP c = true → Ev (fun n => some (DV.i .i64 (Int.ofNat 5), h)) (fun v h' => v = .i .i64 (gN c : Int) ∧ h' = h) := fun e3 => eAs ⟨by simp [gN, e, e2, e3], rfl⟩
   refine eAv (fun e3 => ?_) (fun e3 => ?_)
   ·have : c = 9 := by simp at e3; omega
    have Y := yes3 (by subst this; rfl)
    exact Y
   ·refine zf (wm (zf ?_))
    refine eAv (fun e4 => ?_) (fun e4 => ?_)
    ·have : c = 10 := by simp at e4; omega
     have Y := yes3 (by subst this; rfl)
     exact Y
    ·refine aq (zf (wm (zf ?_)))
     refine eAv (fun e5 => ?_) (fun e5 => ?_)
     ·have : c = 13 := by simp at e5; omega
      have Y := yes3 (by subst this; rfl)
      exact Y
     ·refine aq (zf (wm (zf ?_)))
      refine eAv (fun e6 => ?_) (fun e6 => ?_)
      ·have : c = 32 := by simp at e6; omega
       have Y := yes3 (by subst this; rfl)
       exact Y
      ·refine aq (yj ?_)
       have e7 : dK bP c = false := by
        simp at e3 e4 e5 e6
        simp [dK, bP]
        omega
       unfold bEf bDz aGt aUv
       refine (aVl c h signs 0 0 rfl (by omega)).mono ?_
       rintro v h' ⟨rfl, rfl⟩
       refine ⟨?_, rfl⟩
       simp only [gN, e, e2, e7, Bool.false_eq_true, if_false]
       cases dK signs c <;> cases dK marks c <;> rfl
  refine eBo (fun e3 => ?_) (fun e3 => ?_)
  ·refine zt (wm (zt ?_))
   refine eCh (fun e4 => ?_) (fun e4 => ?_)
   ·have Y := yes2 (by simp at e3 e4; simp [bQ]; omega)
    exact Y
   ·have Y := no2 (by simp at e3 e4; simp [bQ]; omega)
    exact Y
  ·have Y := no2 (by simp at e3; simp [bQ]; omega)
   exact Y
 refine eBo (fun e1 => ?_) (fun e1 => ?_)
 ·refine zt (wm (zt ?_))
  refine eCh (fun e2 => ?_) (fun e2 => ?_)
  ·have Y := yes (by simp at e1 e2; simp [bB]; omega)
   exact Y
  ·refine ap (zf (wm (zf ?_)))
   refine eBo (fun e3 => ?_) (fun e3 => ?_)
   ·refine zf (wm (zt (wm (zt ?_))))
    refine eCh (fun e4 => ?_) (fun e4 => ?_)
    ·simp at e1 e2 e3 e4; omega
    ·have Y := no (by simp at e1 e2 e3 e4; simp [bB]; omega)
     exact Y
   ·simp at e1 e2 e3; omega
 ·refine yf (yf (aq (zf (wm (zf ?_)))))
  refine eBo (fun e3 => ?_) (fun e3 => ?_)
  ·refine zf (wm (zt (wm (zt ?_))))
   refine eCh (fun e4 => ?_) (fun e4 => ?_)
   ·have Y := yes (by simp at e1 e3 e4; simp [bB]; omega)
    exact Y
   ·have Y := no (by simp at e1 e3 e4; simp [bB]; omega)
    exact Y
  ·have Y := no (by simp at e1 e3; simp [bB]; omega)
   exact Y
theorem mK (s : List Nat) (i : Nat) (h : Hp) : Ev (fun n => aI n 95 [.s s, .i .i64 (i : Int)] h) (fun v h' => v = .i .i64 (vS (s.drop i)) ∧ h' = h) := by
 refine Ev.enter (fun n => cTu n _ _ h) ?_
 unfold s95
 refine eBd ?_
 refine eBo (fun e1 => ?_) (fun e1 => ?_)
 ·refine yt ?_
  rw [List.drop_eq_nil_of_le (by omega)]
  exact eAs ⟨rfl, rfl⟩
 ·refine yj ?_
  have hi : i < s.length := by omega
  refine Ev.op (iK (c := s[i]) (by simp [hi]) _) ?_
  refine eAr (tZ _ _) ?_
  rintro _ _ ⟨rfl, rfl⟩
  rw [List.drop_eq_getElem_cons hi]
  exact eAs ⟨rfl, rfl⟩
theorem aSr (c : Nat) : gN c = 1 ↔ bB c = true := by
 unfold gN
 constructor
 ·intro h
  repeat' split at h
  all_goals first | assumption | omega
 ·intro h; simp [h]
theorem aOt (c : Nat) : gN c = 2 ↔ bQ c = true := by
 unfold gN
 constructor
 ·intro h
  repeat' split at h
  all_goals first | assumption | omega
 ·intro h
  have : bB c = false := by simp [bQ] at h; simp [bB]; omega
  simp [this, h]
theorem aTr (s : List Nat) (hs : s.length ≤ bG) (h : Hp) : ∀ (u : List Nat) (j i : Nat), s.drop i = u → i ≤ s.length →
 Ev (fun n => mB (aI n) n (n - j) (.s s) (.i .i64 (i : Int)) h) (fun v h' => v = .i .i64 ((i + (u.takeWhile fX).length : Nat) : Int) ∧ h' = h) := by
 intro u
 induction u with
 | nil =>
  intro j i hu hi
  refine eAw j (ll := fun n m => mB (aI n) n m (.s s) (.i .i64 (i : Int)) h) (bb := fun n m => vK (aI n) n (mB (aI n) n m) (.s s) (.i .i64 (i : Int)) h) (fun _ _ => rfl) ?_
  unfold vK jA
  refine eAr (mK s i h) ?_
  rintro _ _ ⟨rfl, rfl⟩
  rw [hu]
  refine eAv (fun e1 => absurd e1 (by decide)) (fun e1 => ?_)
  refine zf (wm (zf (wm (zf ?_))))
  refine eAr (mK s i _) ?_
  rintro _ _ ⟨rfl, rfl⟩
  rw [hu]
  refine zf ?_
  refine eAv (fun e2 => absurd e2 (by decide)) (fun e2 => ?_)
  refine aq (yj ?_)
  exact eAs ⟨by simp, rfl⟩
 | cons c u ih =>
  intro j i hu hi
  have hlt : i < s.length := by
   have := congrArg List.length hu
   simp at this
   omega
  have hu' : s.drop (i + 1) = u := by rw [← List.drop_drop, hu]; rfl
  simp only [bG] at hs
  refine eAw j (ll := fun n m => mB (aI n) n m (.s s) (.i .i64 (i : Int)) h) (bb := fun n m => vK (aI n) n (mB (aI n) n m) (.s s) (.i .i64 (i : Int)) h) (fun _ _ => rfl) ?_
  unfold vK jA
  have go : fX c = true → Ev (fun n => bnd (aH .add (.i .i64 (i : Int)) (.i .i64 (Int.ofNat 1)) h) fun v8 h8 => mB (aI n) n (n - (j + 1)) (.s s) v8 h8) (fun v h' => v = .i .i64 ((i + ((c :: u).takeWhile fX).length : Nat) : Int) ∧ h' = h) := fun e => by
   refine eAx ?_
   rw [eG 1 (by omega)]
   refine (ih (j + 1) (i + 1) hu' (by omega)).mono ?_
   rintro v h' ⟨rfl, rfl⟩
   refine ⟨?_, rfl⟩
   simp [e]
   omega
  refine eAr (mK s i h) ?_
  rintro _ _ ⟨rfl, rfl⟩
  rw [hu]
  refine eAv (fun e1 => ?_) (fun e1 => ?_)
  ·have e1' : bB c = true := (aSr c).1 (by simp [vS] at e1; omega)
   have G := go (by simp [fX, e1'])
   exact G
  ·refine zf (wm (zf (wm (zf ?_))))
   refine eAr (mK s i _) ?_
   rintro _ _ ⟨rfl, rfl⟩
   rw [hu]
   refine zf ?_
   refine eAv (fun e2 => ?_) (fun e2 => ?_)
   ·have e2' : bQ c = true := (aOt c).1 (by simp [vS] at e2; omega)
    have G := go (by simp [fX, e2'])
    exact G
   ·refine aq (yj ?_)
    have e1' : bB c = false := by
     cases h1 : bB c with
     | false => rfl
     | true => exact absurd (show vS (c :: u) = _ by simp [vS, (aSr c).2 h1]) e1
    have e2' : bQ c = false := by
     cases h1 : bQ c with
     | false => rfl
     | true => exact absurd (show vS (c :: u) = _ by simp [vS, (aOt c).2 h1]) e2
    exact eAs ⟨by simp [fX, e1', e2'], rfl⟩
theorem xB (s : List Nat) (hs : s.length ≤ bG) (i : Nat) (hi : i ≤ s.length) (h : Hp) : Ev (fun n => aI n 96 [.s s, .i .i64 (i : Int)] h) (fun v h' => v = .i .i64 ((i + ((s.drop i).takeWhile fX).length : Nat) : Int) ∧ h' = h) := by
 refine Ev.enter (fun n => cKd n _ _ h) ?_
 unfold s96 bFf bZl
 exact aTr s hs h _ 0 i rfl hi
theorem xP (s : List Nat) (hs : s.length ≤ bG) (i : Nat) (hi : i ≤ s.length) (h : Hp) : Ev (fun n => aI n 97 [.s s, .i .i64 (i : Int)] h) (fun v h' => v = .b (dP (s.drop i)) ∧ h' = h) := by
 refine Ev.enter (fun n => cNu n _ _ h) ?_
 unfold s97
 simp only [bG] at hs
 refine eBd ?_
 refine eBa (fun e1 => ?_) (fun e1 => ?_)
 ·have hlt : i < s.length := by omega
  have n0 : nx (s.drop i) 0 = s[i] := by rw [List.drop_eq_getElem_cons hlt]; rfl
  refine zt (wm (zt (wm (zt ?_))))
  refine Ev.op (iK (c := s[i]) (by simp [hlt]) _) ?_
  refine zt ?_
  refine eAv (fun e2 => ?_) (fun e2 => ?_)
  ·have e2' : s[i] = 58 := by simp at e2; omega
   refine ap (zt (wm (zt ?_)))
   refine eAx ?_
   rw [eG 1 (by omega)]
   refine zt (wm (zt ?_))
   refine eBd ?_
   refine zt ?_
   refine eBa (fun e3 => ?_) (fun e3 => ?_)
   ·have hlt2 : i + 1 < s.length := by omega
    have n1 : nx (s.drop i) 1 = s[i + 1] := by simp [nx, List.getD, List.getElem?_drop, hlt2]
    refine zt (wm (zt (wm (zt (wm (zt ?_))))))
    refine eAx ?_
    rw [eG 1 (by omega)]
    refine zt ?_
    refine Ev.op (iK (c := s[i + 1]) (by simp [hlt2]) _) ?_
    refine zt ?_
    refine eAv (fun e4 => ?_) (fun e4 => ?_)
    ·have e4' : s[i + 1] = 61 := by simp at e4; omega
     refine zt (ap (zt (an (ap ?_))))
     exact eAs ⟨by simp [dP, n0, n1, e2', e4'], rfl⟩
    ·have e4' : ¬ s[i + 1] = 61 := by simp at e4; omega
     refine zt (ap (zt (ao (ap ?_))))
     exact eAs ⟨by simp [dP, n0, n1, e2', e4'], rfl⟩
   ·refine zt (wm (yf (yf (yf (yf (yf (zt (aq (zt (ao (ap ?_)))))))))))
    have n1 : nx (s.drop i) 1 = 0 := by simp [nx, List.getD, List.getElem?_drop, List.getElem?_eq_none (show s.length ≤ i + 1 by omega)]
    exact eAs ⟨by simp [dP, n0, n1, e2'], rfl⟩
  ·have e2' : ¬ s[i] = 58 := by simp at e2; omega
   refine ap (yf (yf (yf (yf (yf (yf (yu (yu (yu (yu (yu (yf (yf (aq ?_))))))))))))))
   exact eAs ⟨by simp [dP, n0, e2'], rfl⟩
 ·refine yf (yf (yf (yf (aq (yf (yf (yf (yf (yf (yf (yu (yu (yu (yu (yu (yf (yf (aq ?_))))))))))))))))))
  have n0 : nx (s.drop i) 0 = 0 := by rw [List.drop_eq_nil_of_le (by omega)]; rfl
  exact eAs ⟨by simp [dP, n0], rfl⟩
end Go.Dd

namespace Go.Dd
open Go.Proofs
def kD (c : Nat) : Bool := !decide (c = 34)
theorem aSg : ∀ (l : List Nat) (i : Nat), dZ 34 l i = if (l.takeWhile kD).length < l.length then ((i + (l.takeWhile kD).length : Nat) : Int) else -1
 | [], i => rfl
 | x :: l, i => by
  have ih := aSg l (i + 1)
  unfold dZ
  cases e : Nat.beq x 34 with
  | true =>
   have := Nat.eq_of_beq_eq_true e
   subst this
   simp [kD]
  | false =>
   have hx : ¬ x = 34 := fun h => by subst h; simp at e
   simp only [cond_false, ih]
   have : (x :: l).takeWhile kD = x :: l.takeWhile kD := by simp [kD, hx]
   rw [this]
   simp only [List.length_cons, Nat.add_lt_add_iff_right]
   split
   ·congr 1; omega
   ·rfl
inductive SkipTo (s : List Nat) : Nat → Nat → Bool → Prop
 | fin (i : Nat) : s.length ≤ i → SkipTo s i i false
 | blank (i k : Nat) (o : Bool) : i < s.length → dK bP (nx s i) = true → SkipTo s (i + 1) k o → SkipTo s i k o
 | tok (i : Nat) : i < s.length → dK bP (nx s i) = false → nx s i ≠ 34 → SkipTo s i i false
 | opn (i : Nat) : i < s.length → nx s i = 34 → ((s.drop (i + 1)).takeWhile kD).length = (s.drop (i + 1)).length → SkipTo s i i true
 | rem (i k : Nat) (o : Bool) : i < s.length → nx s i = 34 → ((s.drop (i + 1)).takeWhile kD).length < (s.drop (i + 1)).length → SkipTo s (i + 1 + ((s.drop (i + 1)).takeWhile kD).length + 1) k o → SkipTo s i k o
theorem bAm (c : Nat) : gN c = 5 ↔ dK bP c = true := by
 unfold gN
 constructor
 ·intro h
  repeat' split at h
  all_goals first | assumption | omega
 ·intro h
  have h2 : c = 9 ∨ c = 10 ∨ c = 13 ∨ c = 32 := by simpa [aG, dK, bP] using h
  rcases h2 with rfl | rfl | rfl | rfl <;> rfl
theorem aRh {P : DV → Hp → Prop} {s : List Nat} (hs : s.length ≤ bG) {i0 : Nat} {kk : Nat → DV → DV → Hp → aF} {h : Hp} : ∀ (u : List Nat) (j i : Nat), s.drop i = u → i ≤ s.length →
 ((u.takeWhile kD).length = u.length → P (.t [.i .i64 (i0 : Int), .b true]) h) → ((u.takeWhile kD).length < u.length → Ev (fun n => kk n (.s s) (.i .i64 ((i + (u.takeWhile kD).length + 1 : Nat) : Int)) h) P) →
 Ev (fun n => nK (aI n) n (kk n) (n - j) (.s s) (.i .i64 (i0 : Int)) (.i .i64 (i : Int)) h) P := by
 intro u
 simp only [bG] at hs
 induction u with
 | nil =>
  intro j i hu hi H1 H2
  refine eAw j (ll := fun n m => nK (aI n) n (kk n) m (.s s) (.i .i64 (i0 : Int)) (.i .i64 (i : Int)) h) (bb := fun n m => vT (aI n) n (kk n) (nK (aI n) n (kk n) m) (.s s) (.i .i64 (i0 : Int)) (.i .i64 (i : Int)) h) (fun _ _ => rfl) ?_
  unfold vT iN
  have hl : s.length ≤ i := by simpa using hu
  refine eBd ?_
  refine eBa (fun e1 => by omega) (fun e1 => ?_)
  refine yf (yf (yf (yf (aq (yj ?_)))))
  refine eBd ?_
  refine eAv (fun e2 => ?_) (fun e2 => absurd (by omega) e2)
  refine yt ?_
  exact eAs (H1 rfl)
 | cons c u ih =>
  intro j i hu hi H1 H2
  have hlt : i < s.length := by
   have := congrArg List.length hu
   simp at this
   omega
  have hu' : s.drop (i + 1) = u := by rw [← List.drop_drop, hu]; rfl
  have hc : s[i] = c := by
   rw [List.drop_eq_getElem_cons hlt] at hu
   exact (List.cons.inj hu).1
  refine eAw j (ll := fun n m => nK (aI n) n (kk n) m (.s s) (.i .i64 (i0 : Int)) (.i .i64 (i : Int)) h) (bb := fun n m => vT (aI n) n (kk n) (nK (aI n) n (kk n) m) (.s s) (.i .i64 (i0 : Int)) (.i .i64 (i : Int)) h) (fun _ _ => rfl) ?_
  unfold vT iN
  refine eBd ?_
  refine eBa (fun e1 => ?_) (fun e1 => by omega)
  refine zt (wm (zt (wm (zt ?_))))
  refine Ev.op (iK (c := s[i]) (by simp [hlt]) _) ?_
  refine zt ?_
  refine eBi (fun e2 => ?_) (fun e2 => ?_)
  ·have e2' : kD c = true := by rw [hc] at e2; simp at e2; simp [kD]; omega
   have et : (c :: u).takeWhile kD = c :: u.takeWhile kD := by simp [e2']
   refine ap (yt ?_)
   refine eAx ?_
   rw [eG 1 (by omega)]
   refine ih (j + 1) (i + 1) hu' (by omega) ?_ ?_
   ·intro hl; exact H1 (by rw [et]; simp [hl])
   ·intro hl
    have := H2 (by rw [et]; simp; omega)
    rw [et] at this
    simp only [List.length_cons] at this
    rw [show i + 1 + (u.takeWhile kD).length + 1 = i + ((u.takeWhile kD).length + 1) + 1 by omega]
    exact this
  ·have e2' : kD c = false := by rw [hc] at e2; simp at e2; simp [kD]; omega
   have et : (c :: u).takeWhile kD = [] := by simp [e2']
   refine ap (yj ?_)
   refine eBd ?_
   refine eAv (fun e3 => by omega) (fun e3 => ?_)
   refine yj ?_
   refine eAx ?_
   rw [eG 1 (by omega)]
   have := H2 (by rw [et]; simp)
   rw [et] at this
   exact this
theorem bLp {s : List Nat} (hs : s.length ≤ bG) {h : Hp} {i k : Nat} {o : Bool} (H : SkipTo s i k o) : ∀ (j : Nat), i ≤ s.length →
 Ev (fun n => fY (aI n) n (n - j) (.s s) (.i .i64 (i : Int)) h) (fun v h' => v = .t [.i .i64 (k : Int), .b o] ∧ h' = h) := by
 have hs' := hs
 simp only [bG] at hs'
 induction H with
 | fin i hl =>
  intro j hi
  refine eAw j (ll := fun n m => fY (aI n) n m (.s s) (.i .i64 (i : Int)) h) (bb := fun n m => kC (aI n) n (fY (aI n) n m) (.s s) (.i .i64 (i : Int)) h) (fun _ _ => rfl) ?_
  unfold kC bZ
  refine eBd ?_
  refine eBa (fun e1 => by omega) (fun e1 => ?_)
  refine yj ?_
  exact eAs ⟨rfl, rfl⟩
 | blank i k o hlt hb _ ih =>
  intro j hi
  have hnx : nx s i = s[i] := by simp [nx, List.getD, hlt]
  refine eAw j (ll := fun n m => fY (aI n) n m (.s s) (.i .i64 (i : Int)) h) (bb := fun n m => kC (aI n) n (fY (aI n) n m) (.s s) (.i .i64 (i : Int)) h) (fun _ _ => rfl) ?_
  unfold kC bZ aBs
  refine eBd ?_
  refine eBa (fun e1 => ?_) (fun e1 => by omega)
  refine yt ?_
  refine Ev.op (iK (c := s[i]) (by simp [hlt]) _) ?_
  refine eAr (tZ _ _) ?_
  rintro _ _ ⟨rfl, rfl⟩
  refine eAv (fun e2 => ?_) (fun e2 => absurd (by rw [(bAm _).2 (hnx ▸ hb)]; rfl) e2)
  refine yt ?_
  refine eAx ?_
  rw [eG 1 (by omega)]
  exact ih (j + 1) (by omega)
 | tok i hlt hb h34 =>
  intro j hi
  have hnx : nx s i = s[i] := by simp [nx, List.getD, hlt]
  refine eAw j (ll := fun n m => fY (aI n) n m (.s s) (.i .i64 (i : Int)) h) (bb := fun n m => kC (aI n) n (fY (aI n) n m) (.s s) (.i .i64 (i : Int)) h) (fun _ _ => rfl) ?_
  unfold kC bZ aBs aFi
  refine eBd ?_
  refine eBa (fun e1 => ?_) (fun e1 => by omega)
  refine yt ?_
  refine Ev.op (iK (c := s[i]) (by simp [hlt]) _) ?_
  refine eAr (tZ _ _) ?_
  rintro _ _ ⟨rfl, rfl⟩
  refine eAv (fun e2 => ?_) (fun e2 => ?_)
  ·have : dK bP s[i] = true := (bAm _).1 (by simp at e2; omega)
   rw [hnx, this] at hb
   cases hb
  refine yj ?_
  refine Ev.op (iK (c := s[i]) (by simp [hlt]) _) ?_
  refine eBi (fun e3 => ?_) (fun e3 => absurd (by rw [hnx]; simp at e3; omega) h34)
  unfold bZ
  exact eAs ⟨rfl, rfl⟩
 | opn i hlt h34 hl =>
  intro j hi
  have hnx : nx s i = s[i] := by simp [nx, List.getD, hlt]
  have hb : dK bP s[i] = false := by rw [← hnx, h34]; rfl
  refine eAw j (ll := fun n m => fY (aI n) n m (.s s) (.i .i64 (i : Int)) h) (bb := fun n m => kC (aI n) n (fY (aI n) n m) (.s s) (.i .i64 (i : Int)) h) (fun _ _ => rfl) ?_
  unfold kC bZ aBs aFi
  refine eBd ?_
  refine eBa (fun e1 => ?_) (fun e1 => by omega)
  refine yt ?_
  refine Ev.op (iK (c := s[i]) (by simp [hlt]) _) ?_
  refine eAr (tZ _ _) ?_
  rintro _ _ ⟨rfl, rfl⟩
  refine eAv (fun e2 => ?_) (fun e2 => ?_)
  ·have : dK bP s[i] = true := (bAm _).1 (by simp at e2; omega)
   rw [this] at hb
   cases hb
  refine yj ?_
  refine Ev.op (iK (c := s[i]) (by simp [hlt]) _) ?_
  refine eBi (fun e3 => absurd (by rw [← hnx, h34]) e3) (fun e3 => ?_)
  refine yj ?_
  unfold aRm aOg bCb
  refine eAx ?_
  rw [eG 1 (by omega)]
  refine aRh hs (kk := fun n => fY (aI n) n (n - (j + 1))) (s.drop (i + 1)) 0 (i + 1) rfl (by omega) (fun _ => ⟨rfl, rfl⟩) (fun hl2 => by omega)
 | rem i k o hlt h34 hl _ ih =>
  intro j hi
  have hnx : nx s i = s[i] := by simp [nx, List.getD, hlt]
  have hb : dK bP s[i] = false := by rw [← hnx, h34]; rfl
  refine eAw j (ll := fun n m => fY (aI n) n m (.s s) (.i .i64 (i : Int)) h) (bb := fun n m => kC (aI n) n (fY (aI n) n m) (.s s) (.i .i64 (i : Int)) h) (fun _ _ => rfl) ?_
  unfold kC bZ aBs aFi
  refine eBd ?_
  refine eBa (fun e1 => ?_) (fun e1 => by omega)
  refine yt ?_
  refine Ev.op (iK (c := s[i]) (by simp [hlt]) _) ?_
  refine eAr (tZ _ _) ?_
  rintro _ _ ⟨rfl, rfl⟩
  refine eAv (fun e2 => ?_) (fun e2 => ?_)
  ·have : dK bP s[i] = true := (bAm _).1 (by simp at e2; omega)
   rw [this] at hb
   cases hb
  refine yj ?_
  refine Ev.op (iK (c := s[i]) (by simp [hlt]) _) ?_
  refine eBi (fun e3 => absurd (by rw [← hnx, h34]) e3) (fun e3 => ?_)
  refine yj ?_
  unfold aRm aOg bCb
  refine eAx ?_
  rw [eG 1 (by omega)]
  have hll : (s.drop (i + 1)).length = s.length - (i + 1) := by simp
  refine aRh hs (kk := fun n => fY (aI n) n (n - (j + 1))) (s.drop (i + 1)) 0 (i + 1) rfl (by omega) (fun hl2 => by omega) (fun hl2 => ih (j + 1) (by omega))
theorem cHo {s : List Nat} (hs : s.length ≤ bG) {h : Hp} {i k : Nat} {o : Bool} (H : SkipTo s i k o) (hi : i ≤ s.length) :
 Ev (fun n => aI n 66 [.s s, .i .i64 (i : Int)] h) (fun v h' => v = .t [.i .i64 (k : Int), .b o] ∧ h' = h) := by
 refine Ev.enter (fun n => cJq n _ _ h) ?_
 unfold s66 bDi bWb
 exact bLp hs H 0 hi
theorem bLe {g : Nat} {s : List Nat} : ∀ (f i : Nat) (out : List Tok) (res : List Tok × Int × Int), i ≤ s.length → nB g s f i out = some res →
 ∃ k o, SkipTo s i k o ∧ k ≤ s.length ∧ (o = true → res = ([], (k : Int), 11)) ∧ (o = false → k = s.length → res = (out ++ [⟨0, [], 0, (k : Int)⟩], 0, 0)) ∧
  (o = false → k < s.length → ∃ rs, lA g (s.drop k) = some rs ∧ (rs.2.2.2.1 ≠ 0 → res = ([], (k : Int), rs.2.2.2.1)) ∧
   (rs.2.2.2.1 = 0 → k + rs.2.2.2.2 ≤ s.length ∧ ∃ f', f' < f ∧ nB g s f' (k + rs.2.2.2.2) (out ++ [⟨rs.1, rs.2.1, rs.2.2.1, (k : Int)⟩]) = some res)) := by
 intro f
 induction f with
 | zero => intro i out res hi hm; cases hm
 | succ f ih =>
  intro i out res hi hm
  unfold nB at hm
  have hle := oR (dK bP) (s.drop i)
  have hdl : (s.drop i).length = s.length - i := by simp
  have up : ∀ (w : Nat) (i : Nat), w ≤ ((s.drop i).takeWhile (dK bP)).length → ∀ k o, SkipTo s (i + w) k o → SkipTo s i k o := by
   intro w
   induction w with
   | zero => intro i _ k o H; exact H
   | succ w ihw =>
    intro i hw k o H
    have hlt : i < s.length := by
     have := oR (dK bP) (s.drop i)
     simp at this
     omega
    have hd := List.drop_eq_getElem_cons hlt
    rw [hd] at hw
    have hb : dK bP s[i] = true := by
     cases e : dK bP s[i] with
     | true => rfl
     | false =>
      rw [List.takeWhile_cons, e] at hw
      simp only [Bool.false_eq_true, if_false, List.length_nil] at hw
      omega
    have hnx : nx s i = s[i] := by simp [nx, List.getD, hlt]
    refine SkipTo.blank i k o hlt (by rw [hnx]; exact hb) ?_
    rw [List.takeWhile_cons, hb] at hw
    simp only [if_true, List.length_cons] at hw
    refine ihw (i + 1) (by omega) k o ?_
    rw [show i + 1 + w = i + (w + 1) by omega]
    exact H
  have nb : ∀ w, w = ((s.drop i).takeWhile (dK bP)).length → i + w < s.length → dK bP (nx s (i + w)) = false := by
   intro w hw hlt
   have e1 : nx s (i + w) = nx (s.drop i) w := by simp [nx, List.getD, List.getElem?_drop]
   rw [e1, hw]
   have : ∀ u : List Nat, (u.takeWhile (dK bP)).length < u.length → dK bP (nx u (u.takeWhile (dK bP)).length) = false := by
    intro u
    induction u with
    | nil => intro h; simp at h
    | cons c u ihu =>
     intro h
     cases e : dK bP c with
     | false => simp [e, nx]
     | true =>
      simp [e] at h
      simp [e]
      have := ihu h
      simpa [aG, nx] using this
   exact this _ (by omega)
  generalize hw : ((s.drop i).takeWhile (dK bP)).length = w at hm hle nb
  have hi2 : i + w ≤ s.length := by omega
  split at hm
  ·rename_i h1
   cases hm
   have hk : i + w = s.length := by omega
   refine ⟨i + w, false, up w i (by omega) _ _ (.fin _ h1), by omega, fun h => (by cases h), fun _ h => by rw [hk], fun _ h => by omega⟩
  ·rename_i h1
   have h1' : i + w < s.length := by omega
   have hb := nb w rfl h1'
   split at hm
   ·rename_i h2
    rw [aSg] at hm
    by_cases hlt : ((s.drop (i + w + 1)).takeWhile kD).length < (s.drop (i + w + 1)).length
    ·rw [if_pos hlt] at hm
     rw [if_neg (by omega)] at hm
     simp only [Nat.zero_add, Int.toNat_natCast] at hm
     have hdl2 : (s.drop (i + w + 1)).length = s.length - (i + w + 1) := by simp
     obtain ⟨k, o, a1, a2, a3, a4, a5⟩ := ih _ out res (by omega) hm
     refine ⟨k, o, up w i (by omega) _ _ (.rem _ k o h1' h2 hlt ?_), a2, a3, a4, ?_⟩
     ·rw [show i + w + 1 + ((s.drop (i + w + 1)).takeWhile kD).length + 1 = i + w + ((s.drop (i + w + 1)).takeWhile kD).length + 2 by omega]
      exact a1
     ·intro ho hk
      obtain ⟨rs, b1, b2, b3⟩ := a5 ho hk
      refine ⟨rs, b1, b2, fun he => ?_⟩
      obtain ⟨c1, f', c2, c3⟩ := b3 he
      exact ⟨c1, f', by omega, c3⟩
    ·rw [if_neg hlt] at hm
     rw [if_pos (by omega)] at hm
     cases hm
     have := oR kD (s.drop (i + w + 1))
     exact ⟨i + w, true, up w i (by omega) _ _ (.opn _ h1' h2 (by omega)), by omega, fun _ => rfl, fun h => (by cases h), fun h => (by cases h)⟩
   ·rename_i h2
    obtain ⟨rs, hr, hm⟩ := aT hm
    refine ⟨i + w, false, up w i (by omega) _ _ (.tok _ h1' hb h2), by omega, fun h => (by cases h), fun _ h => by omega, fun _ _ => ⟨rs, hr, fun he => ?_, fun he => ?_⟩⟩
    ·rw [if_neg he] at hm
     cases hm
     rfl
    ·rw [if_pos he] at hm
     split at hm
     ·cases hm
     ·rename_i hfit
      simp at hfit
      exact ⟨by omega, f, by omega, hm⟩
end Go.Dd

namespace Go.Dd
open Go.Proofs
def aEw (I : Im) (A Q L : Ls) (res : Int × List Nat × Int × Int × Nat) (i : Nat) (v : DV) (h : Hp) : Prop :=
 ∃ t en, v = .t [.a (tc t), .i .i64 en, .i .i64 res.2.2.2.1] ∧ (res.2.2.2.1 = 0 → t = ⟨res.1, res.2.1, res.2.2.1, (i : Int)⟩ ∧ en = ((i + res.2.2.2.2 : Nat) : Int)) ∧ Sy I A Q L h
section
variable {I : Im} {A Q L : Ls} {s : List Nat} {p0 : Int} {k0 : Int} {m0 : Int} {b3 b4 : Pos} {z : List DV}
abbrev bYy (b3 b4 : Pos) (z : List DV) (t : Tok) (L : Ls) : Ls := (b4, some (.row .ex z)) :: (b3, some (.row .ex [.i .i64 t.kind, .s t.text, .i .i64 t.num, .i .i64 t.pos])) :: L
theorem bKt {P : DV → Hp → Prop} (hs : s.length ≤ bG) (z1 : z.length = 4) (z2 : ∀ v ∈ z, v.one = true) : ∀ (u : List Nat) (i : Nat) (out : List Nat), s.drop i = u → out.length ≤ i → i ≤ s.length →
 (∀ (j : Nat) (h : Hp), Sy I A Q (bYy b3 b4 z ⟨k0, out ++ u.takeWhile dM, m0, p0⟩ L) h → Ev (fun n => lL (aI n) n (n - j) (.s s) (.p b3 0) (.p b4 0) (.i .i64 ((i + (u.takeWhile dM).length : Nat) : Int)) h) P) →
 ∀ (j : Nat) (h : Hp), Sy I A Q (bYy b3 b4 z ⟨k0, out, m0, p0⟩ L) h → Ev (fun n => lL (aI n) n (n - j) (.s s) (.p b3 0) (.p b4 0) (.i .i64 (i : Int)) h) P := by
 intro u
 induction u with
 | nil =>
  intro i out hu ho hi H j h S
  have := H j h (by simpa using S)
  simpa [aG] using this
 | cons c u ih =>
  intro i out hu ho hi H j h S
  have hlt : i < s.length := by
   have := congrArg List.length hu
   simp at this
   omega
  have hu' : s.drop (i + 1) = u := by rw [← List.drop_drop, hu]; rfl
  have hc : s[i] = c := by
   rw [List.drop_eq_getElem_cons hlt] at hu
   exact (List.cons.inj hu).1
  cases e : dM c with
  | false =>
   rw [List.takeWhile_cons, e] at H
   have := H j h (by simpa using S)
   simpa [aG] using this
  | true =>
   rw [List.takeWhile_cons, e] at H
   simp only [if_true, List.length_cons] at H
   have hs' := hs
   simp only [bG] at hs'
   refine eAw j (ll := fun n m => lL (aI n) n m (.s s) (.p b3 0) (.p b4 0) (.i .i64 (i : Int)) h) (bb := fun n m => vF (aI n) n (lL (aI n) n m) (.s s) (.p b3 0) (.p b4 0) (.i .i64 (i : Int)) h) (fun _ _ => rfl) ?_
   unfold vF
   refine eBd ?_
   refine eBa (fun e1 => ?_) (fun e1 => by omega)
   refine yt ?_
   refine Ev.op (iK (c := s[i]) (by simp [hlt]) _) ?_
   refine eBi (fun e2 => ?_) (fun e2 => ?_)
   ·refine yt (wf ?_); refine wl ?_
    refine eAx ?_
    rw [eG 1 (by omega)]
    refine Ev.op (wT (by omega) (by omega) _) ?_
    have ec : (s.take (i + 1)).drop i = [c] := by
     rw [List.drop_take, hu, Nat.add_sub_cancel_left]; rfl
    rw [ec]
    refine eAz (by simp; omega) ?_
    refine wf ?_; refine wu fun _ _ => ?_
    refine eAx ?_
    rw [eG 1 (by omega)]
    refine ih (i + 1) (out ++ [c]) hu' (by simp; omega) (by omega) ?_ (j + 1) _ (by assumption)
    intro j' h' S'
    rw [show i + 1 + (u.takeWhile dM).length = i + ((u.takeWhile dM).length + 1) by omega]
    exact H j' h' (by simpa using S')
   ·rw [hc] at e2
    simp [dM] at e
    simp at e2
    omega
theorem aWe (hs : s.length ≤ bG) (z1 : z.length = 4) (z2 : ∀ v ∈ z, v.one = true) : ∀ (f j i : Nat) (h : Hp) (out : List Nat) (res : List Nat × Int × Nat), Sy I A Q (bYy b3 b4 z ⟨k0, out, m0, p0⟩ L) h → i ≤ s.length → out.length ≤ i → qR f out (s.drop i) = some res →
 Ev (fun n => lL (aI n) n (n - j) (.s s) (.p b3 0) (.p b4 0) (.i .i64 (i : Int)) h)
  (fun v h' => ∃ t en, v = .t [.a (tc t), .i .i64 en, .i .i64 res.2.1] ∧ (res.2.1 = 0 → t = ⟨k0, res.1, m0, p0⟩ ∧ en = ((i + res.2.2 : Nat) : Int)) ∧ Sy I A Q L h') := by
 intro f
 induction f with
 | zero => intro j i h out res S hi ho hm; cases hm
 | succ f ih =>
  intro j i h out res S hi ho hm
  unfold qR at hm
  have hlen := oR dM (s.drop i)
  have hd : (s.drop i).length = s.length - i := by simp
  have hs' := hs
  simp only [bG] at hs'
  refine bKt hs z1 z2 (s.drop i) i out rfl ho hi ?_ j h S
  intro j' h' S'
  have hnth : (s.drop i)[((s.drop i).takeWhile dM).length]? = s[i + ((s.drop i).takeWhile dM).length]? := by rw [List.getElem?_drop]
  have hstop : ∀ u : List Nat, (u.takeWhile dM).length < u.length → u[(u.takeWhile dM).length]? = some 39 := by
   intro u
   induction u with
   | nil => intro h; simp at h
   | cons c u ihu =>
    intro h
    cases e : dM c with
    | false =>
     simp [dM] at e
     subst e
     simp [dM]
    | true =>
     rw [List.takeWhile_cons, e] at h ⊢
     simp only [if_true, List.length_cons] at h ⊢
     have := ihu (by omega)
     simpa [aG] using this
  generalize hw : (s.drop i).takeWhile dM = w at hm S' hlen hnth
  have hwst : w.length < (s.drop i).length → s[i + w.length]? = some 39 := fun hl => by
   rw [← hnth, ← hw]; exact hstop _ (by rw [hw]; exact hl)
  refine eAw j' (ll := fun n m => lL (aI n) n m (.s s) (.p b3 0) (.p b4 0) (.i .i64 ((i + w.length : Nat) : Int)) h') (bb := fun n m => vF (aI n) n (lL (aI n) n m) (.s s) (.p b3 0) (.p b4 0) (.i .i64 ((i + w.length : Nat) : Int)) h') (fun _ _ => rfl) ?_
  unfold vF jD
  refine eBd ?_
  refine eBa (fun e1 => ?_) (fun e1 => ?_)
  ·have e1' : i + w.length < s.length := by omega
   have hq := hwst (by omega)
   rw [if_neg (by omega)] at hm
   refine yt ?_
   refine Ev.op (iK hq _) ?_
   refine eBi (fun e2 => absurd rfl e2) (fun e2 => ?_)
   refine yj ?_
   refine eAx ?_
   rw [eG 1 (by omega)]
   refine eBd ?_
   have nxe : nx (s.drop i) (w.length + 1) = s.getD (i + w.length + 1) 0 := by simp [nx, List.getD, List.getElem?_drop, Nat.add_assoc]
   have fin : ¬ nx (s.drop i) (w.length + 1) = 39 → Ev (fun n => bnd (aD 4 (.p b3 0) h') fun v34 h34 => bnd (aH .add (.i .i64 ((i + w.length : Nat) : Int)) (.i .i64 (Int.ofNat 1)) h34) fun v35 h35 => bnd (aC 4 (.p b4 0) v34 h35) fun _ h36 => bnd (aD 4 (.p b4 0) h36) fun v37 _ => some (.t [v37, v35, .i .i64 (Int.ofNat 0)], h36))
    (fun v h' => ∃ t en, v = .t [.a (tc t), .i .i64 en, .i .i64 res.2.1] ∧ (res.2.1 = 0 → t = ⟨k0, res.1, m0, p0⟩ ∧ en = ((i + res.2.2 : Nat) : Int)) ∧ Sy I A Q L h') := fun e => by
    rw [if_neg e] at hm
    cases hm
    refine ws ?_
    refine eAx ?_
    rw [eG 1 (by omega)]
    refine wt fun _ _ => ?_; refine ws ?_
    refine eAs ⟨⟨k0, out ++ w, m0, p0⟩, _, rfl, fun _ => ⟨rfl, ?_⟩, dp⟩
    rw [Nat.add_assoc]
   refine eBa (fun e3 => ?_) (fun e3 => ?_)
   ·have e3' : i + w.length + 1 < s.length := by omega
    refine zt (wm (zt (wm (zt ?_))))
    refine eAx ?_
    rw [eG 1 (by omega)]
    refine zt ?_
    refine Ev.op (iK (c := s[i + w.length + 1]) (by simp [e3']) _) ?_
    refine zt ?_
    have nxe' : nx (s.drop i) (w.length + 1) = s[i + w.length + 1] := by rw [nxe]; simp [List.getD, e3']
    refine eAv (fun e4 => ?_) (fun e4 => ?_)
    ·have e4' : nx (s.drop i) (w.length + 1) = 39 := by rw [nxe']; simp at e4; omega
     rw [if_pos e4'] at hm
     obtain ⟨res', hr, hm⟩ := aT hm
     simp only [aZ] at hm
     subst hm
     refine ap (yt (wf ?_)); refine wl ?_
     refine eAz (by simp; omega) ?_
     refine wf ?_; refine wu fun _ _ => ?_
     refine eAx ?_
     rw [eG 2 (by omega)]
     refine (ih (j' + 1) (i + w.length + 2) _ (out ++ w ++ [39]) res' (by assumption) (by omega) (by simp; omega) ?_).mono ?_
     ·rw [← hr, List.drop_drop]
      congr 2
     ·rintro v h'' ⟨t, en, a1, a2, a3⟩
      refine ⟨t, en, a1, fun he => ?_, a3⟩
      obtain ⟨b1, b2⟩ := a2 he
      refine ⟨b1, ?_⟩
      rw [b2]
      show ((i + w.length + 2 + res'.2.2 : Nat) : Int) = ((i + (res'.2.2 + (w.length + 2)) : Nat) : Int)
      congr 1
      omega
    ·have F := fin (by rw [nxe']; simp at e4; omega)
     exact F
   ·have F := fin (by rw [nxe]; simp [List.getD, List.getElem?_eq_none (show s.length ≤ i + w.length + 1 by omega)])
    exact F
  ·have e1' : w.length = (s.drop i).length := by omega
   rw [if_pos e1'] at hm
   cases hm
   refine yj ?_; refine ws ?_; refine wt fun _ _ => ?_; refine ws ?_
   exact eAs ⟨⟨k0, out ++ w, m0, p0⟩, _, rfl, fun he => (by cases he), dp⟩
theorem bVo {h : Hp} (S : Sy I A Q L h) (hs : s.length ≤ bG) {i : Nat} (hi : i < s.length) (f : Nat) (res : List Nat × Int × Nat) (hm : qR f [] (s.drop (i + 1)) = some res) :
 Ev (fun n => aI n 98 [.s s, .a (tc ⟨k0, [], m0, (i : Int)⟩)] h) (fun v h' => ∃ t en, v = .t [.a (tc t), .i .i64 en, .i .i64 res.2.1] ∧ (res.2.1 = 0 → t = ⟨k0, res.1, m0, (i : Int)⟩ ∧ en = ((i + 1 + res.2.2 : Nat) : Int)) ∧ Sy I A Q L h') := by
 refine Ev.enter (fun n => cVl n _ _ h) ?_
 unfold s98 bGj aYg cCw
 refine wb fun _ _ _ => ?_; refine wa fun _ _ _ => ?_; refine wf ?_; refine wl ?_
 refine eAx ?_
 simp only [bG] at hs
 rw [eG 1 (by omega)]
 rename_i b1 h1 S1 b2 h2 S2
 exact aWe (b3 := b1) (b4 := b2) (k0 := k0) (m0 := m0) (p0 := (i : Int)) hs rfl (by first | assumption | exact bV _ | (repeat (first | exact aX | refine aU (by first | rfl | assumption | exact Fz.one (by assumption)) ?_))) f 0 (i + 1) _ [] res S2 (by omega) (by simp) hm
end
end Go.Dd

namespace Go.Dd
open Go.Proofs
theorem kX {u : List Nat} (h : (bH u).2.1 = 0) : (bH u).1 = u.take (bH u).2.2 := by
 unfold bH at h ⊢
 split at h
 ·cases h
 ·rename_i hn
  rw [if_neg hn]
  exact (tU fX u).symm
theorem mN (u : List Nat) : (bH u).2.2 = (u.takeWhile fX).length := by
 unfold bH; split <;> rfl
theorem qI (u : List Nat) : (bH u).2.1 = if 24 < (u.takeWhile fX).length then 12 else 0 := by
 unfold bH; split <;> rfl
theorem aUz {u : List Nat} (h : dP u = true) : ∃ v, u = 58 :: v := by
 unfold dP at h
 cases u with
 | nil => simp [nx] at h
 | cons c v =>
  simp [nx] at h
  exact ⟨v, by rw [h.1]⟩
theorem sK {u : List Nat} {n : Nat} (h : dP (u.drop n) = true) : u.take (n + 1) = u.take n ++ [58] := by
 obtain ⟨v, e⟩ := aUz h
 have : u[n]? = some 58 := by
  have : (u.drop n)[0]? = some 58 := by rw [e]; rfl
  simpa [aG] using this
 rw [List.take_add_one, this]
 rfl
theorem bJo : ∀ (f : Nat) (out u : List Nat) (res : List Nat × Int × Nat), aDr f out u = some res → res.2.2 ≤ u.length ∧ (res.2.1 = 0 → res.1 = out ++ u.take res.2.2) := by
 intro f
 induction f with
 | zero => intro out u res h; cases h
 | succ f ih =>
  intro out u res h
  unfold aDr at h
  have hn := gB u
  split at h
  ·split at h
   ·rename_i h1 h2
    have hc := jU h2
    simp at hc
    split at h
    ·rename_i h3
     obtain ⟨r, hr, h⟩ := aT h
     cases h
     obtain ⟨a1, a2⟩ := ih _ _ _ hr
     simp at a1
     refine ⟨by show r.2.2 + ((bH u).2.2 + 1) ≤ _; omega, fun he => ?_⟩
     show r.1 = out ++ u.take (r.2.2 + ((bH u).2.2 + 1))
     rw [a2 he, kX h3, Nat.add_comm r.2.2, List.take_add, sK h2]
     simp
    ·cases h
     refine ⟨by show (bH u).2.2 + 1 ≤ _; omega, fun he => ?_⟩
     rename_i h3
     exact absurd he h3
   ·cases h
    exact ⟨by simp, fun _ => by simp⟩
  ·cases h
   exact ⟨by simp, fun _ => by simp⟩
theorem tT {f : Nat} {u : List Nat} {res : List Nat × Int × Nat} (h : kT f u = some res) : res.2.2 ≤ u.length ∧ (res.2.1 = 0 → res.1 = u.take res.2.2) := by
 unfold kT at h
 have hn := gB u
 split at h
 ·split at h
  ·split at h
   ·rename_i h3
    split at h
    ·rename_i h4
     obtain ⟨r, hr, h⟩ := aT h
     cases h
     have hc := jU h4
     simp at hc
     obtain ⟨a1, a2⟩ := bJo _ _ _ _ hr
     simp at a1
     refine ⟨by show r.2.2 + ((bH u).2.2 + 1) ≤ _; omega, fun he => ?_⟩
     show r.1 = u.take (r.2.2 + ((bH u).2.2 + 1))
     rw [a2 he, kX h3, Nat.add_comm r.2.2, List.take_add, sK h4]
    ·cases h
     exact ⟨hn, fun _ => kX h3⟩
   ·cases h
    rename_i h3
    exact ⟨hn, fun he => absurd he h3⟩
  ·cases h
   exact ⟨by simp, fun he => (by cases he)⟩
 ·cases h
  exact ⟨oM _ _ _, fun _ => rfl⟩
theorem bLb (u : List Nat) : vS u = 1 ↔ bB (nx u 0) = true := by
 cases u with
 | nil => simp [vS, nx, bB]
 | cons c u =>
  have := aSr c
  simp only [vS, nx, List.getD_cons_zero]
  rw [← this]
  omega
theorem aZx (c : Nat) : gN c = 3 ↔ dK signs c = true := by
 unfold gN
 constructor
 ·intro h
  repeat' split at h
  all_goals first | assumption | omega
 ·intro h
  have h2 : c = 43 ∨ c = 45 ∨ c = 42 ∨ c = 47 ∨ c = 60 ∨ c = 62 ∨ c = 61 ∨ c = 126 ∨ c = 44 ∨ c = 64 ∨ c = 38 ∨ c = 37 := by simpa [aG, dK, signs] using h
  rcases h2 with rfl | rfl | rfl | rfl | rfl | rfl | rfl | rfl | rfl | rfl | rfl | rfl <;> rfl
theorem cYs (c : Nat) : gN c = 4 ↔ dK marks c = true := by
 unfold gN
 constructor
 ·intro h
  repeat' split at h
  all_goals first | assumption | omega
 ·intro h
  have h2 : c = 94 ∨ c = 46 ∨ c = 59 ∨ c = 40 ∨ c = 41 ∨ c = 91 ∨ c = 93 ∨ c = 124 := by simpa [aG, dK, marks] using h
  rcases h2 with rfl | rfl | rfl | rfl | rfl | rfl | rfl | rfl <;> rfl
theorem cKg (u : List Nat) : vS u = 3 ↔ ∃ c v, u = c :: v ∧ dK signs c = true := by
 cases u with
 | nil => simp [vS]
 | cons c u =>
  have := aZx c
  constructor
  ·intro h
   exact ⟨c, u, rfl, this.1 (by simp only [vS] at h; omega)⟩
  ·rintro ⟨c', v, e, h⟩
   cases e
   simp only [vS]
   rw [this.2 h]; rfl
theorem aFm (u : List Nat) : (vS u = 3 → dO (dK signs) 2 u = if vS (u.drop 1) = 3 then 2 else 1) ∧ (¬ vS u = 3 → dO (dK signs) 2 u = 0) := by
 constructor
 ·intro h
  obtain ⟨c, v, rfl, hc⟩ := (cKg u).1 h
  simp only [dO, hc, if_true, List.drop_succ_cons, List.drop_zero]
  cases v with
  | nil => simp [dO, vS]
  | cons d v =>
   cases hd : dK signs d with
   | true =>
    rw [if_pos ((cKg _).2 ⟨d, v, rfl, hd⟩)]
    simp [dO, hd]
   | false =>
    rw [if_neg (fun h => by obtain ⟨c', v', e, h'⟩ := (cKg _).1 h; cases e; rw [h'] at hd; cases hd)]
    simp [dO, hd]
 ·intro h
  cases u with
  | nil => rfl
  | cons c v =>
   have hc : dK signs c = false := by
    cases e : dK signs c with
    | false => rfl
    | true => exact absurd ((cKg _).2 ⟨c, v, rfl, e⟩) h
   simp [dO, hc]
section
variable {I : Im} {A Q L : Ls} {s : List Nat} {b3 b4 : Pos} {z : List DV}
theorem aPw {t0 : List Nat} {h : Hp} {p0 : Int} (S : Sy I A Q (bYy b3 b4 z ⟨6, t0, 0, p0⟩ L) h) (z1 : z.length = 4) (z2 : ∀ v ∈ z, v.one = true) (a e : Nat) (h1 : a ≤ e) (h2 : e ≤ s.length) :
 Ev (fun n => gL (aI n) n (.s s) (.p b3 0) (.p b4 0) (.i .i64 (a : Int)) (.i .i64 (e : Int)) h) (fun v h' => v = .t [.a (tc ⟨6, (s.take e).drop a, 0, p0⟩), .i .i64 (e : Int), .i .i64 0] ∧ Sy I A Q L h') := by
 unfold gL
 refine Ev.op (wT h1 h2 h) ?_
 refine wf ?_; refine wu fun _ _ => ?_; refine ws ?_; refine wt fun _ _ => ?_; refine ws ?_
 exact eAs ⟨rfl, dp⟩
theorem bKe (hs : s.length ≤ bG) (z1 : z.length = 4) (z2 : ∀ v ∈ z, v.one = true) {p0 : Int} (a : Nat) : ∀ (f j e : Nat) (h : Hp) (out : List Nat) (res : List Nat × Int × Nat), Sy I A Q (bYy b3 b4 z ⟨6, [], 0, p0⟩ L) h → a ≤ e → e ≤ s.length → dP (s.drop e) = true →
 aDr f out (s.drop (e + 1)) = some res →
 Ev (fun n => kI (aI n) n (n - j) (.s s) (.p b3 0) (.p b4 0) (.i .i64 (a : Int)) (.i .i64 (e : Int)) h)
  (fun v h' => ∃ t en, v = .t [.a (tc t), .i .i64 en, .i .i64 res.2.1] ∧ (res.2.1 = 0 → t = ⟨6, (s.take (e + 1 + res.2.2)).drop a, 0, p0⟩ ∧ en = ((e + 1 + res.2.2 : Nat) : Int)) ∧ Sy I A Q L h') := by
 intro f
 induction f with
 | zero => intro j e h out res S ha he hc hm; cases hm
 | succ f ih =>
  intro j e h out res S ha he hc hm
  unfold aDr at hm
  have hs' := hs
  simp only [bG] at hs'
  have hcl := jU hc
  have he1 : e + 1 ≤ s.length := by simp at hcl; omega
  refine eAw j (ll := fun n m => kI (aI n) n m (.s s) (.p b3 0) (.p b4 0) (.i .i64 (a : Int)) (.i .i64 (e : Int)) h) (bb := fun n m => pV (aI n) n (kI (aI n) n m) (.s s) (.p b3 0) (.p b4 0) (.i .i64 (a : Int)) (.i .i64 (e : Int)) h) (fun _ _ => rfl) ?_
  unfold pV
  refine eAr (xP s hs e he h) ?_
  rintro _ _ ⟨rfl, hh⟩
  rw [hh]
  clear hh
  rw [hc]
  refine yt ?_
  refine eAx ?_
  rw [eG 1 (by omega)]
  refine eAr (mK s (e + 1) _) ?_
  rintro _ _ ⟨rfl, hh⟩
  rw [hh]
  clear hh
  have fin : some (out, (0 : Int), 0) = some res → Ev (fun n => gL (aI n) n (.s s) (.p b3 0) (.p b4 0) (.i .i64 (a : Int)) (.i .i64 ((e + 1 : Nat) : Int)) h)
   (fun v h' => ∃ t en, v = .t [.a (tc t), .i .i64 en, .i .i64 res.2.1] ∧ (res.2.1 = 0 → t = ⟨6, (s.take (e + 1 + res.2.2)).drop a, 0, p0⟩ ∧ en = ((e + 1 + res.2.2 : Nat) : Int)) ∧ Sy I A Q L h') := fun er => by
   cases er
   refine (aPw S z1 z2 a (e + 1) (by omega) he1).mono ?_
   rintro v h' ⟨rfl, S'⟩
   exact ⟨_, _, rfl, fun _ => ⟨rfl, rfl⟩, S'⟩
  refine eBi (fun e1 => ?_) (fun e1 => ?_)
  ·have e1' : bB (nx (s.drop (e + 1)) 0) = false := by
    cases e2 : bB (nx (s.drop (e + 1)) 0) with
    | false => rfl
    | true => exact absurd ((bLb _).2 e2) e1
   rw [e1'] at hm
   refine yt ?_
   exact fin (by simpa using hm)
  ·have e1' : bB (nx (s.drop (e + 1)) 0) = true := (bLb _).1 e1
   rw [if_pos e1'] at hm
   refine yj ?_
   refine eAr (xB s hs (e + 1) he1 _) ?_
   rintro _ _ ⟨rfl, hh⟩
   rw [hh]
   clear hh
   have hnl := gB (s.drop (e + 1))
   have hne := qI (s.drop (e + 1))
   have hnl2 := mN (s.drop (e + 1))
   rw [← hnl2] at hne ⊢
   have hdl : (s.drop (e + 1)).length = s.length - (e + 1) := by simp
   generalize hN : bH (s.drop (e + 1)) = N at hm hnl hne ⊢
   refine eAr (xP s hs (e + 1 + N.2.2) (by omega) _) ?_
   rintro _ _ ⟨rfl, hh⟩
   rw [hh]
   clear hh
   have hdd : s.drop (e + 1 + N.2.2) = (s.drop (e + 1)).drop N.2.2 := by rw [List.drop_drop]
   cases e2 : dP (s.drop (e + 1 + N.2.2)) with
   | false =>
    rw [← hdd, e2] at hm
    refine ao (yt ?_)
    exact fin (by simpa using hm)
   | true =>
    rw [← hdd, e2, if_pos rfl] at hm
    refine an (yj ?_)
    refine eBq ?_
    rw [show ((e + 1 + N.2.2 : Nat) : Int) - ((e + 1 : Nat) : Int) = ((N.2.2 : Nat) : Int) by omega, oX _ (by omega)]
    refine eBj (fun e3 => ?_) (fun e3 => ?_)
    ·have e3' : 24 < N.2.2 := by simp at e3; omega
     rw [if_pos e3'] at hne
     rw [if_neg (by rw [hne]; decide)] at hm
     cases hm
     rw [hne]
     refine yt ?_; refine ws ?_; refine wt fun _ _ => ?_; refine ws ?_
     exact eAs ⟨⟨6, [], 0, p0⟩, _, rfl, fun he => (by cases he), dp⟩
    ·have e3' : ¬ 24 < N.2.2 := by simp at e3; omega
     rw [if_neg e3'] at hne
     rw [if_pos hne] at hm
     obtain ⟨res', hr, hm⟩ := aT hm
     cases hm
     refine yj ?_
     refine (ih (j + 1) (e + 1 + N.2.2) h _ res' S (by omega) (by omega) e2 (by rw [← hr, List.drop_drop, Nat.add_assoc (e + 1)])).mono ?_
     rintro v h'' ⟨t, en, a1, a2, a3⟩
     refine ⟨t, en, a1, fun he => ?_, a3⟩
     obtain ⟨b1, b2⟩ := a2 he
     have ee : e + 1 + N.2.2 + 1 + res'.2.2 = e + 1 + (res'.2.2 + (N.2.2 + 1)) := by omega
     rw [ee] at b1 b2
     exact ⟨b1, b2⟩
theorem cJu {h : Hp} (S : Sy I A Q L h) (hs : s.length ≤ bG) {i : Nat} (hi : i < s.length) (f : Nat) (res : Int × List Nat × Int × Int × Nat)
 (hm : (if nx (s.drop i) 1 = 40 then some (7, [], 0, 0, 2) else (kT f ((s.drop i).drop 1)).bind fun r => some (6, r.1, 0, r.2.1, r.2.2 + 1)) = some res) :
 Ev (fun n => aI n 99 [.s s, .a (tc ⟨0, [], 0, (i : Int)⟩)] h) (aEw I A Q L res i) := by
 refine Ev.enter (fun n => cNo n _ _ h) ?_
 unfold s99 bCy
 have hs' := hs
 simp only [bG] at hs'
 have hdd : (s.drop i).drop 1 = s.drop (i + 1) := by rw [List.drop_drop]
 have hnx : nx (s.drop i) 1 = nx (s.drop (i + 1)) 0 := by simp [nx, List.getD, List.getElem?_drop]
 rw [hdd, hnx] at hm
 refine wb fun _ _ _ => ?_; refine wa fun _ _ _ => ?_; refine wf ?_; refine wl ?_
 rename_i b1 h1 S1 b2 h2 S2
 refine eAx ?_
 rw [eG 1 (by omega)]
 unfold bFj
 refine eBd ?_
 have go : ¬ nx (s.drop (i + 1)) 0 = 40 → Ev (fun n => aOm (aI n) n (.s s) (.p b1 0) (.p b2 0) (.i .i64 ((i + 1 : Nat) : Int)) h2) (aEw I A Q L res i) := fun e0 => by
  rw [if_neg e0] at hm
  obtain ⟨r, hr, hm⟩ := aT hm
  cases hm
  obtain ⟨k1, k2⟩ := tT hr
  unfold aOm
  refine wf ?_; refine wu fun _ _ => ?_
  rename_i h3 S3
  unfold aYk
  refine eAr (mK s (i + 1) _) ?_
  rintro _ _ ⟨rfl, hh⟩
  rw [hh]
  clear hh
  unfold kT at hr
  obtain ⟨g1, g2⟩ := aFm (s.drop (i + 1))
  have hdl : (s.drop (i + 1)).length = s.length - (i + 1) := by simp
  unfold aIx
  refine eAv (fun e1 => ?_) (fun e1 => ?_)
  ·have g3 := g1 e1
   rw [if_neg (by rw [g3]; split <;> decide)] at hr
   cases hr
   refine yt ?_
   unfold bWv
   refine eAx ?_
   rw [eG 1 (by omega)]
   unfold bVs
   refine eAr (mK s (i + 1 + 1) _) ?_
   rintro _ _ ⟨rfl, hh⟩
   rw [hh]
   clear hh
   have hd2 : s.drop (i + 1 + 1) = (s.drop (i + 1)).drop 1 := by rw [List.drop_drop]
   have hl0 := oM (dK signs) 2 (s.drop (i + 1))
   have fin : ∀ e, e = i + 1 + dO (dK signs) 2 (s.drop (i + 1)) → Ev (fun n => aHw (aI n) n (.s s) (.p b1 0) (.p b2 0) (.i .i64 ((i + 1 : Nat) : Int)) (.i .i64 (e : Int)) h3) (aEw I A Q L (6, (s.drop (i + 1)).take (dO (dK signs) 2 (s.drop (i + 1))), 0, 0, dO (dK signs) 2 (s.drop (i + 1)) + 1) i) := by
    intro e he
    unfold aHw
    refine Ev.op (wT (by omega) (by omega) _) ?_
    refine wf ?_; refine wu fun _ _ => ?_; refine ws ?_; refine wt fun _ _ => ?_; refine ws ?_
    refine eAs ⟨⟨6, (s.take e).drop (i + 1), 0, (i : Int)⟩, (e : Int), rfl, fun _ => ⟨?_, ?_⟩, dp⟩
    ·show (⟨6, (s.take e).drop (i + 1), 0, (i : Int)⟩ : Tok) = ⟨6, (s.drop (i + 1)).take _, 0, (i : Int)⟩
     rw [List.drop_take, he, Nat.add_sub_cancel_left]
    ·show (e : Int) = ((i + (_ + 1) : Nat) : Int)
     rw [he]
     omega
   refine eAv (fun e2 => ?_) (fun e2 => ?_)
   ·rw [if_pos (show vS ((s.drop (i + 1)).drop 1) = 3 by rw [← hd2]; exact e2)] at g3
    refine yt ?_
    refine eAx ?_
    rw [eG 1 (by omega)]
    exact fin (i + 1 + 1 + 1) (by omega)
   ·rw [if_neg (show ¬ vS ((s.drop (i + 1)).drop 1) = 3 by rw [← hd2]; exact e2)] at g3
    refine yj ?_
    exact fin (i + 1 + 1) (by omega)
  ·have g3 := g2 e1
   rw [if_pos g3] at hr
   refine yj ?_
   unfold aDv
   refine eAr (mK s (i + 1) _) ?_
   rintro _ _ ⟨rfl, hh⟩
   rw [hh]
   clear hh
   refine eBi (fun e2 => ?_) (fun e2 => ?_)
   ·have e2' : bB (nx (s.drop (i + 1)) 0) = false := by
     cases e3 : bB (nx (s.drop (i + 1)) 0) with
     | false => rfl
     | true => exact absurd ((bLb _).2 e3) e2
    rw [e2'] at hr
    simp only [Bool.false_eq_true, if_false, aZ] at hr
    subst hr
    refine yt ?_; refine ws ?_; refine wt fun _ _ => ?_; refine ws ?_
    exact eAs ⟨⟨6, [], 0, (i : Int)⟩, _, rfl, fun he => (by cases he), dp⟩
   ·have e2' : bB (nx (s.drop (i + 1)) 0) = true := (bLb _).1 e2
    rw [if_pos e2'] at hr
    refine yj ?_
    unfold bGi
    refine eAr (xB s hs (i + 1) (by omega) _) ?_
    rintro _ _ ⟨rfl, hh⟩
    rw [hh]
    clear hh
    have hnl := gB (s.drop (i + 1))
    have hne := qI (s.drop (i + 1))
    have hnl2 := mN (s.drop (i + 1))
    rw [← hnl2] at hne ⊢
    generalize hN : bH (s.drop (i + 1)) = N at hr hnl hne ⊢
    unfold bCo
    refine eBq ?_
    rw [show ((i + 1 + N.2.2 : Nat) : Int) - ((i + 1 : Nat) : Int) = ((N.2.2 : Nat) : Int) by omega, oX _ (by omega)]
    refine eBj (fun e3 => ?_) (fun e3 => ?_)
    ·have e3' : 24 < N.2.2 := by simp at e3; omega
     rw [if_pos e3'] at hne
     rw [if_neg (by rw [hne]; decide)] at hr
     cases hr
     refine yt ?_; refine ws ?_; refine wt fun _ _ => ?_; refine ws ?_
     refine eAs ⟨⟨6, [], 0, (i : Int)⟩, Int.ofNat 0, ?_, fun he => ?_, dp⟩
     ·show _ = DV.t [_, _, DV.i .i64 N.2.1]
      rw [hne]; rfl
     ·have he : N.2.1 = 0 := he
      rw [hne] at he
      cases he
    ·have e3' : ¬ 24 < N.2.2 := by simp at e3; omega
     rw [if_neg e3'] at hne
     rw [if_pos hne] at hr
     refine yj ?_
     unfold bFy aWu
     have hdc : s.drop (i + 1 + N.2.2) = (s.drop (i + 1)).drop N.2.2 := by rw [List.drop_drop]
     rw [← hdc] at hr
     cases e4 : dP (s.drop (i + 1 + N.2.2)) with
     | true =>
      rw [e4, if_pos rfl] at hr
      obtain ⟨r', hr', hr⟩ := aT hr
      cases hr
      refine (bKe (p0 := (i : Int)) hs rfl (by first | assumption | exact bV _ | (repeat (first | exact aX | refine aU (by first | rfl | assumption | exact Fz.one (by assumption)) ?_))) (i + 1) f 0 (i + 1 + N.2.2) _ _ r' S3 (by omega) (by omega) e4 (by rw [← hr', List.drop_drop, Nat.add_assoc (i + 1)])).mono ?_
      rintro v h' ⟨t, en, a1, a2, a3⟩
      refine ⟨t, en, a1, fun he => ?_, a3⟩
      obtain ⟨c1, c2⟩ := a2 he
      refine ⟨?_, ?_⟩
      ·rw [c1]
       show (⟨6, _, 0, (i : Int)⟩ : Tok) = ⟨6, r'.1, 0, (i : Int)⟩
       have := k2 he
       have this : r'.1 = _ := this
       rw [this, List.drop_take]
       congr 2
       show i + 1 + N.2.2 + 1 + r'.2.2 - (i + 1) = r'.2.2 + (N.2.2 + 1)
       omega
      ·rw [c2]
       show ((i + 1 + N.2.2 + 1 + r'.2.2 : Nat) : Int) = ((i + (r'.2.2 + (N.2.2 + 1) + 1) : Nat) : Int)
       omega
     | false =>
      rw [e4] at hr
      simp only [Bool.false_eq_true, if_false, aZ] at hr
      subst hr
      refine eAw 0 (ll := fun n m => kI (aI n) n m (.s s) (.p b1 0) (.p b2 0) (.i .i64 ((i + 1 : Nat) : Int)) (.i .i64 ((i + 1 + N.2.2 : Nat) : Int)) h3) (bb := fun n m => pV (aI n) n (kI (aI n) n m) (.s s) (.p b1 0) (.p b2 0) (.i .i64 ((i + 1 : Nat) : Int)) (.i .i64 ((i + 1 + N.2.2 : Nat) : Int)) h3) (fun _ _ => rfl) ?_
      unfold pV
      refine eAr (xP s hs _ (by omega) h3) ?_
      rintro _ _ ⟨rfl, hh⟩
      rw [hh]
      clear hh
      rw [e4]
      refine yj ?_
      refine (aPw (p0 := (i : Int)) S3 rfl (by first | assumption | exact bV _ | (repeat (first | exact aX | refine aU (by first | rfl | assumption | exact Fz.one (by assumption)) ?_))) (i + 1) (i + 1 + N.2.2) (by omega) (by omega)).mono ?_
      rintro v h' ⟨rfl, S'⟩
      refine ⟨_, _, rfl, fun _ => ⟨?_, ?_⟩, S'⟩
      ·show (⟨6, _, 0, (i : Int)⟩ : Tok) = ⟨6, N.1, 0, (i : Int)⟩
       have := k2 rfl
       have this : N.1 = _ := this
       rw [this, List.drop_take]
       congr 2
       show i + 1 + N.2.2 - (i + 1) = N.2.2
       omega
      ·show ((i + 1 + N.2.2 : Nat) : Int) = ((i + (N.2.2 + 1) : Nat) : Int)
       omega
 refine eBa (fun e1 => ?_) (fun e1 => ?_)
 ·have e1' : i + 1 < s.length := by omega
  have hn0 : nx (s.drop (i + 1)) 0 = s[i + 1] := by rw [List.drop_eq_getElem_cons e1']; rfl
  refine zt (wm (zt (wm (zt ?_))))
  refine Ev.op (iK (c := s[i + 1]) (by simp [e1']) _) ?_
  refine zt ?_
  refine eAv (fun e2 => ?_) (fun e2 => ?_)
  ·have e2' : nx (s.drop (i + 1)) 0 = 40 := by rw [hn0]; simp at e2; omega
   rw [if_pos e2'] at hm
   cases hm
   refine ap (yt (wf ?_)); refine wu fun _ _ => ?_; refine ws ?_
   refine eAx ?_
   rw [eG 1 (by omega)]
   refine wt fun _ _ => ?_; refine ws ?_
   refine eAs ⟨⟨7, [], 0, (i : Int)⟩, _, rfl, fun _ => ⟨rfl, rfl⟩, dp⟩
  ·have G := go (by rw [hn0]; simp at e2; omega)
   exact G
 ·have G := go (by rw [List.drop_eq_nil_of_le (by omega)]; simp [nx])
  exact G
end
end Go.Dd

namespace Go.Dd
theorem cXs : ∀ (f : Nat) (out u : List Nat), u.length < f → ∃ res, qR f out u = some res ∧ res.2.2 ≤ u.length ∧ (res.2.1 = 0 → 1 ≤ res.2.2 ∧ res.1.length ≤ out.length + u.length)
 | 0, out, u, h => by omega
 | f + 1, out, u, h => by
  have hl := oR dM u
  unfold qR
  by_cases h1 : (u.takeWhile dM).length = u.length
  ·rw [if_pos h1]
   exact ⟨_, rfl, Nat.le_refl _, fun e => by cases e⟩
  ·rw [if_neg h1]
   by_cases h2 : nx u ((u.takeWhile dM).length + 1) = 39
   ·rw [if_pos h2]
    have h3 : (u.takeWhile dM).length + 1 < u.length := by
     apply Decidable.byContradiction
     intro hn
     rw [nx, List.getD, List.getElem?_eq_none (by omega)] at h2
     cases h2
    obtain ⟨res, a1, a2, a3⟩ := cXs f (out ++ u.takeWhile dM ++ [39]) (u.drop ((u.takeWhile dM).length + 2)) (by simp; omega)
    rw [a1]
    simp at a2
    refine ⟨_, rfl, by show res.2.2 + _ ≤ _; omega, fun e => ?_⟩
    obtain ⟨b1, b2⟩ := a3 e
    simp at b2
    refine ⟨by show 1 ≤ res.2.2 + _; omega, ?_⟩
    show res.1.length ≤ _
    omega
   ·rw [if_neg h2]
    refine ⟨_, rfl, by show _ + 1 ≤ _; omega, fun _ => ⟨by show 1 ≤ _ + 1; omega, ?_⟩⟩
    show (out ++ u.takeWhile dM).length ≤ _
    simp
    omega
theorem cYq : ∀ (f : Nat) (out u : List Nat), u.length < f → ∃ res, aDr f out u = some res
 | 0, out, u, h => by omega
 | f + 1, out, u, h => by
  unfold aDr
  split
  ·split
   ·rename_i h1 h2
    split
    ·have hc := jU h2
     simp at hc
     obtain ⟨res, a1⟩ := cYq f (out ++ ((bH u).1 ++ [58])) (u.drop ((bH u).2.2 + 1)) (by simp; omega)
     rw [a1]
     exact ⟨_, rfl⟩
    ·exact ⟨_, rfl⟩
   ·exact ⟨_, rfl⟩
  ·exact ⟨_, rfl⟩
theorem bPn {u : List Nat} (h : bB (nx u 0) = true) : 1 ≤ (bH u).2.2 := by
 rw [mN]
 cases u with
 | nil => simp [nx, bB] at h
 | cons c u =>
  have : fX c = true := by
   have : bB c = true := h
   simp [fX, this]
  simp [this]
theorem cHd {f : Nat} {u : List Nat} (h : u.length < f) : ∃ res, kT f u = some res := by
 unfold kT
 split
 ·split
  ·split
   ·split
    ·obtain ⟨res, a1⟩ := cYq f ((bH u).1 ++ [58]) (u.drop ((bH u).2.2 + 1)) (by simp; omega)
     rw [a1]
     exact ⟨_, rfl⟩
    ·exact ⟨_, rfl⟩
   ·exact ⟨_, rfl⟩
  ·exact ⟨_, rfl⟩
 ·exact ⟨_, rfl⟩
theorem aXb {l : List Nat} {m : Nat} (hm : 1 ≤ m) {u : List Nat} (hu : u ≠ []) (h : dK l (nx u 0) = true) : 1 ≤ dO (dK l) m u := by
 obtain ⟨m, rfl⟩ : ∃ k, m = k + 1 := ⟨m - 1, by omega⟩
 cases u with
 | nil => exact absurd rfl hu
 | cons c u =>
  have : dK l c = true := h
  simp [dO, this]
theorem bRy {f : Nat} {u : List Nat} (hu : u ≠ []) (h : u.length < f) : ∃ res, lA f u = some res ∧ (res.2.2.2.1 = 0 → 1 ≤ res.2.2.2.2 ∧ res.2.2.2.2 ≤ u.length ∧ res.1 ≠ 0 ∧ res.2.1.length ≤ u.length) := by
 have hn := gB u
 have hf := mT u
 have hpos : 1 ≤ u.length := by cases u with
  | nil => exact absurd rfl hu
  | cons => simp
 unfold lA
 by_cases h1 : bB (nx u 0) = true
 ·have hp := bPn h1
  rw [if_pos h1]
  by_cases h2 : (bH u).2.1 = 0
  ·rw [if_pos h2]
   by_cases h3 : dP (u.drop (bH u).2.2) = true
   ·rw [if_pos h3]
    have hc := jU h3
    simp at hc
    refine ⟨_, rfl, fun _ => ⟨by show 1 ≤ _ + 1; omega, by show _ + 1 ≤ _; omega, by show (2 : Int) ≠ 0; decide, ?_⟩⟩
    show ((bH u).1 ++ [58]).length ≤ _
    simp; omega
   ·rw [if_neg h3]
    exact ⟨_, rfl, fun _ => ⟨hp, hn, by show (1 : Int) ≠ 0; decide, by show (bH u).1.length ≤ _; omega⟩⟩
  ·rw [if_neg h2]
   exact ⟨_, rfl, fun e => absurd e h2⟩
 ·rw [if_neg h1]
  by_cases h2 : bQ (nx u 0) = true
  ·rw [if_pos h2]
   have hl := oR bQ u
   refine ⟨_, rfl, fun _ => ⟨?_, hl, by show (4 : Int) ≠ 0; decide, by simp⟩⟩
   show 1 ≤ (u.takeWhile bQ).length
   cases u with
   | nil => exact absurd rfl hu
   | cons c u =>
    have : bQ c = true := h2
    simp [this]
  ·rw [if_neg h2]
   by_cases h3 : nx u 0 = 39
   ·rw [if_pos h3]
    obtain ⟨res, a1, a2, a3⟩ := cXs f [] (u.drop 1) (by simp; omega)
    rw [a1]
    simp at a2
    refine ⟨_, rfl, fun e => ?_⟩
    obtain ⟨b1, b2⟩ := a3 e
    simp at b2
    exact ⟨by show 1 ≤ res.2.2 + 1; omega, by show res.2.2 + 1 ≤ _; omega, by show (5 : Int) ≠ 0; decide, by show res.1.length ≤ _; omega⟩
   ·rw [if_neg h3]
    by_cases h4 : nx u 0 = 35
    ·rw [if_pos h4]
     by_cases h5 : nx u 1 = 40
     ·rw [if_pos h5]
      have : 1 < u.length := by
       apply Decidable.byContradiction
       intro hn
       rw [nx, List.getD, List.getElem?_eq_none (by omega)] at h5
       cases h5
      exact ⟨_, rfl, fun _ => ⟨by show 1 ≤ 2; omega, by show 2 ≤ _; omega, by show (7 : Int) ≠ 0; decide, by simp⟩⟩
     ·rw [if_neg h5]
      obtain ⟨res, a1⟩ := cHd (f := f) (u := u.drop 1) (by simp; omega)
      obtain ⟨b1, b2⟩ := tT a1
      rw [a1]
      simp at b1
      refine ⟨_, rfl, fun e => ⟨by show 1 ≤ res.2.2 + 1; omega, by show res.2.2 + 1 ≤ _; omega, by show (6 : Int) ≠ 0; decide, ?_⟩⟩
      show res.1.length ≤ _
      rw [b2 e]
      simp; omega
    ·rw [if_neg h4]
     by_cases h5 : nx u 0 = 58 ∧ nx u 1 = 61
     ·rw [if_pos h5]
      have : 1 < u.length := by
       apply Decidable.byContradiction
       intro hn
       have := h5.2
       rw [nx, List.getD, List.getElem?_eq_none (by omega)] at this
       cases this
      exact ⟨_, rfl, fun _ => ⟨by show 1 ≤ 2; omega, by show 2 ≤ _; omega, by show (9 : Int) ≠ 0; decide, by simp⟩⟩
     ·rw [if_neg h5]
      by_cases h6 : nx u 0 = 58 ∧ bB (nx u 1) = true
      ·rw [if_pos h6]
       have n1 := gB (u.drop 1)
       have n2 := mT (u.drop 1)
       rw [List.length_drop] at n1
       exact ⟨_, rfl, fun _ => ⟨by show 1 ≤ _ + 1; omega, by show _ + 1 ≤ _; omega, by show (8 : Int) ≠ 0; decide, by show (bH (u.drop 1)).1.length ≤ _; omega⟩⟩
      ·rw [if_neg h6]
       by_cases h7 : dK signs (nx u 0) = true
       ·rw [if_pos h7]
        have r1 := aXb (m := 2) (by omega) hu h7
        have r2 := oM (dK signs) 2 u
        refine ⟨_, rfl, fun _ => ⟨r1, r2, by show (3 : Int) ≠ 0; decide, ?_⟩⟩
        show (u.take _).length ≤ _
        simp; omega
       ·rw [if_neg h7]
        by_cases h8 : dK marks (nx u 0) = true
        ·rw [if_pos h8]
         have r1 := aXb (m := 1) (by omega) hu h8
         have r2 := oM (dK marks) 1 u
         refine ⟨_, rfl, fun _ => ⟨r1, r2, by show (10 : Int) ≠ 0; decide, ?_⟩⟩
         show (u.take _).length ≤ _
         simp; omega
        ·rw [if_neg h8]
         exact ⟨_, rfl, fun e => (by cases e)⟩
theorem bZe {g : Nat} {s : List Nat} (hg : s.length < g) (hs : s.length ≤ 10000) : ∀ (f i : Nat) (out : List Tok), i ≤ s.length → s.length < f + i → ∃ res, nB g s f i out = some res ∧
 (res.2.2 = 0 → ∃ l e, res.1 = out ++ l ++ [e] ∧ e.kind = 0 ∧ e.text = [] ∧ (∀ t ∈ l, t.kind ≠ 0 ∧ t.text.length ≤ 10000) ∧ l.length + i ≤ s.length)
 | 0, i, out, hi, hf => by omega
 | f + 1, i, out, hi, hf => by
  unfold nB
  have hle := oR (dK bP) (s.drop i)
  have hdl : (s.drop i).length = s.length - i := by simp
  generalize hw : ((s.drop i).takeWhile (dK bP)).length = w at hle
  by_cases h1 : s.length ≤ i + w
  ·rw [if_pos h1]
   exact ⟨_, rfl, fun _ => ⟨[], _, by simp; rfl, rfl, rfl, by simp, by simp; omega⟩⟩
  ·rw [if_neg h1]
   by_cases h2 : nx s (i + w) = 34
   ·rw [if_pos h2]
    by_cases h3 : dZ 34 (s.drop (i + w + 1)) 0 < 0
    ·rw [if_pos h3]
     exact ⟨_, rfl, fun e => (by cases e)⟩
    ·rw [if_neg h3]
     obtain ⟨k, k1, k2⟩ := oY 34 _ _ h3
     rw [k2]
     simp at k1
     simp only [Nat.zero_add, Int.toNat_natCast]
     obtain ⟨res, a1, a2⟩ := bZe hg hs f (i + w + k + 2) out (by omega) (by omega)
     refine ⟨res, a1, fun e => ?_⟩
     obtain ⟨l, e', b1, b2, b3, b4, b5⟩ := a2 e
     exact ⟨l, e', b1, b2, b3, b4, by omega⟩
   ·rw [if_neg h2]
    have hu : s.drop (i + w) ≠ [] := by
     intro h
     have := congrArg List.length h
     simp at this
     omega
    obtain ⟨rs, c1, c2⟩ := bRy (f := g) hu (by simp; omega)
    rw [c1]
    simp only [Option.bind_some]
    by_cases h4 : rs.2.2.2.1 = 0
    ·rw [if_pos h4]
     obtain ⟨d1, d2, d3, d4⟩ := c2 h4
     rw [if_neg (by omega)]
     simp at d2 d4
     obtain ⟨res, a1, a2⟩ := bZe hg hs f (i + w + rs.2.2.2.2) (out ++ [⟨rs.1, rs.2.1, rs.2.2.1, ((i + w : Nat) : Int)⟩]) (by omega) (by omega)
     refine ⟨res, a1, fun e => ?_⟩
     obtain ⟨l, e', b1, b2, b3, b4, b5⟩ := a2 e
     refine ⟨⟨rs.1, rs.2.1, rs.2.2.1, ((i + w : Nat) : Int)⟩ :: l, e', by rw [b1]; simp, b2, b3, ?_, by simp; omega⟩
     intro t ht
     rcases List.mem_cons.1 ht with rfl | ht
     ·exact ⟨d3, by show rs.2.1.length ≤ _; omega⟩
     ·exact b4 t ht
    ·rw [if_neg h4]
     exact ⟨_, rfl, fun e => absurd e h4⟩
theorem dTx {s : List Nat} (hs : s.length ≤ 2000) : ∃ res, qN 2001 2001 s = some res ∧ (res.2.2 = 0 → Good res.1 ∧ res.1.length ≤ 2001) := by
 unfold qN
 rw [if_neg (by omega)]
 obtain ⟨res, a1, a2⟩ := bZe (g := 2001) (s := s) (by omega) (by omega) 2001 0 [] (by omega) (by omega)
 refine ⟨res, a1, fun e => ?_⟩
 obtain ⟨l, e', b1, b2, b3, b4, b5⟩ := a2 e
 rw [b1]
 simp only [List.nil_append]
 refine ⟨⟨l, e', rfl, b2, fun t ht => (b4 t ht).1, fun t ht => ?_⟩, by simp; omega⟩
 rcases List.mem_append.1 ht with ht | ht
 ·exact (b4 t ht).2
 ·simp at ht
  subst ht
  rw [b3]; simp
end Go.Dd

namespace Go.Dd
open Go.Proofs
theorem dQo (u : List Nat) : vS u = 2 ↔ ∃ c v, u = c :: v ∧ bQ c = true := by
 cases u with
 | nil => simp [vS]
 | cons c u =>
  have := aOt c
  constructor
  ·intro h
   exact ⟨c, u, rfl, this.1 (by simp only [vS] at h; omega)⟩
  ·rintro ⟨c', v, e, h⟩
   cases e
   simp only [vS]
   rw [this.2 h]; rfl
theorem aTu (n : Int) (c : Nat) (w : List Nat) (h0 : 0 ≤ n) (hn : n ≤ 1152921504606846976) (hc : bQ c = true) :
 mX n (c :: w) = if 1152921504606846976 < 10 * n + ((c : Int) - 48) then (0, 2) else mX (10 * n + ((c : Int) - 48)) w := by
 simp [bQ] at hc
 have e0 : mX n (c :: w) = if 115292150460684697 < n then (0, 2) else if 1152921504606846976 < n * 10 + ((c : Int) - 48) then (0, 2) else mX (n * 10 + ((c : Int) - 48)) w := rfl
 rw [e0]
 have e : n * 10 + ((c : Int) - 48) = 10 * n + ((c : Int) - 48) := by omega
 rw [e]
 by_cases h1 : (115292150460684697 : Int) < n
 ·rw [if_pos h1, if_pos (by omega)]
 ·rw [if_neg h1]
section
variable {I : Im} {A Q L : Ls} {s : List Nat} {b4 b7 : Pos} {z : List DV}
theorem bLa (hs : s.length ≤ bG) (z1 : z.length = 4) (z2 : ∀ v ∈ z, v.one = true) {p0 : Int} : ∀ (u : List Nat) (j i : Nat) (h : Hp) (x : Int), s.drop i = u → i ≤ s.length → 0 ≤ x → x ≤ 1152921504606846976 →
 Sy I A Q ((b7, some (.row .ex [.i .i64 4, .s [], .i .i64 x, .i .i64 p0])) :: (b4, some (.row .ex z)) :: L) h →
 Ev (fun n => kO (aI n) n (n - j) (.s s) (.i .i64 (i : Int)) (.p b4 0) (.p b7 0) h)
  (fun v h' => ∃ t en, v = .t [.a (tc t), .i .i64 en, .i .i64 (mX x (u.takeWhile bQ)).2] ∧ ((mX x (u.takeWhile bQ)).2 = 0 → t = ⟨4, [], (mX x (u.takeWhile bQ)).1, p0⟩ ∧ en = ((i + (u.takeWhile bQ).length : Nat) : Int)) ∧ Sy I A Q L h') := by
 intro u
 have hs' := hs
 simp only [bG] at hs'
 induction u with
 | nil =>
  intro j i h x hu hi h0 h1 S
  refine eAw j (ll := fun n m => kO (aI n) n m (.s s) (.i .i64 (i : Int)) (.p b4 0) (.p b7 0) h) (bb := fun n m => pS (aI n) n (kO (aI n) n m) (.s s) (.i .i64 (i : Int)) (.p b4 0) (.p b7 0) h) (fun _ _ => rfl) ?_
  unfold pS fG
  refine eAr (mK s i h) ?_
  rintro _ _ ⟨rfl, hh⟩
  rw [hh, hu]
  clear hh
  refine eAv (fun e1 => absurd e1 (by decide)) (fun e1 => ?_)
  refine yj ?_; refine ws ?_; refine wt fun _ _ => ?_; refine ws ?_
  exact eAs ⟨⟨4, [], x, p0⟩, _, rfl, fun _ => ⟨rfl, rfl⟩, dp⟩
 | cons c u ih =>
  intro j i h x hu hi h0 h1 S
  have hlt : i < s.length := by
   have := congrArg List.length hu
   simp at this
   omega
  have hu' : s.drop (i + 1) = u := by rw [← List.drop_drop, hu]; rfl
  have hc : s[i] = c := by
   rw [List.drop_eq_getElem_cons hlt] at hu
   exact (List.cons.inj hu).1
  refine eAw j (ll := fun n m => kO (aI n) n m (.s s) (.i .i64 (i : Int)) (.p b4 0) (.p b7 0) h) (bb := fun n m => pS (aI n) n (kO (aI n) n m) (.s s) (.i .i64 (i : Int)) (.p b4 0) (.p b7 0) h) (fun _ _ => rfl) ?_
  unfold pS fG
  refine eAr (mK s i h) ?_
  rintro _ _ ⟨rfl, hh⟩
  rw [hh, hu]
  clear hh
  refine eAv (fun e1 => ?_) (fun e1 => ?_)
  ·obtain ⟨c', v', e, hd⟩ := (dQo _).1 e1
   cases e
   have hd' := hd
   simp [bQ] at hd'
   have tw : (c :: u).takeWhile bQ = c :: u.takeWhile bQ := by simp [hd]
   rw [tw, aTu x c _ h0 h1 hd]
   refine yt ?_
   refine Ev.op (iK (c := c) (by simp [hlt, hc]) _) ?_
   refine eBq ?_
   have a2 : IntKind.u8.wrap (Int.ofNat c - Int.ofNat 48) = (c : Int) - 48 := by
    show IntKind.u8.wrap ((c : Int) - 48) = _
    unfold IntKind.wrap
    simp [IntKind.bits, IntKind.signed, IntKind.min, IntKind.max]
    omega
   have a3 : ∀ h, lB .i64 (.i .u8 ((c : Int) - 48)) h = some (.i .i64 ((c : Int) - 48), h) := fun h => by
    show some (DV.i .i64 (IntKind.i64.wrap ((c : Int) - 48)), h) = _
    rw [dW _ (by omega) (by omega)]
   rw [a2]
   refine Ev.op (a3 _) ?_
   refine wf ?_; refine wl ?_
   refine eBq ?_
   rw [dW (Int.ofNat 1152921504606846976 - ((c : Int) - 48)) (by show -9223372036854775808 ≤ (1152921504606846976 : Int) - ((c : Int) - 48); omega) (by show (1152921504606846976 : Int) - ((c : Int) - 48) ≤ _; omega)]
   have a4 : ∀ h, aH .quo (.i .i64 (Int.ofNat 1152921504606846976 - ((c : Int) - 48))) (.i .i64 (Int.ofNat 10)) h = some (.i .i64 (((1152921504606846976 : Int) - ((c : Int) - 48)) / 10), h) := fun h => by
    refine gF .quo _ ?_
    show (if Int.ofNat 10 = 0 then none else some (DV.i .i64 (IntKind.i64.wrap ((Int.ofNat 1152921504606846976 - ((c : Int) - 48)).tdiv (Int.ofNat 10))))) = _
    rw [if_neg (by decide)]
    have e5 : (Int.ofNat 1152921504606846976 - ((c : Int) - 48)).tdiv (Int.ofNat 10) = ((1152921504606846976 : Int) - ((c : Int) - 48)) / 10 := by
     show ((1152921504606846976 : Int) - ((c : Int) - 48)).tdiv 10 = _
     rw [Int.tdiv_eq_ediv_of_nonneg (by omega)]
    rw [e5, dW _ (by omega) (by omega)]
   refine Ev.op (a4 _) ?_
   refine eBj (fun e2 => ?_) (fun e2 => ?_)
   ·rw [if_pos (by omega)]
    refine yt ?_; refine ws ?_; refine wt fun _ _ => ?_; refine ws ?_
    exact eAs ⟨⟨4, [], x, p0⟩, _, rfl, fun he => (by cases he), dp⟩
   ·rw [if_neg (by omega)]
    refine yj (wf ?_); refine wl ?_
    refine eDr ?_
    rw [dW (Int.ofNat 10 * x) (by show -9223372036854775808 ≤ 10 * x; omega) (by show 10 * x ≤ _; omega)]
    refine eAx ?_
    rw [dW (Int.ofNat 10 * x + ((c : Int) - 48)) (by show -9223372036854775808 ≤ 10 * x + ((c : Int) - 48); omega) (by show 10 * x + ((c : Int) - 48) ≤ _; omega)]
    refine wf ?_; refine wu fun _ _ => ?_
    refine eAx ?_
    rw [eG 1 (by omega)]
    refine (ih (j + 1) (i + 1) _ (10 * x + ((c : Int) - 48)) hu' (by omega) (by omega) (by omega) (by assumption)).mono ?_
    rintro v h' ⟨t, en, b1, b2, b3⟩
    refine ⟨t, en, b1, fun he => ?_, b3⟩
    obtain ⟨d1, d2⟩ := b2 he
    refine ⟨d1, ?_⟩
    rw [d2]
    simp only [List.length_cons]
    omega
  ·have hd : bQ c = false := by
    cases e : bQ c with
    | false => rfl
    | true => exact absurd ((dQo _).2 ⟨c, u, rfl, e⟩) e1
   have tw : (c :: u).takeWhile bQ = [] := by simp [hd]
   rw [tw]
   refine yj ?_; refine ws ?_; refine wt fun _ _ => ?_; refine ws ?_
   exact eAs ⟨⟨4, [], x, p0⟩, _, rfl, fun _ => ⟨rfl, rfl⟩, dp⟩
theorem cHx {h : Hp} (S : Sy I A Q L h) (hs : s.length ≤ bG) {i : Nat} (hi : i < s.length) (f : Nat) (res : Int × List Nat × Int × Int × Nat) (hm : lA f (s.drop i) = some res) :
 Ev (fun n => aI n 67 [.s s, .i .i64 (i : Int)] h) (aEw I A Q L res i) := by
 refine Ev.enter (fun n => cPe n _ _ h) ?_
 unfold lA at hm
 unfold s67 bId
 refine wa fun _ _ _ => ?_; refine wd ?_; refine wa fun _ _ _ => ?_; refine wt fun _ _ => ?_
 rename_i b4 h4 S4 b7 h7 S7 h0 S0
 unfold aXr
 have hd : (s.drop i).length = s.length - i := by simp
 have hs' := hs
 simp only [bG] at hs'
 have hcd : s.drop i = s[i] :: s.drop (i + 1) := List.drop_eq_getElem_cons hi
 have hn0 : nx (s.drop i) 0 = s[i] := by rw [hcd]; rfl
 have hat : vS (s.drop i) = (gN s[i] : Int) := by rw [hcd]; rfl
 have hdd1 : s.drop (i + 1) = (s.drop i).drop 1 := by rw [List.drop_drop]
 have hidx : s[i]? = some s[i] := by simp [hi]
 refine eAr (mK s i h0) ?_
 rintro _ _ ⟨rfl, hh⟩
 rw [hh, hat]
 clear hh
 unfold bCt
 refine eAv (fun e1 => ?_) (fun e1 => ?_)
 ·have e1' : bB s[i] = true := (aSr _).1 (by simp at e1; omega)
  rw [if_pos (by rw [hn0]; exact e1')] at hm
  unfold zZ
  refine yt ?_
  unfold bUs
  refine eAr (xB s hs i (by omega) _) ?_
  rintro _ _ ⟨rfl, hh⟩
  rw [hh]
  clear hh
  have hnl := gB (s.drop i)
  have hne := qI (s.drop i)
  have hnt := kX (u := s.drop i)
  have hnl2 := mN (s.drop i)
  rw [← hnl2] at hne ⊢
  generalize hN : bH (s.drop i) = N at hm hnl hne hnt ⊢
  unfold bTl
  refine eBq ?_
  rw [show ((i + N.2.2 : Nat) : Int) - (i : Int) = ((N.2.2 : Nat) : Int) by omega, oX _ (by omega)]
  refine eBj (fun e3 => ?_) (fun e3 => ?_)
  ·have e3' : 24 < N.2.2 := by simp at e3; omega
   rw [if_pos e3'] at hne
   rw [if_neg (by rw [hne]; decide)] at hm
   cases hm
   refine yt ?_; refine ws ?_; refine wt fun _ _ => ?_; refine ws ?_
   refine eAs ⟨⟨0, [], 0, (i : Int)⟩, Int.ofNat 0, ?_, fun he => ?_, dp⟩
   ·show _ = DV.t [_, _, DV.i .i64 N.2.1]
    rw [hne]; rfl
   ·have he : N.2.1 = 0 := he
    rw [hne] at he
    cases he
  ·have e3' : ¬ 24 < N.2.2 := by simp at e3; omega
   rw [if_neg e3'] at hne
   rw [if_pos hne] at hm
   refine yj ?_
   unfold cAl
   refine wf ?_; refine wu fun _ _ => ?_
   unfold bZc
   refine eAr (xP s hs (i + N.2.2) (by omega) _) ?_
   rintro _ _ ⟨rfl, hh⟩
   rw [hh]
   clear hh
   have hdd : s.drop (i + N.2.2) = (s.drop i).drop N.2.2 := by rw [List.drop_drop]
   rw [← hdd] at hm
   cases e4 : dP (s.drop (i + N.2.2)) with
   | true =>
    rw [e4, if_pos rfl] at hm
    cases hm
    have hcl := jU e4
    have hcl' : i + N.2.2 + 1 ≤ s.length := by simp at hcl; omega
    refine yt (wf ?_); refine wu fun _ _ => ?_
    refine eAx ?_
    rw [eG 1 (by omega)]
    unfold aNj
    refine Ev.op (wT (by omega) hcl' _) ?_
    refine wf ?_; refine wu fun _ _ => ?_; refine ws ?_; refine wt fun _ _ => ?_; refine ws ?_
    refine eAs ⟨⟨2, (s.take (i + N.2.2 + 1)).drop i, 0, (i : Int)⟩, _, rfl, fun _ => ⟨?_, ?_⟩, dp⟩
    ·show (⟨2, _, 0, (i : Int)⟩ : Tok) = ⟨2, N.1 ++ [58], 0, (i : Int)⟩
     rw [List.drop_take, show i + N.2.2 + 1 - i = N.2.2 + 1 by omega, sK (by rw [← hdd]; exact e4), ← hnt hne]
    ·show ((i + N.2.2 + 1 : Nat) : Int) = ((i + (N.2.2 + 1) : Nat) : Int)
     omega
   | false =>
    rw [e4] at hm
    simp only [Bool.false_eq_true, if_false, aZ] at hm
    subst hm
    refine yj ?_
    unfold aNj
    refine Ev.op (wT (by omega) (by omega) _) ?_
    refine wf ?_; refine wu fun _ _ => ?_; refine ws ?_; refine wt fun _ _ => ?_; refine ws ?_
    refine eAs ⟨⟨1, (s.take (i + N.2.2)).drop i, 0, (i : Int)⟩, _, rfl, fun _ => ⟨?_, rfl⟩, dp⟩
    show (⟨1, _, 0, (i : Int)⟩ : Tok) = ⟨1, N.1, 0, (i : Int)⟩
    rw [List.drop_take, show i + N.2.2 - i = N.2.2 by omega, ← hnt hne]
 have e1' : bB s[i] = false := by
  cases e : bB s[i] with
  | false => rfl
  | true => exact absurd (by rw [(aSr _).2 e]; rfl) e1
 rw [if_neg (by rw [hn0, e1']; simp)] at hm
 unfold zZ
 refine yj ?_
 unfold aFa
 refine eAv (fun e2 => ?_) (fun e2 => ?_)
 ·have e2' : bQ s[i] = true := (aOt _).1 (by simp at e2; omega)
  rw [if_pos (by rw [hn0]; exact e2')] at hm
  cases hm
  unfold aAn
  refine yt ?_
  unfold aVs
  refine wf ?_; refine wu fun _ _ => ?_
  unfold aIz aWi
  rename_i hq Sq
  refine (bLa (b4 := b4) (b7 := b7) (p0 := (i : Int)) (z := [.i .i64 (Int.ofNat 0), .s [], .i .i64 (Int.ofNat 0), .i .i64 (Int.ofNat 0)]) hs rfl (by first | assumption | exact bV _ | (repeat (first | exact aX | refine aU (by first | rfl | assumption | exact Fz.one (by assumption)) ?_))) (s.drop i) 0 i hq 0 rfl (by omega) (by omega) (by omega) Sq).mono ?_
  rintro v h' ⟨t, en, a1, a2, a3⟩
  exact ⟨t, en, a1, a2, a3⟩
 have e2' : bQ s[i] = false := by
  cases e : bQ s[i] with
  | false => rfl
  | true => exact absurd (by rw [(aOt _).2 e]; rfl) e2
 rw [if_neg (by rw [hn0, e2']; simp)] at hm
 unfold aAn
 refine yj ?_
 unfold lW
 have hsg : ∀ c, dK signs c = true → ¬ c = 39 ∧ ¬ c = 35 ∧ ¬ c = 58 := by
  intro c h
  have h2 : c = 43 ∨ c = 45 ∨ c = 42 ∨ c = 47 ∨ c = 60 ∨ c = 62 ∨ c = 61 ∨ c = 126 ∨ c = 44 ∨ c = 64 ∨ c = 38 ∨ c = 37 := by simpa [aG, dK, signs] using h
  omega
 have hmk : ∀ c, dK marks c = true → ¬ c = 39 ∧ ¬ c = 35 ∧ ¬ c = 58 ∧ dK signs c = false := by
  intro c h
  have h2 : c = 94 ∨ c = 46 ∨ c = 59 ∨ c = 40 ∨ c = 41 ∨ c = 91 ∨ c = 93 ∨ c = 124 := by simpa [aG, dK, marks] using h
  refine ⟨by omega, by omega, by omega, ?_⟩
  rcases h2 with rfl | rfl | rfl | rfl | rfl | rfl | rfl | rfl <;> rfl
 refine eAv (fun e3 => ?_) (fun e3 => ?_)
 ·have e3' : dK signs s[i] = true := (aZx _).1 (by simp at e3; omega)
  obtain ⟨q1, q2, q3⟩ := hsg _ e3'
  rw [hn0, if_neg q1, if_neg q2, if_neg (fun q => q3 q.1), if_neg (fun q => q3 q.1), if_pos e3'] at hm
  cases hm
  unfold bMi
  refine yt ?_
  unfold cXc
  refine wf ?_; refine wu fun _ _ => ?_
  rename_i h5 S5
  unfold cYd
  refine eAx ?_
  rw [eG 1 (by omega)]
  unfold bTa
  refine eAr (mK s (i + 1) _) ?_
  rintro _ _ ⟨rfl, hh⟩
  rw [hh]
  clear hh
  have g3 := (aFm (s.drop i)).1 (by rw [hat, (aZx _).2 e3']; rfl)
  have hl0 := oM (dK signs) 2 (s.drop i)
  have fin : ∀ e, e = i + dO (dK signs) 2 (s.drop i) → Ev (fun n => aNi (aI n) n (.s s) (.i .i64 (i : Int)) (.p b4 0) (.p b7 0) (.i .i64 (e : Int)) h5) (aEw I A Q L (3, (s.drop i).take (dO (dK signs) 2 (s.drop i)), 0, 0, dO (dK signs) 2 (s.drop i)) i) := by
   intro e he
   unfold aNi
   refine Ev.op (wT (by omega) (by omega) _) ?_
   refine wf ?_; refine wu fun _ _ => ?_; refine ws ?_; refine wt fun _ _ => ?_; refine ws ?_
   refine eAs ⟨⟨3, (s.take e).drop i, 0, (i : Int)⟩, (e : Int), rfl, fun _ => ⟨?_, ?_⟩, dp⟩
   ·show (⟨3, (s.take e).drop i, 0, (i : Int)⟩ : Tok) = ⟨3, (s.drop i).take _, 0, (i : Int)⟩
    rw [List.drop_take, he, Nat.add_sub_cancel_left]
   ·show (e : Int) = ((i + _ : Nat) : Int)
    rw [he]
  refine eAv (fun e4 => ?_) (fun e4 => ?_)
  ·rw [if_pos (show vS ((s.drop i).drop 1) = 3 by rw [← hdd1]; exact e4)] at g3
   refine yt ?_
   refine eAx ?_
   rw [eG 1 (by omega)]
   exact fin (i + 1 + 1) (by omega)
  ·rw [if_neg (show ¬ vS ((s.drop i).drop 1) = 3 by rw [← hdd1]; exact e4)] at g3
   refine yj ?_
   exact fin (i + 1) (by omega)
 have e3' : dK signs s[i] = false := by
  cases e : dK signs s[i] with
  | false => rfl
  | true => exact absurd (by rw [(aZx _).2 e]; rfl) e3
 unfold bMi
 refine yj ?_
 unfold cWl
 refine eAv (fun e4 => ?_) (fun e4 => ?_)
 ·have e4' : dK marks s[i] = true := (cYs _).1 (by simp at e4; omega)
  obtain ⟨q1, q2, q3, q4⟩ := hmk _ e4'
  rw [hn0, if_neg q1, if_neg q2, if_neg (fun q => q3 q.1), if_neg (fun q => q3 q.1), if_neg (by rw [q4]; simp), if_pos e4'] at hm
  cases hm
  have hr1 : dO (dK marks) 1 (s.drop i) = 1 := by rw [hcd]; simp [dO, e4']
  rw [hr1]
  refine yt (wf ?_); refine wu fun _ _ => ?_
  refine eAx ?_
  rw [eG 1 (by omega)]
  refine Ev.op (wT (by omega) (by omega) _) ?_
  refine wf ?_; refine wu fun _ _ => ?_; refine ws ?_
  refine eAx ?_
  rw [eG 1 (by omega)]
  refine wt fun _ _ => ?_; refine ws ?_
  refine eAs ⟨⟨10, (s.take (i + 1)).drop i, 0, (i : Int)⟩, _, rfl, fun _ => ⟨?_, rfl⟩, dp⟩
  show (⟨10, _, 0, (i : Int)⟩ : Tok) = ⟨10, (s.drop i).take 1, 0, (i : Int)⟩
  rw [List.drop_take, Nat.add_sub_cancel_left]
 have e4' : dK marks s[i] = false := by
  cases e : dK marks s[i] with
  | false => rfl
  | true => exact absurd (by rw [(cYs _).2 e]; rfl) e4
 refine yj ?_
 refine Ev.op (iK hidx _) ?_
 refine eAv (fun e5 => ?_) (fun e5 => ?_)
 ·have e5' : s[i] = 39 := by simp at e5; omega
  rw [if_pos (by rw [hn0]; exact e5')] at hm
  obtain ⟨r, hr, hm⟩ := aT hm
  cases hm
  refine yt (wf ?_); refine wu fun _ _ => ?_; refine ws ?_
  refine eAr (bVo (k0 := 5) (m0 := 0) (by assumption) hs hi f r (by rw [hdd1]; exact hr)) ?_
  rintro _ _ ⟨t, en, rfl, a2, S5⟩
  refine wx ?_; refine wx ?_; refine wx ?_; refine wt fun _ _ => ?_; refine ws ?_
  refine eAs ⟨t, en, rfl, fun he => ?_, dp⟩
  obtain ⟨d1, d2⟩ := a2 he
  refine ⟨d1, ?_⟩
  rw [d2]
  show ((i + 1 + r.2.2 : Nat) : Int) = ((i + (r.2.2 + 1) : Nat) : Int)
  omega
 rw [if_neg (by rw [hn0]; simp at e5; omega)] at hm
 refine yj ?_
 refine Ev.op (iK hidx _) ?_
 refine eAv (fun e6 => ?_) (fun e6 => ?_)
 ·have e6' : s[i] = 35 := by simp at e6; omega
  rw [if_pos (by rw [hn0]; exact e6')] at hm
  refine yt ?_; refine ws ?_
  refine eAr (cJu (by assumption) hs hi f res hm) ?_
  rintro _ _ ⟨t, en, rfl, a2, S5⟩
  refine wx ?_; refine wx ?_; refine wx ?_; refine wt fun _ _ => ?_; refine ws ?_
  exact eAs ⟨t, en, rfl, a2, dp⟩
 rw [if_neg (by rw [hn0]; simp at e6; omega)] at hm
 refine yj ?_
 refine Ev.op (iK hidx _) ?_
 have bad : ¬ (nx (s.drop i) 0 = 58 ∧ nx (s.drop i) 1 = 61) → ¬ (nx (s.drop i) 0 = 58 ∧ bB (nx (s.drop i) 1) = true) → res = (0, [], 0, 10, 0) := fun n1 n2 => by
  rw [if_neg n1, if_neg n2, if_neg (by rw [hn0, e3']; simp), if_neg (by rw [hn0, e4']; simp)] at hm
  cases hm
  rfl
 refine eAv (fun e7 => ?_) (fun e7 => ?_)
 ·have e7' : nx (s.drop i) 0 = 58 := by rw [hn0]; simp at e7; omega
  refine zt (wm (zt ?_))
  refine eAx ?_
  rw [eG 1 (by omega)]
  refine zt (wm (zt ?_))
  refine eBd ?_
  refine zt ?_
  have hn1 : nx (s.drop i) 1 = nx (s.drop (i + 1)) 0 := by simp [nx, List.getD, List.getElem?_drop]
  have rest : ¬ nx (s.drop i) 1 = 61 → Ev (fun n => bnd (bK (.s s) (.i .i64 (i : Int)) h0) fun v52 h52 =>
   bnd (aH .eql v52 (.i .u8 (Int.ofNat 58)) h52) fun v53 h53 =>
   bnd (gD v53 true (some (.s s, h53)) h53) fun v54 h54 =>
   bnd (gD v53 true (some (.i .i64 (i : Int), h54)) h54) fun v55 h55 =>
   bnd (gD v53 true (aH .add v55 (.i .i64 (Int.ofNat 1)) h55) h55) fun v56 h56 =>
   bnd (gD v53 true (aI n 95 [v54, v56] h56) h56) fun v57 h57 =>
   bnd (gD v53 true (aH .eql v57 (.i .i64 (Int.ofNat 1)) h57) h57) fun v58 h58 =>
   bnd (bA v53 v58 (.b false) h58) fun v59 h59 =>
   aV v59 (
    bnd (aH .add (.i .i64 (i : Int)) (.i .i64 (Int.ofNat 1)) h59) fun v60 h60 =>
    bnd (aI n 96 [.s s, v60] h60) fun v61 h61 =>
    bnd (aH .sub v61 (.i .i64 (i : Int)) h61) fun v62 h62 =>
    bnd (aH .sub v62 (.i .i64 (Int.ofNat 1)) h62) fun v63 h63 =>
    bnd (aH .gtr v63 (.i .i64 (Int.ofNat 24)) h63) fun v64 h64 =>
    aV v64 (
     bnd (aD 4 (.p b7 0) h64) fun v65 h65 =>
     bnd (aC 4 (.p b4 0) v65 h65) fun _ h66 =>
     bnd (aD 4 (.p b4 0) h66) fun v67 _ =>
     some (.t [v67, .i .i64 (Int.ofNat 0), .i .i64 (Int.ofNat 12)], h66)) (
     bnd (aA 0 (.p b7 0) h64) fun v68 h68 =>
     bnd (aC 1 v68 (.i .i64 (Int.ofNat 8)) h68) fun _ h69 =>
     bnd (aH .add (.i .i64 (i : Int)) (.i .i64 (Int.ofNat 1)) h69) fun v70 h70 =>
     bnd (dC (.s s) (some v70) (some v61) h70) fun v71 h71 =>
     bnd (aA 1 (.p b7 0) h71) fun v72 h72 =>
     bnd (aC 1 v72 v71 h72) fun _ h73 =>
     bnd (aD 4 (.p b7 0) h73) fun v74 h74 =>
     bnd (aC 4 (.p b4 0) v74 h74) fun _ h75 =>
     bnd (aD 4 (.p b4 0) h75) fun v76 _ =>
     some (.t [v76, v61, .i .i64 (Int.ofNat 0)], h75))) (
    bnd (aD 4 (.p b7 0) h59) fun v77 h77 =>
    bnd (aC 4 (.p b4 0) v77 h77) fun _ h78 =>
    bnd (aD 4 (.p b4 0) h78) fun v79 _ =>
    some (.t [v79, .i .i64 (Int.ofNat 0), .i .i64 (Int.ofNat 10)], h78))) (aEw I A Q L res i) := fun ne => by
   rw [if_neg (fun q => ne q.2)] at hm
   refine Ev.op (iK hidx _) ?_
   refine eAv (fun e8 => ?_) (fun e8 => absurd e7 e8)
   refine zt (wm (zt (wm (zt ?_))))
   refine eAx ?_
   rw [eG 1 (by omega)]
   refine zt ?_
   refine eAr (mK s (i + 1) _) ?_
   rintro _ _ ⟨rfl, hh⟩
   rw [hh]
   clear hh
   refine zt ?_
   refine eAv (fun e9 => ?_) (fun e9 => ?_)
   ·have e9' : bB (nx (s.drop i) 1) = true := by rw [hn1]; exact (bLb _).1 e9
    rw [if_pos ⟨e7', e9'⟩] at hm
    cases hm
    refine ap (yt ?_)
    refine eAx ?_
    rw [eG 1 (by omega)]
    refine eAr (xB s hs (i + 1) (by omega) _) ?_
    rintro _ _ ⟨rfl, hh⟩
    rw [hh]
    clear hh
    rw [← hdd1]
    have hnl := gB (s.drop (i + 1))
    have hne := qI (s.drop (i + 1))
    have hnt := kX (u := s.drop (i + 1))
    have hnl2 := mN (s.drop (i + 1))
    have hdl : (s.drop (i + 1)).length = s.length - (i + 1) := by simp
    rw [← hnl2] at hne ⊢
    generalize hN : bH (s.drop (i + 1)) = N at hnl hne hnt ⊢
    refine eBq ?_
    rw [show ((i + 1 + N.2.2 : Nat) : Int) - (i : Int) = ((N.2.2 + 1 : Nat) : Int) by omega, oX _ (by omega)]
    refine eBq ?_
    rw [show ((N.2.2 + 1 : Nat) : Int) - Int.ofNat 1 = ((N.2.2 : Nat) : Int) by simp, oX _ (by omega)]
    refine eBj (fun e10 => ?_) (fun e10 => ?_)
    ·have e10' : 24 < N.2.2 := by simp at e10; omega
     rw [if_pos e10'] at hne
     refine yt ?_; refine ws ?_; refine wt fun _ _ => ?_; refine ws ?_
     refine eAs ⟨⟨0, [], 0, (i : Int)⟩, Int.ofNat 0, ?_, fun he => ?_, dp⟩
     ·show _ = DV.t [_, _, DV.i .i64 N.2.1]
      rw [hne]; rfl
     ·have he : N.2.1 = 0 := he
      rw [hne] at he
      cases he
    ·have e10' : ¬ 24 < N.2.2 := by simp at e10; omega
     rw [if_neg e10'] at hne
     refine yj (wf ?_); refine wu fun _ _ => ?_
     refine eAx ?_
     rw [eG 1 (by omega)]
     refine Ev.op (wT (by omega) (by omega) _) ?_
     refine wf ?_; refine wu fun _ _ => ?_; refine ws ?_; refine wt fun _ _ => ?_; refine ws ?_
     refine eAs ⟨⟨8, (s.take (i + 1 + N.2.2)).drop (i + 1), 0, (i : Int)⟩, ((i + 1 + N.2.2 : Nat) : Int), ?_, fun _ => ⟨?_, ?_⟩, dp⟩
     ·show _ = DV.t [_, _, DV.i .i64 N.2.1]
      rw [hne]; rfl
     ·show (⟨8, _, 0, (i : Int)⟩ : Tok) = ⟨8, N.1, 0, (i : Int)⟩
      rw [List.drop_take, Nat.add_sub_cancel_left, ← hnt hne]
     ·show ((i + 1 + N.2.2 : Nat) : Int) = ((i + (N.2.2 + 1) : Nat) : Int)
      omega
   ·have e9' : ¬ bB (nx (s.drop i) 1) = true := fun q => e9 ((bLb _).2 (by rw [← hn1]; exact q))
    have := bad (fun q => ne q.2) (fun q => e9' q.2)
    subst this
    refine ap (yj ?_); refine ws ?_; refine wt fun _ _ => ?_; refine ws ?_
    exact eAs ⟨⟨0, [], 0, (i : Int)⟩, _, rfl, fun he => (by cases he), dp⟩
  refine eBa (fun e8 => ?_) (fun e8 => ?_)
  ·have e8' : i + 1 < s.length := by omega
   have hn1' : nx (s.drop i) 1 = s[i + 1] := by rw [hn1, List.drop_eq_getElem_cons e8']; rfl
   refine ap (zt (wm (zt (wm (zt ?_)))))
   refine eAx ?_
   rw [eG 1 (by omega)]
   refine zt ?_
   refine Ev.op (iK (c := s[i + 1]) (by simp [e8']) _) ?_
   refine zt ?_
   refine eAv (fun e9 => ?_) (fun e9 => ?_)
   ·have e9' : nx (s.drop i) 1 = 61 := by rw [hn1']; simp at e9; omega
    rw [if_pos ⟨e7', e9'⟩] at hm
    cases hm
    refine ap (yt (wf ?_)); refine wu fun _ _ => ?_; refine ws ?_
    refine eAx ?_
    rw [eG 2 (by omega)]
    refine wt fun _ _ => ?_; refine ws ?_
    exact eAs ⟨⟨9, [], 0, (i : Int)⟩, _, rfl, fun _ => ⟨rfl, rfl⟩, dp⟩
   ·have R := rest (by rw [hn1']; simp at e9; omega)
    exact R
  ·have R := rest (by rw [hn1, List.drop_eq_nil_of_le (by omega)]; simp [nx])
   exact R
 ·have e7' : ¬ nx (s.drop i) 0 = 58 := by rw [hn0]; simp at e7; omega
  have := bad (fun q => e7' q.1) (fun q => e7' q.1)
  subst this
  refine yf (yf (yf (yf (yf (aq (yf (yf (yf (yf (yf (aq (yj ?_))))))))))))
  refine Ev.op (iK hidx _) ?_
  refine eAv (fun e8 => absurd e8 e7) (fun e8 => ?_)
  refine yf (yf (yf (yf (yf (aq (yj ?_)))))); refine ws ?_; refine wt fun _ _ => ?_; refine ws ?_
  exact eAs ⟨⟨0, [], 0, (i : Int)⟩, _, rfl, fun he => (by cases he), dp⟩
theorem aWg (hs : s.length ≤ bG) (g : Nat) : ∀ (f j i : Nat) (I : Im) (B : Ls) (h : Hp) (x : DV) (out : List Tok) (res : List Tok × Int × Int), Sy I (B ++ A) Q L h → Gr I 4 B x out.length (out.map tc).flatten →
 i ≤ s.length → out.length + f ≤ bG → nB g s f i out = some res →
 Ev (fun n => sS (aI n) n (n - j) (.s s) x (.i .i64 (i : Int)) h) (bDj I A Q L res) := by
 intro f
 induction f using Nat.strongRecOn with
 | _ f ih =>
  intro j i I B h x out res S G hi hl hm
  cases f with
  | zero => cases hm
  | succ f =>
  obtain ⟨k, o, sk, hk, c1, c2, c3⟩ := bLe (f + 1) i out res hi hm
  refine eAw j (ll := fun n m => sS (aI n) n m (.s s) x (.i .i64 (i : Int)) h) (bb := fun n m => aGp (aI n) n (sS (aI n) n m) (.s s) x (.i .i64 (i : Int)) h) (fun _ _ => rfl) ?_
  unfold aGp
  refine eAr (cHo hs sk hi) ?_
  rintro _ _ ⟨rfl, hh⟩
  rw [hh]
  clear hh
  refine wx ?_; refine wx ?_
  cases o with
  | true =>
   rw [c1 rfl]
   refine yt ?_
   obtain ⟨K, gK, S5, F5⟩ := G.freeze S
   exact eAs ⟨K, .l0, rfl, gK, S5, TS'.nil K⟩
  | false =>
   refine yj ?_
   refine eBd ?_
   refine eAv (fun e1 => ?_) (fun e1 => ?_)
   ·rw [c2 rfl (by omega)]
    refine yt ?_; refine wd ?_
    refine eBm S (aZj ⟨0, [], 0, (k : Int)⟩) ?_
    intro b3 h3 S3
    obtain ⟨x4, h4, B4, e4, S4, G4⟩ := xF G S3 (bX) (by omega)
    refine Ev.op e4 ?_
    obtain ⟨K, gK, S5, F5⟩ := G4.freeze S4
    exact eAs ⟨K, x4, rfl, gK, S5.dropL, by simp; omega, F5⟩
   ·obtain ⟨rs, hr, d1, d2⟩ := c3 rfl (by omega)
    refine yj ?_
    refine eAr (cHx S hs (by omega) g rs hr) ?_
    rintro _ h3 ⟨t, en, rfl, a2, S3⟩
    refine wx ?_; refine wx ?_; refine wx ?_; refine wa fun _ _ _ => ?_; refine wt fun _ _ => ?_
    refine eBi (fun e3 => ?_) (fun e3 => ?_)
    ·rw [d1 e3]
     refine yt ?_
     obtain ⟨M, gM, S5, F5⟩ := G.freeze (by assumption)
     exact eAs ⟨M, .l0, rfl, gM, S5.dropL, TS'.nil M⟩
    ·obtain ⟨m1, f', m2, m3⟩ := d2 e3
     obtain ⟨rfl, rfl⟩ := a2 e3
     refine yj ?_; refine ws ?_
     refine eBm (by assumption) (aZj ⟨rs.1, rs.2.1, rs.2.2.1, (k : Int)⟩) ?_
     intro b4 h4 S4
     obtain ⟨x5, h5, B5, e5, S5, G5⟩ := xF G S4 (bX) (by omega)
     refine Ev.op e5 ?_
     exact ih f' m2 (j + 1) (k + rs.2.2.2.2) I B5 h5 x5 _ res S5.dropL.dropL G5 m1 (by simp; omega) m3
theorem cGo {h : Hp} (S : Sy I A Q L h) (hs : s.length ≤ bG) (g f : Nat) (hf : f ≤ bG) (res : List Tok × Int × Int) (hm : qN g f s = some res) :
 Ev (fun n => aI n 43 [.s s] h) (bDj I A Q L res) := by
 unfold qN at hm
 refine Ev.enter (fun n => cVq n _ h) ?_
 unfold s43 bIo
 refine eBd ?_
 refine eBj (fun e1 => ?_) (fun e1 => ?_)
 ·rw [if_pos (show 2000 < s.length by simp at e1; omega)] at hm
  cases hm
  refine yt ?_
  exact eAs ⟨I, .l0, rfl, ILe.refl _, S, TS'.nil I⟩
 ·rw [if_neg (show ¬ 2000 < s.length by simp at e1; omega)] at hm
  refine yj ?_
  unfold aZp aYj bAe cFr
  exact aWg hs g f 0 0 I [] _ .l0 [] res S (Gr.nil I 4) (by omega) (by simpa using hf) hm
end
end Go.Dd

namespace Go.Dd
open Go.Proofs
theorem dQn {a b : Nat} (h : a + b ≤ bG) : IntKind.i64.wrap ((a : Int) + (b : Int)) = ((a + b : Nat) : Int) := by
 rw [dW _ (by omega) (by simp [bG] at h ⊢; omega)]
 omega
theorem gC {a : Nat} (h : a + 1 ≤ bG) : IntKind.i64.wrap ((a : Int) + Int.ofNat 1) = ((a + 1 : Nat) : Int) := dQn (b := 1) h
def NC (b : Pos) (k : Int) (t : List Nat) (m : Int) (s1 s2 s3 : DV) : Pos × Option Ob := (b, some (.row .ex [.i .i64 k, .s t, .i .i64 m, s1, s2, s3]))
end Go.Dd

namespace Go.Dd
open Go.Proofs
mutual
def nEq : Node → Node → Bool
 | .mk k t m ns ts ks, .mk k' t' m' ns' ts' ks' => decide (ns = ns') && decide (ts = ts') && decide (k = k') && decide (t = t') && decide (m = m') && sY ks ks'
def sY : List Node → List Node → Bool
 | [], [] => true
 | x :: l, y :: l' => nEq x y && sY l l'
 | _, _ => false
end
theorem xX : ∀ (x y : List Node), x.length ≠ y.length → sY x y = false
 | [], [], h => absurd rfl h
 | [], _ :: _, h => rfl
 | _ :: _, [], h => rfl
 | x :: l, y :: l', h => by
  simp at h
  simp [sY, xX l l' h]
theorem bNm (n : Nat) (x y : DV) (h : Hp) : aI (n + 1) 28 [x, y] h = s28 (aI n) n x y h := by kernel_rfl
theorem SS.at {I : Im} {s : DV} {l : List (List Nat)} (H : SS I s l) {A Q L : Ls} {h : Hp} (S : Sy I A Q L h) {i : Nat} {x : List Nat} (hi : l[i]? = some x) :
 ∃ b o, (∀ h', aO 1 s (.i .i64 (i : Int)) h' = some (.p b o, h')) ∧ aB (.p b o) h = some (.s x, h) := by
 obtain ⟨hlt, hg⟩ := List.getElem?_eq_some_iff.1 hi
 obtain ⟨b, o, e, k, row, g, rest, d⟩ := H.2.at S hlt
 refine ⟨b, o, e, ld1 g ?_ rfl⟩
 have e2 : row[o]? = (row.drop o)[0]? := by simp
 rw [e2, d, Nat.mul_one, List.drop_eq_getElem_cons (by simpa using hlt)]
 simp [hg]
section
variable {I : Im} {A Q L : Ls}
theorem aVg {h : Hp} {s1 s2 : DV} {l1 l2 : List (List Nat)} (S : Sy I A Q L h) (N1 : SS I s1 l1) (N2 : SS I s2 l2) : ∀ (r1 r2 : List (List Nat)) (i j : Nat), l1.drop i = r1 → l2.drop i = r2 → r1.length = r2.length → i ≤ l1.length →
 Ev (fun n => nP (aI n) n (n - j) s1 s2 (.i .i64 (i : Int)) h) (fun v h' => v = .b (decide (r1 = r2)) ∧ h' = h) := by
 intro r1
 induction r1 with
 | nil =>
  intro r2 i j e1 e2 hl hi
  refine eAw j (ll := fun n p => nP (aI n) n p s1 s2 (.i .i64 (i : Int)) h) (bb := fun n p => vV (aI n) n (nP (aI n) n p) s1 s2 (.i .i64 (i : Int)) h) (fun _ _ => rfl) ?_
  have h2 : r2 = [] := by cases r2 with
   | nil => rfl
   | cons => simp at hl
  subst h2
  have hl2 : i = l1.length := by
   have := congrArg List.length e1
   simp at this
   omega
  unfold vV
  refine Ev.op (N1.2.len _) (eBa (fun k => ?_) (fun k => ?_))
  ·omega
  ·refine yj ?_
   unfold hZ
   exact eAs ⟨by simp, rfl⟩
 | cons x r1 ih =>
  intro r2 i j e1 e2 hl hi
  refine eAw j (ll := fun n p => nP (aI n) n p s1 s2 (.i .i64 (i : Int)) h) (bb := fun n p => vV (aI n) n (nP (aI n) n p) s1 s2 (.i .i64 (i : Int)) h) (fun _ _ => rfl) ?_
  obtain ⟨y, r2, rfl⟩ : ∃ y r, r2 = y :: r := by cases r2 with
   | nil => simp at hl
   | cons y r => exact ⟨y, r, rfl⟩
  have hx : l1[i]? = some x := dA0 e1
  have hy : l2[i]? = some y := dA0 e2
  have hlt := (wV hx)
  have e1' : l1.drop (i + 1) = r1 := dA1 e1
  have e2' : l2.drop (i + 1) = r2 := dA1 e2
  obtain ⟨b1, o1, p1, q1⟩ := N1.at S hx
  obtain ⟨b2, o2, p2, q2⟩ := N2.at S hy
  have hb := N1.1
  unfold vV
  refine Ev.op (N1.2.len _) (eBa (fun k => ?_) (fun k => ?_))
  ·refine yt ?_
   refine Ev.op (p1 _) (Ev.op q1 (Ev.op (p2 _) (Ev.op q2 ?_)))
   refine eDd (fun k2 => ?_) (fun k2 => ?_)
   ·refine yt ?_
    exact eAs ⟨by simp [k2], rfl⟩
   ·refine yj ?_
    refine eAx ?_
    rw [gC (by omega)]
    refine (ih r2 (i + 1) (j + 1) e1' e2' (by simpa using hl) (by omega)).mono ?_
    rintro v h' ⟨rfl, rfl⟩
    exact ⟨by simp [k2], rfl⟩
  ·omega
theorem aPl {h : Hp} {s1 s2 : DV} {l1 l2 : List (List Nat)} (S : Sy I A Q L h) (N1 : SS I s1 l1) (N2 : SS I s2 l2) :
 Ev (fun n => aI n 28 [s1, s2] h) (fun v h' => v = .b (decide (l1 = l2)) ∧ h' = h) := by
 refine Ev.enter (fun n => bNm n _ _ h) ?_
 unfold s28 aYa
 refine Ev.op (N1.2.len _) (Ev.op (N2.2.len _) (eBi (fun e => ?_) (fun e => ?_)))
 ·refine yt ?_
  refine eAs ⟨?_, rfl⟩
  have : l1 ≠ l2 := fun h => e (by rw [h])
  simp [this]
 ·refine yj ?_
  unfold bHr bBh
  exact aVg S N1 N2 l1 l2 0 0 (by simp) (by simp) (by omega) (by omega)
end
theorem bJn {I : Im} {A Q L : Ls} {h : Hp} {b b' : Pos} {k m k' m' : Int} {t t' : List Nat} {s1 s2 s3 s1' s2' s3' : DV} {c1 c2 : Bool} {ks ks' : List Node}
 (S : Sy I A Q (NC b' k' t' m' s1' s2' s3' :: NC b k t m s1 s2 s3 :: L) h) (h3 : NS I s3 ks) (h3' : NS I s3' ks') (o1 : s1.one = true) (o2 : s2.one = true) (o1' : s1'.one = true) (o2' : s2'.one = true)
 (loop : ks.length = ks'.length → Ev (fun n => mA (aI n) n (n - 0) (.p b 0) (.p b' 0) (.i .i64 ((0 : Nat) : Int)) h) (fun v h' => v = .b (sY ks ks') ∧ Sy I A Q (NC b' k' t' m' s1' s2' s3' :: NC b k t m s1 s2 s3 :: L) h')) :
 Ev (fun n => aQr (aI n) n (.p b 0) (.p b' 0) (.b c1) (.b c2) h) (fun v h' => v = .b (c1 && c2 && decide (k = k') && decide (t = t') && decide (m = m') && sY ks ks') ∧ Sy I A Q L h') := by
 unfold aQr
 unfold NC at S
 have o3 := h3.one
 have o3' := h3'.one
 cases c1 with
 | false =>
  refine ao (yg (yg (ap (yg (yg (yg (yg (yg (ap (yg (yg (yg (yg (yg (ap (yg (yg (yg (yg (yg (ap (yg (yg (yg (yg (yg (yg (yg (ap (yt ?_))))))))))))))))))))))))))))))
  exact eAs ⟨by simp, dp⟩
 | true =>
  cases c2 with
  | false =>
   refine an (zf (wm (zf (ao (aq (yg (yg (yg (yg (yg (ap (yg (yg (yg (yg (yg (ap (yg (yg (yg (yg (yg (ap (yg (yg (yg (yg (yg (yg (yg (ap (yt ?_))))))))))))))))))))))))))))))))
   exact eAs ⟨by simp, dp⟩
  | true =>
   refine an (zf (wm (zf (an (aq (zf (wf (zf ?_)))))))); refine wl ?_; refine zf (wf (zf ?_)); refine wl ?_; refine zf ?_
   refine eBi (fun e1 => ?_) (fun e1 => ?_)
   ·refine aq (yg (yg (yg (yg (yg (ap (yg (yg (yg (yg (yg (ap (yg (yg (yg (yg (yg (yg (yg (ap (yt ?_)))))))))))))))))))))
    exact eAs ⟨by simp [e1], dp⟩
   ·refine aq (zf (wf (zf ?_))); refine wl ?_; refine zf (wf (zf ?_)); refine wl ?_; refine zf ?_
    refine eDd (fun e2 => ?_) (fun e2 => ?_)
    ·refine aq (yg (yg (yg (yg (yg (ap (yg (yg (yg (yg (yg (yg (yg (ap (yt ?_)))))))))))))))
     exact eAs ⟨by simp [e2], dp⟩
    ·refine aq (zf (wf (zf ?_))); refine wl ?_; refine zf (wf (zf ?_)); refine wl ?_; refine zf ?_
     refine eBi (fun e3 => ?_) (fun e3 => ?_)
     ·refine aq (yg (yg (yg (yg (yg (yg (yg (ap (yt ?_)))))))))
      exact eAs ⟨by simp [e3], dp⟩
     ·refine aq (zf (wf (zf ?_))); refine wl ?_; refine zf ?_
      refine Ev.op (h3.len _) ?_
      refine zf (wf (zf ?_)); refine wl ?_; refine zf ?_
      refine Ev.op (h3'.len _) ?_
      refine zf ?_
      refine eBi (fun e4 => ?_) (fun e4 => ?_)
      ·refine aq (yt ?_)
       refine eAs ⟨?_, dp⟩
       rw [xX ks ks' (by omega)]
       simp
      ·refine aq (yj ?_)
       unfold bEg bHq
       refine (loop (by omega)).mono ?_
       rintro v h' ⟨rfl, S'⟩
       exact ⟨by simp [e1, e2, e3], S'.dropL.dropL⟩
mutual
theorem aYx : ∀ (x y : Node) (I : Im) (A Q L : Ls) (h : Hp) (cs cs' : List DV), Sy I A Q L h → NV I x cs → NV I y cs' → Ev (fun n => aI n 16 [.a cs, .a cs'] h) (fun v h' => v = .b (nEq x y) ∧ Sy I A Q L h')
 | .mk k t m ns ts ks, .mk k' t' m' ns' ts' ks', I, A, Q, L, h, cs, cs', S, ⟨s1, s2, s3, e, a1, a2, a3, cells, F, NL⟩, ⟨s1', s2', s3', e', a1', a2', a3', cells', F', NL'⟩ => by
  subst e
  subst e'
  have o1 := a1.2.one
  have o2 := a2.2.one
  have o3 := F.one
  have o1' := a1'.2.one
  have o2' := a2'.2.one
  have o3' := F'.one
  refine Ev.enter (fun n => cKj n _ _ h) ?_
  unfold s16
  refine Ev.box S rfl (fun b h1 S1 => ?_)
  refine Ev.box S1 rfl (fun b' h2 S2 => ?_)
  unfold bIr
  refine wf ?_; refine wl ?_; refine wf ?_; refine wl ?_
  refine eAr (aPl S2 a1 a1') ?_
  rintro _ _ ⟨rfl, rfl⟩
  unfold bAv
  refine wf ?_; refine wl ?_; refine wf ?_; refine wl ?_
  refine eAr (aPl S2 a2 a2') ?_
  rintro _ _ ⟨rfl, rfl⟩
  simp only [nEq]
  refine bJn (by exact S2) ⟨a3, cells, F, NL⟩ ⟨a3', cells', F', NL'⟩ o1 o2 o1' o2' ?_
  intro hl
  exact aFh ks ks' I A Q L _ _ _ [] [] b b' k k' t t' m m' s1 s2 s3 s1' s2' s3' ks ks' 0 0 ⟨a3, cells, F, NL⟩ ⟨a3', cells', F', NL'⟩ (by simp) (by simp) hl (by omega) S2 rfl rfl o3 o3'
theorem aFh : ∀ (r r' : List Node) (I : Im) (A Q L : Ls) (h : Hp) (c c' : List DV) (L0 L1 : Ls) (b b' : Pos) (k k' : Int) (t t' : List Nat) (m m' : Int) (s1 s2 s3 s1' s2' s3' : DV) (ks ks' : List Node) (i j : Nat), NS I s3 ks → NS I s3' ks' → ks.drop i = r → ks'.drop i = r' → r.length = r'.length → i ≤ ks.length →
 Sy I A Q ((b', some (.row .ex c')) :: (b, some (.row .ex c)) :: L) h → c[5]? = some s3 → c'[5]? = some s3' → s3.one = true → s3'.one = true →
 Ev (fun n => mA (aI n) n (n - j) (.p b 0) (.p b' 0) (.i .i64 (i : Int)) h) (fun v h' => v = .b (sY r r') ∧ Sy I A Q ((b', some (.row .ex c')) :: (b, some (.row .ex c)) :: L) h')
 | [], r', I, A, Q, L, h, c, c', L0, L1, b, b', k, k', t, t', m, m', s1, s2, s3, s1', s2', s3', ks, ks', i, j, N, N', hr, hr', hl, hi, S, g, g', o3, o3' => by
  have h2 : r' = [] := by cases r' with
   | nil => rfl
   | cons => simp at hl
  subst h2
  refine eAw j (ll := fun n p => mA (aI n) n p (.p b 0) (.p b' 0) (.i .i64 (i : Int)) h) (bb := fun n p => vC (aI n) n (mA (aI n) n p) (.p b 0) (.p b' 0) (.i .i64 (i : Int)) h) (fun _ _ => rfl) ?_
  have hl2 : i = ks.length := by
   have := congrArg List.length hr
   simp at this
   omega
  unfold vC
  refine eAy (Ev.op (ld1 (S.memL (List.Mem.tail _ (bX))) (by simpa using g) o3) ?_)
  refine Ev.op (N.len _) (eBa (fun e1 => ?_) (fun e1 => ?_))
  ·omega
  ·refine yj ?_
   unfold iF
   exact eAs ⟨rfl, S⟩
 | x :: r, r', I, A, Q, L, h, c, c', L0, L1, b, b', k, k', t, t', m, m', s1, s2, s3, s1', s2', s3', ks, ks', i, j, N, N', hr, hr', hl, hi, S, g, g', o3, o3' => by
  obtain ⟨y, r', rfl⟩ : ∃ y q, r' = y :: q := by cases r' with
   | nil => simp at hl
   | cons y q => exact ⟨y, q, rfl⟩
  refine eAw j (ll := fun n p => mA (aI n) n p (.p b 0) (.p b' 0) (.i .i64 (i : Int)) h) (bb := fun n p => vC (aI n) n (mA (aI n) n p) (.p b 0) (.p b' 0) (.i .i64 (i : Int)) h) (fun _ _ => rfl) ?_
  have hx : ks[i]? = some x := dA0 hr
  have hy : ks'[i]? = some y := by
   have := congrArg (fun l => l[0]?) hr'
   simpa [aG] using this
  have hlt := (wV hx)
  have e1' : ks.drop (i + 1) = r := dA1 hr
  have e2' : ks'.drop (i + 1) = r' := by
   have := congrArg (List.drop 1) hr'
   simpa [aG, List.drop_drop] using this
  have hb := N.1
  unfold vC
  have l1 := fun {h} (S : Sy I A Q ((b', some (.row .ex c')) :: (b, some (.row .ex c)) :: L) h) => ld1 (o := 0 + 5) (S.memL (List.Mem.tail _ (bX))) (by simpa using g) o3
  have l2 := fun {h} (S : Sy I A Q ((b', some (.row .ex c')) :: (b, some (.row .ex c)) :: L) h) => ld1 (o := 0 + 5) (S.memL (bX)) (by simpa using g') o3'
  refine eAy (Ev.op (l1 S) ?_)
  refine Ev.op (N.len _) (eBa (fun e1 => ?_) (fun e1 => ?_))
  ·refine yt (wf ?_)
   refine Ev.op (l1 S) ?_
   obtain ⟨p1, q1, d1, u1, u2, u3⟩ := N.at hx
   obtain ⟨p2, q2, d2, v1, v2, v3⟩ := N'.at hy
   refine Ev.op (u1 _) (Ev.op (u3 _ _ _ _ _ (ILe.refl _) S) (eAy (Ev.op (l2 S) (Ev.op (v1 _) (Ev.op (v3 _ _ _ _ _ (ILe.refl _) S) ?_)))))
   refine eAr (aYx x y I A Q _ h d1 d2 S u2 v2) ?_
   rintro _ h1 ⟨rfl, S1⟩
   simp only [sY]
   cases e : nEq x y with
   | false =>
    refine ao (yt ?_)
    exact eAs ⟨by simp, S1⟩
   | true =>
    refine an (yj ?_)
    refine eAx ?_
    rw [gC (by omega)]
    refine (aFh r r' I A Q L h1 c c' L0 L1 b b' k k' t t' m m' s1 s2 s3 s1' s2' s3' ks ks' (i + 1) (j + 1) N N' e1' e2' (by simpa using hl) (by omega) S1 g g' o3 o3').mono ?_
    rintro v h' ⟨rfl, S2⟩
    exact ⟨by simp, S2⟩
  ·omega
end
end Go.Dd

namespace Go.Dd
def wN (c : Nat) : Bool := (decide (97 ≤ c) && decide (c ≤ 122)) || (decide (65 ≤ c) && decide (c ≤ 90))
def bW (s : List Nat) : Nat := if 0 ≤ dZ 58 s 0 then 3 else match s with
 | [] => 2
 | c :: _ => if wN c = true then 1 else 2
def eC (k : Int) (t : List Nat) : Nat := if k = 7 then bW t else if k = 8 then 4 else if k = 6 then 5 else 0
def cK (s : List Nat) : List (List Nat) := (cA 58 [] s).dropLast
def bD (l : List (Nat × List Nat)) (i h : Nat) : List Nat := match l[i]? with
 | none => []
 | some (own, x) => if own > h then 40 :: (x ++ [41]) else x
def dF (ps : List (List Nat)) (args : List (Nat × List Nat)) (i : Nat) : List (List Nat) := match ps with
 | [] => []
 | p :: ps => (p ++ 32 :: bD args i 2) :: dF ps args (i + 1)
def bE (s : List Nat) (args : List (Nat × List Nat)) : List Nat :=
 if bW s = 1 then s else if bW s = 2 then s ++ 32 :: bD args 0 1 else aK [32] (dF (cK s) args 0)
def dT (s : List Nat) (kids : List (Nat × List Nat)) : List Nat :=
 if kids.length = 0 then [] else bD kids 0 (if bW s = 1 then 1 else 2) ++ 32 :: bE s (kids.drop 1)
def cH (ts : List (List Nat)) (kids : List (List Nat)) : List Nat :=
 (if ts.length = 0 then [] else 124 :: 32 :: (aK [32] ts ++ [32, 124, 32])) ++ aK [46, 32] kids
structure Nf where
 k : Int
 t : List Nat
 tx : List Nat
 ks : List (Nat × List Nat)
def Nf.ht (x : Nf) : Nat × List Nat := (eC x.k x.t, x.tx)
def gP (l : List Nf) : List Nat := match l with
 | a :: b :: r => dT b.t (a.ht :: b.ks) ++ aK [] (r.map fun x => 59 :: 32 :: bE x.t x.ks)
 | _ => []
def cD : List (List Nat) → List Nat
 | [] => []
 | p :: l => 58 :: (p ++ 32 :: cD l)
def aDk (k : Int) (t : List Nat) (m : Int) (ns ts : List (List Nat)) (l : List Nf) : List Nat :=
 if k = 1 then jT m
 else if k = 2 then 39 :: (eZ 39 [39, 39] t ++ [39])
 else if k = 3 then 35 :: t
 else if k = 4 then 35 :: 40 :: (aK [32] (l.map Nf.tx) ++ [41])
 else if k = 6 then t ++ 32 :: 58 :: 61 :: 32 :: aK [] (l.map Nf.tx)
 else if k = 10 then 94 :: aK [] (l.map Nf.tx)
 else if k = 7 then dT t (l.map Nf.ht)
 else if k = 8 then gP l
 else if k = 9 then 91 :: ((if cD ns = [] then [] else cD ns ++ [124, 32]) ++ (cH ts (l.map Nf.tx) ++ [93]))
 else t
mutual
def nf : Node → Nf
 | .mk k t m ns ts ks => ⟨k, t, aDk k t m ns ts (mJ ks), (mJ ks).map Nf.ht⟩
def mJ : List Node → List Nf
 | [] => []
 | x :: l => nf x :: mJ l
end
theorem yB : ∀ l, mJ l = l.map nf
 | [] => rfl
 | x :: l => by simp [mJ, yB l]
end Go.Dd

namespace Go.Dd
open Go.Proofs
theorem cLx (n : Nat) (x : DV) (h : Hp) : aI (n + 1) 32 [x] h = s32 (aI n) n x h := by kernel_rfl
theorem cBu (n : Nat) (x : DV) (h : Hp) : aI (n + 1) 126 [x] h = s126 (aI n) n x h := by kernel_rfl
theorem cJz (n : Nat) (x : DV) (h : Hp) : aI (n + 1) 33 [x] h = s33 (aI n) n x h := by kernel_rfl
theorem cRv (n : Nat) (x y : DV) (h : Hp) : aI (n + 1) 58 [x, y] h = s58 (aI n) n x y h := by kernel_rfl
theorem cUr (n : Nat) (x : DV) (h : Hp) : aI (n + 1) 19 [x] h = s19 (aI n) n x h := by kernel_rfl
theorem aWz {c : Nat} (h : (97 ≤ c ∧ c ≤ 122) ∨ (65 ≤ c ∧ c ≤ 90)) : wN c = true := by simp [wN]; omega
theorem bCl {c : Nat} (h : ¬ ((97 ≤ c ∧ c ≤ 122) ∨ (65 ≤ c ∧ c ≤ 90))) : wN c = false := by
 cases e : wN c with
 | false => rfl
 | true => exfalso; apply h; simp [wN] at e; omega
theorem qB (s : List Nat) (h : Hp) : Ev (fun n => aI n 32 [.s s] h) (fun v h' => v = .i .i64 (bW s : Int) ∧ h' = h) := by
 refine Ev.enter (fun n => cLx n _ h) ?_
 unfold s32
 refine eAr (aBj s 58 (by decide) h) ?_
 rintro _ h ⟨rfl, rfl⟩
 refine eBo (fun e => ?_) (fun e => ?_)
 ·have e' : (0 : Int) ≤ dZ 58 s 0 := e
  refine yt ?_
  refine eAs ⟨?_, rfl⟩
  unfold bW
  rw [if_pos e']; rfl
 ·have e' : ¬ (0 : Int) ≤ dZ 58 s 0 := e
  refine yj ?_
  cases s with
  | nil =>
   refine Ev.op (show cB .neq (.s []) (.s []) h = some (.b false, h) from rfl) ?_
   refine yf (yf (yf (yf (yu (yu (yu (yf (yf (yu (yu (yu (yu (yu (yu (yu (yu (yf (aq (yj ?_)))))))))))))))))))
   refine eAs ⟨?_, rfl⟩
   unfold bW
   rw [if_neg e']; rfl
  | cons c l =>
   have ei : bK (.s (c :: l)) (.i .i64 (Int.ofNat 0)) h = some (.i .u8 (c : Int), h) := by simp [bK]
   have ek : bW (c :: l) = if wN c = true then 1 else 2 := by
    unfold bW
    rw [if_neg e']
   have k1 : ((97 ≤ c ∧ c ≤ 122) ∨ (65 ≤ c ∧ c ≤ 90)) → (bW (c :: l) : Int) = Int.ofNat 1 := fun hh => by rw [ek, aWz hh]; rfl
   have k2 : ¬ ((97 ≤ c ∧ c ≤ 122) ∨ (65 ≤ c ∧ c ≤ 90)) → (bW (c :: l) : Int) = Int.ofNat 2 := fun hh => by rw [ek, bCl hh]; rfl
   refine Ev.op (show cB .neq (.s (c :: l)) (.s []) h = some (.b true, h) from rfl) ?_
   refine zt (wm (zt ?_))
   refine Ev.op ei ?_
   refine zt ?_
   refine eBo (fun e1 => ?_) (fun e1 => ?_)
   ·have e1' : 97 ≤ c := by have h0 := e1; simp at h0; omega
    refine zt (wm (zt (wm (zt ?_))))
    refine Ev.op ei ?_
    refine zt ?_
    refine eCh (fun e2 => ?_) (fun e2 => ?_)
    ·have e2' : c ≤ 122 := by have h0 := e2; simp at h0; omega
     refine zt (ap (zt (wm (yg (yg (yg (yg (yu (yu (yu (yg (zt (ap (ap (yt ?_)))))))))))))))
     exact eAs ⟨by rw [k1 (by omega)], rfl⟩
    ·have e2' : ¬ c ≤ 122 := by have h0 := e2; simp at h0; omega
     refine zt (ap (zt (wm (zf (wm (zf ?_))))))
     refine Ev.op ei ?_
     refine zf ?_
     refine eBo (fun e3 => ?_) (fun e3 => ?_)
     ·refine zf (wm (zt (wm (zt ?_))))
      refine Ev.op ei ?_
      refine zt ?_
      refine eCh (fun e4 => ?_) (fun e4 => ?_)
      ·have e4' : c ≤ 90 := by have h0 := e4; simp at h0; omega
       omega
      ·refine zf (ap (zt (aq (ap (yj ?_)))))
       exact eAs ⟨by rw [k2 (by omega)], rfl⟩
     ·have e3' : ¬ 65 ≤ c := by have h0 := e3; simp at h0; omega
      omega
   ·have e1' : ¬ 97 ≤ c := by have h0 := e1; simp at h0; omega
    refine zt (wm (yf (yf (yf (zt (aq (zt (wm (zf (wm (zf ?_)))))))))))
    refine Ev.op ei ?_
    refine zf ?_
    refine eBo (fun e3 => ?_) (fun e3 => ?_)
    ·have e3' : 65 ≤ c := by have h0 := e3; simp at h0; omega
     refine zf (wm (zt (wm (zt ?_))))
     refine Ev.op ei ?_
     refine zt ?_
     refine eCh (fun e4 => ?_) (fun e4 => ?_)
     ·have e4' : c ≤ 90 := by have h0 := e4; simp at h0; omega
      refine zf (ap (zt (aq (ap (yt ?_)))))
      exact eAs ⟨by rw [k1 (by omega)], rfl⟩
     ·have e4' : ¬ c ≤ 90 := by have h0 := e4; simp at h0; omega
      refine zf (ap (zt (aq (ap (yj ?_)))))
      exact eAs ⟨by rw [k2 (by omega)], rfl⟩
    ·have e3' : ¬ 65 ≤ c := by have h0 := e3; simp at h0; omega
     refine zf (wm (yf (yf (yf (zf (aq (zt (aq (ap (yj ?_))))))))))
     exact eAs ⟨by rw [k2 (by omega)], rfl⟩
theorem aPs {I : Im} {A Q L : Ls} {h : Hp} (S : Sy I A Q L h) {x : Node} {cs : List DV} (N : NV I x cs) :
 Ev (fun n => aI n 126 [.a cs] h) (fun v h' => v = .i .i64 (((nf x).ht).1 : Int) ∧ Sy I A Q L h') := by
 refine Ev.enter (fun n => cBu n _ h) ?_
 unfold s126
 obtain ⟨k, t, m, ns, ts, ks⟩ := x
 obtain ⟨s1, s2, s3, rfl, a, b, c, cells, F, NL⟩ := N
 have o1 := a.2.one
 have o2 := b.2.one
 have o3 := F.one
 have eh : ((nf (.mk k t m ns ts ks)).ht).1 = eC k t := by simp [nf, Nf.ht]
 rw [eh]
 refine wb fun _ _ _ => ?_; refine wf ?_; refine wl ?_
 refine eAv (fun e1 => ?_) (fun e1 => ?_)
 ·refine yt (wf ?_); refine wl ?_
  refine eAr (qB t _) ?_
  rintro _ h1 ⟨rfl, rfl⟩
  refine eAs ⟨?_, dp⟩
  rw [eC, if_pos (by simpa using e1)]
 ·refine eBk ?_
  refine eAv (fun e2 => ?_) (fun e2 => ?_)
  ·refine yt ?_
   refine eAs ⟨?_, dp⟩
   rw [eC, if_neg (by simpa using e1), if_pos (by simpa using e2)]; rfl
  ·refine eBk ?_
   refine eAv (fun e3 => ?_) (fun e3 => ?_)
   ·refine yt ?_
    refine eAs ⟨?_, dp⟩
    rw [eC, if_neg (by simpa using e1), if_neg (by simpa using e2), if_pos (by simpa using e3)]; rfl
   ·refine yj ?_
    refine eAs ⟨?_, dp⟩
    rw [eC, if_neg (by simpa using e1), if_neg (by simpa using e2), if_neg (by simpa using e3)]; rfl
end Go.Dd

namespace Go.Dd
open Go.Proofs
theorem aEi : ∀ l : List (List Nat), oW (l.map .s) = some l
 | [] => rfl
 | x :: l => by simp [oW, aEi l]
theorem bIp {x : DV} {h : Hp} {n : Nat} {l : List (List Nat)} {sep : List Nat} (hx : ∀ t, x ≠ .s t) (e : pA 1 x h = some (n, l.map .s)) (h1 : (aK sep l).length ≤ 100000000000) (h2 : n ≤ 100000000000) (hc : bMw x = true) :
 mQ [x, .s sep] h = some (.s (aK sep l), h) := by
 have e1 : Nat.ble (aK sep l).length 100000000000 = true := Nat.ble_eq_true_of_le h1
 have e2 : Nat.ble n 100000000000 = true := Nat.ble_eq_true_of_le h2
 have key : mQ [x, .s sep] h = (match pA 1 x h with
  | some (n, cells) => match oW cells with
   | some l => bif Nat.ble (aK sep l).length 100000000000 then (bif Nat.ble n 100000000000 && bMw x then some (.s (aK sep l), h) else none) else none
   | none => none
  | none => none) := by
  cases x <;> first | rfl | exact absurd rfl (hx _)
 rw [key, e]
 simp only [aEi, e1, e2, hc, cond_true, Bool.and_self]
theorem Fz.cap {I : Im} {sz : Nat} {s : DV} {len : Nat} {cells : List DV} (H : Fz I sz s len cells) : bMw s = true ∧ ∀ t, s ≠ .s t := by
 rcases H with ⟨rfl | rfl, _⟩ | ⟨b, o, cap, k, row, rest, rfl, h2, _⟩
 ·exact ⟨rfl, fun t e => by cases e⟩
 ·exact ⟨rfl, fun t e => by cases e⟩
 ·exact ⟨Nat.ble_eq_true_of_le h2, fun t e => by cases e⟩
theorem SS.join {I : Im} {s : DV} {l : List (List Nat)} (H : SS I s l) {A Q L : Ls} {h : Hp} (S : Sy I A Q L h) {sep : List Nat} (h1 : (aK sep l).length ≤ 100000000000) : mQ [s, .s sep] h = some (.s (aK sep l), h) := by
 obtain ⟨hl, F⟩ := H
 exact bIp F.cap.2 (F.src S) h1 (by simp [bG] at hl; omega) F.cap.1
theorem eN {I : Im} {A Q L : Ls} {h : Hp} {b : Pos} {n : Nat} (l : List (List Nat)) (S : Sy I A Q L h) (m : (b, some (.row .ex (l.map .s))) ∈ L) (hn : n = l.length) (h1 : (aK [] l).length ≤ 100000000000) (h2 : l.length ≤ 1000) :
 Ev (fun k => aI k 19 [.l b 0 n n] h) (fun v h' => v = .s (aK [] l) ∧ h' = h) := by
 refine Ev.enter (fun n => cUr n _ h) ?_
 unfold s19
 have e : pA 1 (.l b 0 n n) h = some (n, l.map .s) := nG S m (by simp [hn]) (fun v hv => by
  obtain ⟨t, _, rfl⟩ := List.mem_map.1 hv
  rfl)
 have e2 : mQ [.l b 0 n n, .s []] h = some (.s (aK [] l), h) := bIp (fun t e => by cases e) e h1 (by omega) (Nat.ble_eq_true_of_le (Nat.le_refl _))
 refine Ev.op e2 ?_
 exact eAs ⟨rfl, rfl⟩
theorem sN (c : Nat) : ∀ (s acc : List Nat), 1 ≤ (cA c acc s).length ∧ (cA c acc s).length ≤ s.length + 1
 | [], acc => by simp [cA]
 | x :: s, acc => by
  unfold cA
  cases Nat.beq x c with
  | true => have := sN c s []; simp; omega
  | false => have := sN c s (acc ++ [x]); simp; omega
theorem aPx {I : Im} {A Q L : Ls} {h : Hp} (S : Sy I A Q L h) {s : List Nat} (hs : s.length ≤ 1000000000) :
 Ev (fun n => aI n 33 [.s s] h) (fun v h' => ∃ J, ILe I J ∧ Sy J A Q L h' ∧ SS J v (cK s)) := by
 refine Ev.enter (fun n => cJz n _ h) ?_
 unfold s33
 obtain ⟨p1, p2⟩ := sN 58 s []
 generalize hps : cA 58 [] s = ps at p1 p2
 have e58 : Ev (fun n => aI n 58 [.s s, .s [58]] h) (fun v h' => v = .l h.next 0 ps.length ps.length ∧ h' = nw (.row .ex (ps.map .s)) h) := by
  refine Ev.enter (fun n => cRv n _ _ h) ?_
  unfold s58
  refine Ev.op (show dE (.s [58]) h = some (.i .i64 1, h) from rfl) ?_
  have e1 : Nat.ble s.length 4000000000 = true := Nat.ble_eq_true_of_le (by omega)
  have e : uM [.s s, .s [58], .i .i64 1, .i .i64 (Int.negSucc 0)] h = some (.l h.next 0 ps.length ps.length, nw (.row .ex (ps.map .s)) h) := by
   show (bif Nat.blt 58 256 then (bif Nat.ble s.length 4000000000 then (fun l => some (DV.l h.next 0 l.length l.length, (⟨h.next.succ, Tr.set (.row .ex (l.map DV.s)) h.next h.bl⟩ : Hp))) (cA 58 [] s) else none) else none) = _
   rw [e1, hps]
   rfl
  refine Ev.op e ?_
  exact eAs ⟨rfl, rfl⟩
 refine eAr e58 ?_
 rintro _ _ ⟨rfl, rfl⟩
 refine Ev.op (show dG (.l h.next 0 ps.length ps.length) (nw (.row .ex (ps.map .s)) h) = some (.i .i64 (ps.length : Int), nw (.row .ex (ps.map .s)) h) from rfl) ?_
 refine eBq ?_
 have S1 := S.new (.row .ex (ps.map DV.s))
 obtain ⟨S2, g⟩ := S1.freeze
 have hw : IntKind.i64.wrap ((ps.length : Int) - Int.ofNat 1) = ((ps.length - 1 : Nat) : Int) := by
  rw [show (ps.length : Int) - Int.ofNat 1 = ((ps.length - 1 : Nat) : Int) by simp; omega]
  have := dQn (a := ps.length - 1) (b := 0) (by simp only [bG]; omega)
  simpa [aG] using this
 rw [hw]
 have e : dB 1 (.l h.next 0 ps.length ps.length) none (some (.i .i64 ((ps.length - 1 : Nat) : Int))) (nw (.row .ex (ps.map DV.s)) h) = some (.l h.next 0 (ps.length - 1) ps.length, nw (.row .ex (ps.map DV.s)) h) := by
  have hg : (nw (.row .ex (ps.map DV.s)) h).bl.get h.next = some (.row .ex (ps.map DV.s)) := aGv h _
  have e1 : hiD (some (.i .i64 ((ps.length - 1 : Nat) : Int))) ps.length ps.length = some (ps.length - 1) := by
   show (if 0 ≤ ((ps.length - 1 : Nat) : Int) ∧ ((ps.length - 1 : Nat) : Int) ≤ (ps.length : Int) then some ((ps.length - 1 : Nat) : Int).toNat else none) = _
   rw [if_pos ⟨by omega, by omega⟩]
   rfl
  have e2 : loD none (ps.length - 1) = some 0 := rfl
  unfold dB
  simp only [e1, e2, hg]
  simp
 refine Ev.op e ?_
 have hpl : (cK s).length = ps.length - 1 := by simp [cK, hps]
 refine eAs ⟨_, g, S2, ?_, .inr ⟨h.next, 0, ps.length, .ex, ps.map .s, [.s (ps.getLast (by intro e0; rw [e0] at p1; simp at p1))], ?_, by omega, eCg _ _ _, ?_, ?_, ?_⟩⟩
 ·rw [hpl]; simp only [bG]; omega
 ·rw [hpl]
 ·have := List.dropLast_concat_getLast (l := ps) (by intro e0; rw [e0] at p1; simp at p1)
  simp only [cK, hps, List.drop_zero]
  conv => lhs; rw [← this]
  simp
 ·simp [cK, hps]
 ·intro v hv
  obtain ⟨t, _, rfl⟩ := List.mem_map.1 hv
  rfl
end Go.Dd

namespace Go.Dd
open Go.Proofs
theorem Sy.weak {I J : Im} {A Q L : Ls} {h : Hp} (S : Sy J A Q L h) (g : ILe I J) : Sy I A Q L h where
 wf := S.wf
 im := fun b o m => S.im b o (g b o m)
 loc := S.loc
 lt := S.lt
 nd := S.nd
 dj := fun b o m => by
  have := S.dj b o m
  cases e : I b with
  | none => rfl
  | some q => rw [g b q e] at this; cases this
def oS (x : Node) : Prop := ∀ (I : Im) (A Q L : Ls) (h : Hp) (cs : List DV), Sy I A Q L h → NV I x cs → (nf x).tx.length ≤ 100000000000 →
 Ev (fun n => aI n 36 [.a cs] h) (fun v h' => v = .s (nf x).tx ∧ Sy I A Q L h')
theorem cJk (n : Nat) (x y z : DV) (h : Hp) : aI (n + 1) 89 [x, y, z] h = s89 (aI n) n x y z h := by kernel_rfl
theorem cJb (n : Nat) (x y : DV) (h : Hp) : aI (n + 1) 90 [x, y] h = s90 (aI n) n x y h := by kernel_rfl
theorem cUq (n : Nat) (x y : DV) (h : Hp) : aI (n + 1) 61 [x, y] h = s61 (aI n) n x y h := by kernel_rfl
def cF (ks : List Node) : List (Nat × List Nat) := ks.map fun x => (nf x).ht
theorem oT {I : Im} {A Q L : Ls} {h : Hp} (S : Sy I A Q L h) {s : DV} {ks : List Node} (N : NS I s ks) (T : ∀ x ∈ ks, oS x) (i hh : Nat) (hl : (bD (cF ks) i hh).length ≤ 100000000000) :
 Ev (fun n => aI n 89 [s, .i .i64 (i : Int), .i .i64 (hh : Int)] h) (fun v h' => v = .s (bD (cF ks) i hh) ∧ Sy I A Q L h') := by
 refine Ev.enter (fun n => cJk n _ _ _ h) ?_
 unfold s89
 refine Ev.op (N.len _) ?_
 refine eBo (fun e1 => ?_) (fun e1 => ?_)
 ·refine yt ?_
  refine eAs ⟨?_, S⟩
  have : ks.length ≤ i := by omega
  simp [bD, cF, List.getElem?_eq_none this]
 ·refine yj ?_
  have hi : i < ks.length := by omega
  have hx : ks[i]? = some ks[i] := by simp [hi]
  generalize ks[i] = x at hx
  have Tx := T x (List.mem_of_getElem? hx)
  obtain ⟨b, o, c, ei, Nx, el⟩ := N.at hx
  have ew : bD (cF ks) i hh = if (nf x).ht.1 > hh then 40 :: ((nf x).tx ++ [41]) else (nf x).tx := by
   simp [bD, cF, hx, Nf.ht]
  rw [ew] at hl ⊢
  refine Ev.op (ei _) ?_
  refine Ev.op (el _ _ _ _ _ (ILe.refl _) S) ?_
  refine eAr (aPs S Nx) ?_
  rintro _ h5 ⟨rfl, S5⟩
  refine eBj (fun e2 => ?_) (fun e2 => ?_)
  ·have e2' : (nf x).ht.1 > hh := by omega
   rw [if_pos e2'] at hl ⊢
   refine yt ?_
   refine Ev.op (ei _) ?_
   refine Ev.op (el _ _ _ _ _ (ILe.refl _) S5) ?_
   refine eAr (Tx _ _ _ _ _ _ S5 Nx (by simp at hl; omega)) ?_
   rintro _ h9 ⟨rfl, S9⟩
   refine eBm S9 (cs := [.s [40], .s (nf x).tx, .s [41]]) (by simp [cU, cN]) ?_
   intro b1 h10 S10
   refine eAr (eN [[40], (nf x).tx, [41]] S10 (bX) rfl (by simp [aK] at hl ⊢; omega) (by simp)) ?_
   rintro _ _ ⟨rfl, rfl⟩
   refine eAs ⟨?_, S10.dropL⟩
   simp [aK]
  ·have e2' : ¬ (nf x).ht.1 > hh := by omega
   rw [if_neg e2'] at hl ⊢
   refine yj ?_
   refine Ev.op (ei _) ?_
   refine Ev.op (el _ _ _ _ _ (ILe.refl _) S5) ?_
   refine eAr (Tx _ _ _ _ _ _ S5 Nx hl) ?_
   rintro _ h9 ⟨rfl, S9⟩
   exact eAs ⟨rfl, S9⟩
theorem zT (sep : List Nat) : ∀ (l : List (List Nat)) (x : List Nat), x ∈ l → x.length ≤ (aK sep l).length
 | [], x, h => by simp at h
 | [y], x, h => by simp at h; subst h; simp [aK]
 | y :: z :: l, x, h => by
  rcases List.mem_cons.1 h with rfl | h
  ·simp [aK]
  ·have := zT sep (z :: l) x h
   simp only [aK, List.length_append]
   omega
theorem zQ : ∀ (ps : List (List Nat)) (a : List (Nat × List Nat)) (i : Nat), (dF ps a i).length = ps.length
 | [], a, i => rfl
 | p :: ps, a, i => by simp [dF, zQ ps a (i + 1)]
section
variable {I : Im} {A Q L : Ls} {s y : DV} {ks : List Node} {ps : List (List Nat)}
theorem aQa (N : NS I s ks) (T : ∀ x ∈ ks, oS x) (Y : SS I y ps) : ∀ (r : List (List Nat)) (i j : Nat) (B : Ls) (h : Hp) (x : DV) (acc : List (List Nat)), ps.drop i = r → i ≤ ps.length → Sy I (B ++ A) Q L h → Gr I 1 B x acc.length (acc.map .s) →
 (aK [32] (acc ++ dF r (cF ks) i)).length ≤ 100000000000 → acc.length + r.length ≤ bG →
 Ev (fun n => oD (aI n) n (n - j) s x y (.i .i64 (ps.length : Int)) (.i .i64 (i : Int)) h) (fun v h' => v = .s (aK [32] (acc ++ dF r (cF ks) i)) ∧ Sy I A Q L h')
 | [], i, j, B, h, x, acc, hr, hi, S, G, hl, hc => by
  refine eAw j (ll := fun n m => oD (aI n) n m s x y (.i .i64 (ps.length : Int)) (.i .i64 (i : Int)) h) (bb := fun n m => vL (aI n) n (oD (aI n) n m) s x y (.i .i64 (ps.length : Int)) (.i .i64 (i : Int)) h) (fun _ _ => rfl) ?_
  unfold vL
  have hle : ps.length ≤ i := List.drop_eq_nil_iff.1 hr
  refine eBa (fun e1 => absurd e1 (by omega)) (fun e1 => ?_)
  refine eBk ?_
  unfold hO
  simp only [dF, List.append_nil] at hl ⊢
  obtain ⟨J, gJ, S3, F3⟩ := G.freeze S
  refine Ev.op (SS.join (I := J) ⟨by simpa using hc, F3⟩ S3 hl) ?_
  exact eAs ⟨rfl, S3.weak gJ⟩
 | p :: r, i, j, B, h, x, acc, hr, hi, S, G, hl, hc => by
  refine eAw j (ll := fun n m => oD (aI n) n m s x y (.i .i64 (ps.length : Int)) (.i .i64 (i : Int)) h) (bb := fun n m => vL (aI n) n (oD (aI n) n m) s x y (.i .i64 (ps.length : Int)) (.i .i64 (i : Int)) h) (fun _ _ => rfl) ?_
  unfold vL
  have hlim : ps.length ≤ bG := Y.1
  have hi' : i < ps.length := by
   rcases Nat.lt_or_ge i ps.length with h | h
   ·exact h
   ·rw [List.drop_eq_nil_of_le h] at hr; cases hr
  have hx : ps[i]? = some p := by
   have : (ps.drop i)[0]? = some p := by rw [hr]; rfl
   simpa [aG] using this
  have hr2 : ps.drop (i + 1) = r := by
   have := jL hx
   rw [hr] at this
   simpa [aG] using this.symm
  refine eBa (fun e1 => ?_) (fun e1 => absurd (show (i : Int) < ps.length by omega) e1)
  refine eCb ?_
  obtain ⟨b, o, ei, el⟩ := Y.at S hx
  refine Ev.op (ei _) ?_
  refine Ev.op el ?_
  have hmem : (p ++ 32 :: bD (cF ks) i 2) ∈ acc ++ dF (p :: r) (cF ks) i := by simp [dF]
  have hp := zT [32] _ _ hmem
  have hp' : (p ++ 32 :: bD (cF ks) i 2).length ≤ 100000000000 := Nat.le_trans hp hl
  simp only [List.length_append, List.length_cons] at hp'
  refine eAr (oT S N T i 2 (by omega)) ?_
  rintro _ h6 ⟨rfl, S6⟩
  refine eBm S6 (cs := [.s p, .s [32], .s (bD (cF ks) i 2)]) (by simp [cU, cN]) ?_
  intro b1 h7 S7
  refine eAr (eN [p, [32], bD (cF ks) i 2] S7 (bX) rfl (by simp [aK]; omega) (by simp)) ?_
  rintro _ _ ⟨rfl, rfl⟩
  have ej : aK [] [p, [32], bD (cF ks) i 2] = p ++ 32 :: bD (cF ks) i 2 := by simp [aK]
  rw [ej]
  refine eBm S7 (cs := [.s (p ++ 32 :: bD (cF ks) i 2)]) rfl ?_
  intro b2 h9 S9
  obtain ⟨x4, h4, B4, e4, S4, G4⟩ := lI G S9 (bX) (by simp at hc; omega)
  refine Ev.op e4 ?_
  refine eAx ?_
  rw [gC (by omega)]
  have := aQa N T Y r (i + 1) (j + 1) B4 h4 x4 (acc ++ [p ++ 32 :: bD (cF ks) i 2]) hr2 (by omega) S4.dropL.dropL G4 (by simpa [aG, dF] using hl) (by simp at hc ⊢; omega)
  simpa [aG, dF] using this
end
end Go.Dd

namespace Go.Dd
open Go.Proofs
theorem Fz.restA {I : Im} {sz : Nat} {s : DV} {len : Nat} {cells : List DV} (H : Fz I sz s len cells) {i : Nat} (hi : i ≤ len) (h0 : 0 < len) :
 ∃ s', (∀ (A Q L : Ls) (h : Hp), Sy I A Q L h → dB sz s (some (.i .i64 (Int.ofNat i))) none h = some (s', h)) ∧ Fz I sz s' (len - i) (cells.drop (i * sz)) := by
 rcases H with ⟨_, rfl, _⟩ | ⟨b, o, cap, k, row, rest, rfl, h2, h3, h4, h5, h6⟩
 ·omega
 ·have hle : i * sz ≤ cells.length := by rw [h5]; exact Nat.mul_le_mul_right _ (by omega)
  have hd : row.drop (o + i * sz) = cells.drop (i * sz) ++ rest := by
   rw [← List.drop_drop, h4, List.drop_append_of_le_length hle]
  have e1 : hiD none len cap = some len := by simp [hiD, h2]
  have e2 : loD (some (.i .i64 (Int.ofNat i))) len = some i := by
   show (if 0 ≤ (Int.ofNat i) ∧ (Int.ofNat i) ≤ (len : Int) then some (Int.ofNat i).toNat else none) = _
   have hi' : (Int.ofNat i) = (i : Int) := rfl
   rw [if_pos ⟨by omega, by omega⟩]
   rfl
  have hlen : (cells.drop (i * sz)).length = (len - i) * sz := by rw [List.length_drop, h5, Nat.sub_mul]
  by_cases hc : cap = i
  ·have hz : len - i = 0 := by omega
   have hnil : cells.drop (i * sz) = [] := List.eq_nil_of_length_eq_zero (by rw [hlen, hz]; simp)
   by_cases hk : k = .ro ∨ k = .ex
   ·refine ⟨.l b o (len - i) (cap - i), fun A Q L h S => ?_, .inr ⟨b, o, cap - i, k, row, row.drop o, rfl, by omega, h3, ?_, hlen, fun v hv => h6 v (List.mem_of_mem_drop hv)⟩⟩
    ·have hg := S.im _ _ h3
     unfold dB
     simp only [e1, e2, hg]
     rcases hk with rfl | rfl <;> simp [hc]
    ·rw [hnil]; rfl
   ·refine ⟨.le, fun A Q L h S => ?_, ?_⟩
    ·have hg := S.im _ _ h3
     unfold dB
     simp only [e1, e2, hg]
     cases k with
     | ro => exact absurd (.inl rfl) hk
     | ex => exact absurd (.inr rfl) hk
     | gr es => simp [hc]
     | sp => simp [hc]
    ·rw [hz, hnil]
     exact .inl ⟨.inr rfl, rfl, rfl⟩
  ·refine ⟨.l b (o + i * sz) (len - i) (cap - i), fun A Q L h S => ?_, .inr ⟨b, o + i * sz, cap - i, k, row, rest, rfl, by omega, h3, hd, hlen, fun v hv => h6 v (List.mem_of_mem_drop hv)⟩⟩
   unfold dB
   simp only [e1, e2, S.im _ _ h3]
   cases k <;> simp [hc]
theorem NS.restA {I : Im} {s : DV} {ks : List Node} (N : NS I s ks) {i : Nat} (hi : i ≤ ks.length) (h0 : 0 < ks.length) :
 ∃ s', (∀ (A Q L : Ls) (h : Hp), Sy I A Q L h → dB 6 s (some (.i .i64 (Int.ofNat i))) none h = some (s', h)) ∧ NS I s' (ks.drop i) := by
 obtain ⟨hl, cells, F, NL⟩ := N
 obtain ⟨s', e, F'⟩ := F.restA hi h0
 exact ⟨s', e, by rw [List.length_drop]; omega, cells.drop (i * 6), by simpa using F', NL.drop i⟩
section
variable {I : Im} {A Q L : Ls} {h : Hp} {s : DV} {ks : List Node} {t : List Nat}
theorem tV (S : Sy I A Q L h) (N : NS I s ks) (T : ∀ x ∈ ks, oS x) (hs : t.length ≤ 1000000000) (hl : (bE t (cF ks)).length ≤ 100000000000) :
 Ev (fun n => aI n 90 [.s t, s] h) (fun v h' => v = .s (bE t (cF ks)) ∧ Sy I A Q L h') := by
 refine Ev.enter (fun n => cJb n _ _ h) ?_
 unfold s90 aYy
 refine eAr (qB t h) ?_
 rintro _ h ⟨rfl, rfl⟩
 refine eAv (fun e1 => ?_) (fun e1 => ?_)
 ·have e1' : bW t = 1 := by have h0 := e1; simp at h0; omega
  refine eCb ?_
  refine eAs ⟨?_, S⟩
  rw [bE, if_pos e1']
 ·have e1' : ¬ bW t = 1 := by have h0 := e1; simp at h0; omega
  refine eBk ?_
  refine eAv (fun e2 => ?_) (fun e2 => ?_)
  ·have e2' : bW t = 2 := by have h0 := e2; simp at h0; omega
   have em : bE t (cF ks) = t ++ 32 :: bD (cF ks) 0 1 := by rw [bE, if_neg e1', if_pos e2']
   rw [em] at hl ⊢
   simp only [List.length_append, List.length_cons] at hl
   refine eCb ?_
   refine eAr (oT S N T 0 1 (by omega)) ?_
   rintro _ h6 ⟨rfl, S6⟩
   refine eBm S6 (cs := [.s t, .s [32], .s (bD (cF ks) 0 1)]) (by simp [cU, cN]) ?_
   intro b1 h7 S7
   refine eAr (eN [t, [32], bD (cF ks) 0 1] S7 (bX) rfl (by simp [aK]; omega) (by simp)) ?_
   rintro _ _ ⟨rfl, rfl⟩
   refine eAs ⟨?_, S7.dropL⟩
   simp [aK]
  ·have e2' : ¬ bW t = 2 := by have h0 := e2; simp at h0; omega
   have em : bE t (cF ks) = aK [32] (dF (cK t) (cF ks) 0) := by rw [bE, if_neg e1', if_neg e2']
   rw [em] at hl ⊢
   refine eBk ?_
   unfold bIh bHm
   refine eAr (aPx S hs) ?_
   rintro v h1 ⟨J, g, S1, Y⟩
   refine Ev.op (Y.2.len _) ?_
   unfold bCz cBt
   refine (aQa (A := A) (N.mono g) T Y (cK t) 0 0 [] h1 .l0 [] rfl (Nat.zero_le _) S1 (Gr.nil J 1) (by simpa using hl) (by simpa using Y.1)).mono ?_
   rintro v h' ⟨e, S2⟩
   exact ⟨by simpa using e, S2.weak g⟩
theorem aEj (S : Sy I A Q L h) (N : NS I s ks) (T : ∀ x ∈ ks, oS x) (hs : t.length ≤ 1000000000) (hl : (dT t (cF ks)).length ≤ 100000000000) :
 Ev (fun n => aI n 61 [.s t, s] h) (fun v h' => v = .s (dT t (cF ks)) ∧ Sy I A Q L h') := by
 refine Ev.enter (fun n => cUq n _ _ h) ?_
 unfold s61 cWs
 have hil : (cF ks).length = ks.length := by simp [cF]
 refine Ev.op (N.len _) ?_
 refine eAv (fun e1 => ?_) (fun e1 => ?_)
 ·have e1' : ks.length = 0 := by have h0 := e1; simp at h0; simp [h0]
  refine eCb ?_
  refine eAs ⟨?_, S⟩
  rw [dT, if_pos (by omega)]
 ·have e1' : ¬ ks.length = 0 := fun e => e1 (by rw [e]; rfl)
  refine eBk ?_
  unfold cWm cWv
  have go : ∀ (hh : Nat), hh = (if bW t = 1 then 1 else 2) → Ev (fun n => bGq (aI n) n (.s t) s (.i .i64 (hh : Int)) h) (fun v h' => v = .s (dT t (cF ks)) ∧ Sy I A Q L h') := by
   intro hh eh
   have em : dT t (cF ks) = bD (cF ks) 0 hh ++ 32 :: bE t (cF (ks.drop 1)) := by
    rw [dT, if_neg (by omega), eh]
    simp [cF]
   rw [em] at hl ⊢
   simp only [List.length_append, List.length_cons] at hl
   unfold bGq
   obtain ⟨s', er, N'⟩ := N.restA (i := 1) (by omega) (by omega)
   have Sr := S.res
   refine eAr (oT Sr N T 0 hh (by omega)) ?_
   rintro _ h1 ⟨rfl, S1⟩
   refine Ev.op (er _ _ _ _ S1) ?_
   refine Ev.cnd ?_ ?_
   ·rw [er _ _ _ _ Sr]
    have : DV.beq s' s' = true := N'.2.choose_spec.1.beq
    simp [bM, this]
   refine eAr (tV S1 N' (fun x hx => T x (List.mem_of_mem_drop hx)) hs (by omega)) ?_
   rintro _ h3 ⟨rfl, S3⟩
   refine eBl S3 (cs := [.s (bD (cF ks) 0 hh), .s [32], .s (bE t (cF (ks.drop 1)))]) (Rpl.head _) (by simp [cU, cN]) ?_
   intro h4 S4
   refine eAr (eN [bD (cF ks) 0 hh, [32], bE t (cF (ks.drop 1))] S4 (bX) rfl (by simp [aK] at hl ⊢; omega) (by simp)) ?_
   rintro _ _ ⟨rfl, rfl⟩
   refine eAs ⟨?_, S4.dropL⟩
   simp [aK]
  refine eAr (qB t h) ?_
  rintro _ h ⟨rfl, rfl⟩
  refine eAv (fun e2 => ?_) (fun e2 => ?_)
  ·have e2' : bW t = 1 := by have h0 := e2; simp at h0; omega
   refine eCb ?_
   exact go 1 (by rw [if_pos e2'])
  ·have e2' : ¬ bW t = 1 := by have h0 := e2; simp at h0; omega
   refine eBk ?_
   exact go 2 (by rw [if_neg e2'])
end
end Go.Dd

namespace Go.Dd
open Go.Proofs
theorem cVw (n : Nat) (x y z : DV) (h : Hp) : aI (n + 1) 35 [x, y, z] h = s35 (aI n) n x y z h := by kernel_rfl
theorem dIg (rec : FuncId → List DV → Hp → aF) (x : DV) (h : Hp) : eA CF rec (.f 36 [] []) [x] h = rec 36 [x] h := by kernel_rfl
def HowOk (hw : DV) (g : Node → List Nat) (x : Node) : Prop := ∀ (I : Im) (A Q L : Ls) (h : Hp) (cs : List DV), Sy I A Q L h → NV I x cs → (g x).length ≤ 100000000000 →
 Ev (fun n => eA CF (aI n) hw [.a cs] h) (fun v h' => v = .s (g x) ∧ Sy I A Q L h')
theorem HowOk.text {x : Node} (T : oS x) : HowOk (.f 36 [] []) (fun x => (nf x).tx) x := by
 intro I A Q L h cs S N hl
 have := T I A Q L h cs S N hl
 have e : (fun n => eA CF (aI n) (.f 36 [] []) [.a cs] h) = fun n => aI n 36 [.a cs] h := funext fun n => dIg _ _ _
 rw [e]
 exact this
section
variable {I : Im} {A Q L : Ls} {s hw : DV} {ks : List Node} {sep : List Nat} {g : Node → List Nat}
theorem aRe (N : NS I s ks) (T : ∀ x ∈ ks, HowOk hw g x) : ∀ (r : List Node) (i j : Nat) (B : Ls) (h : Hp) (x : DV) (acc : List (List Nat)), ks.drop i = r → Sy I (B ++ A) Q L h → Gr I 1 B x acc.length (acc.map .s) →
 (aK sep (acc ++ r.map g)).length ≤ 100000000000 → acc.length + r.length ≤ bG →
 Ev (fun n => nE (aI n) n (n - j) (.s sep) hw x s (.i .i64 (ks.length : Int)) (.i .i64 (i : Int)) h) (fun v h' => v = .s (aK sep (acc ++ r.map g)) ∧ Sy I A Q L h')
 | [], i, j, B, h, x, acc, hr, S, G, hl, hc => by
  refine eAw j (ll := fun n m => nE (aI n) n m (.s sep) hw x s (.i .i64 (ks.length : Int)) (.i .i64 (i : Int)) h) (bb := fun n m => vJ (aI n) n (nE (aI n) n m) (.s sep) hw x s (.i .i64 (ks.length : Int)) (.i .i64 (i : Int)) h) (fun _ _ => rfl) ?_
  unfold vJ
  have hle : ks.length ≤ i := List.drop_eq_nil_iff.1 hr
  refine eBa (fun e1 => absurd e1 (by omega)) (fun e1 => ?_)
  refine eBk ?_
  unfold gY
  simp only [List.map_nil, List.append_nil] at hl ⊢
  obtain ⟨J, gJ, S3, F3⟩ := G.freeze S
  refine Ev.op (SS.join (I := J) ⟨by simpa using hc, F3⟩ S3 hl) ?_
  exact eAs ⟨rfl, S3.weak gJ⟩
 | y :: r, i, j, B, h, x, acc, hr, S, G, hl, hc => by
  refine eAw j (ll := fun n m => nE (aI n) n m (.s sep) hw x s (.i .i64 (ks.length : Int)) (.i .i64 (i : Int)) h) (bb := fun n m => vJ (aI n) n (nE (aI n) n m) (.s sep) hw x s (.i .i64 (ks.length : Int)) (.i .i64 (i : Int)) h) (fun _ _ => rfl) ?_
  unfold vJ
  have hlim : ks.length ≤ bG := N.1
  have hi' : i < ks.length := by
   rcases Nat.lt_or_ge i ks.length with h | h
   ·exact h
   ·rw [List.drop_eq_nil_of_le h] at hr; cases hr
  have hx : ks[i]? = some y := by
   have : (ks.drop i)[0]? = some y := by rw [hr]; rfl
   simpa [aG] using this
  have hr2 : ks.drop (i + 1) = r := by
   have := jL hx
   rw [hr] at this
   simpa [aG] using this.symm
  refine eBa (fun e1 => ?_) (fun e1 => absurd (show (i : Int) < ks.length by omega) e1)
  refine eCb ?_
  obtain ⟨b, o, c, ei, Nx, el⟩ := N.at hx
  obtain ⟨c1, o1, b1⟩ := Nx.shape
  have hmem : g y ∈ acc ++ (y :: r).map g := by simp
  have hp := Nat.le_trans (zT sep _ _ hmem) hl
  refine Ev.op (ei _) ?_
  refine Ev.op (el _ _ _ _ _ (ILe.refl _) S) ?_
  refine wa fun _ _ _ => ?_; refine wt fun _ _ => ?_; refine ws ?_
  refine eAr (T y (List.mem_of_getElem? hx) _ _ _ _ _ _ (by assumption) Nx hp) ?_
  rintro _ h9 ⟨rfl, S9⟩
  refine eBm S9 (cs := [.s (g y)]) rfl ?_
  intro b2 h10 S10
  obtain ⟨x4, h4, B4, e4, S4, G4⟩ := lI G S10 (bX) (by simp at hc; omega)
  refine Ev.op e4 ?_
  refine eAx ?_
  rw [gC (by omega)]
  have := aRe N T r (i + 1) (j + 1) B4 h4 x4 (acc ++ [g y]) hr2 (dp) G4 (by simpa using hl) (by simp at hc ⊢; omega)
  simpa [aG] using this
theorem aCy {h : Hp} (S : Sy I A Q L h) (N : NS I s ks) (T : ∀ x ∈ ks, HowOk hw g x) (hl : (aK sep (ks.map g)).length ≤ 100000000000) :
 Ev (fun n => aI n 35 [s, .s sep, hw] h) (fun v h' => v = .s (aK sep (ks.map g)) ∧ Sy I A Q L h') := by
 refine Ev.enter (fun n => cVw n _ _ _ h) ?_
 unfold s35 aXf bFq
 refine Ev.op (N.len _) ?_
 unfold bFp bWn
 have := aRe (A := A) (Q := Q) (L := L) (sep := sep) N T ks 0 0 [] h .l0 [] rfl S (Gr.nil I 1) (by simpa using hl) (by simpa using N.1)
 simpa [aG] using this
end
end Go.Dd

