/- A part of the proof: T6 T7 T8 T9 T10 T11 T12 T13 T14 U1 U2 U3 T15 T16 T17 T18 U4 T19 Z1 Z4 P0 P1: each text has a comment of its own. -/
import Derived.Test.YtliejomdaookoaaGreatDoorSd2
set_option linter.unusedVariables false
set_option linter.unusedSimpArgs false
set_option linter.constructorNameAsVariable false
set_option maxRecDepth 100000
namespace Go.Dd
open Go.Proofs
theorem bYk (n : Nat) (x : DV) (h : Hp) : aJ (n + 1) 153 [x] h = s153 (aJ n) n x h := by kernel_rfl
theorem bMg (n : Nat) (x : DV) (h : Hp) : aJ (n + 1) 152 [x] h = s152 (aJ n) n x h := by kernel_rfl
theorem bYv (n : Nat) (x : DV) (h : Hp) : aJ (n + 1) 50 [x] h = s50 (aJ n) n x h := by kernel_rfl
theorem bMw (n : Nat) (x : DV) (h : Hp) : aJ (n + 1) 154 [x] h = s154 (aJ n) n x h := by kernel_rfl
theorem bQp (n : Nat) (x : DV) (h : Hp) : aJ (n + 1) 137 [x] h = s137 (aJ n) n x h := by kernel_rfl
theorem bSg (n : Nat) (x y : DV) (h : Hp) : aJ (n + 1) 135 [x, y] h = s135 (aJ n) n x y h := by kernel_rfl
theorem bQi (n : Nat) (x y : DV) (h : Hp) : aJ (n + 1) 134 [x, y] h = s134 (aJ n) n x y h := by kernel_rfl
theorem bQu (n : Nat) (x : DV) (h : Hp) : aJ (n + 1) 139 [x] h = s139 (aJ n) n x h := by kernel_rfl
theorem bIn (n : Nat) (x : DV) (h : Hp) : aJ (n + 1) 114 [x] h = s114 (aJ n) n x h := by kernel_rfl
theorem cIr (n : Nat) (x : DV) (h : Hp) : aJ (n + 1) 79 [x] h = s79 (aJ n) n x h := by kernel_rfl
theorem aWx (rec : FuncId → List DV → Hp → aH) (x : DV) (h : Hp) : dS CF rec (.f 152 [x] []) [] h = rec 152 [x] h := by kernel_rfl
theorem cKi (rec : FuncId → List DV → Hp → aH) (x : DV) (h : Hp) : dS CF rec (.f 153 [x] []) [] h = rec 153 [x] h := by kernel_rfl
theorem cCb (rec : FuncId → List DV → Hp → aH) (x : DV) (h : Hp) : dS CF rec (.f 154 [x] []) [] h = rec 154 [x] h := by kernel_rfl
theorem bJm {E : PF} (HE : sA 79 E) : sA 153 (tB E) := by
 intro I A L h p s st x st' S T hm
 unfold tB at hm
 obtain ⟨⟨y, st1⟩, hy, hm⟩ := aT hm
 obtain ⟨⟨t, st2⟩, ht, hm⟩ := aT hm
 simp only [Option.some.injEq, Prod.mk.injEq] at hm
 obtain ⟨rfl, rfl⟩ := hm
 refine Ev.enter (fun n => bYk n _ h) ?_
 unfold s153
 refine wa fun _ _ _ => ?_
 refine Ev.call (HE _ _ _ _ _ _ _ _ _ (by assumption) T hy) ?_
 rintro _ _ ⟨J, s1, cs, rfl, g1, S1, T1, N1⟩
 obtain ⟨l1, o1, b1⟩ := N1.shape
 refine wa fun _ _ _ => ?_; refine wt fun _ _ => ?_
 refine Ev.call (oY (by assumption) T1 ht) ?_
 rintro _ _ ⟨rfl, s2, S2, T2⟩
 refine ws ?_; refine wt fun _ _ => ?_; refine ws ?_
 exact Ev.ret ⟨J, s2, cs, rfl, g1, dp, T2, N1⟩
theorem dZ {I : Im} {B A Q L : Ls} {h : Hp} {x : DV} {xs : List Node} {cells : List DV} (G : Gr I 6 B x xs.length cells) (NL : NVL I xs cells) {y : Node} {cs : List DV} (N : NV I y cs) {b : Pos}
 (S : Sy I (B ++ A) Q L h) (m : (b, some (.row .ex cs)) ∈ L) (hl : xs.length + 1 ≤ bL) :
 ∃ x' h' B' cells', aX 6 104 x (.l b 0 1 1) h = some (x', h') ∧ Sy I (B' ++ A) Q L h' ∧ Gr I 6 B' x' (xs ++ [y]).length cells' ∧ NVL I (xs ++ [y]) cells' := by
 obtain ⟨l1, o1, b1⟩ := N.shape
 have hr : (xs.length + 1) * 104 ≤ eM := by simp [eM, bL] at hl ⊢; omega
 obtain ⟨x4, h4, B4, e4, S4, G4⟩ := G.app S (nB S (n := 1) m (by omega) o1) (by omega) o1 (by omega) hr
 exact ⟨x4, h4, B4, cells ++ cs, e4, S4, by simpa using G4, NL.app (NVL.single N)⟩
theorem Gr.nodes {I : Im} {B A Q L : Ls} {h : Hp} {x : DV} {xs : List Node} {cells : List DV} (G : Gr I 6 B x xs.length cells) (NL : NVL I xs cells) (S : Sy I (B ++ A) Q L h) (hl : xs.length ≤ bL) :
 ∃ J, ILe I J ∧ Sy J A Q L h ∧ NS J x xs := by
 obtain ⟨J, gJ, S3, F3⟩ := G.freeze S
 exact ⟨J, gJ, S3, hl, cells, F3, NL.mono gJ⟩
theorem xK {E : PF} (HE : sA 79 E) : ∀ (f j : Nat) (I : Im) (B A L : Ls) (h : Hp) (p : Pos) (s x : DV) (st : PSt) (xs ys : List Node) (cells : List DV) (st' : PSt), Sy I (B ++ A) [PS p s st] L h → Gr I 6 B x xs.length cells → NVL I xs cells →
 xs.length + f ≤ bL → TS' I s st.toks → iO E f xs st = some (ys, st') →
 Ev (fun n => qN (aJ n) n (n - j) (.p p 0) x h) (fun v h' => ∃ J s', ILe I J ∧ Sy J A [PS p s' st'] L h' ∧ TS' J s' st'.toks ∧ NS J v ys)
 | 0, j, I, B, A, L, h, p, s, x, st, xs, ys, cells, st', S, G, NL, hl, T, hm => by cases hm
 | f + 1, j, I, B, A, L, h, p, s, x, st, xs, ys, cells, st', S, G, NL, hl, T, hm => by
  unfold iO at hm
  refine Ev.loop j (ll := fun n m => qN (aJ n) n m (.p p 0) x h) (bb := fun n m => aEd (aJ n) n (qN (aJ n) n m) (.p p 0) x h) (fun _ _ => rfl) ?_
  have hs := T.2.one
  unfold aEd iN
  refine wn ?_; refine wf ?_; refine wq ?_
  have fin : ∀ h', Sy I (B ++ A) [PS p s st] L h' → some (xs, st) = some (ys, st') → Ev (fun _ => some (x, h')) (fun v h' => ∃ J s', ILe I J ∧ Sy J A [PS p s' st'] L h' ∧ TS' J s' st'.toks ∧ NS J v ys) := by
   intro h' S' hm
   simp only [Option.some.injEq, Prod.mk.injEq] at hm
   obtain ⟨rfl, rfl⟩ := hm
   obtain ⟨J, gJ, S3, N3⟩ := G.nodes NL S' (by omega)
   exact Ev.ret ⟨J, s, gJ, S3, T.mono gJ, N3⟩
  refine Ev.ieq (fun e1 => ?_) (fun e1 => ?_)
  ·rw [if_pos (show st.err = 0 from e1)] at hm
   refine zt ?_; refine wm ?_; refine zt ?_
   obtain ⟨c, hc, hm⟩ := aT hm
   refine Ev.call (fD (by assumption) T hc) ?_
   rintro _ _ ⟨rfl, S1⟩
   cases c with
   | true =>
    refine zt ?_; refine an ?_; refine ap ?_; refine yf ?_; refine yf ?_; refine yf ?_; refine aq ?_; refine yj ?_
    exact fin _ S1 (by simpa using hm)
   | false =>
    refine zt ?_; refine ao ?_; refine ap ?_; refine zt ?_; refine wm ?_; refine zt ?_
    rw [if_neg (by simp)] at hm
    obtain ⟨c, hc, hm⟩ := aT hm
    refine Ev.call (fD (by assumption) T hc) ?_
    rintro _ _ ⟨rfl, S2⟩
    cases c with
    | true =>
     refine zt ?_; refine an ?_; refine ap ?_; refine yj ?_
     exact fin _ S2 (by simpa using hm)
    | false =>
     refine zt ?_; refine ao ?_; refine ap ?_; refine yt ?_
     rw [if_neg (by simp)] at hm
     obtain ⟨c, hc, hm⟩ := aT hm
     unfold cQb
     refine Ev.call (fD (by assumption) T hc) ?_
     rintro _ _ ⟨rfl, S3⟩
     unfold cOw
     cases c with
     | true =>
      refine yt ?_
      rw [if_pos rfl] at hm
      obtain ⟨⟨t, st1⟩, ht, hm⟩ := aT hm
      obtain ⟨⟨y, st2⟩, hy, hm⟩ := aT hm
      obtain ⟨d, hd, hm⟩ := aT hm
      unfold cOg
      refine Ev.call (cV S3 T ht) ?_
      rintro _ _ ⟨rfl, s4, S4, T4⟩
      unfold cPr
      refine Ev.call (HE _ _ _ _ _ _ _ _ _ S4 T4 hy) ?_
      rintro _ _ ⟨J, s5, cs, rfl, g5, S5, T5, N5⟩
      obtain ⟨l5, o5, b5⟩ := N5.shape
      refine Ev.bs S5 (eX l5) ?_
      intro b6 h6 S6
      obtain ⟨K, g7, S7, F7, _⟩ := Fz.built (sz := 6) (n := 1) S6 (by omega) o5
      have N7 : NS K _ [y] := ⟨by simp [bL], cs, F7, NVL.single (N5.mono g7)⟩
      have o7 := N7.one
      refine wd ?_
      have N8 := NV.of (I := K) (k := 10) (t := []) (m := 0) (SS.nil K) (SS.nil K) N7
      obtain ⟨l8, o8, b8⟩ := N8.shape
      refine Ev.bs S7 (eX l8) ?_
      intro b9 h9 S9
      obtain ⟨x10, h10, B10, cells10, e10, S10, G10, NL10⟩ := dZ ((G.mono g5).mono g7) ((NL.mono g5).mono g7) N8 S9 (List.Mem.head _) (by omega)
      refine Ev.op e10 ?_
      unfold bQn aQo
      refine Ev.call (fD S10.dropL (T5.mono g7) hd) ?_
      rintro _ _ ⟨rfl, S11⟩
      have fin2 : ∀ h' s', Sy K (B10 ++ A) [PS p s' st'] L h' → TS' K s' st'.toks → ys = xs ++ [.mk 10 [] 0 [] [] [y]] → Ev (fun _ => some (x10, h')) (fun v h' => ∃ J s', ILe I J ∧ Sy J A [PS p s' st'] L h' ∧ TS' J s' st'.toks ∧ NS J v ys) := by
       intro h' s' S' T' e
       subst e
       obtain ⟨M, gM, S12, N12⟩ := G10.nodes NL10 S' (by simp; omega)
       exact Ev.ret ⟨M, s', (g5.trans g7).trans gM, S12, T'.mono gM, N12⟩
      cases d with
      | true =>
       refine yt ?_
       rw [if_pos rfl] at hm
       obtain ⟨⟨t2, st3⟩, ht2, hm⟩ := aT hm
       simp only [Option.some.injEq, Prod.mk.injEq] at hm
       obtain ⟨rfl, rfl⟩ := hm
       refine Ev.call (cV S11 (T5.mono g7) ht2) ?_
       rintro _ _ ⟨rfl, s18, S13, T13⟩
       exact fin2 _ s18 S13 T13 rfl
      | false =>
       refine yj ?_
       rw [if_neg (by simp)] at hm
       simp only [Option.some.injEq, Prod.mk.injEq] at hm
       obtain ⟨rfl, rfl⟩ := hm
       exact fin2 _ s5 S11 (T5.mono g7) rfl
     | false =>
      refine yj ?_
      rw [if_neg (by simp)] at hm
      obtain ⟨⟨y, st2⟩, hy, hm⟩ := aT hm
      obtain ⟨d, hd, hm⟩ := aT hm
      unfold cPy
      refine Ev.call (HE _ _ _ _ _ _ _ _ _ S3 T hy) ?_
      rintro _ _ ⟨J, s5, cs, rfl, g5, S5, T5, N5⟩
      obtain ⟨l5, o5, b5⟩ := N5.shape
      refine Ev.bs S5 (eX l5) ?_
      intro b6 h6 S6
      obtain ⟨x10, h10, B10, cells10, e10, S10, G10, NL10⟩ := dZ (G.mono g5) (NL.mono g5) N5 S6 (List.Mem.head _) (by omega)
      refine Ev.op e10 ?_
      refine Ev.call (fD S10.dropL T5 hd) ?_
      rintro _ _ ⟨rfl, S11⟩
      cases d with
      | true =>
       refine an ?_; refine yj ?_
       rw [if_pos rfl] at hm
       obtain ⟨⟨t2, st3⟩, ht2, hm⟩ := aT hm
       refine Ev.call (cV S11 T5 ht2) ?_
       rintro _ _ ⟨rfl, s18, S13, T13⟩
       refine (xK HE f (j + 1) J B10 A L _ p s18 x10 st3 (xs ++ [y]) ys cells10 st' S13 G10 NL10 (by simp; omega) T13 hm).mono ?_
       rintro v h' ⟨M, s', gM, r⟩
       exact ⟨M, s', g5.trans gM, r⟩
      | false =>
       refine ao ?_; refine yt ?_
       rw [if_neg (by simp)] at hm
       simp only [Option.some.injEq, Prod.mk.injEq] at hm
       obtain ⟨rfl, rfl⟩ := hm
       obtain ⟨M, gM, S12, N12⟩ := G10.nodes NL10 S11 (by simp; omega)
       exact Ev.ret ⟨M, s5, g5.trans gM, S12, T5.mono gM, N12⟩
  ·rw [if_neg (show ¬ st.err = 0 from e1)] at hm
   refine yf ?_; refine yf ?_; refine yf ?_; refine aq ?_; refine yf ?_; refine yf ?_; refine yf ?_; refine aq ?_; refine yj ?_
   exact fin _ (by assumption) hm
theorem aLf {E : PF} (HE : sA 79 E) {I : Im} {A L : Ls} {h : Hp} {p : Pos} {s : DV} {st : PSt} (f : Nat) (hf : f ≤ bL) (S : Sy I A [PS p s st] L h) (T : TS' I s st.toks) {ys : List Node} {st' : PSt} (hm : iO E f [] st = some (ys, st')) :
 Ev (fun n => aJ n 50 [.p p 0] h) (fun v h' => ∃ J s', ILe I J ∧ Sy J A [PS p s' st'] L h' ∧ TS' J s' st'.toks ∧ NS J v ys) := by
 refine Ev.enter (fun n => bYv n _ h) ?_
 unfold s50 bCt aXw bLq
 exact xK HE f 0 I [] A L h p s .l0 st [] ys [] st' S (Gr.nil I 6) rfl (by simpa using hf) T hm
end Go.Dd

namespace Go.Dd
open Go.Proofs
theorem aCt {LI : PF} (HL : sA 152 LI) : ∀ (f j : Nat) (I : Im) (B A L : Ls) (h : Hp) (p : Pos) (s x : DV) (st : PSt) (xs ys : List Node) (cells z : List DV) (st' : PSt) (b2 b3 : Pos),
 Sy I (B ++ A) [PS p s st] ((b3, some (.row .ex [.i .i64 (Int.ofNat 4), .s [], .i .i64 (Int.ofNat 0), .l0, .l0, x])) :: (b2, some (.row .ex z)) :: L) h → Gr I 6 B x xs.length cells → NVL I xs cells → z.length = 6 → (∀ v ∈ z, v.one = true) →
 xs.length + f ≤ bL → TS' I s st.toks → (iX LI f xs st).bind (fun r => (cI r.2).bind fun q => some (r.1, q.2)) = some (ys, st') →
 Ev (fun n => iT (aJ n) n (n - j) (.p p 0) (.p b2 0) (.p b3 0) h) (NPost I A L p (.mk 4 [] 0 [] [] ys) st')
 | 0, j, I, B, A, L, h, p, s, x, st, xs, ys, cells, z, st', b2, b3, S, G, NL, z1, z2, hl, T, hm => by cases hm
 | f + 1, j, I, B, A, L, h, p, s, x, st, xs, ys, cells, z, st', b2, b3, S, G, NL, z1, z2, hl, T, hm => by
  unfold iX at hm
  refine Ev.loop j (ll := fun n m => iT (aJ n) n m (.p p 0) (.p b2 0) (.p b3 0) h) (bb := fun n m => wD (aJ n) n (iT (aJ n) n m) (.p p 0) (.p b2 0) (.p b3 0) h) (fun _ _ => rfl) ?_
  have hs := T.2.one
  have hx := G.one
  unfold wD
  refine wn ?_; refine wf ?_; refine wq ?_
  have fin : ∀ h', Sy I (B ++ A) [PS p s st] ((b3, some (.row .ex [.i .i64 (Int.ofNat 4), .s [], .i .i64 (Int.ofNat 0), .l0, .l0, x])) :: (b2, some (.row .ex z)) :: L) h' → (some (xs, st)).bind (fun r => (cI r.2).bind fun q => some (r.1, q.2)) = some (ys, st') →
   Ev (fun n => eL (aJ n) n (.p p 0) (.p b2 0) (.p b3 0) h') (NPost I A L p (.mk 4 [] 0 [] [] ys) st') := by
   intro h' S' hm
   simp only [Option.bind_some] at hm
   obtain ⟨⟨t2, st2⟩, ht2, hm⟩ := aT hm
   simp only [Option.some.injEq, Prod.mk.injEq] at hm
   obtain ⟨rfl, rfl⟩ := hm
   unfold eL
   refine Ev.call (cV S' T ht2) ?_
   rintro _ _ ⟨rfl, s2, S2, T2⟩
   obtain ⟨J, gJ, S3, N3⟩ := G.nodes NL S2 (by omega)
   have o3 := N3.one
   refine ws ?_; refine wt fun _ _ => ?_; refine ws ?_
   exact Ev.ret ⟨J, s2, _, rfl, gJ, dp, T2.mono gJ, NV.of (SS.nil J) (SS.nil J) N3⟩
  refine Ev.ieq (fun e1 => ?_) (fun e1 => ?_)
  ·rw [if_pos (show st.err = 0 from e1)] at hm
   refine zt ?_; refine wm ?_; refine zt ?_
   rw [Option.bind_assoc] at hm
   obtain ⟨c, hc, hm⟩ := aT hm
   refine Ev.call (fD (by assumption) T hc) ?_
   rintro _ _ ⟨rfl, S1⟩
   cases c with
   | true =>
    refine zt ?_; refine an ?_; refine ap ?_; refine yj ?_
    exact fin _ S1 (by simpa using hm)
   | false =>
    refine zt ?_; refine ao ?_; refine ap ?_; refine yt ?_
    rw [if_neg (by simp), Option.bind_assoc] at hm
    obtain ⟨⟨⟨y, d⟩, st1⟩, hy, hm⟩ := aT hm
    unfold bMu
    refine Ev.call (aNr S1 T hy) ?_
    rintro _ _ ⟨s2, cs, rfl, S2, T2, N2⟩
    obtain ⟨l2, o2, q2⟩ := N2.shape
    refine wx ?_; refine wx ?_; refine wa fun _ _ _ => ?_; refine wt fun _ _ => ?_
    unfold bKk
    have body : ∀ (J : Im) (h' : Hp) (b4 : Pos) (y' : Node) (cs' : List DV) (s' : DV) (st1' : PSt), ILe I J → Sy J (B ++ A) [PS p s' st1'] ((b4, some (.row .ex cs')) :: (b3, some (.row .ex [.i .i64 (Int.ofNat 4), .s [], .i .i64 (Int.ofNat 0), .l0, .l0, x])) :: (b2, some (.row .ex z)) :: L) h' →
     TS' J s' st1'.toks → NV J y' cs' → (iX LI f (xs ++ [y']) st1').bind (fun r => (cI r.2).bind fun q => some (r.1, q.2)) = some (ys, st') →
     Ev (fun n => qX (aJ n) n (iT (aJ n) n (n - (j + 1))) (.p p 0) (.p b2 0) (.p b3 0) (.p b4 0) h') (NPost I A L p (.mk 4 [] 0 [] [] ys) st') := by
     intro J h' b4 y' cs' s' st1' gJ S' T' N' hm
     obtain ⟨l', o', q'⟩ := N'.shape
     unfold qX
     refine wf ?_; refine wl ?_; refine ws ?_
     refine Ev.bs S' (eX l') ?_
     intro b6 h6 S6
     obtain ⟨x10, h10, B10, cells10, e10, S10, G10, NL10⟩ := dZ (G.mono gJ) (NL.mono gJ) N' S6 (List.Mem.head _) (by omega)
     have hx10 := G10.one
     refine Ev.op e10 ?_
     refine wf ?_; refine wu fun _ _ => ?_
     refine (aCt HL f (j + 1) J B10 A L _ p s' x10 st1' (xs ++ [y']) ys cells10 z st' b2 b3 ?_ G10 NL10 z1 z2 (by simp; omega) T' hm).mono (NPost.le gJ)
     exact Sy.dropL (Sy.dropL (by assumption))
    cases d with
    | true =>
     refine yt ?_
     exact body I _ _ y cs s2 st1 (ILe.refl _) (by assumption) T2 N2 (by simpa using hm)
    | false =>
     refine yj ?_
     rw [if_neg (by simp), Option.bind_assoc] at hm
     obtain ⟨c1, hc1, hm⟩ := aT hm
     rw [Option.bind_assoc] at hm
     obtain ⟨c2, hc2, hm2⟩ := aT hm
     refine Ev.call (fD (by assumption) T2 hc1) ?_
     rintro _ _ ⟨rfl, S3⟩
     have more : ∀ (b4 : Pos) h', Sy I (B ++ A) [PS p s2 st1] ((b4, some (.row .ex cs)) :: (b3, some (.row .ex [.i .i64 (Int.ofNat 4), .s [], .i .i64 (Int.ofNat 0), .l0, .l0, x])) :: (b2, some (.row .ex z)) :: L) h' → (if c2 = true then (fH LI st1).bind fun q => iX LI f (xs ++ [q.1]) q.2 else (bH st1 0).bind fun t => iX LI f (xs ++ [y]) (bW st1 t 13)).bind (fun r => (cI r.2).bind fun q => some (r.1, q.2)) = some (ys, st') →
      Ev (fun n => aU (.b c2)
       (bnd (aJ n 151 [.p p 0, .f 152 [.p p 0] []] h') fun v41 h41 => bnd (aC 6 (.p b4 0) v41 h41) fun _ h42 => qX (aJ n) n (iT (aJ n) n (n - (j + 1))) (.p p 0) (.p b2 0) (.p b3 0) (.p b4 0) h42)
       (bnd (aJ n 81 [.p p 0, .i .i64 (Int.ofNat 0)] h') fun v43 h43 => bnd (aJ n 80 [.p p 0, v43, .i .i64 (Int.ofNat 13)] h43) fun v44 h44 => qX (aJ n) n (iT (aJ n) n (n - (j + 1))) (.p p 0) (.p b2 0) (.p b3 0) (.p b4 0) h44))
       (NPost I A L p (.mk 4 [] 0 [] [] ys) st') := by
      intro b4 h' S' hm
      cases c2 with
      | true =>
       rw [if_pos rfl, Option.bind_assoc] at hm
       obtain ⟨⟨w, st2⟩, hw, hm⟩ := aT hm
       refine yt ?_
       refine Ev.call (oL aWx HL S' T2 hw) ?_
       rintro _ _ ⟨J, s5, ds, rfl, g5, S5, T5, N5⟩
       obtain ⟨l5, o5, q5⟩ := N5.shape
       refine wt fun _ _ => ?_
       exact body J _ _ w ds s5 st2 g5 (by assumption) T5 N5 hm
      | false =>
       rw [if_neg (by simp), Option.bind_assoc] at hm
       obtain ⟨t, ht, hm⟩ := aT hm
       refine yj ?_
       refine Ev.call (hJ (k := 0) S' T2 ht) ?_
       rintro _ _ ⟨rfl, S5⟩
       refine Ev.call (mE S5 T2.2.one t _) ?_
       rintro _ _ ⟨rfl, S6⟩
       exact body I _ _ y cs s2 (bW st1 t 13) (ILe.refl _) S6 (by rw [bV]; exact T2) N2 hm
     cases c1 with
     | true =>
      simp only [if_true, Option.some.injEq] at hc2
      subst hc2
      have M := more _ _ S3 hm2
      refine yg ?_; refine yg ?_; refine ap ?_; refine yt ?_
      exact M
     | false =>
      refine zf ?_; refine wm ?_; refine zf ?_
      refine Ev.call (fD (by assumption) T2 (by simpa using hc2)) ?_
      rintro _ _ ⟨rfl, S4⟩
      have M := more _ _ S4 hm2
      refine aq ?_
      exact M
  ·rw [if_neg (show ¬ st.err = 0 from e1)] at hm
   refine yf ?_; refine yf ?_; refine yf ?_; refine aq ?_; refine yj ?_
   exact fin _ (by assumption) hm
theorem aNj {LI : PF} (HL : sA 152 LI) (f : Nat) (hf : f ≤ bL) : sA 152 (fL LI f) := by
 intro I A L h p s st x st' S T hm
 unfold fL at hm
 refine Ev.enter (fun n => bMg n _ h) ?_
 unfold s152 aEo aGa aSo
 refine wa fun _ _ _ => ?_; refine wd ?_; refine wa fun _ _ _ => ?_; refine wt fun _ _ => ?_
 obtain ⟨⟨ys, st1⟩, h1, hm⟩ := aT hm
 obtain ⟨⟨t, st2⟩, h2, hm⟩ := aT hm
 simp only [Option.some.injEq, Prod.mk.injEq] at hm
 obtain ⟨rfl, rfl⟩ := hm
 refine aCt HL f 0 I [] A L _ p s .l0 st [] ys [] _ st2 _ _ (by assumption) (Gr.nil I 6) rfl rfl (by first | assumption | exact bS _ | (repeat (first | exact aW | refine aS (by first | rfl | assumption | exact Fz.one (by assumption)) ?_))) (by simpa using hf) T ?_
 rw [h1]
 simp [h2]
theorem bQa : ∀ (f : Nat), f ≤ bL → sA 152 (vN f)
 | 0, _ => fun I A L h p s st x st' S T hm => by cases hm
 | f + 1, hf => aNj (bQa f (by omega)) f (by omega)
end Go.Dd

namespace Go.Dd
open Go.Proofs
theorem sG {I : Im} {B A Q L : Ls} {h : Hp} {x : DV} {l : List (List Nat)} (G : Gr I 1 B x l.length (l.map .s)) {t : List Nat} {b : Pos} (S : Sy I (B ++ A) Q L h) (m : (b, some (.row .ex [.s t])) ∈ L) (hl : l.length + 1 ≤ bL) :
 ∃ x' h' B', aX 1 16 x (.l b 0 1 1) h = some (x', h') ∧ Sy I (B' ++ A) Q L h' ∧ Gr I 1 B' x' (l ++ [t]).length ((l ++ [t]).map .s) := by
 have hr : (l.length + 1) * 16 ≤ eM := by simp [eM, bL] at hl ⊢; omega
 obtain ⟨x4, h4, B4, e4, S4, G4⟩ := G.app S (nB S (n := 1) m rfl (aS rfl aW)) rfl (aS rfl aW) (by omega) hr
 exact ⟨x4, h4, B4, e4, S4, by simpa using G4⟩
theorem vE {P : DV → Hp → Prop} : ∀ (f j : Nat) (I : Im) (B A L : Ls) (h : Hp) (p : Pos) (s x : DV) (st : PSt) (l l' : List (List Nat)) (z : List DV) (st' : PSt) (b2 b3 : Pos),
 Sy I (B ++ A) [PS p s st] ((b3, some (.row .ex [.i .i64 (Int.ofNat 9), .s [], .i .i64 (Int.ofNat 0), x, .l0, .l0])) :: (b2, some (.row .ex z)) :: L) h → Gr I 1 B x l.length (l.map .s) → z.length = 6 → (∀ v ∈ z, v.one = true) →
 l.length + f ≤ bL → TS' I s st.toks → kR f l st = some (l', st') →
 (∀ (B' : Ls) (h' : Hp) (s' x' : DV), Sy I (B' ++ A) [PS p s' st'] ((b3, some (.row .ex [.i .i64 (Int.ofNat 9), .s [], .i .i64 (Int.ofNat 0), x', .l0, .l0])) :: (b2, some (.row .ex z)) :: L) h' → Gr I 1 B' x' l'.length (l'.map .s) → l'.length ≤ bL → TS' I s' st'.toks →
  Ev (fun n => eJ (aJ n) n (.p p 0) (.p b2 0) (.p b3 0) h') P) →
 Ev (fun n => lX (aJ n) n (n - j) (.p p 0) (.p b2 0) (.p b3 0) h) P
 | 0, j, I, B, A, L, h, p, s, x, st, l, l', z, st', b2, b3, S, G, z1, z2, hl, T, hm, K => by cases hm
 | f + 1, j, I, B, A, L, h, p, s, x, st, l, l', z, st', b2, b3, S, G, z1, z2, hl, T, hm, K => by
  unfold kR at hm
  obtain ⟨c, hc, hm⟩ := aT hm
  refine Ev.loop j (ll := fun n m => lX (aJ n) n m (.p p 0) (.p b2 0) (.p b3 0) h) (bb := fun n m => vU (aJ n) n (lX (aJ n) n m) (.p p 0) (.p b2 0) (.p b3 0) h) (fun _ _ => rfl) ?_
  have hx := G.one
  unfold vU
  refine Ev.call (fD S T hc) ?_
  rintro _ _ ⟨rfl, S1⟩
  cases c with
  | false =>
   refine yj ?_
   rw [if_neg (by simp)] at hm
   simp only [Option.some.injEq, Prod.mk.injEq] at hm
   obtain ⟨rfl, rfl⟩ := hm
   exact K B _ s x S1 G (by omega) T
  | true =>
   refine yt ?_; refine wf ?_
   rw [if_pos rfl] at hm
   obtain ⟨⟨t, st1⟩, ht, hm⟩ := aT hm
   have Sr := S1.res
   refine wl ?_; refine wf ?_; refine wl ?_
   refine Ev.call (cJz Sr T G.len ht) ?_
   rintro _ _ ⟨rfl, s2, S2, T2⟩
   refine Ev.cnd ?_ ?_
   ·rw [Bool.and_true]; exact eG S2 (by repeat (first | exact List.Mem.head _ | apply List.Mem.tail)) rfl hx G.beq
   refine Ev.bsAt0 S2 (cs := [.s t]) (by repeat (first | exact Rpl.head _ | apply Rpl.tail)) rfl ?_
   intro h3 S3
   obtain ⟨x4, h4, B4, e4, S4, G4⟩ := sG G S3 (by repeat (first | exact List.Mem.head _ | apply List.Mem.tail)) (by omega)
   have hx4 := G4.one
   refine Ev.op e4 ?_
   refine wf ?_; refine wu fun _ _ => ?_
   exact vE f (j + 1) I B4 A L _ p s2 x4 st1 (l ++ [t]) l' z st' b2 b3 (dp) G4 z1 z2 (by simp; omega) T2 hm K
theorem bLe {E : PF} (HE : sA 79 E) (f : Nat) (hf : f ≤ bL) : sA 154 (qW E f) := by
 intro I A L h p s st x st' S T hm
 unfold qW at hm
 obtain ⟨⟨l, st1⟩, h1, hm⟩ := aT hm
 obtain ⟨st2, h2, hm⟩ := aT hm
 obtain ⟨⟨ts, st3⟩, h3, hm⟩ := aT hm
 obtain ⟨⟨ks, st4⟩, h4, hm⟩ := aT hm
 obtain ⟨⟨t, st5⟩, h5, hm⟩ := aT hm
 simp only [Option.some.injEq, Prod.mk.injEq] at hm
 obtain ⟨rfl, rfl⟩ := hm
 refine Ev.enter (fun n => bMw n _ h) ?_
 unfold s154 aGu aGp aQx
 refine wa fun _ _ _ => ?_; refine wd ?_; refine wa fun _ _ _ => ?_; refine wt fun _ _ => ?_
 refine vE f 0 I [] A L _ p s .l0 st [] l _ st1 _ _ (by assumption) (Gr.nil I 1) rfl (by first | assumption | exact bS _ | (repeat (first | exact aW | refine aS (by first | rfl | assumption | exact Fz.one (by assumption)) ?_))) (by simpa using hf) T h1 ?_
 intro B h' s' x' S1 G1 hl T1
 have hx := G1.one
 unfold eJ
 have rest : ∀ (h' : Hp) (s' : DV) (b2 b3 : Pos) (z : List DV), z.length = 6 → (∀ v ∈ z, v.one = true) → Sy I (B ++ A) [PS p s' st2] ((b3, some (.row .ex [.i .i64 (Int.ofNat 9), .s [], .i .i64 (Int.ofNat 0), x', .l0, .l0])) :: (b2, some (.row .ex z)) :: L) h' → TS' I s' st2.toks →
  Ev (fun n => aGs (aJ n) n (.p p 0) (.p b2 0) (.p b3 0) h') (NPost I A L p (.mk 9 [] 0 l ts ks) st5) := by
  intro h' s' b2 b3 z z1 z2 S2 T2
  unfold aGs
  obtain ⟨J, gJ, S3, F3⟩ := G1.freeze S2
  refine Ev.call (aLq f hf S3 (T2.mono gJ) h3) ?_
  rintro v4 h4' ⟨K, s4, g4, S4, T4, N4⟩
  have o4 := N4.2.one
  refine wf ?_; refine wu fun _ _ => ?_
  refine Ev.call (aLf HE f hf (by assumption) T4 h4) ?_
  rintro v5 h5' ⟨M, s5, g5, S5, T5, N5⟩
  have o5 := N5.one
  refine wf ?_; refine wu fun _ _ => ?_
  refine Ev.call (oY (by assumption) T5 h5) ?_
  rintro _ _ ⟨rfl, s6, S6, T6⟩
  refine ws ?_; refine wt fun _ _ => ?_; refine ws ?_
  exact Ev.ret ⟨M, s6, _, rfl, (gJ.trans g4).trans g5, dp, T6, NV.of ⟨hl, (F3.mono g4).mono g5⟩ (N4.mono g5) N5⟩
 refine wf ?_; refine wl ?_
 refine Ev.op (G1.len _) ?_
 unfold bar at h2
 refine Ev.igt (fun e1 => ?_) (fun e1 => ?_)
 ·have e2 : 0 < l.length := by simp at e1; exact e1
  simp only [if_pos e2] at h2
  obtain ⟨c, hc, h2⟩ := aT h2
  refine zt ?_; refine wm ?_; refine zt ?_
  refine Ev.call (fD (by assumption) T1 hc) ?_
  rintro _ _ ⟨rfl, S2⟩
  cases c with
  | true =>
   refine zt ?_; refine an ?_; refine ap ?_; refine yj ?_
   simp only [if_true, Option.some.injEq] at h2
   subst h2
   exact rest _ s' _ _ _ rfl (by first | assumption | exact bS _ | (repeat (first | exact aW | refine aS (by first | rfl | assumption | exact Fz.one (by assumption)) ?_))) S2 T1
  | false =>
   refine zt ?_; refine ao ?_; refine ap ?_; refine yt ?_
   obtain ⟨⟨t2, st6⟩, ht2, h2⟩ := aT (by simpa using h2)
   simp only [Option.some.injEq] at h2
   subst h2
   refine Ev.call (oY (by assumption) T1 ht2) ?_
   rintro _ _ ⟨rfl, s3, S3, T3⟩
   exact rest _ s3 _ _ _ rfl (by first | assumption | exact bS _ | (repeat (first | exact aW | refine aS (by first | rfl | assumption | exact Fz.one (by assumption)) ?_))) S3 T3
 ·have e2 : ¬ 0 < l.length := fun e => e1 (by show (0 : Int) < _; omega)
  simp only [if_neg e2, Option.some.injEq] at h2
  subst h2
  refine yf ?_; refine yf ?_; refine yf ?_; refine aq ?_; refine yj ?_
  exact rest _ s' _ _ _ rfl (by first | assumption | exact bS _ | (repeat (first | exact aW | refine aS (by first | rfl | assumption | exact Fz.one (by assumption)) ?_))) S1 T1
theorem aPt {LI E : PF} (HL : sA 152 LI) (HE : sA 79 E) (f : Nat) (hf : f ≤ bL) : sA 137 (fE LI E f) := by
 intro I A L h p s st x st' S T hm
 unfold fE at hm
 obtain ⟨⟨⟨y, d⟩, st1⟩, hy, hm⟩ := aT hm
 refine Ev.enter (fun n => bQp n _ h) ?_
 unfold s137 bXc
 refine wa fun _ _ _ => ?_
 refine Ev.call (aNr (by assumption) T hy) ?_
 rintro _ _ ⟨s2, cs, rfl, S2, T2, N2⟩
 obtain ⟨l2, o2, q2⟩ := N2.shape
 have hs2 := T2.2.one
 refine wx ?_; refine wx ?_; refine wa fun _ _ _ => ?_; refine wt fun _ _ => ?_
 cases d with
 | true =>
  refine yt ?_; refine ws ?_; refine wt fun _ _ => ?_; refine ws ?_
  simp only [if_true, Option.some.injEq, Prod.mk.injEq] at hm
  obtain ⟨rfl, rfl⟩ := hm
  exact Ev.ret ⟨I, s2, _, rfl, ILe.refl _, dp, T2, N2⟩
 | false =>
  refine yj ?_
  rw [if_neg (by simp)] at hm
  obtain ⟨t, ht, hm⟩ := aT hm
  unfold bIu aQr
  refine Ev.call (hJ (k := 0) (by assumption) T2 ht) ?_
  rintro _ _ ⟨rfl, S3⟩
  refine wa fun _ _ _ => ?_; refine wt fun _ _ => ?_; refine wn ?_; refine wf ?_; refine wq ?_
  refine Ev.ine (fun e1 => ?_) (fun e1 => ?_)
  ·refine yt ?_; refine wd ?_; refine wt fun _ _ => ?_; refine ws ?_
   rw [if_neg (show ¬ st1.err = 0 from e1)] at hm
   simp only [Option.some.injEq, Prod.mk.injEq] at hm
   obtain ⟨rfl, rfl⟩ := hm
   exact Ev.ret ⟨I, s2, _, rfl, ILe.refl _, dp, T2, NV.flat _ _ _⟩
  ·refine yj ?_; refine wf ?_; refine wl ?_
   rw [if_pos (show st1.err = 0 from e1)] at hm
   refine Ev.ieq (fun e2 => ?_) (fun e2 => ?_)
   ·refine yt ?_
    rw [if_pos (show t.kind = 1 from e2)] at hm
    obtain ⟨⟨t1, st2⟩, ht1, hm⟩ := aT hm
    simp only [Option.some.injEq, Prod.mk.injEq] at hm
    obtain ⟨rfl, rfl⟩ := hm
    refine Ev.call (cV (by assumption) T2 ht1) ?_
    rintro _ _ ⟨rfl, s3, S3, T3⟩
    refine wp ?_; refine wd ?_; refine wt fun _ _ => ?_; refine ws ?_
    exact Ev.ret ⟨I, s3, _, rfl, ILe.refl _, dp, T3, NV.flat _ _ _⟩
   ·refine yj ?_; refine wf ?_; refine wl ?_
    rw [if_neg (show ¬ t.kind = 1 from e2)] at hm
    refine Ev.ieq (fun e3 => ?_) (fun e3 => ?_)
    ·refine yt ?_
     rw [if_pos (show t.kind = 7 from e3)] at hm
     refine Ev.call (oL aWx HL (by assumption) T2 hm) ?_
     rintro _ _ ⟨J, s5, ds, rfl, g5, S5, T5, N5⟩
     obtain ⟨l5, o5, q5⟩ := N5.shape
     refine wt fun _ _ => ?_; refine ws ?_
     exact Ev.ret ⟨J, s5, _, rfl, g5, dp, T5, N5⟩
    ·refine yj ?_
     rw [if_neg (show ¬ t.kind = 7 from e3)] at hm
     obtain ⟨c, hc, hm⟩ := aT hm
     refine Ev.call (fD (by assumption) T2 hc) ?_
     rintro _ _ ⟨rfl, S4⟩
     cases c with
     | true =>
      refine yt ?_
      refine Ev.call (oL cKi (bJm HE) (by assumption) T2 hm) ?_
      rintro _ _ ⟨J, s5, ds, rfl, g5, S5, T5, N5⟩
      obtain ⟨l5, o5, q5⟩ := N5.shape
      refine wt fun _ _ => ?_; refine ws ?_
      exact Ev.ret ⟨J, s5, _, rfl, g5, dp, T5, N5⟩
     | false =>
      refine yj ?_
      rw [if_neg (by simp)] at hm
      obtain ⟨c, hc, hm⟩ := aT hm
      refine Ev.call (fD (by assumption) T2 hc) ?_
      rintro _ _ ⟨rfl, S5⟩
      cases c with
      | true =>
       refine yt ?_
       refine Ev.call (oL cCb (bLe HE f hf) (by assumption) T2 hm) ?_
       rintro _ _ ⟨J, s5, ds, rfl, g5, S5, T5, N5⟩
       obtain ⟨l5, o5, q5⟩ := N5.shape
       refine wt fun _ _ => ?_; refine ws ?_
       exact Ev.ret ⟨J, s5, _, rfl, g5, dp, T5, N5⟩
      | false =>
       refine yj ?_; refine ws ?_
       simp only [Bool.false_eq_true, if_false, Option.some.injEq, Prod.mk.injEq] at hm
       obtain ⟨rfl, rfl⟩ := hm
       refine Ev.call (mE (by assumption) T2.2.one t _) ?_
       rintro _ _ ⟨rfl, S6⟩
       refine wd ?_; refine wt fun _ _ => ?_; refine ws ?_
       exact Ev.ret ⟨I, s2, _, rfl, ILe.refl _, dp, by rw [bV]; exact T2, NV.flat _ _ _⟩
theorem uW {P : PF} (HP : sA 137 P) (g : Nat) : ∀ (f j : Nat) (I : Im) (A L : Ls) (h : Hp) (p : Pos) (s : DV) (st : PSt) (x y : Node) (cs z : List DV) (st' : PSt) (b3 b4 : Pos), Sy I A [PS p s st] ((b4, some (.row .ex z)) :: (b3, some (.row .ex cs)) :: L) h →
 z.length = 6 → (∀ v ∈ z, v.one = true) → TS' I s st.toks → NV I x cs → hK P g f x st = some (y, st') → Ev (fun n => mQ (aJ n) n (n - j) (.p p 0) (.p b3 0) (.p b4 0) h) (NPost I A L p y st')
 | 0, j, I, A, L, h, p, s, st, x, y, cs, z, st', b3, b4, S, z1, z2, T, N, hm => by cases hm
 | f + 1, j, I, A, L, h, p, s, st, x, y, cs, z, st', b3, b4, S, z1, z2, T, N, hm => by
  unfold hK at hm
  obtain ⟨c, hc, hm⟩ := aT hm
  refine Ev.loop j (ll := fun n m => mQ (aJ n) n m (.p p 0) (.p b3 0) (.p b4 0) h) (bb := fun n m => vR (aJ n) n (mQ (aJ n) n m) (.p p 0) (.p b3 0) (.p b4 0) h) (fun _ _ => rfl) ?_
  unfold vR eP
  obtain ⟨l1, o1, q1⟩ := N.shape
  refine Ev.call (fD S T hc) ?_
  rintro _ _ ⟨rfl, S1⟩
  cases c with
  | false =>
   refine yj ?_; refine ws ?_; refine wt fun _ _ => ?_; refine ws ?_
   rw [if_neg (by simp)] at hm
   simp only [Option.some.injEq, Prod.mk.injEq] at hm
   obtain ⟨rfl, rfl⟩ := hm
   exact Ev.ret ⟨I, s, cs, rfl, ILe.refl _, dp, T, N⟩
  | true =>
   refine yt ?_
   rw [if_pos rfl] at hm
   obtain ⟨⟨t, st1⟩, ht, hm⟩ := aT hm
   obtain ⟨⟨y1, st2⟩, hy1, hm⟩ := aT hm
   obtain ⟨⟨y2, st3⟩, hy2, hm⟩ := aT hm
   refine Ev.call (cV S1 T ht) ?_
   rintro _ _ ⟨rfl, s2, S2, T2⟩
   refine wa fun _ _ _ => ?_; refine wt fun _ _ => ?_; refine wf ?_
   have Sr := Sy.res (by assumption)
   refine wl ?_; refine ws ?_
   refine Ev.call (HP _ _ _ _ _ _ _ _ _ Sr T2 hy1) ?_
   rintro _ _ ⟨J, s5, ds, rfl, g5, S5, T5, N5⟩
   refine Ev.cnd ?_ ?_
   ·rw [aCd S5 (by repeat (first | exact List.Mem.head _ | apply List.Mem.tail)) l1 o1 q1, eG S5 (by repeat (first | exact List.Mem.head _ | apply List.Mem.tail)) rfl rfl (sR _)]; rfl
   refine Ev.call (rX g _ _ _ _ _ _ _ _ _ _ _ S5 T5 N5 hy2) ?_
   rintro _ _ ⟨K, s6, es, rfl, g6, S6, T6, N6⟩
   obtain ⟨l6, o6, q6⟩ := N6.shape
   refine Ev.cnd ?_ ?_
   ·rw [aCd S6 (by repeat (first | exact List.Mem.head _ | apply List.Mem.tail)) l1 o1 q1, eG S6 (by repeat (first | exact List.Mem.head _ | apply List.Mem.tail)) rfl rfl (sR _)]; rfl
   refine Ev.bsAt0 S6 (by repeat (first | exact Rpl.head _ | apply Rpl.tail)) (aFb l1 l6) ?_
   intro h7 S7
   have NL7 : NVL K [x, y2] (cs ++ es) := (NVL.single ((N.mono g5).mono g6)).app (NVL.single N6)
   obtain ⟨c1, c2⟩ := NL7.shape
   obtain ⟨M, g8, S8, F8, _⟩ := Fz.built (sz := 6) (n := 2) S7 c1 c2
   have N8 : NS M _ [x, y2] := ⟨by simp [bL], _, F8, NL7.mono g8⟩
   refine Ev.call (vW S8 N8) ?_
   rintro _ _ ⟨cs9, rfl, N9, S9⟩
   obtain ⟨l9, o9, q9⟩ := N9.shape
   refine wt fun _ _ => ?_
   refine (uW HP g f (j + 1) M A L _ p s6 st3 _ y cs9 z st' b3 b4 ?_ z1 z2 (T6.mono g8) N9 hm).mono (NPost.le ((g5.trans g6).trans g8))
   exact Sy.dropL (by assumption)
theorem aDn {P : PF} (HP : sA 137 P) (g f : Nat) : cSk 135 (hK P g f) := by
 intro I A L h p s st x y cs st' S T N hm
 refine Ev.enter (fun n => bSg n _ _ h) ?_
 unfold s135 aHk aSl
 refine wb fun _ _ _ => ?_; refine wa fun _ _ _ => ?_
 exact uW HP g f 0 _ _ _ _ _ _ _ _ _ _ _ _ _ _ (by assumption) rfl (by first | assumption | exact bS _ | (repeat (first | exact aW | refine aS (by first | rfl | assumption | exact Fz.one (by assumption)) ?_))) T N hm
end Go.Dd

namespace Go.Dd
open Go.Proofs
theorem Sy.swap {I : Im} {A Q L : Ls} {a b : Pos × Option Ob} {h : Hp} (S : Sy I A Q (a :: b :: L) h) : Sy I A Q (b :: a :: L) h :=
 aLm ((List.Perm.refl _).append (List.Perm.swap _ _ _)) S
theorem Sy.drop2 {I : Im} {A Q L : Ls} {a b : Pos × Option Ob} {h : Hp} (S : Sy I A Q (a :: b :: L) h) : Sy I A Q (a :: L) h := S.swap.dropL
theorem Sy.drop3 {I : Im} {A Q L : Ls} {a b c : Pos × Option Ob} {h : Hp} (S : Sy I A Q (a :: b :: c :: L) h) : Sy I A Q (a :: b :: L) h :=
 cUg ((List.Sublist.refl _).append (((List.sublist_cons_self c L).cons_cons b).cons_cons a)) S
theorem Ev.newAt {I : Im} {A Q L L' : Ls} {h : Hp} {k : Nat → DV → Hp → aH} {P : DV → Hp → Prop} {b : Pos} {cs : List DV} (S : Sy I A Q L h) (r : Rpl b none (some (.row .ex cs)) L L')
 (H : ∀ h', Sy I A Q L' h' → Ev (fun m => k m (.p b 0) h') P) : Ev (fun m => bnd (tG b cs h) (k m)) P :=
 Ev.op (v := .p b 0) (h := ⟨h.next, Tr.set (.row .ex cs) b h.bl⟩) rfl (H _ (S.setL r rfl (fun c => Tr.get_set _ _ _ _)))
theorem cLd {I : Im} {A Q L : Ls} {h : Hp} (S : Sy I A Q L h) {t : List Nat} {x : DV} (hx : x.one = true) :
 Ev (fun n => aJ n 149 [.s t, x] h) (fun v h' => v = .a [.i .i64 (Int.ofNat 7), .s t, .i .i64 (Int.ofNat 0), .l0, .l0, x] ∧ Sy I A Q L h') := by
 refine Ev.enter (fun n => aMf n _ _ h) ?_
 unfold s149
 refine wa fun _ _ _ => ?_; refine wd ?_; refine wt fun _ _ => ?_; refine ws ?_
 exact Ev.ret ⟨rfl, dp⟩
theorem aCg {P : PF} (HP : sA 137 P) (g : Nat) : ∀ (f j : Nat) (I : Im) (B A L : Ls) (h : Hp) (p : Pos) (s x : DV) (st : PSt) (t : List Nat) (xs : List Node) (y : Node) (cells z : List DV) (st' : PSt) (b4 b5 : Pos),
 Sy I (B ++ A) [PS p s st] ((b5, some (.row .ex [.i .i64 (Int.ofNat 7), .s t, .i .i64 (Int.ofNat 0), .l0, .l0, x])) :: (b4, some (.row .ex z)) :: L) h → Gr I 6 B x xs.length cells → NVL I xs cells → z.length = 6 → (∀ v ∈ z, v.one = true) →
 xs.length + f ≤ bL → TS' I s st.toks → nM P g f t xs st = some (y, st') →
 Ev (fun n => mP (aJ n) n (n - j) (.p p 0) (.p b4 0) (.p b5 0) h) (NPost I A L p y st')
 | 0, j, I, B, A, L, h, p, s, x, st, t, xs, y, cells, z, st', b4, b5, S, G, NL, z1, z2, hl, T, hm => by cases hm
 | f + 1, j, I, B, A, L, h, p, s, x, st, t, xs, y, cells, z, st', b4, b5, S, G, NL, z1, z2, hl, T, hm => by
  unfold nM at hm
  obtain ⟨c, hc, hm⟩ := aT hm
  refine Ev.loop j (ll := fun n m => mP (aJ n) n m (.p p 0) (.p b4 0) (.p b5 0) h) (bb := fun n m => vQ (aJ n) n (mP (aJ n) n m) (.p p 0) (.p b4 0) (.p b5 0) h) (fun _ _ => rfl) ?_
  have hx := G.one
  unfold vQ eQ
  refine Ev.call (fD S T hc) ?_
  rintro _ _ ⟨rfl, S1⟩
  cases c with
  | false =>
   rw [if_neg (by simp)] at hm
   simp only [Option.some.injEq, Prod.mk.injEq] at hm
   obtain ⟨rfl, rfl⟩ := hm
   obtain ⟨J, gJ, S3, N3⟩ := G.nodes NL S1 (by omega)
   refine yj ?_; refine ws ?_; refine wt fun _ _ => ?_; refine ws ?_
   exact Ev.ret ⟨J, s, _, rfl, gJ, dp, T.mono gJ, NV.of (SS.nil J) (SS.nil J) N3⟩
  | true =>
   rw [if_pos rfl] at hm
   obtain ⟨⟨t1, st1⟩, ht, hm⟩ := aT hm
   split at hm
   ·rename_i hlen
    obtain ⟨⟨y1, st2⟩, hy1, hm⟩ := aT hm
    obtain ⟨⟨y2, st3⟩, hy2, hm⟩ := aT hm
    obtain ⟨⟨y3, st4⟩, hy3, hm⟩ := aT hm
    refine yt ?_; refine wf ?_; refine wl ?_
    refine Ev.call (cV S1 T ht) ?_
    rintro _ _ ⟨rfl, s2, S2, T2⟩
    refine Ev.cnd ?_ ?_
    ·rw [Bool.and_true]; exact eG S2 (by repeat (first | exact List.Mem.head _ | apply List.Mem.tail)) rfl rfl (sR _)
    refine wp ?_
    refine Ev.sadd (by simp only [bL] at hlen; omega) ?_
    refine wf ?_; refine wu fun _ _ => ?_; refine wf ?_
    have Sr := Sy.res (by assumption)
    refine wl ?_
    refine Ev.call (HP _ _ _ _ _ _ _ _ _ Sr T2 hy1) ?_
    rintro _ _ ⟨J, s5, ds, rfl, g5, S5, T5, N5⟩
    refine Ev.cnd ?_ ?_
    ·rw [Bool.and_true]; exact eG S5 (by repeat (first | exact List.Mem.head _ | apply List.Mem.tail)) rfl hx G.beq
    refine Ev.call (rX g _ _ _ _ _ _ _ _ _ _ _ S5 T5 N5 hy2) ?_
    rintro _ _ ⟨K, s6, es, rfl, g6, S6, T6, N6⟩
    refine Ev.cnd ?_ ?_
    ·rw [Bool.and_true]; exact eG S6 (by repeat (first | exact List.Mem.head _ | apply List.Mem.tail)) rfl hx G.beq
    refine Ev.call (aDn HP g g _ _ _ _ _ _ _ _ _ _ _ S6 T6 N6 hy3) ?_
    rintro _ _ ⟨M, s7, fs, rfl, g7, S7, T7, N7⟩
    obtain ⟨l7, o7, q7⟩ := N7.shape
    refine Ev.cnd ?_ ?_
    ·rw [Bool.and_true]; exact eG S7 (by repeat (first | exact List.Mem.head _ | apply List.Mem.tail)) rfl hx G.beq
    refine Ev.bsAt0 S7 (by repeat (first | exact Rpl.head _ | apply Rpl.tail)) (eX l7) ?_
    intro h8 S8
    have g57 := (g5.trans g6).trans g7
    obtain ⟨x10, h10, B10, cells10, e10, S10, G10, NL10⟩ := dZ (G.mono g57) (NL.mono g57) N7 S8 (by repeat (first | exact List.Mem.head _ | apply List.Mem.tail)) (by omega)
    have hx10 := G10.one
    refine Ev.op e10 ?_
    refine wf ?_; refine wu fun _ _ => ?_
    refine (aCg HP g f (j + 1) M B10 A L _ p s7 x10 st4 (t ++ t1.text) (xs ++ [y3]) y cells10 z st' b4 b5 ?_ G10 NL10 z1 z2 (by simp; omega) T7 hm).mono (NPost.le g57)
    exact Sy.dropL (by assumption)
   ·cases hm
theorem aWm {P : PF} (HP : sA 137 P) (g : Nat) (hg : g + 1 ≤ bL) : cSk 134 (sD P g) := by
 intro I A L h p s st x y cs st' S T N hm
 unfold sD at hm
 obtain ⟨c, hc, hm⟩ := aT hm
 obtain ⟨l1, o1, q1⟩ := N.shape
 refine Ev.enter (fun n => bQi n _ _ h) ?_
 unfold s134 aGx
 refine wb fun _ _ _ => ?_; refine wa fun _ _ _ => ?_
 refine Ev.call (fD (by assumption) T hc) ?_
 rintro _ _ ⟨rfl, S1⟩
 cases c with
 | false =>
  refine ao ?_; refine yt ?_; refine ws ?_; refine wt fun _ _ => ?_; refine ws ?_
  rw [if_neg (by simp)] at hm
  simp only [Option.some.injEq, Prod.mk.injEq] at hm
  obtain ⟨rfl, rfl⟩ := hm
  exact Ev.ret ⟨I, s, cs, rfl, ILe.refl _, dp, T, N⟩
 | true =>
  rw [if_pos rfl] at hm
  unfold aKq aHb aRw
  refine an ?_; refine yj ?_; refine ws ?_
  refine Ev.bs S1 (eX l1) ?_
  intro b2 h2 S2
  obtain ⟨J, gJ, S4, F4, G4⟩ := Fz.built (sz := 6) (n := 1) S2 (by omega) o1
  refine Ev.call (cLd S4 rfl) ?_
  rintro _ _ ⟨rfl, S5⟩
  refine wa fun _ _ _ => ?_; refine wt fun _ _ => ?_
  exact (aCg HP g g 0 J [] A L _ p s _ st [] [x] y cs _ st' _ _ (Sy.drop3 (by assumption)) G4 (NVL.single (N.mono gJ)) (by rfl) (by first | assumption | exact bS _ | (repeat (first | exact aW | refine aS (by first | rfl | assumption | exact Fz.one (by assumption)) ?_))) (by simp; omega) (T.mono gJ) hm).mono (NPost.le gJ)
theorem cUc {P : PF} (HP : sA 137 P) (g : Nat) (hg : g + 1 ≤ bL) : sA 139 (aRn P g) := by
 intro I A L h p s st x st' S T hm
 unfold aRn at hm
 obtain ⟨t, ht, hm⟩ := aT hm
 refine Ev.enter (fun n => bQu n _ h) ?_
 unfold s139
 refine wa fun _ _ _ => ?_; refine wa fun _ _ _ => ?_
 refine Ev.call (hJ (k := 0) (by assumption) T ht) ?_
 rintro _ _ ⟨rfl, S1⟩
 refine wa fun _ _ _ => ?_; refine wt fun _ _ => ?_; refine wf ?_; refine wl ?_
 have NZ : ∀ J : Im, NV J zN [.i .i64 (Int.ofNat 0), .s [], .i .i64 (Int.ofNat 0), .l0, .l0, .l0] := fun J => NV.flat _ _ _
 have ZO : ∀ v ∈ [DV.i .i64 (Int.ofNat 0), .s [], .i .i64 (Int.ofNat 0), .l0, .l0, .l0], v.one = true := by first | assumption | exact bS _ | (repeat (first | exact aW | refine aS (by first | rfl | assumption | exact Fz.one (by assumption)) ?_))
 refine Ev.ieq (fun e1 => ?_) (fun e1 => ?_)
 ·rw [if_pos (show t.kind = 1 from e1)] at hm
  obtain ⟨⟨t1, st1⟩, ht1, hm⟩ := aT hm
  simp only [Option.some.injEq, Prod.mk.injEq] at hm
  obtain ⟨rfl, rfl⟩ := hm
  refine yt ?_
  refine Ev.call (cV (by assumption) T ht1) ?_
  rintro _ _ ⟨rfl, s2, S2, T2⟩
  refine wf ?_; refine wl ?_; refine ws ?_
  refine Ev.bs S2 (eX rfl) ?_
  intro b3 h3 S3
  obtain ⟨J, gJ, S4, F4, _⟩ := Fz.built (sz := 6) (n := 1) S3 rfl ZO
  have N4 : NS J _ [zN] := ⟨by simp [bL], _, F4, NVL.single (NZ J)⟩
  refine Ev.call (vW S4 N4) ?_
  rintro _ _ ⟨cs5, rfl, N5, S5⟩
  obtain ⟨l5, o5, b5⟩ := N5.shape
  refine wt fun _ _ => ?_; refine ws ?_
  exact Ev.ret ⟨J, s2, _, rfl, gJ, dp, T2.mono gJ, N5⟩
 ·rw [if_neg (show ¬ t.kind = 1 from e1)] at hm
  refine yj ?_
  refine Ev.ieq (fun e2 => ?_) (fun e2 => ?_)
  ·rw [if_pos (show t.kind = 3 from e2)] at hm
   obtain ⟨⟨t1, st1⟩, ht1, hm⟩ := aT hm
   obtain ⟨⟨y1, st2⟩, hy1, hm⟩ := aT hm
   obtain ⟨⟨y2, st3⟩, hy2, hm⟩ := aT hm
   simp only [Option.some.injEq, Prod.mk.injEq] at hm
   obtain ⟨rfl, rfl⟩ := hm
   refine yt ?_
   refine Ev.call (cV (by assumption) T ht1) ?_
   rintro _ _ ⟨rfl, s2, S2, T2⟩
   have Sr := S2.res
   refine wf ?_; refine wl ?_; refine ws ?_
   refine Ev.call (HP _ _ _ _ _ _ _ _ _ Sr T2 hy1) ?_
   rintro _ _ ⟨J, s5, ds, rfl, g5, S5, T5, N5⟩
   refine Ev.cnd ?_ ?_
   ·rw [aCd (n := 6) S5 (by repeat (first | exact List.Mem.head _ | apply List.Mem.tail)) rfl ZO (NZ J).shape.2.2, eG S5 (by repeat (first | exact List.Mem.head _ | apply List.Mem.tail)) rfl rfl (sR _)]; rfl
   refine Ev.call (rX g _ _ _ _ _ _ _ _ _ _ _ S5 T5 N5 hy2) ?_
   rintro _ _ ⟨K, s6, es, rfl, g6, S6, T6, N6⟩
   obtain ⟨l6, o6, q6⟩ := N6.shape
   refine Ev.cnd ?_ ?_
   ·rw [aCd (n := 6) S6 (by repeat (first | exact List.Mem.head _ | apply List.Mem.tail)) rfl ZO (NZ J).shape.2.2, eG S6 (by repeat (first | exact List.Mem.head _ | apply List.Mem.tail)) rfl rfl (sR _)]; rfl
   refine Ev.bsAt0 S6 (by repeat (first | exact Rpl.head _ | apply Rpl.tail)) (aFb rfl l6) ?_
   intro h7 S7
   have NL7 : NVL K [zN, y2] (_ ++ es) := (NVL.single (NZ K)).app (NVL.single N6)
   obtain ⟨c1, c2⟩ := NL7.shape
   obtain ⟨M, g8, S8, F8, _⟩ := Fz.built (sz := 6) (n := 2) S7 c1 c2
   have N8 : NS M _ [zN, y2] := ⟨by simp [bL], _, F8, NL7.mono g8⟩
   refine Ev.call (vW S8 N8) ?_
   rintro _ _ ⟨cs9, rfl, N9, S9⟩
   obtain ⟨l9, o9, q9⟩ := N9.shape
   refine wt fun _ _ => ?_; refine ws ?_
   exact Ev.ret ⟨M, s6, _, rfl, (g5.trans g6).trans g8, dp, T6.mono g8, N9⟩
  ·rw [if_neg (show ¬ t.kind = 3 from e2)] at hm
   refine yj ?_
   refine Ev.ieq (fun e3 => ?_) (fun e3 => ?_)
   ·rw [if_pos (show t.kind = 2 from e3)] at hm
    refine yt ?_; refine ws ?_
    refine Ev.call (aWm HP g hg _ _ _ _ _ _ _ _ _ _ _ (by assumption) T (NZ I) hm) ?_
    rintro _ _ ⟨J, s5, ds, rfl, g5, S5, T5, N5⟩
    obtain ⟨l5, o5, q5⟩ := N5.shape
    refine wt fun _ _ => ?_; refine ws ?_
    exact Ev.ret ⟨J, s5, _, rfl, g5, dp, T5, N5⟩
   ·rw [if_neg (show ¬ t.kind = 2 from e3)] at hm
    simp only [Option.some.injEq, Prod.mk.injEq] at hm
    obtain ⟨rfl, rfl⟩ := hm
    refine yj ?_; refine ws ?_
    refine Ev.call (mE (by assumption) T.2.one t _) ?_
    rintro _ _ ⟨rfl, S6⟩
    refine ws ?_; refine wt fun _ _ => ?_; refine ws ?_
    exact Ev.ret ⟨I, s, _, rfl, ILe.refl _, dp, by rw [bV]; exact T, NZ I⟩
theorem aOk {P : PF} (HP : sA 137 P) (g : Nat) (hg : g + 1 ≤ bL) : ∀ (f j : Nat) (I : Im) (B A L : Ls) (h : Hp) (p : Pos) (s x : DV) (st : PSt) (xs : List Node) (y : Node) (cells z : List DV) (st' : PSt) (b2 b4 : Pos),
 Sy I (B ++ A) [PS p s st] ((b4, some (.row .ex [.i .i64 (Int.ofNat 8), .s [], .i .i64 (Int.ofNat 0), .l0, .l0, x])) :: (b2, some (.row .ex z)) :: L) h → Gr I 6 B x xs.length cells → NVL I xs cells → z.length = 6 → (∀ v ∈ z, v.one = true) →
 xs.length + f ≤ bL → TS' I s st.toks → aMb P g f xs st = some (y, st') →
 Ev (fun n => mM (aJ n) n (n - j) (.p p 0) (.p b2 0) (.p b4 0) h) (NPost I A L p y st')
 | 0, j, I, B, A, L, h, p, s, x, st, xs, y, cells, z, st', b2, b4, S, G, NL, z1, z2, hl, T, hm => by cases hm
 | f + 1, j, I, B, A, L, h, p, s, x, st, xs, y, cells, z, st', b2, b4, S, G, NL, z1, z2, hl, T, hm => by
  unfold aMb at hm
  obtain ⟨c, hc, hm⟩ := aT hm
  refine Ev.loop j (ll := fun n m => mM (aJ n) n m (.p p 0) (.p b2 0) (.p b4 0) h) (bb := fun n m => wC (aJ n) n (mM (aJ n) n m) (.p p 0) (.p b2 0) (.p b4 0) h) (fun _ _ => rfl) ?_
  have hx := G.one
  unfold wC eO
  refine Ev.call (fD S T hc) ?_
  rintro _ _ ⟨rfl, S1⟩
  cases c with
  | false =>
   rw [if_neg (by simp)] at hm
   simp only [Option.some.injEq, Prod.mk.injEq] at hm
   obtain ⟨rfl, rfl⟩ := hm
   obtain ⟨J, gJ, S3, N3⟩ := G.nodes NL S1 (by omega)
   refine yj ?_; refine ws ?_; refine wt fun _ _ => ?_; refine ws ?_
   exact Ev.ret ⟨J, s, _, rfl, gJ, dp, T.mono gJ, NV.of (SS.nil J) (SS.nil J) N3⟩
  | true =>
   rw [if_pos rfl] at hm
   obtain ⟨⟨t1, st1⟩, ht, hm⟩ := aT hm
   obtain ⟨⟨y1, st2⟩, hy1, hm⟩ := aT hm
   refine yt ?_
   refine Ev.call (cV S1 T ht) ?_
   rintro _ _ ⟨rfl, s2, S2, T2⟩
   have Sr := S2.res
   refine wf ?_; refine wl ?_
   refine Ev.call (cUc HP g hg _ _ _ _ _ _ _ _ _ Sr T2 hy1) ?_
   rintro _ _ ⟨J, s5, ds, rfl, g5, S5, T5, N5⟩
   refine Ev.cnd ?_ ?_
   ·rw [Bool.and_true]; exact eG S5 (by repeat (first | exact List.Mem.head _ | apply List.Mem.tail)) rfl hx G.beq
   refine Ev.call (zO S5 N5) ?_
   rintro _ _ ⟨K, es, rfl, g6, S6, N6⟩
   obtain ⟨l6, o6, q6⟩ := N6.shape
   refine Ev.cnd ?_ ?_
   ·rw [Bool.and_true]; exact eG S6 (by repeat (first | exact List.Mem.head _ | apply List.Mem.tail)) rfl hx G.beq
   refine Ev.bsAt0 S6 (by repeat (first | exact Rpl.head _ | apply Rpl.tail)) (eX l6) ?_
   intro h8 S8
   have g56 := g5.trans g6
   obtain ⟨x10, h10, B10, cells10, e10, S10, G10, NL10⟩ := dZ (G.mono g56) (NL.mono g56) N6 S8 (by repeat (first | exact List.Mem.head _ | apply List.Mem.tail)) (by omega)
   have hx10 := G10.one
   refine Ev.op e10 ?_
   refine wf ?_; refine wu fun _ _ => ?_
   refine (aOk HP g hg f (j + 1) K B10 A L _ p s5 x10 st2 (xs ++ [jC y1]) y cells10 z st' b2 b4 ?_ G10 NL10 z1 z2 (by simp; omega) (T5.mono g6) hm).mono (NPost.le g56)
   exact Sy.dropL (by assumption)
theorem aRp {P : PF} (HP : sA 137 P) (g : Nat) (hg : g + 2 ≤ bL) : sA 114 (kG P g) := by
 intro I A L h p s st x st' S T hm
 unfold kG at hm
 obtain ⟨⟨y1, st1⟩, hy1, hm⟩ := aT hm
 obtain ⟨⟨y2, st2⟩, hy2, hm⟩ := aT hm
 obtain ⟨⟨y3, st3⟩, hy3, hm⟩ := aT hm
 obtain ⟨⟨y4, st4⟩, hy4, hm⟩ := aT hm
 obtain ⟨c, hc, hm⟩ := aT hm
 refine Ev.enter (fun n => bIn n _ h) ?_
 unfold s114 tP
 refine wa fun _ _ _ => ?_
 refine Ev.call (HP _ _ _ _ _ _ _ _ _ (by assumption) T hy1) ?_
 rintro _ _ ⟨J1, s1, c1, rfl, g1, S1, T1, N1⟩
 refine Ev.call (rX g _ _ _ _ _ _ _ _ _ _ _ S1 T1 N1 hy2) ?_
 rintro _ _ ⟨J2, s2, c2, rfl, g2, S2, T2, N2⟩
 refine Ev.call (aDn HP g g _ _ _ _ _ _ _ _ _ _ _ S2 T2 N2 hy3) ?_
 rintro _ _ ⟨J3, s3, c3, rfl, g3, S3, T3, N3⟩
 refine Ev.call (aWm HP g (by omega) _ _ _ _ _ _ _ _ _ _ _ S3 T3 N3 hy4) ?_
 rintro _ _ ⟨J4, s4, c4, rfl, g4, S4, T4, N4⟩
 have g14 := ((g1.trans g2).trans g3).trans g4
 obtain ⟨l4, o4, q4⟩ := N4.shape
 refine wa fun _ _ _ => ?_; refine wt fun _ _ => ?_
 unfold aEm
 refine Ev.call (fD (by assumption) T4 hc) ?_
 rintro _ _ ⟨rfl, S5⟩
 cases c with
 | false =>
  rw [if_neg (by simp)] at hm
  simp only [Option.some.injEq, Prod.mk.injEq] at hm
  obtain ⟨rfl, rfl⟩ := hm
  refine ao ?_; refine yt ?_; refine ws ?_; refine wt fun _ _ => ?_; refine ws ?_
  exact Ev.ret ⟨J4, s4, _, rfl, g14, dp, T4, N4⟩
 | true =>
  rw [if_pos rfl] at hm
  have N4' := N4
  obtain ⟨k, t, m, ns, ts, ks⟩ := y4
  obtain ⟨d1, d2, d3, rfl, a1, a2, a3, cells, F, NL⟩ := N4
  have o1 := a1.2.one
  have o2 := a2.2.one
  have o3 := F.one
  unfold aFn
  refine an ?_; refine yj ?_; refine wf ?_; refine wl ?_
  refine Ev.ine (fun e1 => ?_) (fun e1 => ?_)
  ·rw [if_neg (show ¬ Node.kind (.mk k t m ns ts ks) = 7 from e1)] at hm
   obtain ⟨u, hu, hm⟩ := aT hm
   simp only [Option.some.injEq, Prod.mk.injEq] at hm
   obtain ⟨rfl, rfl⟩ := hm
   refine yt ?_
   refine Ev.call (hJ (k := 0) (by assumption) T4 hu) ?_
   rintro _ _ ⟨rfl, S6⟩
   refine Ev.call (mE S6 T4.2.one u _) ?_
   rintro _ _ ⟨rfl, S7⟩
   refine ws ?_; refine wt fun _ _ => ?_; refine ws ?_
   exact Ev.ret ⟨J4, s4, _, rfl, g14, dp, by rw [bV]; exact T4, N4'⟩
  ·rw [if_pos (show Node.kind (.mk k t m ns ts ks) = 7 from e1)] at hm
   obtain ⟨k0, hk0, hm⟩ := aT hm
   refine yj ?_
   unfold aKb
   rename_i bx _ _ by' _ _ _ _
   have Sr : Sy J4 A [PS p s4 st4] ((_, none) :: (_, none) :: _) (hC 2 _) := S5.res.res
   have NS3 : NS J4 d3 ks := ⟨a3, cells, F, NL⟩
   obtain ⟨b6, o6, c6, i6, N6, L6⟩ := NS3.at (i := 0) hk0
   refine wf ?_; refine wl ?_
   refine Ev.op (i6 _) (Ev.op (L6 J4 _ _ _ _ (ILe.refl _) Sr) ?_)
   refine ws ?_
   refine Ev.call (zO Sr N4') ?_
   rintro _ _ ⟨K, es, rfl, g7, S7, N7⟩
   obtain ⟨l7, o7, q7⟩ := N7.shape
   obtain ⟨l6, o6', q6⟩ := N6.shape
   refine Ev.cnd ?_ ?_
   ·rw [L6 K _ _ _ _ g7 S7, eG S7 (by repeat (first | exact List.Mem.head _ | apply List.Mem.tail)) rfl o3 F.beq]
    simpa [bP] using q6
   refine Ev.bsAt0 S7 (by repeat (first | exact Rpl.head _ | apply Rpl.tail)) (aFb l6 l7) ?_
   intro h8 S8
   have NL8 : NVL K [k0, jC (.mk k t m ns ts ks)] (c6 ++ es) := (NVL.single (N6.mono g7)).app (NVL.single N7)
   obtain ⟨e8, e9⟩ := NL8.shape
   obtain ⟨M, g9, S9, F9, G9⟩ := Fz.built (sz := 6) (n := 2) S8.swap e8 e9
   refine wd ?_
   refine Ev.newAt S9 (Rpl.head _) ?_
   intro h10 S10
   refine wt fun _ _ => ?_
   unfold aGz aRs
   refine (aOk HP g (by omega) g 0 M [] A L _ p s4 _ st4 [k0, jC (.mk k t m ns ts ks)] x (c6 ++ es) _ st' _ _ (Sy.drop2 (by assumption)) G9 (NL8.mono g9) (by rfl) (by first | assumption | exact bS _ | (repeat (first | exact aW | refine aS (by first | rfl | assumption | exact Fz.one (by assumption)) ?_))) (by simp; omega) ((T4.mono g7).mono g9) hm).mono (NPost.le ((g14.trans g7).trans g9))
theorem cGy {P E : PF} (HP : sA 137 P) (HE : sA 79 E) (g : Nat) (hg : g + 2 ≤ bL) : sA 79 (sI P E g) := by
 intro I A L h p s st x st' S T hm
 unfold sI at hm
 obtain ⟨c, hc, hm⟩ := aT hm
 obtain ⟨d, hd, hm2⟩ := aT hm
 refine Ev.enter (fun n => cIr n _ h) ?_
 unfold s79
 refine wa fun _ _ _ => ?_
 refine Ev.call (fD (by assumption) T hc) ?_
 rintro _ _ ⟨rfl, S1⟩
 have cas : d = false → ∀ (b1 : Pos) (z : List DV) h', z.length = 6 → (∀ v ∈ z, v.one = true) → Sy I A [PS p s st] ((b1, some (.row .ex z)) :: L) h' →
  Ev (fun n => bnd (aJ n 114 [.p p 0] h') fun v21 h21 => bnd (aC 6 (.p b1 0) v21 h21) fun _ h22 => bnd (aE 6 (.p b1 0) h22) fun v23 _ => some (v23, h22)) (NPost I A L p x st') := by
  intro hd0 b1 z h' z1 z2 S'
  subst hd0
  rw [if_neg (by simp)] at hm2
  refine Ev.call (aRp HP g hg _ _ _ _ _ _ _ _ _ S' T hm2) ?_
  rintro _ _ ⟨J, s5, ds, rfl, g5, S5, T5, N5⟩
  obtain ⟨l5, o5, q5⟩ := N5.shape
  refine wt fun _ _ => ?_; refine ws ?_
  exact Ev.ret ⟨J, s5, _, rfl, g5, dp, T5, N5⟩
 cases c with
 | false =>
  simp only [Bool.false_eq_true, if_false, Option.some.injEq] at hd
  have C := cas hd.symm _ _ _ rfl (by first | assumption | exact bS _ | (repeat (first | exact aW | refine aS (by first | rfl | assumption | exact Fz.one (by assumption)) ?_))) S1
  refine yf ?_; refine yf ?_; refine yf ?_; refine yf ?_; refine aq ?_; refine yj ?_
  exact C
 | true =>
  rw [if_pos rfl] at hd
  obtain ⟨t, ht, hd⟩ := aT hd
  simp only [Option.some.injEq] at hd
  refine zt ?_; refine wm ?_; refine zt ?_
  refine Ev.call (hJ (k := 1) S1 T ht) ?_
  rintro _ _ ⟨rfl, S2⟩
  refine zt ?_; refine wp ?_; refine zt ?_
  refine Ev.ieq (fun e1 => ?_) (fun e1 => ?_)
  ·rw [decide_eq_true (show t.kind = 9 from e1)] at hd
   subst hd
   rw [if_pos rfl] at hm2
   obtain ⟨⟨t1, st1⟩, ht1, hm2⟩ := aT hm2
   obtain ⟨⟨t2, st2⟩, ht2, hm2⟩ := aT hm2
   obtain ⟨⟨y, st3⟩, hy, hm2⟩ := aT hm2
   simp only [Option.some.injEq, Prod.mk.injEq] at hm2
   obtain ⟨rfl, rfl⟩ := hm2
   refine ap ?_; refine yt ?_
   refine Ev.call (cV S2 T ht1) ?_
   rintro _ _ ⟨rfl, s3, S3, T3⟩
   refine wp ?_; refine wd ?_; refine wa fun _ _ _ => ?_; refine wt fun _ _ => ?_
   refine Ev.call (cV (by assumption) T3 ht2) ?_
   rintro _ _ ⟨rfl, s4, S4, T4⟩
   refine Ev.call (HE _ _ _ _ _ _ _ _ _ S4 T4 hy) ?_
   rintro _ _ ⟨J, s5, ds, rfl, g5, S5, T5, N5⟩
   obtain ⟨l5, o5, q5⟩ := N5.shape
   refine Ev.bs S5 (eX l5) ?_
   intro b6 h6 S6
   obtain ⟨K, g7, S7, F7, _⟩ := Fz.built (sz := 6) (n := 1) S6 (by omega) o5
   have N7 : NS K _ [y] := ⟨by simp [bL], ds, F7, NVL.single (N5.mono g7)⟩
   refine wf ?_; refine wu fun _ _ => ?_; refine ws ?_; refine wt fun _ _ => ?_; refine ws ?_
   exact Ev.ret ⟨K, s5, _, rfl, g5.trans g7, dp, T5.mono g7, NV.of (SS.nil K) (SS.nil K) N7⟩
  ·rw [decide_eq_false (show ¬ t.kind = 9 from e1)] at hd
   have C := cas hd.symm _ _ _ rfl (by first | assumption | exact bS _ | (repeat (first | exact aW | refine aS (by first | rfl | assumption | exact Fz.one (by assumption)) ?_))) S2
   refine ap ?_; refine yj ?_
   exact C
theorem zF : ∀ (f : Nat), f + 2 ≤ bL → sA 79 (lR f)
 | 0, _ => fun I A L h p s st x st' S T hm => by cases hm
 | f + 1, hf => cGy (aPt (bQa f (by omega)) (zF f (by omega)) f (by omega)) (zF f (by omega)) f (by omega)
end Go.Dd

namespace Go.Dd
open Go.Proofs
def aY (c : Nat) : Bool := (decide (97 ≤ c) && decide (c ≤ 122)) || (decide (65 ≤ c) && decide (c ≤ 90))
def bI (c : Nat) : Bool := decide (48 ≤ c) && decide (c ≤ 57)
def eZ (c : Nat) : Bool := aY c || bI c
def cY (c : Nat) : Bool := !decide (c = 39)
def cW (l : List Nat) (c : Nat) : Bool := l.contains c
section
variable {k : Nat → DV → Hp → aH} {P : DV → Hp → Prop} {h : Hp}
theorem Ev.lenS {l : List Nat} (H : Ev (fun n => k n (.i .i64 (l.length : Int)) h) P) : Ev (fun n => bnd (cS (.s l) h) (k n)) P := H
theorem gZ {l : List Nat} {i c : Nat} (e : l[i]? = some c) (h : Hp) : bF (.s l) (.i .i64 (i : Int)) h = some (.i .u8 (Int.ofNat c), h) := by
 show (if 0 ≤ (i : Int) then (match l[(i : Int).toNat]? with
  | some c => some (DV.i .u8 (c : Int), h)
  | none => none) else none) = _
 rw [if_pos (by omega), show (i : Int).toNat = i by omega, e]
 rfl
theorem vL {l : List Nat} {a b : Nat} (h1 : a ≤ b) (h2 : b ≤ l.length) (h : Hp) : cP (.s l) (some (.i .i64 (a : Int))) (some (.i .i64 (b : Int))) h = some (.s ((l.take b).drop a), h) := by
 have e1 : hiD (some (.i .i64 (b : Int))) l.length l.length = some b := by
  show (if 0 ≤ (b : Int) ∧ (b : Int) ≤ (l.length : Int) then some (b : Int).toNat else none) = _
  rw [if_pos ⟨by omega, by omega⟩]; rfl
 have e2 : loD (some (.i .i64 (a : Int))) b = some a := by
  show (if 0 ≤ (a : Int) ∧ (a : Int) ≤ (b : Int) then some (a : Int).toNat else none) = _
  rw [if_pos ⟨by omega, by omega⟩]; rfl
 simp only [cP, e1, e2]
theorem dPh {l : List Nat} {a : Nat} (h1 : a ≤ l.length) (h : Hp) : cP (.s l) (some (.i .i64 (a : Int))) none h = some (.s (l.drop a), h) := by
 have e1 : hiD none l.length l.length = some l.length := by simp [hiD]
 have e2 : loD (some (.i .i64 (a : Int))) l.length = some a := by
  show (if 0 ≤ (a : Int) ∧ (a : Int) ≤ (l.length : Int) then some (a : Int).toNat else none) = _
  rw [if_pos ⟨by omega, by omega⟩]; rfl
 simp only [cP, e1, e2, List.take_length]
end
theorem bTd (n : Nat) (x : DV) (h : Hp) : aJ (n + 1) 107 [x] h = s107 (aJ n) n x h := by kernel_rfl
theorem bSi (n : Nat) (x : DV) (h : Hp) : aJ (n + 1) 110 [x] h = s110 (aJ n) n x h := by kernel_rfl
theorem bHw (n : Nat) (x : DV) (h : Hp) : aJ (n + 1) 132 [x] h = s132 (aJ n) n x h := by kernel_rfl
theorem bXp (n : Nat) (x : DV) (h : Hp) : aJ (n + 1) 133 [x] h = s133 (aJ n) n x h := by kernel_rfl
theorem bKn (n : Nat) (x y : DV) (h : Hp) : aJ (n + 1) 105 [x, y] h = s105 (aJ n) n x y h := by kernel_rfl
theorem cLw (n : Nat) (x : DV) (h : Hp) : aJ (n + 1) 75 [x] h = s75 (aJ n) n x h := by kernel_rfl
theorem bZz (n : Nat) (x y : DV) (h : Hp) : aJ (n + 1) 57 [x, y] h = s57 (aJ n) n x y h := by kernel_rfl
theorem cDh (n : Nat) (x y : DV) (h : Hp) : aJ (n + 1) 85 [x, y] h = s85 (aJ n) n x y h := by kernel_rfl
theorem bKb (n : Nat) (x y : DV) (h : Hp) : aJ (n + 1) 106 [x, y] h = s106 (aJ n) n x y h := by kernel_rfl
theorem cBk (n : Nat) (x y z : DV) (h : Hp) : aJ (n + 1) 74 [x, y, z] h = s74 (aJ n) n x y z h := by kernel_rfl
theorem bSx (n : Nat) (x : DV) (h : Hp) : aJ (n + 1) 108 [x] h = s108 (aJ n) n x h := by kernel_rfl
theorem bHv (n : Nat) (x : DV) (h : Hp) : aJ (n + 1) 109 [x] h = s109 (aJ n) n x h := by kernel_rfl
theorem cFb (rec : FuncId → List DV → Hp → aH) (x y : DV) (h : Hp) : dS CF rec (.f 105 [] [y]) [x] h = rec 105 [x, y] h := by kernel_rfl
theorem cHi (rec : FuncId → List DV → Hp → aH) (x : DV) (h : Hp) : dS CF rec (.f 110 [] []) [x] h = rec 110 [x] h := by kernel_rfl
theorem bYs (rec : FuncId → List DV → Hp → aH) (x : DV) (h : Hp) : dS CF rec (.f 132 [] []) [x] h = rec 132 [x] h := by kernel_rfl
theorem cHe (rec : FuncId → List DV → Hp → aH) (x : DV) (h : Hp) : dS CF rec (.f 133 [] []) [x] h = rec 133 [x] h := by kernel_rfl
theorem lI (c : Nat) (h : Hp) : Ev (fun n => aJ n 107 [.i .u8 (Int.ofNat c)] h) (fun v h' => v = .b (aY c) ∧ h' = h) := by
 refine Ev.enter (fun n => bTd n _ h) ?_
 unfold s107
 refine Ev.ige (fun e1 => ?_) (fun e1 => ?_)
 ·refine zt ?_; refine wm ?_; refine zt ?_
  refine Ev.ile (fun e2 => ?_) (fun e2 => ?_)
  ·refine ap ?_; refine yg ?_; refine yg ?_; refine yg ?_; refine yu ?_; refine yu ?_; refine yg ?_; refine ap ?_
   exact Ev.ret ⟨by simp at e1 e2; simp [aY]; omega, rfl⟩
  ·refine ap ?_; refine zf ?_; refine wm ?_; refine zf ?_
   refine Ev.ige (fun e3 => ?_) (fun e3 => ?_)
   ·refine zf ?_; refine wm ?_; refine zt ?_; refine wm ?_; refine zt ?_
    refine Ev.ile (fun e4 => ?_) (fun e4 => ?_)
    ·refine zf ?_; refine ap ?_; refine aq ?_
     exact Ev.ret ⟨by simp at e1 e2 e3 e4; omega, rfl⟩
    ·refine zf ?_; refine ap ?_; refine aq ?_
     exact Ev.ret ⟨by simp at e1 e2 e3 e4; simp [aY]; omega, rfl⟩
   ·refine zf ?_; refine wm ?_; refine yf ?_; refine yf ?_; refine zf ?_; refine aq ?_; refine aq ?_
    exact Ev.ret ⟨by simp at e1 e2 e3; omega, rfl⟩
 ·refine yf ?_; refine yf ?_; refine aq ?_; refine zf ?_; refine wm ?_; refine zf ?_
  refine Ev.ige (fun e3 => ?_) (fun e3 => ?_)
  ·refine zf ?_; refine wm ?_; refine zt ?_; refine wm ?_; refine zt ?_
   refine Ev.ile (fun e4 => ?_) (fun e4 => ?_)
   ·refine zf ?_; refine ap ?_; refine aq ?_
    exact Ev.ret ⟨by simp at e1 e3 e4; simp [aY]; omega, rfl⟩
   ·refine zf ?_; refine ap ?_; refine aq ?_
    exact Ev.ret ⟨by simp at e1 e3 e4; simp [aY]; omega, rfl⟩
  ·refine zf ?_; refine wm ?_; refine yf ?_; refine yf ?_; refine zf ?_; refine aq ?_; refine aq ?_
   exact Ev.ret ⟨by simp at e1 e3; simp [aY]; omega, rfl⟩
theorem xO (c : Nat) (h : Hp) : Ev (fun n => aJ n 110 [.i .u8 (Int.ofNat c)] h) (fun v h' => v = .b (bI c) ∧ h' = h) := by
 refine Ev.enter (fun n => bSi n _ h) ?_
 unfold s110
 refine Ev.ige (fun e1 => ?_) (fun e1 => ?_)
 ·refine zt ?_; refine wm ?_; refine zt ?_
  refine Ev.ile (fun e2 => ?_) (fun e2 => ?_)
  ·refine ap ?_
   exact Ev.ret ⟨by simp at e1 e2; simp [bI]; omega, rfl⟩
  ·refine ap ?_
   exact Ev.ret ⟨by simp at e1 e2; simp [bI]; omega, rfl⟩
 ·refine yf ?_; refine yf ?_; refine aq ?_
  exact Ev.ret ⟨by simp at e1; simp [bI]; omega, rfl⟩
def aDe (I : Im) (f : DV) (so : Nat → Bool) : Prop := ∀ (J : Im) (A Q L : Ls) (h : Hp) (c : Nat), ILe I J → Sy J A Q L h → c < 256 → Ev (fun n => dS CF (aJ n) f [.i .u8 (Int.ofNat c)] h) (fun v h' => v = .b (so c) ∧ h' = h)
theorem cKp (I : Im) : aDe I (.f 110 [] []) bI := by
 intro J A Q L h c _ _ _
 simp only [cHi]
 exact xO c h
theorem cWe (I : Im) : aDe I (.f 132 [] []) eZ := by
 intro J A Q L h c _ _ _
 simp only [bYs]
 refine Ev.enter (fun n => bHw n _ h) ?_
 unfold s132
 refine Ev.call (lI c h) ?_
 rintro _ _ ⟨rfl, rfl⟩
 cases e : aY c with
 | true =>
  refine yg ?_; refine yg ?_; refine ap ?_
  exact Ev.ret ⟨by simp [eZ, e], rfl⟩
 | false =>
  refine zf ?_; refine wm ?_; refine zf ?_
  refine Ev.call (xO c _) ?_
  rintro _ _ ⟨rfl, rfl⟩
  refine aq ?_
  exact Ev.ret ⟨by simp [eZ, e], rfl⟩
theorem cZp (I : Im) : aDe I (.f 133 [] []) cY := by
 intro J A Q L h c _ _ _
 simp only [cHe]
 refine Ev.enter (fun n => bXp n _ h) ?_
 unfold s133
 refine Ev.ine (fun e1 => ?_) (fun e1 => ?_)
 ·exact Ev.ret ⟨by simp at e1; simp [cY]; omega, rfl⟩
 ·exact Ev.ret ⟨by simp at e1; simp [cY]; omega, rfl⟩
theorem aHg (c : Nat) : ∀ (l : List Nat) (i : Nat), decide (0 ≤ dI c l i) = l.contains c
 | [], i => rfl
 | x :: l, i => by
  have ih := aHg c l (i + 1)
  unfold dI
  cases e : Nat.beq x c with
  | true =>
   have e2 := Nat.eq_of_beq_eq_true e
   subst e2
   simp
  | false =>
   have e2 : ¬ x = c := fun e2 => by subst e2; simp at e
   simp only [cond_false, ih]
   have e3 : ¬ c = x := fun e3 => e2 e3.symm
   simp [e3]
theorem aBi (l : List Nat) (c : Nat) (hc : c < 256) (h : Hp) : Ev (fun n => aJ n 57 [.s l, .i .u8 (Int.ofNat c)] h) (fun v h' => v = .i .i64 (dI c l 0) ∧ h' = h) := by
 refine Ev.enter (fun n => bZz n _ _ h) ?_
 unfold s57
 refine Ev.call (F := fun n => aJ n 85 [.s l, .i .u8 (Int.ofNat c)] h) (Q := fun v h' => v = .i .i64 (dI c l 0) ∧ h' = h) ?_ ?_
 ·refine Ev.enter (fun n => cDh n _ _ h) ?_
  unfold s85
  have e : bFf [.s l, .i .u8 (Int.ofNat c)] h = some (.i .i64 (dI c l 0), h) := by
   have e2 : Nat.blt c 256 = true := by simpa [Nat.blt_eq] using hc
   show (bif Nat.blt c 256 then some (DV.i IntKind.i64 (dI c l 0), h) else none) = _
   rw [e2]
   rfl
  refine Ev.op e ?_
  exact Ev.ret ⟨rfl, rfl⟩
 ·rintro _ _ ⟨rfl, rfl⟩
  exact Ev.ret ⟨rfl, rfl⟩
theorem aCi {I : Im} {A Q L : Ls} {h : Hp} (S : Sy I A Q L h) (l : List Nat) :
 Ev (fun n => aJ n 75 [.s l] h) (fun v h' => ∃ J, ILe I J ∧ Sy J A Q L h' ∧ aDe J v (cW l)) := by
 refine Ev.enter (fun n => cLw n _ h) ?_
 unfold s75
 refine Ev.box S rfl ?_
 intro b h1 S1
 obtain ⟨S2, g⟩ := S1.freeze
 refine Ev.ret ⟨_, g, S2, ?_⟩
 intro J A' Q' L' h' c gJ S' hc
 simp only [cFb]
 refine Ev.enter (fun n => bKn n _ _ h') ?_
 unfold s105
 refine Ev.ld (S'.im _ _ (gJ _ _ (Im.put_same _ _ _))) rfl rfl ?_
 refine Ev.call (aBi l c hc h') ?_
 rintro _ _ ⟨rfl, rfl⟩
 refine Ev.op (fI .geq (.b (decide (dI c l 0 ≥ Int.ofNat 0))) rfl) ?_
 refine Ev.ret ⟨?_, rfl⟩
 rw [show (decide (dI c l 0 ≥ Int.ofNat 0)) = l.contains c from aHg c l 0]
 rfl
def RS (r : Pos) (s : List Nat) (at_ : Nat) : Pos × Option Ob := (r, some (.row .ex [.s s, .i .i64 (at_ : Int)]))
def dC (so : Nat → Bool) : Nat → List Nat → Nat
 | 0, _ => 0
 | _ + 1, [] => 0
 | m + 1, c :: u => if so c then dC so m u + 1 else 0
def aCb (s : List Nat) (i : Nat) : Nat := s.getD i 0
theorem nE (so : Nat → Bool) : ∀ (m : Nat) (u : List Nat), dC so m u ≤ u.length
 | 0, _ => by simp [dC]
 | _ + 1, [] => by simp [dC]
 | m + 1, c :: u => by
  have := nE so m u
  simp only [dC, List.length_cons]
  split <;> omega
section
variable {I : Im} {A L : Ls} {h : Hp} {r : Pos} {s : List Nat} {i : Nat}
theorem nU (n : Nat) (h : n ≤ 1000000000000) : IntKind.i64.wrap (n : Int) = (n : Int) := dG _ (by omega) (by omega)
theorem jN (S : Sy I A [RS r s i] L h) (hs : s.length ≤ bL) (hi : i ≤ s.length) (k : Nat) (hk : k ≤ 2) :
 Ev (fun n => aJ n 106 [.p r 0, .i .i64 (Int.ofNat k)] h) (fun v h' => v = .i .u8 (Int.ofNat (aCb s (i + k))) ∧ h' = h) := by
 refine Ev.enter (fun n => bKb n _ _ h) ?_
 unfold s106
 have e0 : IntKind.i64.wrap ((i : Int) + Int.ofNat k) = ((i + k : Nat) : Int) := by
  rw [show (i : Int) + Int.ofNat k = ((i + k : Nat) : Int) by simp]
  exact nU _ (by simp only [bL] at hs; omega)
 refine wn ?_; refine wf ?_; refine wq ?_
 refine Ev.iadd ?_
 rw [e0]
 refine wn ?_; refine wf ?_; refine wq ?_
 refine Ev.lenS ?_
 refine Ev.ige (fun e1 => ?_) (fun e1 => ?_)
 ·refine yt ?_
  have e2 : s.length ≤ i + k := by omega
  exact Ev.ret ⟨by simp [aCb, List.getD, List.getElem?_eq_none e2], rfl⟩
 ·refine yj ?_; refine wn ?_; refine wf ?_; refine wq ?_; refine wn ?_; refine wf ?_; refine wq ?_
  refine Ev.iadd ?_
  rw [e0]
  have e2 : i + k < s.length := by omega
  refine Ev.op (gZ (c := s[i + k]) (by simp [e2]) _) ?_
  exact Ev.ret ⟨by simp [aCb, List.getD, e2], rfl⟩
theorem bVb {f : DV} {so : Nat → Bool} (C : aDe I f so) (hs : s.length ≤ bL) (hb : ∀ c ∈ s, c < 256) (from_ : Nat) : ∀ (m j i : Nat) (h : Hp) (iU : Nat), Sy I A [RS r s i] L h → from_ ≤ i → i ≤ s.length → (i - from_) + m = iU → iU ≤ bL →
 Ev (fun n => mW (aJ n) n (n - j) (.p r 0) f (.i .i64 (iU : Int)) (.i .i64 (from_ : Int)) h) (fun v h' => v = .s ((s.take (i + dC so m (s.drop i))).drop from_) ∧ Sy I A [RS r s (i + dC so m (s.drop i))] L h') := by
 intro m
 induction m with
 | zero =>
  intro j i h iU S h1 h2 h3 h4
  refine Ev.loop j (ll := fun n m => mW (aJ n) n m (.p r 0) f (.i .i64 (iU : Int)) (.i .i64 (from_ : Int)) h) (bb := fun n m => tA (aJ n) n (mW (aJ n) n m) (.p r 0) f (.i .i64 (iU : Int)) (.i .i64 (from_ : Int)) h) (fun _ _ => rfl) ?_
  unfold tA iE
  refine wn ?_; refine wf ?_; refine wq ?_; refine wn ?_; refine wf ?_; refine wq ?_
  refine Ev.lenS ?_
  have fin : Ev (fun n => bnd (cP (.s s) (some (.i .i64 (from_ : Int))) (some (.i .i64 (i : Int))) h) fun v7 h7 => some (v7, h7)) (fun v h' => v = .s ((s.take (i + dC so 0 (s.drop i))).drop from_) ∧ Sy I A [RS r s (i + dC so 0 (s.drop i))] L h') :=
   Ev.op (vL h1 h2 h) (Ev.ret ⟨by simp [dC], by simpa [dC] using S⟩)
  refine Ev.ilt (fun e1 => ?_) (fun e1 => ?_)
  ·refine zt ?_; refine wm ?_; refine zt ?_; refine wn ?_; refine zt ?_; refine wf ?_; refine zt ?_; refine wq ?_; refine zt ?_; refine wm ?_; refine zt ?_
   refine Ev.isub ?_
   rw [show (i : Int) - (from_ : Int) = ((i - from_ : Nat) : Int) by omega, nU _ (by simp only [bL] at hs; omega)]
   refine zt ?_; refine wm ?_; refine zt ?_
   refine Ev.ilt (fun e2 => ?_) (fun e2 => ?_)
   ·omega
   ·refine ap ?_; refine yf ?_; refine yf ?_; refine yf ?_; refine yf ?_; refine yf ?_; refine yf ?_; refine yf ?_; refine yf ?_; refine yf ?_; refine yf ?_; refine yf ?_; refine aq ?_; refine yj ?_; refine wn ?_; refine wf ?_; refine wq ?_; refine wn ?_; refine wf ?_; refine wq ?_
    exact fin
  ·refine yf ?_; refine yf ?_; refine yf ?_; refine yf ?_; refine yf ?_; refine yf ?_; refine yf ?_; refine yf ?_; refine aq ?_; refine yf ?_; refine yf ?_; refine yf ?_; refine yf ?_; refine yf ?_; refine yf ?_; refine yf ?_; refine yf ?_; refine yf ?_; refine yf ?_; refine yf ?_; refine aq ?_; refine yj ?_; refine wn ?_; refine wf ?_; refine wq ?_; refine wn ?_; refine wf ?_; refine wq ?_
   exact fin
 | succ m ih =>
  intro j i h iU S h1 h2 h3 h4
  refine Ev.loop j (ll := fun n m => mW (aJ n) n m (.p r 0) f (.i .i64 (iU : Int)) (.i .i64 (from_ : Int)) h) (bb := fun n m => tA (aJ n) n (mW (aJ n) n m) (.p r 0) f (.i .i64 (iU : Int)) (.i .i64 (from_ : Int)) h) (fun _ _ => rfl) ?_
  unfold tA iE
  refine wn ?_; refine wf ?_; refine wq ?_; refine wn ?_; refine wf ?_; refine wq ?_
  refine Ev.lenS ?_
  have fin : dC so (m + 1) (s.drop i) = 0 → Ev (fun n => bnd (cP (.s s) (some (.i .i64 (from_ : Int))) (some (.i .i64 (i : Int))) h) fun v7 h7 => some (v7, h7)) (fun v h' => v = .s ((s.take (i + dC so (m + 1) (s.drop i))).drop from_) ∧ Sy I A [RS r s (i + dC so (m + 1) (s.drop i))] L h') := fun e0 => by
   rw [e0]
   exact Ev.op (vL h1 h2 h) (Ev.ret ⟨rfl, S⟩)
  refine Ev.ilt (fun e1 => ?_) (fun e1 => ?_)
  ·have e1' : i < s.length := by omega
   have hd : s.drop i = s[i] :: s.drop (i + 1) := List.drop_eq_getElem_cons e1'
   refine zt ?_; refine wm ?_; refine zt ?_; refine wn ?_; refine zt ?_; refine wf ?_; refine zt ?_; refine wq ?_; refine zt ?_; refine wm ?_; refine zt ?_
   refine Ev.isub ?_
   rw [show (i : Int) - (from_ : Int) = ((i - from_ : Nat) : Int) by omega, nU _ (by simp only [bL] at hs; omega)]
   refine zt ?_; refine wm ?_; refine zt ?_
   refine Ev.ilt (fun e2 => ?_) (fun e2 => ?_)
   ·refine ap ?_; refine zt ?_; refine wm ?_; refine zt ?_; refine wm ?_; refine zt ?_; refine wn ?_; refine zt ?_; refine wf ?_; refine zt ?_; refine wq ?_; refine zt ?_; refine wm ?_; refine zt ?_; refine wn ?_; refine zt ?_; refine wf ?_; refine zt ?_; refine wq ?_; refine zt ?_
    refine Ev.op (gZ (c := s[i]) (by simp [e1']) _) ?_
    refine zt ?_
    refine Ev.call (C I _ _ _ _ s[i] (ILe.refl _) S (hb _ (List.getElem_mem e1'))) ?_
    rintro _ _ ⟨rfl, rfl⟩
    refine ap ?_
    cases e3 : so s[i] with
    | false =>
     refine yj ?_; refine wn ?_; refine wf ?_; refine wq ?_; refine wn ?_; refine wf ?_; refine wq ?_
     exact fin (by rw [hd]; simp [dC, e3])
    | true =>
     refine yt ?_; refine wn ?_; refine wf ?_; refine wq ?_
     refine Ev.iadd ?_
     have e4 : IntKind.i64.wrap ((i : Int) + Int.ofNat 1) = ((i + 1 : Nat) : Int) := by
      rw [show (i : Int) + Int.ofNat 1 = ((i + 1 : Nat) : Int) by simp]
      exact nU _ (by simp only [bL] at hs; omega)
     rw [e4]
     refine wn ?_; refine wf ?_; refine wv fun _ _ => ?_
     have := ih (j + 1) (i + 1) _ iU (by assumption) (by omega) (by omega) (by omega) h4
     have e5 : i + 1 + dC so m (s.drop (i + 1)) = i + dC so (m + 1) (s.drop i) := by
      rw [hd]
      simp [dC, e3]
      omega
     rw [e5] at this
     exact this
   ·omega
  ·refine yf ?_; refine yf ?_; refine yf ?_; refine yf ?_; refine yf ?_; refine yf ?_; refine yf ?_; refine yf ?_; refine aq ?_; refine yf ?_; refine yf ?_; refine yf ?_; refine yf ?_; refine yf ?_; refine yf ?_; refine yf ?_; refine yf ?_; refine yf ?_; refine yf ?_; refine yf ?_; refine aq ?_; refine yj ?_; refine wn ?_; refine wf ?_; refine wq ?_; refine wn ?_; refine wf ?_; refine wq ?_
   have e1' : s.drop i = [] := List.drop_eq_nil_of_le (by omega)
   exact fin (by rw [e1']; rfl)
theorem pP {f : DV} {so : Nat → Bool} (C : aDe I f so) (S : Sy I A [RS r s i] L h) (hs : s.length ≤ bL) (hb : ∀ c ∈ s, c < 256) (hi : i ≤ s.length) (iU : Nat) (hm : iU ≤ bL) :
 Ev (fun n => aJ n 74 [.p r 0, f, .i .i64 (iU : Int)] h) (fun v h' => v = .s ((s.drop i).take (dC so iU (s.drop i))) ∧ Sy I A [RS r s (i + dC so iU (s.drop i))] L h') := by
 refine Ev.enter (fun n => cBk n _ _ _ h) ?_
 unfold s74 bBq bAy bNm
 refine wn ?_; refine wf ?_; refine wq ?_
 refine (bVb C hs hb i iU 0 i h iU S (Nat.le_refl _) hi (by omega) hm).mono ?_
 rintro v h' ⟨rfl, S'⟩
 refine ⟨?_, S'⟩
 rw [List.drop_take, Nat.add_sub_cancel_left]
end
end Go.Dd

namespace Go.Dd
open Go.Proofs
theorem rY (so : Nat → Bool) : ∀ (u : List Nat) (m : Nat), u.length ≤ m → dC so m u = (u.takeWhile so).length
 | [], 0, _ => rfl
 | [], _ + 1, _ => rfl
 | c :: u, 0, h => by simp at h
 | c :: u, m + 1, h => by
  have := rY so u m (by simpa using h)
  simp only [dC, this]
  cases e : so c <;> simp [e]
theorem sE (so : Nat → Bool) : ∀ (u : List Nat), u.take (u.takeWhile so).length = u.takeWhile so
 | [] => rfl
 | c :: u => by
  have := sE so u
  cases e : so c <;> simp [e, this]
theorem nL (so : Nat → Bool) : ∀ (u : List Nat), (u.takeWhile so).length ≤ u.length
 | [] => Nat.le_refl _
 | c :: u => by
  have := nL so u
  cases e : so c <;> simp [e]
  omega
theorem bWh (so : Nat → Bool) : ∀ (u : List Nat) (c : Nat), c ∈ u.takeWhile so → so c = true
 | [], c, h => by simp at h
 | d :: u, c, h => by
  cases e : so d with
  | false => simp [e] at h
  | true =>
   simp [e] at h
   rcases h with rfl | h
   ·exact e
   ·exact bWh so u c h
def nx (u : List Nat) (k : Nat) : Nat := u.getD k 0
def bE (u : List Nat) : List Nat × Int × Nat := if 24 < (u.takeWhile eZ).length then ([], 12, (u.takeWhile eZ).length) else (u.takeWhile eZ, 0, (u.takeWhile eZ).length)
def dD (u : List Nat) : Bool := decide (nx u 0 = 58) && !decide (nx u 1 = 61)
def lP : Int → List Nat → Int × Int
 | n, [] => (n, 0)
 | n, c :: w => if 115292150460684697 < n then (0, 2) else if 1152921504606846976 < n * 10 + ((c : Int) - 48) then (0, 2) else lP (n * 10 + ((c : Int) - 48)) w
def oM (u : List Nat) : Int × Int × Nat := ((lP 0 (u.takeWhile bI)).1, (lP 0 (u.takeWhile bI)).2, (u.takeWhile bI).length)
def pH : Nat → List Nat → List Nat → Option (List Nat × Int × Nat)
 | 0, _, _ => none
 | f + 1, out, u =>
  if (u.takeWhile cY).length = u.length then some ([], 11, u.length)
  else if nx u ((u.takeWhile cY).length + 1) = 39 then
   (pH f (out ++ u.takeWhile cY ++ [39]) (u.drop ((u.takeWhile cY).length + 2))).bind fun r => some (r.1, r.2.1, r.2.2 + ((u.takeWhile cY).length + 2))
  else some (out ++ u.takeWhile cY, 0, (u.takeWhile cY).length + 1)
def signs : List Nat := [43, 45, 42, 47, 60, 62, 61, 126, 44, 64, 38, 37]
def marks : List Nat := [94, 46, 59, 40, 41, 91, 93, 124]
def bK : List Nat := [9, 10, 13, 32]
def aBk : Nat → List Nat → List Nat → Option (List Nat × Int × Nat)
 | 0, _, _ => none
 | f + 1, out, u =>
  if aY (nx u 0) then
   if dD (u.drop (bE u).2.2) then
    if (bE u).2.1 = 0 then (aBk f (out ++ ((bE u).1 ++ [58])) (u.drop ((bE u).2.2 + 1))).bind fun r => some (r.1, r.2.1, r.2.2 + ((bE u).2.2 + 1))
    else some ([], (bE u).2.1, (bE u).2.2 + 1)
   else some (out, 0, 0)
  else some (out, 0, 0)
def jL (f : Nat) (u : List Nat) : Option (List Nat × Int × Nat) :=
 if dC (cW signs) 2 u = 0 then
  if aY (nx u 0) then
   if (bE u).2.1 = 0 then
    if dD (u.drop (bE u).2.2) then (aBk f ((bE u).1 ++ [58]) (u.drop ((bE u).2.2 + 1))).bind fun r => some (r.1, r.2.1, r.2.2 + ((bE u).2.2 + 1))
    else some ((bE u).1, 0, (bE u).2.2)
   else some ((bE u).1, (bE u).2.1, (bE u).2.2)
  else some ([], 10, 0)
 else some (u.take (dC (cW signs) 2 u), 0, dC (cW signs) 2 u)
theorem jT (s : List Nat) (i k : Nat) : aCb s (i + k) = nx (s.drop i) k := by simp [aCb, nx, List.getD, List.getElem?_drop]
theorem fG (u : List Nat) : (bE u).2.2 ≤ u.length := by
 unfold bE
 have := nL eZ u
 split <;> exact this
section
variable {I : Im} {A L : Ls} {h : Hp} {r : Pos} {s : List Nat} {i : Nat}
theorem aXk (S : Sy I A [RS r s i] L h) (hs : s.length ≤ bL) (hb : ∀ c ∈ s, c < 256) (hi : i ≤ s.length) :
 Ev (fun n => aJ n 108 [.p r 0] h) (fun v h' => v = .t [.s (bE (s.drop i)).1, .i .i64 (bE (s.drop i)).2.1] ∧ Sy I A [RS r s (i + (bE (s.drop i)).2.2)] L h') := by
 refine Ev.enter (fun n => bSx n _ h) ?_
 unfold s108
 refine wn ?_; refine wf ?_; refine wq ?_
 refine Ev.lenS ?_
 refine Ev.call (pP (cWe I) S hs hb hi s.length hs) ?_
 rintro _ h1 ⟨rfl, S1⟩
 have e0 : dC eZ s.length (s.drop i) = ((s.drop i).takeWhile eZ).length := rY _ _ _ (by simp)
 rw [e0] at S1 ⊢
 rw [sE]
 refine Ev.lenS ?_
 unfold bE
 refine Ev.igt (fun e1 => ?_) (fun e1 => ?_)
 ·refine yt ?_
  have e2 : 24 < ((s.drop i).takeWhile eZ).length := by simp at e1; omega
  rw [if_pos e2]
  exact Ev.ret ⟨rfl, S1⟩
 ·refine yj ?_
  have e2 : ¬ 24 < ((s.drop i).takeWhile eZ).length := by simp at e1; omega
  rw [if_neg e2]
  exact Ev.ret ⟨rfl, S1⟩
theorem dO {i : Nat} (k : Nat) (hs : i + k ≤ 1000000000000) : IntKind.i64.wrap ((i : Int) + Int.ofNat k) = ((i + k : Nat) : Int) := by
 rw [show (i : Int) + Int.ofNat k = ((i + k : Nat) : Int) by simp]
 exact nU _ hs
theorem aRo (S : Sy I A [RS r s i] L h) (hs : s.length ≤ bL) (hi : i ≤ s.length) :
 Ev (fun n => aJ n 109 [.p r 0] h) (fun v h' => v = .b (dD (s.drop i)) ∧ Sy I A [RS r s (if dD (s.drop i) then i + 1 else i)] L h') := by
 refine Ev.enter (fun n => bHv n _ h) ?_
 unfold s109
 refine Ev.call (jN S hs hi 0 (by omega)) ?_
 rintro _ _ ⟨rfl, rfl⟩
 rw [jT]
 unfold dD
 refine Ev.ine (fun e1 => ?_) (fun e1 => ?_)
 ·refine yg ?_; refine yg ?_; refine yg ?_; refine ap ?_; refine yt ?_
  have e2 : ¬ nx (s.drop i) 0 = 58 := by simp at e1; omega
  simp only [e2, decide_false, Bool.false_and, Bool.false_eq_true, if_false]
  exact Ev.ret ⟨rfl, S⟩
 ·refine zf ?_; refine wm ?_; refine zf ?_
  have e2 : nx (s.drop i) 0 = 58 := by simp at e1; omega
  refine Ev.call (jN S hs hi 1 (by omega)) ?_
  rintro _ _ ⟨rfl, rfl⟩
  rw [jT]
  refine zf ?_
  refine Ev.ieq (fun e3 => ?_) (fun e3 => ?_)
  ·refine aq ?_; refine yt ?_
   have e4 : nx (s.drop i) 1 = 61 := by simp at e3; omega
   simp only [e2, e4, decide_true, Bool.not_true, Bool.and_false, Bool.false_eq_true, if_false]
   exact Ev.ret ⟨rfl, S⟩
  ·refine aq ?_; refine yj ?_; refine wn ?_; refine wf ?_; refine wq ?_
   have e4 : ¬ nx (s.drop i) 1 = 61 := by simp at e3; omega
   simp only [e2, e4, decide_true, decide_false, Bool.not_false, Bool.and_true, if_true]
   refine Ev.iadd ?_
   rw [dO 1 (by simp only [bL] at hs; omega)]
   refine wn ?_; refine wf ?_; refine wv fun _ _ => ?_
   exact Ev.ret ⟨rfl, by assumption⟩
theorem iV {u : List Nat} (h : dD u = true) : 1 ≤ u.length := by
 unfold dD at h
 cases u with
 | nil => simp [nx] at h
 | cons => simp
end
theorem cVl {I : Im} {A Q L L' : Ls} {h : Hp} {k : Nat → DV → Hp → aH} {P : DV → Hp → Prop} {b : Pos} {l : List Nat} {pos c : Nat} (S : Sy I A Q L h) (r : Rpl b (some (.it l pos)) (some (.it l (pos + 1))) L L') (e : l[pos]? = some c) (hc : c < 128)
 (H : ∀ h', Sy I A Q L' h' → Ev (fun m => k m (.t [.b true, .i .i64 (pos : Int), .i .i32 (c : Int)]) h') P) : Ev (fun m => bnd (vJ (.p b 0) h) (k m)) P := by
 refine Ev.op (v := .t [.b true, .i .i64 (pos : Int), .i .i32 (c : Int)]) (h := ⟨h.next, Tr.set (.it l (pos + 1)) b h.bl⟩) ?_ (H _ (S.setL r rfl (fun c => Tr.get_set _ _ _ _)))
 simp [vJ, S.memL r.at.1, e, hc]
theorem dEw {I : Im} {A Q L : Ls} {h : Hp} {k : Nat → DV → Hp → aH} {P : DV → Hp → Prop} {b : Pos} {l : List Nat} {pos : Nat} (S : Sy I A Q L h) (r : (b, some (.it l pos)) ∈ L) (e : l[pos]? = none)
 (H : Ev (fun m => k m (.t [.b false]) h) P) : Ev (fun m => bnd (vJ (.p b 0) h) (k m)) P := by
 refine Ev.op (v := .t [.b false]) (h := h) ?_ H
 simp [vJ, S.memL r, e]
theorem bVa (n : Nat) (x : DV) (h : Hp) : aJ (n + 1) 111 [x] h = s111 (aJ n) n x h := by kernel_rfl
theorem bHf (n : Nat) (x : DV) (h : Hp) : aJ (n + 1) 112 [x] h = s112 (aJ n) n x h := by kernel_rfl
theorem bQw (n : Nat) (x : DV) (h : Hp) : aJ (n + 1) 113 [x] h = s113 (aJ n) n x h := by kernel_rfl
theorem cLb (n : Nat) (x : DV) (h : Hp) : aJ (n + 1) 76 [x] h = s76 (aJ n) n x h := by kernel_rfl
theorem cNg (n : Nat) (x : DV) (h : Hp) : aJ (n + 1) 48 [x] h = s48 (aJ n) n x h := by kernel_rfl
theorem bQv {I : Im} {A Q L : Ls} {b : Pos} {l : List Nat} (hd : ∀ c ∈ l, bI c = true) : ∀ (w : List Nat) (j pos : Nat) (h : Hp) (x : Int), Sy I A Q ((b, some (.it l pos)) :: L) h → l.drop pos = w → 0 ≤ x → x ≤ 1152921504606846976 →
 Ev (fun n => jP (aJ n) n (n - j) (.i .i64 x) (.p b 0) h) (fun v h' => v = .t [.i .i64 (lP x w).1, .i .i64 (lP x w).2] ∧ Sy I A Q L h') := by
 intro w
 induction w with
 | nil =>
  intro j pos h x S hw h0 h1
  refine Ev.loop j (ll := fun n m => jP (aJ n) n m (.i .i64 x) (.p b 0) h) (bb := fun n m => oO (aJ n) n (jP (aJ n) n m) (.i .i64 x) (.p b 0) h) (fun _ _ => rfl) ?_
  unfold oO eA
  refine dEw S (List.Mem.head _) (List.getElem?_eq_none (by simpa using hw)) ?_
  refine wx ?_; refine yj ?_
  exact Ev.ret ⟨rfl, S.dropL⟩
 | cons c w ih =>
  intro j pos h x S hw h0 h1
  have hg : l[pos]? = some c := by
   have : (l.drop pos)[0]? = some c := by rw [hw]; rfl
   simpa using this
  have hw' : l.drop (pos + 1) = w := by
   rw [← List.drop_drop, hw]; rfl
  have hdc := hd c (List.mem_of_getElem? hg)
  simp [bI] at hdc
  refine Ev.loop j (ll := fun n m => jP (aJ n) n m (.i .i64 x) (.p b 0) h) (bb := fun n m => oO (aJ n) n (jP (aJ n) n m) (.i .i64 x) (.p b 0) h) (fun _ _ => rfl) ?_
  unfold oO
  refine cVl S (Rpl.head _) hg (by omega) ?_
  intro h2 S2
  refine wx ?_; refine yt ?_; refine wx ?_
  unfold lP
  refine Ev.igt (fun e1 => ?_) (fun e1 => ?_)
  ·refine yt ?_
   rw [if_pos (show (115292150460684697 : Int) < x from e1)]
   exact Ev.ret ⟨rfl, S2.dropL⟩
  ·rw [if_neg (show ¬ (115292150460684697 : Int) < x from e1)]
   have e1' : x ≤ 115292150460684697 := by
    have : ¬ (115292150460684697 : Int) < x := e1
    omega
   refine yj ?_
   refine Ev.imul ?_
   refine Ev.isub ?_
   have a1 : IntKind.i64.wrap (x * Int.ofNat 10) = x * 10 := dG _ (by show -9223372036854775808 ≤ x * 10; omega) (by show x * 10 ≤ _; omega)
   have a2 : IntKind.i32.wrap ((c : Int) - Int.ofNat 48) = (c : Int) - 48 := by
    show IntKind.i32.wrap ((c : Int) - 48) = _
    unfold IntKind.wrap
    simp [IntKind.bits, IntKind.signed, IntKind.min, IntKind.max]
    omega
   have a3 : ∀ h, kJ .i64 (.i .i32 ((c : Int) - 48)) h = some (.i .i64 ((c : Int) - 48), h) := fun h => by
    show some (DV.i .i64 (IntKind.i64.wrap ((c : Int) - 48)), h) = _
    rw [dG _ (by omega) (by omega)]
   rw [a1, a2]
   refine Ev.op (a3 _) ?_
   refine Ev.iadd ?_
   rw [dG _ (by omega) (by omega)]
   refine Ev.igt (fun e2 => ?_) (fun e2 => ?_)
   ·refine yt ?_
    rw [if_pos (show (1152921504606846976 : Int) < x * 10 + ((c : Int) - 48) from e2)]
    exact Ev.ret ⟨rfl, S2.dropL⟩
   ·refine yj ?_
    rw [if_neg (show ¬ (1152921504606846976 : Int) < x * 10 + ((c : Int) - 48) from e2)]
    have e2' : ¬ (1152921504606846976 : Int) < x * 10 + ((c : Int) - 48) := e2
    exact ih (j + 1) (pos + 1) h2 _ S2 hw' (by omega) (by omega)
section
variable {I : Im} {A L : Ls} {h : Hp} {r : Pos} {s : List Nat} {i : Nat}
theorem cWn (S : Sy I A [RS r s i] L h) (hs : s.length ≤ bL) (hb : ∀ c ∈ s, c < 256) (hi : i ≤ s.length) :
 Ev (fun n => aJ n 111 [.p r 0] h) (fun v h' => v = .t [.i .i64 (oM (s.drop i)).1, .i .i64 (oM (s.drop i)).2.1] ∧ Sy I A [RS r s (i + (oM (s.drop i)).2.2)] L h') := by
 refine Ev.enter (fun n => bVa n _ h) ?_
 unfold s111 aHd aDx aJe aSs
 refine wn ?_; refine wf ?_; refine wq ?_
 refine Ev.lenS ?_
 refine Ev.call (pP (cKp I) S hs hb hi s.length hs) ?_
 rintro _ h1 ⟨rfl, S1⟩
 have e0 : dC bI s.length (s.drop i) = ((s.drop i).takeWhile bI).length := rY _ _ _ (by simp)
 rw [e0] at S1 ⊢
 rw [sE]
 refine Ev.op (v := .p h1.next 0) (h := nw (.it ((s.drop i).takeWhile bI) 0) h1) rfl ?_
 have S2 := S1.new (.it ((s.drop i).takeWhile bI) 0)
 exact bQv (fun c hc => bWh bI _ c hc) _ 0 0 _ 0 S2 rfl (by omega) (by omega)
theorem bEq (hs : s.length ≤ bL) (hb : ∀ c ∈ s, c < 256) : ∀ (f j i : Nat) (h : Hp) (out : List Nat) (res : List Nat × Int × Nat), Sy I A [RS r s i] L h → i ≤ s.length → out.length ≤ 3 * i → pH f out (s.drop i) = some res →
 Ev (fun n => mN (aJ n) n (n - j) (.p r 0) (.s out) h) (fun v h' => v = .t [.s res.1, .i .i64 res.2.1] ∧ Sy I A [RS r s (i + res.2.2)] L h') := by
 intro f
 induction f with
 | zero => intro j i h out res S hi ho hm; cases hm
 | succ f ih =>
  intro j i h out res S hi ho hm
  unfold pH at hm
  have hlen := nL cY (s.drop i)
  have hd : (s.drop i).length = s.length - i := by simp
  refine Ev.loop j (ll := fun n m => mN (aJ n) n m (.p r 0) (.s out) h) (bb := fun n m => vX (aJ n) n (mN (aJ n) n m) (.p r 0) (.s out) h) (fun _ _ => rfl) ?_
  unfold vX
  refine wn ?_; refine wf ?_; refine wq ?_
  refine Ev.lenS ?_
  refine Ev.call (pP (cZp I) S hs hb hi s.length hs) ?_
  rintro _ h1 ⟨rfl, S1⟩
  have e0 : dC cY s.length (s.drop i) = ((s.drop i).takeWhile cY).length := rY _ _ _ (by simp)
  rw [e0] at S1 ⊢
  rw [sE]
  generalize hw : (s.drop i).takeWhile cY = w at hm S1 hlen ⊢
  simp only [bL] at hs
  refine Ev.sadd (by omega) ?_
  refine wn ?_; refine wf ?_; refine wq ?_; refine wn ?_; refine wf ?_; refine wq ?_
  refine Ev.lenS ?_
  refine Ev.ige (fun e1 => ?_) (fun e1 => ?_)
  ·refine yt ?_
   have e2 : w.length = (s.drop i).length := by omega
   rw [if_pos e2] at hm
   cases hm
   exact Ev.ret ⟨rfl, by rw [← e2]; exact S1⟩
  ·have e2 : ¬ w.length = (s.drop i).length := by omega
   rw [if_neg e2] at hm
   refine yj ?_; refine wn ?_; refine wf ?_; refine wq ?_
   refine Ev.iadd ?_
   rw [dO 1 (by omega)]
   refine wn ?_; refine wf ?_; refine wv fun _ _ => ?_
   rename_i h2 S2
   refine Ev.call (jN S2 hs (by omega) 0 (by omega)) ?_
   rintro _ _ ⟨rfl, rfl⟩
   have e3 : aCb s (i + w.length + 1 + 0) = nx (s.drop i) (w.length + 1) := by rw [show i + w.length + 1 + 0 = i + (w.length + 1) by omega, jT]
   rw [e3]
   refine Ev.ine (fun e4 => ?_) (fun e4 => ?_)
   ·refine yt ?_
    rw [if_neg (show ¬ nx (s.drop i) (w.length + 1) = 39 by simp at e4; omega)] at hm
    cases hm
    exact Ev.ret ⟨rfl, S2⟩
   ·have e5 : nx (s.drop i) (w.length + 1) = 39 := by simp at e4; omega
    rw [if_pos e5] at hm
    obtain ⟨res', hr, hm⟩ := aT hm
    simp only [Option.some.injEq] at hm
    subst hm
    have e6 : i + w.length + 2 ≤ s.length := by
     have : w.length + 1 < (s.drop i).length := by
      apply Decidable.byContradiction
      intro hn
      rw [nx, List.getD, List.getElem?_eq_none (by omega)] at e5
      cases e5
     omega
    refine yj ?_
    refine Ev.sadd (by simp; omega) ?_
    refine wn ?_; refine wf ?_; refine wq ?_
    refine Ev.iadd ?_
    rw [dO 1 (by omega)]
    refine wn ?_; refine wf ?_; refine wv fun _ _ => ?_
    refine (ih (j + 1) (i + w.length + 1 + 1) _ (out ++ w ++ [39]) res' (by assumption) (by omega) (by simp; omega) ?_).mono ?_
    ·rw [← hr, List.drop_drop]
     congr 2
    ·rintro v h' ⟨rfl, S'⟩
     refine ⟨rfl, ?_⟩
     have e7 : i + w.length + 1 + 1 + res'.2.2 = i + (res'.2.2 + (w.length + 2)) := by omega
     rw [← e7]; exact S'
theorem cCp (S : Sy I A [RS r s i] L h) (hs : s.length ≤ bL) (hb : ∀ c ∈ s, c < 256) (hi : i ≤ s.length) (f : Nat) (res : List Nat × Int × Nat) (hm : pH f [] (s.drop i) = some res) :
 Ev (fun n => aJ n 112 [.p r 0] h) (fun v h' => v = .t [.s res.1, .i .i64 res.2.1] ∧ Sy I A [RS r s (i + res.2.2)] L h') := by
 refine Ev.enter (fun n => bHf n _ h) ?_
 unfold s112 aIp aEl aRk
 exact bEq hs hb f 0 i h [] res S hi (by simp) hm
end
end Go.Dd

namespace Go.Dd
open Go.Proofs
def kK (f : Nat) (u : List Nat) : Option (Int × List Nat × Int × Int × Nat) :=
 if aY (nx u 0) then
  if (bE u).2.1 = 0 then
   if dD (u.drop (bE u).2.2) then some (2, (bE u).1 ++ [58], 0, 0, (bE u).2.2 + 1) else some (1, (bE u).1, 0, 0, (bE u).2.2)
  else some (1, (bE u).1, 0, (bE u).2.1, (bE u).2.2)
 else if bI (nx u 0) then some (4, [], (oM u).1, (oM u).2.1, (oM u).2.2)
 else if nx u 0 = 39 then (pH f [] (u.drop 1)).bind fun r => some (5, r.1, 0, r.2.1, r.2.2 + 1)
 else if nx u 0 = 35 then
  if nx u 1 = 40 then some (7, [], 0, 0, 2) else (jL f (u.drop 1)).bind fun r => some (6, r.1, 0, r.2.1, r.2.2 + 1)
 else if nx u 0 = 58 ∧ nx u 1 = 61 then some (9, [], 0, 0, 2)
 else if nx u 0 = 58 ∧ aY (nx u 1) then some (8, (bE (u.drop 1)).1, 0, (bE (u.drop 1)).2.1, (bE (u.drop 1)).2.2 + 1)
 else if cW signs (nx u 0) then some (3, u.take (dC (cW signs) 2 u), 0, 0, dC (cW signs) 2 u)
 else if cW marks (nx u 0) then some (10, u.take (dC (cW marks) 1 u), 0, 0, dC (cW marks) 1 u)
 else some (0, [], 0, 10, 0)
def lU (g : Nat) (s : List Nat) : Nat → Nat → List Tok → Option (List Tok × Int × Int)
 | 0, _, _ => none
 | f + 1, i, out =>
  if s.length ≤ i + ((s.drop i).takeWhile (cW bK)).length then some (out ++ [⟨0, [], 0, (s.length : Int)⟩], 0, 0)
  else if nx s (i + ((s.drop i).takeWhile (cW bK)).length) = 34 then
   if dI 34 (s.drop (i + ((s.drop i).takeWhile (cW bK)).length + 1)) 0 < 0 then some ([], ((i + ((s.drop i).takeWhile (cW bK)).length : Nat) : Int), 11)
   else lU g s f (i + ((s.drop i).takeWhile (cW bK)).length + (dI 34 (s.drop (i + ((s.drop i).takeWhile (cW bK)).length + 1)) 0).toNat + 2) out
  else (kK g (s.drop (i + ((s.drop i).takeWhile (cW bK)).length))).bind fun r =>
   if r.2.2.2.1 = 0 then if (s.drop (i + ((s.drop i).takeWhile (cW bK)).length)).length < r.2.2.2.2 then none else lU g s f (i + ((s.drop i).takeWhile (cW bK)).length + r.2.2.2.2) (out ++ [⟨r.1, r.2.1, r.2.2.1, ((i + ((s.drop i).takeWhile (cW bK)).length : Nat) : Int)⟩])
   else some ([], ((i + ((s.drop i).takeWhile (cW bK)).length : Nat) : Int), r.2.2.2.1)
def pD (g f : Nat) (s : List Nat) : Option (List Tok × Int × Int) := if 2000 < s.length then some ([], 0, 12) else lU g s f 0 []
theorem lJ (u : List Nat) : (bE u).1.length ≤ (bE u).2.2 := by
 unfold bE
 split <;> simp
section
variable {I : Im} {A L : Ls} {h : Hp} {r : Pos} {s : List Nat} {i : Nat}
theorem bTa (hs : s.length ≤ bL) (hb : ∀ c ∈ s, c < 256) : ∀ (f j i : Nat) (h : Hp) (out : List Nat) (res : List Nat × Int × Nat), Sy I A [RS r s i] L h → i ≤ s.length → out.length ≤ 3 * i → aBk f out (s.drop i) = some res →
 Ev (fun n => mG (aJ n) n (n - j) (.p r 0) (.s out) h) (fun v h' => v = .t [.s res.1, .i .i64 res.2.1] ∧ Sy I A [RS r s (i + res.2.2)] L h') := by
 intro f
 induction f with
 | zero => intro j i h out res S hi ho hm; cases hm
 | succ f ih =>
  intro j i h out res S hi ho hm
  unfold aBk at hm
  refine Ev.loop j (ll := fun n m => mG (aJ n) n m (.p r 0) (.s out) h) (bb := fun n m => vP (aJ n) n (mG (aJ n) n m) (.p r 0) (.s out) h) (fun _ _ => rfl) ?_
  unfold vP eS
  refine Ev.call (jN S hs hi 0 (by omega)) ?_
  rintro _ _ ⟨rfl, rfl⟩
  rw [jT]
  refine Ev.call (lI _ _) ?_
  rintro _ _ ⟨rfl, rfl⟩
  cases e1 : aY (nx (s.drop i) 0) with
  | false =>
   refine yj ?_
   rw [if_neg (by simp [e1])] at hm
   cases hm
   exact Ev.ret ⟨rfl, S⟩
  | true =>
   rw [if_pos e1] at hm
   refine yt ?_; refine wn ?_; refine wf ?_; refine wq ?_
   refine Ev.call (aXk S hs hb hi) ?_
   rintro _ _ ⟨rfl, S1⟩
   have hn := fG (s.drop i)
   have hn1 := lJ (s.drop i)
   have hd : (s.drop i).length = s.length - i := by simp
   have hdd : s.drop (i + (bE (s.drop i)).2.2) = (s.drop i).drop (bE (s.drop i)).2.2 := by rw [List.drop_drop]
   generalize hN : bE (s.drop i) = N at hm S1 hn hn1 hdd ⊢
   refine wx ?_; refine wx ?_
   refine Ev.call (aRo S1 hs (by omega)) ?_
   rintro _ _ ⟨rfl, S2⟩
   rw [hdd] at S2 ⊢
   cases e2 : dD ((s.drop i).drop N.2.2) with
   | false =>
    rw [e2] at hm S2
    simp only [Bool.false_eq_true, if_false, Option.some.injEq] at hm
    subst hm
    refine ao ?_; refine yt ?_; refine wn ?_; refine wf ?_; refine wv fun _ _ => ?_
    exact Ev.ret ⟨rfl, by assumption⟩
   | true =>
    rw [if_pos e2] at hm
    rw [e2, if_pos rfl] at S2
    have hc := iV e2
    have hc2 : i + N.2.2 + 1 ≤ s.length := by simp at hc; omega
    refine an ?_; refine yj ?_
    refine Ev.ine (fun e3 => ?_) (fun e3 => ?_)
    ·rw [if_neg (show ¬ N.2.1 = 0 from e3)] at hm
     cases hm
     refine yt ?_
     exact Ev.ret ⟨rfl, S2⟩
    ·rw [if_pos (show N.2.1 = 0 from e3)] at hm
     obtain ⟨res', hr, hm⟩ := aT hm
     simp only [Option.some.injEq] at hm
     subst hm
     simp only [bL] at hs
     refine yj ?_
     refine Ev.sadd (by simp; omega) ?_
     refine Ev.sadd (by simp; omega) ?_
     refine (ih (j + 1) (i + N.2.2 + 1) _ (out ++ (N.1 ++ [58])) res' S2 hc2 (by simp; omega) ?_).mono ?_
     ·rw [← hr, List.drop_drop, Nat.add_assoc]
     ·rintro v h' ⟨rfl, S'⟩
      refine ⟨rfl, ?_⟩
      have e7 : i + N.2.2 + 1 + res'.2.2 = i + (res'.2.2 + (N.2.2 + 1)) := by omega
      rw [← e7]; exact S'
theorem bFm (S : Sy I A [RS r s i] L h) (hs : s.length ≤ bL) (hb : ∀ c ∈ s, c < 256) (hi : i ≤ s.length) (f : Nat) (res : List Nat × Int × Nat) (hm : jL f (s.drop i) = some res) :
 Ev (fun n => aJ n 113 [.p r 0] h) (fun v h' => v = .t [.s res.1, .i .i64 res.2.1] ∧ ∃ J, ILe I J ∧ Sy J A [RS r s (i + res.2.2)] L h') := by
 refine Ev.enter (fun n => bQw n _ h) ?_
 unfold jL at hm
 unfold s113 aFt
 refine Ev.call (aCi S signs) ?_
 rintro cl h1 ⟨J, gJ, S1, C1⟩
 refine Ev.call (pP C1 S1 hs hb hi 2 (by simp [bL])) ?_
 rintro _ h2 ⟨rfl, S2⟩
 have hd : (s.drop i).length = s.length - i := by simp
 have hr := nE (cW signs) 2 (s.drop i)
 refine Ev.sne (fun e1 => ?_) (fun e1 => ?_)
 ·refine yt ?_
  have e2 : ¬ dC (cW signs) 2 (s.drop i) = 0 := fun e => e1 (by rw [e]; rfl)
  rw [if_neg e2] at hm
  cases hm
  exact Ev.ret ⟨rfl, J, gJ, S2⟩
 ·have e2 : dC (cW signs) 2 (s.drop i) = 0 := by
   have := congrArg List.length e1
   rw [List.length_take] at this
   simp only [List.length_nil] at this
   omega
  rw [if_pos e2] at hm
  rw [e2, Nat.add_zero] at S2
  refine yj ?_
  unfold aJt
  refine Ev.call (jN S2 hs hi 0 (by omega)) ?_
  rintro _ _ ⟨rfl, rfl⟩
  rw [jT]
  refine Ev.call (lI _ _) ?_
  rintro _ _ ⟨rfl, rfl⟩
  cases e3 : aY (nx (s.drop i) 0) with
  | false =>
   refine ao ?_; refine yt ?_
   rw [if_neg (by simp [e3])] at hm
   cases hm
   exact Ev.ret ⟨rfl, J, gJ, S2⟩
  | true =>
   rw [if_pos e3] at hm
   refine an ?_; refine yj ?_
   unfold aHe
   refine Ev.call (aXk S2 hs hb hi) ?_
   rintro _ _ ⟨rfl, S3⟩
   have hn := fG (s.drop i)
   have hn1 := lJ (s.drop i)
   have hdd : s.drop (i + (bE (s.drop i)).2.2) = (s.drop i).drop (bE (s.drop i)).2.2 := by rw [List.drop_drop]
   generalize hN : bE (s.drop i) = N at hm S3 hn hn1 hdd ⊢
   refine wx ?_; refine wx ?_
   unfold aEq
   refine Ev.ine (fun e4 => ?_) (fun e4 => ?_)
   ·rw [if_neg (show ¬ N.2.1 = 0 from e4)] at hm
    cases hm
    refine yg ?_; refine yg ?_; refine yg ?_; refine ap ?_; refine yt ?_
    exact Ev.ret ⟨rfl, J, gJ, S3⟩
   ·rw [if_pos (show N.2.1 = 0 from e4)] at hm
    refine zf ?_; refine wm ?_; refine zf ?_
    refine Ev.call (aRo S3 hs (by omega)) ?_
    rintro _ _ ⟨rfl, S4⟩
    rw [hdd] at S4 ⊢
    cases e5 : dD ((s.drop i).drop N.2.2) with
    | false =>
     rw [e5] at hm S4
     simp only [Bool.false_eq_true, if_false, Option.some.injEq] at hm
     subst hm
     refine zf ?_; refine ao ?_; refine aq ?_; refine yt ?_
     refine Ev.ret ⟨?_, J, gJ, S4⟩
     rw [show N.2.1 = 0 from e4]
    | true =>
     rw [e5] at hm S4
     simp only [if_true] at hm
     rw [if_pos rfl] at S4
     obtain ⟨res', hr', hm⟩ := aT hm
     simp only [Option.some.injEq] at hm
     subst hm
     have hc := iV e5
     have hc2 : i + N.2.2 + 1 ≤ s.length := by simp at hc; omega
     have hs' := hs
     simp only [bL] at hs
     refine zf ?_; refine an ?_; refine aq ?_; refine yj ?_
     unfold aFf aHw aPu
     refine Ev.sadd (by simp; omega) ?_
     refine (bTa hs' hb f 0 (i + N.2.2 + 1) _ (N.1 ++ [58]) res' S4 hc2 (by simp; omega) ?_).mono ?_
     ·rw [← hr', List.drop_drop, Nat.add_assoc]
     ·rintro v h' ⟨rfl, S'⟩
      refine ⟨rfl, J, gJ, ?_⟩
      have e7 : i + N.2.2 + 1 + res'.2.2 = i + (res'.2.2 + (N.2.2 + 1)) := by omega
      rw [← e7]; exact S'
end
end Go.Dd

namespace Go.Dd
open Go.Proofs
section
variable {I : Im} {A L : Ls} {h : Hp} {r : Pos} {s : List Nat} {i : Nat}
theorem cUh (S : Sy I A [RS r s i] L h) (hs : s.length ≤ bL) (hb : ∀ c ∈ s, c < 256) (hi : i < s.length) (f : Nat) (res : Int × List Nat × Int × Int × Nat) (hm : kK f (s.drop i) = some res) :
 Ev (fun n => aJ n 76 [.p r 0] h) (fun v h' => v = .t [.a (tc ⟨res.1, res.2.1, res.2.2.1, (i : Int)⟩), .i .i64 res.2.2.2.1] ∧ ∃ J, ILe I J ∧ Sy J A [RS r s (i + res.2.2.2.2)] L h') := by
 refine Ev.enter (fun n => cLb n _ h) ?_
 unfold kK at hm
 unfold s76 cQq
 refine wa fun _ _ _ => ?_; refine wn ?_; refine wf ?_; refine wq ?_; refine wd ?_; refine wa fun _ _ _ => ?_; refine wt fun _ _ => ?_
 unfold cOp cQs
 rename_i h0 S0
 have hd : (s.drop i).length = s.length - i := by simp
 have hs' := hs
 simp only [bL] at hs'
 have hcd : s.drop i = s[i] :: s.drop (i + 1) := List.drop_eq_getElem_cons hi
 have hn0 : nx (s.drop i) 0 < 256 := by rw [hcd]; exact hb _ (List.getElem_mem hi)
 refine Ev.call (jN S0 hs (by omega) 0 (by omega)) ?_
 rintro _ _ ⟨rfl, rfl⟩
 rw [jT]
 unfold cPh
 refine Ev.call (lI _ _) ?_
 rintro _ _ ⟨rfl, rfl⟩
 cases e1 : aY (nx (s.drop i) 0) with
 | true =>
  rw [if_pos e1] at hm
  refine yt ?_; refine wf ?_; refine wu fun _ _ => ?_
  refine Ev.call (aXk (by assumption) hs hb (by omega)) ?_
  rintro _ _ ⟨rfl, S1⟩
  have hn := fG (s.drop i)
  have hn1 := lJ (s.drop i)
  have hdd : s.drop (i + (bE (s.drop i)).2.2) = (s.drop i).drop (bE (s.drop i)).2.2 := by rw [List.drop_drop]
  generalize hN : bE (s.drop i) = N at hm S1 hn hn1 hdd ⊢
  refine wx ?_; refine wx ?_; refine wf ?_; refine wu fun _ _ => ?_
  unfold eY
  refine Ev.ieq (fun e2 => ?_) (fun e2 => ?_)
  ·rw [if_pos (show N.2.1 = 0 from e2)] at hm
   refine zt ?_; refine wm ?_; refine zt ?_
   refine Ev.call (aRo (by assumption) hs (by omega)) ?_
   rintro _ _ ⟨rfl, S2⟩
   rw [hdd] at S2 ⊢
   cases e3 : dD ((s.drop i).drop N.2.2) with
   | true =>
    rw [e3] at hm S2
    simp only [if_true, Option.some.injEq] at hm
    subst hm
    rw [if_pos rfl] at S2
    refine ap ?_; refine yt ?_; refine wf ?_; refine wl ?_
    refine Ev.sadd (by simp; omega) ?_
    refine wf ?_; refine wu fun _ _ => ?_; refine wf ?_; refine wu fun _ _ => ?_; refine ws ?_; refine wt fun _ _ => ?_; refine ws ?_
    refine Ev.ret ⟨?_, I, ILe.refl _, dp⟩
    rw [show N.2.1 = 0 from e2]; rfl
   | false =>
    rw [e3] at hm S2
    simp only [Bool.false_eq_true, if_false, Option.some.injEq] at hm
    subst hm
    refine ap ?_; refine yj ?_; refine ws ?_; refine wt fun _ _ => ?_; refine ws ?_
    refine Ev.ret ⟨?_, I, ILe.refl _, dp⟩
    rw [show N.2.1 = 0 from e2]; rfl
  ·rw [if_neg (show ¬ N.2.1 = 0 from e2)] at hm
   cases hm
   refine yf ?_; refine yf ?_; refine aq ?_; refine yj ?_; refine ws ?_; refine wt fun _ _ => ?_; refine ws ?_
   exact Ev.ret ⟨rfl, I, ILe.refl _, dp⟩
 | false =>
 rw [if_neg (by simp [e1])] at hm
 refine yj ?_
 refine Ev.call (xO _ _) ?_
 rintro _ _ ⟨rfl, rfl⟩
 cases e2 : bI (nx (s.drop i) 0) with
 | true =>
  rw [if_pos e2] at hm
  cases hm
  refine yt ?_; refine wf ?_; refine wu fun _ _ => ?_
  refine Ev.call (cWn (by assumption) hs hb (by omega)) ?_
  rintro _ _ ⟨rfl, S1⟩
  refine wx ?_; refine wx ?_; refine wf ?_; refine wu fun _ _ => ?_
  unfold eY
  refine ws ?_; refine wt fun _ _ => ?_; refine ws ?_
  exact Ev.ret ⟨rfl, I, ILe.refl _, dp⟩
 | false =>
 rw [if_neg (by simp [e2])] at hm
 refine yj ?_
 refine Ev.ieq (fun e3 => ?_) (fun e3 => ?_)
 ·rw [if_pos (show nx (s.drop i) 0 = 39 by simp at e3; omega)] at hm
  obtain ⟨res', hr, hm⟩ := aT hm
  simp only [Option.some.injEq] at hm
  subst hm
  refine yt ?_; refine wn ?_; refine wf ?_; refine wq ?_
  refine Ev.iadd ?_
  rw [dO 1 (by omega)]
  refine wn ?_; refine wf ?_; refine wv fun _ _ => ?_; refine wf ?_; refine wu fun _ _ => ?_
  refine Ev.call (cCp (by assumption) hs hb (by omega) f res' (by rw [← hr, List.drop_drop])) ?_
  rintro _ _ ⟨rfl, S1⟩
  refine wx ?_; refine wx ?_; refine wf ?_; refine wu fun _ _ => ?_
  unfold eY
  refine ws ?_; refine wt fun _ _ => ?_; refine ws ?_
  refine Ev.ret ⟨rfl, I, ILe.refl _, ?_⟩
  rw [show i + (res'.2.2 + 1) = i + 1 + res'.2.2 by omega]
  exact dp
 rw [if_neg (show ¬ nx (s.drop i) 0 = 39 by simp at e3; omega)] at hm
 refine yj ?_
 refine Ev.ieq (fun e4 => ?_) (fun e4 => ?_)
 ·rw [if_pos (show nx (s.drop i) 0 = 35 by simp at e4; omega)] at hm
  refine zt ?_; refine wm ?_; refine zt ?_
  refine Ev.call (jN (by assumption) hs (by omega) 1 (by omega)) ?_
  rintro _ _ ⟨rfl, rfl⟩
  rw [jT]
  refine zt ?_
  refine Ev.ieq (fun e5 => ?_) (fun e5 => ?_)
  ·have e5' : nx (s.drop i) 1 = 40 := by simp at e5; omega
   rw [if_pos e5'] at hm
   cases hm
   refine ap ?_; refine yt ?_; refine wn ?_; refine wf ?_; refine wq ?_
   refine Ev.iadd ?_
   rw [dO 2 (by omega)]
   refine wn ?_; refine wf ?_; refine wv fun _ _ => ?_; refine wf ?_; refine wu fun _ _ => ?_
   unfold eY
   refine ws ?_; refine wt fun _ _ => ?_; refine ws ?_
   exact Ev.ret ⟨rfl, I, ILe.refl _, dp⟩
  ·rw [if_neg (show ¬ nx (s.drop i) 1 = 40 by simp at e5; omega)] at hm
   obtain ⟨res', hr, hm⟩ := aT hm
   simp only [Option.some.injEq] at hm
   subst hm
   refine ap ?_; refine yj ?_
   refine Ev.ieq (fun e6 => ?_) (fun e6 => absurd e4 e6)
   refine yt ?_; refine wn ?_; refine wf ?_; refine wq ?_
   refine Ev.iadd ?_
   rw [dO 1 (by omega)]
   refine wn ?_; refine wf ?_; refine wv fun _ _ => ?_; refine wf ?_; refine wu fun _ _ => ?_
   refine Ev.call (bFm (by assumption) hs hb (by omega) f res' (by rw [← hr, List.drop_drop])) ?_
   rintro _ _ ⟨rfl, J, gJ, S1⟩
   refine wx ?_; refine wx ?_; refine wf ?_; refine wu fun _ _ => ?_
   unfold eY
   refine ws ?_; refine wt fun _ _ => ?_; refine ws ?_
   refine Ev.ret ⟨rfl, J, gJ, ?_⟩
   rw [show i + (res'.2.2 + 1) = i + 1 + res'.2.2 by omega]
   exact dp
 rw [if_neg (show ¬ nx (s.drop i) 0 = 35 by simp at e4; omega)] at hm
 refine yf ?_; refine yf ?_; refine yf ?_; refine aq ?_; refine yj ?_
 refine Ev.ieq (fun e6 => absurd e6 e4) (fun e6 => ?_)
 refine yj ?_
 have fin : ¬ (nx (s.drop i) 0 = 58 ∧ nx (s.drop i) 1 = 61) → ¬ (nx (s.drop i) 0 = 58 ∧ aY (nx (s.drop i) 1) = true) → ∀ (h' : Hp) (b2 b4 : Pos),
  Sy I A [RS r s i] ((b4, some (.row .ex [.i .i64 (Int.ofNat 0), .s [], .i .i64 (Int.ofNat 0), .i .i64 (i : Int)])) :: (b2, some (.row .ex [.i .i64 (Int.ofNat 0), .s [], .i .i64 (Int.ofNat 0), .i .i64 (Int.ofNat 0)])) :: L) h' →
  Ev (fun n => bnd (aJ n 75 [.s [43, 45, 42, 47, 60, 62, 61, 126, 44, 64, 38, 37]] h') fun v111 h111 =>
   bnd (dS CF (aJ n) v111 [.i .u8 (Int.ofNat (nx (s.drop i) 0))] h111) fun v112 h112 =>
   aU v112 (
    bnd (aJ n 75 [.s [43, 45, 42, 47, 60, 62, 61, 126, 44, 64, 38, 37]] h112) fun v113 h113 =>
    bnd (aJ n 74 [.p r 0, v113, .i .i64 (Int.ofNat 2)] h113) fun v114 h114 =>
    bnd (aB 0 (.p b4 0) h114) fun v115 h115 =>
    bnd (aC 1 v115 (.i .i64 (Int.ofNat 3)) h115) fun _ h116 =>
    bnd (aB 1 (.p b4 0) h116) fun v117 h117 =>
    bnd (aC 1 v117 v114 h117) fun _ h118 =>
    eY (aJ n) n (.p b2 0) (.p b4 0) (.i .i64 (Int.ofNat 0)) h118) (
    bnd (aJ n 75 [.s [94, 46, 59, 40, 41, 91, 93, 124]] h112) fun v119 h119 =>
    bnd (dS CF (aJ n) v119 [.i .u8 (Int.ofNat (nx (s.drop i) 0))] h119) fun v120 h120 =>
    aU v120 (
     bnd (aJ n 75 [.s [94, 46, 59, 40, 41, 91, 93, 124]] h120) fun v121 h121 =>
     bnd (aJ n 74 [.p r 0, v121, .i .i64 (Int.ofNat 1)] h121) fun v122 h122 =>
     bnd (aB 0 (.p b4 0) h122) fun v123 h123 =>
     bnd (aC 1 v123 (.i .i64 (Int.ofNat 10)) h123) fun _ h124 =>
     bnd (aB 1 (.p b4 0) h124) fun v125 h125 =>
     bnd (aC 1 v125 v122 h125) fun _ h126 =>
     eY (aJ n) n (.p b2 0) (.p b4 0) (.i .i64 (Int.ofNat 0)) h126) (
     eY (aJ n) n (.p b2 0) (.p b4 0) (.i .i64 (Int.ofNat 10)) h120)))
   (fun v h' => v = .t [.a (tc ⟨res.1, res.2.1, res.2.2.1, (i : Int)⟩), .i .i64 res.2.2.2.1] ∧ ∃ J, ILe I J ∧ Sy J A [RS r s (i + res.2.2.2.2)] L h') := by
  intro n1 n2 h' b2 b4 S'
  rw [if_neg n1, if_neg n2] at hm
  refine Ev.call (aCi S' signs) ?_
  rintro cl h1 ⟨J, gJ, S1, C1⟩
  refine Ev.call (C1 J _ _ _ _ _ (ILe.refl _) S1 hn0) ?_
  rintro _ _ ⟨rfl, rfl⟩
  cases e7 : cW signs (nx (s.drop i) 0) with
  | true =>
   rw [if_pos e7] at hm
   cases hm
   refine yt ?_
   refine Ev.call (aCi S1 signs) ?_
   rintro cl2 h2 ⟨K, gK, S2, C2⟩
   refine Ev.call (pP C2 S2 hs hb (by omega) 2 (by simp [bL])) ?_
   rintro _ h3 ⟨rfl, S3⟩
   refine wf ?_; refine wu fun _ _ => ?_; refine wf ?_; refine wu fun _ _ => ?_
   unfold eY
   refine ws ?_; refine wt fun _ _ => ?_; refine ws ?_
   exact Ev.ret ⟨rfl, K, gJ.trans gK, dp⟩
  | false =>
   rw [if_neg (by simp [e7])] at hm
   refine yj ?_
   refine Ev.call (aCi S1 marks) ?_
   rintro cl2 h2 ⟨K, gK, S2, C2⟩
   refine Ev.call (C2 K _ _ _ _ _ (ILe.refl _) S2 hn0) ?_
   rintro _ _ ⟨rfl, rfl⟩
   cases e8 : cW marks (nx (s.drop i) 0) with
   | true =>
    rw [if_pos e8] at hm
    cases hm
    refine yt ?_
    refine Ev.call (aCi S2 marks) ?_
    rintro cl3 h3 ⟨M, gM, S3, C3⟩
    refine Ev.call (pP C3 S3 hs hb (by omega) 1 (by simp [bL])) ?_
    rintro _ h4 ⟨rfl, S4⟩
    refine wf ?_; refine wu fun _ _ => ?_; refine wf ?_; refine wu fun _ _ => ?_
    unfold eY
    refine ws ?_; refine wt fun _ _ => ?_; refine ws ?_
    exact Ev.ret ⟨rfl, M, (gJ.trans gK).trans gM, dp⟩
   | false =>
    rw [if_neg (by simp [e8])] at hm
    cases hm
    refine yj ?_
    unfold eY
    refine ws ?_; refine wt fun _ _ => ?_; refine ws ?_
    exact Ev.ret ⟨rfl, K, gJ.trans gK, dp⟩
 refine Ev.ieq (fun e7 => ?_) (fun e7 => ?_)
 ·have e7' : nx (s.drop i) 0 = 58 := by simp at e7; omega
  refine zt ?_; refine wm ?_; refine zt ?_
  refine Ev.call (jN (by assumption) hs (by omega) 1 (by omega)) ?_
  rintro _ _ ⟨rfl, rfl⟩
  rw [jT]
  refine zt ?_
  refine Ev.ieq (fun e8 => ?_) (fun e8 => ?_)
  ·have e8' : nx (s.drop i) 1 = 61 := by simp at e8; omega
   rw [if_pos ⟨e7', e8'⟩] at hm
   cases hm
   refine ap ?_; refine yt ?_; refine wn ?_; refine wf ?_; refine wq ?_
   refine Ev.iadd ?_
   rw [dO 2 (by omega)]
   refine wn ?_; refine wf ?_; refine wv fun _ _ => ?_; refine wf ?_; refine wu fun _ _ => ?_
   unfold eY
   refine ws ?_; refine wt fun _ _ => ?_; refine ws ?_
   exact Ev.ret ⟨rfl, I, ILe.refl _, dp⟩
  ·have e8' : ¬ nx (s.drop i) 1 = 61 := by simp at e8; omega
   refine ap ?_; refine yj ?_
   refine Ev.ieq (fun e9 => ?_) (fun e9 => absurd e7 e9)
   refine zt ?_; refine wm ?_; refine zt ?_
   refine Ev.call (jN (by assumption) hs (by omega) 1 (by omega)) ?_
   rintro _ _ ⟨rfl, rfl⟩
   rw [jT]
   refine zt ?_
   refine Ev.call (lI _ _) ?_
   rintro _ _ ⟨rfl, rfl⟩
   cases e10 : aY (nx (s.drop i) 1) with
   | true =>
    rw [if_neg (fun q => e8' q.2), if_pos ⟨e7', e10⟩] at hm
    cases hm
    refine ap ?_; refine yt ?_; refine wn ?_; refine wf ?_; refine wq ?_
    refine Ev.iadd ?_
    rw [dO 1 (by omega)]
    refine wn ?_; refine wf ?_; refine wv fun _ _ => ?_; refine wf ?_; refine wu fun _ _ => ?_
    refine Ev.call (aXk (by assumption) hs hb (by omega)) ?_
    rintro _ _ ⟨rfl, S1⟩
    have hdd : s.drop (i + 1) = (s.drop i).drop 1 := by rw [List.drop_drop]
    rw [hdd] at S1 ⊢
    refine wx ?_; refine wx ?_; refine wf ?_; refine wu fun _ _ => ?_
    unfold eY
    refine ws ?_; refine wt fun _ _ => ?_; refine ws ?_
    refine Ev.ret ⟨rfl, I, ILe.refl _, ?_⟩
    rw [show i + ((bE ((s.drop i).drop 1)).2.2 + 1) = i + 1 + (bE ((s.drop i).drop 1)).2.2 by omega]
    exact dp
   | false =>
    have F := fin (fun q => e8' q.2) (fun q => by rw [e10] at q; exact absurd q.2 (by simp)) _ _ _ S0
    refine ap ?_; refine yj ?_
    exact F
 ·have e7' : ¬ nx (s.drop i) 0 = 58 := by simp at e7; omega
  refine yf ?_; refine yf ?_; refine yf ?_; refine aq ?_; refine yj ?_
  refine Ev.ieq (fun e9 => absurd e9 e7) (fun e9 => ?_)
  have F := fin (fun q => e7' q.1) (fun q => e7' q.1) _ _ _ S0
  refine yf ?_; refine yf ?_; refine yf ?_; refine aq ?_; refine yj ?_
  exact F
end
theorem oE (c : Nat) : ∀ (l : List Nat) (i : Nat), ¬ dI c l i < 0 → ∃ k : Nat, k < l.length ∧ dI c l i = ((i + k : Nat) : Int)
 | [], i, h => absurd (by show Int.negSucc 0 < 0; decide) h
 | x :: l, i, h => by
  unfold dI at h ⊢
  cases e : Nat.beq x c with
  | true => exact ⟨0, by simp, by simp⟩
  | false =>
   rw [e] at h
   obtain ⟨k, h1, h2⟩ := oE c l (i + 1) h
   refine ⟨k + 1, by simpa using h1, ?_⟩
   simp only [cond_false, h2]
   omega
theorem vV {I : Im} {B A Q L : Ls} {h : Hp} {x : DV} {l : List Tok} (G : Gr I 4 B x l.length (l.map tc).flatten) {t : Tok} {b : Pos} (S : Sy I (B ++ A) Q L h) (m : (b, some (.row .ex (tc t))) ∈ L) (hl : l.length + 1 ≤ bL) :
 ∃ x' h' B', aX 4 40 x (.l b 0 1 1) h = some (x', h') ∧ Sy I (B' ++ A) Q L h' ∧ Gr I 4 B' x' (l ++ [t]).length ((l ++ [t]).map tc).flatten := by
 have hr : (l.length + 1) * 40 ≤ eM := by simp [eM, bL] at hl ⊢; omega
 obtain ⟨x4, h4, B4, e4, S4, G4⟩ := G.app S (nB S (n := 1) m rfl (bS t)) rfl (bS t) (by omega) hr
 exact ⟨x4, h4, B4, e4, S4, by simpa using G4⟩
theorem aYi (t : Tok) : cO [(.i .i64 (Int.ofNat 0)), (.s []), (.i .i64 (Int.ofNat 0)), (.i .i64 (Int.ofNat 0))] [(0, 4, .a (tc t))] = some (tc t) := by
 simp [cO, cJ, tc]
def aUu (I : Im) (A Q L : Ls) (res : List Tok × Int × Int) (v : DV) (h : Hp) : Prop :=
 ∃ J x, v = .t [x, .i .i64 res.2.1, .i .i64 res.2.2] ∧ ILe I J ∧ Sy J A Q L h ∧ TS' J x res.1
theorem TS'.nil (I : Im) : TS' I .l0 [] := ⟨by simp, .inl ⟨.inl rfl, rfl, rfl⟩⟩
theorem bFs {A L : Ls} {s : List Nat} (hs : s.length ≤ bL) (hb : ∀ c ∈ s, c < 256) (g : Nat) {r : Pos} : ∀ (f j i : Nat) (I : Im) (B : Ls) (h : Hp) (x : DV) (out : List Tok) (res : List Tok × Int × Int), Sy I (B ++ A) [RS r s i] L h → Gr I 4 B x out.length (out.map tc).flatten →
 i ≤ s.length → out.length + f ≤ bL → lU g s f i out = some res →
 Ev (fun n => qJ (aJ n) n (n - j) (.s s) (.p r 0) x h) (aUu I A [] L res) := by
 intro f
 induction f with
 | zero => intro j i I B h x out res S G hi hl hm; cases hm
 | succ f ih =>
  intro j i I B h x out res S G hi hl hm
  unfold lU at hm
  refine Ev.loop j (ll := fun n m => qJ (aJ n) n m (.s s) (.p r 0) x h) (bb := fun n m => aKh (aJ n) n (qJ (aJ n) n m) (.s s) (.p r 0) x h) (fun _ _ => rfl) ?_
  unfold aKh
  refine Ev.call (aCi S bK) ?_
  rintro cl h1 ⟨J, gJ, S1, C1⟩
  refine Ev.lenS ?_
  refine Ev.call (pP C1 S1 hs hb hi s.length hs) ?_
  rintro _ h2 ⟨rfl, S2⟩
  have e0 : dC (cW bK) s.length (s.drop i) = ((s.drop i).takeWhile (cW bK)).length := rY _ _ _ (by simp)
  rw [e0] at S2
  have hle := nL (cW bK) (s.drop i)
  have hdl : (s.drop i).length = s.length - i := by simp
  generalize hw : ((s.drop i).takeWhile (cW bK)).length = w at hm S2 hle
  have hi2 : i + w ≤ s.length := by omega
  generalize hi3 : i + w = i' at hm S2 hi2
  have hdrop : ∀ {K : Im} {e : Pos × Option Ob} {M : Ls} {h'' : Hp}, Sy K A [e] M h'' → Sy K A [] M h'' := fun S => Sy.dropL (Sy.lQ (Q := []) S)
  have hs' := hs
  simp only [bL] at hs'
  refine wn ?_; refine wf ?_; refine wq ?_
  refine Ev.lenS ?_
  refine Ev.ige (fun e1 => ?_) (fun e1 => ?_)
  ·have e1' : s.length ≤ i' := by omega
   rw [if_pos e1'] at hm
   cases hm
   refine yt ?_
   unfold iM
   refine Ev.lenS ?_
   refine wd ?_
   refine Ev.bs S2 (aYi ⟨0, [], 0, (s.length : Int)⟩) ?_
   intro b3 h3 S3
   obtain ⟨x4, h4, B4, e4, S4, G4⟩ := vV (G.mono gJ) S3 (List.Mem.head _) (by omega)
   refine Ev.op e4 ?_
   obtain ⟨K, gK, S5, F5⟩ := G4.freeze S4
   exact Ev.ret ⟨K, x4, rfl, gJ.trans gK, hdrop S5.dropL, by simp; omega, F5⟩
  ·have e1' : i' < s.length := by omega
   rw [if_neg (by omega)] at hm
   refine yj ?_; refine wn ?_; refine wf ?_; refine wq ?_
   refine Ev.op (gZ (c := s[i']) (by simp [e1']) _) ?_
   have hnx : nx s i' = s[i'] := by simp [nx, List.getD, e1']
   refine Ev.ieq (fun e2 => ?_) (fun e2 => ?_)
   ·have e2' : nx s i' = 34 := by rw [hnx]; simp at e2; omega
    rw [if_pos e2'] at hm
    refine yt ?_; refine wn ?_; refine wf ?_; refine wq ?_
    refine Ev.iadd ?_
    rw [dO 1 (by omega)]
    refine Ev.op (dPh (by omega) _) ?_
    refine Ev.call (aBi _ 34 (by omega) _) ?_
    rintro _ _ ⟨rfl, rfl⟩
    refine Ev.ilt (fun e3 => ?_) (fun e3 => ?_)
    ·rw [if_pos (show dI 34 (s.drop (i' + 1)) 0 < 0 from e3)] at hm
     cases hm
     refine yt ?_; refine wn ?_; refine wf ?_; refine wq ?_
     obtain ⟨K, gK, S5, F5⟩ := (G.mono gJ).freeze S2
     exact Ev.ret ⟨K, .l0, rfl, gJ.trans gK, hdrop S5, TS'.nil K⟩
    ·have e3' : ¬ dI 34 (s.drop (i' + 1)) 0 < 0 := e3
     rw [if_neg e3'] at hm
     obtain ⟨k, hk1, hk2⟩ := oE 34 _ _ e3'
     rw [hk2] at hm ⊢
     have hk3 : k < s.length - (i' + 1) := by simpa using hk1
     simp only [Nat.zero_add, Int.toNat_natCast] at hm
     refine yj ?_; refine wn ?_; refine wf ?_; refine wq ?_
     refine Ev.iadd ?_
     rw [Nat.zero_add, dO 2 (by omega)]
     refine Ev.iadd ?_
     rw [show (i' : Int) + ((k + 2 : Nat) : Int) = ((i' + k + 2 : Nat) : Int) by omega, nU _ (by omega)]
     refine wn ?_; refine wf ?_; refine wv fun _ _ => ?_
     refine (ih (j + 1) (i' + k + 2) J B _ x out res (by assumption) (G.mono gJ) (by omega) (by omega) hm).mono ?_
     rintro v h' ⟨K, y, a1, a2, a3⟩
     exact ⟨K, y, a1, gJ.trans a2, a3⟩
   ·have e2' : ¬ nx s i' = 34 := by rw [hnx]; simp at e2; omega
    rw [if_neg e2'] at hm
    obtain ⟨rs, hr, hm⟩ := aT hm
    refine yj ?_
    refine Ev.call (cUh S2 hs hb e1' g rs hr) ?_
    rintro _ h3 ⟨rfl, K, gK, S3⟩
    refine wx ?_; refine wx ?_; refine wa fun _ _ _ => ?_; refine wt fun _ _ => ?_
    refine Ev.ine (fun e3 => ?_) (fun e3 => ?_)
    ·rw [if_neg (show ¬ rs.2.2.2.1 = 0 from e3)] at hm
     cases hm
     refine yt ?_; refine wf ?_; refine wl ?_
     obtain ⟨M, gM, S5, F5⟩ := ((G.mono gJ).mono gK).freeze (by assumption)
     exact Ev.ret ⟨M, .l0, rfl, (gJ.trans gK).trans gM, hdrop S5.dropL, TS'.nil M⟩
    ·rw [if_pos (show rs.2.2.2.1 = 0 from e3)] at hm
     split at hm
     ·cases hm
     ·rename_i hfit
      refine yj ?_; refine ws ?_
      refine Ev.bs (by assumption) (aYi ⟨rs.1, rs.2.1, rs.2.2.1, (i' : Int)⟩) ?_
      intro b4 h4 S4
      obtain ⟨x5, h5, B5, e5, S5, G5⟩ := vV ((G.mono gJ).mono gK) S4 (List.Mem.head _) (by omega)
      refine Ev.op e5 ?_
      refine (ih (j + 1) (i' + rs.2.2.2.2) K B5 h5 x5 _ res S5.dropL.dropL G5 (by simp at hfit; omega) (by simp; omega) hm).mono ?_
      rintro v h' ⟨M, y, a1, a2, a3⟩
      exact ⟨M, y, a1, (gJ.trans gK).trans a2, a3⟩
theorem cXh {I : Im} {A L : Ls} {h : Hp} (S : Sy I A [] L h) {s : List Nat} (hs : s.length ≤ bL) (hb : ∀ c ∈ s, c < 256) (g f : Nat) (hf : f ≤ bL) (res : List Tok × Int × Int) (hm : pD g f s = some res) :
 Ev (fun n => aJ n 48 [.s s] h) (aUu I A [] L res) := by
 unfold pD at hm
 refine Ev.enter (fun n => cNg n _ h) ?_
 unfold s48 aWs
 refine Ev.lenS ?_
 refine Ev.igt (fun e1 => ?_) (fun e1 => ?_)
 ·rw [if_pos (show 2000 < s.length by simp at e1; omega)] at hm
  cases hm
  refine yt ?_
  exact Ev.ret ⟨I, .l0, rfl, ILe.refl _, S, TS'.nil I⟩
 ·rw [if_neg (show ¬ 2000 < s.length by simp at e1; omega)] at hm
  refine yj ?_
  unfold bCs bBr aYe aXg bMd
  refine wd ?_; refine wb fun _ _ _ => ?_
  rename_i r h1 S1
  exact bFs hs hb g f 0 0 I [] _ .l0 [] res (Sy.qL S1) (Gr.nil I 4) (by omega) (by simpa using hf) hm
end Go.Dd

namespace Go.Dd
open Go.Proofs
def sC : PF := fun st => some (.mk 11 [100, 111, 73, 116] 0 [] [] [], st)
def Node.with (x : Node) (ts : List (List Nat)) (ks : List Node) : Node := match x with
 | .mk k t m ns _ _ => .mk k t m ns ts ks
def jG (H : PF) (f : Nat) (lx : List Tok × Int × Int) : Option (Node × Int × Int) :=
 if lx.2.2 = 0 then (H ⟨lx.1, 0, 0, 0⟩).bind fun a => (kI f a.2).bind fun b => (iO (lR f) f [] b.2).bind fun c => (gF c.2 0 []).bind fun d =>
  if d.2.err = 0 then some (a.1.with b.1 c.1, 0, 0) else some (zN, d.2.pos, d.2.err)
 else some (zN, lx.2.1, lx.2.2)
theorem cAw (n : Nat) (x : DV) (h : Hp) : aJ (n + 1) 27 [x] h = s27 (aJ n) n x h := by kernel_rfl
theorem cIm (n : Nat) (x y : DV) (h : Hp) : aJ (n + 1) 26 [x, y] h = s26 (aJ n) n x y h := by kernel_rfl
theorem cAu (n : Nat) (x : DV) (h : Hp) : aJ (n + 1) 14 [x] h = s14 (aJ n) n x h := by kernel_rfl
theorem cTd (rec : FuncId → List DV → Hp → aH) (x : DV) (h : Hp) : dS CF rec (.f 27 [] []) [x] h = rec 27 [x] h := by kernel_rfl
theorem cIb : sA 27 sC := by
 intro I A L h p s st x st' S T hm
 cases hm
 refine Ev.enter (fun n => cAw n _ h) ?_
 unfold s27
 refine wa fun _ _ _ => ?_; refine wd ?_; refine wt fun _ _ => ?_; refine ws ?_
 exact Ev.ret ⟨I, s, _, rfl, ILe.refl _, dp, T, NV.flat _ _ _⟩
def aLv (I : Im) (A L : Ls) (res : Node × Int × Int) (v : DV) (h : Hp) : Prop :=
 ∃ J cs, v = .t [.a cs, .i .i64 res.2.1, .i .i64 res.2.2] ∧ ILe I J ∧ Sy J A [] L h ∧ NV J res.1 cs
theorem cHa {I : Im} {A L : Ls} {h : Hp} {gh : FuncId} {H : PF} (hg : ∀ (rec : FuncId → List DV → Hp → aH) (x : DV) (h : Hp), dS CF rec (.f gh [] []) [x] h = rec gh [x] h) (HH : sA gh H) (S : Sy I A [] L h) {s : List Nat} (hs : s.length ≤ bL) (hb : ∀ c ∈ s, c < 256) (g fl f : Nat) (hfl : fl ≤ bL) (hf : f + 2 ≤ bL)
 (lx : List Tok × Int × Int) (hl : pD g fl s = some lx) (res : Node × Int × Int) (hm : jG H f lx = some res) :
 Ev (fun n => aJ n 26 [.s s, .f gh [] []] h) (aLv I A L res) := by
 refine Ev.enter (fun n => cIm n _ _ h) ?_
 unfold s26
 simp only [hg]
 unfold jG at hm
 refine wa fun _ _ _ => ?_
 refine Ev.call (cXh (by assumption) hs hb g fl hfl lx hl) ?_
 rintro _ h1 ⟨J, x1, rfl, g1, S1, T1⟩
 have o1 := T1.2.one
 refine wx ?_; refine wx ?_; refine wx ?_
 refine Ev.ine (fun e1 => ?_) (fun e1 => ?_)
 ·rw [if_neg (show ¬ lx.2.2 = 0 from e1)] at hm
  cases hm
  refine yt ?_; refine wd ?_; refine wt fun _ _ => ?_; refine ws ?_
  exact Ev.ret ⟨J, _, rfl, g1, dp, NV.flat _ _ _⟩
 ·rw [if_pos (show lx.2.2 = 0 from e1)] at hm
  obtain ⟨⟨y, st1⟩, hy, hm⟩ := aT hm
  obtain ⟨⟨ts, st2⟩, h2, hm⟩ := aT hm
  obtain ⟨⟨ks, st3⟩, h3, hm⟩ := aT hm
  obtain ⟨⟨t, st4⟩, h4, hm⟩ := aT hm
  refine yj ?_; refine wd ?_; refine wb fun _ _ _ => ?_
  rename_i p hp Sp
  refine Ev.call (HH _ _ _ _ p x1 ⟨lx.1, 0, 0, 0⟩ _ _ (Sy.qL Sp) T1 hy) ?_
  rintro _ _ ⟨K, s2, cs, rfl, g2, S2, T2, N2⟩
  obtain ⟨k, tt, mm, ns, ts0, ks0⟩ := y
  obtain ⟨d1, d2, d3, rfl, a1, a2, a3, cells, F, NL⟩ := N2
  have q1 := a1.2.one
  have q2 := a2.2.one
  have q3 := F.one
  refine wa fun _ _ _ => ?_; refine wt fun _ _ => ?_
  refine Ev.call (aLq f (by omega) (by assumption) T2 h2) ?_
  rintro v3 _ ⟨M, s3, g3, S3, T3, N3⟩
  have q4 := N3.2.one
  refine wf ?_; refine wu fun _ _ => ?_
  refine Ev.call (aLf (zF f hf) f (by omega) (by assumption) T3 h3) ?_
  rintro v4 _ ⟨O, s4, g4, S4, T4, N4⟩
  have q5 := N4.one
  refine wf ?_; refine wu fun _ _ => ?_
  refine Ev.call (oY (by assumption) T4 h4) ?_
  rintro _ _ ⟨rfl, s5, S5, T5⟩
  have q6 := T5.2.one
  have hdrop : ∀ {K : Im} {e : Pos × Option Ob} {M : Ls} {h'' : Hp}, Sy K A [e] M h'' → Sy K A [] M h'' := fun S => Sy.dropL (Sy.lQ (Q := []) S)
  refine wn ?_; refine wf ?_; refine wq ?_
  refine Ev.ine (fun e2 => ?_) (fun e2 => ?_)
  ·rw [if_neg (show ¬ st4.err = 0 from e2)] at hm
   cases hm
   refine yt ?_; refine wd ?_; refine wn ?_; refine wf ?_; refine wq ?_; refine wn ?_; refine wf ?_; refine wq ?_; refine wt fun _ _ => ?_
   refine Ev.cnd ?_ ?_
   ·rename_i hq Sq
    rw [ld1 (Sq.memQ (List.Mem.head _)) rfl rfl, ld1 (Sq.memQ (List.Mem.head _)) rfl rfl]
    simp [bP, DV.beq]
   refine ws ?_
   exact Ev.ret ⟨O, _, rfl, ((g1.trans g2).trans g3).trans g4, hdrop (dp), NV.flat _ _ _⟩
  ·rw [if_pos (show st4.err = 0 from e2)] at hm
   cases hm
   refine yj ?_; refine ws ?_; refine wt fun _ _ => ?_; refine ws ?_
   refine Ev.ret ⟨O, _, rfl, ((g1.trans g2).trans g3).trans g4, hdrop (dp), ?_⟩
   exact NV.of ((a1.mono g3).mono g4) (N3.mono g4) N4
theorem cBp {I : Im} {A L : Ls} {h : Hp} (S : Sy I A [] L h) {s : List Nat} (hs : s.length ≤ bL) (hb : ∀ c ∈ s, c < 256) (g fl f : Nat) (hfl : fl ≤ bL) (hf : f + 2 ≤ bL)
 (lx : List Tok × Int × Int) (hl : pD g fl s = some lx) (res : Node × Int × Int) (hm : jG sC f lx = some res) :
 Ev (fun n => aJ n 14 [.s s] h) (aLv I A L res) := by
 refine Ev.enter (fun n => cAu n _ h) ?_
 unfold s14
 refine wa fun _ _ _ => ?_
 refine Ev.call (cHa cTd cIb (by assumption) hs hb g fl f hfl hf lx hl res hm) ?_
 rintro _ h1 ⟨J, cs, rfl, g1, S1, N1⟩
 obtain ⟨l1, o1, b1⟩ := N1.shape
 refine wx ?_; refine wx ?_; refine wx ?_; refine wt fun _ _ => ?_; refine ws ?_
 exact Ev.ret ⟨J, cs, rfl, g1, dp, N1⟩
end Go.Dd

namespace Go.Dd
def Good (l : List Tok) : Prop := ∃ a e, l = a ++ [e] ∧ e.kind = 0 ∧ (∀ t ∈ a, t.kind ≠ 0) ∧ ∀ t ∈ a ++ [e], t.text.length ≤ 10000
def T1 (t : Tok) : Nat := if t.kind = 1 ∨ t.kind = 4 ∨ t.kind = 5 ∨ t.kind = 6 ∨ t.kind = 8 then 1 else 0
def T2 (t : Tok) : Nat := if t.kind = 1 ∨ t.kind = 4 ∨ t.kind = 5 ∨ t.kind = 6 ∨ t.kind = 8 ∨ t.kind = 2 ∨ t.kind = 3 then 1 else 0
def uP (l : List Tok) : Nat := (l.map T1).sum
def iU (l : List Tok) : Nat := (l.map T2).sum
mutual
def fV : Node → Nat
 | .mk k _ _ ns ts ks => (if k ≠ 9 ∧ k ≠ 8 ∧ k ≠ 10 ∧ k ≠ 11 ∧ k ≠ 4 then 1 else 0) + ns.length + ts.length + fC ks
def fC : List Node → Nat
 | [] => 0
 | x :: l => fV x + fC l
end
theorem fU : ∀ (a b : List Node), fC (a ++ b) = fC a + fC b
 | [], b => by simp [fC]
 | x :: a, b => by simp [fC, fU a b]; omega
theorem Good.head {l : List Tok} (h : Good l) : ∃ t r, l = t :: r ∧ (t.kind = 0 → r = []) ∧ (t.kind ≠ 0 → Good r ∧ 1 ≤ r.length) := by
 obtain ⟨a, e, rfl, he, ha, hb⟩ := h
 cases a with
 | nil => exact ⟨e, [], rfl, fun _ => rfl, fun h => absurd he h⟩
 | cons t a =>
  refine ⟨t, a ++ [e], rfl, fun h => absurd h (ha t (by simp)), fun _ => ⟨⟨a, e, rfl, he, fun u hu => ha u (by simp [hu]), fun u hu => hb u (by simp at hu ⊢; exact .inr hu)⟩, by simp⟩⟩
theorem Good.text {l : List Tok} (h : Good l) {t : Tok} {r : List Tok} (e : l = t :: r) : t.text.length ≤ 10000 := by
 obtain ⟨a, e', rfl, he, ha, hb⟩ := h
 exact hb t (by rw [e]; simp)
structure Stp (a b : PSt) (k : Nat) : Prop where
 good : Good b.toks
 err : a.err ≠ 0 → b.err ≠ 0
 run : ∃ c, a.toks = c ++ b.toks ∧ (b.err = 0 → uP c ≤ k ∧ k ≤ iU c)
theorem Stp.ok {a b : PSt} {k : Nat} (h : Stp a b k) (e : b.err = 0) : a.err = 0 := Decidable.byContradiction fun n => h.err n e
theorem Stp.refl {a : PSt} (h : Good a.toks) : Stp a a 0 := ⟨h, id, [], rfl, fun _ => by simp [uP, iU]⟩
theorem Stp.trans {a b c : PSt} {j k : Nat} (h : Stp a b j) (g : Stp b c k) : Stp a c (j + k) := by
 obtain ⟨x, hx, h1⟩ := h.run
 obtain ⟨y, hy, h2⟩ := g.run
 refine ⟨g.good, fun e => g.err (h.err e), x ++ y, by rw [hx, hy, List.append_assoc], fun e => ?_⟩
 have e' := g.ok e
 obtain ⟨a1, a2⟩ := h1 e'
 obtain ⟨b1, b2⟩ := h2 e
 simp only [uP, iU, List.map_append, List.sum_append] at *
 omega
theorem Stp.any {a b : PSt} {j : Nat} (h : Stp a b j) (e : b.err ≠ 0) (k : Nat) : Stp a b k := ⟨h.good, h.err, by
 obtain ⟨x, hx, h1⟩ := h.run
 exact ⟨x, hx, fun e' => absurd e' e⟩⟩
theorem Stp.cast {a b : PSt} {j k : Nat} (h : Stp a b j) (e : b.err = 0 → j = k) : Stp a b k := by
 by_cases hb : b.err = 0
 ·rw [← e hb]; exact h
 ·exact h.any hb k
theorem Stp.len {a b : PSt} {k : Nat} (h : Stp a b k) : b.toks.length ≤ a.toks.length := by
 obtain ⟨x, hx, _⟩ := h.run
 rw [hx]; simp
theorem Stp.same {a b : PSt} (h : Good b.toks) (e1 : b.toks = a.toks) (e2 : b.err = a.err) : Stp a b 0 := ⟨h, fun e => by rw [e2]; exact e, [], by simp [e1], fun _ => by simp [uP, iU]⟩
theorem fA {st : PSt} (h : Good st.toks) : ∃ t r, st.toks = t :: r ∧ bH st 0 = some t ∧ (t.kind = 0 → r = []) ∧ (t.kind ≠ 0 → Good r ∧ 1 ≤ r.length) := by
 obtain ⟨t, r, e, h1, h2⟩ := h.head
 exact ⟨t, r, e, by simp [bH, e], h1, h2⟩
theorem cPb {st : PSt} (h : Good st.toks) : ∃ t, bH st 1 = some t := by
 obtain ⟨t, r, e, h1, h2⟩ := h.head
 unfold bH
 have : min 1 (st.toks.length - 1) < st.toks.length := by rw [e]; simp; omega
 exact ⟨st.toks[min 1 (st.toks.length - 1)], by simp [this]⟩
def sT (st : PSt) (t : Tok) (kind : Int) (text : List Nat) : Bool := decide (st.err = 0) && decide (t.kind = kind) && (decide (text = []) || decide (t.text = text))
theorem uU {st : PSt} {t : Tok} (h : bH st 0 = some t) (kind : Int) (text : List Nat) : dT st kind text = some (sT st t kind text) := by
 unfold dT; rw [h]; rfl
theorem dQ {st : PSt} {t : Tok} {kind : Int} {text : List Nat} (h : sT st t kind text = true) : st.err = 0 ∧ t.kind = kind := by
 simp [sT] at h
 exact h.1
theorem cPk {st : PSt} (h : Good st.toks) {t : Tok} {r : List Tok} (e : st.toks = t :: r) (hk : t.kind ≠ 0) : cI st = some (t, { st with toks := r }) ∧ Good r := by
 obtain ⟨t', r', e', h1, h2⟩ := h.head
 rw [e] at e'
 cases e'
 obtain ⟨g1, g2⟩ := h2 hk
 refine ⟨?_, g1⟩
 unfold cI
 have : bH st 0 = some t := by simp [bH, e]
 simp only [this, Option.bind_some, if_neg hk]
 rw [if_pos (by rw [e]; simp; omega), e]
 rfl
theorem bQl {st : PSt} (h : Good st.toks) {t : Tok} {r : List Tok} (e : st.toks = t :: r) (hk : t.kind = 0) : cI st = some (t, st) := by
 unfold cI
 have : bH st 0 = some t := by simp [bH, e]
 simp [this, hk]
theorem fM {st : PSt} (h : Good st.toks) {t : Tok} (ht : bH st 0 = some t) (hk : t.kind ≠ 0) : ∃ st', cI st = some (t, st') ∧ st'.err = st.err ∧ st'.deep = st.deep ∧ st'.pos = st.pos ∧ st'.toks.length + 1 = st.toks.length ∧ Good st'.toks ∧ st.toks = t :: st'.toks ∧ ∀ k, T1 t ≤ k → k ≤ T2 t → Stp st st' k := by
 obtain ⟨t', r, e, h1, _, _⟩ := fA h
 rw [h1] at ht
 cases ht
 obtain ⟨a1, a2⟩ := cPk h e hk
 refine ⟨_, a1, rfl, rfl, rfl, by rw [e]; simp, a2, e, fun k k1 k2 => ⟨a2, id, [t], by simp [e], fun _ => by simp [uP, iU]; omega⟩⟩
theorem cPx {st : PSt} (h : Good st.toks) : ∃ t st', cI st = some (t, st') ∧ st'.err = st.err ∧ Good st'.toks ∧ ∃ c, st.toks = c ++ st'.toks ∧ (c = [] ∨ c = [t]) := by
 obtain ⟨t, r, e, h1, h2, h3⟩ := fA h
 by_cases hk : t.kind = 0
 ·exact ⟨t, st, bQl h e hk, rfl, h, [], rfl, .inl rfl⟩
 ·obtain ⟨a1, a2⟩ := cPk h e hk
  exact ⟨t, _, a1, rfl, a2, [t], by simp [e], .inr rfl⟩
theorem vH {st : PSt} (h : Good st.toks) (t : Tok) (e : Int) (he : e ≠ 0) (k : Nat) : Stp st (bW st t e) k ∧ (bW st t e).err ≠ 0 := by
 have : (bW st t e).err ≠ 0 := by
  unfold bW
  split
  ·exact he
  ·rename_i h; exact h
 refine ⟨⟨by rw [bV]; exact h, fun _ => this, [], by rw [bV]; simp, fun e' => absurd e' this⟩, this⟩
theorem aCm {st : PSt} (h : Good st.toks) (kd : Int) (tx : List Nat) (k : Nat) (hk : kd ≠ 0 → ∀ t : Tok, t.kind = kd → T1 t ≤ k ∧ k ≤ T2 t) (h0 : kd = 0 → k = 0) :
 ∃ t st', gF st kd tx = some (t, st') ∧ Stp st st' k ∧ (st'.err = 0 → st.err = 0 ∧ t.kind = kd) := by
 obtain ⟨t, r, e, h1, h2, h3⟩ := fA h
 unfold gF
 rw [uU h1]
 simp only [Option.bind_some]
 cases hc : sT st t kd tx with
 | true =>
  obtain ⟨c1, c2⟩ := dQ hc
  by_cases hz : t.kind = 0
  ·refine ⟨t, st, by simp [bQl h e hz], ?_, fun _ => ⟨c1, c2⟩⟩
   rw [h0 (by rw [← c2]; exact hz)]
   exact Stp.refl h
  ·obtain ⟨st', a1, a2, a3, a4, a5, a6, a7, a8⟩ := fM h h1 hz
   obtain ⟨k1, k2⟩ := hk (by rw [← c2]; exact hz) t c2
   exact ⟨t, st', by simp [a1], a8 k k1 k2, fun _ => ⟨c1, c2⟩⟩
 | false =>
  obtain ⟨f1, f2⟩ := vH h t 13 (by decide) k
  exact ⟨z4, _, by simp [h1], f1, fun e => absurd e f2⟩
theorem tIn {j : Int} {k : Nat} (h : (j = 1 ∨ j = 4 ∨ j = 5 ∨ j = 6 ∨ j = 8) ∧ k = 1 ∨ (j = 2 ∨ j = 3) ∧ k ≤ 1 ∨ (j = 7 ∨ j = 9 ∨ j = 10) ∧ k = 0) : ∀ t : Tok, t.kind = j → T1 t ≤ k ∧ k ≤ T2 t := by
 intro t ht
 unfold T1 T2
 rw [ht]
 rcases h with ⟨rfl | rfl | rfl | rfl | rfl, rfl⟩ | ⟨rfl | rfl, hk⟩ | ⟨rfl | rfl | rfl, rfl⟩ <;> simp <;> omega
theorem dId {st : PSt} (h : Good st.toks) (kd : Int) (hk : kd = 1 ∨ kd = 8) (len : Nat) : ∃ t st', vC st kd len = some (t, st') ∧ Stp st st' 1 ∧ st'.toks.length ≤ st.toks.length := by
 obtain ⟨t, st1, h1, h2, h3⟩ := aCm h kd [] 1 (fun _ => tIn (by rcases hk with rfl | rfl <;> simp)) (by rcases hk with rfl | rfl <;> simp)
 unfold vC
 rw [h1]
 simp only [Option.bind_some]
 by_cases hl : len = 4
 ·obtain ⟨f1, f2⟩ := vH h2.good t 18 (by decide) 0
  refine ⟨_, _, rfl, ?_, ?_⟩
  ·simp only [hl, if_true]; exact h2.trans f1
  ·simp only [hl, if_true, bV]; exact h2.len
 ·refine ⟨_, _, rfl, ?_, ?_⟩
  ·simp only [hl, if_false]; exact h2
  ·simp only [hl, if_false]; exact h2.len
theorem dNj {st : PSt} (h : Good st.toks) : ∃ c, bFg st = some c ∧ (c = true → st.err = 0 ∧ ∃ t u r, st.toks = t :: u :: r ∧ t.kind = 3 ∧ u.kind = 4) := by
 obtain ⟨t, r, e, h1, h2, h3⟩ := fA h
 obtain ⟨u, hu⟩ := cPb h
 unfold bFg
 rw [hu, uU h1, h1]
 refine ⟨_, rfl, fun hc => ?_⟩
 simp at hc
 obtain ⟨⟨c1, c2⟩, _⟩ := hc
 obtain ⟨d1, d2⟩ := dQ c1
 refine ⟨d1, t, u, r.drop 1, ?_, d2, c2⟩
 obtain ⟨_, hl⟩ := h3 (by rw [d2]; decide)
 cases r with
 | nil => simp at hl
 | cons v r =>
  have : u = v := by
   unfold bH at hu
   rw [e] at hu
   simp at hu
   exact hu.symm
  rw [e, this]; rfl
theorem aSf {st : PSt} (h : Good st.toks) : ∃ x c st', lD st = some ((x, c), st') ∧ (c = true → Stp st st' (fV x) ∧ st'.toks.length < st.toks.length ∧ st.err = 0 ∧ st'.err = 0) ∧ (c = false → st' = st) ∧ x.kind ≠ 7 := by
 obtain ⟨t, r, e, h1, h2, h3⟩ := fA h
 unfold lD
 rw [h1]
 simp only [Option.bind_some]
 by_cases he : st.err = 0
 ·rw [if_pos he]
  obtain ⟨c, hc, hc2⟩ := dNj h
  rw [hc]
  simp only [Option.bind_some]
  cases c with
  | true =>
   obtain ⟨_, t', u, r', e', k1, k2⟩ := hc2 rfl
   have ht' : t = t' := by rw [e] at e'; exact (List.cons.inj e').1
   subst ht'
   obtain ⟨s1, a1, a2, a3, a4, a5, a6, a7, a8⟩ := fM h h1 (by rw [k1]; decide)
   have hr : s1.toks = u :: r' := by
    rw [a7] at e'; exact (List.cons.inj e').2
   have hl : bH s1 0 = some u := by simp [bH, hr]
   obtain ⟨s2, b1, b2, b3, b4, b5, b6, b7, b8⟩ := fM a6 hl (by rw [k2]; decide)
   simp only [if_true, a1, Option.bind_some, b1]
   refine ⟨_, _, _, rfl, fun _ => ⟨?_, by show s2.toks.length < _; omega, he, by show s2.err = 0; rw [b2, a2]; exact he⟩, (fun h => by cases h), ?_⟩
   rotate_left
   ·show (1 : Int) ≠ 7
    decide
   have S1 := a8 0 (by simp [T1, k1]) (by simp)
   have S2 := b8 1 (by simp [T1, k2]) (by simp [T2, k2])
   have : fV (.mk 1 [] (uR (0 - u.num)) [] [] []) = 0 + 1 := by simp [fV, fC]
   rw [this]
   exact S1.trans S2
  | false =>
   simp only [Bool.false_eq_true, if_false]
   have one : ∀ (j : Int) (kk : Int), (j = 4 ∨ j = 5 ∨ j = 6) → (kk ≠ 9 ∧ kk ≠ 8 ∧ kk ≠ 10 ∧ kk ≠ 11 ∧ kk ≠ 4) ∧ kk ≠ 7 → t.kind = j →
    ∃ x c st', ((cI st).bind fun r => some ((Node.mk kk t.text t.num [] [] [], true), r.2)) = some ((x, c), st') ∧ (c = true → Stp st st' (fV x) ∧ st'.toks.length < st.toks.length ∧ st.err = 0 ∧ st'.err = 0) ∧ (c = false → st' = st) ∧ x.kind ≠ 7 := by
    intro j kk hj hkk ht
    obtain ⟨s1, a1, a2, a3, a4, a5, a6, a7, a8⟩ := fM h h1 (by rw [ht]; omega)
    rw [a1]
    refine ⟨_, _, _, rfl, fun _ => ⟨?_, by show s1.toks.length < _; omega, he, by show s1.err = 0; rw [a2]; exact he⟩, (fun h => by cases h), ?_⟩
    rotate_left
    ·exact hkk.2
    have : fV (.mk kk t.text t.num [] [] []) = 1 := by simp [fV, fC]; omega
    rw [this]
    exact a8 1 (by simp [T1]; split <;> omega) (by simp [T2]; rcases hj with rfl | rfl | rfl <;> simp [ht])
   by_cases h4 : t.kind = 4
   ·rw [if_pos h4]; exact one 4 1 (by simp) (by decide) h4
   ·rw [if_neg h4]
    by_cases h5 : t.kind = 5
    ·rw [if_pos h5]; exact one 5 2 (by simp) (by decide) h5
    ·rw [if_neg h5]
     by_cases h6 : t.kind = 6
     ·rw [if_pos h6]; exact one 6 3 (by simp) (by decide) h6
     ·rw [if_neg h6]
      exact ⟨_, _, _, rfl, (fun h => by cases h), fun _ => rfl, by show (0 : Int) ≠ 7; decide⟩
 ·rw [if_neg he]
  exact ⟨_, _, _, rfl, (fun h => by cases h), fun _ => rfl, by show (0 : Int) ≠ 7; decide⟩
end Go.Dd

namespace Go.Dd
def Shp (x : Node) : Prop := x.kind = 7 → ∃ t ks, x = cE t ks ∧ ks ≠ []
def vF (f : PF) (b : Nat) : Prop := ∀ st, Good st.toks → (st.err = 0 → st.toks.length ≤ b) → ∃ x st', f st = some (x, st') ∧ Stp st st' (fV x) ∧ Shp x
def iD (f : PF) (b : Nat) : Prop := ∀ st, Good st.toks → (st.err = 0 → st.toks.length ≤ b) → ∃ x st', f st = some (x, st') ∧ Stp st st' (fV x) ∧ Shp x ∧ (st'.err = 0 → st'.toks.length < st.toks.length)
theorem Shp.flat (k : Int) (t : List Nat) (m : Int) (ns ts : List (List Nat)) (ks : List Node) (h : k ≠ 7) : Shp (.mk k t m ns ts ks) := fun e => absurd e h
theorem Shp.send (t : List Nat) (x : Node) (ks : List Node) : Shp (cE t (x :: ks)) := fun _ => ⟨t, _, rfl, by simp⟩
theorem iC (t : List Nat) (ks : List Node) : fV (cE t ks) = 1 + fC ks := by simp [cE, fV]
theorem cF (x : Node) (l : List Node) : fC (x :: l) = fV x + fC l := by simp [fC]
theorem dM : fC [] = 0 := by simp [fC]
theorem wA {f : PF} {b : Nat} (Hf : vF f b) {st : PSt} (h : Good st.toks) {t : Tok} (ht : bH st 0 = some t) (hk : t.kind = 7 ∨ t.kind = 10) (hb : st.err = 0 → st.toks.length ≤ b + 1) :
 ∃ x st', fH f st = some (x, st') ∧ Stp st st' (fV x) ∧ Shp x ∧ (st'.err = 0 → st'.toks.length < st.toks.length) := by
 obtain ⟨s1, a1, a2, a3, a4, a5, a6, a7, a8⟩ := fM h ht (by omega)
 have S1 := a8 0 (by unfold T1; split <;> omega) (by omega)
 unfold fH
 rw [a1]
 simp only [Option.bind_some]
 by_cases hd : s1.deep = 20
 ·rw [if_pos hd]
  obtain ⟨f1, f2⟩ := vH a6 t 14 (by decide) (fV zN)
  refine ⟨_, _, rfl, ?_, Shp.flat _ _ _ _ _ _ (by decide), fun e => absurd e f2⟩
  have := S1.trans f1
  rwa [Nat.zero_add] at this
 ·rw [if_neg hd]
  obtain ⟨x, s2, b1, b2, b3⟩ := Hf { s1 with deep := uR (s1.deep + 1) } a6 (fun e => by
   have : st.err = 0 := by rw [← a2]; exact e
   have := hb this
   show s1.toks.length ≤ b
   omega)
  rw [b1]
  refine ⟨_, _, rfl, ?_, b3, fun e => ?_⟩
  ·have S0 : Stp s1 { s1 with deep := uR (s1.deep + 1) } 0 := Stp.same a6 rfl rfl
   have S3 : Stp s2 { s2 with deep := uR (s2.deep - 1) } 0 := Stp.same b2.good rfl rfl
   have := ((S1.trans S0).trans b2).trans S3
   have e0 : 0 + 0 + fV x + 0 = fV x := by omega
   rwa [e0] at this
  ·have := b2.len
   have this : s2.toks.length ≤ s1.toks.length := this
   show s2.toks.length < _
   omega
theorem aJh : ∀ (f : Nat) (st : PSt) (x : Node), Good st.toks → (st.err = 0 → st.toks.length ≤ f) → 1 ≤ f → ∃ y st' k, iA f x st = some (y, st') ∧ Stp st st' k ∧ fV y = fV x + k ∧ (Shp x → Shp y)
 | 0, st, x, h, hf, h1 => by omega
 | f + 1, st, x, h, hf, h1 => by
  obtain ⟨t, r, e, ht, h2, h3⟩ := fA h
  unfold iA
  rw [uU ht]
  simp only [Option.bind_some]
  cases hc : sT st t 1 [] with
  | false => exact ⟨x, st, 0, by simp, Stp.refl h, by simp, id⟩
  | true =>
   obtain ⟨c1, c2⟩ := dQ hc
   obtain ⟨s1, a1, a2, a3, a4, a5, a6, a7, a8⟩ := fM h ht (by omega)
   have hl := hf c1
   have hr : 1 ≤ s1.toks.length := by
    obtain ⟨t', r', e', _⟩ := a6.head
    rw [e']; simp
   obtain ⟨y, st', k, b1, b2, b3, b4⟩ := aJh f s1 (cE t.text [x]) a6 (fun _ => by omega) (by omega)
   refine ⟨y, st', 1 + k, by simp [a1, b1], (a8 1 (by simp [T1, c2]) (by simp [T2, c2])).trans b2, ?_, fun _ => b4 (Shp.send _ _ _)⟩
   rw [b3, iC, cF, dM]
   omega
theorem bBx : ∀ (f : Nat) (st : PSt) (l : List (List Nat)), Good st.toks → (st.err = 0 → st.toks.length ≤ f) → 1 ≤ f → ∃ l' st' k, nT f l st = some (l', st') ∧ Stp st st' k ∧ l'.length = l.length + k
 | 0, st, l, h, hf, h1 => by omega
 | f + 1, st, l, h, hf, h1 => by
  obtain ⟨t, r, e, ht, h2, h3⟩ := fA h
  unfold nT
  rw [uU ht]
  simp only [Option.bind_some]
  cases hc : sT st t 1 [] with
  | false =>
   obtain ⟨u, s1, a1, a2, a3⟩ := aCm h 10 [124] 0 (fun _ => tIn (by simp)) (by simp)
   exact ⟨l, s1, 0, by simp [a1], a2, by simp⟩
  | true =>
   obtain ⟨c1, c2⟩ := dQ hc
   obtain ⟨s1, a1, a2, a3, a4, a5, a6, a7, a8⟩ := fM h ht (by omega)
   have hl := hf c1
   have hr : 1 ≤ s1.toks.length := by
    obtain ⟨t', r', e', _⟩ := a6.head
    rw [e']; simp
   obtain ⟨l', st', k, b1, b2, b3⟩ := bBx f s1 (l ++ [t.text]) a6 (fun _ => by omega) (by omega)
   refine ⟨l', st', 1 + k, by simp [a1, b1], (a8 1 (by simp [T1, c2]) (by simp [T2, c2])).trans b2, ?_⟩
   rw [b3]; simp; omega
theorem bMn {f : Nat} {st : PSt} (h : Good st.toks) (hf : st.err = 0 → st.toks.length ≤ f) (h1 : 1 ≤ f) : ∃ l st', kI f st = some (l, st') ∧ Stp st st' l.length := by
 obtain ⟨t, r, e, ht, h2, h3⟩ := fA h
 unfold kI
 rw [uU ht]
 simp only [Option.bind_some]
 cases hc : sT st t 10 [124] with
 | false => exact ⟨[], st, by simp, Stp.refl h⟩
 | true =>
  obtain ⟨c1, c2⟩ := dQ hc
  obtain ⟨s1, a1, a2, a3, a4, a5, a6, a7, a8⟩ := fM h ht (by omega)
  obtain ⟨l, st', k, b1, b2, b3⟩ := bBx f s1 [] a6 (fun e => by have := hf c1; omega) h1
  have S1 := (a8 0 (by simp [T1, c2]) (by omega)).trans b2
  refine ⟨l, st', by simp [a1, b1], ?_⟩
  rw [show l.length = 0 + k by rw [b3]; simp]
  exact S1
theorem bAt : ∀ (f : Nat) (st : PSt) (l : List (List Nat)), Good st.toks → (st.err = 0 → st.toks.length ≤ f) → 1 ≤ f → ∃ l' st' k, kR f l st = some (l', st') ∧ Stp st st' k ∧ l'.length = l.length + k
 | 0, st, l, h, hf, h1 => by omega
 | f + 1, st, l, h, hf, h1 => by
  obtain ⟨t, r, e, ht, h2, h3⟩ := fA h
  unfold kR
  rw [uU ht]
  simp only [Option.bind_some]
  cases hc : sT st t 8 [] with
  | false => exact ⟨l, st, 0, by simp, Stp.refl h, by simp⟩
  | true =>
   obtain ⟨c1, c2⟩ := dQ hc
   have hl := hf c1
   obtain ⟨s0, z1, z2, z3, z4, z5, z6, z7, z8⟩ := fM h ht (by omega)
   obtain ⟨tx, s1, a1, a2, a3⟩ := dId h 8 (.inr rfl) l.length
   have hlen : s1.toks.length + 1 ≤ st.toks.length := by
    unfold vC gF at a1
    rw [uU ht, hc] at a1
    simp only [Option.bind_some, if_true, z1, Option.some.injEq, Prod.mk.injEq] at a1
    obtain ⟨_, rfl⟩ := a1
    split
    ·rw [bV]; omega
    ·omega
   have hr : 1 ≤ s1.toks.length := by
    obtain ⟨t', r', e', _⟩ := a2.good.head
    rw [e']; simp
   obtain ⟨l', st', k, b1, b2, b3⟩ := bAt f s1 (l ++ [tx]) a2.good (fun _ => by omega) (by omega)
   refine ⟨l', st', 1 + k, by simp [a1, b1], a2.trans b2, ?_⟩
   rw [b3]; simp; omega
theorem cVe {E : PF} {b : Nat} (HE : iD E b) : vF (tB E) b := by
 intro st h hb
 obtain ⟨x, s1, a1, a2, a3, a4⟩ := HE st h hb
 obtain ⟨u, s2, c1, c2, c3⟩ := aCm a2.good 10 [41] 0 (fun _ => tIn (by simp)) (by simp)
 refine ⟨x, s2, by simp [tB, a1, c1], ?_, a3⟩
 exact a2.trans c2
theorem aLs {LI : PF} {b : Nat} (HL : vF LI b) : ∀ (f : Nat) (st : PSt) (xs : List Node), Good st.toks → (st.err = 0 → st.toks.length < f ∧ st.toks.length ≤ b + 1) → 1 ≤ f → ∃ ys st' k, iX LI f xs st = some (ys, st') ∧ Stp st st' k ∧ fC ys = fC xs + k ∧ (st'.err = 0 → ∃ t, bH st' 0 = some t ∧ t.kind = 10)
 | 0, st, xs, h, hf, h1 => by omega
 | f + 1, st, xs, h, hf, h1 => by
  obtain ⟨t, r, e, ht, h2, h3⟩ := fA h
  unfold iX
  by_cases he : st.err = 0
  ·rw [if_pos he, uU ht]
   simp only [Option.bind_some]
   obtain ⟨hl1, hl2⟩ := hf he
   cases hc : sT st t 10 [41] with
   | true => exact ⟨xs, st, 0, by simp, Stp.refl h, by simp, fun _ => ⟨t, ht, (dQ hc).2⟩⟩
   | false =>
    simp only [Bool.false_eq_true, if_false]
    obtain ⟨x, c, s1, a1, a2, a3, _⟩ := aSf h
    rw [a1]
    simp only [Option.bind_some]
    cases c with
    | true =>
     obtain ⟨b1, b2, b3, b4⟩ := a2 rfl
     have hr : 1 ≤ s1.toks.length := by
      obtain ⟨t', r', e', _⟩ := b1.good.head
      rw [e']; simp
     obtain ⟨ys, st', k, d1, d2, d3, d4⟩ := aLs HL f s1 (xs ++ [x]) b1.good (fun _ => by omega) (by omega)
     refine ⟨ys, st', fV x + k, by simp [d1], b1.trans d2, ?_, d4⟩
     rw [d3, fU, cF, dM]; omega
    | false =>
     have := a3 rfl
     subst this
     simp only [Bool.false_eq_true, if_false]
     rw [uU ht]
     simp only [Option.bind_some]
     have nest : (t.kind = 7 ∨ t.kind = 10) → ∃ ys st' k, ((fH LI s1).bind fun q => iX LI f (xs ++ [q.1]) q.2) = some (ys, st') ∧ Stp s1 st' k ∧ fC ys = fC xs + k ∧ (st'.err = 0 → ∃ t, bH st' 0 = some t ∧ t.kind = 10) := by
      intro hk
      obtain ⟨y, s2, b1, b2, b3, b4⟩ := wA HL h ht hk (fun _ => hl2)
      by_cases he2 : s2.err = 0
      ·have := b4 he2
       have hr : 1 ≤ s2.toks.length := by
        obtain ⟨t', r', e', _⟩ := b2.good.head
        rw [e']; simp
       obtain ⟨ys, st', k, d1, d2, d3, d4⟩ := aLs HL f s2 (xs ++ [y]) b2.good (fun _ => by omega) (by omega)
       refine ⟨ys, st', fV y + k, by simp [b1, d1], b2.trans d2, ?_, d4⟩
       rw [d3, fU, cF, dM]; omega
      ·have hr : 1 ≤ f := by
        rw [e] at hl1
        simp at hl1
        omega
       obtain ⟨ys, st', k, d1, d2, d3, d4⟩ := aLs HL f s2 (xs ++ [y]) b2.good (fun e => absurd e he2) hr
       refine ⟨ys, st', fV y + k, by simp [b1, d1], b2.trans d2, ?_, d4⟩
       rw [d3, fU, cF, dM]; omega
     cases hc1 : sT s1 t 7 [] with
     | true =>
      simp only [if_true, Option.bind_some]
      exact nest (.inl (dQ hc1).2)
     | false =>
      simp only [Bool.false_eq_true, if_false]
      rw [uU ht]
      simp only [Option.bind_some]
      cases hc2 : sT s1 t 10 [40] with
      | true =>
       simp only [if_true]
       exact nest (.inr (dQ hc2).2)
      | false =>
       simp only [Bool.false_eq_true, if_false, ht, Option.bind_some]
       obtain ⟨f1, f2⟩ := vH h t 13 (by decide) (fV x)
       have hr : 1 ≤ f := by rw [e] at hl1; simp at hl1; omega
       obtain ⟨ys, st', k, d1, d2, d3, d4⟩ := aLs HL f (bW s1 t 13) (xs ++ [x]) (by rw [bV]; exact h) (fun e => absurd e f2) hr
       refine ⟨ys, st', fV x + k, d1, f1.trans d2, ?_, d4⟩
       rw [d3, fU, cF, dM]; omega
  ·rw [if_neg he]
   exact ⟨xs, st, 0, rfl, Stp.refl h, by simp, fun e => absurd e he⟩
end Go.Dd

namespace Go.Dd
theorem Good.pos {l : List Tok} (h : Good l) : 1 ≤ l.length := by
 obtain ⟨t, r, e, _⟩ := h.head
 rw [e]; simp
theorem bFn {LI : PF} {b f : Nat} (HL : vF LI b) (hf : b + 1 < f) : vF (fL LI f) (b + 1) := by
 intro st h hb
 obtain ⟨ys, s1, k, a1, a2, a3, a4⟩ := aLs HL f st [] h (fun e => ⟨by have := hb e; omega, hb e⟩) (by omega)
 have hc : fV (.mk 4 [] 0 [] [] ys) = k := by simp [fV, a3, fC]
 by_cases he : s1.err = 0
 ·obtain ⟨t, ht, hk⟩ := a4 he
  obtain ⟨s2, b1, b2, b3, b4, b5, b6, b7, b8⟩ := fM a2.good ht (by omega)
  refine ⟨.mk 4 [] 0 [] [] ys, s2, by simp [fL, a1, b1], ?_, Shp.flat _ _ _ _ _ _ (by decide)⟩
  rw [hc]
  exact a2.trans (b8 0 (by simp [T1, hk]) (by omega))
 ·obtain ⟨t, s2, b1, b2, b3, c, b4, b5⟩ := cPx a2.good
  refine ⟨.mk 4 [] 0 [] [] ys, s2, by simp [fL, a1, b1], ?_, Shp.flat _ _ _ _ _ _ (by decide)⟩
  have he2 : s2.err ≠ 0 := by rw [b2]; exact he
  have : Stp s1 s2 0 := ⟨b3, fun _ => he2, c, b4, fun e => absurd e he2⟩
  exact (a2.trans this).any he2 _
theorem aRx {E : PF} {b : Nat} (HE : iD E b) : ∀ (f : Nat) (st : PSt) (xs : List Node), Good st.toks → (st.err = 0 → st.toks.length ≤ f ∧ st.toks.length ≤ b) → 1 ≤ f → ∃ ys st' k, iO E f xs st = some (ys, st') ∧ Stp st st' k ∧ fC ys = fC xs + k
 | 0, st, xs, h, hf, h1 => by omega
 | f + 1, st, xs, h, hf, h1 => by
  obtain ⟨t, r, e, ht, h2, h3⟩ := fA h
  unfold iO
  by_cases he : st.err = 0
  ·rw [if_pos he, uU ht]
   simp only [Option.bind_some]
   obtain ⟨hl1, hl2⟩ := hf he
   have fin : ∃ ys st' k, some (xs, st) = some (ys, st') ∧ Stp st st' k ∧ fC ys = fC xs + k := ⟨xs, st, 0, rfl, Stp.refl h, by simp⟩
   cases hc : sT st t 0 [] with
   | true => simpa using fin
   | false =>
    simp only [Bool.false_eq_true, if_false]
    rw [uU ht]
    simp only [Option.bind_some]
    cases hc2 : sT st t 10 [93] with
    | true => simpa using fin
    | false =>
     simp only [Bool.false_eq_true, if_false]
     rw [uU ht]
     simp only [Option.bind_some]
     cases hc3 : sT st t 10 [94] with
     | true =>
      simp only [if_true]
      obtain ⟨c1, c2⟩ := dQ hc3
      obtain ⟨s1, a1, a2, a3, a4, a5, a6, a7, a8⟩ := fM h ht (by omega)
      obtain ⟨x, s2, b1, b2, b3, b4⟩ := HE s1 a6 (fun _ => by omega)
      obtain ⟨u, r2, e2, hu, _, _⟩ := fA b2.good
      have S1 := (a8 0 (by simp [T1, c2]) (by omega)).trans b2
      have hcn : fC (xs ++ [Node.mk 10 [] 0 [] [] [x]]) = fC xs + (0 + fV x) := by rw [fU, cF, dM]; simp [fV, fC]
      rw [a1]
      simp only [Option.bind_some, b1]
      rw [uU hu]
      simp only [Option.bind_some]
      cases hc4 : sT s2 u 10 [46] with
      | false => exact ⟨xs ++ [Node.mk 10 [] 0 [] [] [x]], s2, _, by simp, S1, hcn⟩
      | true =>
       obtain ⟨d1, d2⟩ := dQ hc4
       obtain ⟨s3, g1, g2, g3, g4, g5, g6, g7, g8⟩ := fM b2.good hu (by omega)
       refine ⟨xs ++ [Node.mk 10 [] 0 [] [] [x]], s3, _, by simp [g1], S1.trans (g8 0 (by simp [T1, d2]) (by omega)), by rw [hcn]; omega⟩
     | false =>
      simp only [Bool.false_eq_true, if_false]
      obtain ⟨x, s2, b1, b2, b3, b4⟩ := HE st h (fun _ => hl2)
      obtain ⟨u, r2, e2, hu, _, _⟩ := fA b2.good
      have hcn : fC (xs ++ [x]) = fC xs + fV x := by rw [fU, cF, dM]; omega
      rw [b1]
      simp only [Option.bind_some]
      rw [uU hu]
      simp only [Option.bind_some]
      cases hc4 : sT s2 u 10 [46] with
      | false => exact ⟨xs ++ [x], s2, _, by simp, b2, hcn⟩
      | true =>
       obtain ⟨d1, d2⟩ := dQ hc4
       obtain ⟨s3, g1, g2, g3, g4, g5, g6, g7, g8⟩ := fM b2.good hu (by omega)
       have hlt := b4 d1
       have hp := g6.pos
       obtain ⟨ys, st', k, k1, k2, k3⟩ := aRx HE f s3 (xs ++ [x]) g6 (fun _ => by omega) (by omega)
       refine ⟨ys, st', _, by simp [g1, k1], (b2.trans (g8 0 (by simp [T1, d2]) (by omega))).trans k2, by rw [k3, hcn]; omega⟩
  ·rw [if_neg he]
   exact ⟨xs, st, 0, rfl, Stp.refl h, by simp⟩
theorem dOq {l : List (List Nat)} {st : PSt} (h : Good st.toks) : ∃ st', bar l st = some st' ∧ Stp st st' 0 := by
 obtain ⟨t, r, e, ht, h2, h3⟩ := fA h
 unfold bar
 by_cases hl : 0 < l.length
 ·rw [if_pos hl, uU ht]
  simp only [Option.bind_some]
  cases hc : sT st t 10 [93] with
  | true => exact ⟨st, by simp, Stp.refl h⟩
  | false =>
   obtain ⟨u, s1, a1, a2, a3⟩ := aCm h 10 [124] 0 (fun _ => tIn (by simp)) (by simp)
   exact ⟨s1, by simp [a1], a2⟩
 ·rw [if_neg hl]
  exact ⟨st, rfl, Stp.refl h⟩
theorem cWz {E : PF} {b f : Nat} (HE : iD E b) (hf : b ≤ f) (h1 : 1 ≤ f) : vF (qW E f) b := by
 intro st h hb
 obtain ⟨l, s1, k, a1, a2, a3⟩ := bAt f st [] h (fun e => by have := hb e; omega) h1
 obtain ⟨s2, b1, b2⟩ := dOq (l := l) a2.good
 have S2 := a2.trans b2
 have lt : ∀ s : PSt, (∃ k, Stp st s k) → s.err = 0 → s.toks.length ≤ b := fun s ⟨k, S⟩ e => by
  have h1 := hb (S.ok e)
  have := S.len
  omega
 obtain ⟨ts, s3, c1, c2⟩ := bMn (f := f) S2.good (fun e => by have := lt s2 ⟨_, S2⟩ e; omega) h1
 have S3 := S2.trans c2
 obtain ⟨ks, s4, k4, d1, d2, d3⟩ := aRx HE f s3 [] S3.good (fun e => by have := lt s3 ⟨_, S3⟩ e; omega) h1
 have S4 := S3.trans d2
 obtain ⟨u, s5, e1, e2, e3⟩ := aCm S4.good 10 [93] 0 (fun _ => tIn (by simp)) (by simp)
 have S5 := S4.trans e2
 refine ⟨.mk 9 [] 0 l ts ks, s5, by simp [qW, a1, b1, c1, d1, e1], ?_, Shp.flat _ _ _ _ _ _ (by decide)⟩
 have : fV (.mk 9 [] 0 l ts ks) = k + 0 + ts.length + k4 + 0 := by
  simp [fV, d3, fC] at a3 ⊢
  omega
 rw [this]
 exact S5
theorem bVc {LI E : PF} {b f : Nat} (HL : vF LI b) (HE : iD E b) (hf : b ≤ f) (h1 : 1 ≤ f) : iD (fE LI E f) (b + 1) := by
 intro st h hb
 obtain ⟨t, r, e, ht, h2, h3⟩ := fA h
 obtain ⟨x, c, s1, a1, a2, a3, a7⟩ := aSf h
 unfold fE
 rw [a1]
 simp only [Option.bind_some]
 cases c with
 | true =>
  obtain ⟨b1, b2, b3, b4⟩ := a2 rfl
  exact ⟨x, s1, by simp, b1, fun e7 => absurd e7 a7, fun _ => b2⟩
 | false =>
  have := a3 rfl
  subst this
  simp only [Bool.false_eq_true, if_false, ht, Option.bind_some]
  by_cases he : s1.err = 0
  ·rw [if_pos he]
   by_cases k1 : t.kind = 1
   ·rw [if_pos k1]
    obtain ⟨s2, c1, c2, c3, c4, c5, c6, c7, c8⟩ := fM h ht (by omega)
    rw [c1]
    refine ⟨_, _, rfl, ?_, Shp.flat _ _ _ _ _ _ (by decide), fun _ => by show s2.toks.length < _; omega⟩
    have : fV (.mk 5 t.text 0 [] [] []) = 1 := by simp [fV, fC]
    rw [this]
    exact c8 1 (by simp [T1, k1]) (by simp [T2, k1])
   ·rw [if_neg k1]
    by_cases k7 : t.kind = 7
    ·rw [if_pos k7]
     exact wA HL h ht (.inl k7) hb
    ·rw [if_neg k7, uU ht]
     simp only [Option.bind_some]
     cases hc : sT s1 t 10 [40] with
     | true =>
      simp only [if_true]
      exact wA (cVe HE) h ht (.inr (dQ hc).2) hb
     | false =>
      simp only [Bool.false_eq_true, if_false]
      rw [uU ht]
      simp only [Option.bind_some]
      cases hc2 : sT s1 t 10 [91] with
      | true =>
       simp only [if_true]
       exact wA (cWz HE hf h1) h ht (.inr (dQ hc2).2) hb
      | false =>
       simp only [Bool.false_eq_true, if_false]
       obtain ⟨f1, f2⟩ := vH h t 13 (by decide) (fV zN)
       exact ⟨_, _, rfl, f1, Shp.flat _ _ _ _ _ _ (by decide), fun e => absurd e f2⟩
  ·rw [if_neg he]
   exact ⟨_, _, rfl, (Stp.refl h).any he _, Shp.flat _ _ _ _ _ _ (by decide), fun e => absurd e he⟩
theorem aUy {P : PF} {b g : Nat} (HP : iD P b) (hg : b ≤ g) (hg1 : 1 ≤ g) : ∀ (f : Nat) (st : PSt) (x : Node), Good st.toks → (st.err = 0 → st.toks.length ≤ f ∧ st.toks.length ≤ b + 1) → 1 ≤ f →
 ∃ y st' k, hK P g f x st = some (y, st') ∧ Stp st st' k ∧ fV y = fV x + k ∧ (Shp x → Shp y)
 | 0, st, x, h, hf, h1 => by omega
 | f + 1, st, x, h, hf, h1 => by
  obtain ⟨t, r, e, ht, h2, h3⟩ := fA h
  unfold hK
  rw [uU ht]
  simp only [Option.bind_some]
  cases hc : sT st t 3 [] with
  | false => exact ⟨x, st, 0, by simp, Stp.refl h, by simp, id⟩
  | true =>
   obtain ⟨c1, c2⟩ := dQ hc
   obtain ⟨hl1, hl2⟩ := hf c1
   obtain ⟨s1, a1, a2, a3, a4, a5, a6, a7, a8⟩ := fM h ht (by omega)
   have hp := a6.pos
   obtain ⟨q, s2, b1, b2, b3, b4⟩ := HP s1 a6 (fun _ => by omega)
   have hl := b2.len
   obtain ⟨u, s3, ku, d1, d2, d3, d4⟩ := aJh g s2 q b2.good (fun _ => by omega) hg1
   have hl3 := d2.len
   obtain ⟨y, st', k, k1, k2, k3, k4⟩ := aUy HP hg hg1 f s3 (cE t.text [x, u]) d2.good (fun _ => by omega) (by omega)
   refine ⟨y, st', 1 + fV q + ku + k, by simp [a1, b1, d1, k1], (((a8 1 (by simp [T1, c2]) (by simp [T2, c2])).trans b2).trans d2).trans k2, ?_, fun _ => k4 (Shp.send _ _ _)⟩
   rw [k3, iC, cF, cF, dM, d3]
   omega
theorem cRd {P : PF} {b g : Nat} (HP : iD P b) (hg : b + 1 ≤ g) {st : PSt} (h : Good st.toks) (hb : st.err = 0 → st.toks.length ≤ b) :
 ∃ q s2 u s3 w s4, P st = some (q, s2) ∧ iA g q s2 = some (u, s3) ∧ hK P g g u s3 = some (w, s4) ∧ Stp st s4 (fV w) ∧ Shp w ∧ (s4.err = 0 → s4.toks.length < st.toks.length) := by
 obtain ⟨q, s2, b1, b2, b3, b4⟩ := HP st h hb
 have hl2 := b2.len
 obtain ⟨u, s3, ku, d1, d2, d3, d4⟩ := aJh g s2 q b2.good (fun e => by have := hb (b2.ok e); omega) (by omega)
 have hl3 := d2.len
 obtain ⟨w, s4, k, k1, k2, k3, k4⟩ := aUy (g := g) HP (by omega) (by omega) g s3 u d2.good (fun e => by have := hb (b2.ok (d2.ok e)); omega) (by omega)
 have hl4 := k2.len
 refine ⟨q, s2, u, s3, w, s4, b1, d1, k1, ?_, k4 (d4 b3), fun e => ?_⟩
 ·rw [k3, d3]
  exact (b2.trans d2).trans k2
 ·have := b4 (d2.ok (k2.ok e))
  omega
theorem bOz {P : PF} {b g : Nat} (HP : iD P b) (hg : b + 1 ≤ g) : ∀ (f : Nat) (st : PSt) (t : List Nat) (ks : List Node), Good st.toks → (st.err = 0 → st.toks.length ≤ f ∧ st.toks.length ≤ b + 1 ∧ t.length + st.toks.length * 10000 ≤ bL) → 1 ≤ f → ks ≠ [] →
 ∃ y st' k, nM P g f t ks st = some (y, st') ∧ Stp st st' k ∧ fV y = 1 + fC ks + k ∧ Shp y
 | 0, st, t, ks, h, hf, h1, hk => by omega
 | f + 1, st, t, ks, h, hf, h1, hk => by
  obtain ⟨u, r, e, ht, h2, h3⟩ := fA h
  unfold nM
  rw [uU ht]
  simp only [Option.bind_some]
  cases hc : sT st u 2 [] with
  | false => exact ⟨cE t ks, st, 0, by simp, Stp.refl h, by rw [iC]; rfl, fun _ => ⟨t, ks, rfl, hk⟩⟩
  | true =>
   obtain ⟨c1, c2⟩ := dQ hc
   obtain ⟨hl1, hl2, hl3⟩ := hf c1
   obtain ⟨s1, a1, a2, a3, a4, a5, a6, a7, a8⟩ := fM h ht (by omega)
   have hp := a6.pos
   have htx := h.text a7
   obtain ⟨q, s2, w, s3, v, s4, b1, b2, b3, b4, b5, b6⟩ := cRd HP hg a6 (fun _ => by omega)
   have hl4 := b4.len
   obtain ⟨y, st', k, k1, k2, k3, k4⟩ := bOz HP hg f s4 (t ++ u.text) (ks ++ [v]) b4.good (fun _ => ⟨by omega, by omega, by
    have : s4.toks.length * 10000 ≤ s1.toks.length * 10000 := Nat.mul_le_mul_right _ hl4
    have e2 : st.toks.length * 10000 = s1.toks.length * 10000 + 10000 := by rw [← a5]; omega
    simp
    omega⟩) (by omega) (by simp)
   refine ⟨y, st', 0 + fV v + k, ?_, ((a8 0 (by simp [T1, c2]) (by omega)).trans b4).trans k2, ?_, k4⟩
   ·simp only [if_true, a1, Option.bind_some]
    rw [if_pos (by omega)]
    simp [b1, b2, b3, k1]
   ·rw [k3, fU, cF, dM]; omega
theorem cPu {P : PF} {b g : Nat} (HP : iD P b) (hg : b + 2 ≤ g) (hb : b ≤ 1000000) {st : PSt} {x : Node} (h : Good st.toks) (hf : st.err = 0 → st.toks.length ≤ b + 1) :
 ∃ y st' k, sD P g x st = some (y, st') ∧ Stp st st' k ∧ fV y = fV x + k ∧ (Shp x → Shp y) ∧ ((∃ t, bH st 0 = some t ∧ sT st t 2 [] = true) → ∃ t ks, y = cE t (x :: ks)) := by
 obtain ⟨u, r, e, ht, h2, h3⟩ := fA h
 unfold sD
 rw [uU ht]
 simp only [Option.bind_some]
 cases hc : sT st u 2 [] with
 | false =>
  refine ⟨x, st, 0, by simp, Stp.refl h, by simp, id, ?_⟩
  rintro ⟨t, q1, q2⟩
  rw [ht] at q1
  cases q1
  rw [hc] at q2
  cases q2
 | true =>
  obtain ⟨c1, c2⟩ := dQ hc
  have hl := hf c1
  obtain ⟨s1, a1, a2, a3, a4, a5, a6, a7, a8⟩ := fM h ht (by omega)
  have hp := a6.pos
  have htx := h.text a7
  obtain ⟨q, s2, w, s3, v, s4, b1, b2, b3, b4, b5, b6⟩ := cRd (g := g) HP (by omega) a6 (fun _ => by omega)
  have hl4 := b4.len
  obtain ⟨g', rfl⟩ : ∃ g', g = g' + 1 := ⟨g - 1, by omega⟩
  have all : ∀ (f : Nat) (st : PSt) (t : List Nat) (ks : List Node) (y : Node) (st' : PSt), nM P (g' + 1) f t (x :: ks) st = some (y, st') → ∃ t ks, y = cE t (x :: ks) := by
   intro f
   induction f with
   | zero => intro st t ks y st' hk; cases hk
   | succ f ih =>
    intro st t ks y st' hk
    unfold nM at hk
    obtain ⟨c, _, hk⟩ := aT hk
    split at hk
    ·obtain ⟨_, _, hk⟩ := aT hk
     split at hk
     ·obtain ⟨_, _, hk⟩ := aT hk
      obtain ⟨_, _, hk⟩ := aT hk
      obtain ⟨_, _, hk⟩ := aT hk
      exact ih _ _ _ _ _ hk
     ·cases hk
    ·cases hk
     exact ⟨_, _, rfl⟩
  obtain ⟨y, st', k, k1, k2, k3, k4⟩ := bOz (g := g' + 1) HP (by omega) g' s4 ([] ++ u.text) ([x] ++ [v]) b4.good (fun _ => ⟨by omega, by omega, by
   have : s4.toks.length * 10000 ≤ 1000001 * 10000 := Nat.mul_le_mul_right _ (by omega)
   simp [bL]
   omega⟩) (by omega) (by simp)
  have hres : nM P (g' + 1) (g' + 1) [] [x] st = some (y, st') := by
   unfold nM
   rw [uU ht, hc]
   simp only [Option.bind_some, if_true, a1]
   rw [if_pos (by simp [bL]; omega)]
   simp only [Option.bind_some, b1, b2, b3]
   exact k1
  refine ⟨y, st', 1 + fV v + k, by simpa using hres, ((a8 1 (by simp [T1, c2]) (by simp [T2, c2])).trans b4).trans k2, ?_, fun _ => k4, fun _ => all _ _ _ _ _ _ hres⟩
  rw [k3, fU, cF, cF, dM]; omega
theorem cYs : fV zN = 1 := by simp [zN, fV, fC]
theorem oP (t : List Nat) (x : Node) (ks : List Node) : jC (cE t (x :: ks)) = cE t ks := by simp [jC, cE, Node.kids, Node.text]
theorem dLv {P : PF} {b g : Nat} (HP : iD P b) (hg : b + 2 ≤ g) (hb : b ≤ 1000000) {st : PSt} (h : Good st.toks) (hf : st.err = 0 → st.toks.length ≤ b + 1) :
 ∃ y st', aRn P g st = some (y, st') ∧ Stp st st' (fV (jC y)) := by
 obtain ⟨t, r, e, ht, h2, h3⟩ := fA h
 unfold aRn
 rw [ht]
 simp only [Option.bind_some]
 have any : ∀ {y : Node} {st' : PSt} {k : Nat}, Stp st st' k → (st.err = 0 → k = fV (jC y)) → Stp st st' (fV (jC y)) := fun S hk => S.cast (fun e => hk (S.ok e))
 by_cases k1 : t.kind = 1
 ·rw [if_pos k1]
  obtain ⟨s1, a1, a2, a3, a4, a5, a6, a7, a8⟩ := fM h ht (by omega)
  rw [a1]
  refine ⟨_, _, rfl, ?_⟩
  rw [oP, iC, dM]
  exact a8 1 (by simp [T1, k1]) (by simp [T2, k1])
 ·rw [if_neg k1]
  by_cases k3 : t.kind = 3
  ·rw [if_pos k3]
   obtain ⟨s1, a1, a2, a3, a4, a5, a6, a7, a8⟩ := fM h ht (by omega)
   have hp := a6.pos
   obtain ⟨q, s2, b1, b2, b3, b4⟩ := HP s1 a6 (fun e => by have := hf (by rw [← a2]; exact e); omega)
   have hl := b2.len
   obtain ⟨u, s3, ku, d1, d2, d3, d4⟩ := aJh g s2 q b2.good (fun e => by have := hf (by rw [← a2]; exact b2.ok e); omega) (by omega)
   simp only [a1, Option.bind_some, b1, d1]
   refine ⟨_, _, rfl, ?_⟩
   rw [oP, iC, cF, dM, d3]
   have := ((a8 1 (by simp [T1, k3]) (by simp [T2, k3])).trans b2).trans d2
   have e2 : 1 + fV q + ku = 1 + (fV q + ku + 0) := by omega
   rwa [e2] at this
  ·rw [if_neg k3]
   by_cases k2 : t.kind = 2
   ·rw [if_pos k2]
    obtain ⟨y, st', k, b1, b2, b3, b4, b5⟩ := cPu (x := zN) HP hg hb h hf
    refine ⟨y, st', b1, b2.cast fun e => ?_⟩
    have he := b2.ok e
    obtain ⟨tt, ks, rfl⟩ := b5 ⟨t, ht, by simp [sT, he, k2]⟩
    rw [oP, iC]
    rw [iC, cF, cYs] at b3
    omega
   ·rw [if_neg k2]
    obtain ⟨f1, f2⟩ := vH h t 13 (by decide) (fV (jC zN))
    exact ⟨_, _, rfl, f1⟩
theorem dIs {P : PF} {b g : Nat} (HP : iD P b) (hg : b + 2 ≤ g) (hb : b ≤ 1000000) : ∀ (f : Nat) (st : PSt) (ks : List Node), Good st.toks → (st.err = 0 → st.toks.length ≤ f ∧ st.toks.length ≤ b + 1) → 1 ≤ f →
 ∃ y st' k, aMb P g f ks st = some (y, st') ∧ Stp st st' k ∧ fV y = fC ks + k ∧ Shp y
 | 0, st, ks, h, hf, h1 => by omega
 | f + 1, st, ks, h, hf, h1 => by
  obtain ⟨t, r, e, ht, h2, h3⟩ := fA h
  unfold aMb
  rw [uU ht]
  simp only [Option.bind_some]
  cases hc : sT st t 10 [59] with
  | false => exact ⟨.mk 8 [] 0 [] [] ks, st, 0, by simp, Stp.refl h, by simp [fV], Shp.flat _ _ _ _ _ _ (by decide)⟩
  | true =>
   obtain ⟨c1, c2⟩ := dQ hc
   obtain ⟨hl1, hl2⟩ := hf c1
   obtain ⟨s1, a1, a2, a3, a4, a5, a6, a7, a8⟩ := fM h ht (by omega)
   have hp := a6.pos
   obtain ⟨q, s2, b1, b2⟩ := dLv HP hg hb a6 (fun _ => by omega)
   have hl := b2.len
   obtain ⟨y, st', k, k1, k2, k3, k4⟩ := dIs HP hg hb f s2 (ks ++ [jC q]) b2.good (fun _ => by omega) (by omega)
   refine ⟨y, st', 0 + fV (jC q) + k, by simp [a1, b1, k1], ((a8 0 (by simp [T1, c2]) (by omega)).trans b2).trans k2, ?_, k4⟩
   rw [k3, fU, cF, dM]; omega
theorem aLt {P : PF} {b g : Nat} (HP : iD P b) (hg : b + 2 ≤ g) (hb : b ≤ 1000000) : iD (kG P g) b := by
 intro st h hbd
 obtain ⟨q, s2, u, s3, w, s4, b1, b2, b3, b4, b5, b6⟩ := cRd (g := g) HP (by omega) h hbd
 have hl4 := b4.len
 obtain ⟨y, s5, k, d1, d2, d3, d4, d5⟩ := cPu (x := w) HP hg hb b4.good (fun e => by have := hbd (b4.ok e); omega)
 have hl5 := d2.len
 obtain ⟨t, r, e, ht, h2, h3⟩ := fA d2.good
 have S5 := b4.trans d2
 have hS : Stp st s5 (fV y) := by rw [d3]; exact S5
 have hlt : s5.err = 0 → s5.toks.length < st.toks.length := fun e => by
  have := b6 (d2.ok e)
  omega
 unfold kG
 simp only [b1, Option.bind_some, b2, b3, d1]
 rw [uU ht]
 simp only [Option.bind_some]
 cases hc : sT s5 t 10 [59] with
 | false => exact ⟨y, s5, by simp, hS, d4 b5, hlt⟩
 | true =>
  obtain ⟨c1, c2⟩ := dQ hc
  simp only [if_true]
  by_cases k7 : y.kind = 7
  ·rw [if_pos k7]
   obtain ⟨tx, ks, rfl, hks⟩ := d4 b5 k7
   cases ks with
   | nil => exact absurd rfl hks
   | cons k0 ks =>
    have : (cE tx (k0 :: ks)).kids[0]? = some k0 := rfl
    rw [this]
    simp only [Option.bind_some, oP]
    have hl := hbd (S5.ok c1)
    obtain ⟨z, s6, k6, e1, e2, e3, e4⟩ := dIs HP hg hb g s5 [k0, cE tx ks] d2.good (fun _ => by omega) (by omega)
    have hl6 := e2.len
    refine ⟨z, s6, e1, ?_, e4, fun e => by have := hlt (e2.ok e); omega⟩
    have := hS.trans e2
    have ec : fV (cE tx (k0 :: ks)) + k6 = fV z := by
     rw [e3, iC, cF, cF, cF, dM, iC]; omega
    rwa [ec] at this
  ·rw [if_neg k7, ht]
   simp only [Option.bind_some]
   obtain ⟨f1, f2⟩ := vH d2.good t 13 (by decide) 0
   exact ⟨_, _, rfl, hS.trans f1, d4 b5, fun e => absurd e f2⟩
theorem cQk {P E : PF} {b g : Nat} (HP : iD P b) (HE : b = 0 ∨ iD E (b - 1)) (hg : b + 2 ≤ g) (hb : b ≤ 1000000) : iD (sI P E g) b := by
 intro st h hbd
 obtain ⟨t, r, e, ht, h2, h3⟩ := fA h
 obtain ⟨u, hu⟩ := cPb h
 unfold sI
 rw [uU ht]
 simp only [Option.bind_some]
 cases hc : sT st t 1 [] with
 | false =>
  simp only [Bool.false_eq_true, if_false, Option.bind_some]
  exact aLt HP hg hb st h hbd
 | true =>
  simp only [if_true, hu, Option.bind_some]
  by_cases k9 : u.kind = 9
  ·rw [decide_eq_true k9]
   simp only [if_true]
   obtain ⟨c1, c2⟩ := dQ hc
   obtain ⟨s1, a1, a2, a3, a4, a5, a6, a7, a8⟩ := fM h ht (by omega)
   have hu1 : bH s1 0 = some u := by
    have hp := a6.pos
    have e1 : st.toks.length - 1 = s1.toks.length := by omega
    unfold bH at hu ⊢
    rw [a7] at hu
    simp at hu ⊢
    rw [show min 1 s1.toks.length = 0 + 1 by omega] at hu
    simpa using hu
   obtain ⟨s2, b1, b2, b3, b4, b5, b6, b7, b8⟩ := fM a6 hu1 (by omega)
   have hl := hbd c1
   have hp := b6.pos
   have HE' : iD E (b - 1) := HE.resolve_left (by omega)
   obtain ⟨x, s3, d1, d2, d3, d4⟩ := HE' s2 b6 (fun _ => by omega)
   have hl3 := d2.len
   simp only [a1, Option.bind_some, b1, d1]
   refine ⟨_, _, rfl, ?_, Shp.flat _ _ _ _ _ _ (by decide), fun e => by show s3.toks.length < _; omega⟩
   have : fV (.mk 6 t.text 0 [] [] [x]) = 1 + 0 + fV x := by simp [fV, fC]
   rw [this]
   exact ((a8 1 (by simp [T1, c2]) (by simp [T2, c2])).trans (b8 0 (by simp [T1, k9]) (by omega))).trans d2
  ·rw [decide_eq_false k9]
   simp only [Bool.false_eq_true, if_false]
   exact aLt HP hg hb st h hbd
theorem cPm : ∀ (f : Nat), 3 ≤ f → vF (vN f) (f - 3)
 | 0, h => by omega
 | f + 1, h => by
  by_cases h3 : f = 2
  ·subst h3
   intro st g hb
   have he : st.err ≠ 0 := fun e => by have := hb e; have := g.pos; omega
   unfold vN fL iX
   rw [if_neg he]
   obtain ⟨t, s2, b1, b2, b3, c, b4, b5⟩ := cPx g
   have he2 : s2.err ≠ 0 := by rw [b2]; exact he
   refine ⟨.mk 4 [] 0 [] [] [], s2, by simp [b1], ⟨b3, fun _ => he2, c, b4, fun e => absurd e he2⟩, Shp.flat _ _ _ _ _ _ (by decide)⟩
  ·have := bFn (f := f) (cPm f (by omega)) (by omega)
   rw [show f - 3 + 1 = f + 1 - 3 by omega] at this
   exact this
theorem aSe (LI E : PF) (f : Nat) : iD (fE LI E f) 0 := by
 intro st h hb
 have he : st.err ≠ 0 := fun e => by have := hb e; have := h.pos; omega
 obtain ⟨t, r, e, ht, h2, h3⟩ := fA h
 obtain ⟨x, c, s1, a1, a2, a3, a7⟩ := aSf h
 unfold fE
 rw [a1]
 simp only [Option.bind_some]
 cases c with
 | true => exact absurd (a2 rfl).2.2.1 he
 | false =>
  have := a3 rfl
  subst this
  simp only [Bool.false_eq_true, if_false, ht, Option.bind_some]
  rw [if_neg he]
  exact ⟨_, _, rfl, (Stp.refl h).any he _, Shp.flat _ _ _ _ _ _ (by decide), fun e => absurd e he⟩
theorem bOj : ∀ (f : Nat), 3 ≤ f → f ≤ 1000000 → iD (lR f) (f - 3)
 | 0, h, _ => by omega
 | f + 1, h, hm => by
  by_cases h3 : f = 2
  ·subst h3
   exact cQk (b := 0) (g := 2) (aSe (vN 2) (lR 2) 2) (.inl rfl) (by decide) (by decide)
  ·have HE := bOj f (by omega) (by omega)
   have HL := cPm f (by omega)
   have := cQk (P := fE (vN f) (lR f) f) (E := lR f) (b := f - 3 + 1) (g := f) (bVc HL HE (by omega) (by omega)) (.inr HE) (by omega) (by omega)
   rw [show f - 3 + 1 = f + 1 - 3 by omega] at this
   exact this
theorem dHt {f : Nat} {l : List Tok} (h : Good l) (hf : l.length + 3 ≤ f) (hm : f ≤ 1000000) : ∃ x at_ e, jG sC f (l, 0, 0) = some (x, at_, e) ∧ (e = 0 → uP l ≤ fV x ∧ fV x ≤ iU l) := by
 unfold jG
 rw [if_pos rfl]
 have h0 : Good (⟨l, 0, 0, 0⟩ : PSt).toks := h
 obtain ⟨ts, s2, b1, b2⟩ := bMn (f := f) h0 (fun _ => by show l.length ≤ f; omega) (by omega)
 have hl2 := b2.len
 have hl2 : s2.toks.length ≤ l.length := hl2
 obtain ⟨ks, s3, k, c1, c2, c3⟩ := aRx (bOj f (by omega) hm) f s2 [] b2.good (fun _ => by omega) (by omega)
 obtain ⟨u, s4, d1, d2, d3⟩ := aCm c2.good 0 [] 0 (fun h => absurd rfl h) (fun _ => rfl)
 simp only [sC, Option.bind_some, b1, c1, d1]
 by_cases he : s4.err = 0
 ·rw [if_pos he]
  refine ⟨_, _, _, rfl, fun _ => ?_⟩
  have S := (b2.trans c2).trans d2
  obtain ⟨c, e1, e2⟩ := S.run
  have e1 : l = c ++ s4.toks := e1
  obtain ⟨e3, e4⟩ := e2 he
  obtain ⟨f1, f2⟩ := d3 he
  have hcn : fV (Node.with (.mk 11 [100, 111, 73, 116] 0 [] [] []) ts ks) = ts.length + k + 0 := by
   simp [Node.with, fV, c3, fC]
  have hrest : s4.toks = s3.toks ∧ ∃ t, s3.toks = [t] ∧ t.kind = 0 := by
   obtain ⟨t, r, e, ht, h2, h3⟩ := fA c2.good
   unfold gF at d1
   rw [uU ht] at d1
   simp only [Option.bind_some] at d1
   cases hc : sT s3 t 0 [] with
   | false =>
    rw [hc] at d1
    simp only [Bool.false_eq_true, if_false, ht, Option.bind_some, Option.some.injEq, Prod.mk.injEq] at d1
    obtain ⟨_, rfl⟩ := d1
    exact absurd he (vH c2.good t 13 (by decide) 0).2
   | true =>
    rw [hc] at d1
    have hk := (dQ hc).2
    rw [if_pos rfl, bQl c2.good e hk] at d1
    simp only [Option.some.injEq, Prod.mk.injEq] at d1
    obtain ⟨_, rfl⟩ := d1
    exact ⟨rfl, t, by rw [e, h2 hk], hk⟩
  obtain ⟨r1, t, r2, r3⟩ := hrest
  rw [r1, r2] at e1
  rw [e1, hcn]
  simp only [uP, iU, List.map_append, List.sum_append, List.map_cons, List.map_nil, List.sum_cons, List.sum_nil] at e3 e4 ⊢
  have z1 : T1 t = 0 := by simp [T1, r3]
  have z2 : T2 t = 0 := by simp [T2, r3]
  omega
 ·rw [if_neg he]
  exact ⟨_, _, _, rfl, fun e => absurd e he⟩
end Go.Dd

namespace Go.Dd
open Go.Proofs
theorem bZp (n : Nat) (x : DV) (h : Hp) : aJ (n + 1) 94 [x] h = s94 (aJ n) n x h := by kernel_rfl
theorem cGw (n : Nat) (x y : DV) (h : Hp) : aJ (n + 1) 95 [x, y] h = s95 (aJ n) n x y h := by kernel_rfl
theorem cJv (n : Nat) (x y : DV) (h : Hp) : aJ (n + 1) 96 [x, y] h = s96 (aJ n) n x y h := by kernel_rfl
theorem cNf (n : Nat) (x y : DV) (h : Hp) : aJ (n + 1) 97 [x, y] h = s97 (aJ n) n x y h := by kernel_rfl
theorem cDp (n : Nat) (x y : DV) (h : Hp) : aJ (n + 1) 98 [x, y] h = s98 (aJ n) n x y h := by kernel_rfl
theorem bYm (n : Nat) (x y : DV) (h : Hp) : aJ (n + 1) 99 [x, y] h = s99 (aJ n) n x y h := by kernel_rfl
theorem cIp (n : Nat) (x y : DV) (h : Hp) : aJ (n + 1) 66 [x, y] h = s66 (aJ n) n x y h := by kernel_rfl
theorem cAb (n : Nat) (x y : DV) (h : Hp) : aJ (n + 1) 67 [x, y] h = s67 (aJ n) n x y h := by kernel_rfl
theorem cAi (n : Nat) (x : DV) (h : Hp) : aJ (n + 1) 43 [x] h = s43 (aJ n) n x h := by kernel_rfl
def fN (c : Nat) : Nat := if aY c then 1 else if bI c then 2 else if cW bK c then 5 else if cW signs c then 3 else if cW marks c then 4 else 0
def tI (u : List Nat) : Int := match u with
 | [] => -1
 | c :: _ => (fN c : Int)
theorem aQk (c : Nat) (h : Hp) : ∀ (w : List Nat) (j i : Nat), marks.drop i = w → i ≤ 8 →
 Ev (fun n => jM (aJ n) n (n - j) (.i .u8 (Int.ofNat c)) (.s marks) (.i .i64 (i : Int)) h) (fun v h' => v = .i .i64 (if cW w c then 4 else 0) ∧ h' = h) := by
 intro w
 induction w with
 | nil =>
  intro j i hw hi
  refine Ev.loop j (ll := fun n m => jM (aJ n) n m (.i .u8 (Int.ofNat c)) (.s marks) (.i .i64 (i : Int)) h) (bb := fun n m => oS (aJ n) n (jM (aJ n) n m) (.i .u8 (Int.ofNat c)) (.s marks) (.i .i64 (i : Int)) h) (fun _ _ => rfl) ?_
  unfold oS gU
  have hl : marks.length ≤ i := by simpa using hw
  refine Ev.lenS ?_
  refine Ev.ilt (fun e1 => by omega) (fun e1 => ?_)
  refine yj ?_
  exact Ev.ret ⟨rfl, rfl⟩
 | cons d w ih =>
  intro j i hw hi
  have hg : marks[i]? = some d := by
   have : (marks.drop i)[0]? = some d := by rw [hw]; rfl
   simpa using this
  have hw' : marks.drop (i + 1) = w := by rw [← List.drop_drop, hw]; rfl
  have hlt := (List.getElem?_eq_some_iff.1 hg).1
  refine Ev.loop j (ll := fun n m => jM (aJ n) n m (.i .u8 (Int.ofNat c)) (.s marks) (.i .i64 (i : Int)) h) (bb := fun n m => oS (aJ n) n (jM (aJ n) n m) (.i .u8 (Int.ofNat c)) (.s marks) (.i .i64 (i : Int)) h) (fun _ _ => rfl) ?_
  unfold oS
  refine Ev.lenS ?_
  refine Ev.ilt (fun e1 => ?_) (fun e1 => by omega)
  refine yt ?_
  refine Ev.op (gZ hg _) ?_
  refine Ev.ieq (fun e2 => ?_) (fun e2 => ?_)
  ·refine yt ?_
   have : d = c := by simp at e2; omega
   subst this
   exact Ev.ret ⟨by simp [cW], rfl⟩
  ·refine yj ?_
   have hne : ¬ c = d := fun e => e2 (by rw [e])
   refine Ev.iadd ?_
   rw [dO 1 (by omega)]
   refine (ih (j + 1) (i + 1) hw' hlt).mono ?_
   rintro v h' ⟨rfl, rfl⟩
   refine ⟨?_, rfl⟩
   simp [cW, hne]
theorem aRa (c : Nat) (h : Hp) : ∀ (w : List Nat) (j i : Nat), signs.drop i = w → i ≤ 12 →
 Ev (fun n => jJ (aJ n) n (n - j) (.i .u8 (Int.ofNat c)) (.s signs) (.i .i64 (i : Int)) h) (fun v h' => v = .i .i64 (if cW w c then 3 else if cW marks c then 4 else 0) ∧ h' = h) := by
 intro w
 induction w with
 | nil =>
  intro j i hw hi
  refine Ev.loop j (ll := fun n m => jJ (aJ n) n m (.i .u8 (Int.ofNat c)) (.s signs) (.i .i64 (i : Int)) h) (bb := fun n m => oW (aJ n) n (jJ (aJ n) n m) (.i .u8 (Int.ofNat c)) (.s signs) (.i .i64 (i : Int)) h) (fun _ _ => rfl) ?_
  unfold oW gG aTm bAl aRd
  have hl : signs.length ≤ i := by simpa using hw
  refine Ev.lenS ?_
  refine Ev.ilt (fun e1 => by omega) (fun e1 => ?_)
  refine yj ?_
  refine (aQk c h marks 0 0 rfl (by omega)).mono ?_
  rintro v h' ⟨rfl, rfl⟩
  exact ⟨by simp [cW], rfl⟩
 | cons d w ih =>
  intro j i hw hi
  have hg : signs[i]? = some d := by
   have : (signs.drop i)[0]? = some d := by rw [hw]; rfl
   simpa using this
  have hw' : signs.drop (i + 1) = w := by rw [← List.drop_drop, hw]; rfl
  have hlt := (List.getElem?_eq_some_iff.1 hg).1
  refine Ev.loop j (ll := fun n m => jJ (aJ n) n m (.i .u8 (Int.ofNat c)) (.s signs) (.i .i64 (i : Int)) h) (bb := fun n m => oW (aJ n) n (jJ (aJ n) n m) (.i .u8 (Int.ofNat c)) (.s signs) (.i .i64 (i : Int)) h) (fun _ _ => rfl) ?_
  unfold oW
  refine Ev.lenS ?_
  refine Ev.ilt (fun e1 => ?_) (fun e1 => by omega)
  refine yt ?_
  refine Ev.op (gZ hg _) ?_
  refine Ev.ieq (fun e2 => ?_) (fun e2 => ?_)
  ·refine yt ?_
   have : d = c := by simp at e2; omega
   subst this
   exact Ev.ret ⟨by simp [cW], rfl⟩
  ·refine yj ?_
   have hne : ¬ c = d := fun e => e2 (by rw [e])
   refine Ev.iadd ?_
   rw [dO 1 (by omega)]
   refine (ih (j + 1) (i + 1) hw' hlt).mono ?_
   rintro v h' ⟨rfl, rfl⟩
   refine ⟨?_, rfl⟩
   simp [cW, hne]
theorem sF (c : Nat) (h : Hp) : Ev (fun n => aJ n 94 [.i .u8 (Int.ofNat c)] h) (fun v h' => v = .i .i64 (fN c : Int) ∧ h' = h) := by
 refine Ev.enter (fun n => bZp n _ h) ?_
 unfold s94 bBv
 have yes : aY c = true → Ev (fun n => some (DV.i .i64 (Int.ofNat 1), h)) (fun v h' => v = .i .i64 (fN c : Int) ∧ h' = h) := fun e => Ev.ret ⟨by simp [fN, e], rfl⟩
 have no : aY c = false → Ev (fun n => aOc (aJ n) n (.i .u8 (Int.ofNat c)) h) (fun v h' => v = .i .i64 (fN c : Int) ∧ h' = h) := fun e => by
  unfold aOc
  have yes2 : bI c = true → Ev (fun n => some (DV.i .i64 (Int.ofNat 2), h)) (fun v h' => v = .i .i64 (fN c : Int) ∧ h' = h) := fun e2 => Ev.ret ⟨by simp [fN, e, e2], rfl⟩
  have no2 : bI c = false → Ev (fun n => aNm (aJ n) n (.i .u8 (Int.ofNat c)) h) (fun v h' => v = .i .i64 (fN c : Int) ∧ h' = h) := fun e2 => by
   unfold aNm
   have yes3 : cW bK c = true → Ev (fun n => some (DV.i .i64 (Int.ofNat 5), h)) (fun v h' => v = .i .i64 (fN c : Int) ∧ h' = h) := fun e3 => Ev.ret ⟨by simp [fN, e, e2, e3], rfl⟩
   refine Ev.ieq (fun e3 => ?_) (fun e3 => ?_)
   ·have : c = 9 := by simp at e3; omega
    have Y := yes3 (by subst this; rfl)
    exact Y
   ·refine zf ?_; refine wm ?_; refine zf ?_
    refine Ev.ieq (fun e4 => ?_) (fun e4 => ?_)
    ·have : c = 10 := by simp at e4; omega
     have Y := yes3 (by subst this; rfl)
     exact Y
    ·refine aq ?_; refine zf ?_; refine wm ?_; refine zf ?_
     refine Ev.ieq (fun e5 => ?_) (fun e5 => ?_)
     ·have : c = 13 := by simp at e5; omega
      have Y := yes3 (by subst this; rfl)
      exact Y
     ·refine aq ?_; refine zf ?_; refine wm ?_; refine zf ?_
      refine Ev.ieq (fun e6 => ?_) (fun e6 => ?_)
      ·have : c = 32 := by simp at e6; omega
       have Y := yes3 (by subst this; rfl)
       exact Y
      ·refine aq ?_; refine yj ?_
       have e7 : cW bK c = false := by
        simp at e3 e4 e5 e6
        simp [cW, bK]
        omega
       unfold aTq aXm aFr aSp
       refine (aRa c h signs 0 0 rfl (by omega)).mono ?_
       rintro v h' ⟨rfl, rfl⟩
       refine ⟨?_, rfl⟩
       simp only [fN, e, e2, e7, Bool.false_eq_true, if_false]
       cases cW signs c <;> cases cW marks c <;> rfl
  refine Ev.ige (fun e3 => ?_) (fun e3 => ?_)
  ·refine zt ?_; refine wm ?_; refine zt ?_
   refine Ev.ile (fun e4 => ?_) (fun e4 => ?_)
   ·have Y := yes2 (by simp at e3 e4; simp [bI]; omega)
    exact Y
   ·have Y := no2 (by simp at e3 e4; simp [bI]; omega)
    exact Y
  ·have Y := no2 (by simp at e3; simp [bI]; omega)
   exact Y
 refine Ev.ige (fun e1 => ?_) (fun e1 => ?_)
 ·refine zt ?_; refine wm ?_; refine zt ?_
  refine Ev.ile (fun e2 => ?_) (fun e2 => ?_)
  ·have Y := yes (by simp at e1 e2; simp [aY]; omega)
   exact Y
  ·refine ap ?_; refine zf ?_; refine wm ?_; refine zf ?_
   refine Ev.ige (fun e3 => ?_) (fun e3 => ?_)
   ·refine zf ?_; refine wm ?_; refine zt ?_; refine wm ?_; refine zt ?_
    refine Ev.ile (fun e4 => ?_) (fun e4 => ?_)
    ·simp at e1 e2 e3 e4; omega
    ·have Y := no (by simp at e1 e2 e3 e4; simp [aY]; omega)
     exact Y
   ·simp at e1 e2 e3; omega
 ·refine yf ?_; refine yf ?_; refine aq ?_; refine zf ?_; refine wm ?_; refine zf ?_
  refine Ev.ige (fun e3 => ?_) (fun e3 => ?_)
  ·refine zf ?_; refine wm ?_; refine zt ?_; refine wm ?_; refine zt ?_
   refine Ev.ile (fun e4 => ?_) (fun e4 => ?_)
   ·have Y := yes (by simp at e1 e3 e4; simp [aY]; omega)
    exact Y
   ·have Y := no (by simp at e1 e3 e4; simp [aY]; omega)
    exact Y
  ·have Y := no (by simp at e1 e3; simp [aY]; omega)
   exact Y
theorem lO (s : List Nat) (i : Nat) (h : Hp) : Ev (fun n => aJ n 95 [.s s, .i .i64 (i : Int)] h) (fun v h' => v = .i .i64 (tI (s.drop i)) ∧ h' = h) := by
 refine Ev.enter (fun n => cGw n _ _ h) ?_
 unfold s95
 refine Ev.lenS ?_
 refine Ev.ige (fun e1 => ?_) (fun e1 => ?_)
 ·refine yt ?_
  rw [List.drop_eq_nil_of_le (by omega)]
  exact Ev.ret ⟨rfl, rfl⟩
 ·refine yj ?_
  have hi : i < s.length := by omega
  refine Ev.op (gZ (c := s[i]) (by simp [hi]) _) ?_
  refine Ev.call (sF _ _) ?_
  rintro _ _ ⟨rfl, rfl⟩
  rw [List.drop_eq_getElem_cons hi]
  exact Ev.ret ⟨rfl, rfl⟩
theorem aNt (c : Nat) : fN c = 1 ↔ aY c = true := by
 unfold fN
 constructor
 ·intro h
  repeat' split at h
  all_goals first | assumption | omega
 ·intro h; simp [h]
theorem aLw (c : Nat) : fN c = 2 ↔ bI c = true := by
 unfold fN
 constructor
 ·intro h
  repeat' split at h
  all_goals first | assumption | omega
 ·intro h
  have : aY c = false := by simp [bI] at h; simp [aY]; omega
  simp [this, h]
theorem aQi (s : List Nat) (hs : s.length ≤ bL) (h : Hp) : ∀ (u : List Nat) (j i : Nat), s.drop i = u → i ≤ s.length →
 Ev (fun n => kU (aJ n) n (n - j) (.s s) (.i .i64 (i : Int)) h) (fun v h' => v = .i .i64 ((i + (u.takeWhile eZ).length : Nat) : Int) ∧ h' = h) := by
 intro u
 induction u with
 | nil =>
  intro j i hu hi
  refine Ev.loop j (ll := fun n m => kU (aJ n) n m (.s s) (.i .i64 (i : Int)) h) (bb := fun n m => tX (aJ n) n (kU (aJ n) n m) (.s s) (.i .i64 (i : Int)) h) (fun _ _ => rfl) ?_
  unfold tX iB
  refine Ev.call (lO s i h) ?_
  rintro _ _ ⟨rfl, rfl⟩
  rw [hu]
  refine Ev.ieq (fun e1 => absurd e1 (by decide)) (fun e1 => ?_)
  refine zf ?_; refine wm ?_; refine zf ?_; refine wm ?_; refine zf ?_
  refine Ev.call (lO s i _) ?_
  rintro _ _ ⟨rfl, rfl⟩
  rw [hu]
  refine zf ?_
  refine Ev.ieq (fun e2 => absurd e2 (by decide)) (fun e2 => ?_)
  refine aq ?_; refine yj ?_
  exact Ev.ret ⟨by simp, rfl⟩
 | cons c u ih =>
  intro j i hu hi
  have hlt : i < s.length := by
   have := congrArg List.length hu
   simp at this
   omega
  have hu' : s.drop (i + 1) = u := by rw [← List.drop_drop, hu]; rfl
  simp only [bL] at hs
  refine Ev.loop j (ll := fun n m => kU (aJ n) n m (.s s) (.i .i64 (i : Int)) h) (bb := fun n m => tX (aJ n) n (kU (aJ n) n m) (.s s) (.i .i64 (i : Int)) h) (fun _ _ => rfl) ?_
  unfold tX iB
  have go : eZ c = true → Ev (fun n => bnd (aF .add (.i .i64 (i : Int)) (.i .i64 (Int.ofNat 1)) h) fun v8 h8 => kU (aJ n) n (n - (j + 1)) (.s s) v8 h8) (fun v h' => v = .i .i64 ((i + ((c :: u).takeWhile eZ).length : Nat) : Int) ∧ h' = h) := fun e => by
   refine Ev.iadd ?_
   rw [dO 1 (by omega)]
   refine (ih (j + 1) (i + 1) hu' (by omega)).mono ?_
   rintro v h' ⟨rfl, rfl⟩
   refine ⟨?_, rfl⟩
   simp [e]
   omega
  refine Ev.call (lO s i h) ?_
  rintro _ _ ⟨rfl, rfl⟩
  rw [hu]
  refine Ev.ieq (fun e1 => ?_) (fun e1 => ?_)
  ·have e1' : aY c = true := (aNt c).1 (by simp [tI] at e1; omega)
   have G := go (by simp [eZ, e1'])
   exact G
  ·refine zf ?_; refine wm ?_; refine zf ?_; refine wm ?_; refine zf ?_
   refine Ev.call (lO s i _) ?_
   rintro _ _ ⟨rfl, rfl⟩
   rw [hu]
   refine zf ?_
   refine Ev.ieq (fun e2 => ?_) (fun e2 => ?_)
   ·have e2' : bI c = true := (aLw c).1 (by simp [tI] at e2; omega)
    have G := go (by simp [eZ, e2'])
    exact G
   ·refine aq ?_; refine yj ?_
    have e1' : aY c = false := by
     cases h1 : aY c with
     | false => rfl
     | true => exact absurd (show tI (c :: u) = _ by simp [tI, (aNt c).2 h1]) e1
    have e2' : bI c = false := by
     cases h1 : bI c with
     | false => rfl
     | true => exact absurd (show tI (c :: u) = _ by simp [tI, (aLw c).2 h1]) e2
    exact Ev.ret ⟨by simp [eZ, e1', e2'], rfl⟩
theorem vS (s : List Nat) (hs : s.length ≤ bL) (i : Nat) (hi : i ≤ s.length) (h : Hp) : Ev (fun n => aJ n 96 [.s s, .i .i64 (i : Int)] h) (fun v h' => v = .i .i64 ((i + ((s.drop i).takeWhile eZ).length : Nat) : Int) ∧ h' = h) := by
 refine Ev.enter (fun n => cJv n _ _ h) ?_
 unfold s96 aZf bLn
 exact aQi s hs h _ 0 i rfl hi
theorem wF (s : List Nat) (hs : s.length ≤ bL) (i : Nat) (hi : i ≤ s.length) (h : Hp) : Ev (fun n => aJ n 97 [.s s, .i .i64 (i : Int)] h) (fun v h' => v = .b (dD (s.drop i)) ∧ h' = h) := by
 refine Ev.enter (fun n => cNf n _ _ h) ?_
 unfold s97
 simp only [bL] at hs
 refine Ev.lenS ?_
 refine Ev.ilt (fun e1 => ?_) (fun e1 => ?_)
 ·have hlt : i < s.length := by omega
  have n0 : nx (s.drop i) 0 = s[i] := by rw [List.drop_eq_getElem_cons hlt]; rfl
  refine zt ?_; refine wm ?_; refine zt ?_; refine wm ?_; refine zt ?_
  refine Ev.op (gZ (c := s[i]) (by simp [hlt]) _) ?_
  refine zt ?_
  refine Ev.ieq (fun e2 => ?_) (fun e2 => ?_)
  ·have e2' : s[i] = 58 := by simp at e2; omega
   refine ap ?_; refine zt ?_; refine wm ?_; refine zt ?_
   refine Ev.iadd ?_
   rw [dO 1 (by omega)]
   refine zt ?_; refine wm ?_; refine zt ?_
   refine Ev.lenS ?_
   refine zt ?_
   refine Ev.ilt (fun e3 => ?_) (fun e3 => ?_)
   ·have hlt2 : i + 1 < s.length := by omega
    have n1 : nx (s.drop i) 1 = s[i + 1] := by simp [nx, List.getD, List.getElem?_drop, hlt2]
    refine zt ?_; refine wm ?_; refine zt ?_; refine wm ?_; refine zt ?_; refine wm ?_; refine zt ?_
    refine Ev.iadd ?_
    rw [dO 1 (by omega)]
    refine zt ?_
    refine Ev.op (gZ (c := s[i + 1]) (by simp [hlt2]) _) ?_
    refine zt ?_
    refine Ev.ieq (fun e4 => ?_) (fun e4 => ?_)
    ·have e4' : s[i + 1] = 61 := by simp at e4; omega
     refine zt ?_; refine ap ?_; refine zt ?_; refine an ?_; refine ap ?_
     exact Ev.ret ⟨by simp [dD, n0, n1, e2', e4'], rfl⟩
    ·have e4' : ¬ s[i + 1] = 61 := by simp at e4; omega
     refine zt ?_; refine ap ?_; refine zt ?_; refine ao ?_; refine ap ?_
     exact Ev.ret ⟨by simp [dD, n0, n1, e2', e4'], rfl⟩
   ·refine zt ?_; refine wm ?_; refine yf ?_; refine yf ?_; refine yf ?_; refine yf ?_; refine yf ?_; refine zt ?_; refine aq ?_; refine zt ?_; refine ao ?_; refine ap ?_
    have n1 : nx (s.drop i) 1 = 0 := by simp [nx, List.getD, List.getElem?_drop, List.getElem?_eq_none (show s.length ≤ i + 1 by omega)]
    exact Ev.ret ⟨by simp [dD, n0, n1, e2'], rfl⟩
  ·have e2' : ¬ s[i] = 58 := by simp at e2; omega
   refine ap ?_; refine yf ?_; refine yf ?_; refine yf ?_; refine yf ?_; refine yf ?_; refine yf ?_; refine yu ?_; refine yu ?_; refine yu ?_; refine yu ?_; refine yu ?_; refine yf ?_; refine yf ?_; refine aq ?_
   exact Ev.ret ⟨by simp [dD, n0, e2'], rfl⟩
 ·refine yf ?_; refine yf ?_; refine yf ?_; refine yf ?_; refine aq ?_; refine yf ?_; refine yf ?_; refine yf ?_; refine yf ?_; refine yf ?_; refine yf ?_; refine yu ?_; refine yu ?_; refine yu ?_; refine yu ?_; refine yu ?_; refine yf ?_; refine yf ?_; refine aq ?_
  have n0 : nx (s.drop i) 0 = 0 := by rw [List.drop_eq_nil_of_le (by omega)]; rfl
  exact Ev.ret ⟨by simp [dD, n0], rfl⟩
end Go.Dd

namespace Go.Dd
open Go.Proofs
def jD (c : Nat) : Bool := !decide (c = 34)
theorem aPf : ∀ (l : List Nat) (i : Nat), dI 34 l i = if (l.takeWhile jD).length < l.length then ((i + (l.takeWhile jD).length : Nat) : Int) else -1
 | [], i => rfl
 | x :: l, i => by
  have ih := aPf l (i + 1)
  unfold dI
  cases e : Nat.beq x 34 with
  | true =>
   have := Nat.eq_of_beq_eq_true e
   subst this
   simp [jD]
  | false =>
   have hx : ¬ x = 34 := fun h => by subst h; simp at e
   simp only [cond_false, ih]
   have : (x :: l).takeWhile jD = x :: l.takeWhile jD := by simp [jD, hx]
   rw [this]
   simp only [List.length_cons, Nat.add_lt_add_iff_right]
   split
   ·congr 1; omega
   ·rfl
inductive SkipTo (s : List Nat) : Nat → Nat → Bool → Prop
 | fin (i : Nat) : s.length ≤ i → SkipTo s i i false
 | blank (i k : Nat) (o : Bool) : i < s.length → cW bK (nx s i) = true → SkipTo s (i + 1) k o → SkipTo s i k o
 | tok (i : Nat) : i < s.length → cW bK (nx s i) = false → nx s i ≠ 34 → SkipTo s i i false
 | opn (i : Nat) : i < s.length → nx s i = 34 → ((s.drop (i + 1)).takeWhile jD).length = (s.drop (i + 1)).length → SkipTo s i i true
 | rem (i k : Nat) (o : Bool) : i < s.length → nx s i = 34 → ((s.drop (i + 1)).takeWhile jD).length < (s.drop (i + 1)).length → SkipTo s (i + 1 + ((s.drop (i + 1)).takeWhile jD).length + 1) k o → SkipTo s i k o
theorem aYr (c : Nat) : fN c = 5 ↔ cW bK c = true := by
 unfold fN
 constructor
 ·intro h
  repeat' split at h
  all_goals first | assumption | omega
 ·intro h
  have h2 : c = 9 ∨ c = 10 ∨ c = 13 ∨ c = 32 := by simpa [cW, bK] using h
  rcases h2 with rfl | rfl | rfl | rfl <;> rfl
theorem aOb {P : DV → Hp → Prop} {s : List Nat} (hs : s.length ≤ bL) {i0 : Nat} {kk : Nat → DV → DV → Hp → aH} {h : Hp} : ∀ (u : List Nat) (j i : Nat), s.drop i = u → i ≤ s.length →
 ((u.takeWhile jD).length = u.length → P (.t [.i .i64 (i0 : Int), .b true]) h) → ((u.takeWhile jD).length < u.length → Ev (fun n => kk n (.s s) (.i .i64 ((i + (u.takeWhile jD).length + 1 : Nat) : Int)) h) P) →
 Ev (fun n => mY (aJ n) n (kk n) (n - j) (.s s) (.i .i64 (i0 : Int)) (.i .i64 (i : Int)) h) P := by
 intro u
 simp only [bL] at hs
 induction u with
 | nil =>
  intro j i hu hi H1 H2
  refine Ev.loop j (ll := fun n m => mY (aJ n) n (kk n) m (.s s) (.i .i64 (i0 : Int)) (.i .i64 (i : Int)) h) (bb := fun n m => uH (aJ n) n (kk n) (mY (aJ n) n (kk n) m) (.s s) (.i .i64 (i0 : Int)) (.i .i64 (i : Int)) h) (fun _ _ => rfl) ?_
  unfold uH hO
  have hl : s.length ≤ i := by simpa using hu
  refine Ev.lenS ?_
  refine Ev.ilt (fun e1 => by omega) (fun e1 => ?_)
  refine yf ?_; refine yf ?_; refine yf ?_; refine yf ?_; refine aq ?_; refine yj ?_
  refine Ev.lenS ?_
  refine Ev.ieq (fun e2 => ?_) (fun e2 => absurd (by omega) e2)
  refine yt ?_
  exact Ev.ret (H1 rfl)
 | cons c u ih =>
  intro j i hu hi H1 H2
  have hlt : i < s.length := by
   have := congrArg List.length hu
   simp at this
   omega
  have hu' : s.drop (i + 1) = u := by rw [← List.drop_drop, hu]; rfl
  have hc : s[i] = c := by
   rw [List.drop_eq_getElem_cons hlt] at hu
   exact (List.cons.inj hu).1
  refine Ev.loop j (ll := fun n m => mY (aJ n) n (kk n) m (.s s) (.i .i64 (i0 : Int)) (.i .i64 (i : Int)) h) (bb := fun n m => uH (aJ n) n (kk n) (mY (aJ n) n (kk n) m) (.s s) (.i .i64 (i0 : Int)) (.i .i64 (i : Int)) h) (fun _ _ => rfl) ?_
  unfold uH hO
  refine Ev.lenS ?_
  refine Ev.ilt (fun e1 => ?_) (fun e1 => by omega)
  refine zt ?_; refine wm ?_; refine zt ?_; refine wm ?_; refine zt ?_
  refine Ev.op (gZ (c := s[i]) (by simp [hlt]) _) ?_
  refine zt ?_
  refine Ev.ine (fun e2 => ?_) (fun e2 => ?_)
  ·have e2' : jD c = true := by rw [hc] at e2; simp at e2; simp [jD]; omega
   have et : (c :: u).takeWhile jD = c :: u.takeWhile jD := by simp [e2']
   refine ap ?_; refine yt ?_
   refine Ev.iadd ?_
   rw [dO 1 (by omega)]
   refine ih (j + 1) (i + 1) hu' (by omega) ?_ ?_
   ·intro hl; exact H1 (by rw [et]; simp [hl])
   ·intro hl
    have := H2 (by rw [et]; simp; omega)
    rw [et] at this
    simp only [List.length_cons] at this
    rw [show i + 1 + (u.takeWhile jD).length + 1 = i + ((u.takeWhile jD).length + 1) + 1 by omega]
    exact this
  ·have e2' : jD c = false := by rw [hc] at e2; simp at e2; simp [jD]; omega
   have et : (c :: u).takeWhile jD = [] := by simp [e2']
   refine ap ?_; refine yj ?_
   refine Ev.lenS ?_
   refine Ev.ieq (fun e3 => by omega) (fun e3 => ?_)
   refine yj ?_
   refine Ev.iadd ?_
   rw [dO 1 (by omega)]
   have := H2 (by rw [et]; simp)
   rw [et] at this
   exact this
theorem bEv {s : List Nat} (hs : s.length ≤ bL) {h : Hp} {i k : Nat} {o : Bool} (H : SkipTo s i k o) : ∀ (j : Nat), i ≤ s.length →
 Ev (fun n => fF (aJ n) n (n - j) (.s s) (.i .i64 (i : Int)) h) (fun v h' => v = .t [.i .i64 (k : Int), .b o] ∧ h' = h) := by
 have hs' := hs
 simp only [bL] at hs'
 induction H with
 | fin i hl =>
  intro j hi
  refine Ev.loop j (ll := fun n m => fF (aJ n) n m (.s s) (.i .i64 (i : Int)) h) (bb := fun n m => jF (aJ n) n (fF (aJ n) n m) (.s s) (.i .i64 (i : Int)) h) (fun _ _ => rfl) ?_
  unfold jF bO
  refine Ev.lenS ?_
  refine Ev.ilt (fun e1 => by omega) (fun e1 => ?_)
  refine yj ?_
  exact Ev.ret ⟨rfl, rfl⟩
 | blank i k o hlt hb _ ih =>
  intro j hi
  have hnx : nx s i = s[i] := by simp [nx, List.getD, hlt]
  refine Ev.loop j (ll := fun n m => fF (aJ n) n m (.s s) (.i .i64 (i : Int)) h) (bb := fun n m => jF (aJ n) n (fF (aJ n) n m) (.s s) (.i .i64 (i : Int)) h) (fun _ _ => rfl) ?_
  unfold jF bO aAa
  refine Ev.lenS ?_
  refine Ev.ilt (fun e1 => ?_) (fun e1 => by omega)
  refine yt ?_
  refine Ev.op (gZ (c := s[i]) (by simp [hlt]) _) ?_
  refine Ev.call (sF _ _) ?_
  rintro _ _ ⟨rfl, rfl⟩
  refine Ev.ieq (fun e2 => ?_) (fun e2 => absurd (by rw [(aYr _).2 (hnx ▸ hb)]; rfl) e2)
  refine yt ?_
  refine Ev.iadd ?_
  rw [dO 1 (by omega)]
  exact ih (j + 1) (by omega)
 | tok i hlt hb h34 =>
  intro j hi
  have hnx : nx s i = s[i] := by simp [nx, List.getD, hlt]
  refine Ev.loop j (ll := fun n m => fF (aJ n) n m (.s s) (.i .i64 (i : Int)) h) (bb := fun n m => jF (aJ n) n (fF (aJ n) n m) (.s s) (.i .i64 (i : Int)) h) (fun _ _ => rfl) ?_
  unfold jF bO aAa aDm
  refine Ev.lenS ?_
  refine Ev.ilt (fun e1 => ?_) (fun e1 => by omega)
  refine yt ?_
  refine Ev.op (gZ (c := s[i]) (by simp [hlt]) _) ?_
  refine Ev.call (sF _ _) ?_
  rintro _ _ ⟨rfl, rfl⟩
  refine Ev.ieq (fun e2 => ?_) (fun e2 => ?_)
  ·have : cW bK s[i] = true := (aYr _).1 (by simp at e2; omega)
   rw [hnx, this] at hb
   cases hb
  refine yj ?_
  refine Ev.op (gZ (c := s[i]) (by simp [hlt]) _) ?_
  refine Ev.ine (fun e3 => ?_) (fun e3 => absurd (by rw [hnx]; simp at e3; omega) h34)
  unfold bO
  exact Ev.ret ⟨rfl, rfl⟩
 | opn i hlt h34 hl =>
  intro j hi
  have hnx : nx s i = s[i] := by simp [nx, List.getD, hlt]
  have hb : cW bK s[i] = false := by rw [← hnx, h34]; rfl
  refine Ev.loop j (ll := fun n m => fF (aJ n) n m (.s s) (.i .i64 (i : Int)) h) (bb := fun n m => jF (aJ n) n (fF (aJ n) n m) (.s s) (.i .i64 (i : Int)) h) (fun _ _ => rfl) ?_
  unfold jF bO aAa aDm
  refine Ev.lenS ?_
  refine Ev.ilt (fun e1 => ?_) (fun e1 => by omega)
  refine yt ?_
  refine Ev.op (gZ (c := s[i]) (by simp [hlt]) _) ?_
  refine Ev.call (sF _ _) ?_
  rintro _ _ ⟨rfl, rfl⟩
  refine Ev.ieq (fun e2 => ?_) (fun e2 => ?_)
  ·have : cW bK s[i] = true := (aYr _).1 (by simp at e2; omega)
   rw [this] at hb
   cases hb
  refine yj ?_
  refine Ev.op (gZ (c := s[i]) (by simp [hlt]) _) ?_
  refine Ev.ine (fun e3 => absurd (by rw [← hnx, h34]) e3) (fun e3 => ?_)
  refine yj ?_
  unfold aNo aOw aXt
  refine Ev.iadd ?_
  rw [dO 1 (by omega)]
  refine aOb hs (kk := fun n => fF (aJ n) n (n - (j + 1))) (s.drop (i + 1)) 0 (i + 1) rfl (by omega) (fun _ => ⟨rfl, rfl⟩) (fun hl2 => by omega)
 | rem i k o hlt h34 hl _ ih =>
  intro j hi
  have hnx : nx s i = s[i] := by simp [nx, List.getD, hlt]
  have hb : cW bK s[i] = false := by rw [← hnx, h34]; rfl
  refine Ev.loop j (ll := fun n m => fF (aJ n) n m (.s s) (.i .i64 (i : Int)) h) (bb := fun n m => jF (aJ n) n (fF (aJ n) n m) (.s s) (.i .i64 (i : Int)) h) (fun _ _ => rfl) ?_
  unfold jF bO aAa aDm
  refine Ev.lenS ?_
  refine Ev.ilt (fun e1 => ?_) (fun e1 => by omega)
  refine yt ?_
  refine Ev.op (gZ (c := s[i]) (by simp [hlt]) _) ?_
  refine Ev.call (sF _ _) ?_
  rintro _ _ ⟨rfl, rfl⟩
  refine Ev.ieq (fun e2 => ?_) (fun e2 => ?_)
  ·have : cW bK s[i] = true := (aYr _).1 (by simp at e2; omega)
   rw [this] at hb
   cases hb
  refine yj ?_
  refine Ev.op (gZ (c := s[i]) (by simp [hlt]) _) ?_
  refine Ev.ine (fun e3 => absurd (by rw [← hnx, h34]) e3) (fun e3 => ?_)
  refine yj ?_
  unfold aNo aOw aXt
  refine Ev.iadd ?_
  rw [dO 1 (by omega)]
  have hll : (s.drop (i + 1)).length = s.length - (i + 1) := by simp
  refine aOb hs (kk := fun n => fF (aJ n) n (n - (j + 1))) (s.drop (i + 1)) 0 (i + 1) rfl (by omega) (fun hl2 => by omega) (fun hl2 => ih (j + 1) (by omega))
theorem cGv {s : List Nat} (hs : s.length ≤ bL) {h : Hp} {i k : Nat} {o : Bool} (H : SkipTo s i k o) (hi : i ≤ s.length) :
 Ev (fun n => aJ n 66 [.s s, .i .i64 (i : Int)] h) (fun v h' => v = .t [.i .i64 (k : Int), .b o] ∧ h' = h) := by
 refine Ev.enter (fun n => cIp n _ _ h) ?_
 unfold s66 bDp bUa
 exact bEv hs H 0 hi
theorem bFq {g : Nat} {s : List Nat} : ∀ (f i : Nat) (out : List Tok) (res : List Tok × Int × Int), i ≤ s.length → lU g s f i out = some res →
 ∃ k o, SkipTo s i k o ∧ k ≤ s.length ∧ (o = true → res = ([], (k : Int), 11)) ∧ (o = false → k = s.length → res = (out ++ [⟨0, [], 0, (k : Int)⟩], 0, 0)) ∧
  (o = false → k < s.length → ∃ rs, kK g (s.drop k) = some rs ∧ (rs.2.2.2.1 ≠ 0 → res = ([], (k : Int), rs.2.2.2.1)) ∧
   (rs.2.2.2.1 = 0 → k + rs.2.2.2.2 ≤ s.length ∧ ∃ f', f' < f ∧ lU g s f' (k + rs.2.2.2.2) (out ++ [⟨rs.1, rs.2.1, rs.2.2.1, (k : Int)⟩]) = some res)) := by
 intro f
 induction f with
 | zero => intro i out res hi hm; cases hm
 | succ f ih =>
  intro i out res hi hm
  unfold lU at hm
  have hle := nL (cW bK) (s.drop i)
  have hdl : (s.drop i).length = s.length - i := by simp
  have up : ∀ (w : Nat) (i : Nat), w ≤ ((s.drop i).takeWhile (cW bK)).length → ∀ k o, SkipTo s (i + w) k o → SkipTo s i k o := by
   intro w
   induction w with
   | zero => intro i _ k o H; exact H
   | succ w ihw =>
    intro i hw k o H
    have hlt : i < s.length := by
     have := nL (cW bK) (s.drop i)
     simp at this
     omega
    have hd := List.drop_eq_getElem_cons hlt
    rw [hd] at hw
    have hb : cW bK s[i] = true := by
     cases e : cW bK s[i] with
     | true => rfl
     | false =>
      rw [List.takeWhile_cons, e] at hw
      simp only [Bool.false_eq_true, if_false, List.length_nil] at hw
      omega
    have hnx : nx s i = s[i] := by simp [nx, List.getD, hlt]
    refine SkipTo.blank i k o hlt (by rw [hnx]; exact hb) ?_
    rw [List.takeWhile_cons, hb] at hw
    simp only [if_true, List.length_cons] at hw
    refine ihw (i + 1) (by omega) k o ?_
    rw [show i + 1 + w = i + (w + 1) by omega]
    exact H
  have nb : ∀ w, w = ((s.drop i).takeWhile (cW bK)).length → i + w < s.length → cW bK (nx s (i + w)) = false := by
   intro w hw hlt
   have e1 : nx s (i + w) = nx (s.drop i) w := by simp [nx, List.getD, List.getElem?_drop]
   rw [e1, hw]
   have : ∀ u : List Nat, (u.takeWhile (cW bK)).length < u.length → cW bK (nx u (u.takeWhile (cW bK)).length) = false := by
    intro u
    induction u with
    | nil => intro h; simp at h
    | cons c u ihu =>
     intro h
     cases e : cW bK c with
     | false => simp [e, nx]
     | true =>
      simp [e] at h
      simp [e]
      have := ihu h
      simpa [nx] using this
   exact this _ (by omega)
  generalize hw : ((s.drop i).takeWhile (cW bK)).length = w at hm hle nb
  have hi2 : i + w ≤ s.length := by omega
  split at hm
  ·rename_i h1
   cases hm
   have hk : i + w = s.length := by omega
   refine ⟨i + w, false, up w i (by omega) _ _ (.fin _ h1), by omega, fun h => (by cases h), fun _ h => by rw [hk], fun _ h => by omega⟩
  ·rename_i h1
   have h1' : i + w < s.length := by omega
   have hb := nb w rfl h1'
   split at hm
   ·rename_i h2
    rw [aPf] at hm
    by_cases hlt : ((s.drop (i + w + 1)).takeWhile jD).length < (s.drop (i + w + 1)).length
    ·rw [if_pos hlt] at hm
     rw [if_neg (by omega)] at hm
     simp only [Nat.zero_add, Int.toNat_natCast] at hm
     have hdl2 : (s.drop (i + w + 1)).length = s.length - (i + w + 1) := by simp
     obtain ⟨k, o, a1, a2, a3, a4, a5⟩ := ih _ out res (by omega) hm
     refine ⟨k, o, up w i (by omega) _ _ (.rem _ k o h1' h2 hlt ?_), a2, a3, a4, ?_⟩
     ·rw [show i + w + 1 + ((s.drop (i + w + 1)).takeWhile jD).length + 1 = i + w + ((s.drop (i + w + 1)).takeWhile jD).length + 2 by omega]
      exact a1
     ·intro ho hk
      obtain ⟨rs, b1, b2, b3⟩ := a5 ho hk
      refine ⟨rs, b1, b2, fun he => ?_⟩
      obtain ⟨c1, f', c2, c3⟩ := b3 he
      exact ⟨c1, f', by omega, c3⟩
    ·rw [if_neg hlt] at hm
     rw [if_pos (by omega)] at hm
     cases hm
     have := nL jD (s.drop (i + w + 1))
     exact ⟨i + w, true, up w i (by omega) _ _ (.opn _ h1' h2 (by omega)), by omega, fun _ => rfl, fun h => (by cases h), fun h => (by cases h)⟩
   ·rename_i h2
    obtain ⟨rs, hr, hm⟩ := aT hm
    refine ⟨i + w, false, up w i (by omega) _ _ (.tok _ h1' hb h2), by omega, fun h => (by cases h), fun _ h => by omega, fun _ _ => ⟨rs, hr, fun he => ?_, fun he => ?_⟩⟩
    ·rw [if_neg he] at hm
     cases hm
     rfl
    ·rw [if_pos he] at hm
     split at hm
     ·cases hm
     ·rename_i hfit
      simp at hfit
      exact ⟨by omega, f, by omega, hm⟩
end Go.Dd

namespace Go.Dd
open Go.Proofs
def aDb (I : Im) (A Q L : Ls) (res : Int × List Nat × Int × Int × Nat) (i : Nat) (v : DV) (h : Hp) : Prop :=
 ∃ t en, v = .t [.a (tc t), .i .i64 en, .i .i64 res.2.2.2.1] ∧ (res.2.2.2.1 = 0 → t = ⟨res.1, res.2.1, res.2.2.1, (i : Int)⟩ ∧ en = ((i + res.2.2.2.2 : Nat) : Int)) ∧ Sy I A Q L h
section
variable {I : Im} {A Q L : Ls} {s : List Nat} {p0 : Int} {k0 : Int} {m0 : Int} {b3 b4 : Pos} {z : List DV}
abbrev bRq (b3 b4 : Pos) (z : List DV) (t : Tok) (L : Ls) : Ls := (b4, some (.row .ex z)) :: (b3, some (.row .ex [.i .i64 t.kind, .s t.text, .i .i64 t.num, .i .i64 t.pos])) :: L
theorem bEj {P : DV → Hp → Prop} (hs : s.length ≤ bL) (z1 : z.length = 4) (z2 : ∀ v ∈ z, v.one = true) : ∀ (u : List Nat) (i : Nat) (out : List Nat), s.drop i = u → out.length ≤ i → i ≤ s.length →
 (∀ (j : Nat) (h : Hp), Sy I A Q (bRq b3 b4 z ⟨k0, out ++ u.takeWhile cY, m0, p0⟩ L) h → Ev (fun n => kH (aJ n) n (n - j) (.s s) (.p b3 0) (.p b4 0) (.i .i64 ((i + (u.takeWhile cY).length : Nat) : Int)) h) P) →
 ∀ (j : Nat) (h : Hp), Sy I A Q (bRq b3 b4 z ⟨k0, out, m0, p0⟩ L) h → Ev (fun n => kH (aJ n) n (n - j) (.s s) (.p b3 0) (.p b4 0) (.i .i64 (i : Int)) h) P := by
 intro u
 induction u with
 | nil =>
  intro i out hu ho hi H j h S
  have := H j h (by simpa using S)
  simpa using this
 | cons c u ih =>
  intro i out hu ho hi H j h S
  have hlt : i < s.length := by
   have := congrArg List.length hu
   simp at this
   omega
  have hu' : s.drop (i + 1) = u := by rw [← List.drop_drop, hu]; rfl
  have hc : s[i] = c := by
   rw [List.drop_eq_getElem_cons hlt] at hu
   exact (List.cons.inj hu).1
  cases e : cY c with
  | false =>
   rw [List.takeWhile_cons, e] at H
   have := H j h (by simpa using S)
   simpa using this
  | true =>
   rw [List.takeWhile_cons, e] at H
   simp only [if_true, List.length_cons] at H
   have hs' := hs
   simp only [bL] at hs'
   refine Ev.loop j (ll := fun n m => kH (aJ n) n m (.s s) (.p b3 0) (.p b4 0) (.i .i64 (i : Int)) h) (bb := fun n m => uI (aJ n) n (kH (aJ n) n m) (.s s) (.p b3 0) (.p b4 0) (.i .i64 (i : Int)) h) (fun _ _ => rfl) ?_
   unfold uI
   refine Ev.lenS ?_
   refine Ev.ilt (fun e1 => ?_) (fun e1 => by omega)
   refine yt ?_
   refine Ev.op (gZ (c := s[i]) (by simp [hlt]) _) ?_
   refine Ev.ine (fun e2 => ?_) (fun e2 => ?_)
   ·refine yt ?_; refine wf ?_; refine wl ?_
    refine Ev.iadd ?_
    rw [dO 1 (by omega)]
    refine Ev.op (vL (by omega) (by omega) _) ?_
    have ec : (s.take (i + 1)).drop i = [c] := by
     rw [List.drop_take, hu, Nat.add_sub_cancel_left]; rfl
    rw [ec]
    refine Ev.sadd (by simp; omega) ?_
    refine wf ?_; refine wu fun _ _ => ?_
    refine Ev.iadd ?_
    rw [dO 1 (by omega)]
    refine ih (i + 1) (out ++ [c]) hu' (by simp; omega) (by omega) ?_ (j + 1) _ (by assumption)
    intro j' h' S'
    rw [show i + 1 + (u.takeWhile cY).length = i + ((u.takeWhile cY).length + 1) by omega]
    exact H j' h' (by simpa using S')
   ·rw [hc] at e2
    simp [cY] at e
    simp at e2
    omega
theorem aRy (hs : s.length ≤ bL) (z1 : z.length = 4) (z2 : ∀ v ∈ z, v.one = true) : ∀ (f j i : Nat) (h : Hp) (out : List Nat) (res : List Nat × Int × Nat), Sy I A Q (bRq b3 b4 z ⟨k0, out, m0, p0⟩ L) h → i ≤ s.length → out.length ≤ i → pH f out (s.drop i) = some res →
 Ev (fun n => kH (aJ n) n (n - j) (.s s) (.p b3 0) (.p b4 0) (.i .i64 (i : Int)) h)
  (fun v h' => ∃ t en, v = .t [.a (tc t), .i .i64 en, .i .i64 res.2.1] ∧ (res.2.1 = 0 → t = ⟨k0, res.1, m0, p0⟩ ∧ en = ((i + res.2.2 : Nat) : Int)) ∧ Sy I A Q L h') := by
 intro f
 induction f with
 | zero => intro j i h out res S hi ho hm; cases hm
 | succ f ih =>
  intro j i h out res S hi ho hm
  unfold pH at hm
  have hlen := nL cY (s.drop i)
  have hd : (s.drop i).length = s.length - i := by simp
  have hs' := hs
  simp only [bL] at hs'
  refine bEj hs z1 z2 (s.drop i) i out rfl ho hi ?_ j h S
  intro j' h' S'
  have hnth : (s.drop i)[((s.drop i).takeWhile cY).length]? = s[i + ((s.drop i).takeWhile cY).length]? := by rw [List.getElem?_drop]
  have hstop : ∀ u : List Nat, (u.takeWhile cY).length < u.length → u[(u.takeWhile cY).length]? = some 39 := by
   intro u
   induction u with
   | nil => intro h; simp at h
   | cons c u ihu =>
    intro h
    cases e : cY c with
    | false =>
     simp [cY] at e
     subst e
     simp [cY]
    | true =>
     rw [List.takeWhile_cons, e] at h ⊢
     simp only [if_true, List.length_cons] at h ⊢
     have := ihu (by omega)
     simpa using this
  generalize hw : (s.drop i).takeWhile cY = w at hm S' hlen hnth
  have hwst : w.length < (s.drop i).length → s[i + w.length]? = some 39 := fun hl => by
   rw [← hnth, ← hw]; exact hstop _ (by rw [hw]; exact hl)
  refine Ev.loop j' (ll := fun n m => kH (aJ n) n m (.s s) (.p b3 0) (.p b4 0) (.i .i64 ((i + w.length : Nat) : Int)) h') (bb := fun n m => uI (aJ n) n (kH (aJ n) n m) (.s s) (.p b3 0) (.p b4 0) (.i .i64 ((i + w.length : Nat) : Int)) h') (fun _ _ => rfl) ?_
  unfold uI iL
  refine Ev.lenS ?_
  refine Ev.ilt (fun e1 => ?_) (fun e1 => ?_)
  ·have e1' : i + w.length < s.length := by omega
   have hq := hwst (by omega)
   rw [if_neg (by omega)] at hm
   refine yt ?_
   refine Ev.op (gZ hq _) ?_
   refine Ev.ine (fun e2 => absurd rfl e2) (fun e2 => ?_)
   refine yj ?_
   refine Ev.iadd ?_
   rw [dO 1 (by omega)]
   refine Ev.lenS ?_
   have nxe : nx (s.drop i) (w.length + 1) = s.getD (i + w.length + 1) 0 := by simp [nx, List.getD, List.getElem?_drop, Nat.add_assoc]
   have fin : ¬ nx (s.drop i) (w.length + 1) = 39 → Ev (fun n => bnd (aE 4 (.p b3 0) h') fun v34 h34 => bnd (aF .add (.i .i64 ((i + w.length : Nat) : Int)) (.i .i64 (Int.ofNat 1)) h34) fun v35 h35 => bnd (aC 4 (.p b4 0) v34 h35) fun _ h36 => bnd (aE 4 (.p b4 0) h36) fun v37 _ => some (.t [v37, v35, .i .i64 (Int.ofNat 0)], h36))
    (fun v h' => ∃ t en, v = .t [.a (tc t), .i .i64 en, .i .i64 res.2.1] ∧ (res.2.1 = 0 → t = ⟨k0, res.1, m0, p0⟩ ∧ en = ((i + res.2.2 : Nat) : Int)) ∧ Sy I A Q L h') := fun e => by
    rw [if_neg e] at hm
    cases hm
    refine ws ?_
    refine Ev.iadd ?_
    rw [dO 1 (by omega)]
    refine wt fun _ _ => ?_; refine ws ?_
    refine Ev.ret ⟨⟨k0, out ++ w, m0, p0⟩, _, rfl, fun _ => ⟨rfl, ?_⟩, dp⟩
    rw [Nat.add_assoc]
   refine Ev.ilt (fun e3 => ?_) (fun e3 => ?_)
   ·have e3' : i + w.length + 1 < s.length := by omega
    refine zt ?_; refine wm ?_; refine zt ?_; refine wm ?_; refine zt ?_
    refine Ev.iadd ?_
    rw [dO 1 (by omega)]
    refine zt ?_
    refine Ev.op (gZ (c := s[i + w.length + 1]) (by simp [e3']) _) ?_
    refine zt ?_
    have nxe' : nx (s.drop i) (w.length + 1) = s[i + w.length + 1] := by rw [nxe]; simp [List.getD, e3']
    refine Ev.ieq (fun e4 => ?_) (fun e4 => ?_)
    ·have e4' : nx (s.drop i) (w.length + 1) = 39 := by rw [nxe']; simp at e4; omega
     rw [if_pos e4'] at hm
     obtain ⟨res', hr, hm⟩ := aT hm
     simp only [Option.some.injEq] at hm
     subst hm
     refine ap ?_; refine yt ?_; refine wf ?_; refine wl ?_
     refine Ev.sadd (by simp; omega) ?_
     refine wf ?_; refine wu fun _ _ => ?_
     refine Ev.iadd ?_
     rw [dO 2 (by omega)]
     refine (ih (j' + 1) (i + w.length + 2) _ (out ++ w ++ [39]) res' (by assumption) (by omega) (by simp; omega) ?_).mono ?_
     ·rw [← hr, List.drop_drop]
      congr 2
     ·rintro v h'' ⟨t, en, a1, a2, a3⟩
      refine ⟨t, en, a1, fun he => ?_, a3⟩
      obtain ⟨b1, b2⟩ := a2 he
      refine ⟨b1, ?_⟩
      rw [b2]
      show ((i + w.length + 2 + res'.2.2 : Nat) : Int) = ((i + (res'.2.2 + (w.length + 2)) : Nat) : Int)
      congr 1
      omega
    ·have F := fin (by rw [nxe']; simp at e4; omega)
     exact F
   ·have F := fin (by rw [nxe]; simp [List.getD, List.getElem?_eq_none (show s.length ≤ i + w.length + 1 by omega)])
    exact F
  ·have e1' : w.length = (s.drop i).length := by omega
   rw [if_pos e1'] at hm
   cases hm
   refine yj ?_; refine ws ?_; refine wt fun _ _ => ?_; refine ws ?_
   exact Ev.ret ⟨⟨k0, out ++ w, m0, p0⟩, _, rfl, fun he => (by cases he), dp⟩
theorem bIg {h : Hp} (S : Sy I A Q L h) (hs : s.length ≤ bL) {i : Nat} (hi : i < s.length) (f : Nat) (res : List Nat × Int × Nat) (hm : pH f [] (s.drop (i + 1)) = some res) :
 Ev (fun n => aJ n 98 [.s s, .a (tc ⟨k0, [], m0, (i : Int)⟩)] h) (fun v h' => ∃ t en, v = .t [.a (tc t), .i .i64 en, .i .i64 res.2.1] ∧ (res.2.1 = 0 → t = ⟨k0, res.1, m0, (i : Int)⟩ ∧ en = ((i + 1 + res.2.2 : Nat) : Int)) ∧ Sy I A Q L h') := by
 refine Ev.enter (fun n => cDp n _ _ h) ?_
 unfold s98 bCy aUm bRo
 refine wb fun _ _ _ => ?_; refine wa fun _ _ _ => ?_; refine wf ?_; refine wl ?_
 refine Ev.iadd ?_
 simp only [bL] at hs
 rw [dO 1 (by omega)]
 rename_i b1 h1 S1 b2 h2 S2
 exact aRy (b3 := b1) (b4 := b2) (k0 := k0) (m0 := m0) (p0 := (i : Int)) hs rfl (by first | assumption | exact bS _ | (repeat (first | exact aW | refine aS (by first | rfl | assumption | exact Fz.one (by assumption)) ?_))) f 0 (i + 1) _ [] res S2 (by omega) (by simp) hm
end
end Go.Dd

namespace Go.Dd
open Go.Proofs
theorem kC {u : List Nat} (h : (bE u).2.1 = 0) : (bE u).1 = u.take (bE u).2.2 := by
 unfold bE at h ⊢
 split at h
 ·cases h
 ·rename_i hn
  rw [if_neg hn]
  exact (sE eZ u).symm
theorem lM (u : List Nat) : (bE u).2.2 = (u.takeWhile eZ).length := by
 unfold bE; split <;> rfl
theorem oR (u : List Nat) : (bE u).2.1 = if 24 < (u.takeWhile eZ).length then 12 else 0 := by
 unfold bE; split <;> rfl
theorem aQm {u : List Nat} (h : dD u = true) : ∃ v, u = 58 :: v := by
 unfold dD at h
 cases u with
 | nil => simp [nx] at h
 | cons c v =>
  simp [nx] at h
  exact ⟨v, by rw [h.1]⟩
theorem rQ {u : List Nat} {n : Nat} (h : dD (u.drop n) = true) : u.take (n + 1) = u.take n ++ [58] := by
 obtain ⟨v, e⟩ := aQm h
 have : u[n]? = some 58 := by
  have : (u.drop n)[0]? = some 58 := by rw [e]; rfl
  simpa using this
 rw [List.take_add_one, this]
 rfl
theorem bGg : ∀ (f : Nat) (out u : List Nat) (res : List Nat × Int × Nat), aBk f out u = some res → res.2.2 ≤ u.length ∧ (res.2.1 = 0 → res.1 = out ++ u.take res.2.2) := by
 intro f
 induction f with
 | zero => intro out u res h; cases h
 | succ f ih =>
  intro out u res h
  unfold aBk at h
  have hn := fG u
  split at h
  ·split at h
   ·rename_i h1 h2
    have hc := iV h2
    simp at hc
    split at h
    ·rename_i h3
     obtain ⟨r, hr, h⟩ := aT h
     cases h
     obtain ⟨a1, a2⟩ := ih _ _ _ hr
     simp at a1
     refine ⟨by show r.2.2 + ((bE u).2.2 + 1) ≤ _; omega, fun he => ?_⟩
     show r.1 = out ++ u.take (r.2.2 + ((bE u).2.2 + 1))
     rw [a2 he, kC h3, Nat.add_comm r.2.2, List.take_add, rQ h2]
     simp
    ·cases h
     refine ⟨by show (bE u).2.2 + 1 ≤ _; omega, fun he => ?_⟩
     rename_i h3
     exact absurd he h3
   ·cases h
    exact ⟨by simp, fun _ => by simp⟩
  ·cases h
   exact ⟨by simp, fun _ => by simp⟩
theorem sH {f : Nat} {u : List Nat} {res : List Nat × Int × Nat} (h : jL f u = some res) : res.2.2 ≤ u.length ∧ (res.2.1 = 0 → res.1 = u.take res.2.2) := by
 unfold jL at h
 have hn := fG u
 split at h
 ·split at h
  ·split at h
   ·rename_i h3
    split at h
    ·rename_i h4
     obtain ⟨r, hr, h⟩ := aT h
     cases h
     have hc := iV h4
     simp at hc
     obtain ⟨a1, a2⟩ := bGg _ _ _ _ hr
     simp at a1
     refine ⟨by show r.2.2 + ((bE u).2.2 + 1) ≤ _; omega, fun he => ?_⟩
     show r.1 = u.take (r.2.2 + ((bE u).2.2 + 1))
     rw [a2 he, kC h3, Nat.add_comm r.2.2, List.take_add, rQ h4]
    ·cases h
     exact ⟨hn, fun _ => kC h3⟩
   ·cases h
    rename_i h3
    exact ⟨hn, fun he => absurd he h3⟩
  ·cases h
   exact ⟨by simp, fun he => (by cases he)⟩
 ·cases h
  exact ⟨nE _ _ _, fun _ => rfl⟩
theorem bFa (u : List Nat) : tI u = 1 ↔ aY (nx u 0) = true := by
 cases u with
 | nil => simp [tI, nx, aY]
 | cons c u =>
  have := aNt c
  simp only [tI, nx, List.getD_cons_zero]
  rw [← this]
  omega
theorem bDk (c : Nat) : fN c = 3 ↔ cW signs c = true := by
 unfold fN
 constructor
 ·intro h
  repeat' split at h
  all_goals first | assumption | omega
 ·intro h
  have h2 : c = 43 ∨ c = 45 ∨ c = 42 ∨ c = 47 ∨ c = 60 ∨ c = 62 ∨ c = 61 ∨ c = 126 ∨ c = 44 ∨ c = 64 ∨ c = 38 ∨ c = 37 := by simpa [cW, signs] using h
  rcases h2 with rfl | rfl | rfl | rfl | rfl | rfl | rfl | rfl | rfl | rfl | rfl | rfl <;> rfl
theorem cNu (c : Nat) : fN c = 4 ↔ cW marks c = true := by
 unfold fN
 constructor
 ·intro h
  repeat' split at h
  all_goals first | assumption | omega
 ·intro h
  have h2 : c = 94 ∨ c = 46 ∨ c = 59 ∨ c = 40 ∨ c = 41 ∨ c = 91 ∨ c = 93 ∨ c = 124 := by simpa [cW, marks] using h
  rcases h2 with rfl | rfl | rfl | rfl | rfl | rfl | rfl | rfl <;> rfl
theorem bZv (u : List Nat) : tI u = 3 ↔ ∃ c v, u = c :: v ∧ cW signs c = true := by
 cases u with
 | nil => simp [tI]
 | cons c u =>
  have := bDk c
  constructor
  ·intro h
   exact ⟨c, u, rfl, this.1 (by simp only [tI] at h; omega)⟩
  ·rintro ⟨c', v, e, h⟩
   cases e
   simp only [tI]
   rw [this.2 h]; rfl
theorem aDc (u : List Nat) : (tI u = 3 → dC (cW signs) 2 u = if tI (u.drop 1) = 3 then 2 else 1) ∧ (¬ tI u = 3 → dC (cW signs) 2 u = 0) := by
 constructor
 ·intro h
  obtain ⟨c, v, rfl, hc⟩ := (bZv u).1 h
  simp only [dC, hc, if_true, List.drop_succ_cons, List.drop_zero]
  cases v with
  | nil => simp [dC, tI]
  | cons d v =>
   cases hd : cW signs d with
   | true =>
    rw [if_pos ((bZv _).2 ⟨d, v, rfl, hd⟩)]
    simp [dC, hd]
   | false =>
    rw [if_neg (fun h => by obtain ⟨c', v', e, h'⟩ := (bZv _).1 h; cases e; rw [h'] at hd; cases hd)]
    simp [dC, hd]
 ·intro h
  cases u with
  | nil => rfl
  | cons c v =>
   have hc : cW signs c = false := by
    cases e : cW signs c with
    | false => rfl
    | true => exact absurd ((bZv _).2 ⟨c, v, rfl, e⟩) h
   simp [dC, hc]
section
variable {I : Im} {A Q L : Ls} {s : List Nat} {b3 b4 : Pos} {z : List DV}
theorem aLp {t0 : List Nat} {h : Hp} {p0 : Int} (S : Sy I A Q (bRq b3 b4 z ⟨6, t0, 0, p0⟩ L) h) (z1 : z.length = 4) (z2 : ∀ v ∈ z, v.one = true) (a e : Nat) (h1 : a ≤ e) (h2 : e ≤ s.length) :
 Ev (fun n => fO (aJ n) n (.s s) (.p b3 0) (.p b4 0) (.i .i64 (a : Int)) (.i .i64 (e : Int)) h) (fun v h' => v = .t [.a (tc ⟨6, (s.take e).drop a, 0, p0⟩), .i .i64 (e : Int), .i .i64 0] ∧ Sy I A Q L h') := by
 unfold fO
 refine Ev.op (vL h1 h2 h) ?_
 refine wf ?_; refine wu fun _ _ => ?_; refine ws ?_; refine wt fun _ _ => ?_; refine ws ?_
 exact Ev.ret ⟨rfl, dp⟩
theorem bGe (hs : s.length ≤ bL) (z1 : z.length = 4) (z2 : ∀ v ∈ z, v.one = true) {p0 : Int} (a : Nat) : ∀ (f j e : Nat) (h : Hp) (out : List Nat) (res : List Nat × Int × Nat), Sy I A Q (bRq b3 b4 z ⟨6, [], 0, p0⟩ L) h → a ≤ e → e ≤ s.length → dD (s.drop e) = true →
 aBk f out (s.drop (e + 1)) = some res →
 Ev (fun n => jU (aJ n) n (n - j) (.s s) (.p b3 0) (.p b4 0) (.i .i64 (a : Int)) (.i .i64 (e : Int)) h)
  (fun v h' => ∃ t en, v = .t [.a (tc t), .i .i64 en, .i .i64 res.2.1] ∧ (res.2.1 = 0 → t = ⟨6, (s.take (e + 1 + res.2.2)).drop a, 0, p0⟩ ∧ en = ((e + 1 + res.2.2 : Nat) : Int)) ∧ Sy I A Q L h') := by
 intro f
 induction f with
 | zero => intro j e h out res S ha he hc hm; cases hm
 | succ f ih =>
  intro j e h out res S ha he hc hm
  unfold aBk at hm
  have hs' := hs
  simp only [bL] at hs'
  have hcl := iV hc
  have he1 : e + 1 ≤ s.length := by simp at hcl; omega
  refine Ev.loop j (ll := fun n m => jU (aJ n) n m (.s s) (.p b3 0) (.p b4 0) (.i .i64 (a : Int)) (.i .i64 (e : Int)) h) (bb := fun n m => oX (aJ n) n (jU (aJ n) n m) (.s s) (.p b3 0) (.p b4 0) (.i .i64 (a : Int)) (.i .i64 (e : Int)) h) (fun _ _ => rfl) ?_
  unfold oX
  refine Ev.call (wF s hs e he h) ?_
  rintro _ _ ⟨rfl, hh⟩
  rw [hh]
  clear hh
  rw [hc]
  refine yt ?_
  refine Ev.iadd ?_
  rw [dO 1 (by omega)]
  refine Ev.call (lO s (e + 1) _) ?_
  rintro _ _ ⟨rfl, hh⟩
  rw [hh]
  clear hh
  have fin : some (out, (0 : Int), 0) = some res → Ev (fun n => fO (aJ n) n (.s s) (.p b3 0) (.p b4 0) (.i .i64 (a : Int)) (.i .i64 ((e + 1 : Nat) : Int)) h)
   (fun v h' => ∃ t en, v = .t [.a (tc t), .i .i64 en, .i .i64 res.2.1] ∧ (res.2.1 = 0 → t = ⟨6, (s.take (e + 1 + res.2.2)).drop a, 0, p0⟩ ∧ en = ((e + 1 + res.2.2 : Nat) : Int)) ∧ Sy I A Q L h') := fun er => by
   cases er
   refine (aLp S z1 z2 a (e + 1) (by omega) he1).mono ?_
   rintro v h' ⟨rfl, S'⟩
   exact ⟨_, _, rfl, fun _ => ⟨rfl, rfl⟩, S'⟩
  refine Ev.ine (fun e1 => ?_) (fun e1 => ?_)
  ·have e1' : aY (nx (s.drop (e + 1)) 0) = false := by
    cases e2 : aY (nx (s.drop (e + 1)) 0) with
    | false => rfl
    | true => exact absurd ((bFa _).2 e2) e1
   rw [e1'] at hm
   refine yt ?_
   exact fin (by simpa using hm)
  ·have e1' : aY (nx (s.drop (e + 1)) 0) = true := (bFa _).1 e1
   rw [if_pos e1'] at hm
   refine yj ?_
   refine Ev.call (vS s hs (e + 1) he1 _) ?_
   rintro _ _ ⟨rfl, hh⟩
   rw [hh]
   clear hh
   have hnl := fG (s.drop (e + 1))
   have hne := oR (s.drop (e + 1))
   have hnl2 := lM (s.drop (e + 1))
   rw [← hnl2] at hne ⊢
   have hdl : (s.drop (e + 1)).length = s.length - (e + 1) := by simp
   generalize hN : bE (s.drop (e + 1)) = N at hm hnl hne ⊢
   refine Ev.call (wF s hs (e + 1 + N.2.2) (by omega) _) ?_
   rintro _ _ ⟨rfl, hh⟩
   rw [hh]
   clear hh
   have hdd : s.drop (e + 1 + N.2.2) = (s.drop (e + 1)).drop N.2.2 := by rw [List.drop_drop]
   cases e2 : dD (s.drop (e + 1 + N.2.2)) with
   | false =>
    rw [← hdd, e2] at hm
    refine ao ?_; refine yt ?_
    exact fin (by simpa using hm)
   | true =>
    rw [← hdd, e2, if_pos rfl] at hm
    refine an ?_; refine yj ?_
    refine Ev.isub ?_
    rw [show ((e + 1 + N.2.2 : Nat) : Int) - ((e + 1 : Nat) : Int) = ((N.2.2 : Nat) : Int) by omega, nU _ (by omega)]
    refine Ev.igt (fun e3 => ?_) (fun e3 => ?_)
    ·have e3' : 24 < N.2.2 := by simp at e3; omega
     rw [if_pos e3'] at hne
     rw [if_neg (by rw [hne]; decide)] at hm
     cases hm
     rw [hne]
     refine yt ?_; refine ws ?_; refine wt fun _ _ => ?_; refine ws ?_
     exact Ev.ret ⟨⟨6, [], 0, p0⟩, _, rfl, fun he => (by cases he), dp⟩
    ·have e3' : ¬ 24 < N.2.2 := by simp at e3; omega
     rw [if_neg e3'] at hne
     rw [if_pos hne] at hm
     obtain ⟨res', hr, hm⟩ := aT hm
     cases hm
     refine yj ?_
     refine (ih (j + 1) (e + 1 + N.2.2) h _ res' S (by omega) (by omega) e2 (by rw [← hr, List.drop_drop, Nat.add_assoc (e + 1)])).mono ?_
     rintro v h'' ⟨t, en, a1, a2, a3⟩
     refine ⟨t, en, a1, fun he => ?_, a3⟩
     obtain ⟨b1, b2⟩ := a2 he
     have ee : e + 1 + N.2.2 + 1 + res'.2.2 = e + 1 + (res'.2.2 + (N.2.2 + 1)) := by omega
     rw [ee] at b1 b2
     exact ⟨b1, b2⟩
theorem cBq {h : Hp} (S : Sy I A Q L h) (hs : s.length ≤ bL) {i : Nat} (hi : i < s.length) (f : Nat) (res : Int × List Nat × Int × Int × Nat)
 (hm : (if nx (s.drop i) 1 = 40 then some (7, [], 0, 0, 2) else (jL f ((s.drop i).drop 1)).bind fun r => some (6, r.1, 0, r.2.1, r.2.2 + 1)) = some res) :
 Ev (fun n => aJ n 99 [.s s, .a (tc ⟨0, [], 0, (i : Int)⟩)] h) (aDb I A Q L res i) := by
 refine Ev.enter (fun n => bYm n _ _ h) ?_
 unfold s99 aUt
 have hs' := hs
 simp only [bL] at hs'
 have hdd : (s.drop i).drop 1 = s.drop (i + 1) := by rw [List.drop_drop]
 have hnx : nx (s.drop i) 1 = nx (s.drop (i + 1)) 0 := by simp [nx, List.getD, List.getElem?_drop]
 rw [hdd, hnx] at hm
 refine wb fun _ _ _ => ?_; refine wa fun _ _ _ => ?_; refine wf ?_; refine wl ?_
 rename_i b1 h1 S1 b2 h2 S2
 refine Ev.iadd ?_
 rw [dO 1 (by omega)]
 unfold aTr
 refine Ev.lenS ?_
 have go : ¬ nx (s.drop (i + 1)) 0 = 40 → Ev (fun n => aMq (aJ n) n (.s s) (.p b1 0) (.p b2 0) (.i .i64 ((i + 1 : Nat) : Int)) h2) (aDb I A Q L res i) := fun e0 => by
  rw [if_neg e0] at hm
  obtain ⟨r, hr, hm⟩ := aT hm
  cases hm
  obtain ⟨k1, k2⟩ := sH hr
  unfold aMq
  refine wf ?_; refine wu fun _ _ => ?_
  rename_i h3 S3
  unfold bDr
  refine Ev.call (lO s (i + 1) _) ?_
  rintro _ _ ⟨rfl, hh⟩
  rw [hh]
  clear hh
  unfold jL at hr
  obtain ⟨g1, g2⟩ := aDc (s.drop (i + 1))
  have hdl : (s.drop (i + 1)).length = s.length - (i + 1) := by simp
  unfold aEc
  refine Ev.ieq (fun e1 => ?_) (fun e1 => ?_)
  ·have g3 := g1 e1
   rw [if_neg (by rw [g3]; split <;> decide)] at hr
   cases hr
   refine yt ?_
   unfold bNi
   refine Ev.iadd ?_
   rw [dO 1 (by omega)]
   unfold bQg
   refine Ev.call (lO s (i + 1 + 1) _) ?_
   rintro _ _ ⟨rfl, hh⟩
   rw [hh]
   clear hh
   have hd2 : s.drop (i + 1 + 1) = (s.drop (i + 1)).drop 1 := by rw [List.drop_drop]
   have hl0 := nE (cW signs) 2 (s.drop (i + 1))
   have fin : ∀ e, e = i + 1 + dC (cW signs) 2 (s.drop (i + 1)) → Ev (fun n => aIq (aJ n) n (.s s) (.p b1 0) (.p b2 0) (.i .i64 ((i + 1 : Nat) : Int)) (.i .i64 (e : Int)) h3) (aDb I A Q L (6, (s.drop (i + 1)).take (dC (cW signs) 2 (s.drop (i + 1))), 0, 0, dC (cW signs) 2 (s.drop (i + 1)) + 1) i) := by
    intro e he
    unfold aIq
    refine Ev.op (vL (by omega) (by omega) _) ?_
    refine wf ?_; refine wu fun _ _ => ?_; refine ws ?_; refine wt fun _ _ => ?_; refine ws ?_
    refine Ev.ret ⟨⟨6, (s.take e).drop (i + 1), 0, (i : Int)⟩, (e : Int), rfl, fun _ => ⟨?_, ?_⟩, dp⟩
    ·show (⟨6, (s.take e).drop (i + 1), 0, (i : Int)⟩ : Tok) = ⟨6, (s.drop (i + 1)).take _, 0, (i : Int)⟩
     rw [List.drop_take, he, Nat.add_sub_cancel_left]
    ·show (e : Int) = ((i + (_ + 1) : Nat) : Int)
     rw [he]
     omega
   refine Ev.ieq (fun e2 => ?_) (fun e2 => ?_)
   ·rw [if_pos (show tI ((s.drop (i + 1)).drop 1) = 3 by rw [← hd2]; exact e2)] at g3
    refine yt ?_
    refine Ev.iadd ?_
    rw [dO 1 (by omega)]
    exact fin (i + 1 + 1 + 1) (by omega)
   ·rw [if_neg (show ¬ tI ((s.drop (i + 1)).drop 1) = 3 by rw [← hd2]; exact e2)] at g3
    refine yj ?_
    exact fin (i + 1 + 1) (by omega)
  ·have g3 := g2 e1
   rw [if_pos g3] at hr
   refine yj ?_
   unfold aBv
   refine Ev.call (lO s (i + 1) _) ?_
   rintro _ _ ⟨rfl, hh⟩
   rw [hh]
   clear hh
   refine Ev.ine (fun e2 => ?_) (fun e2 => ?_)
   ·have e2' : aY (nx (s.drop (i + 1)) 0) = false := by
     cases e3 : aY (nx (s.drop (i + 1)) 0) with
     | false => rfl
     | true => exact absurd ((bFa _).2 e3) e2
    rw [e2'] at hr
    simp only [Bool.false_eq_true, if_false, Option.some.injEq] at hr
    subst hr
    refine yt ?_; refine ws ?_; refine wt fun _ _ => ?_; refine ws ?_
    exact Ev.ret ⟨⟨6, [], 0, (i : Int)⟩, _, rfl, fun he => (by cases he), dp⟩
   ·have e2' : aY (nx (s.drop (i + 1)) 0) = true := (bFa _).1 e2
    rw [if_pos e2'] at hr
    refine yj ?_
    unfold bBz
    refine Ev.call (vS s hs (i + 1) (by omega) _) ?_
    rintro _ _ ⟨rfl, hh⟩
    rw [hh]
    clear hh
    have hnl := fG (s.drop (i + 1))
    have hne := oR (s.drop (i + 1))
    have hnl2 := lM (s.drop (i + 1))
    rw [← hnl2] at hne ⊢
    generalize hN : bE (s.drop (i + 1)) = N at hr hnl hne ⊢
    unfold bBu
    refine Ev.isub ?_
    rw [show ((i + 1 + N.2.2 : Nat) : Int) - ((i + 1 : Nat) : Int) = ((N.2.2 : Nat) : Int) by omega, nU _ (by omega)]
    refine Ev.igt (fun e3 => ?_) (fun e3 => ?_)
    ·have e3' : 24 < N.2.2 := by simp at e3; omega
     rw [if_pos e3'] at hne
     rw [if_neg (by rw [hne]; decide)] at hr
     cases hr
     refine yt ?_; refine ws ?_; refine wt fun _ _ => ?_; refine ws ?_
     refine Ev.ret ⟨⟨6, [], 0, (i : Int)⟩, Int.ofNat 0, ?_, fun he => ?_, dp⟩
     ·show _ = DV.t [_, _, DV.i .i64 N.2.1]
      rw [hne]; rfl
     ·have he : N.2.1 = 0 := he
      rw [hne] at he
      cases he
    ·have e3' : ¬ 24 < N.2.2 := by simp at e3; omega
     rw [if_neg e3'] at hne
     rw [if_pos hne] at hr
     refine yj ?_
     unfold bAk aSg
     have hdc : s.drop (i + 1 + N.2.2) = (s.drop (i + 1)).drop N.2.2 := by rw [List.drop_drop]
     rw [← hdc] at hr
     cases e4 : dD (s.drop (i + 1 + N.2.2)) with
     | true =>
      rw [e4, if_pos rfl] at hr
      obtain ⟨r', hr', hr⟩ := aT hr
      cases hr
      refine (bGe (p0 := (i : Int)) hs rfl (by first | assumption | exact bS _ | (repeat (first | exact aW | refine aS (by first | rfl | assumption | exact Fz.one (by assumption)) ?_))) (i + 1) f 0 (i + 1 + N.2.2) _ _ r' S3 (by omega) (by omega) e4 (by rw [← hr', List.drop_drop, Nat.add_assoc (i + 1)])).mono ?_
      rintro v h' ⟨t, en, a1, a2, a3⟩
      refine ⟨t, en, a1, fun he => ?_, a3⟩
      obtain ⟨c1, c2⟩ := a2 he
      refine ⟨?_, ?_⟩
      ·rw [c1]
       show (⟨6, _, 0, (i : Int)⟩ : Tok) = ⟨6, r'.1, 0, (i : Int)⟩
       have := k2 he
       have this : r'.1 = _ := this
       rw [this, List.drop_take]
       congr 2
       show i + 1 + N.2.2 + 1 + r'.2.2 - (i + 1) = r'.2.2 + (N.2.2 + 1)
       omega
      ·rw [c2]
       show ((i + 1 + N.2.2 + 1 + r'.2.2 : Nat) : Int) = ((i + (r'.2.2 + (N.2.2 + 1) + 1) : Nat) : Int)
       omega
     | false =>
      rw [e4] at hr
      simp only [Bool.false_eq_true, if_false, Option.some.injEq] at hr
      subst hr
      refine Ev.loop 0 (ll := fun n m => jU (aJ n) n m (.s s) (.p b1 0) (.p b2 0) (.i .i64 ((i + 1 : Nat) : Int)) (.i .i64 ((i + 1 + N.2.2 : Nat) : Int)) h3) (bb := fun n m => oX (aJ n) n (jU (aJ n) n m) (.s s) (.p b1 0) (.p b2 0) (.i .i64 ((i + 1 : Nat) : Int)) (.i .i64 ((i + 1 + N.2.2 : Nat) : Int)) h3) (fun _ _ => rfl) ?_
      unfold oX
      refine Ev.call (wF s hs _ (by omega) h3) ?_
      rintro _ _ ⟨rfl, hh⟩
      rw [hh]
      clear hh
      rw [e4]
      refine yj ?_
      refine (aLp (p0 := (i : Int)) S3 rfl (by first | assumption | exact bS _ | (repeat (first | exact aW | refine aS (by first | rfl | assumption | exact Fz.one (by assumption)) ?_))) (i + 1) (i + 1 + N.2.2) (by omega) (by omega)).mono ?_
      rintro v h' ⟨rfl, S'⟩
      refine ⟨_, _, rfl, fun _ => ⟨?_, ?_⟩, S'⟩
      ·show (⟨6, _, 0, (i : Int)⟩ : Tok) = ⟨6, N.1, 0, (i : Int)⟩
       have := k2 rfl
       have this : N.1 = _ := this
       rw [this, List.drop_take]
       congr 2
       show i + 1 + N.2.2 - (i + 1) = N.2.2
       omega
      ·show ((i + 1 + N.2.2 : Nat) : Int) = ((i + (N.2.2 + 1) : Nat) : Int)
       omega
 refine Ev.ilt (fun e1 => ?_) (fun e1 => ?_)
 ·have e1' : i + 1 < s.length := by omega
  have hn0 : nx (s.drop (i + 1)) 0 = s[i + 1] := by rw [List.drop_eq_getElem_cons e1']; rfl
  refine zt ?_; refine wm ?_; refine zt ?_; refine wm ?_; refine zt ?_
  refine Ev.op (gZ (c := s[i + 1]) (by simp [e1']) _) ?_
  refine zt ?_
  refine Ev.ieq (fun e2 => ?_) (fun e2 => ?_)
  ·have e2' : nx (s.drop (i + 1)) 0 = 40 := by rw [hn0]; simp at e2; omega
   rw [if_pos e2'] at hm
   cases hm
   refine ap ?_; refine yt ?_; refine wf ?_; refine wu fun _ _ => ?_; refine ws ?_
   refine Ev.iadd ?_
   rw [dO 1 (by omega)]
   refine wt fun _ _ => ?_; refine ws ?_
   refine Ev.ret ⟨⟨7, [], 0, (i : Int)⟩, _, rfl, fun _ => ⟨rfl, rfl⟩, dp⟩
  ·have G := go (by rw [hn0]; simp at e2; omega)
   exact G
 ·have G := go (by rw [List.drop_eq_nil_of_le (by omega)]; simp [nx])
  exact G
end
end Go.Dd

namespace Go.Dd
theorem cQx : ∀ (f : Nat) (out u : List Nat), u.length < f → ∃ res, pH f out u = some res ∧ res.2.2 ≤ u.length ∧ (res.2.1 = 0 → 1 ≤ res.2.2 ∧ res.1.length ≤ out.length + u.length)
 | 0, out, u, h => by omega
 | f + 1, out, u, h => by
  have hl := nL cY u
  unfold pH
  by_cases h1 : (u.takeWhile cY).length = u.length
  ·rw [if_pos h1]
   exact ⟨_, rfl, Nat.le_refl _, fun e => by cases e⟩
  ·rw [if_neg h1]
   by_cases h2 : nx u ((u.takeWhile cY).length + 1) = 39
   ·rw [if_pos h2]
    have h3 : (u.takeWhile cY).length + 1 < u.length := by
     apply Decidable.byContradiction
     intro hn
     rw [nx, List.getD, List.getElem?_eq_none (by omega)] at h2
     cases h2
    obtain ⟨res, a1, a2, a3⟩ := cQx f (out ++ u.takeWhile cY ++ [39]) (u.drop ((u.takeWhile cY).length + 2)) (by simp; omega)
    rw [a1]
    simp at a2
    refine ⟨_, rfl, by show res.2.2 + _ ≤ _; omega, fun e => ?_⟩
    obtain ⟨b1, b2⟩ := a3 e
    simp at b2
    refine ⟨by show 1 ≤ res.2.2 + _; omega, ?_⟩
    show res.1.length ≤ _
    omega
   ·rw [if_neg h2]
    refine ⟨_, rfl, by show _ + 1 ≤ _; omega, fun _ => ⟨by show 1 ≤ _ + 1; omega, ?_⟩⟩
    show (out ++ u.takeWhile cY).length ≤ _
    simp
    omega
theorem cPw : ∀ (f : Nat) (out u : List Nat), u.length < f → ∃ res, aBk f out u = some res
 | 0, out, u, h => by omega
 | f + 1, out, u, h => by
  unfold aBk
  split
  ·split
   ·rename_i h1 h2
    split
    ·have hc := iV h2
     simp at hc
     obtain ⟨res, a1⟩ := cPw f (out ++ ((bE u).1 ++ [58])) (u.drop ((bE u).2.2 + 1)) (by simp; omega)
     rw [a1]
     exact ⟨_, rfl⟩
    ·exact ⟨_, rfl⟩
   ·exact ⟨_, rfl⟩
  ·exact ⟨_, rfl⟩
theorem bNr {u : List Nat} (h : aY (nx u 0) = true) : 1 ≤ (bE u).2.2 := by
 rw [lM]
 cases u with
 | nil => simp [nx, aY] at h
 | cons c u =>
  have : eZ c = true := by
   have : aY c = true := h
   simp [eZ, this]
  simp [this]
theorem cNc {f : Nat} {u : List Nat} (h : u.length < f) : ∃ res, jL f u = some res := by
 unfold jL
 split
 ·split
  ·split
   ·split
    ·obtain ⟨res, a1⟩ := cPw f ((bE u).1 ++ [58]) (u.drop ((bE u).2.2 + 1)) (by simp; omega)
     rw [a1]
     exact ⟨_, rfl⟩
    ·exact ⟨_, rfl⟩
   ·exact ⟨_, rfl⟩
  ·exact ⟨_, rfl⟩
 ·exact ⟨_, rfl⟩
theorem aZy {l : List Nat} {m : Nat} (hm : 1 ≤ m) {u : List Nat} (hu : u ≠ []) (h : cW l (nx u 0) = true) : 1 ≤ dC (cW l) m u := by
 obtain ⟨m, rfl⟩ : ∃ k, m = k + 1 := ⟨m - 1, by omega⟩
 cases u with
 | nil => exact absurd rfl hu
 | cons c u =>
  have : cW l c = true := h
  simp [dC, this]
theorem bIz {f : Nat} {u : List Nat} (hu : u ≠ []) (h : u.length < f) : ∃ res, kK f u = some res ∧ (res.2.2.2.1 = 0 → 1 ≤ res.2.2.2.2 ∧ res.2.2.2.2 ≤ u.length ∧ res.1 ≠ 0 ∧ res.2.1.length ≤ u.length) := by
 have hn := fG u
 have hf := lJ u
 have hpos : 1 ≤ u.length := by cases u with
  | nil => exact absurd rfl hu
  | cons => simp
 unfold kK
 by_cases h1 : aY (nx u 0) = true
 ·have hp := bNr h1
  rw [if_pos h1]
  by_cases h2 : (bE u).2.1 = 0
  ·rw [if_pos h2]
   by_cases h3 : dD (u.drop (bE u).2.2) = true
   ·rw [if_pos h3]
    have hc := iV h3
    simp at hc
    refine ⟨_, rfl, fun _ => ⟨by show 1 ≤ _ + 1; omega, by show _ + 1 ≤ _; omega, by show (2 : Int) ≠ 0; decide, ?_⟩⟩
    show ((bE u).1 ++ [58]).length ≤ _
    simp; omega
   ·rw [if_neg h3]
    exact ⟨_, rfl, fun _ => ⟨hp, hn, by show (1 : Int) ≠ 0; decide, by show (bE u).1.length ≤ _; omega⟩⟩
  ·rw [if_neg h2]
   exact ⟨_, rfl, fun e => absurd e h2⟩
 ·rw [if_neg h1]
  by_cases h2 : bI (nx u 0) = true
  ·rw [if_pos h2]
   have hl := nL bI u
   refine ⟨_, rfl, fun _ => ⟨?_, hl, by show (4 : Int) ≠ 0; decide, by simp⟩⟩
   show 1 ≤ (u.takeWhile bI).length
   cases u with
   | nil => exact absurd rfl hu
   | cons c u =>
    have : bI c = true := h2
    simp [this]
  ·rw [if_neg h2]
   by_cases h3 : nx u 0 = 39
   ·rw [if_pos h3]
    obtain ⟨res, a1, a2, a3⟩ := cQx f [] (u.drop 1) (by simp; omega)
    rw [a1]
    simp at a2
    refine ⟨_, rfl, fun e => ?_⟩
    obtain ⟨b1, b2⟩ := a3 e
    simp at b2
    exact ⟨by show 1 ≤ res.2.2 + 1; omega, by show res.2.2 + 1 ≤ _; omega, by show (5 : Int) ≠ 0; decide, by show res.1.length ≤ _; omega⟩
   ·rw [if_neg h3]
    by_cases h4 : nx u 0 = 35
    ·rw [if_pos h4]
     by_cases h5 : nx u 1 = 40
     ·rw [if_pos h5]
      have : 1 < u.length := by
       apply Decidable.byContradiction
       intro hn
       rw [nx, List.getD, List.getElem?_eq_none (by omega)] at h5
       cases h5
      exact ⟨_, rfl, fun _ => ⟨by show 1 ≤ 2; omega, by show 2 ≤ _; omega, by show (7 : Int) ≠ 0; decide, by simp⟩⟩
     ·rw [if_neg h5]
      obtain ⟨res, a1⟩ := cNc (f := f) (u := u.drop 1) (by simp; omega)
      obtain ⟨b1, b2⟩ := sH a1
      rw [a1]
      simp at b1
      refine ⟨_, rfl, fun e => ⟨by show 1 ≤ res.2.2 + 1; omega, by show res.2.2 + 1 ≤ _; omega, by show (6 : Int) ≠ 0; decide, ?_⟩⟩
      show res.1.length ≤ _
      rw [b2 e]
      simp; omega
    ·rw [if_neg h4]
     by_cases h5 : nx u 0 = 58 ∧ nx u 1 = 61
     ·rw [if_pos h5]
      have : 1 < u.length := by
       apply Decidable.byContradiction
       intro hn
       have := h5.2
       rw [nx, List.getD, List.getElem?_eq_none (by omega)] at this
       cases this
      exact ⟨_, rfl, fun _ => ⟨by show 1 ≤ 2; omega, by show 2 ≤ _; omega, by show (9 : Int) ≠ 0; decide, by simp⟩⟩
     ·rw [if_neg h5]
      by_cases h6 : nx u 0 = 58 ∧ aY (nx u 1) = true
      ·rw [if_pos h6]
       have n1 := fG (u.drop 1)
       have n2 := lJ (u.drop 1)
       rw [List.length_drop] at n1
       exact ⟨_, rfl, fun _ => ⟨by show 1 ≤ _ + 1; omega, by show _ + 1 ≤ _; omega, by show (8 : Int) ≠ 0; decide, by show (bE (u.drop 1)).1.length ≤ _; omega⟩⟩
      ·rw [if_neg h6]
       by_cases h7 : cW signs (nx u 0) = true
       ·rw [if_pos h7]
        have r1 := aZy (m := 2) (by omega) hu h7
        have r2 := nE (cW signs) 2 u
        refine ⟨_, rfl, fun _ => ⟨r1, r2, by show (3 : Int) ≠ 0; decide, ?_⟩⟩
        show (u.take _).length ≤ _
        simp; omega
       ·rw [if_neg h7]
        by_cases h8 : cW marks (nx u 0) = true
        ·rw [if_pos h8]
         have r1 := aZy (m := 1) (by omega) hu h8
         have r2 := nE (cW marks) 1 u
         refine ⟨_, rfl, fun _ => ⟨r1, r2, by show (10 : Int) ≠ 0; decide, ?_⟩⟩
         show (u.take _).length ≤ _
         simp; omega
        ·rw [if_neg h8]
         exact ⟨_, rfl, fun e => (by cases e)⟩
theorem bIf {g : Nat} {s : List Nat} (hg : s.length < g) (hs : s.length ≤ 10000) : ∀ (f i : Nat) (out : List Tok), i ≤ s.length → s.length < f + i → ∃ res, lU g s f i out = some res ∧
 (res.2.2 = 0 → ∃ l e, res.1 = out ++ l ++ [e] ∧ e.kind = 0 ∧ e.text = [] ∧ (∀ t ∈ l, t.kind ≠ 0 ∧ t.text.length ≤ 10000) ∧ l.length + i ≤ s.length)
 | 0, i, out, hi, hf => by omega
 | f + 1, i, out, hi, hf => by
  unfold lU
  have hle := nL (cW bK) (s.drop i)
  have hdl : (s.drop i).length = s.length - i := by simp
  generalize hw : ((s.drop i).takeWhile (cW bK)).length = w at hle
  by_cases h1 : s.length ≤ i + w
  ·rw [if_pos h1]
   exact ⟨_, rfl, fun _ => ⟨[], _, by simp; rfl, rfl, rfl, by simp, by simp; omega⟩⟩
  ·rw [if_neg h1]
   by_cases h2 : nx s (i + w) = 34
   ·rw [if_pos h2]
    by_cases h3 : dI 34 (s.drop (i + w + 1)) 0 < 0
    ·rw [if_pos h3]
     exact ⟨_, rfl, fun e => (by cases e)⟩
    ·rw [if_neg h3]
     obtain ⟨k, k1, k2⟩ := oE 34 _ _ h3
     rw [k2]
     simp at k1
     simp only [Nat.zero_add, Int.toNat_natCast]
     obtain ⟨res, a1, a2⟩ := bIf hg hs f (i + w + k + 2) out (by omega) (by omega)
     refine ⟨res, a1, fun e => ?_⟩
     obtain ⟨l, e', b1, b2, b3, b4, b5⟩ := a2 e
     exact ⟨l, e', b1, b2, b3, b4, by omega⟩
   ·rw [if_neg h2]
    have hu : s.drop (i + w) ≠ [] := by
     intro h
     have := congrArg List.length h
     simp at this
     omega
    obtain ⟨rs, c1, c2⟩ := bIz (f := g) hu (by simp; omega)
    rw [c1]
    simp only [Option.bind_some]
    by_cases h4 : rs.2.2.2.1 = 0
    ·rw [if_pos h4]
     obtain ⟨d1, d2, d3, d4⟩ := c2 h4
     rw [if_neg (by omega)]
     simp at d2 d4
     obtain ⟨res, a1, a2⟩ := bIf hg hs f (i + w + rs.2.2.2.2) (out ++ [⟨rs.1, rs.2.1, rs.2.2.1, ((i + w : Nat) : Int)⟩]) (by omega) (by omega)
     refine ⟨res, a1, fun e => ?_⟩
     obtain ⟨l, e', b1, b2, b3, b4, b5⟩ := a2 e
     refine ⟨⟨rs.1, rs.2.1, rs.2.2.1, ((i + w : Nat) : Int)⟩ :: l, e', by rw [b1]; simp, b2, b3, ?_, by simp; omega⟩
     intro t ht
     rcases List.mem_cons.1 ht with rfl | ht
     ·exact ⟨d3, by show rs.2.1.length ≤ _; omega⟩
     ·exact b4 t ht
    ·rw [if_neg h4]
     exact ⟨_, rfl, fun e => absurd e h4⟩
theorem dLc {s : List Nat} (hs : s.length ≤ 2000) : ∃ res, pD 2001 2001 s = some res ∧ (res.2.2 = 0 → Good res.1 ∧ res.1.length ≤ 2001) := by
 unfold pD
 rw [if_neg (by omega)]
 obtain ⟨res, a1, a2⟩ := bIf (g := 2001) (s := s) (by omega) (by omega) 2001 0 [] (by omega) (by omega)
 refine ⟨res, a1, fun e => ?_⟩
 obtain ⟨l, e', b1, b2, b3, b4, b5⟩ := a2 e
 rw [b1]
 simp only [List.nil_append]
 refine ⟨⟨l, e', rfl, b2, fun t ht => (b4 t ht).1, fun t ht => ?_⟩, by simp; omega⟩
 rcases List.mem_append.1 ht with ht | ht
 ·exact (b4 t ht).2
 ·simp at ht
  subst ht
  rw [b3]; simp
end Go.Dd

namespace Go.Dd
open Go.Proofs
theorem dIc (u : List Nat) : tI u = 2 ↔ ∃ c v, u = c :: v ∧ bI c = true := by
 cases u with
 | nil => simp [tI]
 | cons c u =>
  have := aLw c
  constructor
  ·intro h
   exact ⟨c, u, rfl, this.1 (by simp only [tI] at h; omega)⟩
  ·rintro ⟨c', v, e, h⟩
   cases e
   simp only [tI]
   rw [this.2 h]; rfl
theorem aQl (n : Int) (c : Nat) (w : List Nat) (h0 : 0 ≤ n) (hn : n ≤ 1152921504606846976) (hc : bI c = true) :
 lP n (c :: w) = if 1152921504606846976 < 10 * n + ((c : Int) - 48) then (0, 2) else lP (10 * n + ((c : Int) - 48)) w := by
 simp [bI] at hc
 have e0 : lP n (c :: w) = if 115292150460684697 < n then (0, 2) else if 1152921504606846976 < n * 10 + ((c : Int) - 48) then (0, 2) else lP (n * 10 + ((c : Int) - 48)) w := rfl
 rw [e0]
 have e : n * 10 + ((c : Int) - 48) = 10 * n + ((c : Int) - 48) := by omega
 rw [e]
 by_cases h1 : (115292150460684697 : Int) < n
 ·rw [if_pos h1, if_pos (by omega)]
 ·rw [if_neg h1]
section
variable {I : Im} {A Q L : Ls} {s : List Nat} {b4 b7 : Pos} {z : List DV}
theorem bFy (hs : s.length ≤ bL) (z1 : z.length = 4) (z2 : ∀ v ∈ z, v.one = true) {p0 : Int} : ∀ (u : List Nat) (j i : Nat) (h : Hp) (x : Int), s.drop i = u → i ≤ s.length → 0 ≤ x → x ≤ 1152921504606846976 →
 Sy I A Q ((b7, some (.row .ex [.i .i64 4, .s [], .i .i64 x, .i .i64 p0])) :: (b4, some (.row .ex z)) :: L) h →
 Ev (fun n => jK (aJ n) n (n - j) (.s s) (.i .i64 (i : Int)) (.p b4 0) (.p b7 0) h)
  (fun v h' => ∃ t en, v = .t [.a (tc t), .i .i64 en, .i .i64 (lP x (u.takeWhile bI)).2] ∧ ((lP x (u.takeWhile bI)).2 = 0 → t = ⟨4, [], (lP x (u.takeWhile bI)).1, p0⟩ ∧ en = ((i + (u.takeWhile bI).length : Nat) : Int)) ∧ Sy I A Q L h') := by
 intro u
 have hs' := hs
 simp only [bL] at hs'
 induction u with
 | nil =>
  intro j i h x hu hi h0 h1 S
  refine Ev.loop j (ll := fun n m => jK (aJ n) n m (.s s) (.i .i64 (i : Int)) (.p b4 0) (.p b7 0) h) (bb := fun n m => pA (aJ n) n (jK (aJ n) n m) (.s s) (.i .i64 (i : Int)) (.p b4 0) (.p b7 0) h) (fun _ _ => rfl) ?_
  unfold pA eI
  refine Ev.call (lO s i h) ?_
  rintro _ _ ⟨rfl, hh⟩
  rw [hh, hu]
  clear hh
  refine Ev.ieq (fun e1 => absurd e1 (by decide)) (fun e1 => ?_)
  refine yj ?_; refine ws ?_; refine wt fun _ _ => ?_; refine ws ?_
  exact Ev.ret ⟨⟨4, [], x, p0⟩, _, rfl, fun _ => ⟨rfl, rfl⟩, dp⟩
 | cons c u ih =>
  intro j i h x hu hi h0 h1 S
  have hlt : i < s.length := by
   have := congrArg List.length hu
   simp at this
   omega
  have hu' : s.drop (i + 1) = u := by rw [← List.drop_drop, hu]; rfl
  have hc : s[i] = c := by
   rw [List.drop_eq_getElem_cons hlt] at hu
   exact (List.cons.inj hu).1
  refine Ev.loop j (ll := fun n m => jK (aJ n) n m (.s s) (.i .i64 (i : Int)) (.p b4 0) (.p b7 0) h) (bb := fun n m => pA (aJ n) n (jK (aJ n) n m) (.s s) (.i .i64 (i : Int)) (.p b4 0) (.p b7 0) h) (fun _ _ => rfl) ?_
  unfold pA eI
  refine Ev.call (lO s i h) ?_
  rintro _ _ ⟨rfl, hh⟩
  rw [hh, hu]
  clear hh
  refine Ev.ieq (fun e1 => ?_) (fun e1 => ?_)
  ·obtain ⟨c', v', e, hd⟩ := (dIc _).1 e1
   cases e
   have hd' := hd
   simp [bI] at hd'
   have tw : (c :: u).takeWhile bI = c :: u.takeWhile bI := by simp [hd]
   rw [tw, aQl x c _ h0 h1 hd]
   refine yt ?_
   refine Ev.op (gZ (c := c) (by simp [hlt, hc]) _) ?_
   refine Ev.isub ?_
   have a2 : IntKind.u8.wrap (Int.ofNat c - Int.ofNat 48) = (c : Int) - 48 := by
    show IntKind.u8.wrap ((c : Int) - 48) = _
    unfold IntKind.wrap
    simp [IntKind.bits, IntKind.signed, IntKind.min, IntKind.max]
    omega
   have a3 : ∀ h, kJ .i64 (.i .u8 ((c : Int) - 48)) h = some (.i .i64 ((c : Int) - 48), h) := fun h => by
    show some (DV.i .i64 (IntKind.i64.wrap ((c : Int) - 48)), h) = _
    rw [dG _ (by omega) (by omega)]
   rw [a2]
   refine Ev.op (a3 _) ?_
   refine wf ?_; refine wl ?_
   refine Ev.isub ?_
   rw [dG (Int.ofNat 1152921504606846976 - ((c : Int) - 48)) (by show -9223372036854775808 ≤ (1152921504606846976 : Int) - ((c : Int) - 48); omega) (by show (1152921504606846976 : Int) - ((c : Int) - 48) ≤ _; omega)]
   have a4 : ∀ h, aF .quo (.i .i64 (Int.ofNat 1152921504606846976 - ((c : Int) - 48))) (.i .i64 (Int.ofNat 10)) h = some (.i .i64 (((1152921504606846976 : Int) - ((c : Int) - 48)) / 10), h) := fun h => by
    refine fI .quo _ ?_
    show (if Int.ofNat 10 = 0 then none else some (DV.i .i64 (IntKind.i64.wrap ((Int.ofNat 1152921504606846976 - ((c : Int) - 48)).tdiv (Int.ofNat 10))))) = _
    rw [if_neg (by decide)]
    have e5 : (Int.ofNat 1152921504606846976 - ((c : Int) - 48)).tdiv (Int.ofNat 10) = ((1152921504606846976 : Int) - ((c : Int) - 48)) / 10 := by
     show ((1152921504606846976 : Int) - ((c : Int) - 48)).tdiv 10 = _
     rw [Int.tdiv_eq_ediv_of_nonneg (by omega)]
    rw [e5, dG _ (by omega) (by omega)]
   refine Ev.op (a4 _) ?_
   refine Ev.igt (fun e2 => ?_) (fun e2 => ?_)
   ·rw [if_pos (by omega)]
    refine yt ?_; refine ws ?_; refine wt fun _ _ => ?_; refine ws ?_
    exact Ev.ret ⟨⟨4, [], x, p0⟩, _, rfl, fun he => (by cases he), dp⟩
   ·rw [if_neg (by omega)]
    refine yj ?_; refine wf ?_; refine wl ?_
    refine Ev.imul ?_
    rw [dG (Int.ofNat 10 * x) (by show -9223372036854775808 ≤ 10 * x; omega) (by show 10 * x ≤ _; omega)]
    refine Ev.iadd ?_
    rw [dG (Int.ofNat 10 * x + ((c : Int) - 48)) (by show -9223372036854775808 ≤ 10 * x + ((c : Int) - 48); omega) (by show 10 * x + ((c : Int) - 48) ≤ _; omega)]
    refine wf ?_; refine wu fun _ _ => ?_
    refine Ev.iadd ?_
    rw [dO 1 (by omega)]
    refine (ih (j + 1) (i + 1) _ (10 * x + ((c : Int) - 48)) hu' (by omega) (by omega) (by omega) (by assumption)).mono ?_
    rintro v h' ⟨t, en, b1, b2, b3⟩
    refine ⟨t, en, b1, fun he => ?_, b3⟩
    obtain ⟨d1, d2⟩ := b2 he
    refine ⟨d1, ?_⟩
    rw [d2]
    simp only [List.length_cons]
    omega
  ·have hd : bI c = false := by
    cases e : bI c with
    | false => rfl
    | true => exact absurd ((dIc _).2 ⟨c, u, rfl, e⟩) e1
   have tw : (c :: u).takeWhile bI = [] := by simp [hd]
   rw [tw]
   refine yj ?_; refine ws ?_; refine wt fun _ _ => ?_; refine ws ?_
   exact Ev.ret ⟨⟨4, [], x, p0⟩, _, rfl, fun _ => ⟨rfl, rfl⟩, dp⟩
theorem cMh {h : Hp} (S : Sy I A Q L h) (hs : s.length ≤ bL) {i : Nat} (hi : i < s.length) (f : Nat) (res : Int × List Nat × Int × Int × Nat) (hm : kK f (s.drop i) = some res) :
 Ev (fun n => aJ n 67 [.s s, .i .i64 (i : Int)] h) (aDb I A Q L res i) := by
 refine Ev.enter (fun n => cAb n _ _ h) ?_
 unfold kK at hm
 unfold s67 aYz
 refine wa fun _ _ _ => ?_; refine wd ?_; refine wa fun _ _ _ => ?_; refine wt fun _ _ => ?_
 rename_i b4 h4 S4 b7 h7 S7 h0 S0
 unfold bDm
 have hd : (s.drop i).length = s.length - i := by simp
 have hs' := hs
 simp only [bL] at hs'
 have hcd : s.drop i = s[i] :: s.drop (i + 1) := List.drop_eq_getElem_cons hi
 have hn0 : nx (s.drop i) 0 = s[i] := by rw [hcd]; rfl
 have hat : tI (s.drop i) = (fN s[i] : Int) := by rw [hcd]; rfl
 have hdd1 : s.drop (i + 1) = (s.drop i).drop 1 := by rw [List.drop_drop]
 have hidx : s[i]? = some s[i] := by simp [hi]
 refine Ev.call (lO s i h0) ?_
 rintro _ _ ⟨rfl, hh⟩
 rw [hh, hat]
 clear hh
 unfold bDc
 refine Ev.ieq (fun e1 => ?_) (fun e1 => ?_)
 ·have e1' : aY s[i] = true := (aNt _).1 (by simp at e1; omega)
  rw [if_pos (by rw [hn0]; exact e1')] at hm
  unfold aAl
  refine yt ?_
  unfold bRn
  refine Ev.call (vS s hs i (by omega) _) ?_
  rintro _ _ ⟨rfl, hh⟩
  rw [hh]
  clear hh
  have hnl := fG (s.drop i)
  have hne := oR (s.drop i)
  have hnt := kC (u := s.drop i)
  have hnl2 := lM (s.drop i)
  rw [← hnl2] at hne ⊢
  generalize hN : bE (s.drop i) = N at hm hnl hne hnt ⊢
  unfold bPc
  refine Ev.isub ?_
  rw [show ((i + N.2.2 : Nat) : Int) - (i : Int) = ((N.2.2 : Nat) : Int) by omega, nU _ (by omega)]
  refine Ev.igt (fun e3 => ?_) (fun e3 => ?_)
  ·have e3' : 24 < N.2.2 := by simp at e3; omega
   rw [if_pos e3'] at hne
   rw [if_neg (by rw [hne]; decide)] at hm
   cases hm
   refine yt ?_; refine ws ?_; refine wt fun _ _ => ?_; refine ws ?_
   refine Ev.ret ⟨⟨0, [], 0, (i : Int)⟩, Int.ofNat 0, ?_, fun he => ?_, dp⟩
   ·show _ = DV.t [_, _, DV.i .i64 N.2.1]
    rw [hne]; rfl
   ·have he : N.2.1 = 0 := he
    rw [hne] at he
    cases he
  ·have e3' : ¬ 24 < N.2.2 := by simp at e3; omega
   rw [if_neg e3'] at hne
   rw [if_pos hne] at hm
   refine yj ?_
   unfold bMh
   refine wf ?_; refine wu fun _ _ => ?_
   unfold bRa
   refine Ev.call (wF s hs (i + N.2.2) (by omega) _) ?_
   rintro _ _ ⟨rfl, hh⟩
   rw [hh]
   clear hh
   have hdd : s.drop (i + N.2.2) = (s.drop i).drop N.2.2 := by rw [List.drop_drop]
   rw [← hdd] at hm
   cases e4 : dD (s.drop (i + N.2.2)) with
   | true =>
    rw [e4, if_pos rfl] at hm
    cases hm
    have hcl := iV e4
    have hcl' : i + N.2.2 + 1 ≤ s.length := by simp at hcl; omega
    refine yt ?_; refine wf ?_; refine wu fun _ _ => ?_
    refine Ev.iadd ?_
    rw [dO 1 (by omega)]
    unfold aJm
    refine Ev.op (vL (by omega) hcl' _) ?_
    refine wf ?_; refine wu fun _ _ => ?_; refine ws ?_; refine wt fun _ _ => ?_; refine ws ?_
    refine Ev.ret ⟨⟨2, (s.take (i + N.2.2 + 1)).drop i, 0, (i : Int)⟩, _, rfl, fun _ => ⟨?_, ?_⟩, dp⟩
    ·show (⟨2, _, 0, (i : Int)⟩ : Tok) = ⟨2, N.1 ++ [58], 0, (i : Int)⟩
     rw [List.drop_take, show i + N.2.2 + 1 - i = N.2.2 + 1 by omega, rQ (by rw [← hdd]; exact e4), ← hnt hne]
    ·show ((i + N.2.2 + 1 : Nat) : Int) = ((i + (N.2.2 + 1) : Nat) : Int)
     omega
   | false =>
    rw [e4] at hm
    simp only [Bool.false_eq_true, if_false, Option.some.injEq] at hm
    subst hm
    refine yj ?_
    unfold aJm
    refine Ev.op (vL (by omega) (by omega) _) ?_
    refine wf ?_; refine wu fun _ _ => ?_; refine ws ?_; refine wt fun _ _ => ?_; refine ws ?_
    refine Ev.ret ⟨⟨1, (s.take (i + N.2.2)).drop i, 0, (i : Int)⟩, _, rfl, fun _ => ⟨?_, rfl⟩, dp⟩
    show (⟨1, _, 0, (i : Int)⟩ : Tok) = ⟨1, N.1, 0, (i : Int)⟩
    rw [List.drop_take, show i + N.2.2 - i = N.2.2 by omega, ← hnt hne]
 have e1' : aY s[i] = false := by
  cases e : aY s[i] with
  | false => rfl
  | true => exact absurd (by rw [(aNt _).2 e]; rfl) e1
 rw [if_neg (by rw [hn0, e1']; simp)] at hm
 unfold aAl
 refine yj ?_
 unfold aBw
 refine Ev.ieq (fun e2 => ?_) (fun e2 => ?_)
 ·have e2' : bI s[i] = true := (aLw _).1 (by simp at e2; omega)
  rw [if_pos (by rw [hn0]; exact e2')] at hm
  cases hm
  unfold zP
  refine yt ?_
  unfold aRj
  refine wf ?_; refine wu fun _ _ => ?_
  unfold aDp aPo
  rename_i hq Sq
  refine (bFy (b4 := b4) (b7 := b7) (p0 := (i : Int)) (z := [.i .i64 (Int.ofNat 0), .s [], .i .i64 (Int.ofNat 0), .i .i64 (Int.ofNat 0)]) hs rfl (by first | assumption | exact bS _ | (repeat (first | exact aW | refine aS (by first | rfl | assumption | exact Fz.one (by assumption)) ?_))) (s.drop i) 0 i hq 0 rfl (by omega) (by omega) (by omega) Sq).mono ?_
  rintro v h' ⟨t, en, a1, a2, a3⟩
  exact ⟨t, en, a1, a2, a3⟩
 have e2' : bI s[i] = false := by
  cases e : bI s[i] with
  | false => rfl
  | true => exact absurd (by rw [(aLw _).2 e]; rfl) e2
 rw [if_neg (by rw [hn0, e2']; simp)] at hm
 unfold zP
 refine yj ?_
 unfold kT
 have hsg : ∀ c, cW signs c = true → ¬ c = 39 ∧ ¬ c = 35 ∧ ¬ c = 58 := by
  intro c h
  have h2 : c = 43 ∨ c = 45 ∨ c = 42 ∨ c = 47 ∨ c = 60 ∨ c = 62 ∨ c = 61 ∨ c = 126 ∨ c = 44 ∨ c = 64 ∨ c = 38 ∨ c = 37 := by simpa [cW, signs] using h
  omega
 have hmk : ∀ c, cW marks c = true → ¬ c = 39 ∧ ¬ c = 35 ∧ ¬ c = 58 ∧ cW signs c = false := by
  intro c h
  have h2 : c = 94 ∨ c = 46 ∨ c = 59 ∨ c = 40 ∨ c = 41 ∨ c = 91 ∨ c = 93 ∨ c = 124 := by simpa [cW, marks] using h
  refine ⟨by omega, by omega, by omega, ?_⟩
  rcases h2 with rfl | rfl | rfl | rfl | rfl | rfl | rfl | rfl <;> rfl
 refine Ev.ieq (fun e3 => ?_) (fun e3 => ?_)
 ·have e3' : cW signs s[i] = true := (bDk _).1 (by simp at e3; omega)
  obtain ⟨q1, q2, q3⟩ := hsg _ e3'
  rw [hn0, if_neg q1, if_neg q2, if_neg (fun q => q3 q.1), if_neg (fun q => q3 q.1), if_pos e3'] at hm
  cases hm
  unfold bPy
  refine yt ?_
  unfold cPn
  refine wf ?_; refine wu fun _ _ => ?_
  rename_i h5 S5
  unfold cOk
  refine Ev.iadd ?_
  rw [dO 1 (by omega)]
  unfold bVl
  refine Ev.call (lO s (i + 1) _) ?_
  rintro _ _ ⟨rfl, hh⟩
  rw [hh]
  clear hh
  have g3 := (aDc (s.drop i)).1 (by rw [hat, (bDk _).2 e3']; rfl)
  have hl0 := nE (cW signs) 2 (s.drop i)
  have fin : ∀ e, e = i + dC (cW signs) 2 (s.drop i) → Ev (fun n => aIy (aJ n) n (.s s) (.i .i64 (i : Int)) (.p b4 0) (.p b7 0) (.i .i64 (e : Int)) h5) (aDb I A Q L (3, (s.drop i).take (dC (cW signs) 2 (s.drop i)), 0, 0, dC (cW signs) 2 (s.drop i)) i) := by
   intro e he
   unfold aIy
   refine Ev.op (vL (by omega) (by omega) _) ?_
   refine wf ?_; refine wu fun _ _ => ?_; refine ws ?_; refine wt fun _ _ => ?_; refine ws ?_
   refine Ev.ret ⟨⟨3, (s.take e).drop i, 0, (i : Int)⟩, (e : Int), rfl, fun _ => ⟨?_, ?_⟩, dp⟩
   ·show (⟨3, (s.take e).drop i, 0, (i : Int)⟩ : Tok) = ⟨3, (s.drop i).take _, 0, (i : Int)⟩
    rw [List.drop_take, he, Nat.add_sub_cancel_left]
   ·show (e : Int) = ((i + _ : Nat) : Int)
    rw [he]
  refine Ev.ieq (fun e4 => ?_) (fun e4 => ?_)
  ·rw [if_pos (show tI ((s.drop i).drop 1) = 3 by rw [← hdd1]; exact e4)] at g3
   refine yt ?_
   refine Ev.iadd ?_
   rw [dO 1 (by omega)]
   exact fin (i + 1 + 1) (by omega)
  ·rw [if_neg (show ¬ tI ((s.drop i).drop 1) = 3 by rw [← hdd1]; exact e4)] at g3
   refine yj ?_
   exact fin (i + 1) (by omega)
 have e3' : cW signs s[i] = false := by
  cases e : cW signs s[i] with
  | false => rfl
  | true => exact absurd (by rw [(bDk _).2 e]; rfl) e3
 unfold bPy
 refine yj ?_
 unfold cPd
 refine Ev.ieq (fun e4 => ?_) (fun e4 => ?_)
 ·have e4' : cW marks s[i] = true := (cNu _).1 (by simp at e4; omega)
  obtain ⟨q1, q2, q3, q4⟩ := hmk _ e4'
  rw [hn0, if_neg q1, if_neg q2, if_neg (fun q => q3 q.1), if_neg (fun q => q3 q.1), if_neg (by rw [q4]; simp), if_pos e4'] at hm
  cases hm
  have hr1 : dC (cW marks) 1 (s.drop i) = 1 := by rw [hcd]; simp [dC, e4']
  rw [hr1]
  refine yt ?_; refine wf ?_; refine wu fun _ _ => ?_
  refine Ev.iadd ?_
  rw [dO 1 (by omega)]
  refine Ev.op (vL (by omega) (by omega) _) ?_
  refine wf ?_; refine wu fun _ _ => ?_; refine ws ?_
  refine Ev.iadd ?_
  rw [dO 1 (by omega)]
  refine wt fun _ _ => ?_; refine ws ?_
  refine Ev.ret ⟨⟨10, (s.take (i + 1)).drop i, 0, (i : Int)⟩, _, rfl, fun _ => ⟨?_, rfl⟩, dp⟩
  show (⟨10, _, 0, (i : Int)⟩ : Tok) = ⟨10, (s.drop i).take 1, 0, (i : Int)⟩
  rw [List.drop_take, Nat.add_sub_cancel_left]
 have e4' : cW marks s[i] = false := by
  cases e : cW marks s[i] with
  | false => rfl
  | true => exact absurd (by rw [(cNu _).2 e]; rfl) e4
 refine yj ?_
 refine Ev.op (gZ hidx _) ?_
 refine Ev.ieq (fun e5 => ?_) (fun e5 => ?_)
 ·have e5' : s[i] = 39 := by simp at e5; omega
  rw [if_pos (by rw [hn0]; exact e5')] at hm
  obtain ⟨r, hr, hm⟩ := aT hm
  cases hm
  refine yt ?_; refine wf ?_; refine wu fun _ _ => ?_; refine ws ?_
  refine Ev.call (bIg (k0 := 5) (m0 := 0) (by assumption) hs hi f r (by rw [hdd1]; exact hr)) ?_
  rintro _ _ ⟨t, en, rfl, a2, S5⟩
  refine wx ?_; refine wx ?_; refine wx ?_; refine wt fun _ _ => ?_; refine ws ?_
  refine Ev.ret ⟨t, en, rfl, fun he => ?_, dp⟩
  obtain ⟨d1, d2⟩ := a2 he
  refine ⟨d1, ?_⟩
  rw [d2]
  show ((i + 1 + r.2.2 : Nat) : Int) = ((i + (r.2.2 + 1) : Nat) : Int)
  omega
 rw [if_neg (by rw [hn0]; simp at e5; omega)] at hm
 refine yj ?_
 refine Ev.op (gZ hidx _) ?_
 refine Ev.ieq (fun e6 => ?_) (fun e6 => ?_)
 ·have e6' : s[i] = 35 := by simp at e6; omega
  rw [if_pos (by rw [hn0]; exact e6')] at hm
  refine yt ?_; refine ws ?_
  refine Ev.call (cBq (by assumption) hs hi f res hm) ?_
  rintro _ _ ⟨t, en, rfl, a2, S5⟩
  refine wx ?_; refine wx ?_; refine wx ?_; refine wt fun _ _ => ?_; refine ws ?_
  exact Ev.ret ⟨t, en, rfl, a2, dp⟩
 rw [if_neg (by rw [hn0]; simp at e6; omega)] at hm
 refine yj ?_
 refine Ev.op (gZ hidx _) ?_
 have bad : ¬ (nx (s.drop i) 0 = 58 ∧ nx (s.drop i) 1 = 61) → ¬ (nx (s.drop i) 0 = 58 ∧ aY (nx (s.drop i) 1) = true) → res = (0, [], 0, 10, 0) := fun n1 n2 => by
  rw [if_neg n1, if_neg n2, if_neg (by rw [hn0, e3']; simp), if_neg (by rw [hn0, e4']; simp)] at hm
  cases hm
  rfl
 refine Ev.ieq (fun e7 => ?_) (fun e7 => ?_)
 ·have e7' : nx (s.drop i) 0 = 58 := by rw [hn0]; simp at e7; omega
  refine zt ?_; refine wm ?_; refine zt ?_
  refine Ev.iadd ?_
  rw [dO 1 (by omega)]
  refine zt ?_; refine wm ?_; refine zt ?_
  refine Ev.lenS ?_
  refine zt ?_
  have hn1 : nx (s.drop i) 1 = nx (s.drop (i + 1)) 0 := by simp [nx, List.getD, List.getElem?_drop]
  have rest : ¬ nx (s.drop i) 1 = 61 → Ev (fun n => bnd (bF (.s s) (.i .i64 (i : Int)) h0) fun v52 h52 =>
   bnd (aF .eql v52 (.i .u8 (Int.ofNat 58)) h52) fun v53 h53 =>
   bnd (gD v53 true (some (.s s, h53)) h53) fun v54 h54 =>
   bnd (gD v53 true (some (.i .i64 (i : Int), h54)) h54) fun v55 h55 =>
   bnd (gD v53 true (aF .add v55 (.i .i64 (Int.ofNat 1)) h55) h55) fun v56 h56 =>
   bnd (gD v53 true (aJ n 95 [v54, v56] h56) h56) fun v57 h57 =>
   bnd (gD v53 true (aF .eql v57 (.i .i64 (Int.ofNat 1)) h57) h57) fun v58 h58 =>
   bnd (aV v53 v58 (.b false) h58) fun v59 h59 =>
   aU v59 (
    bnd (aF .add (.i .i64 (i : Int)) (.i .i64 (Int.ofNat 1)) h59) fun v60 h60 =>
    bnd (aJ n 96 [.s s, v60] h60) fun v61 h61 =>
    bnd (aF .sub v61 (.i .i64 (i : Int)) h61) fun v62 h62 =>
    bnd (aF .sub v62 (.i .i64 (Int.ofNat 1)) h62) fun v63 h63 =>
    bnd (aF .gtr v63 (.i .i64 (Int.ofNat 24)) h63) fun v64 h64 =>
    aU v64 (
     bnd (aE 4 (.p b7 0) h64) fun v65 h65 =>
     bnd (aC 4 (.p b4 0) v65 h65) fun _ h66 =>
     bnd (aE 4 (.p b4 0) h66) fun v67 _ =>
     some (.t [v67, .i .i64 (Int.ofNat 0), .i .i64 (Int.ofNat 12)], h66)) (
     bnd (aB 0 (.p b7 0) h64) fun v68 h68 =>
     bnd (aC 1 v68 (.i .i64 (Int.ofNat 8)) h68) fun _ h69 =>
     bnd (aF .add (.i .i64 (i : Int)) (.i .i64 (Int.ofNat 1)) h69) fun v70 h70 =>
     bnd (cP (.s s) (some v70) (some v61) h70) fun v71 h71 =>
     bnd (aB 1 (.p b7 0) h71) fun v72 h72 =>
     bnd (aC 1 v72 v71 h72) fun _ h73 =>
     bnd (aE 4 (.p b7 0) h73) fun v74 h74 =>
     bnd (aC 4 (.p b4 0) v74 h74) fun _ h75 =>
     bnd (aE 4 (.p b4 0) h75) fun v76 _ =>
     some (.t [v76, v61, .i .i64 (Int.ofNat 0)], h75))) (
    bnd (aE 4 (.p b7 0) h59) fun v77 h77 =>
    bnd (aC 4 (.p b4 0) v77 h77) fun _ h78 =>
    bnd (aE 4 (.p b4 0) h78) fun v79 _ =>
    some (.t [v79, .i .i64 (Int.ofNat 0), .i .i64 (Int.ofNat 10)], h78))) (aDb I A Q L res i) := fun ne => by
   rw [if_neg (fun q => ne q.2)] at hm
   refine Ev.op (gZ hidx _) ?_
   refine Ev.ieq (fun e8 => ?_) (fun e8 => absurd e7 e8)
   refine zt ?_; refine wm ?_; refine zt ?_; refine wm ?_; refine zt ?_
   refine Ev.iadd ?_
   rw [dO 1 (by omega)]
   refine zt ?_
   refine Ev.call (lO s (i + 1) _) ?_
   rintro _ _ ⟨rfl, hh⟩
   rw [hh]
   clear hh
   refine zt ?_
   refine Ev.ieq (fun e9 => ?_) (fun e9 => ?_)
   ·have e9' : aY (nx (s.drop i) 1) = true := by rw [hn1]; exact (bFa _).1 e9
    rw [if_pos ⟨e7', e9'⟩] at hm
    cases hm
    refine ap ?_; refine yt ?_
    refine Ev.iadd ?_
    rw [dO 1 (by omega)]
    refine Ev.call (vS s hs (i + 1) (by omega) _) ?_
    rintro _ _ ⟨rfl, hh⟩
    rw [hh]
    clear hh
    rw [← hdd1]
    have hnl := fG (s.drop (i + 1))
    have hne := oR (s.drop (i + 1))
    have hnt := kC (u := s.drop (i + 1))
    have hnl2 := lM (s.drop (i + 1))
    have hdl : (s.drop (i + 1)).length = s.length - (i + 1) := by simp
    rw [← hnl2] at hne ⊢
    generalize hN : bE (s.drop (i + 1)) = N at hnl hne hnt ⊢
    refine Ev.isub ?_
    rw [show ((i + 1 + N.2.2 : Nat) : Int) - (i : Int) = ((N.2.2 + 1 : Nat) : Int) by omega, nU _ (by omega)]
    refine Ev.isub ?_
    rw [show ((N.2.2 + 1 : Nat) : Int) - Int.ofNat 1 = ((N.2.2 : Nat) : Int) by simp, nU _ (by omega)]
    refine Ev.igt (fun e10 => ?_) (fun e10 => ?_)
    ·have e10' : 24 < N.2.2 := by simp at e10; omega
     rw [if_pos e10'] at hne
     refine yt ?_; refine ws ?_; refine wt fun _ _ => ?_; refine ws ?_
     refine Ev.ret ⟨⟨0, [], 0, (i : Int)⟩, Int.ofNat 0, ?_, fun he => ?_, dp⟩
     ·show _ = DV.t [_, _, DV.i .i64 N.2.1]
      rw [hne]; rfl
     ·have he : N.2.1 = 0 := he
      rw [hne] at he
      cases he
    ·have e10' : ¬ 24 < N.2.2 := by simp at e10; omega
     rw [if_neg e10'] at hne
     refine yj ?_; refine wf ?_; refine wu fun _ _ => ?_
     refine Ev.iadd ?_
     rw [dO 1 (by omega)]
     refine Ev.op (vL (by omega) (by omega) _) ?_
     refine wf ?_; refine wu fun _ _ => ?_; refine ws ?_; refine wt fun _ _ => ?_; refine ws ?_
     refine Ev.ret ⟨⟨8, (s.take (i + 1 + N.2.2)).drop (i + 1), 0, (i : Int)⟩, ((i + 1 + N.2.2 : Nat) : Int), ?_, fun _ => ⟨?_, ?_⟩, dp⟩
     ·show _ = DV.t [_, _, DV.i .i64 N.2.1]
      rw [hne]; rfl
     ·show (⟨8, _, 0, (i : Int)⟩ : Tok) = ⟨8, N.1, 0, (i : Int)⟩
      rw [List.drop_take, Nat.add_sub_cancel_left, ← hnt hne]
     ·show ((i + 1 + N.2.2 : Nat) : Int) = ((i + (N.2.2 + 1) : Nat) : Int)
      omega
   ·have e9' : ¬ aY (nx (s.drop i) 1) = true := fun q => e9 ((bFa _).2 (by rw [← hn1]; exact q))
    have := bad (fun q => ne q.2) (fun q => e9' q.2)
    subst this
    refine ap ?_; refine yj ?_; refine ws ?_; refine wt fun _ _ => ?_; refine ws ?_
    exact Ev.ret ⟨⟨0, [], 0, (i : Int)⟩, _, rfl, fun he => (by cases he), dp⟩
  refine Ev.ilt (fun e8 => ?_) (fun e8 => ?_)
  ·have e8' : i + 1 < s.length := by omega
   have hn1' : nx (s.drop i) 1 = s[i + 1] := by rw [hn1, List.drop_eq_getElem_cons e8']; rfl
   refine ap ?_; refine zt ?_; refine wm ?_; refine zt ?_; refine wm ?_; refine zt ?_
   refine Ev.iadd ?_
   rw [dO 1 (by omega)]
   refine zt ?_
   refine Ev.op (gZ (c := s[i + 1]) (by simp [e8']) _) ?_
   refine zt ?_
   refine Ev.ieq (fun e9 => ?_) (fun e9 => ?_)
   ·have e9' : nx (s.drop i) 1 = 61 := by rw [hn1']; simp at e9; omega
    rw [if_pos ⟨e7', e9'⟩] at hm
    cases hm
    refine ap ?_; refine yt ?_; refine wf ?_; refine wu fun _ _ => ?_; refine ws ?_
    refine Ev.iadd ?_
    rw [dO 2 (by omega)]
    refine wt fun _ _ => ?_; refine ws ?_
    exact Ev.ret ⟨⟨9, [], 0, (i : Int)⟩, _, rfl, fun _ => ⟨rfl, rfl⟩, dp⟩
   ·have R := rest (by rw [hn1']; simp at e9; omega)
    exact R
  ·have R := rest (by rw [hn1, List.drop_eq_nil_of_le (by omega)]; simp [nx])
   exact R
 ·have e7' : ¬ nx (s.drop i) 0 = 58 := by rw [hn0]; simp at e7; omega
  have := bad (fun q => e7' q.1) (fun q => e7' q.1)
  subst this
  refine yf ?_; refine yf ?_; refine yf ?_; refine yf ?_; refine yf ?_; refine aq ?_; refine yf ?_; refine yf ?_; refine yf ?_; refine yf ?_; refine yf ?_; refine aq ?_; refine yj ?_
  refine Ev.op (gZ hidx _) ?_
  refine Ev.ieq (fun e8 => absurd e8 e7) (fun e8 => ?_)
  refine yf ?_; refine yf ?_; refine yf ?_; refine yf ?_; refine yf ?_; refine aq ?_; refine yj ?_; refine ws ?_; refine wt fun _ _ => ?_; refine ws ?_
  exact Ev.ret ⟨⟨0, [], 0, (i : Int)⟩, _, rfl, fun he => (by cases he), dp⟩
theorem aSq (hs : s.length ≤ bL) (g : Nat) : ∀ (f j i : Nat) (I : Im) (B : Ls) (h : Hp) (x : DV) (out : List Tok) (res : List Tok × Int × Int), Sy I (B ++ A) Q L h → Gr I 4 B x out.length (out.map tc).flatten →
 i ≤ s.length → out.length + f ≤ bL → lU g s f i out = some res →
 Ev (fun n => pQ (aJ n) n (n - j) (.s s) x (.i .i64 (i : Int)) h) (aUu I A Q L res) := by
 intro f
 induction f using Nat.strongRecOn with
 | _ f ih =>
  intro j i I B h x out res S G hi hl hm
  cases f with
  | zero => cases hm
  | succ f =>
  obtain ⟨k, o, sk, hk, c1, c2, c3⟩ := bFq (f + 1) i out res hi hm
  refine Ev.loop j (ll := fun n m => pQ (aJ n) n m (.s s) x (.i .i64 (i : Int)) h) (bb := fun n m => aIf (aJ n) n (pQ (aJ n) n m) (.s s) x (.i .i64 (i : Int)) h) (fun _ _ => rfl) ?_
  unfold aIf
  refine Ev.call (cGv hs sk hi) ?_
  rintro _ _ ⟨rfl, hh⟩
  rw [hh]
  clear hh
  refine wx ?_; refine wx ?_
  cases o with
  | true =>
   rw [c1 rfl]
   refine yt ?_
   obtain ⟨K, gK, S5, F5⟩ := G.freeze S
   exact Ev.ret ⟨K, .l0, rfl, gK, S5, TS'.nil K⟩
  | false =>
   refine yj ?_
   refine Ev.lenS ?_
   refine Ev.ieq (fun e1 => ?_) (fun e1 => ?_)
   ·rw [c2 rfl (by omega)]
    refine yt ?_; refine wd ?_
    refine Ev.bs S (aYi ⟨0, [], 0, (k : Int)⟩) ?_
    intro b3 h3 S3
    obtain ⟨x4, h4, B4, e4, S4, G4⟩ := vV G S3 (List.Mem.head _) (by omega)
    refine Ev.op e4 ?_
    obtain ⟨K, gK, S5, F5⟩ := G4.freeze S4
    exact Ev.ret ⟨K, x4, rfl, gK, S5.dropL, by simp; omega, F5⟩
   ·obtain ⟨rs, hr, d1, d2⟩ := c3 rfl (by omega)
    refine yj ?_
    refine Ev.call (cMh S hs (by omega) g rs hr) ?_
    rintro _ h3 ⟨t, en, rfl, a2, S3⟩
    refine wx ?_; refine wx ?_; refine wx ?_; refine wa fun _ _ _ => ?_; refine wt fun _ _ => ?_
    refine Ev.ine (fun e3 => ?_) (fun e3 => ?_)
    ·rw [d1 e3]
     refine yt ?_
     obtain ⟨M, gM, S5, F5⟩ := G.freeze (by assumption)
     exact Ev.ret ⟨M, .l0, rfl, gM, S5.dropL, TS'.nil M⟩
    ·obtain ⟨m1, f', m2, m3⟩ := d2 e3
     obtain ⟨rfl, rfl⟩ := a2 e3
     refine yj ?_; refine ws ?_
     refine Ev.bs (by assumption) (aYi ⟨rs.1, rs.2.1, rs.2.2.1, (k : Int)⟩) ?_
     intro b4 h4 S4
     obtain ⟨x5, h5, B5, e5, S5, G5⟩ := vV G S4 (List.Mem.head _) (by omega)
     refine Ev.op e5 ?_
     exact ih f' m2 (j + 1) (k + rs.2.2.2.2) I B5 h5 x5 _ res S5.dropL.dropL G5 m1 (by simp; omega) m3
theorem cMt {h : Hp} (S : Sy I A Q L h) (hs : s.length ≤ bL) (g f : Nat) (hf : f ≤ bL) (res : List Tok × Int × Int) (hm : pD g f s = some res) :
 Ev (fun n => aJ n 43 [.s s] h) (aUu I A Q L res) := by
 unfold pD at hm
 refine Ev.enter (fun n => cAi n _ h) ?_
 unfold s43 aZe
 refine Ev.lenS ?_
 refine Ev.igt (fun e1 => ?_) (fun e1 => ?_)
 ·rw [if_pos (show 2000 < s.length by simp at e1; omega)] at hm
  cases hm
  refine yt ?_
  exact Ev.ret ⟨I, .l0, rfl, ILe.refl _, S, TS'.nil I⟩
 ·rw [if_neg (show ¬ 2000 < s.length by simp at e1; omega)] at hm
  refine yj ?_
  unfold aVb bDi bCj bQs
  exact aSq hs g f 0 0 I [] _ .l0 [] res S (Gr.nil I 4) (by omega) (by simpa using hf) hm
end
end Go.Dd

namespace Go.Dd
open Go.Proofs
theorem dLi {a b : Nat} (h : a + b ≤ bL) : IntKind.i64.wrap ((a : Int) + (b : Int)) = ((a + b : Nat) : Int) := by
 rw [dG _ (by omega) (by simp [bL] at h ⊢; omega)]
 omega
theorem fX {a : Nat} (h : a + 1 ≤ bL) : IntKind.i64.wrap ((a : Int) + Int.ofNat 1) = ((a + 1 : Nat) : Int) := dLi (b := 1) h
def NC (b : Pos) (k : Int) (t : List Nat) (m : Int) (s1 s2 s3 : DV) : Pos × Option Ob := (b, some (.row .ex [.i .i64 k, .s t, .i .i64 m, s1, s2, s3]))
end Go.Dd

namespace Go.Dd
open Go.Proofs
mutual
def nEq : Node → Node → Bool
 | .mk k t m ns ts ks, .mk k' t' m' ns' ts' ks' => decide (ns = ns') && decide (ts = ts') && decide (k = k') && decide (t = t') && decide (m = m') && pU ks ks'
def pU : List Node → List Node → Bool
 | [], [] => true
 | x :: l, y :: l' => nEq x y && pU l l'
 | _, _ => false
end
theorem yJ : ∀ (x y : List Node), x.length ≠ y.length → pU x y = false
 | [], [], h => absurd rfl h
 | [], _ :: _, h => rfl
 | _ :: _, [], h => rfl
 | x :: l, y :: l', h => by
  simp at h
  simp [pU, yJ l l' h]
theorem bIq (n : Nat) (x y : DV) (h : Hp) : aJ (n + 1) 28 [x, y] h = s28 (aJ n) n x y h := by kernel_rfl
theorem SS.at {I : Im} {s : DV} {l : List (List Nat)} (H : SS I s l) {A Q L : Ls} {h : Hp} (S : Sy I A Q L h) {i : Nat} {x : List Nat} (hi : l[i]? = some x) :
 ∃ b o, (∀ h', aP 1 s (.i .i64 (i : Int)) h' = some (.p b o, h')) ∧ aD (.p b o) h = some (.s x, h) := by
 obtain ⟨hlt, hg⟩ := List.getElem?_eq_some_iff.1 hi
 obtain ⟨b, o, e, k, row, g, rest, d⟩ := H.2.at S hlt
 refine ⟨b, o, e, ld1 g ?_ rfl⟩
 have e2 : row[o]? = (row.drop o)[0]? := by simp
 rw [e2, d, Nat.mul_one, List.drop_eq_getElem_cons (by simpa using hlt)]
 simp [hg]
section
variable {I : Im} {A Q L : Ls}
theorem aQw {h : Hp} {s1 s2 : DV} {l1 l2 : List (List Nat)} (S : Sy I A Q L h) (N1 : SS I s1 l1) (N2 : SS I s2 l2) : ∀ (r1 r2 : List (List Nat)) (i j : Nat), l1.drop i = r1 → l2.drop i = r2 → r1.length = r2.length → i ≤ l1.length →
 Ev (fun n => mA (aJ n) n (n - j) s1 s2 (.i .i64 (i : Int)) h) (fun v h' => v = .b (decide (r1 = r2)) ∧ h' = h) := by
 intro r1
 induction r1 with
 | nil =>
  intro r2 i j e1 e2 hl hi
  refine Ev.loop j (ll := fun n p => mA (aJ n) n p s1 s2 (.i .i64 (i : Int)) h) (bb := fun n p => tT (aJ n) n (mA (aJ n) n p) s1 s2 (.i .i64 (i : Int)) h) (fun _ _ => rfl) ?_
  have h2 : r2 = [] := by cases r2 with
   | nil => rfl
   | cons => simp at hl
  subst h2
  have hl2 : i = l1.length := by
   have := congrArg List.length e1
   simp at this
   omega
  unfold tT
  refine Ev.op (N1.2.len _) (Ev.ilt (fun k => ?_) (fun k => ?_))
  ·omega
  ·refine yj ?_
   unfold gI
   exact Ev.ret ⟨by simp, rfl⟩
 | cons x r1 ih =>
  intro r2 i j e1 e2 hl hi
  refine Ev.loop j (ll := fun n p => mA (aJ n) n p s1 s2 (.i .i64 (i : Int)) h) (bb := fun n p => tT (aJ n) n (mA (aJ n) n p) s1 s2 (.i .i64 (i : Int)) h) (fun _ _ => rfl) ?_
  obtain ⟨y, r2, rfl⟩ : ∃ y r, r2 = y :: r := by cases r2 with
   | nil => simp at hl
   | cons y r => exact ⟨y, r, rfl⟩
  have hx : l1[i]? = some x := by
   have := congrArg (fun l => l[0]?) e1
   simpa using this
  have hy : l2[i]? = some y := by
   have := congrArg (fun l => l[0]?) e2
   simpa using this
  have hlt := (List.getElem?_eq_some_iff.1 hx).1
  have e1' : l1.drop (i + 1) = r1 := by
   have := congrArg (List.drop 1) e1
   simpa [List.drop_drop] using this
  have e2' : l2.drop (i + 1) = r2 := by
   have := congrArg (List.drop 1) e2
   simpa [List.drop_drop] using this
  obtain ⟨b1, o1, p1, q1⟩ := N1.at S hx
  obtain ⟨b2, o2, p2, q2⟩ := N2.at S hy
  have hb := N1.1
  unfold tT
  refine Ev.op (N1.2.len _) (Ev.ilt (fun k => ?_) (fun k => ?_))
  ·refine yt ?_
   refine Ev.op (p1 _) (Ev.op q1 (Ev.op (p2 _) (Ev.op q2 ?_)))
   refine Ev.sne (fun k2 => ?_) (fun k2 => ?_)
   ·refine yt ?_
    exact Ev.ret ⟨by simp [k2], rfl⟩
   ·refine yj ?_
    refine Ev.iadd ?_
    rw [fX (by omega)]
    refine (ih r2 (i + 1) (j + 1) e1' e2' (by simpa using hl) (by omega)).mono ?_
    rintro v h' ⟨rfl, rfl⟩
    exact ⟨by simp [k2], rfl⟩
  ·omega
theorem aOp {h : Hp} {s1 s2 : DV} {l1 l2 : List (List Nat)} (S : Sy I A Q L h) (N1 : SS I s1 l1) (N2 : SS I s2 l2) :
 Ev (fun n => aJ n 28 [s1, s2] h) (fun v h' => v = .b (decide (l1 = l2)) ∧ h' = h) := by
 refine Ev.enter (fun n => bIq n _ _ h) ?_
 unfold s28 bAj
 refine Ev.op (N1.2.len _) (Ev.op (N2.2.len _) (Ev.ine (fun e => ?_) (fun e => ?_)))
 ·refine yt ?_
  refine Ev.ret ⟨?_, rfl⟩
  have : l1 ≠ l2 := fun h => e (by rw [h])
  simp [this]
 ·refine yj ?_
  unfold aXl bAw
  exact aQw S N1 N2 l1 l2 0 0 (by simp) (by simp) (by omega) (by omega)
end
theorem bGd {I : Im} {A Q L : Ls} {h : Hp} {b b' : Pos} {k m k' m' : Int} {t t' : List Nat} {s1 s2 s3 s1' s2' s3' : DV} {c1 c2 : Bool} {ks ks' : List Node}
 (S : Sy I A Q (NC b' k' t' m' s1' s2' s3' :: NC b k t m s1 s2 s3 :: L) h) (h3 : NS I s3 ks) (h3' : NS I s3' ks') (o1 : s1.one = true) (o2 : s2.one = true) (o1' : s1'.one = true) (o2' : s2'.one = true)
 (loop : ks.length = ks'.length → Ev (fun n => lB (aJ n) n (n - 0) (.p b 0) (.p b' 0) (.i .i64 ((0 : Nat) : Int)) h) (fun v h' => v = .b (pU ks ks') ∧ Sy I A Q (NC b' k' t' m' s1' s2' s3' :: NC b k t m s1 s2 s3 :: L) h')) :
 Ev (fun n => aLi (aJ n) n (.p b 0) (.p b' 0) (.b c1) (.b c2) h) (fun v h' => v = .b (c1 && c2 && decide (k = k') && decide (t = t') && decide (m = m') && pU ks ks') ∧ Sy I A Q L h') := by
 unfold aLi
 unfold NC at S
 have o3 := h3.one
 have o3' := h3'.one
 cases c1 with
 | false =>
  refine ao ?_; refine yg ?_; refine yg ?_; refine ap ?_; refine yg ?_; refine yg ?_; refine yg ?_; refine yg ?_; refine yg ?_; refine ap ?_; refine yg ?_; refine yg ?_; refine yg ?_; refine yg ?_; refine yg ?_; refine ap ?_; refine yg ?_; refine yg ?_; refine yg ?_; refine yg ?_; refine yg ?_; refine ap ?_; refine yg ?_; refine yg ?_; refine yg ?_; refine yg ?_; refine yg ?_; refine yg ?_; refine yg ?_; refine ap ?_; refine yt ?_
  exact Ev.ret ⟨by simp, dp⟩
 | true =>
  cases c2 with
  | false =>
   refine an ?_; refine zf ?_; refine wm ?_; refine zf ?_; refine ao ?_; refine aq ?_; refine yg ?_; refine yg ?_; refine yg ?_; refine yg ?_; refine yg ?_; refine ap ?_; refine yg ?_; refine yg ?_; refine yg ?_; refine yg ?_; refine yg ?_; refine ap ?_; refine yg ?_; refine yg ?_; refine yg ?_; refine yg ?_; refine yg ?_; refine ap ?_; refine yg ?_; refine yg ?_; refine yg ?_; refine yg ?_; refine yg ?_; refine yg ?_; refine yg ?_; refine ap ?_; refine yt ?_
   exact Ev.ret ⟨by simp, dp⟩
  | true =>
   refine an ?_; refine zf ?_; refine wm ?_; refine zf ?_; refine an ?_; refine aq ?_; refine zf ?_; refine wf ?_; refine zf ?_; refine wl ?_; refine zf ?_; refine wf ?_; refine zf ?_; refine wl ?_; refine zf ?_
   refine Ev.ine (fun e1 => ?_) (fun e1 => ?_)
   ·refine aq ?_; refine yg ?_; refine yg ?_; refine yg ?_; refine yg ?_; refine yg ?_; refine ap ?_; refine yg ?_; refine yg ?_; refine yg ?_; refine yg ?_; refine yg ?_; refine ap ?_; refine yg ?_; refine yg ?_; refine yg ?_; refine yg ?_; refine yg ?_; refine yg ?_; refine yg ?_; refine ap ?_; refine yt ?_
    exact Ev.ret ⟨by simp [e1], dp⟩
   ·refine aq ?_; refine zf ?_; refine wf ?_; refine zf ?_; refine wl ?_; refine zf ?_; refine wf ?_; refine zf ?_; refine wl ?_; refine zf ?_
    refine Ev.sne (fun e2 => ?_) (fun e2 => ?_)
    ·refine aq ?_; refine yg ?_; refine yg ?_; refine yg ?_; refine yg ?_; refine yg ?_; refine ap ?_; refine yg ?_; refine yg ?_; refine yg ?_; refine yg ?_; refine yg ?_; refine yg ?_; refine yg ?_; refine ap ?_; refine yt ?_
     exact Ev.ret ⟨by simp [e2], dp⟩
    ·refine aq ?_; refine zf ?_; refine wf ?_; refine zf ?_; refine wl ?_; refine zf ?_; refine wf ?_; refine zf ?_; refine wl ?_; refine zf ?_
     refine Ev.ine (fun e3 => ?_) (fun e3 => ?_)
     ·refine aq ?_; refine yg ?_; refine yg ?_; refine yg ?_; refine yg ?_; refine yg ?_; refine yg ?_; refine yg ?_; refine ap ?_; refine yt ?_
      exact Ev.ret ⟨by simp [e3], dp⟩
     ·refine aq ?_; refine zf ?_; refine wf ?_; refine zf ?_; refine wl ?_; refine zf ?_
      refine Ev.op (h3.len _) ?_
      refine zf ?_; refine wf ?_; refine zf ?_; refine wl ?_; refine zf ?_
      refine Ev.op (h3'.len _) ?_
      refine zf ?_
      refine Ev.ine (fun e4 => ?_) (fun e4 => ?_)
      ·refine aq ?_; refine yt ?_
       refine Ev.ret ⟨?_, dp⟩
       rw [yJ ks ks' (by omega)]
       simp
      ·refine aq ?_; refine yj ?_
       unfold aTo aUq
       refine (loop (by omega)).mono ?_
       rintro v h' ⟨rfl, S'⟩
       exact ⟨by simp [e1, e2, e3], S'.dropL.dropL⟩
mutual
theorem aVy : ∀ (x y : Node) (I : Im) (A Q L : Ls) (h : Hp) (cs cs' : List DV), Sy I A Q L h → NV I x cs → NV I y cs' → Ev (fun n => aJ n 16 [.a cs, .a cs'] h) (fun v h' => v = .b (nEq x y) ∧ Sy I A Q L h')
 | .mk k t m ns ts ks, .mk k' t' m' ns' ts' ks', I, A, Q, L, h, cs, cs', S, ⟨s1, s2, s3, e, a1, a2, a3, cells, F, NL⟩, ⟨s1', s2', s3', e', a1', a2', a3', cells', F', NL'⟩ => by
  subst e
  subst e'
  have o1 := a1.2.one
  have o2 := a2.2.one
  have o3 := F.one
  have o1' := a1'.2.one
  have o2' := a2'.2.one
  have o3' := F'.one
  refine Ev.enter (fun n => cLn n _ _ h) ?_
  unfold s16
  refine Ev.box S rfl (fun b h1 S1 => ?_)
  refine Ev.box S1 rfl (fun b' h2 S2 => ?_)
  unfold aTk
  refine wf ?_; refine wl ?_; refine wf ?_; refine wl ?_
  refine Ev.call (aOp S2 a1 a1') ?_
  rintro _ _ ⟨rfl, rfl⟩
  unfold aWy
  refine wf ?_; refine wl ?_; refine wf ?_; refine wl ?_
  refine Ev.call (aOp S2 a2 a2') ?_
  rintro _ _ ⟨rfl, rfl⟩
  simp only [nEq]
  refine bGd (by exact S2) ⟨a3, cells, F, NL⟩ ⟨a3', cells', F', NL'⟩ o1 o2 o1' o2' ?_
  intro hl
  exact aCe ks ks' I A Q L _ _ _ [] [] b b' k k' t t' m m' s1 s2 s3 s1' s2' s3' ks ks' 0 0 ⟨a3, cells, F, NL⟩ ⟨a3', cells', F', NL'⟩ (by simp) (by simp) hl (by omega) S2 rfl rfl o3 o3'
theorem aCe : ∀ (r r' : List Node) (I : Im) (A Q L : Ls) (h : Hp) (c c' : List DV) (L0 L1 : Ls) (b b' : Pos) (k k' : Int) (t t' : List Nat) (m m' : Int) (s1 s2 s3 s1' s2' s3' : DV) (ks ks' : List Node) (i j : Nat), NS I s3 ks → NS I s3' ks' → ks.drop i = r → ks'.drop i = r' → r.length = r'.length → i ≤ ks.length →
 Sy I A Q ((b', some (.row .ex c')) :: (b, some (.row .ex c)) :: L) h → c[5]? = some s3 → c'[5]? = some s3' → s3.one = true → s3'.one = true →
 Ev (fun n => lB (aJ n) n (n - j) (.p b 0) (.p b' 0) (.i .i64 (i : Int)) h) (fun v h' => v = .b (pU r r') ∧ Sy I A Q ((b', some (.row .ex c')) :: (b, some (.row .ex c)) :: L) h')
 | [], r', I, A, Q, L, h, c, c', L0, L1, b, b', k, k', t, t', m, m', s1, s2, s3, s1', s2', s3', ks, ks', i, j, N, N', hr, hr', hl, hi, S, g, g', o3, o3' => by
  have h2 : r' = [] := by cases r' with
   | nil => rfl
   | cons => simp at hl
  subst h2
  refine Ev.loop j (ll := fun n p => lB (aJ n) n p (.p b 0) (.p b' 0) (.i .i64 (i : Int)) h) (bb := fun n p => uG (aJ n) n (lB (aJ n) n p) (.p b 0) (.p b' 0) (.i .i64 (i : Int)) h) (fun _ _ => rfl) ?_
  have hl2 : i = ks.length := by
   have := congrArg List.length hr
   simp at this
   omega
  unfold uG
  refine Ev.fld (Ev.op (ld1 (S.memL (List.Mem.tail _ (List.Mem.head _))) (by simpa using g) o3) ?_)
  refine Ev.op (N.len _) (Ev.ilt (fun e1 => ?_) (fun e1 => ?_))
  ·omega
  ·refine yj ?_
   unfold gT
   exact Ev.ret ⟨rfl, S⟩
 | x :: r, r', I, A, Q, L, h, c, c', L0, L1, b, b', k, k', t, t', m, m', s1, s2, s3, s1', s2', s3', ks, ks', i, j, N, N', hr, hr', hl, hi, S, g, g', o3, o3' => by
  obtain ⟨y, r', rfl⟩ : ∃ y q, r' = y :: q := by cases r' with
   | nil => simp at hl
   | cons y q => exact ⟨y, q, rfl⟩
  refine Ev.loop j (ll := fun n p => lB (aJ n) n p (.p b 0) (.p b' 0) (.i .i64 (i : Int)) h) (bb := fun n p => uG (aJ n) n (lB (aJ n) n p) (.p b 0) (.p b' 0) (.i .i64 (i : Int)) h) (fun _ _ => rfl) ?_
  have hx : ks[i]? = some x := by
   have := congrArg (fun l => l[0]?) hr
   simpa using this
  have hy : ks'[i]? = some y := by
   have := congrArg (fun l => l[0]?) hr'
   simpa using this
  have hlt := (List.getElem?_eq_some_iff.1 hx).1
  have e1' : ks.drop (i + 1) = r := by
   have := congrArg (List.drop 1) hr
   simpa [List.drop_drop] using this
  have e2' : ks'.drop (i + 1) = r' := by
   have := congrArg (List.drop 1) hr'
   simpa [List.drop_drop] using this
  have hb := N.1
  unfold uG
  have l1 := fun {h} (S : Sy I A Q ((b', some (.row .ex c')) :: (b, some (.row .ex c)) :: L) h) => ld1 (o := 0 + 5) (S.memL (List.Mem.tail _ (List.Mem.head _))) (by simpa using g) o3
  have l2 := fun {h} (S : Sy I A Q ((b', some (.row .ex c')) :: (b, some (.row .ex c)) :: L) h) => ld1 (o := 0 + 5) (S.memL (List.Mem.head _)) (by simpa using g') o3'
  refine Ev.fld (Ev.op (l1 S) ?_)
  refine Ev.op (N.len _) (Ev.ilt (fun e1 => ?_) (fun e1 => ?_))
  ·refine yt ?_; refine wf ?_
   refine Ev.op (l1 S) ?_
   obtain ⟨p1, q1, d1, u1, u2, u3⟩ := N.at hx
   obtain ⟨p2, q2, d2, v1, v2, v3⟩ := N'.at hy
   refine Ev.op (u1 _) (Ev.op (u3 _ _ _ _ _ (ILe.refl _) S) (Ev.fld (Ev.op (l2 S) (Ev.op (v1 _) (Ev.op (v3 _ _ _ _ _ (ILe.refl _) S) ?_)))))
   refine Ev.call (aVy x y I A Q _ h d1 d2 S u2 v2) ?_
   rintro _ h1 ⟨rfl, S1⟩
   simp only [pU]
   cases e : nEq x y with
   | false =>
    refine ao ?_; refine yt ?_
    exact Ev.ret ⟨by simp, S1⟩
   | true =>
    refine an ?_; refine yj ?_
    refine Ev.iadd ?_
    rw [fX (by omega)]
    refine (aCe r r' I A Q L h1 c c' L0 L1 b b' k k' t t' m m' s1 s2 s3 s1' s2' s3' ks ks' (i + 1) (j + 1) N N' e1' e2' (by simpa using hl) (by omega) S1 g g' o3 o3').mono ?_
    rintro v h' ⟨rfl, S2⟩
    exact ⟨by simp, S2⟩
  ·omega
end
end Go.Dd

namespace Go.Dd
def uN (c : Nat) : Bool := (decide (97 ≤ c) && decide (c ≤ 122)) || (decide (65 ≤ c) && decide (c ≤ 90))
def cA (s : List Nat) : Nat := if 0 ≤ dI 58 s 0 then 3 else match s with
 | [] => 2
 | c :: _ => if uN c = true then 1 else 2
def dK (k : Int) (t : List Nat) : Nat := if k = 7 then cA t else if k = 8 then 4 else if k = 6 then 5 else 0
def dF (s : List Nat) : List (List Nat) := (bQ 58 [] s).dropLast
def bA (l : List (Nat × List Nat)) (i h : Nat) : List Nat := match l[i]? with
 | none => []
 | some (own, x) => if own > h then 40 :: (x ++ [41]) else x
def cU (ps : List (List Nat)) (args : List (Nat × List Nat)) (i : Nat) : List (List Nat) := match ps with
 | [] => []
 | p :: ps => (p ++ 32 :: bA args i 2) :: cU ps args (i + 1)
def bC (s : List Nat) (args : List (Nat × List Nat)) : List Nat :=
 if cA s = 1 then s else if cA s = 2 then s ++ 32 :: bA args 0 1 else aN [32] (cU (dF s) args 0)
def dH (s : List Nat) (kids : List (Nat × List Nat)) : List Nat :=
 if kids.length = 0 then [] else bA kids 0 (if cA s = 1 then 1 else 2) ++ 32 :: bC s (kids.drop 1)
def cH (ts : List (List Nat)) (kids : List (List Nat)) : List Nat :=
 (if ts.length = 0 then [] else 124 :: 32 :: (aN [32] ts ++ [32, 124, 32])) ++ aN [46, 32] kids
structure Nf where
 k : Int
 t : List Nat
 tx : List Nat
 ks : List (Nat × List Nat)
def Nf.ht (x : Nf) : Nat × List Nat := (dK x.k x.t, x.tx)
def fT (l : List Nf) : List Nat := match l with
 | a :: b :: r => dH b.t (a.ht :: b.ks) ++ aN [] (r.map fun x => 59 :: 32 :: bC x.t x.ks)
 | _ => []
def bR : List (List Nat) → List Nat
 | [] => []
 | p :: l => 58 :: (p ++ 32 :: bR l)
def aBp (k : Int) (t : List Nat) (m : Int) (ns ts : List (List Nat)) (l : List Nf) : List Nat :=
 if k = 1 then sB m
 else if k = 2 then 39 :: (eC 39 [39, 39] t ++ [39])
 else if k = 3 then 35 :: t
 else if k = 4 then 35 :: 40 :: (aN [32] (l.map Nf.tx) ++ [41])
 else if k = 6 then t ++ 32 :: 58 :: 61 :: 32 :: aN [] (l.map Nf.tx)
 else if k = 10 then 94 :: aN [] (l.map Nf.tx)
 else if k = 7 then dH t (l.map Nf.ht)
 else if k = 8 then fT l
 else if k = 9 then 91 :: ((if bR ns = [] then [] else bR ns ++ [124, 32]) ++ (cH ts (l.map Nf.tx) ++ [93]))
 else t
mutual
def nf : Node → Nf
 | .mk k t m ns ts ks => ⟨k, t, aBp k t m ns ts (lL ks), (lL ks).map Nf.ht⟩
def lL : List Node → List Nf
 | [] => []
 | x :: l => nf x :: lL l
end
theorem zK : ∀ l, lL l = l.map nf
 | [] => rfl
 | x :: l => by simp [lL, zK l]
end Go.Dd

namespace Go.Dd
open Go.Proofs
theorem cAm (n : Nat) (x : DV) (h : Hp) : aJ (n + 1) 32 [x] h = s32 (aJ n) n x h := by kernel_rfl
theorem bSe (n : Nat) (x : DV) (h : Hp) : aJ (n + 1) 126 [x] h = s126 (aJ n) n x h := by kernel_rfl
theorem cIq (n : Nat) (x : DV) (h : Hp) : aJ (n + 1) 33 [x] h = s33 (aJ n) n x h := by kernel_rfl
theorem cMb (n : Nat) (x y : DV) (h : Hp) : aJ (n + 1) 58 [x, y] h = s58 (aJ n) n x y h := by kernel_rfl
theorem cLa (n : Nat) (x : DV) (h : Hp) : aJ (n + 1) 19 [x] h = s19 (aJ n) n x h := by kernel_rfl
theorem aXn {c : Nat} (h : (97 ≤ c ∧ c ≤ 122) ∨ (65 ≤ c ∧ c ≤ 90)) : uN c = true := by simp [uN]; omega
theorem aZs {c : Nat} (h : ¬ ((97 ≤ c ∧ c ≤ 122) ∨ (65 ≤ c ∧ c ≤ 90))) : uN c = false := by
 cases e : uN c with
 | false => rfl
 | true => exfalso; apply h; simp [uN] at e; omega
theorem tM (s : List Nat) (h : Hp) : Ev (fun n => aJ n 32 [.s s] h) (fun v h' => v = .i .i64 (cA s : Int) ∧ h' = h) := by
 refine Ev.enter (fun n => cAm n _ h) ?_
 unfold s32
 refine Ev.call (aBi s 58 (by decide) h) ?_
 rintro _ h ⟨rfl, rfl⟩
 refine Ev.ige (fun e => ?_) (fun e => ?_)
 ·have e' : (0 : Int) ≤ dI 58 s 0 := e
  refine yt ?_
  refine Ev.ret ⟨?_, rfl⟩
  unfold cA
  rw [if_pos e']; rfl
 ·have e' : ¬ (0 : Int) ≤ dI 58 s 0 := e
  refine yj ?_
  cases s with
  | nil =>
   refine Ev.op (show bY .neq (.s []) (.s []) h = some (.b false, h) from rfl) ?_
   refine yf ?_; refine yf ?_; refine yf ?_; refine yf ?_; refine yu ?_; refine yu ?_; refine yu ?_; refine yf ?_; refine yf ?_; refine yu ?_; refine yu ?_; refine yu ?_; refine yu ?_; refine yu ?_; refine yu ?_; refine yu ?_; refine yu ?_; refine yf ?_; refine aq ?_; refine yj ?_
   refine Ev.ret ⟨?_, rfl⟩
   unfold cA
   rw [if_neg e']; rfl
  | cons c l =>
   have ei : bF (.s (c :: l)) (.i .i64 (Int.ofNat 0)) h = some (.i .u8 (c : Int), h) := by simp [bF]
   have ek : cA (c :: l) = if uN c = true then 1 else 2 := by
    unfold cA
    rw [if_neg e']
   have k1 : ((97 ≤ c ∧ c ≤ 122) ∨ (65 ≤ c ∧ c ≤ 90)) → (cA (c :: l) : Int) = Int.ofNat 1 := fun hh => by rw [ek, aXn hh]; rfl
   have k2 : ¬ ((97 ≤ c ∧ c ≤ 122) ∨ (65 ≤ c ∧ c ≤ 90)) → (cA (c :: l) : Int) = Int.ofNat 2 := fun hh => by rw [ek, aZs hh]; rfl
   refine Ev.op (show bY .neq (.s (c :: l)) (.s []) h = some (.b true, h) from rfl) ?_
   refine zt ?_; refine wm ?_; refine zt ?_
   refine Ev.op ei ?_
   refine zt ?_
   refine Ev.ige (fun e1 => ?_) (fun e1 => ?_)
   ·have e1' : 97 ≤ c := by have h0 := e1; simp at h0; omega
    refine zt ?_; refine wm ?_; refine zt ?_; refine wm ?_; refine zt ?_
    refine Ev.op ei ?_
    refine zt ?_
    refine Ev.ile (fun e2 => ?_) (fun e2 => ?_)
    ·have e2' : c ≤ 122 := by have h0 := e2; simp at h0; omega
     refine zt ?_; refine ap ?_; refine zt ?_; refine wm ?_; refine yg ?_; refine yg ?_; refine yg ?_; refine yg ?_; refine yu ?_; refine yu ?_; refine yu ?_; refine yg ?_; refine zt ?_; refine ap ?_; refine ap ?_; refine yt ?_
     exact Ev.ret ⟨by rw [k1 (by omega)], rfl⟩
    ·have e2' : ¬ c ≤ 122 := by have h0 := e2; simp at h0; omega
     refine zt ?_; refine ap ?_; refine zt ?_; refine wm ?_; refine zf ?_; refine wm ?_; refine zf ?_
     refine Ev.op ei ?_
     refine zf ?_
     refine Ev.ige (fun e3 => ?_) (fun e3 => ?_)
     ·refine zf ?_; refine wm ?_; refine zt ?_; refine wm ?_; refine zt ?_
      refine Ev.op ei ?_
      refine zt ?_
      refine Ev.ile (fun e4 => ?_) (fun e4 => ?_)
      ·have e4' : c ≤ 90 := by have h0 := e4; simp at h0; omega
       omega
      ·refine zf ?_; refine ap ?_; refine zt ?_; refine aq ?_; refine ap ?_; refine yj ?_
       exact Ev.ret ⟨by rw [k2 (by omega)], rfl⟩
     ·have e3' : ¬ 65 ≤ c := by have h0 := e3; simp at h0; omega
      omega
   ·have e1' : ¬ 97 ≤ c := by have h0 := e1; simp at h0; omega
    refine zt ?_; refine wm ?_; refine yf ?_; refine yf ?_; refine yf ?_; refine zt ?_; refine aq ?_; refine zt ?_; refine wm ?_; refine zf ?_; refine wm ?_; refine zf ?_
    refine Ev.op ei ?_
    refine zf ?_
    refine Ev.ige (fun e3 => ?_) (fun e3 => ?_)
    ·have e3' : 65 ≤ c := by have h0 := e3; simp at h0; omega
     refine zf ?_; refine wm ?_; refine zt ?_; refine wm ?_; refine zt ?_
     refine Ev.op ei ?_
     refine zt ?_
     refine Ev.ile (fun e4 => ?_) (fun e4 => ?_)
     ·have e4' : c ≤ 90 := by have h0 := e4; simp at h0; omega
      refine zf ?_; refine ap ?_; refine zt ?_; refine aq ?_; refine ap ?_; refine yt ?_
      exact Ev.ret ⟨by rw [k1 (by omega)], rfl⟩
     ·have e4' : ¬ c ≤ 90 := by have h0 := e4; simp at h0; omega
      refine zf ?_; refine ap ?_; refine zt ?_; refine aq ?_; refine ap ?_; refine yj ?_
      exact Ev.ret ⟨by rw [k2 (by omega)], rfl⟩
    ·have e3' : ¬ 65 ≤ c := by have h0 := e3; simp at h0; omega
     refine zf ?_; refine wm ?_; refine yf ?_; refine yf ?_; refine yf ?_; refine zf ?_; refine aq ?_; refine zt ?_; refine aq ?_; refine ap ?_; refine yj ?_
     exact Ev.ret ⟨by rw [k2 (by omega)], rfl⟩
theorem aMr {I : Im} {A Q L : Ls} {h : Hp} (S : Sy I A Q L h) {x : Node} {cs : List DV} (N : NV I x cs) :
 Ev (fun n => aJ n 126 [.a cs] h) (fun v h' => v = .i .i64 (((nf x).ht).1 : Int) ∧ Sy I A Q L h') := by
 refine Ev.enter (fun n => bSe n _ h) ?_
 unfold s126
 obtain ⟨k, t, m, ns, ts, ks⟩ := x
 obtain ⟨s1, s2, s3, rfl, a, b, c, cells, F, NL⟩ := N
 have o1 := a.2.one
 have o2 := b.2.one
 have o3 := F.one
 have eh : ((nf (.mk k t m ns ts ks)).ht).1 = dK k t := by simp [nf, Nf.ht]
 rw [eh]
 refine wb fun _ _ _ => ?_; refine wf ?_; refine wl ?_
 refine Ev.ieq (fun e1 => ?_) (fun e1 => ?_)
 ·refine yt ?_; refine wf ?_; refine wl ?_
  refine Ev.call (tM t _) ?_
  rintro _ h1 ⟨rfl, rfl⟩
  refine Ev.ret ⟨?_, dp⟩
  rw [dK, if_pos (by simpa using e1)]
 ·refine Ev.iff ?_
  refine Ev.ieq (fun e2 => ?_) (fun e2 => ?_)
  ·refine yt ?_
   refine Ev.ret ⟨?_, dp⟩
   rw [dK, if_neg (by simpa using e1), if_pos (by simpa using e2)]; rfl
  ·refine Ev.iff ?_
   refine Ev.ieq (fun e3 => ?_) (fun e3 => ?_)
   ·refine yt ?_
    refine Ev.ret ⟨?_, dp⟩
    rw [dK, if_neg (by simpa using e1), if_neg (by simpa using e2), if_pos (by simpa using e3)]; rfl
   ·refine yj ?_
    refine Ev.ret ⟨?_, dp⟩
    rw [dK, if_neg (by simpa using e1), if_neg (by simpa using e2), if_neg (by simpa using e3)]; rfl
end Go.Dd

