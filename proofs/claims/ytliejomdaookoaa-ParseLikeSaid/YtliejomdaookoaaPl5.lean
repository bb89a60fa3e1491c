/- A part of the proof: Y4 B4 Z2 B5 Z4 Z5 B6 Z7: each text has a comment of its own. -/
import Derived.Test.YtliejomdaookoaaPl4
/- Dd, part Y4: the document's parser: expressions; a source as a node. -/
set_option linter.unusedVariables false
set_option linter.unusedSimpArgs false
set_option maxRecDepth 100000
namespace Go.Dd
open Go.Proofs

def casLD (P : PF) (g : Nat) : Nat → List Node → PSt → Option (Node × PSt)
  | 0, _, _ => none
  | f + 1, ks, st => (isS st 10 [59]).bind fun c => if c then (takeR st).bind fun r => (msgD P g r.2).bind fun q => casLD P g f (ks ++ [q.1]) q.2 else some (.mk 8 [] 0 [] [] ks, st)
def exprD (P E : PF) (g : Nat) : PF := fun st => (isS st 1 []).bind fun c => (if c then (lookS st 1).bind fun t => some (decide (t.kind = 9)) else some false).bind fun d =>
  if d then (takeR st).bind fun r => (takeR r.2).bind fun q => (E q.2).bind fun u => some (.mk 6 r.1.text 0 [] [] [u.1], u.2)
  else (P st).bind fun q => (unaryD g q.1 q.2).bind fun u => (binaryD P g g u.1 u.2).bind fun w => (keysD P g w.1 w.2).bind fun n =>
    (isS n.2 10 [59]).bind fun c => if c then
      if n.1.kind = 7 then (n.1.kids[0]?).bind fun k0 => casLD P g g [k0, sendN n.1.text (n.1.kids.drop 1)] n.2
      else (lookS n.2 0).bind fun t => some (n.1, failS n.2 t 13)
    else some n
def litFD : Nat → PF
  | 0 => literalsD (fun _ => none) 0
  | f + 1 => literalsD (litFD f) f
def exprFD : Nat → PF
  | 0 => fun _ => none
  | f + 1 => exprD (primaryD (litFD f) (exprFD f) f) (exprFD f) f
def tailD (f : Nat) (x : Node) (st : PSt) : Option (Node × Int × Int) := (tempsD f st).bind fun b => (stmtsLD (exprFD f) f [] b.2).bind fun c => (endD c.2).bind fun d =>
  if d.err = 0 then some (x.with b.1 c.1, 0, 0) else some (zN, d.pos, d.err)
def doitN : Node := .mk 11 [100, 111, 73, 116] 0 [] [] []
def readD (f : Nat) (lx : List Tok × Int × Int) : Option (Node × Int × Int) :=
  if lx.2.2 = 0 then if 1 ≤ lx.1.length then tailD f doitN ⟨lx.1, 0, 0, 0⟩ else none else some (zN, lx.2.1, lx.2.2)

theorem enter45 (n : Nat) (x : DV) (h : Hp) : shD (n + 1) 45 [x] h = s45 (shD n) n x h := by kernel_rfl
theorem enter16 (n : Nat) (x y : DV) (h : Hp) : shD (n + 1) 16 [x, y] h = s16 (shD n) n x y h := by kernel_rfl

theorem casD_loop {P : PF} (HP : NOkD 57 P) (g : Nat) (hg : g + 1 ≤ lim) : ∀ (f j : Nat) (I : Im) (B A L : Ls) (h : Hp) (p : Pos) (s x : DV) (i : Nat) (st : PSt) (xs : List Node) (y : Node) (cells c5 z : List DV) (st' : PSt) (b2 b5 b6 : Pos),
    Sy I (B ++ A) [PD p s i st] ((b6, some (.row .ex [.i .i64 (Int.ofNat 8), .s [], .i .i64 (Int.ofNat 0), .l0, .l0, x])) :: (b5, some (.row .ex c5)) :: (b2, some (.row .ex z)) :: L) h → Gr I 6 B x xs.length cells → NVL I xs cells → z.length = 6 → (∀ v ∈ z, v.one = true) →
    xs.length + f ≤ lim → TD I s i st.toks → casLD P g f xs st = some (y, st') →
    Ev (fun n => s45a13l (shD n) n (n - j) (.p p 0) (.p b2 0) (.p b6 0) h) (NPostD I A L p s y st')
  | 0, j, I, B, A, L, h, p, s, x, i, st, xs, y, cells, c5, z, st', b2, b5, b6, S, G, NL, z1, z2, hl, T, hm => by cases hm
  | f + 1, j, I, B, A, L, h, p, s, x, i, st, xs, y, cells, c5, z, st', b2, b5, b6, S, G, NL, z1, z2, hl, T, hm => by
    unfold casLD at hm
    obtain ⟨c, hc, hm⟩ := Option.bind_eq_some_iff.1 hm
    refine Ev.loop j (ll := fun n m => s45a13l (shD n) n m (.p p 0) (.p b2 0) (.p b6 0) h) (bb := fun n m => s45a13b (shD n) n (s45a13l (shD n) n m) (.p p 0) (.p b2 0) (.p b6 0) h) (fun _ _ => rfl) ?_
    have hx := G.one
    unfold s45a13b s45a12
    refine Ev.call (isD_ok S T hc) ?_
    rintro _ _ ⟨rfl, S1⟩
    cases c with
    | false =>
      rw [if_neg (by simp)] at hm
      simp only [Option.some.injEq, Prod.mk.injEq] at hm
      obtain ⟨rfl, rfl⟩ := hm
      obtain ⟨J, gJ, S3, N3⟩ := G.nodes NL S1 (by omega)
      have o3 := N3.one
      refine yj ?_; refine ws ?_; refine wt fun _ _ => ?_; refine ws ?_
      exact Ev.ret ⟨J, i, _, rfl, gJ, dp, T.mono gJ, NV.of (SS.nil J) (SS.nil J) N3⟩
    | true =>
      rw [if_pos rfl] at hm
      obtain ⟨⟨t1, st1⟩, ht, hm⟩ := Option.bind_eq_some_iff.1 hm
      obtain ⟨⟨y1, st2⟩, hy1, hm⟩ := Option.bind_eq_some_iff.1 hm
      refine yt ?_
      refine Ev.call (takeR_ok S1 T ht) ?_
      rintro _ _ ⟨rfl, i2, S2, T2⟩
      have Sr := S2.res
      refine wf ?_; refine wl ?_
      refine Ev.call (msgD_ok HP g hg _ _ _ _ _ _ _ _ _ _ Sr T2 hy1) ?_
      rintro _ _ ⟨J, i5, ds, rfl, g5, S5, T5, N5⟩
      obtain ⟨l5, o5, q5⟩ := N5.shape
      refine Ev.cnd ?_ ?_
      · rw [Bool.and_true]; exact same1S S5 (by first | exact List.Mem.head _ | exact (List.Mem.tail _ (List.Mem.head _)) | exact (List.Mem.tail _ (List.Mem.tail _ (List.Mem.head _))) | exact (List.Mem.tail _ (List.Mem.tail _ (List.Mem.tail _ (List.Mem.head _)))) | exact (List.Mem.tail _ (List.Mem.tail _ (List.Mem.tail _ (List.Mem.tail _ (List.Mem.head _))))) | exact (List.Mem.tail _ (List.Mem.tail _ (List.Mem.tail _ (List.Mem.tail _ (List.Mem.tail _ (List.Mem.head _)))))) | exact (List.Mem.tail _ (List.Mem.tail _ (List.Mem.tail _ (List.Mem.tail _ (List.Mem.tail _ (List.Mem.tail _ (List.Mem.head _))))))) | exact (List.Mem.tail _ (List.Mem.tail _ (List.Mem.tail _ (List.Mem.tail _ (List.Mem.tail _ (List.Mem.tail _ (List.Mem.tail _ (List.Mem.head _)))))))) | exact (List.Mem.tail _ (List.Mem.tail _ (List.Mem.tail _ (List.Mem.tail _ (List.Mem.tail _ (List.Mem.tail _ (List.Mem.tail _ (List.Mem.tail _ (List.Mem.head _)))))))))) rfl hx G.beq
      refine Ev.bsAt0 S5 (by first | exact Rpl.head _ | exact (Rpl.tail _ (Rpl.head _)) | exact (Rpl.tail _ (Rpl.tail _ (Rpl.head _))) | exact (Rpl.tail _ (Rpl.tail _ (Rpl.tail _ (Rpl.head _)))) | exact (Rpl.tail _ (Rpl.tail _ (Rpl.tail _ (Rpl.tail _ (Rpl.head _))))) | exact (Rpl.tail _ (Rpl.tail _ (Rpl.tail _ (Rpl.tail _ (Rpl.tail _ (Rpl.head _)))))) | exact (Rpl.tail _ (Rpl.tail _ (Rpl.tail _ (Rpl.tail _ (Rpl.tail _ (Rpl.tail _ (Rpl.head _))))))) | exact (Rpl.tail _ (Rpl.tail _ (Rpl.tail _ (Rpl.tail _ (Rpl.tail _ (Rpl.tail _ (Rpl.tail _ (Rpl.head _)))))))) | exact (Rpl.tail _ (Rpl.tail _ (Rpl.tail _ (Rpl.tail _ (Rpl.tail _ (Rpl.tail _ (Rpl.tail _ (Rpl.tail _ (Rpl.head _)))))))))) (fill6 l5) ?_
      intro h8 S8
      obtain ⟨x10, h10, B10, cells10, e10, S10, G10, NL10⟩ := app_node (G.mono g5) (NL.mono g5) N5 S8 (by first | exact List.Mem.head _ | exact (List.Mem.tail _ (List.Mem.head _)) | exact (List.Mem.tail _ (List.Mem.tail _ (List.Mem.head _))) | exact (List.Mem.tail _ (List.Mem.tail _ (List.Mem.tail _ (List.Mem.head _)))) | exact (List.Mem.tail _ (List.Mem.tail _ (List.Mem.tail _ (List.Mem.tail _ (List.Mem.head _))))) | exact (List.Mem.tail _ (List.Mem.tail _ (List.Mem.tail _ (List.Mem.tail _ (List.Mem.tail _ (List.Mem.head _)))))) | exact (List.Mem.tail _ (List.Mem.tail _ (List.Mem.tail _ (List.Mem.tail _ (List.Mem.tail _ (List.Mem.tail _ (List.Mem.head _))))))) | exact (List.Mem.tail _ (List.Mem.tail _ (List.Mem.tail _ (List.Mem.tail _ (List.Mem.tail _ (List.Mem.tail _ (List.Mem.tail _ (List.Mem.head _)))))))) | exact (List.Mem.tail _ (List.Mem.tail _ (List.Mem.tail _ (List.Mem.tail _ (List.Mem.tail _ (List.Mem.tail _ (List.Mem.tail _ (List.Mem.tail _ (List.Mem.head _)))))))))) (by omega)
      have hx10 := G10.one
      refine Ev.op e10 ?_
      refine wf ?_; refine wu fun _ _ => ?_
      refine (casD_loop HP g hg f (j + 1) J B10 A L _ p s x10 i5 st2 (xs ++ [y1]) y cells10 c5 z st' b2 b5 b6 ?_ G10 NL10 z1 z2 (by simp; omega) T5 hm).mono (NPostD.le g5)
      exact Sy.dropL (by assumption)

theorem exprD_ok {P E : PF} (HP : NOkD 57 P) (HE : NOkD 45 E) (g : Nat) (hg : g + 2 ≤ lim) : NOkD 45 (exprD P E g) := by
  intro I A L h p s i st x st' S T hm
  have hs := T.one
  unfold exprD at hm
  obtain ⟨c, hc, hm⟩ := Option.bind_eq_some_iff.1 hm
  obtain ⟨d, hd, hmd⟩ := Option.bind_eq_some_iff.1 hm
  clear hm
  refine Ev.enter (fun n => enter45 n _ h) ?_
  unfold s45
  refine wa fun _ _ _ => ?_
  unfold s45a1
  refine Ev.call (isD_ok (by assumption) T hc) ?_
  rintro _ _ ⟨rfl, S1⟩
  have neg : ∀ (b2 : Pos) (h' : Hp), d = false → Sy I A [PD p s i st] ((b2, some (.row .ex [.i .i64 (Int.ofNat 0), .s [], .i .i64 (Int.ofNat 0), .l0, .l0, .l0])) :: L) h' →
      Ev (fun n => s45a2 (shD n) n (.p p 0) (.p b2 0) h') (NPostD I A L p s x st') := by
    intro b2 h' hd S'
    subst hd
    rw [if_neg (by simp)] at hmd
    obtain ⟨⟨y1, st1⟩, hy1, hm⟩ := Option.bind_eq_some_iff.1 hmd
    obtain ⟨⟨y2, st2⟩, hy2, hm⟩ := Option.bind_eq_some_iff.1 hm
    obtain ⟨⟨y3, st3⟩, hy3, hm⟩ := Option.bind_eq_some_iff.1 hm
    obtain ⟨⟨y4, st4⟩, hy4, hm⟩ := Option.bind_eq_some_iff.1 hm
    obtain ⟨c, hc, hm⟩ := Option.bind_eq_some_iff.1 hm
    unfold s45a2
    refine Ev.call (HP _ _ _ _ _ _ _ _ _ _ S' T hy1) ?_
    rintro _ _ ⟨J1, i1, c1, rfl, g1, S1, T1, N1⟩
    obtain ⟨l1, o1, q1⟩ := N1.shape
    refine wa fun _ _ _ => ?_; refine wt fun _ _ => ?_
    unfold s45a3
    refine ws ?_
    refine Ev.call (unaryD_ok g _ _ _ _ _ _ _ _ _ _ _ _ (by assumption) T1 N1 hy2) ?_
    rintro _ _ ⟨J2, i2, c2, rfl, g2, S2, T2, N2⟩
    obtain ⟨l2, o2, q2⟩ := N2.shape
    refine wt fun _ _ => ?_
    unfold s45a4
    refine ws ?_
    refine Ev.call (binaryD_ok HP g g _ _ _ _ _ _ _ _ _ _ _ _ (by assumption) T2 N2 hy3) ?_
    rintro _ _ ⟨J3, i3, c3, rfl, g3, S3, T3, N3⟩
    obtain ⟨l3, o3, q3⟩ := N3.shape
    refine wt fun _ _ => ?_
    unfold s45a5
    refine ws ?_
    refine Ev.call (keysD_ok HP g (by omega) _ _ _ _ _ _ _ _ _ _ _ _ (by assumption) T3 N3 hy4) ?_
    rintro _ _ ⟨J4, i4, c4, rfl, g4, S4, T4, N4⟩
    have g14 := ((g1.trans g2).trans g3).trans g4
    obtain ⟨l4, o4, q4⟩ := N4.shape
    refine wt fun _ _ => ?_
    unfold s45a6
    refine Ev.call (isD_ok (by assumption) T4 hc) ?_
    rintro _ _ ⟨rfl, S5⟩
    cases c with
    | false =>
      rw [if_neg (by simp)] at hm
      simp only [Option.some.injEq, Prod.mk.injEq] at hm
      obtain ⟨rfl, rfl⟩ := hm
      refine ao ?_; refine yt ?_; refine ws ?_; refine wt fun _ _ => ?_; refine ws ?_
      exact Ev.ret ⟨J4, i4, _, rfl, g14, dp, T4, N4⟩
    | true =>
      rw [if_pos rfl] at hm
      have N4' := N4
      obtain ⟨k, t, m, ns, ts, ks⟩ := y4
      obtain ⟨d1, d2, d3, rfl, a1, a2, a3, cells, F, NL⟩ := N4
      have o1 := a1.2.one
      have o2 := a2.2.one
      have o3 := F.one
      refine an ?_; refine yj ?_
      unfold s45a7
      refine wf ?_; refine wl ?_
      refine Ev.ine (fun e1 => ?_) (fun e1 => ?_)
      · rw [if_neg (show ¬ Node.kind (.mk k t m ns ts ks) = 7 from e1)] at hm
        obtain ⟨u, hu, hm⟩ := Option.bind_eq_some_iff.1 hm
        simp only [Option.some.injEq, Prod.mk.injEq] at hm
        obtain ⟨rfl, rfl⟩ := hm
        refine yt ?_
        refine Ev.call (ahead_ok (k := 0) (by assumption) T4 hu (by omega)) ?_
        rintro _ _ ⟨rfl, S6⟩
        refine Ev.call (failD_ok S6 hs u _) ?_
        rintro _ _ ⟨rfl, S7⟩
        refine ws ?_; refine wt fun _ _ => ?_; refine ws ?_
        exact Ev.ret ⟨J4, i4, _, rfl, g14, dp, by rw [failS_toks]; exact T4, N4'⟩
      · rw [if_pos (show Node.kind (.mk k t m ns ts ks) = 7 from e1)] at hm
        obtain ⟨k0, hk0, hm⟩ := Option.bind_eq_some_iff.1 hm
        refine yj ?_
        unfold s45a8
        refine wd ?_; refine wa fun _ _ _ => ?_; refine wt fun _ _ => ?_
        unfold s45a9
        have Sr := Sy.res (by assumption)
        have NS3 : NS J4 d3 ks := ⟨a3, cells, F, NL⟩
        obtain ⟨b6, o6, c6, i6, N6, L6⟩ := NS3.at (i := 0) hk0
        obtain ⟨l6, o6', q6⟩ := N6.shape
        refine wf ?_; refine wl ?_; refine wf ?_; refine wl ?_
        refine Ev.op (i6 _) (Ev.op (L6 J4 _ _ _ _ (ILe.refl _) Sr) ?_)
        refine Ev.bsAt0 Sr (by first | exact Rpl.head _ | exact (Rpl.tail _ (Rpl.head _)) | exact (Rpl.tail _ (Rpl.tail _ (Rpl.head _))) | exact (Rpl.tail _ (Rpl.tail _ (Rpl.tail _ (Rpl.head _)))) | exact (Rpl.tail _ (Rpl.tail _ (Rpl.tail _ (Rpl.tail _ (Rpl.head _))))) | exact (Rpl.tail _ (Rpl.tail _ (Rpl.tail _ (Rpl.tail _ (Rpl.tail _ (Rpl.head _)))))) | exact (Rpl.tail _ (Rpl.tail _ (Rpl.tail _ (Rpl.tail _ (Rpl.tail _ (Rpl.tail _ (Rpl.head _))))))) | exact (Rpl.tail _ (Rpl.tail _ (Rpl.tail _ (Rpl.tail _ (Rpl.tail _ (Rpl.tail _ (Rpl.tail _ (Rpl.head _)))))))) | exact (Rpl.tail _ (Rpl.tail _ (Rpl.tail _ (Rpl.tail _ (Rpl.tail _ (Rpl.tail _ (Rpl.tail _ (Rpl.tail _ (Rpl.head _)))))))))) (fill6 l6) ?_
        intro h8 S8
        obtain ⟨x10, h10, B10, cells10, e10, S10, G10, NL10⟩ := app_node (B := []) (xs := []) (Gr.nil J4 6) rfl N6 S8 (by first | exact List.Mem.head _ | exact (List.Mem.tail _ (List.Mem.head _)) | exact (List.Mem.tail _ (List.Mem.tail _ (List.Mem.head _))) | exact (List.Mem.tail _ (List.Mem.tail _ (List.Mem.tail _ (List.Mem.head _)))) | exact (List.Mem.tail _ (List.Mem.tail _ (List.Mem.tail _ (List.Mem.tail _ (List.Mem.head _))))) | exact (List.Mem.tail _ (List.Mem.tail _ (List.Mem.tail _ (List.Mem.tail _ (List.Mem.tail _ (List.Mem.head _)))))) | exact (List.Mem.tail _ (List.Mem.tail _ (List.Mem.tail _ (List.Mem.tail _ (List.Mem.tail _ (List.Mem.tail _ (List.Mem.head _))))))) | exact (List.Mem.tail _ (List.Mem.tail _ (List.Mem.tail _ (List.Mem.tail _ (List.Mem.tail _ (List.Mem.tail _ (List.Mem.tail _ (List.Mem.head _)))))))) | exact (List.Mem.tail _ (List.Mem.tail _ (List.Mem.tail _ (List.Mem.tail _ (List.Mem.tail _ (List.Mem.tail _ (List.Mem.tail _ (List.Mem.tail _ (List.Mem.head _)))))))))) (by simp [lim])
        have hx10 := G10.one
        refine Ev.op e10 ?_
        refine wf ?_; refine wu fun _ _ => ?_
        unfold s45a10
        have Sr2 := Sy.res (by assumption)
        have hklen : 0 < ks.length := (List.getElem?_eq_some_iff.1 hk0).1
        obtain ⟨s', h11, M, e11, g11, S11, F11, _⟩ := F.rest Sr2 (i := 1) (by omega) hklen
        have o11 := F11.one
        refine wf ?_; refine wl ?_; refine wf ?_; refine wl ?_; refine wf ?_; refine wl ?_
        refine Ev.op e11 ?_
        refine Ev.cnd ?_ ?_
        · rw [same1S S11 (by first | exact List.Mem.head _ | exact (List.Mem.tail _ (List.Mem.head _)) | exact (List.Mem.tail _ (List.Mem.tail _ (List.Mem.head _))) | exact (List.Mem.tail _ (List.Mem.tail _ (List.Mem.tail _ (List.Mem.head _)))) | exact (List.Mem.tail _ (List.Mem.tail _ (List.Mem.tail _ (List.Mem.tail _ (List.Mem.head _))))) | exact (List.Mem.tail _ (List.Mem.tail _ (List.Mem.tail _ (List.Mem.tail _ (List.Mem.tail _ (List.Mem.head _)))))) | exact (List.Mem.tail _ (List.Mem.tail _ (List.Mem.tail _ (List.Mem.tail _ (List.Mem.tail _ (List.Mem.tail _ (List.Mem.head _))))))) | exact (List.Mem.tail _ (List.Mem.tail _ (List.Mem.tail _ (List.Mem.tail _ (List.Mem.tail _ (List.Mem.tail _ (List.Mem.tail _ (List.Mem.head _)))))))) | exact (List.Mem.tail _ (List.Mem.tail _ (List.Mem.tail _ (List.Mem.tail _ (List.Mem.tail _ (List.Mem.tail _ (List.Mem.tail _ (List.Mem.tail _ (List.Mem.head _)))))))))) rfl rfl (beq_s _), same1S S11 (by first | exact List.Mem.head _ | exact (List.Mem.tail _ (List.Mem.head _)) | exact (List.Mem.tail _ (List.Mem.tail _ (List.Mem.head _))) | exact (List.Mem.tail _ (List.Mem.tail _ (List.Mem.tail _ (List.Mem.head _)))) | exact (List.Mem.tail _ (List.Mem.tail _ (List.Mem.tail _ (List.Mem.tail _ (List.Mem.head _))))) | exact (List.Mem.tail _ (List.Mem.tail _ (List.Mem.tail _ (List.Mem.tail _ (List.Mem.tail _ (List.Mem.head _)))))) | exact (List.Mem.tail _ (List.Mem.tail _ (List.Mem.tail _ (List.Mem.tail _ (List.Mem.tail _ (List.Mem.tail _ (List.Mem.head _))))))) | exact (List.Mem.tail _ (List.Mem.tail _ (List.Mem.tail _ (List.Mem.tail _ (List.Mem.tail _ (List.Mem.tail _ (List.Mem.tail _ (List.Mem.head _)))))))) | exact (List.Mem.tail _ (List.Mem.tail _ (List.Mem.tail _ (List.Mem.tail _ (List.Mem.tail _ (List.Mem.tail _ (List.Mem.tail _ (List.Mem.tail _ (List.Mem.head _)))))))))) rfl hx10 G10.beq]; rfl
        have N11 : NS M s' (ks.drop 1) := ⟨by simp; omega, _, by simpa using F11, by simpa using (NL.mono g11).drop 1⟩
        have N12 := NV.of (I := M) (k := 7) (t := t) (m := 0) (SS.nil M) (SS.nil M) N11
        obtain ⟨l12, o12, q12⟩ := N12.shape
        refine wd ?_
        refine Ev.bsAt0 S11 (by first | exact Rpl.head _ | exact (Rpl.tail _ (Rpl.head _)) | exact (Rpl.tail _ (Rpl.tail _ (Rpl.head _))) | exact (Rpl.tail _ (Rpl.tail _ (Rpl.tail _ (Rpl.head _)))) | exact (Rpl.tail _ (Rpl.tail _ (Rpl.tail _ (Rpl.tail _ (Rpl.head _))))) | exact (Rpl.tail _ (Rpl.tail _ (Rpl.tail _ (Rpl.tail _ (Rpl.tail _ (Rpl.head _)))))) | exact (Rpl.tail _ (Rpl.tail _ (Rpl.tail _ (Rpl.tail _ (Rpl.tail _ (Rpl.tail _ (Rpl.head _))))))) | exact (Rpl.tail _ (Rpl.tail _ (Rpl.tail _ (Rpl.tail _ (Rpl.tail _ (Rpl.tail _ (Rpl.tail _ (Rpl.head _)))))))) | exact (Rpl.tail _ (Rpl.tail _ (Rpl.tail _ (Rpl.tail _ (Rpl.tail _ (Rpl.tail _ (Rpl.tail _ (Rpl.tail _ (Rpl.head _)))))))))) (fill6 l12) ?_
        intro h13 S13
        obtain ⟨x14, h14, B14, cells14, e14, S14, G14, NL14⟩ := app_node (xs := [k0]) (G10.mono g11) (NL10.mono g11) N12 S13 (by first | exact List.Mem.head _ | exact (List.Mem.tail _ (List.Mem.head _)) | exact (List.Mem.tail _ (List.Mem.tail _ (List.Mem.head _))) | exact (List.Mem.tail _ (List.Mem.tail _ (List.Mem.tail _ (List.Mem.head _)))) | exact (List.Mem.tail _ (List.Mem.tail _ (List.Mem.tail _ (List.Mem.tail _ (List.Mem.head _))))) | exact (List.Mem.tail _ (List.Mem.tail _ (List.Mem.tail _ (List.Mem.tail _ (List.Mem.tail _ (List.Mem.head _)))))) | exact (List.Mem.tail _ (List.Mem.tail _ (List.Mem.tail _ (List.Mem.tail _ (List.Mem.tail _ (List.Mem.tail _ (List.Mem.head _))))))) | exact (List.Mem.tail _ (List.Mem.tail _ (List.Mem.tail _ (List.Mem.tail _ (List.Mem.tail _ (List.Mem.tail _ (List.Mem.tail _ (List.Mem.head _)))))))) | exact (List.Mem.tail _ (List.Mem.tail _ (List.Mem.tail _ (List.Mem.tail _ (List.Mem.tail _ (List.Mem.tail _ (List.Mem.tail _ (List.Mem.tail _ (List.Mem.head _)))))))))) (by simp [lim])
        have hx14 := G14.one
        refine Ev.op e14 ?_
        refine wf ?_; refine wu fun _ _ => ?_
        unfold s45a11 s45a13
        refine (casD_loop HP g (by omega) g 0 M B14 A L _ p s x14 i4 st4 [k0, sendN t (ks.drop 1)] x cells14 _ _ st' _ _ _ (Sy.dropL (Sy.dropL (by assumption))) G14 NL14 (by rfl) (by first | assumption | exact tc_ones _ | (repeat (first | exact ones_nil | refine ones_cons (by first | rfl | assumption | exact Fz.one (by assumption)) ?_))) (by simp; omega) (T4.mono g11) hm).mono (NPostD.le (g14.trans g11))
  cases c with
  | false =>
    simp only [Bool.false_eq_true, if_false, Option.some.injEq] at hd
    refine yf ?_; refine yf ?_; refine yf ?_; refine yf ?_; refine aq ?_; refine yj ?_
    exact neg _ _ hd.symm S1
  | true =>
    rw [if_pos rfl] at hd
    obtain ⟨u, hu, hd⟩ := Option.bind_eq_some_iff.1 hd
    simp only [Option.some.injEq] at hd
    refine zt ?_; refine wm ?_; refine zt ?_
    refine Ev.call (ahead_ok (k := 1) S1 T hu (by omega)) ?_
    rintro _ _ ⟨rfl, S2⟩
    refine zt ?_; refine wp ?_; refine zt ?_
    refine Ev.ieq (fun e1 => ?_) (fun e1 => ?_)
    · refine ap ?_; refine yt ?_
      rw [← hd, decide_eq_true (show u.kind = 9 from e1), if_pos rfl] at hmd
      obtain ⟨⟨t1, st1⟩, ht1, hm⟩ := Option.bind_eq_some_iff.1 hmd
      obtain ⟨⟨t2, st2⟩, ht2, hm⟩ := Option.bind_eq_some_iff.1 hm
      obtain ⟨⟨y, st3⟩, hy, hm⟩ := Option.bind_eq_some_iff.1 hm
      simp only [Option.some.injEq, Prod.mk.injEq] at hm
      obtain ⟨rfl, rfl⟩ := hm
      refine Ev.call (takeR_ok S2 T ht1) ?_
      rintro _ _ ⟨rfl, i3, S3, T3⟩
      refine wp ?_
      refine Ev.call (takeR_ok S3 T3 ht2) ?_
      rintro _ _ ⟨rfl, i4, S4, T4⟩
      refine Ev.call (HE _ _ _ _ _ _ _ _ _ _ S4 T4 hy) ?_
      rintro _ _ ⟨J, i5, ds, rfl, g5, S5, T5, N5⟩
      obtain ⟨l5, o5, q5⟩ := N5.shape
      refine wa fun _ _ _ => ?_; refine wt fun _ _ => ?_; refine ws ?_
      refine Ev.bs (by assumption) (fill6 l5) ?_
      intro b6 h6 S6
      obtain ⟨K, gK, S7, F7, _⟩ := Fz.built (sz := 6) (n := 1) S6 (by omega) o5
      have N7 : NS K _ [y] := ⟨by simp [lim], ds, F7, NVL.single (N5.mono gK)⟩
      refine wd ?_; refine wt fun _ _ => ?_; refine ws ?_
      exact Ev.ret ⟨K, i5, _, rfl, g5.trans gK, dp, T5.mono gK, NV.of (SS.nil K) (SS.nil K) N7⟩
    · refine ap ?_; refine yj ?_
      exact neg _ _ (by rw [← hd, decide_eq_false (show ¬ u.kind = 9 from e1)]) S2

theorem litFD_ok : ∀ (f : Nat), f ≤ lim → NOkD 74 (litFD f)
  | 0, _ => literalsD_ok (fun I A L h p s i st x st' S T hm => by cases hm) 0 (by simp)
  | f + 1, hf => literalsD_ok (litFD_ok f (by omega)) f (by omega)
theorem exprFD_ok : ∀ (f : Nat), f + 2 ≤ lim → NOkD 45 (exprFD f)
  | 0, _ => fun I A L h p s i st x st' S T hm => by cases hm
  | f + 1, hf => exprD_ok (primaryD_ok (litFD_ok f (by omega)) (exprFD_ok f (by omega)) f (by omega)) (exprFD_ok f (by omega)) f (by omega)

section
variable {I : Im} {A L : Ls} {h : Hp} {p : Pos} {s : DV} {i : Nat} {st : PSt}

theorem takeE_ok (S : Sy I A [PD p s i st] L h) (T : TD I s i st.toks) {t : Tok} (hu : lookS st 0 = some t) :
    Ev (fun n => shD n 42 [.p p 0] h) (fun v h' => v = .a (tc t) ∧ Sy I A [PD p s (i + 1) st] L h') := by
  have hs := T.one
  refine Ev.enter (fun n => enter42 n _ h) ?_
  unfold s42
  refine wa fun _ _ _ => ?_
  refine Ev.call (ahead_ok (k := 0) (by assumption) T hu (by omega)) ?_
  rintro _ _ ⟨rfl, S1⟩
  obtain ⟨T, T1, T2, T3⟩ := T
  have hl := T1.1
  have hlen : st.toks.length = T.length - i := by rw [← T2]; simp
  refine wa fun _ _ _ => ?_; refine wt fun _ _ => ?_; refine wn ?_; refine wf ?_; refine wq ?_
  refine Ev.iadd ?_
  rw [wadd1 (by simp [lim] at hl ⊢; omega)]
  refine wn ?_; refine wf ?_; refine wv fun _ _ => ?_; refine ws ?_; refine wt fun _ _ => ?_; refine ws ?_
  exact Ev.ret ⟨rfl, dp⟩

theorem endD_ok (S : Sy I A [PD p s i st] L h) (T : TD I s i st.toks) {st' : PSt} (ht : endD st = some st') :
    Ev (fun n => shD n 28 [.p p 0, .i .i64 (Int.ofNat 0), .s []] h) (fun v h' => ∃ i', Sy I A [PD p s i' st'] L h') := by
  unfold endD at ht
  obtain ⟨c, hc, ht⟩ := Option.bind_eq_some_iff.1 ht
  have hc' := hc
  unfold isS at hc'
  obtain ⟨t, htt, _⟩ := Option.bind_eq_some_iff.1 hc'
  refine Ev.enter (fun n => enter28 n _ _ _ h) ?_
  unfold s28
  refine wa fun _ _ _ => ?_
  refine Ev.call (isD_ok (kind := 0) (by assumption) T hc) ?_
  rintro _ _ ⟨rfl, S1⟩
  cases c with
  | true =>
    refine an ?_; refine yj ?_
    rw [if_pos rfl] at ht
    cases ht
    refine Ev.call (takeE_ok (by assumption) T htt) ?_
    rintro _ _ ⟨rfl, S2⟩
    refine wt fun _ _ => ?_; refine ws ?_
    exact Ev.ret ⟨i + 1, dp⟩
  | false =>
    refine ao ?_; refine yt ?_
    obtain ⟨u, hu, ht⟩ := Option.bind_eq_some_iff.1 (by simpa using ht)
    simp only [Option.some.injEq] at ht
    subst ht
    refine Ev.call (ahead_ok (k := 0) (by assumption) T hu (by omega)) ?_
    rintro _ _ ⟨rfl, S2⟩
    refine Ev.call (failD_ok (by assumption) T.one u _) ?_
    rintro _ _ ⟨rfl, S3⟩
    refine wd ?_; refine wt fun _ _ => ?_; refine ws ?_
    exact Ev.ret ⟨i, dp⟩

theorem tailD_ok {b4 b11 : Pos} {z : List DV} {k : Int} {tt : List Nat} {mm : Int} {ns ts0 : List (List Nat)} {ks0 : List Node} {d1 d2 d3 : DV} (f : Nat) (hf : f + 2 ≤ lim)
    (S : Sy I A [PD p s i st] ((b11, some (.row .ex [.i .i64 k, .s tt, .i .i64 mm, d1, d2, d3])) :: (b4, some (.row .ex z)) :: L) h) (z1 : z.length = 6) (z2 : ∀ v ∈ z, v.one = true) (T : TD I s i st.toks) (a1 : SS I d1 ns) (q2 : d2.one = true) (q3 : d3.one = true)
    {res : Node × Int × Int} (hm : tailD f (.mk k tt mm ns ts0 ks0) st = some res) : Ev (fun n => s16a6 (shD n) n (.p b4 0) (.p p 0) (.p b11 0) h) (RPost I A L res) := by
  unfold tailD at hm
  obtain ⟨⟨ts, st2⟩, h2, hm⟩ := Option.bind_eq_some_iff.1 hm
  obtain ⟨⟨ks, st3⟩, h3, hm⟩ := Option.bind_eq_some_iff.1 hm
  obtain ⟨st4, h4, hm⟩ := Option.bind_eq_some_iff.1 hm
  have hs := T.one
  have q1 := a1.2.one
  unfold s16a6
  refine Ev.call (tempsD_ok f (by omega) S T h2) ?_
  rintro v3 _ ⟨M, i3, g3, S3, T3, N3⟩
  have q4 := N3.2.one
  refine wf ?_; refine wu fun _ _ => ?_
  refine Ev.call (stmtsD_ok (exprFD_ok f hf) f (by omega) (by assumption) T3 h3) ?_
  rintro v4 _ ⟨O, i4, g4, S4, T4, N4⟩
  have q5 := N4.one
  refine wf ?_; refine wu fun _ _ => ?_
  refine Ev.call (endD_ok (by assumption) T4 h4) ?_
  rintro _ _ ⟨i5, S5⟩
  have hdrop : ∀ {K : Im} {e : Pos × Option Ob} {M : Ls} {h'' : Hp}, Sy K A [e] M h'' → Sy K A [] M h'' := fun S => Sy.dropL (Sy.lQ (Q := []) S)
  refine wn ?_; refine wf ?_; refine wq ?_
  refine Ev.ine (fun e2 => ?_) (fun e2 => ?_)
  · rw [if_neg (show ¬ st4.err = 0 from e2)] at hm
    cases hm
    refine yt ?_; refine wd ?_; refine wn ?_; refine wf ?_; refine wq ?_; refine wn ?_; refine wf ?_; refine wq ?_; refine wt fun _ _ => ?_
    refine Ev.cnd ?_ ?_
    · rename_i hq Sq
      rw [ld1 (Sq.memQ (List.Mem.head _)) rfl rfl, ld1 (Sq.memQ (List.Mem.head _)) rfl rfl]
      simp [sameR, DV.beq]
    refine ws ?_
    exact Ev.ret ⟨O, _, rfl, g3.trans g4, hdrop (dp), NV.flat _ _ _⟩
  · rw [if_pos (show st4.err = 0 from e2)] at hm
    cases hm
    refine yj ?_; refine ws ?_; refine wt fun _ _ => ?_; refine ws ?_
    refine Ev.ret ⟨O, _, rfl, g3.trans g4, hdrop (dp), ?_⟩
    exact NV.of ((a1.mono g3).mono g4) (N3.mono g4) N4
end

/-- The document's node of statements. -/
theorem ReadD_ok {I : Im} {A L : Ls} {h : Hp} (S : Sy I A [] L h) {s : List Nat} (hs : s.length ≤ lim) (g fl f : Nat) (hfl : fl ≤ lim) (hf : f + 2 ≤ lim)
    (lx : List Tok × Int × Int) (hl : lexM g fl s = some lx) (res : Node × Int × Int) (hm : readD f lx = some res) :
    Ev (fun n => shD n 16 [.s s, .b false] h) (RPost I A L res) := by
  refine Ev.enter (fun n => enter16 n _ _ h) ?_
  unfold s16
  unfold readD at hm
  refine wa fun _ _ _ => ?_
  unfold s16a1
  refine Ev.call (rlex_ok (by assumption) hs g fl hfl lx hl) ?_
  rintro _ h1 ⟨J, x1, rfl, g1, S1, T1⟩
  have o1 := T1.2.one
  refine wx ?_; refine wx ?_; refine wx ?_
  unfold s16a2
  refine Ev.ine (fun e1 => ?_) (fun e1 => ?_)
  · rw [if_neg (show ¬ lx.2.2 = 0 from e1)] at hm
    cases hm
    refine yt ?_; refine wd ?_; refine wt fun _ _ => ?_; refine ws ?_
    exact Ev.ret ⟨J, _, rfl, g1, dp, NV.flat _ _ _⟩
  · rw [if_pos (show lx.2.2 = 0 from e1)] at hm
    split at hm
    · rename_i hlen
      refine yj ?_
      unfold s16a3
      refine wd ?_; refine wb fun _ _ _ => ?_
      rename_i p hp Sp
      have Sq := Sy.qL Sp
      have Sq : Sy J A [PD p x1 0 ⟨lx.1, 0, 0, 0⟩] _ hp := Sq
      unfold s16a4
      refine wd ?_; refine wa fun _ _ _ => ?_; refine wt fun _ _ => ?_
      unfold s16a5
      refine yj ?_
      refine (tailD_ok (I := J) (k := 11) (tt := [100, 111, 73, 116]) (mm := 0) (ns := []) (ts0 := []) (ks0 := []) f hf (by assumption) rfl (by first | assumption | exact tc_ones _ | (repeat (first | exact ones_nil | refine ones_cons (by first | rfl | assumption | exact Fz.one (by assumption)) ?_))) ⟨lx.1, T1, by simp, hlen⟩ (SS.nil J) rfl rfl hm).mono ?_
      rintro v h' ⟨K, cs, e, g2, S2, N2⟩
      exact ⟨K, cs, e, g1.trans g2, S2, N2⟩
    · cases hm

end Go.Dd

/- Dd, part B4: plain: the document's parser says what the program's says. -/
set_option linter.unusedVariables false
set_option linter.unusedSimpArgs false
set_option maxRecDepth 100000
namespace Go.Dd

/-- Tokens as the lexer makes them. -/
def TOk (t : Tok) : Prop := (t.kind = 4 → t.text = []) ∧ (t.kind = 5 ∨ t.kind = 6 → t.num = 0)
def GT (l : List Tok) : Prop := 1 ≤ l.length ∧ ∀ t ∈ l, TOk t
theorem GT.drop {l : List Tok} (h : GT l) (h2 : 2 ≤ l.length) : GT (l.drop 1) := ⟨by simp; omega, fun t ht => h.2 t (List.mem_of_mem_drop ht)⟩

/-- The program's state and the document's: the same, up to an error; then the error and its place. -/
def RR (a b : PSt) : Prop := GT b.toks ∧ b.err = a.err ∧ b.pos = a.pos ∧ (a.err = 0 → a = b)
def RQ {α β : Type} (e : Int) (V : α → β → Prop) (o : Option (α × PSt)) (o' : Option (β × PSt)) : Prop := ∀ x s, o = some (x, s) → (s.err = 0 → e = 0) ∧ ∃ y s', o' = some (y, s') ∧ RR s s' ∧ (s.err = 0 → V x y)

section
variable {α α' β β' : Type} {V : α → α' → Prop} {W : β → β' → Prop} {e : Int}
theorem RQ.bind {o : Option (α × PSt)} {o' : Option (α' × PSt)} {k : α × PSt → Option (β × PSt)} {k' : α' × PSt → Option (β' × PSt)} (H : RQ e V o o') (K : ∀ x y s s', RR s s' → (s.err = 0 → e = 0) → (s.err = 0 → V x y) → RQ s.err W (k (x, s)) (k' (y, s'))) : RQ e W (o.bind k) (o'.bind k') := by
  intro y t h
  obtain ⟨⟨x, s⟩, e1, e2⟩ := Option.bind_eq_some_iff.1 h
  obtain ⟨h0, x', s', a, b, c⟩ := H x s e1
  obtain ⟨h1, y', t', d⟩ := K x x' s s' b h0 c y t e2
  exact ⟨fun h => h0 (h1 h), y', t', by rw [a]; exact d.1, d.2⟩
theorem RQ.bindB {γ : Type} {o o' : Option γ} {k : γ → Option (β × PSt)} {k' : γ → Option (β' × PSt)} (H : ∀ b, o = some b → o' = some b) (K : ∀ b, o = some b → RQ e W (k b) (k' b)) : RQ e W (o.bind k) (o'.bind k') := by
  intro y t h
  obtain ⟨x, e1, e2⟩ := Option.bind_eq_some_iff.1 h
  obtain ⟨h1, y', t', d⟩ := K x e1 y t e2
  exact ⟨h1, y', t', by rw [H x e1]; exact d.1, d.2⟩
theorem RQ.some {x : α} {y : α'} {s s' : PSt} (r : RR s s') (h : s.err = 0 → e = 0) (v : s.err = 0 → V x y) : RQ e V (some (x, s)) (some (y, s')) := fun _ _ q => by
  cases q; exact ⟨h, _, _, rfl, r, v⟩
theorem RQ.none {o : Option (β × PSt)} {V : α → β → Prop} : RQ e V none o := fun _ _ q => by cases q
theorem RQ.mono {o : Option (α × PSt)} {o' : Option (α' × PSt)} {e' : Int} {U : α → α' → Prop} (H : RQ e V o o') (he : e = 0 → e' = 0) (k : ∀ x y, V x y → U x y) : RQ e' U o o' := fun x s q => by
  obtain ⟨a, y, s', b, c, d⟩ := H x s q
  exact ⟨fun h => he (a h), y, s', b, c, fun h => k _ _ (d h)⟩
end

theorem RR.refl {a : PSt} (h : GT a.toks) : RR a a := ⟨h, rfl, rfl, fun _ => rfl⟩
theorem RR.eq {a b : PSt} (h : RR a b) (e : a.err = 0) : a = b := h.2.2.2 e

variable {a b : PSt}

theorem look_some {b : PSt} (h : GT b.toks) : ∃ t, lookS b 0 = some t := by
  have := h.1
  unfold lookS
  exact ⟨_, List.getElem?_eq_getElem (by omega)⟩

theorem is_Q (R : RR a b) (k : Int) (t : List Nat) : ∀ c, isS a k t = some c → isS b k t = some c := by
  intro c h
  by_cases e : a.err = 0
  · rw [← R.eq e]; exact h
  · unfold isS at h ⊢
    obtain ⟨x, _, h⟩ := Option.bind_eq_some_iff.1 h
    obtain ⟨y, hy⟩ := look_some R.1
    rw [hy, Option.bind_some, R.2.1]
    rw [← h]
    simp [e]

theorem is_true {st : PSt} {k : Int} {t : List Nat} (h : isS st k t = some true) : st.err = 0 ∧ ∃ u, lookS st 0 = some u ∧ u.kind = k ∧ (t = [] ∨ u.text = t) := by
  unfold isS at h
  obtain ⟨x, hx, h⟩ := Option.bind_eq_some_iff.1 h
  simp only [Option.some.injEq, Bool.and_eq_true, Bool.or_eq_true, decide_eq_true_eq] at h
  exact ⟨h.1.1, x, hx, h.1.2, h.2⟩

theorem fail_Q (R : RR a b) {t t' : Tok} {e : Int} (he : e ≠ 0) (ht : a.err = 0 → t = t') : RR (failS a t e) (failS b t' e) ∧ (failS a t e).err ≠ 0 := by
  unfold failS
  rw [R.2.1]
  by_cases h : a.err = 0
  · rw [if_pos h, if_pos h]
    have := R.eq h
    subst this
    rw [ht h]
    exact ⟨RR.refl R.1, he⟩
  · rw [if_neg h, if_neg h]
    exact ⟨R, h⟩

/-- After a test: the states are one, and the next token is taken from both. -/
theorem takeB (R : RR a b) {k : Int} {t : List Nat} (hk : k ≠ 0) (h : isS a k t = some true) {β β' : Type} {W : β → β' → Prop} {K : Tok × PSt → Option (β × PSt)} {K' : Tok × PSt → Option (β' × PSt)}
    (H : ∀ x s, s.err = 0 → GT s.toks → x.kind = k → lookS a 0 = some x → RR s s → RQ 0 W (K (x, s)) (K' (x, s))) : RQ a.err W ((takeS a).bind K) ((takeR b).bind K') := by
  obtain ⟨e, u, hu, hk2, _⟩ := is_true h
  have := R.eq e
  subst this
  unfold takeS takeR
  rw [hu]
  simp only [Option.bind_some]
  have hu0 : ¬ u.kind = 0 := by rw [hk2]; exact hk
  rw [if_neg hu0, if_neg hu0]
  by_cases hl : 2 ≤ a.toks.length
  · rw [if_pos hl]
    simp only [Option.bind_some]
    exact (H u { a with toks := a.toks.drop 1 } e (R.1.drop hl) hk2 hu (RR.refl (R.1.drop hl))).mono (fun _ => e) (fun _ _ h => h)
  · rw [if_neg hl]
    exact RQ.none

theorem need_Q (R : RR a b) {k : Int} (hk : k ≠ 0) (t : List Nat) : RQ a.err (fun x y => x = y) (needS a k t) (needD b k t) := by
  unfold needS needD
  refine RQ.bindB (is_Q R k t) fun c hc => ?_
  cases c with
  | true =>
    simp only [if_true]
    have := takeB R hk hc (K := some) (K' := some) (W := fun x y => x = y) (fun x s e h1 h2 h3 h4 => RQ.some h4 (fun _ => rfl) (fun _ => rfl))
    simpa using this
  | false =>
    simp only [Bool.false_eq_true, if_false]
    intro y s h
    obtain ⟨u, hu, h⟩ := Option.bind_eq_some_iff.1 h
    simp only [Option.some.injEq, Prod.mk.injEq] at h
    obtain ⟨rfl, rfl⟩ := h
    obtain ⟨v, hv⟩ := look_some R.1
    obtain ⟨q1, q2⟩ := fail_Q R (t := u) (t' := v) (e := 13) (by decide) (fun e => by rw [R.eq e, hv] at hu; cases hu; rfl)
    exact ⟨fun e => absurd e q2, z4, _, by rw [hv]; rfl, q1, fun e => absurd e q2⟩

theorem end_Q (R : RR a b) {t : Tok} {s : PSt} (h : needS a 0 [] = some (t, s)) : ∃ s', endD b = some s' ∧ RR s s' ∧ (s.err = 0 → a.err = 0) := by
  unfold needS at h
  obtain ⟨c, hc, h⟩ := Option.bind_eq_some_iff.1 h
  unfold endD
  rw [is_Q R 0 [] c hc, Option.bind_some]
  cases c with
  | true =>
    rw [if_pos rfl] at h ⊢
    obtain ⟨e, u, hu, hk, _⟩ := is_true hc
    unfold takeS at h
    rw [hu, Option.bind_some, if_pos hk] at h
    cases h
    exact ⟨b, rfl, R, id⟩
  | false =>
    simp only [Bool.false_eq_true, if_false] at h ⊢
    obtain ⟨u, hu, h⟩ := Option.bind_eq_some_iff.1 h
    simp only [Option.some.injEq, Prod.mk.injEq] at h
    obtain ⟨rfl, rfl⟩ := h
    obtain ⟨v, hv⟩ := look_some R.1
    obtain ⟨q1, q2⟩ := fail_Q R (t := u) (t' := v) (e := 13) (by decide) (fun e => by rw [R.eq e, hv] at hu; cases hu; rfl)
    exact ⟨_, by rw [hv]; rfl, q1, fun e => absurd e q2⟩

theorem name_Q (R : RR a b) {k : Int} (hk : k ≠ 0) (l : List (List Nat)) : RQ a.err (fun x y => y = l ++ [x]) (nameS a k l.length) (namesD b k l) := by
  unfold nameS namesD
  refine RQ.bind (need_Q R hk []) fun x y s s' R2 h0 hv => ?_
  show RQ s.err _ (some (x.text, if l.length = 4 then failS s x 18 else s)) (some (l ++ [y.text], if s'.err = 0 ∧ l.length = 4 then failS s' y 18 else s'))
  by_cases h4 : l.length = 4
  · rw [if_pos h4]
    by_cases he : s.err = 0
    · rw [if_pos ⟨by rw [R2.2.1]; exact he, h4⟩]
      obtain ⟨q1, q2⟩ := fail_Q R2 (t := x) (t' := y) (e := 18) (by decide) hv
      exact RQ.some q1 (fun e => absurd e q2) (fun e => absurd e q2)
    · rw [if_neg (fun h => he (by rw [← R2.2.1]; exact h.1))]
      have : failS s x 18 = s := by unfold failS; rw [if_neg he]
      rw [this]
      exact RQ.some R2 id (fun e => absurd e he)
  · rw [if_neg h4, if_neg (fun h => h4 h.2)]
    exact RQ.some R2 id (fun e => by rw [hv e])

theorem tempsL_Q : ∀ (f : Nat) (l : List (List Nat)) (a b : PSt), RR a b → RQ a.err Eq (tempsL f l a) (tempsLD f l b)
  | 0, l, a, b, R => RQ.none
  | f + 1, l, a, b, R => by
    unfold tempsL tempsLD
    refine RQ.bindB (is_Q R _ _) fun c hc => ?_
    cases c with
    | true => exact takeB R (by decide) hc fun x s e _ _ _ R2 => by have := tempsL_Q f (l ++ [x.text]) s s R2; rw [e] at this; exact this
    | false => exact RQ.bind (need_Q R (by decide) _) fun x y s s' R2 h0 hv => RQ.some R2 id (fun _ => rfl)

theorem temps_Q (f : Nat) (R : RR a b) : RQ a.err Eq (tempsS f a) (tempsD f b) := by
  unfold tempsS tempsD
  refine RQ.bindB (is_Q R _ _) fun c hc => ?_
  cases c with
  | true => exact takeB R (by decide) hc fun x s e _ _ _ R2 => by have := tempsL_Q f [] s s R2; rw [e] at this; exact this
  | false => exact RQ.some R id (fun _ => rfl)

end Go.Dd

/- Dd, part Z2: ParseWhole runs to true. -/
set_option linter.unusedVariables false
set_option linter.unusedSimpArgs false
set_option maxRecDepth 100000
namespace Go.Dd
open Go.Proofs

theorem cutT {l : List Nat} {b : Nat} (h2 : b ≤ l.length) (h : Hp) : pSliceS (.s l) none (some (.i .i64 (Int.ofNat b))) h = some (.s (l.take b), h) := by
  have e1 : loD none b = some 0 := by simp [loD]
  have e2 : hiD (some (.i .i64 (Int.ofNat b))) l.length l.length = some b := by
    show (if 0 ≤ (Int.ofNat b) ∧ (Int.ofNat b) ≤ (l.length : Int) then some (Int.ofNat b).toNat else none) = _
    have hi' : (Int.ofNat b) = (b : Int) := rfl
    rw [if_pos ⟨by omega, by omega⟩]
    rfl
  simp only [pSliceS, e1, e2, List.drop_zero]

theorem readM_lx {H : PF} {f : Nat} {lx : List Tok × Int × Int} (h : lx.2.2 = 0) : readM H f lx = readM H f (lx.1, 0, 0) := by
  unfold readM
  rw [if_pos h, if_pos rfl]

/-- A source of at most 2000 bytes is read, or refused. -/
theorem doitD {u : List Nat} (hu : u.length ≤ 2000) : ∃ lx res, lexM 2001 2001 u = some lx ∧ readM doitS 2004 lx = some res ∧ (res.2.2 = 0 → lx.2.2 = 0 ∧ lx.1.length ≤ 2001 ∧ Good lx.1 ∧ least lx.1 ≤ cnt res.1 ∧ cnt res.1 ≤ most lx.1) := by
  obtain ⟨lx, hl, hg⟩ := lexD hu
  by_cases e : lx.2.2 = 0
  · obtain ⟨g1, g2⟩ := hg e
    obtain ⟨x, a, e', h1, h2⟩ := readW (f := 2004) g1 (by omega) (by omega)
    refine ⟨lx, _, hl, (readM_lx e).trans h1, fun h => ⟨e, g2, g1, h2 h⟩⟩
  · refine ⟨lx, (zN, lx.2.1, lx.2.2), hl, ?_, fun h => absurd h e⟩
    unfold readM
    rw [if_neg e]

section
variable {I : Im} {A Q L : Ls} {b : Pos} {x6 : DV} {lt : List Tok} {cs : List DV} {x : Node}

end

end Go.Dd

/- Dd, part B5: plain: the document's parser says what the program's says: all of it. -/
set_option linter.unusedVariables false
set_option linter.unusedSimpArgs false
set_option maxRecDepth 100000
namespace Go.Dd

variable {a b : PSt}

theorem is_eq {st : PSt} {u : Tok} (he : st.err = 0) (hu : lookS st 0 = some u) (k : Int) : isS st k [] = some (decide (u.kind = k)) := by
  unfold isS
  rw [hu]
  simp [he]
theorem is_err {st : PSt} {u : Tok} (he : st.err ≠ 0) (hu : lookS st 0 = some u) (k : Int) (t : List Nat) : isS st k t = some false := by
  unfold isS
  rw [hu]
  simp [he]
theorem look_mem {st : PSt} {u : Tok} {k : Nat} (hu : lookS st k = some u) : u ∈ st.toks := List.mem_of_getElem? hu

theorem takeS_ok {st : PSt} {u : Tok} (hu : lookS st 0 = some u) (hk : u.kind ≠ 0) {x : Tok} {s : PSt} (h : takeS st = some (x, s)) : 2 ≤ st.toks.length ∧ x = u ∧ s = { st with toks := st.toks.drop 1 } ∧ takeR st = some (x, s) := by
  unfold takeS at h
  unfold takeR
  rw [hu] at h ⊢
  simp only [Option.bind_some] at h ⊢
  rw [if_neg hk] at h ⊢
  by_cases hl : 2 ≤ st.toks.length
  · rw [if_pos hl] at h ⊢
    cases h
    exact ⟨hl, rfl, rfl, rfl⟩
  · rw [if_neg hl] at h
    cases h

theorem plain_Q (R : RR a b) {x : Node} {c : Bool} {s : PSt} (h : plainS a = some ((x, c), s)) : (s.err = 0 → a.err = 0) ∧ ∃ y s', plainD b = some ((y, c), s') ∧ RR s s' ∧ (c = true → s.err = 0 ∧ x = y) := by
  unfold plainS at h
  obtain ⟨t, ht, h⟩ := Option.bind_eq_some_iff.1 h
  by_cases he : a.err = 0
  · have := R.eq he
    subst this
    rw [if_pos he] at h
    obtain ⟨c0, hc0, h⟩ := Option.bind_eq_some_iff.1 h
    have hT := R.1.2 t (look_mem ht)
    unfold plainD
    rw [ht, Option.bind_some]
    unfold negS at hc0
    obtain ⟨t1, ht1, hc0⟩ := Option.bind_eq_some_iff.1 hc0
    obtain ⟨c1, hc1, hc0⟩ := Option.bind_eq_some_iff.1 hc0
    rw [ht] at hc0
    simp only [Option.bind_some, Option.some.injEq] at hc0
    rw [hc1, Option.bind_some]
    have hD : (if c1 = true then (lookS a 1).bind fun u => some (decide (u.kind = 4) && decide (u.pos = w64 (t.pos + 1))) else some false) = some c0 := by
      rw [← hc0]
      cases c1 with
      | true => rw [if_pos rfl, ht1]; simp
      | false => simp
    rw [hD, Option.bind_some]
    cases c0 with
    | true =>
      rw [if_pos rfl] at h ⊢
      simp only [Bool.and_eq_true, decide_eq_true_eq] at hc0
      obtain ⟨⟨z1, z2⟩, z3⟩ := hc0
      subst z1
      obtain ⟨_, u, hu, hk, _⟩ := is_true hc1
      rw [ht] at hu
      cases hu
      obtain ⟨⟨x1, s1⟩, h1, h⟩ := Option.bind_eq_some_iff.1 h
      obtain ⟨⟨x2, s2⟩, h2, h⟩ := Option.bind_eq_some_iff.1 h
      obtain ⟨l1, rfl, rfl, d1⟩ := takeS_ok ht (by omega) h1
      have hu2 : lookS { a with toks := a.toks.drop 1 } 0 = some t1 := by
        unfold lookS at ht1 ⊢
        rw [show min 1 (a.toks.length - 1) = 1 by omega] at ht1
        simpa using ht1
      obtain ⟨l2, rfl, rfl, d2⟩ := takeS_ok hu2 (by omega) h2
      simp only [Option.some.injEq, Prod.mk.injEq] at h
      obtain ⟨⟨rfl, rfl⟩, rfl⟩ := h
      rw [d1, Option.bind_some]
      refine ⟨fun _ => he, _, _, by simp only [d2, Option.bind_some], RR.refl ((R.1.drop l1).drop l2), fun _ => ⟨he, rfl⟩⟩
    | false =>
      simp only [Bool.false_eq_true, if_false] at h ⊢
      rw [is_eq he ht 4, Option.bind_some]
      by_cases k4 : t.kind = 4
      · rw [if_pos k4] at h
        rw [if_pos (by simp [k4])]
        obtain ⟨⟨x1, s1⟩, h1, h⟩ := Option.bind_eq_some_iff.1 h
        obtain ⟨l1, rfl, rfl, d1⟩ := takeS_ok ht (by omega) h1
        simp only [Option.some.injEq, Prod.mk.injEq] at h
        obtain ⟨⟨rfl, rfl⟩, rfl⟩ := h
        refine ⟨fun _ => he, _, _, by rw [d1]; rfl, RR.refl (R.1.drop l1), fun _ => ⟨he, by rw [hT.1 k4]⟩⟩
      · rw [if_neg k4] at h
        rw [if_neg (by simp [k4]), is_eq he ht 5, Option.bind_some]
        by_cases k5 : t.kind = 5
        · rw [if_pos k5] at h
          rw [if_pos (by simp [k5])]
          obtain ⟨⟨x1, s1⟩, h1, h⟩ := Option.bind_eq_some_iff.1 h
          obtain ⟨l1, rfl, rfl, d1⟩ := takeS_ok ht (by omega) h1
          simp only [Option.some.injEq, Prod.mk.injEq] at h
          obtain ⟨⟨rfl, rfl⟩, rfl⟩ := h
          refine ⟨fun _ => he, _, _, by rw [d1]; rfl, RR.refl (R.1.drop l1), fun _ => ⟨he, by rw [hT.2 (.inl k5)]⟩⟩
        · rw [if_neg k5] at h
          rw [if_neg (by simp [k5]), is_eq he ht 6, Option.bind_some]
          by_cases k6 : t.kind = 6
          · rw [if_pos k6] at h
            rw [if_pos (by simp [k6])]
            obtain ⟨⟨x1, s1⟩, h1, h⟩ := Option.bind_eq_some_iff.1 h
            obtain ⟨l1, rfl, rfl, d1⟩ := takeS_ok ht (by omega) h1
            simp only [Option.some.injEq, Prod.mk.injEq] at h
            obtain ⟨⟨rfl, rfl⟩, rfl⟩ := h
            refine ⟨fun _ => he, _, _, by rw [d1]; rfl, RR.refl (R.1.drop l1), fun _ => ⟨he, by rw [hT.2 (.inr k6)]⟩⟩
          · rw [if_neg k6] at h
            rw [if_neg (by simp [k6])]
            simp only [Option.some.injEq, Prod.mk.injEq] at h
            obtain ⟨⟨rfl, rfl⟩, rfl⟩ := h
            exact ⟨fun _ => he, _, _, rfl, R, fun h => by cases h⟩
  · rw [if_neg he] at h
    simp only [Option.some.injEq, Prod.mk.injEq] at h
    obtain ⟨⟨rfl, rfl⟩, rfl⟩ := h
    obtain ⟨u, hu⟩ := look_some R.1
    have heb : b.err ≠ 0 := by rw [R.2.1]; exact he
    refine ⟨id, zN, b, ?_, R, fun h => by cases h⟩
    unfold plainD
    rw [hu, Option.bind_some, is_err heb hu, Option.bind_some]
    simp only [Bool.false_eq_true, if_false, Option.bind_some]
    rw [is_err heb hu, Option.bind_some]
    simp only [Bool.false_eq_true, if_false]
    rw [is_err heb hu, Option.bind_some]
    simp only [Bool.false_eq_true, if_false]
    rw [is_err heb hu, Option.bind_some]
    simp

def PQ (f g : PF) : Prop := ∀ a b, RR a b → RQ a.err Eq (f a) (g b)

theorem unary_Q : ∀ (f : Nat) (x y : Node) (a b : PSt), RR a b → (a.err = 0 → x = y) → RQ a.err Eq (unaryS f x a) (unaryD f y b)
  | 0, x, y, a, b, R, hx => RQ.none
  | f + 1, x, y, a, b, R, hx => by
    unfold unaryS unaryD
    refine RQ.bindB (is_Q R _ _) fun c hc => ?_
    cases c with
    | true =>
      have := hx (is_true hc).1
      subst this
      exact takeB R (by decide) hc fun t s e _ _ _ R2 => by have := unary_Q f (sendN t.text [x]) (sendN t.text [x]) s s R2 (fun _ => rfl); rw [e] at this; exact this
    | false => exact RQ.some R id hx

theorem binary_Q {P P' : PF} (H : PQ P P') (g : Nat) : ∀ (f : Nat) (x y : Node) (a b : PSt), RR a b → (a.err = 0 → x = y) → RQ a.err Eq (binaryL P g f x a) (binaryD P' g f y b)
  | 0, x, y, a, b, R, hx => RQ.none
  | f + 1, x, y, a, b, R, hx => by
    unfold binaryL binaryD
    refine RQ.bindB (is_Q R _ _) fun c hc => ?_
    cases c with
    | true =>
      have := hx (is_true hc).1
      subst this
      refine takeB R (by decide) hc fun t s e _ _ _ R2 => ?_
      have h1 := H s s R2
      rw [e] at h1
      refine RQ.bind h1 fun x1 y1 s1 s1' R3 _ hv1 => ?_
      refine RQ.bind (unary_Q g x1 y1 s1 s1' R3 hv1) fun x2 y2 s2 s2' R4 h4 hv2 => ?_
      exact binary_Q H g f _ _ s2 s2' R4 (fun h => by rw [hv2 h])
    | false => exact RQ.some R id hx

theorem keysL_Q {P P' : PF} (H : PQ P P') (g : Nat) (x0 : Node) : ∀ (f : Nat) (t t' : List Nat) (ks ks' : List Node) (a b : PSt), RR a b → (a.err = 0 → t = t' ∧ ks = ks') →
    RQ a.err (fun X Y => ∃ u us, X = sendN u (x0 :: us) ∧ Y = sendN u us) (keysL P g f t (x0 :: ks) a) (keysLD P' g f t' ks' b)
  | 0, t, t', ks, ks', a, b, R, hx => RQ.none
  | f + 1, t, t', ks, ks', a, b, R, hx => by
    unfold keysL keysLD
    refine RQ.bindB (is_Q R _ _) fun c hc => ?_
    cases c with
    | true =>
      obtain ⟨h1, h2⟩ := hx (is_true hc).1
      subst h1
      subst h2
      refine takeB R (by decide) hc fun u s e _ _ _ R2 => ?_
      show RQ 0 _ (if t.length + u.text.length ≤ lim then _ else _) (if t.length + u.text.length ≤ lim then _ else _)
      split
      · have h1 := H s s R2
        rw [e] at h1
        refine RQ.bind h1 fun x1 y1 s1 s1' R3 _ hv1 => ?_
        refine RQ.bind (unary_Q g x1 y1 s1 s1' R3 hv1) fun x2 y2 s2 s2' R4 _ hv2 => ?_
        refine RQ.bind (binary_Q H g g x2 y2 s2 s2' R4 hv2) fun x3 y3 s3 s3' R5 _ hv3 => ?_
        exact keysL_Q H g x0 f (t ++ u.text) (t ++ u.text) (ks ++ [x3]) (ks ++ [y3]) s3 s3' R5 (fun h => ⟨rfl, by rw [hv3 h]⟩)
      · exact RQ.none
    | false => exact RQ.some R id (fun h => by obtain ⟨h1, h2⟩ := hx h; subst h1; subst h2; exact ⟨t, ks, rfl, rfl⟩)

theorem keysLD_len {P : PF} {g : Nat} : ∀ (f : Nat) (t : List Nat) (ks : List Node) (b : PSt) (y : Node) (s : PSt), keysLD P g f t ks b = some (y, s) → ks.length ≤ y.kids.length ∧ y.kids.length ≤ ks.length + f ∧ (isS b 2 [] = some true → ks.length + 1 ≤ y.kids.length)
  | 0, t, ks, b, y, s, h => by cases h
  | f + 1, t, ks, b, y, s, h => by
    unfold keysLD at h
    obtain ⟨c, hc, h⟩ := Option.bind_eq_some_iff.1 h
    cases c with
    | true =>
      rw [if_pos rfl] at h
      obtain ⟨r, _, h⟩ := Option.bind_eq_some_iff.1 h
      split at h
      · obtain ⟨q, _, h⟩ := Option.bind_eq_some_iff.1 h
        obtain ⟨u, _, h⟩ := Option.bind_eq_some_iff.1 h
        obtain ⟨w, _, h⟩ := Option.bind_eq_some_iff.1 h
        obtain ⟨a1, a2, _⟩ := keysLD_len f _ _ _ y s h
        simp at a1 a2
        exact ⟨by omega, by omega, fun _ => by omega⟩
      · cases h
    | false =>
      simp only [Bool.false_eq_true, if_false, Option.some.injEq, Prod.mk.injEq] at h
      obtain ⟨rfl, rfl⟩ := h
      exact ⟨Nat.le_refl _, by show ks.length ≤ _; omega, fun e => by rw [hc] at e; cases e⟩

theorem msgD_keys {P : PF} {g : Nat} {b : PSt} (h : isS b 2 [] = some true) : msgD P g b = keysLD P g g [] [] b := by
  obtain ⟨e, u, hu, hk, _⟩ := is_true h
  unfold msgD
  rw [is_eq e hu 1, Option.bind_some, if_neg (by simp [hk]), is_eq e hu 3, Option.bind_some, if_neg (by simp [hk]), h]
  rfl

theorem keys_Q {P P' : PF} (H : PQ P P') (g : Nat) (hg : g + 1 ≤ lim) (x y : Node) (R : RR a b) (hx : a.err = 0 → x = y) : RQ a.err Eq (keysS P g x a) (keysD P' g y b) := by
  unfold keysS keysD
  refine RQ.bindB (is_Q R _ _) fun c hc => ?_
  cases c with
  | true =>
    simp only [if_true]
    have := hx (is_true hc).1
    subst this
    have hcb := is_Q R _ _ _ hc
    rw [msgD_keys hcb]
    intro z s h
    obtain ⟨h0, w, s', h1, h2, h3⟩ := keysL_Q H g x g [] [] [] [] a b R (fun _ => ⟨rfl, rfl⟩) z s h
    obtain ⟨l1, l2, l3⟩ := keysLD_len g [] [] b w s' h1
    have l3 := l3 hcb
    simp at l2 l3
    refine ⟨h0, sendN w.text (x :: w.kids), s', ?_, h2, fun e => ?_⟩
    · rw [h1, Option.bind_some]
      rw [if_pos ⟨l3, by show w.kids.length + 1 ≤ lim; omega⟩]
    · obtain ⟨u, us, e1, e2⟩ := h3 e
      rw [e1, e2]
      rfl
  | false => exact RQ.some R id hx

theorem msg_Q {P P' : PF} (H : PQ P P') (g : Nat) (hg : 1 ≤ g) {s : PSt} (he : s.err = 0) (R : RR s s) : RQ 0 (fun X Y => msgN X = Y) (msgS P g s) (msgD P' g s) := by
  obtain ⟨t, ht⟩ := look_some R.1
  unfold msgS
  rw [ht, Option.bind_some]
  by_cases k1 : t.kind = 1
  · rw [if_pos k1]
    unfold msgD
    have hc : isS s 1 [] = some true := by rw [is_eq he ht 1]; simp [k1]
    rw [hc, Option.bind_some]
    have := takeB R (by decide) hc (K := fun r => some (sendN t.text [zN], r.2)) (K' := fun r => some (sendN r.1.text [], r.2)) (W := fun X Y => msgN X = Y)
      (fun x s2 e _ _ hl R2 => RQ.some R2 (fun _ => rfl) (fun _ => by rw [ht] at hl; cases hl; rfl))
    rw [he] at this
    exact this
  · rw [if_neg k1]
    by_cases k3 : t.kind = 3
    · rw [if_pos k3]
      unfold msgD
      have hc : isS s 3 [] = some true := by rw [is_eq he ht 3]; simp [k3]
      rw [is_eq he ht 1, Option.bind_some, if_neg (by simp [k1]), hc, Option.bind_some]
      have := takeB R (by decide) hc (K := fun r => (P r.2).bind fun q => (unaryS g q.1 q.2).bind fun u => some (sendN t.text [zN, u.1], u.2)) (K' := fun r => (P' r.2).bind fun q => (unaryD g q.1 q.2).bind fun u => some (sendN r.1.text [u.1], u.2)) (W := fun X Y => msgN X = Y)
        (fun x s2 e _ _ hl R2 => by
          have h1 := H s2 s2 R2
          rw [e] at h1
          refine RQ.bind h1 fun x1 y1 s1 s1' R3 _ hv1 => ?_
          refine RQ.bind (unary_Q g x1 y1 s1 s1' R3 hv1) fun x2 y2 s2 s2' R4 _ hv2 => ?_
          refine RQ.some R4 id (fun h => ?_)
          rw [ht] at hl
          cases hl
          show msgN (sendN t.text [zN, x2]) = sendN t.text [y2]
          rw [hv2 h]
          rfl)
      rw [he] at this
      exact this
    · rw [if_neg k3]
      by_cases k2 : t.kind = 2
      · rw [if_pos k2]
        have hc : isS s 2 [] = some true := by rw [is_eq he ht 2]; simp [k2]
        rw [msgD_keys hc]
        unfold keysS
        rw [hc, Option.bind_some, if_pos rfl]
        have := keysL_Q H g zN g [] [] [] [] s s R (fun _ => ⟨rfl, rfl⟩)
        rw [he] at this
        refine this.mono id ?_
        rintro X Y ⟨u, us, rfl, rfl⟩
        rfl
      · rw [if_neg k2]
        unfold msgD
        rw [is_eq he ht 1, Option.bind_some, if_neg (by simp [k1]), is_eq he ht 3, Option.bind_some, if_neg (by simp [k3]), is_eq he ht 2, Option.bind_some]
        rw [if_neg (by simp [k2]), ht, Option.bind_some, Option.bind_some]
        obtain ⟨q1, q2⟩ := fail_Q R (t := t) (t' := t) (e := 13) (by decide) (fun _ => rfl)
        obtain ⟨g, rfl⟩ : ∃ k, g = k + 1 := ⟨g - 1, by omega⟩
        obtain ⟨u, hu⟩ := look_some q1.1
        intro X s' h
        cases h
        refine ⟨fun h => absurd h q2, sendN [] [], failS s t 13, ?_, q1, fun h => absurd h q2⟩
        unfold keysLD
        rw [is_err q2 hu]
        rfl

theorem cas_Q {P P' : PF} (H : PQ P P') (g : Nat) (hg : 1 ≤ g) : ∀ (f : Nat) (ks ks' : List Node) (a b : PSt), RR a b → (a.err = 0 → ks = ks') → RQ a.err Eq (casL P g f ks a) (casLD P' g f ks' b)
  | 0, ks, ks', a, b, R, hx => RQ.none
  | f + 1, ks, ks', a, b, R, hx => by
    unfold casL casLD
    refine RQ.bindB (is_Q R _ _) fun c hc => ?_
    cases c with
    | true =>
      have := hx (is_true hc).1
      subst this
      refine takeB R (by decide) hc fun t s e _ _ _ R2 => ?_
      refine RQ.bind (msg_Q H g hg e R2) fun x1 y1 s1 s1' R3 _ hv1 => ?_
      exact cas_Q H g hg f _ _ s1 s1' R3 (fun h => by rw [hv1 h])
    | false => exact RQ.some R id (fun h => by rw [hx h])

theorem expr_Q {P P' E E' : PF} (H : PQ P P') (HE : PQ E E') (g : Nat) (hg : 1 ≤ g) (hl : g + 1 ≤ lim) : PQ (exprS P E g) (exprD P' E' g) := by
  intro a b R
  unfold exprS exprD
  refine RQ.bindB (is_Q R _ _) fun c hc => ?_
  have hd : ∀ d, (if c = true then (lookS a 1).bind fun t => some (decide (t.kind = 9)) else some false) = some d → (if c = true then (lookS b 1).bind fun t => some (decide (t.kind = 9)) else some false) = some d := by
    intro d h
    cases c with
    | true => rw [R.eq (is_true hc).1] at h; exact h
    | false => exact h
  refine RQ.bindB hd fun d hd => ?_
  cases d with
  | true =>
    cases c with
    | false => cases hd
    | true =>
      simp only [if_true] at hd ⊢
      obtain ⟨t2, ht2, hk⟩ := Option.bind_eq_some_iff.1 hd
      simp only [Option.some.injEq, decide_eq_true_eq] at hk
      have hae := (is_true hc).1
      have := R.eq hae
      subst this
      intro z s h
      obtain ⟨⟨x1, s1⟩, h1, h⟩ := Option.bind_eq_some_iff.1 h
      obtain ⟨_, u, hu, hku, _⟩ := is_true hc
      obtain ⟨l1, rfl, rfl, d1⟩ := takeS_ok hu (by omega) h1
      have hu2 : lookS { a with toks := a.toks.drop 1 } 0 = some t2 := by
        unfold lookS at ht2 ⊢
        rw [show min 1 (a.toks.length - 1) = 1 by omega] at ht2
        simpa using ht2
      obtain ⟨⟨x2, s2⟩, h2, h⟩ := Option.bind_eq_some_iff.1 h
      obtain ⟨l2, rfl, rfl, d2⟩ := takeS_ok hu2 (by omega) h2
      obtain ⟨⟨x3, s3⟩, h3, h⟩ := Option.bind_eq_some_iff.1 h
      simp only [Option.some.injEq, Prod.mk.injEq] at h
      obtain ⟨rfl, rfl⟩ := h
      have R2 : RR { a with toks := (a.toks.drop 1).drop 1 } { a with toks := (a.toks.drop 1).drop 1 } := RR.refl ((R.1.drop l1).drop l2)
      obtain ⟨q0, y3, s3', q1, q2, q3⟩ := HE _ _ R2 x3 s3 h3
      refine ⟨fun _ => hae, .mk 6 x1.text 0 [] [] [y3], s3', ?_, q2, fun h => by rw [q3 h]⟩
      rw [d1, Option.bind_some, d2, Option.bind_some, q1]
      rfl
  | false =>
    simp only [Bool.false_eq_true, if_false]
    unfold cascadeS
    refine RQ.bind (H a b R) fun x1 y1 s1 s1' R1 _ hv1 => ?_
    refine RQ.bind (unary_Q g x1 y1 s1 s1' R1 hv1) fun x2 y2 s2 s2' R2 _ hv2 => ?_
    refine RQ.bind (binary_Q H g g x2 y2 s2 s2' R2 hv2) fun x3 y3 s3 s3' R3 _ hv3 => ?_
    refine RQ.bind (keys_Q H g hl x3 y3 R3 hv3) fun x4 y4 s4 s4' R4 _ hv4 => ?_
    refine RQ.bindB (is_Q R4 _ _) fun c hc => ?_
    cases c with
    | true =>
      have e4 := (is_true hc).1
      have := hv4 e4
      subst this
      show RQ s4.err Eq (if x4.kind = 7 then _ else _) (if x4.kind = 7 then _ else _)
      split
      · refine RQ.bindB (fun k h => h) fun k0 hk0 => ?_
        refine cas_Q H g hg g _ _ s4 s4' R4 (fun _ => ?_)
        have : msgN x4 = sendN x4.text (x4.kids.drop 1) := by
          unfold msgN
          rw [if_neg]
          intro h0
          have := (List.getElem?_eq_some_iff.1 hk0).1
          show False
          have h0 : x4.kids.length = 0 := h0
          have this : 0 < x4.kids.length := this
          omega
        show [k0, msgN x4] = _
        rw [this]
      · intro z s h
        obtain ⟨u, hu, h⟩ := Option.bind_eq_some_iff.1 h
        simp only [Option.some.injEq, Prod.mk.injEq] at h
        obtain ⟨rfl, rfl⟩ := h
        have := R4.eq e4
        subst this
        obtain ⟨q1, q2⟩ := fail_Q R4 (t := u) (t' := u) (e := 13) (by decide) (fun _ => rfl)
        exact ⟨fun h => absurd h q2, x4, failS s4 u 13, by rw [show lookS (x4, s4).2 0 = some u from hu]; rfl, q1, fun h => absurd h q2⟩
    | false => exact RQ.some R4 id hv4

/-- What stands in brackets: the document opens them first. -/
theorem within_split {f : PF} (R : GT a.toks) {t : Tok} (he : a.err = 0) (ht : lookS a 0 = some t) (hk : t.kind ≠ 0) {x : Node} {s : PSt} (h : withinS f a = some (x, s)) :
    (openD a = some (false, s) ∧ s.err ≠ 0 ∧ GT s.toks) ∨ ∃ a2 q, openD a = some (true, a2) ∧ a2.err = 0 ∧ GT a2.toks ∧ f a2 = some (x, q) ∧ s = { q with deep := w64 (q.deep - 1) } := by
  unfold withinS at h
  obtain ⟨⟨t1, s1⟩, h1, h⟩ := Option.bind_eq_some_iff.1 h
  obtain ⟨l1, rfl, rfl, d1⟩ := takeS_ok ht hk h1
  unfold openD
  rw [d1, Option.bind_some]
  by_cases hd : a.deep = 20
  · rw [if_pos hd] at h
    cases h
    have e14 : (14 : Int) ≠ 0 := by decide
    obtain ⟨q1, q2⟩ := fail_Q (RR.refl (R.drop l1) : RR { a with toks := a.toks.drop 1 } _) (t := t1) (t' := t1) e14 (fun _ => rfl)
    exact .inl ⟨by rw [if_pos hd], q2, q1.1⟩
  · rw [if_neg hd] at h
    obtain ⟨⟨y, q⟩, h2, h⟩ := Option.bind_eq_some_iff.1 h
    cases h
    exact .inr ⟨{ toks := a.toks.drop 1, deep := w64 (a.deep + 1), pos := a.pos, err := a.err }, q, by rw [if_neg hd], he, R.drop l1, h2, rfl⟩

def LQ (f : Nat) : Prop := ∀ (a : PSt) (t : Tok), a.err = 0 → GT a.toks → lookS a 0 = some t → t.kind ≠ 0 → RQ 0 Eq (withinS (litF f) a) (litFD f a)

theorem lits_Q {f0 : Nat} (H : LQ f0) : ∀ (f : Nat) (xs ys : List Node) (a b : PSt), RR a b → (a.err = 0 → xs = ys) → RQ a.err (fun X Y => X = Y) (litsL (litF f0) f xs a) (litsLD (litFD f0) f ys b)
  | 0, xs, ys, a, b, R, hx => RQ.none
  | f + 1, xs, ys, a, b, R, hx => by
    unfold litsL litsLD
    rw [R.2.1]
    by_cases he : a.err = 0
    · rw [if_pos he, if_pos he]
      have := hx he
      subst this
      have := R.eq he
      subst this
      refine RQ.bindB (fun c h => h) fun c hc => ?_
      cases c with
      | true => exact RQ.some R id (fun _ => rfl)
      | false =>
        simp only [Bool.false_eq_true, if_false]
        intro z s h
        obtain ⟨⟨⟨y, d⟩, s1⟩, h1, h⟩ := Option.bind_eq_some_iff.1 h
        obtain ⟨q0, y', s1', q1, q2, q3⟩ := plain_Q R h1
        rw [q1, Option.bind_some]
        cases d with
        | true =>
          obtain ⟨e1, rfl⟩ := q3 rfl
          rw [if_pos rfl] at h ⊢
          have := lits_Q H f (xs ++ [y]) (xs ++ [y]) s1 s1' q2 (fun _ => rfl) z s h
          exact ⟨fun _ => he, this.2⟩
        | false =>
          simp only [Bool.false_eq_true, if_false] at h ⊢
          obtain ⟨c1, hc1, h⟩ := Option.bind_eq_some_iff.1 h
          obtain ⟨c2, hc2, h⟩ := Option.bind_eq_some_iff.1 h
          rw [is_Q q2 _ _ _ hc1, Option.bind_some]
          have hc2' : (if c1 = true then some true else isS s1' 10 [40]) = some c2 := by
            cases c1 with
            | true => exact hc2
            | false => exact is_Q q2 _ _ _ hc2
          rw [hc2', Option.bind_some]
          cases c2 with
          | true =>
            rw [if_pos rfl] at h ⊢
            obtain ⟨e1, t, ht, hk⟩ : s1.err = 0 ∧ ∃ t, lookS s1 0 = some t ∧ t.kind ≠ 0 := by
              cases c1 with
              | true => obtain ⟨e, t, ht, hk, _⟩ := is_true hc1; exact ⟨e, t, ht, by omega⟩
              | false => obtain ⟨e, t, ht, hk, _⟩ := is_true hc2; exact ⟨e, t, ht, by omega⟩
            have := q2.eq e1
            subst this
            obtain ⟨⟨w, s2⟩, hw, h⟩ := Option.bind_eq_some_iff.1 h
            obtain ⟨r0, w', s2', r1, r2, r3⟩ := H s1 t e1 q2.1 ht hk w s2 hw
            rw [r1, Option.bind_some]
            have := lits_Q H f (xs ++ [w]) (xs ++ [w']) s2 s2' r2 (fun h => by rw [r3 h]) z s h
            exact ⟨fun _ => he, this.2⟩
          | false =>
            simp only [Bool.false_eq_true, if_false] at h ⊢
            obtain ⟨t, ht, h⟩ := Option.bind_eq_some_iff.1 h
            obtain ⟨v, hv⟩ := look_some q2.1
            obtain ⟨r1, r2⟩ := fail_Q q2 (t := t) (t' := v) (e := 13) (by decide) (fun e => by rw [q2.eq e, hv] at ht; cases ht; rfl)
            rw [hv, Option.bind_some]
            have := lits_Q H f (xs ++ [y]) (xs ++ [y']) _ _ r1 (fun h => absurd h r2) z s h
            exact ⟨fun _ => he, this.2⟩
    · rw [if_neg he, if_neg he]
      exact RQ.some R id (fun h => absurd h he)

theorem lits_exit {LI : PF} : ∀ (f : Nat) (xs : List Node) (a : PSt) (ys : List Node) (s : PSt), litsL LI f xs a = some (ys, s) → s.err = 0 → isS s 10 [41] = some true
  | 0, xs, a, ys, s, h => by cases h
  | f + 1, xs, a, ys, s, h => by
    intro he
    unfold litsL at h
    split at h
    · obtain ⟨c, hc, h⟩ := Option.bind_eq_some_iff.1 h
      cases c with
      | true => cases h; exact hc
      | false =>
        simp only [Bool.false_eq_true, if_false] at h
        obtain ⟨r, _, h⟩ := Option.bind_eq_some_iff.1 h
        split at h
        · exact lits_exit f _ _ _ _ h he
        · obtain ⟨c1, _, h⟩ := Option.bind_eq_some_iff.1 h
          obtain ⟨c2, _, h⟩ := Option.bind_eq_some_iff.1 h
          split at h
          · obtain ⟨q, _, h⟩ := Option.bind_eq_some_iff.1 h
            exact lits_exit f _ _ _ _ h he
          · obtain ⟨t, _, h⟩ := Option.bind_eq_some_iff.1 h
            exact lits_exit f _ _ _ _ h he
    · rename_i hn
      cases h
      exact absurd he hn

theorem takeS_err {st : PSt} {t : Tok} {s : PSt} (h : takeS st = some (t, s)) : s.err = st.err ∧ s.pos = st.pos := by
  unfold takeS at h
  obtain ⟨u, _, h⟩ := Option.bind_eq_some_iff.1 h
  split at h
  · cases h; exact ⟨rfl, rfl⟩
  · split at h
    · cases h; exact ⟨rfl, rfl⟩
    · cases h

theorem litQ_err {LI : PF} {f : Nat} {s : PSt} (h : openD a = some (false, s)) (he : s.err ≠ 0) : literalsD LI f a = some (.mk 4 [] 0 [] [] [], s) := by
  unfold literalsD
  rw [h, Option.bind_some]
  simp only [Bool.false_eq_true, if_false, Option.bind_some]
  unfold finD
  rw [if_neg he]
  rfl

theorem LQ_all : ∀ f, LQ f
  | 0 => fun a t he R ht hk x s h => by
    rcases within_split R he ht hk h with ⟨e1, e2, e3⟩ | ⟨a2, q, _, _, _, e, _⟩
    · exact ⟨fun _ => rfl, _, s, litQ_err e1 e2, RR.refl e3, fun h => absurd h e2⟩
    · cases e
  | f + 1 => fun a t he R ht hk x s h => by
    refine ⟨fun _ => rfl, ?_⟩
    rcases within_split R he ht hk h with ⟨e1, e2, e3⟩ | ⟨a2, q, e1, e2, e3, e4, e5⟩
    · exact ⟨_, s, litQ_err e1 e2, RR.refl e3, fun h => absurd h e2⟩
    · have e4 : literalsS (litF f) f a2 = some (x, q) := e4
      unfold literalsS at e4
      obtain ⟨⟨ys, s1⟩, h1, h2⟩ := Option.bind_eq_some_iff.1 e4
      obtain ⟨⟨t2, q2⟩, h3, h2⟩ := Option.bind_eq_some_iff.1 h2
      simp only [Option.some.injEq, Prod.mk.injEq] at h2
      obtain ⟨rfl, rfl⟩ := h2
      obtain ⟨r0, ys', s1', r1, r2, r3⟩ := lits_Q (LQ_all f) f [] [] a2 a2 (RR.refl e3) (fun _ => rfl) ys s1 h1
      have hD : litFD (f + 1) a = (finD (ys', s1')).bind fun q => some (.mk 4 [] 0 [] [] q.1, q.2) := by
        show literalsD (litFD f) f a = _
        unfold literalsD
        rw [e1, Option.bind_some, if_pos rfl, r1, Option.bind_some]
      rw [hD]
      unfold finD
      by_cases hs : s1.err = 0
      · have := r2.eq hs
        subst this
        have := r3 hs
        subst this
        obtain ⟨_, u, hu, hku, _⟩ := is_true (lits_exit f _ _ _ _ h1 hs)
        obtain ⟨l1, rfl, rfl, d1⟩ := takeS_ok hu (by omega) h3
        subst e5
        rw [if_pos hs, d1]
        exact ⟨_, _, rfl, RR.refl (r2.1.drop l1), fun _ => rfl⟩
      · obtain ⟨w1, w2⟩ := takeS_err h3
        rw [if_neg (by rw [r2.2.1]; exact hs)]
        subst e5
        refine ⟨_, s1', rfl, ⟨r2.1, by show s1'.err = q2.err; rw [w1]; exact r2.2.1, by show s1'.pos = q2.pos; rw [w2]; exact r2.2.2.1, fun h => absurd (by rw [← w1]; exact h) hs⟩, fun h => absurd (by rw [← w1]; exact h) hs⟩

theorem params_Q : ∀ (f : Nat) (l : List (List Nat)) (a b : PSt), RR a b → ∀ (l' : List (List Nat)), (a.err = 0 → l = l') → RQ a.err Eq (paramsL f l a) (paramsLD f l' b)
  | 0, l, a, b, R, l', hl => RQ.none
  | f + 1, l, a, b, R, l', hl => by
    unfold paramsL paramsLD
    refine RQ.bindB (is_Q R _ _) fun c hc => ?_
    cases c with
    | true =>
      have := hl (is_true hc).1
      subst this
      refine RQ.bind (name_Q R (by decide) l) fun x y s s' R2 _ hv => ?_
      exact params_Q f _ s s' R2 _ (fun h => (hv h).symm)
    | false => exact RQ.some R id hl

theorem stmts_Q {E E' : PF} (HE : PQ E E') : ∀ (f : Nat) (xs ys : List Node) (a b : PSt), RR a b → (a.err = 0 → xs = ys) → RQ a.err Eq (stmtsL E f xs a) (stmtsLD E' f ys b)
  | 0, xs, ys, a, b, R, hx => RQ.none
  | f + 1, xs, ys, a, b, R, hx => by
    unfold stmtsL stmtsLD
    rw [R.2.1]
    by_cases he : a.err = 0
    · rw [if_pos he, if_pos he]
      have := hx he
      subst this
      refine RQ.bindB (is_Q R _ _) fun c hc => ?_
      cases c with
      | true => exact RQ.some R id (fun _ => rfl)
      | false =>
        simp only [Bool.false_eq_true, if_false]
        refine RQ.bindB (is_Q R _ _) fun c hc => ?_
        cases c with
        | true => exact RQ.some R id (fun _ => rfl)
        | false =>
          simp only [Bool.false_eq_true, if_false]
          refine RQ.bindB (is_Q R _ _) fun c hc => ?_
          cases c with
          | true =>
            simp only [if_true]
            refine takeB R (by decide) hc fun t s e _ _ _ R2 => ?_
            have h1 := HE s s R2
            rw [e] at h1
            refine RQ.bind h1 fun x1 y1 s1 s1' R3 _ hv1 => ?_
            refine RQ.bindB (is_Q R3 _ _) fun c hc => ?_
            cases c with
            | true =>
              simp only [if_true]
              refine takeB R3 (by decide) hc fun t s2 e2 _ _ _ R4 => ?_
              exact RQ.some R4 (fun _ => rfl) (fun _ => by rw [hv1 (is_true hc).1])
            | false => exact RQ.some R3 id (fun h => by rw [hv1 h])
          | false =>
            simp only [Bool.false_eq_true, if_false]
            refine RQ.bind (HE a b R) fun x1 y1 s1 s1' R3 _ hv1 => ?_
            refine RQ.bindB (is_Q R3 _ _) fun c hc => ?_
            cases c with
            | true =>
              simp only [if_true]
              refine takeB R3 (by decide) hc fun t s2 e2 _ _ _ R4 => ?_
              have := stmts_Q HE f (xs ++ [x1]) (xs ++ [y1]) s2 s2 R4 (fun _ => by rw [hv1 (is_true hc).1])
              rw [e2] at this
              exact this
            | false => exact RQ.some R3 id (fun h => by rw [hv1 h])
    · rw [if_neg he, if_neg he]
      exact RQ.some R id hx

theorem bar_Q {l l' : List (List Nat)} (R : RR a b) (hl : a.err = 0 → l = l') {s : PSt} (h : bar l a = some s) : (s.err = 0 → a.err = 0) ∧ ∃ s', barD l' b = some s' ∧ RR s s' := by
  by_cases he : a.err = 0
  · have := hl he
    subst this
    unfold bar at h
    unfold barD
    split at h
    · rename_i hp
      rw [if_pos hp]
      obtain ⟨c, hc, h⟩ := Option.bind_eq_some_iff.1 h
      rw [is_Q R _ _ _ hc, Option.bind_some]
      cases c with
      | true => cases h; exact ⟨id, b, rfl, R⟩
      | false =>
        simp only [Bool.false_eq_true, if_false] at h ⊢
        obtain ⟨⟨x, s1⟩, h1, h⟩ := Option.bind_eq_some_iff.1 h
        cases h
        obtain ⟨q0, y, s', q1, q2, _⟩ := need_Q R (by decide) [124] x s1 h1
        exact ⟨q0, s', by rw [q1]; rfl, q2⟩
    · rename_i hp
      rw [if_neg hp]
      cases h
      exact ⟨id, b, rfl, R⟩
  · -- after an error nothing is read
    have hb : b.err ≠ 0 := by rw [R.2.1]; exact he
    obtain ⟨v, hv⟩ := look_some R.1
    have key : ∀ (s : PSt), bar l a = some s → s.err = a.err ∧ s.pos = a.pos := by
      intro s h
      unfold bar at h
      split at h
      · obtain ⟨c, hc, h⟩ := Option.bind_eq_some_iff.1 h
        cases c with
        | true => exact absurd (is_true hc).1 he
        | false =>
          simp only [Bool.false_eq_true, if_false] at h
          obtain ⟨⟨x, s1⟩, h1, h⟩ := Option.bind_eq_some_iff.1 h
          cases h
          unfold needS at h1
          obtain ⟨c, hc, h1⟩ := Option.bind_eq_some_iff.1 h1
          cases c with
          | true => exact absurd (is_true hc).1 he
          | false =>
            simp only [Bool.false_eq_true, if_false] at h1
            obtain ⟨u, _, h1⟩ := Option.bind_eq_some_iff.1 h1
            simp only [Option.some.injEq, Prod.mk.injEq] at h1
            rw [← h1.2]
            unfold failS
            rw [if_neg he]
            exact ⟨rfl, rfl⟩
      · cases h; exact ⟨rfl, rfl⟩
    obtain ⟨k1, k2⟩ := key s h
    refine ⟨fun h => by rw [← k1]; exact h, b, ?_, R.1, by rw [k1]; exact R.2.1, by rw [k2]; exact R.2.2.1, fun h => absurd (by rw [← k1]; exact h) he⟩
    unfold barD
    split
    · rw [is_err hb hv, Option.bind_some]
      simp only [Bool.false_eq_true, if_false]
      unfold needD
      rw [is_err hb hv, Option.bind_some]
      simp only [Bool.false_eq_true, if_false]
      rw [hv, Option.bind_some, Option.bind_some]
      unfold failS
      rw [if_neg hb]
    · rfl

/-- A block's inside. -/
def blockI (E : PF) (f : Nat) : PF := fun st => (paramsLD f [] st).bind fun r => (barD r.1 r.2).bind fun st2 => (tempsD f st2).bind fun q => (stmtsLD E f [] q.2).bind fun u => (needD u.2 10 [93]).bind fun w => some (.mk 9 [] 0 r.1 q.1 u.1, w.2)

theorem blockI_Q {E E' : PF} (HE : PQ E E') (f : Nat) : PQ (blockS E f) (blockI E' f) := by
  intro a b R
  unfold blockS blockI
  refine RQ.bind (params_Q f [] a b R [] (fun _ => rfl)) fun x1 y1 s1 s1' R1 _ hv1 => ?_
  intro z t h
  obtain ⟨s2, h2, h⟩ := Option.bind_eq_some_iff.1 h
  obtain ⟨q0, s2', q1, R2⟩ := bar_Q R1 hv1 h2
  show _ ∧ ∃ y s', (barD y1 s1').bind _ = _ ∧ _
  rw [q1, Option.bind_some]
  have key : RQ s2.err Eq ((tempsS f s2).bind fun q => (stmtsL E f [] q.2).bind fun u => (needS u.2 10 [93]).bind fun w => some (Node.mk 9 [] 0 x1 q.1 u.1, w.2)) ((tempsD f s2').bind fun q => (stmtsLD E' f [] q.2).bind fun u => (needD u.2 10 [93]).bind fun w => some (Node.mk 9 [] 0 y1 q.1 u.1, w.2)) := by
    refine RQ.bind (temps_Q f R2) fun x3 y3 s3 s3' R3 h3 hv3 => ?_
    refine RQ.bind (stmts_Q HE f [] [] s3 s3' R3 (fun _ => rfl)) fun x4 y4 s4 s4' R4 h4 hv4 => ?_
    refine RQ.bind (need_Q R4 (by decide) [93]) fun x5 y5 s5 s5' R5 h5 hv5 => ?_
    refine RQ.some R5 id (fun h => ?_)
    rw [hv1 (q0 (h3 (h4 (h5 h)))), hv3 (h4 (h5 h)), hv4 (h5 h)]
  obtain ⟨r0, r⟩ := key z t h
  exact ⟨fun h => q0 (r0 h), r⟩

theorem blockD_open {E : PF} {f : Nat} {a a2 : PSt} (h : openD a = some (true, a2)) {y : Node} {q : PSt} (hb : blockI E f a2 = some (y, q)) : blockD E f a = some (y, { q with deep := w64 (q.deep - 1) }) := by
  unfold blockD
  rw [h, Option.bind_some, if_pos rfl]
  unfold blockI at hb
  obtain ⟨r, h1, hb⟩ := Option.bind_eq_some_iff.1 hb
  obtain ⟨s2, h2, hb⟩ := Option.bind_eq_some_iff.1 hb
  obtain ⟨q3, h3, hb⟩ := Option.bind_eq_some_iff.1 hb
  obtain ⟨u, h4, hb⟩ := Option.bind_eq_some_iff.1 hb
  obtain ⟨w, h5, hb⟩ := Option.bind_eq_some_iff.1 hb
  cases hb
  rw [h1, Option.bind_some, h2, Option.bind_some, h3, Option.bind_some, h4, Option.bind_some, h5]
  rfl

theorem RR.deep {a b : PSt} (R : RR a b) : RR { a with deep := w64 (a.deep - 1) } { b with deep := w64 (b.deep - 1) } :=
  ⟨R.1, R.2.1, R.2.2.1, fun h => by rw [R.eq h]⟩

theorem primary_Q {f0 : Nat} {E E' : PF} (HE : PQ E E') (f : Nat) : PQ (primaryS (litF f0) E f) (primaryD (litFD f0) E' f) := by
  intro a b R x s h
  unfold primaryS at h
  obtain ⟨⟨⟨y, d⟩, s1⟩, h1, h⟩ := Option.bind_eq_some_iff.1 h
  obtain ⟨q0, y', s1', q1, q2, q3⟩ := plain_Q R h1
  unfold primaryD
  by_cases he : a.err = 0
  · rw [if_pos (by rw [R.2.1]; exact he), q1, Option.bind_some]
    refine ⟨fun _ => he, ?_⟩
    cases d with
    | true =>
      obtain ⟨e1, rfl⟩ := q3 rfl
      rw [if_pos rfl] at h ⊢
      cases h
      exact ⟨y, s1', rfl, q2, fun _ => rfl⟩
    | false =>
      simp only [Bool.false_eq_true, if_false] at h ⊢
      obtain ⟨t, ht, h⟩ := Option.bind_eq_some_iff.1 h
      by_cases he1 : s1.err = 0
      · have := q2.eq he1
        subst this
        rw [if_pos he1] at h
        rw [is_eq he1 ht 1, Option.bind_some]
        by_cases k1 : t.kind = 1
        · rw [if_pos k1] at h
          rw [if_pos (by simp [k1])]
          obtain ⟨⟨u, s2⟩, h2, h⟩ := Option.bind_eq_some_iff.1 h
          obtain ⟨l1, rfl, rfl, d1⟩ := takeS_ok ht (by omega) h2
          cases h
          rw [d1]
          exact ⟨_, _, rfl, RR.refl (q2.1.drop l1), fun _ => rfl⟩
        · rw [if_neg k1] at h
          rw [if_neg (by simp [k1]), is_eq he1 ht 7, Option.bind_some]
          by_cases k7 : t.kind = 7
          · rw [if_pos k7] at h
            rw [if_pos (by simp [k7])]
            exact (LQ_all f0 s1 t he1 q2.1 ht (by omega) x s h).2
          · rw [if_neg k7] at h
            rw [if_neg (by simp [k7])]
            obtain ⟨c, hc, h⟩ := Option.bind_eq_some_iff.1 h
            rw [hc, Option.bind_some]
            cases c with
            | true =>
              rw [if_pos rfl] at h ⊢
              have hk : t.kind ≠ 0 := by
                obtain ⟨_, u, hu, hk, _⟩ := is_true hc
                rw [ht] at hu
                cases hu
                omega
              rcases within_split q2.1 he1 ht hk h with ⟨e1, e2, e3⟩ | ⟨a2, q, e1, e2, e3, e4, e5⟩
              · rw [e1, Option.bind_some]
                exact ⟨_, s, rfl, RR.refl e3, fun h => absurd h e2⟩
              · rw [e1, Option.bind_some, if_pos rfl]
                unfold innerS at e4
                obtain ⟨⟨w, s3⟩, h3, e4⟩ := Option.bind_eq_some_iff.1 e4
                obtain ⟨⟨u, s4⟩, h4, e4⟩ := Option.bind_eq_some_iff.1 e4
                simp only [Option.some.injEq, Prod.mk.injEq] at e4
                obtain ⟨rfl, rfl⟩ := e4
                obtain ⟨r0, w', s3', r1, r2, r3⟩ := HE a2 a2 (RR.refl e3) w s3 h3
                obtain ⟨t0, u', s4', t1, t2, _⟩ := need_Q r2 (by decide) [41] u s4 h4
                rw [r1, Option.bind_some, t1]
                subst e5
                exact ⟨w', _, rfl, t2.deep, fun h => r3 (t0 h)⟩
            | false =>
              simp only [Bool.false_eq_true, if_false] at h ⊢
              obtain ⟨c, hc, h⟩ := Option.bind_eq_some_iff.1 h
              rw [hc, Option.bind_some]
              cases c with
              | true =>
                rw [if_pos rfl] at h ⊢
                have hk : t.kind ≠ 0 := by
                  obtain ⟨_, u, hu, hk, _⟩ := is_true hc
                  rw [ht] at hu
                  cases hu
                  omega
                rcases within_split q2.1 he1 ht hk h with ⟨e1, e2, e3⟩ | ⟨a2, q, e1, e2, e3, e4, e5⟩
                · refine ⟨.mk 9 [] 0 [] [] [], s, ?_, RR.refl e3, fun h => absurd h e2⟩
                  unfold blockD
                  rw [e1, Option.bind_some]
                  rfl
                · obtain ⟨r0, w', s3', r1, r2, r3⟩ := blockI_Q HE f a2 a2 (RR.refl e3) x q e4
                  subst e5
                  exact ⟨w', _, blockD_open e1 r1, r2.deep, r3⟩
              | false =>
                simp only [Bool.false_eq_true, if_false] at h ⊢
                cases h
                obtain ⟨r1, r2⟩ := fail_Q q2 (t := t) (t' := t) (e := 13) (by decide) (fun _ => rfl)
                rw [ht, Option.bind_some]
                exact ⟨y', _, rfl, r1, fun h => absurd h r2⟩
      · rw [if_neg he1] at h
        -- plain leaves no error
        exfalso
        unfold plainS at h1
        obtain ⟨u, hu, h1⟩ := Option.bind_eq_some_iff.1 h1
        rw [if_pos he] at h1
        obtain ⟨c, _, h1⟩ := Option.bind_eq_some_iff.1 h1
        cases c with
        | true =>
          rw [if_pos rfl] at h1
          obtain ⟨r, _, h1⟩ := Option.bind_eq_some_iff.1 h1
          obtain ⟨r2, _, h1⟩ := Option.bind_eq_some_iff.1 h1
          cases h1
        | false =>
          simp only [Bool.false_eq_true, if_false] at h1
          split at h1
          · obtain ⟨r, _, h1⟩ := Option.bind_eq_some_iff.1 h1; cases h1
          · split at h1
            · obtain ⟨r, _, h1⟩ := Option.bind_eq_some_iff.1 h1; cases h1
            · split at h1
              · obtain ⟨r, _, h1⟩ := Option.bind_eq_some_iff.1 h1; cases h1
              · cases h1; exact he1 he
  · -- after an error
    unfold plainS at h1
    obtain ⟨u, hu, h1⟩ := Option.bind_eq_some_iff.1 h1
    rw [if_neg he] at h1
    cases h1
    simp only [Bool.false_eq_true, if_false] at h
    obtain ⟨t, ht, h⟩ := Option.bind_eq_some_iff.1 h
    rw [if_neg he] at h
    cases h
    rw [if_neg (by rw [R.2.1]; exact he)]
    exact ⟨id, zN, b, rfl, R, fun h => absurd h he⟩

theorem exprF_Q : ∀ (f : Nat), f + 1 ≤ lim → PQ (exprF f) (exprFD f)
  | 0, _ => fun a b R => RQ.none
  | 1, hf => by
    -- at the first level nothing can be read
    intro a b R
    show RQ _ _ (exprS (primaryS (litF 0) (exprF 0) 0) (exprF 0) 0 a) (exprD (primaryD (litFD 0) (exprFD 0) 0) (exprFD 0) 0 b)
    intro x s h
    exfalso
    unfold exprS at h
    obtain ⟨c, _, h⟩ := Option.bind_eq_some_iff.1 h
    obtain ⟨d, _, h⟩ := Option.bind_eq_some_iff.1 h
    cases d with
    | true =>
      rw [if_pos rfl] at h
      obtain ⟨r, _, h⟩ := Option.bind_eq_some_iff.1 h
      obtain ⟨q, _, h⟩ := Option.bind_eq_some_iff.1 h
      obtain ⟨u, hu, h⟩ := Option.bind_eq_some_iff.1 h
      cases hu
    | false =>
      simp only [Bool.false_eq_true, if_false] at h
      unfold cascadeS at h
      obtain ⟨q, _, h⟩ := Option.bind_eq_some_iff.1 h
      obtain ⟨u, hu, h⟩ := Option.bind_eq_some_iff.1 h
      cases hu
  | f + 2, hf => expr_Q (primary_Q (exprF_Q (f + 1) (by omega)) (f + 1)) (exprF_Q (f + 1) (by omega)) (f + 1) (by omega) (by omega)

/-- What is read of good tokens, the document reads. -/
theorem read_Q {f : Nat} (hf : f + 1 ≤ lim) {lx : List Tok × Int × Int} (hg : lx.2.2 = 0 → GT lx.1) {res : Node × Int × Int} (h : readM doitS f lx = some res) : readD f lx = some res := by
  unfold readD
  by_cases he : lx.2.2 = 0
  · rw [if_pos he, if_pos (hg he).1]
    rw [readM_lx he, readM_tail] at h
    unfold doitS at h
    simp only [Option.bind_some] at h
    obtain ⟨⟨y, st⟩, h1, h⟩ := Option.bind_eq_some_iff.1 h
    unfold tailM at h1
    obtain ⟨⟨ts, s2⟩, h2, h1⟩ := Option.bind_eq_some_iff.1 h1
    obtain ⟨⟨ks, s3⟩, h3, h1⟩ := Option.bind_eq_some_iff.1 h1
    obtain ⟨⟨u, s4⟩, h4, h1⟩ := Option.bind_eq_some_iff.1 h1
    cases h1
    obtain ⟨_, ts', s2', q1, R2, v2⟩ := temps_Q f (RR.refl (a := ⟨lx.1, 0, 0, 0⟩) (hg he)) ts s2 h2
    obtain ⟨p3, ks', s3', q3, R3, v3⟩ := stmts_Q (exprF_Q f hf) f [] [] s2 s2' R2 (fun _ => rfl) ks s3 h3
    obtain ⟨s4', q4, R4, p4⟩ := end_Q R3 h4
    unfold tailD
    rw [q1, Option.bind_some, q3, Option.bind_some, q4, Option.bind_some, R4.2.1]
    by_cases e4 : s4.err = 0
    · rw [if_pos (show ((Node.mk 11 [100, 111, 73, 116] 0 [] [] []).with ts ks, s4).2.err = 0 from e4)] at h
      rw [if_pos e4]
      cases h
      have e3 := p4 e4
      rw [v3 e3, v2 (p3 e3)]
      rfl
    · rw [if_neg (show ¬ ((Node.mk 11 [100, 111, 73, 116] 0 [] [] []).with ts ks, s4).2.err = 0 from e4)] at h
      rw [if_neg e4, R4.2.2.1]
      cases h
      rfl
  · rw [if_neg he]
    unfold readM at h
    rw [if_neg he] at h
    exact h

end Go.Dd

/- Dd, part Z4: the document's Same of two nodes. -/
set_option linter.unusedVariables false
set_option linter.unusedSimpArgs false
set_option maxRecDepth 100000
namespace Go.Dd
open Go.Proofs

mutual
def nEq : Node → Node → Bool
  | .mk k t m ns ts ks, .mk k' t' m' ns' ts' ks' => decide (ns = ns') && decide (ts = ts') && decide (k = k') && decide (t = t') && decide (m = m') && nEqL ks ks'
def nEqL : List Node → List Node → Bool
  | [], [] => true
  | x :: l, y :: l' => nEq x y && nEqL l l'
  | _, _ => false
end

mutual
theorem nEq_refl : ∀ (x : Node), nEq x x = true
  | .mk k t m ns ts ks => by simp [nEq, nEqL_refl ks]
theorem nEqL_refl : ∀ (x : List Node), nEqL x x = true
  | [] => rfl
  | x :: l => by simp [nEqL, nEq_refl x, nEqL_refl l]
end
theorem nEqL_len : ∀ (x y : List Node), x.length ≠ y.length → nEqL x y = false
  | [], [], h => absurd rfl h
  | [], _ :: _, h => rfl
  | _ :: _, [], h => rfl
  | x :: l, y :: l', h => by
    simp at h
    simp [nEqL, nEqL_len l l' h]

theorem enter21b (n : Nat) (x y : DV) (h : Hp) : shD (n + 1) 21 [x, y] h = s21 (shD n) n x y h := by kernel_rfl

theorem SS.at {I : Im} {s : DV} {l : List (List Nat)} (H : SS I s l) {A Q L : Ls} {h : Hp} (S : Sy I A Q L h) {i : Nat} {x : List Nat} (hi : l[i]? = some x) :
    ∃ b o, (∀ h', pIndexAddr 1 s (.i .i64 (i : Int)) h' = some (.p b o, h')) ∧ pLoad1 (.p b o) h = some (.s x, h) := by
  obtain ⟨hlt, hg⟩ := List.getElem?_eq_some_iff.1 hi
  obtain ⟨b, o, e, k, row, g, rest, d⟩ := H.2.at S hlt
  refine ⟨b, o, e, ld1 g ?_ rfl⟩
  have e2 : row[o]? = (row.drop o)[0]? := by simp
  rw [e2, d, Nat.mul_one, List.drop_eq_getElem_cons (by simpa using hlt)]
  simp [hg]

section
variable {I : Im} {A Q L : Ls}

theorem names_loop {h : Hp} {s1 s2 : DV} {l1 l2 : List (List Nat)} (S : Sy I A Q L h) (N1 : SS I s1 l1) (N2 : SS I s2 l2) : ∀ (r1 r2 : List (List Nat)) (i j : Nat), l1.drop i = r1 → l2.drop i = r2 → r1.length = r2.length → i ≤ l1.length →
    Ev (fun n => s21a5l (shD n) n (n - j) s1 s2 (.i .i64 (i : Int)) h) (fun v h' => v = .b (decide (r1 = r2)) ∧ h' = h) := by
  intro r1
  induction r1 with
  | nil =>
    intro r2 i j e1 e2 hl hi
    refine Ev.loop j (ll := fun n p => s21a5l (shD n) n p s1 s2 (.i .i64 (i : Int)) h) (bb := fun n p => s21a5b (shD n) n (s21a5l (shD n) n p) s1 s2 (.i .i64 (i : Int)) h) (fun _ _ => rfl) ?_
    have h2 : r2 = [] := by cases r2 with
      | nil => rfl
      | cons => simp at hl
    subst h2
    have hl2 : i = l1.length := by
      have := congrArg List.length e1
      simp at this
      omega
    unfold s21a5b
    refine Ev.op (N1.2.len _) (Ev.ilt (fun k => ?_) (fun k => ?_))
    · omega
    · refine yj ?_
      unfold s21a3
      exact Ev.ret ⟨by simp, rfl⟩
  | cons x r1 ih =>
    intro r2 i j e1 e2 hl hi
    refine Ev.loop j (ll := fun n p => s21a5l (shD n) n p s1 s2 (.i .i64 (i : Int)) h) (bb := fun n p => s21a5b (shD n) n (s21a5l (shD n) n p) s1 s2 (.i .i64 (i : Int)) h) (fun _ _ => rfl) ?_
    obtain ⟨y, r2, rfl⟩ : ∃ y r, r2 = y :: r := by cases r2 with
      | nil => simp at hl
      | cons y r => exact ⟨y, r, rfl⟩
    have hx : l1[i]? = some x := by
      have := congrArg (fun l => l[0]?) e1
      simpa using this
    have hy : l2[i]? = some y := by
      have := congrArg (fun l => l[0]?) e2
      simpa using this
    have hlt := (List.getElem?_eq_some_iff.1 hx).1
    have e1' : l1.drop (i + 1) = r1 := by
      have := congrArg (List.drop 1) e1
      simpa [List.drop_drop] using this
    have e2' : l2.drop (i + 1) = r2 := by
      have := congrArg (List.drop 1) e2
      simpa [List.drop_drop] using this
    obtain ⟨b1, o1, p1, q1⟩ := N1.at S hx
    obtain ⟨b2, o2, p2, q2⟩ := N2.at S hy
    have hb := N1.1
    unfold s21a5b
    refine Ev.op (N1.2.len _) (Ev.ilt (fun k => ?_) (fun k => ?_))
    · refine yt ?_
      refine Ev.op (p1 _) (Ev.op q1 (Ev.op (p2 _) (Ev.op q2 ?_)))
      refine Ev.sne (fun k2 => ?_) (fun k2 => ?_)
      · refine yt ?_
        exact Ev.ret ⟨by simp [k2], rfl⟩
      · refine yj ?_
        refine Ev.iadd ?_
        rw [wadd1 (by omega)]
        refine (ih r2 (i + 1) (j + 1) e1' e2' (by simpa using hl) (by omega)).mono ?_
        rintro v h' ⟨rfl, rfl⟩
        exact ⟨by simp [k2], rfl⟩
    · omega

theorem names_ok {h : Hp} {s1 s2 : DV} {l1 l2 : List (List Nat)} (S : Sy I A Q L h) (N1 : SS I s1 l1) (N2 : SS I s2 l2) :
    Ev (fun n => shD n 21 [s1, s2] h) (fun v h' => v = .b (decide (l1 = l2)) ∧ h' = h) := by
  refine Ev.enter (fun n => enter21b n _ _ h) ?_
  unfold s21 s21a1
  refine Ev.op (N1.2.len _) (Ev.op (N2.2.len _) (Ev.ine (fun e => ?_) (fun e => ?_)))
  · refine yt ?_
    refine Ev.ret ⟨?_, rfl⟩
    have : l1 ≠ l2 := fun h => e (by rw [h])
    simp [this]
  · refine yj ?_
    unfold s21a2 s21a4
    exact names_loop S N1 N2 l1 l2 0 0 (by simp) (by simp) (by omega) (by omega)
end

theorem same_tail {I : Im} {A Q L : Ls} {h : Hp} {b b' : Pos} {k m k' m' : Int} {t t' : List Nat} {s1 s2 s3 s1' s2' s3' : DV} {c1 c2 : Bool} {ks ks' : List Node}
    (S : Sy I A Q (NC b' k' t' m' s1' s2' s3' :: NC b k t m s1 s2 s3 :: L) h) (h3 : NS I s3 ks) (h3' : NS I s3' ks') (o1 : s1.one = true) (o2 : s2.one = true) (o1' : s1'.one = true) (o2' : s2'.one = true)
    (loop : ks.length = ks'.length → Ev (fun n => s11a7l (shD n) n (n - 0) (.p b 0) (.p b' 0) (.i .i64 ((0 : Nat) : Int)) h) (fun v h' => v = .b (nEqL ks ks') ∧ Sy I A Q (NC b' k' t' m' s1' s2' s3' :: NC b k t m s1 s2 s3 :: L) h')) :
    Ev (fun n => s11a3 (shD n) n (.p b 0) (.p b' 0) (.b c1) (.b c2) h) (fun v h' => v = .b (c1 && c2 && decide (k = k') && decide (t = t') && decide (m = m') && nEqL ks ks') ∧ Sy I A Q L h') := by
  unfold s11a3
  unfold NC at S
  have o3 := h3.one
  have o3' := h3'.one
  cases c1 with
  | false =>
    refine ao ?_; refine yg ?_; refine yg ?_; refine ap ?_; refine yg ?_; refine yg ?_; refine yg ?_; refine yg ?_; refine yg ?_; refine ap ?_; refine yg ?_; refine yg ?_; refine yg ?_; refine yg ?_; refine yg ?_; refine ap ?_; refine yg ?_; refine yg ?_; refine yg ?_; refine yg ?_; refine yg ?_; refine ap ?_; refine yg ?_; refine yg ?_; refine yg ?_; refine yg ?_; refine yg ?_; refine yg ?_; refine yg ?_; refine ap ?_; refine yt ?_
    exact Ev.ret ⟨by simp, dp⟩
  | true =>
    cases c2 with
    | false =>
      refine an ?_; refine zf ?_; refine wm ?_; refine zf ?_; refine ao ?_; refine aq ?_; refine yg ?_; refine yg ?_; refine yg ?_; refine yg ?_; refine yg ?_; refine ap ?_; refine yg ?_; refine yg ?_; refine yg ?_; refine yg ?_; refine yg ?_; refine ap ?_; refine yg ?_; refine yg ?_; refine yg ?_; refine yg ?_; refine yg ?_; refine ap ?_; refine yg ?_; refine yg ?_; refine yg ?_; refine yg ?_; refine yg ?_; refine yg ?_; refine yg ?_; refine ap ?_; refine yt ?_
      exact Ev.ret ⟨by simp, dp⟩
    | true =>
      refine an ?_; refine zf ?_; refine wm ?_; refine zf ?_; refine an ?_; refine aq ?_; refine zf ?_; refine wf ?_; refine zf ?_; refine wl ?_; refine zf ?_; refine wf ?_; refine zf ?_; refine wl ?_; refine zf ?_
      refine Ev.ine (fun e1 => ?_) (fun e1 => ?_)
      · refine aq ?_; refine yg ?_; refine yg ?_; refine yg ?_; refine yg ?_; refine yg ?_; refine ap ?_; refine yg ?_; refine yg ?_; refine yg ?_; refine yg ?_; refine yg ?_; refine ap ?_; refine yg ?_; refine yg ?_; refine yg ?_; refine yg ?_; refine yg ?_; refine yg ?_; refine yg ?_; refine ap ?_; refine yt ?_
        exact Ev.ret ⟨by simp [e1], dp⟩
      · refine aq ?_; refine zf ?_; refine wf ?_; refine zf ?_; refine wl ?_; refine zf ?_; refine wf ?_; refine zf ?_; refine wl ?_; refine zf ?_
        refine Ev.sne (fun e2 => ?_) (fun e2 => ?_)
        · refine aq ?_; refine yg ?_; refine yg ?_; refine yg ?_; refine yg ?_; refine yg ?_; refine ap ?_; refine yg ?_; refine yg ?_; refine yg ?_; refine yg ?_; refine yg ?_; refine yg ?_; refine yg ?_; refine ap ?_; refine yt ?_
          exact Ev.ret ⟨by simp [e2], dp⟩
        · refine aq ?_; refine zf ?_; refine wf ?_; refine zf ?_; refine wl ?_; refine zf ?_; refine wf ?_; refine zf ?_; refine wl ?_; refine zf ?_
          refine Ev.ine (fun e3 => ?_) (fun e3 => ?_)
          · refine aq ?_; refine yg ?_; refine yg ?_; refine yg ?_; refine yg ?_; refine yg ?_; refine yg ?_; refine yg ?_; refine ap ?_; refine yt ?_
            exact Ev.ret ⟨by simp [e3], dp⟩
          · refine aq ?_; refine zf ?_; refine wf ?_; refine zf ?_; refine wl ?_; refine zf ?_
            refine Ev.op (h3.len _) ?_
            refine zf ?_; refine wf ?_; refine zf ?_; refine wl ?_; refine zf ?_
            refine Ev.op (h3'.len _) ?_
            refine zf ?_
            refine Ev.ine (fun e4 => ?_) (fun e4 => ?_)
            · refine aq ?_; refine yt ?_
              refine Ev.ret ⟨?_, dp⟩
              rw [nEqL_len ks ks' (by omega)]
              simp
            · refine aq ?_; refine yj ?_
              unfold s11a4 s11a6
              refine (loop (by omega)).mono ?_
              rintro v h' ⟨rfl, S'⟩
              exact ⟨by simp [e1, e2, e3], S'.dropL.dropL⟩

mutual
theorem same_ok : ∀ (x y : Node) (I : Im) (A Q L : Ls) (h : Hp) (cs cs' : List DV), Sy I A Q L h → NV I x cs → NV I y cs' → Ev (fun n => shD n 11 [.a cs, .a cs'] h) (fun v h' => v = .b (nEq x y) ∧ Sy I A Q L h')
  | .mk k t m ns ts ks, .mk k' t' m' ns' ts' ks', I, A, Q, L, h, cs, cs', S, ⟨s1, s2, s3, e, a1, a2, a3, cells, F, NL⟩, ⟨s1', s2', s3', e', a1', a2', a3', cells', F', NL'⟩ => by
    subst e
    subst e'
    have o1 := a1.2.one
    have o2 := a2.2.one
    have o3 := F.one
    have o1' := a1'.2.one
    have o2' := a2'.2.one
    have o3' := F'.one
    refine Ev.enter (fun n => enter11 n _ _ h) ?_
    unfold s11
    refine Ev.box S rfl (fun b h1 S1 => ?_)
    refine Ev.box S1 rfl (fun b' h2 S2 => ?_)
    unfold s11a1
    refine wf ?_; refine wl ?_; refine wf ?_; refine wl ?_
    refine Ev.call (names_ok S2 a1 a1') ?_
    rintro _ _ ⟨rfl, rfl⟩
    unfold s11a2
    refine wf ?_; refine wl ?_; refine wf ?_; refine wl ?_
    refine Ev.call (names_ok S2 a2 a2') ?_
    rintro _ _ ⟨rfl, rfl⟩
    simp only [nEq]
    refine same_tail (by exact S2) ⟨a3, cells, F, NL⟩ ⟨a3', cells', F', NL'⟩ o1 o2 o1' o2' ?_
    intro hl
    exact same_loop ks ks' I A Q L _ _ _ [] [] b b' k k' t t' m m' s1 s2 s3 s1' s2' s3' ks ks' 0 0 ⟨a3, cells, F, NL⟩ ⟨a3', cells', F', NL'⟩ (by simp) (by simp) hl (by omega) S2 rfl rfl o3 o3'
theorem same_loop : ∀ (r r' : List Node) (I : Im) (A Q L : Ls) (h : Hp) (c c' : List DV) (L0 L1 : Ls) (b b' : Pos) (k k' : Int) (t t' : List Nat) (m m' : Int) (s1 s2 s3 s1' s2' s3' : DV) (ks ks' : List Node) (i j : Nat), NS I s3 ks → NS I s3' ks' → ks.drop i = r → ks'.drop i = r' → r.length = r'.length → i ≤ ks.length →
    Sy I A Q ((b', some (.row .ex c')) :: (b, some (.row .ex c)) :: L) h → c[5]? = some s3 → c'[5]? = some s3' → s3.one = true → s3'.one = true →
    Ev (fun n => s11a7l (shD n) n (n - j) (.p b 0) (.p b' 0) (.i .i64 (i : Int)) h) (fun v h' => v = .b (nEqL r r') ∧ Sy I A Q ((b', some (.row .ex c')) :: (b, some (.row .ex c)) :: L) h')
  | [], r', I, A, Q, L, h, c, c', L0, L1, b, b', k, k', t, t', m, m', s1, s2, s3, s1', s2', s3', ks, ks', i, j, N, N', hr, hr', hl, hi, S, g, g', o3, o3' => by
    have h2 : r' = [] := by cases r' with
      | nil => rfl
      | cons => simp at hl
    subst h2
    refine Ev.loop j (ll := fun n p => s11a7l (shD n) n p (.p b 0) (.p b' 0) (.i .i64 (i : Int)) h) (bb := fun n p => s11a7b (shD n) n (s11a7l (shD n) n p) (.p b 0) (.p b' 0) (.i .i64 (i : Int)) h) (fun _ _ => rfl) ?_
    have hl2 : i = ks.length := by
      have := congrArg List.length hr
      simp at this
      omega
    unfold s11a7b
    refine Ev.fld (Ev.op (ld1 (S.memL (List.Mem.tail _ (List.Mem.head _))) (by simpa using g) o3) ?_)
    refine Ev.op (N.len _) (Ev.ilt (fun e1 => ?_) (fun e1 => ?_))
    · omega
    · refine yj ?_
      unfold s11a5
      exact Ev.ret ⟨rfl, S⟩
  | x :: r, r', I, A, Q, L, h, c, c', L0, L1, b, b', k, k', t, t', m, m', s1, s2, s3, s1', s2', s3', ks, ks', i, j, N, N', hr, hr', hl, hi, S, g, g', o3, o3' => by
    obtain ⟨y, r', rfl⟩ : ∃ y q, r' = y :: q := by cases r' with
      | nil => simp at hl
      | cons y q => exact ⟨y, q, rfl⟩
    refine Ev.loop j (ll := fun n p => s11a7l (shD n) n p (.p b 0) (.p b' 0) (.i .i64 (i : Int)) h) (bb := fun n p => s11a7b (shD n) n (s11a7l (shD n) n p) (.p b 0) (.p b' 0) (.i .i64 (i : Int)) h) (fun _ _ => rfl) ?_
    have hx : ks[i]? = some x := by
      have := congrArg (fun l => l[0]?) hr
      simpa using this
    have hy : ks'[i]? = some y := by
      have := congrArg (fun l => l[0]?) hr'
      simpa using this
    have hlt := (List.getElem?_eq_some_iff.1 hx).1
    have e1' : ks.drop (i + 1) = r := by
      have := congrArg (List.drop 1) hr
      simpa [List.drop_drop] using this
    have e2' : ks'.drop (i + 1) = r' := by
      have := congrArg (List.drop 1) hr'
      simpa [List.drop_drop] using this
    have hb := N.1
    unfold s11a7b
    have l1 := fun {h} (S : Sy I A Q ((b', some (.row .ex c')) :: (b, some (.row .ex c)) :: L) h) => ld1 (o := 0 + 5) (S.memL (List.Mem.tail _ (List.Mem.head _))) (by simpa using g) o3
    have l2 := fun {h} (S : Sy I A Q ((b', some (.row .ex c')) :: (b, some (.row .ex c)) :: L) h) => ld1 (o := 0 + 5) (S.memL (List.Mem.head _)) (by simpa using g') o3'
    refine Ev.fld (Ev.op (l1 S) ?_)
    refine Ev.op (N.len _) (Ev.ilt (fun e1 => ?_) (fun e1 => ?_))
    · refine yt ?_; refine wf ?_
      refine Ev.op (l1 S) ?_
      obtain ⟨p1, q1, d1, u1, u2, u3⟩ := N.at hx
      obtain ⟨p2, q2, d2, v1, v2, v3⟩ := N'.at hy
      refine Ev.op (u1 _) (Ev.op (u3 _ _ _ _ _ (ILe.refl _) S) (Ev.fld (Ev.op (l2 S) (Ev.op (v1 _) (Ev.op (v3 _ _ _ _ _ (ILe.refl _) S) ?_)))))
      refine Ev.call (same_ok x y I A Q _ h d1 d2 S u2 v2) ?_
      rintro _ h1 ⟨rfl, S1⟩
      simp only [nEqL]
      cases e : nEq x y with
      | false =>
        refine ao ?_; refine yt ?_
        exact Ev.ret ⟨by simp, S1⟩
      | true =>
        refine an ?_; refine yj ?_
        refine Ev.iadd ?_
        rw [wadd1 (by omega)]
        refine (same_loop r r' I A Q L h1 c c' L0 L1 b b' k k' t t' m m' s1 s2 s3 s1' s2' s3' ks ks' (i + 1) (j + 1) N N' e1' e2' (by simpa using hl) (by omega) S1 g g' o3 o3').mono ?_
        rintro v h' ⟨rfl, S2⟩
        exact ⟨by simp, S2⟩
    · omega
end

end Go.Dd

/- Dd, part Z5: ParseBlanks runs to true. -/
set_option linter.unusedVariables false
set_option linter.unusedSimpArgs false
set_option maxRecDepth 100000
namespace Go.Dd
open Go.Proofs

def PosOk (N : Nat) : Nat → List Tok → Prop
  | _, [] => True
  | p, t :: l => ∃ a : Nat, t.pos = (a : Int) ∧ p ≤ a ∧ a ≤ N ∧ PosOk N a l

theorem PosOk.low {N : Nat} : ∀ (l : List Tok) {p q : Nat}, q ≤ p → PosOk N p l → PosOk N q l
  | [], _, _, _, _ => trivial
  | t :: l, p, q, h, ⟨a, e, h1, h2, h3⟩ => ⟨a, e, by omega, h2, h3⟩

theorem lx_pos {g : Nat} : ∀ (l : List Tok) (v : List Nat) (p : Nat), Lx g v p l → PosOk (p + v.length) p l := by
  intro l
  induction l with
  | nil => intro v p h; cases h
  | cons t l ih =>
    intro v p h
    cases h with
    | fin _ _ hw => exact ⟨p + v.length, rfl, by omega, by omega, trivial⟩
    | tok w u _ k rs l hw h1 h2 h3 h4 h5 h6 h7 =>
      have := ih _ _ h7
      refine ⟨p + w.length, rfl, by omega, by rw [List.length_append]; omega, ?_⟩
      have e : p + w.length + k + (u.drop k).length = p + (w ++ u).length := by simp; omega
      rw [e] at this
      exact this.low _ (by omega)

section
variable {I : Im} {A L : Ls} {x3 x6 : DV} {lt : List Tok} {u : List Nat} {P : DV → Hp → Prop}

end

end Go.Dd

/- Dd, part B6: plain: a method behind a pattern of one name. -/
set_option linter.unusedVariables false
set_option linter.unusedSimpArgs false
set_option maxRecDepth 100000
namespace Go.Dd

/-! ### Tokens as the lexer makes them -/

theorem token_TOk {f : Nat} {u : List Nat} {rs : Int × List Nat × Int × Int × Nat} (h : tokenM f u = some rs) (p : Int) : TOk ⟨rs.1, rs.2.1, rs.2.2.1, p⟩ := by
  have key : (rs.1 = 4 → rs.2.1 = []) ∧ (rs.1 = 5 ∨ rs.1 = 6 → rs.2.2.1 = 0) := by
    unfold tokenM at h
    repeat' split at h
    all_goals first
      | (cases h; exact ⟨fun _ => rfl, fun e => by simp at e⟩)
      | (cases h; exact ⟨fun e => by simp at e, fun e => by simp at e⟩)
      | (obtain ⟨r, e1, e2⟩ := Option.bind_eq_some_iff.1 h; cases e2; exact ⟨fun e => by simp at e, fun _ => rfl⟩)
  exact key

theorem lx_tok {g : Nat} : ∀ (l : List Tok) (v : List Nat) (p : Nat), Lx g v p l → GT l := by
  intro l
  induction l with
  | nil => intro v p h; cases h
  | cons t l ih =>
    intro v p h
    cases h with
    | fin _ _ hw =>
      refine ⟨by simp, fun t ht => ?_⟩
      simp at ht
      subst ht
      exact ⟨fun e => (by cases e), fun e => (by rcases e with e | e <;> cases e)⟩
    | tok w u _ k rs l hw h1 h2 h3 h4 h5 h6 h7 =>
      have := ih _ _ h7
      refine ⟨by simp, fun t ht => ?_⟩
      rcases List.mem_cons.1 ht with rfl | ht
      · exact token_TOk h1 _
      · exact this.2 t ht

theorem lex_GT {u : List Nat} (hu : u.length ≤ 2000) {lx : List Tok × Int × Int} (hl : lexM 2001 2001 u = some lx) (he : lx.2.2 = 0) : GT lx.1 ∧ Lx 2001 u 0 lx.1 := by
  unfold lexM at hl
  rw [if_neg (by omega)] at hl
  obtain ⟨l, h1, h2⟩ := toks_lx (by omega) 2001 0 [] lx (by omega) hl he
  have e : lx.1 = l := by rw [h1]; rfl
  rw [e]
  exact ⟨lx_tok _ _ _ h2, h2⟩

/-! ### A source further on -/

def shiftT (d : Nat) (t : Tok) : Tok := { t with pos := t.pos + (d : Int) }

theorem lx_shift {g d : Nat} : ∀ (l : List Tok) (v : List Nat) (p : Nat), Lx g v p l → Lx g v (p + d) (l.map (shiftT d)) := by
  intro l
  induction l with
  | nil => intro v p h; cases h
  | cons t l ih =>
    intro v p h
    cases h with
    | fin _ _ hw =>
      have := Lx.fin (g := g) v (p + d) hw
      have e : ((p + d + v.length : Nat) : Int) = ((p + v.length : Nat) : Int) + (d : Int) := by omega
      rw [e] at this
      exact this
    | tok w u _ k rs l hw h1 h2 h3 h4 h5 h6 h7 =>
      have h8 := ih _ _ h7
      rw [show p + w.length + k + d = p + d + w.length + k by omega] at h8
      have := Lx.tok (g := g) w u (p + d) k rs _ hw h1 h2 h3 h4 h5 h6 h8
      have e : ((p + d + w.length : Nat) : Int) = ((p + w.length : Nat) : Int) + (d : Int) := by omega
      rw [e] at this
      exact this

theorem PosOk.mem {N : Nat} : ∀ (l : List Tok) {p : Nat}, PosOk N p l → ∀ t ∈ l, ∃ a : Nat, t.pos = (a : Int) ∧ a ≤ N
  | [], _, _, t, ht => by simp at ht
  | x :: l, p, ⟨a, e, h1, h2, h3⟩, t, ht => by
    rcases List.mem_cons.1 ht with rfl | ht
    · exact ⟨a, e, h2⟩
    · exact PosOk.mem l h3 t ht

theorem sim_shift {N d : Nat} (hN : N + d ≤ 900000) {l : List Tok} {p : Nat} (h : PosOk N p l) : Sim l (l.map (shiftT d)) := by
  refine ⟨by simp, fun i t ht => ?_⟩
  refine ⟨shiftT d t, by rw [List.getElem?_map, ht]; rfl, ⟨rfl, rfl, rfl⟩, fun _ u u' hu _ hu' => ?_⟩
  rw [List.getElem?_map, hu] at hu'
  cases hu'
  obtain ⟨a, ea, ha⟩ := h.mem _ t (List.mem_of_getElem? ht)
  obtain ⟨c, ec, hc⟩ := h.mem _ u (List.mem_of_getElem? hu)
  show u.pos = w64 (t.pos + 1) ↔ u.pos + (d : Int) = w64 (t.pos + (d : Int) + 1)
  rw [ea, ec, w64_small (by omega), show (a : Int) + (d : Int) + 1 = ((a + d : Nat) : Int) + 1 by omega, w64_small (by omega)]
  omega

def fooB : List Nat := [102, 111, 111, 32]
def fooN : Node := .mk 11 [102, 111, 111] 0 [] [] []
def fooT : Tok := ⟨1, [102, 111, 111], 0, 0⟩

theorem lx_foo {s : List Nat} {l : List Tok} (h : Lx 2001 s 0 l) : Lx 2001 (fooB ++ s) 0 (fooT :: l.map (shiftT 4)) := by
  have h4 := lx_shift (d := 4) _ _ _ h
  have h3 : Lx 2001 ([32] ++ s) 3 (l.map (shiftT 4)) := Lx.gap (w := [32]) h4 (.blank 32 [] (by decide) .nil)
  have ht : tokenM 2001 (fooB ++ s) = some (1, [102, 111, 111], 0, 0, 3) := by
    have hw : (fooB ++ s).takeWhile nameB = [102, 111, 111] := by
      show (102 :: 111 :: 111 :: 32 :: s).takeWhile nameB = _
      have e1 : nameB 102 = true := by decide
      have e2 : nameB 111 = true := by decide
      have e3 : nameB 32 = false := by decide
      simp [e1, e2, e3]
    have hn : nameM (fooB ++ s) = ([102, 111, 111], 0, 3) := by
      unfold nameM
      rw [hw]
      rfl
    unfold tokenM
    rw [if_pos (show letterB (nx (fooB ++ s) 0) = true from rfl), hn]
    rfl
  have := Lx.tok (g := 2001) [] (fooB ++ s) 0 3 (1, [102, 111, 111], 0, 0, 3) (l.map (shiftT 4)) .nil ht rfl rfl (by omega) (by simp [fooB]) (by decide) h3
  exact this

/-- The tail under another head. -/
theorem tailM_head {f : Nat} {x y z : Node} {st s : PSt} (h : tailM f x st = some (z, s)) : ∃ ts ks, z = x.with ts ks ∧ tailM f y st = some (y.with ts ks, s) := by
  unfold tailM at h ⊢
  obtain ⟨b, h1, h⟩ := Option.bind_eq_some_iff.1 h
  obtain ⟨c, h2, h⟩ := Option.bind_eq_some_iff.1 h
  obtain ⟨d, h3, h⟩ := Option.bind_eq_some_iff.1 h
  cases h
  exact ⟨b.1, c.1, rfl, by rw [h1, Option.bind_some, h2, Option.bind_some, h3]; rfl⟩

theorem expr_less {f : Nat} (hf : f + 1 ≤ lim) {st : PSt} (hg : GT st.toks) {t : Tok} (ht : lookS st 0 = some t) (he : st.err = 0) (hk : t.kind = 3) (hx : t.text = [60]) {y : Node} {s : PSt} (h : exprF f st = some (y, s)) : s.err ≠ 0 := by
  cases f with
  | zero => cases h
  | succ f =>
  cases f with
  | zero =>
    obtain ⟨_, r⟩ := exprF_Q 1 hf st st (RR.refl hg) y s h
    exfalso
    unfold exprF exprS at h
    rw [is_eq he ht 1, Option.bind_some] at h
    rw [if_neg (by simp [hk]), Option.bind_some] at h
    simp only [Bool.false_eq_true, if_false] at h
    unfold cascadeS at h
    obtain ⟨q, _, h⟩ := Option.bind_eq_some_iff.1 h
    obtain ⟨u, hu, h⟩ := Option.bind_eq_some_iff.1 h
    cases hu
  | succ f =>
    have h : exprS (primaryS (litF (f + 1)) (exprF (f + 1)) (f + 1)) (exprF (f + 1)) (f + 1) st = some (y, s) := h
    have HP := primary_Q (f0 := f + 1) (exprF_Q (f + 1) (by omega)) (f + 1)
    unfold exprS at h
    rw [is_eq he ht 1, Option.bind_some] at h
    rw [if_neg (by simp [hk]), Option.bind_some] at h
    simp only [Bool.false_eq_true, if_false] at h
    unfold cascadeS at h
    obtain ⟨⟨q, s1⟩, h1, h⟩ := Option.bind_eq_some_iff.1 h
    obtain ⟨⟨x2, s2⟩, h2, h⟩ := Option.bind_eq_some_iff.1 h
    obtain ⟨⟨x3, s3⟩, h3, h⟩ := Option.bind_eq_some_iff.1 h
    obtain ⟨⟨x4, s4⟩, h4, h⟩ := Option.bind_eq_some_iff.1 h
    have e1 : s1.err ≠ 0 := by
      unfold primaryS at h1
      have hp : plainS st = some ((.mk 0 t.text t.num [] [] [], false), st) := by
        unfold plainS
        rw [ht, Option.bind_some, if_pos he]
        have hn : ∃ t1, lookS st 1 = some t1 := by
          unfold lookS
          exact ⟨_, List.getElem?_eq_getElem (by have := hg.1; omega)⟩
        obtain ⟨t1, ht1⟩ := hn
        have : negS st = some false := by
          unfold negS
          rw [ht1, Option.bind_some]
          have : isS st 3 [45] = some false := by
            unfold isS
            rw [ht]
            simp [hx]
          rw [this, Option.bind_some, ht]
          simp
        rw [this, Option.bind_some]
        simp [hk]
      rw [hp, Option.bind_some] at h1
      simp only [Bool.false_eq_true, if_false] at h1
      rw [ht, Option.bind_some, if_pos he, if_neg (by omega), if_neg (by omega)] at h1
      have i1 : ∀ c, isS st 10 c = some false := by
        intro c
        unfold isS
        rw [ht]
        simp [hk]
      rw [i1, Option.bind_some] at h1
      simp only [Bool.false_eq_true, if_false] at h1
      rw [i1, Option.bind_some] at h1
      simp only [Bool.false_eq_true, if_false] at h1
      cases h1
      exact (fail_Q (RR.refl hg) (t := t) (t' := t) (e := 13) (by decide) (fun _ => rfl)).2
    obtain ⟨_, q', s1', _, R1, v1⟩ := HP st st (RR.refl hg) q s1 h1
    obtain ⟨k2, x2', s2', _, R2, v2⟩ := unary_Q (f + 1) q q' s1 s1' R1 v1 x2 s2 h2
    obtain ⟨k3, x3', s3', _, R3, v3⟩ := binary_Q HP (f + 1) (f + 1) x2 x2' s2 s2' R2 v2 x3 s3 h3
    obtain ⟨k4, _⟩ := keys_Q HP (f + 1) (by omega) x3 x3' R3 v3 x4 s4 h4
    have e4 : s4.err ≠ 0 := fun h => e1 (k2 (k3 (k4 h)))
    obtain ⟨c, hc, h⟩ := Option.bind_eq_some_iff.1 h
    cases c with
    | true => exact absurd (is_true hc).1 e4
    | false =>
      simp only [Bool.false_eq_true, if_false] at h
      cases h
      exact e4

/-- What is read does not begin with the sign less. -/
theorem no_less {f : Nat} (hf : f + 1 ≤ lim) {l : List Tok} (hg : GT l) {x : Node} {a : Int} (h : readM doitS f (l, 0, 0) = some (x, a, 0)) {t : Tok} (ht : lookS ⟨l, 0, 0, 0⟩ 0 = some t) : ¬ (t.kind = 3 ∧ t.text = [60]) := by
  rintro ⟨hk, hx⟩
  rw [readM_tail] at h
  unfold doitS at h
  simp only [Option.bind_some] at h
  obtain ⟨⟨y, st⟩, h1, h⟩ := Option.bind_eq_some_iff.1 h
  have i1 : ∀ k c, k ≠ 3 → isS ⟨l, 0, 0, 0⟩ k c = some false := by
    intro k c hne
    unfold isS
    rw [ht]
    have : ¬ t.kind = k := by rw [hk]; exact fun e => hne e.symm
    simp [this]
  unfold tailM at h1
  obtain ⟨⟨ts, s2⟩, h2, h1⟩ := Option.bind_eq_some_iff.1 h1
  unfold tempsS at h2
  rw [i1 10 _ (by decide), Option.bind_some] at h2
  simp only [Bool.false_eq_true, if_false] at h2
  cases h2
  obtain ⟨⟨ks, s3⟩, h3, h1⟩ := Option.bind_eq_some_iff.1 h1
  obtain ⟨⟨u, s4⟩, h4, h1⟩ := Option.bind_eq_some_iff.1 h1
  cases h1
  have e3 : s3.err ≠ 0 := by
    cases f with
    | zero => cases h3
    | succ f =>
      unfold stmtsL at h3
      rw [if_pos rfl, i1 0 _ (by decide), Option.bind_some] at h3
      simp only [Bool.false_eq_true, if_false] at h3
      rw [i1 10 _ (by decide), Option.bind_some] at h3
      simp only [Bool.false_eq_true, if_false] at h3
      rw [i1 10 _ (by decide), Option.bind_some] at h3
      simp only [Bool.false_eq_true, if_false] at h3
      obtain ⟨⟨z, s5⟩, h5, h3⟩ := Option.bind_eq_some_iff.1 h3
      have e5 := expr_less hf hg ht rfl hk hx h5
      obtain ⟨c, hc, h3⟩ := Option.bind_eq_some_iff.1 h3
      cases c with
      | true => exact absurd (is_true hc).1 e5
      | false =>
        simp only [Bool.false_eq_true, if_false] at h3
        cases h3
        exact e5
  have e4 : s4.err ≠ 0 := by
    unfold needS at h4
    obtain ⟨c, hc, h4⟩ := Option.bind_eq_some_iff.1 h4
    cases c with
    | true => exact absurd (is_true hc).1 e3
    | false =>
      simp only [Bool.false_eq_true, if_false] at h4
      obtain ⟨v, _, h4⟩ := Option.bind_eq_some_iff.1 h4
      simp only [Option.some.injEq, Prod.mk.injEq] at h4
      rw [← h4.2]
      unfold failS
      rw [if_neg e3]
      exact e3
  rw [if_neg (show ¬ ((Node.mk 11 [100, 111, 73, 116] 0 [] [] []).with [] ks, s4).2.err = 0 from e4)] at h
  simp only [Option.some.injEq, Prod.mk.injEq] at h
  exact e4 h.2.2

/-- A source that is read is read behind the pattern foo, with the same temporaries and statements. -/
theorem like_read {s : List Nat} (hs : s.length ≤ 300) {lx : List Tok × Int × Int} (hl : lexM 2001 2001 s = some lx) (he : lx.2.2 = 0) {x : Node} {a : Int} (hr : readM doitS 2004 lx = some (x, a, 0)) (fh : Nat) :
    ∃ l' ts ks, lexM 2001 2001 (fooB ++ s) = some (l', 0, 0) ∧ x = doitN.with ts ks ∧ readM (headS fh) 2004 (l', 0, 0) = some (fooN.with ts ks, 0, 0) := by
  obtain ⟨hg, hlx⟩ := lex_GT (by omega) hl he
  have h2 := lx_foo hlx
  have hpos := lx_pos _ _ _ hlx
  simp only [Nat.zero_add] at hpos
  have hsim := sim_shift (d := 4) (by omega) hpos
  have hlex : lexM 2001 2001 (fooB ++ s) = some (fooT :: lx.1.map (shiftT 4), 0, 0) := by
    unfold lexM
    have hlen : (fooB ++ s).length = s.length + 4 := by simp [fooB]
    rw [if_neg (by omega)]
    have := lx_toks (s := fooB ++ s) _ _ 0 2001 [] h2 rfl (by omega) (by omega)
    simpa using this
  rw [readM_lx he] at hr
  have hr' := hr
  rw [readM_tail] at hr
  unfold doitS at hr
  simp only [Option.bind_some] at hr
  obtain ⟨⟨y, st⟩, h1, hr⟩ := Option.bind_eq_some_iff.1 hr
  have hst : st.err = 0 := by
    apply Decidable.byContradiction
    intro hn
    rw [if_neg hn] at hr
    simp only [Option.some.injEq, Prod.mk.injEq] at hr
    exact hn hr.2.2
  rw [if_pos hst] at hr
  cases hr
  obtain ⟨y', st', h3, rfl, R⟩ := tail_R 2004 _ ⟨lx.1, 0, 0, 0⟩ ⟨lx.1.map (shiftT 4), 0, 0, 0⟩ ⟨hsim, rfl, rfl⟩ _ st h1
  obtain ⟨ts, ks, e1, h4⟩ := tailM_head (y := fooN) h3
  refine ⟨_, ts, ks, hlex, e1, ?_⟩
  rw [readM_tail]
  have hlen : 1 ≤ (lx.1.map (shiftT 4)).length := by rw [List.length_map]; exact hg.1
  have hhead : headS fh ⟨fooT :: lx.1.map (shiftT 4), 0, 0, 0⟩ = some (fooN, ⟨lx.1.map (shiftT 4), 0, 0, 0⟩) := by
    have hl0 : lookS ⟨fooT :: lx.1.map (shiftT 4), 0, 0, 0⟩ 0 = some fooT := by
      unfold lookS
      rw [Nat.zero_min]
      rfl
    unfold headS patternS
    rw [is_eq rfl hl0 1, Option.bind_some, if_pos (by rfl)]
    unfold takeS
    rw [hl0, Option.bind_some, if_neg (by decide), if_pos (by rw [List.length_cons]; omega)]
    simp only [Option.bind_some, List.drop_succ_cons, List.drop_zero]
    unfold primS
    obtain ⟨t, ht⟩ := look_some (b := ⟨lx.1, 0, 0, 0⟩) hg
    obtain ⟨t', ht', te⟩ := look_R (s := ⟨lx.1, 0, 0, 0⟩) (s' := ⟨lx.1.map (shiftT 4), 0, 0, 0⟩) ⟨hsim, rfl, rfl⟩ 0 t ht
    have hless := no_less (by simp [lim]) hg hr' ht
    have : isS ⟨lx.1.map (shiftT 4), 0, 0, 0⟩ 3 [60] = some false := by
      unfold isS
      rw [ht']
      simp only [Option.bind_some, decide_true, Bool.true_and, Option.some.injEq, Bool.and_eq_false_iff, Bool.or_eq_false_iff, decide_eq_false_iff_not]
      by_cases k3 : t'.kind = 3
      · refine .inr ⟨by simp, fun hx => hless ⟨by rw [te.1]; exact k3, by rw [te.2.1]; exact hx⟩⟩
      · exact .inl k3
    rw [this]
    rfl
  rw [hhead, Option.bind_some, h4, Option.bind_some]
  rw [if_pos (show st'.err = 0 by rw [← R.2.2]; exact hst)]

/-! ### A method is read, or refused -/

theorem patLW : ∀ (f : Nat) (st : PSt) (t : List Nat) (l : List (List Nat)), Good st.toks → (st.err = 0 → st.toks.length ≤ f ∧ t.length + st.toks.length * 10000 ≤ lim) → 1 ≤ f → ∃ r st', patL f t l false st = some (r, st') ∧ Good st'.toks ∧ st'.toks.length ≤ st.toks.length ∧ (st'.err = 0 → st.err = 0)
  | 0, st, t, l, h, hb, hf => by omega
  | f + 1, st, t, l, h, hb, hf => by
    obtain ⟨u, r, e, hu, h2, h3⟩ := lookG h
    unfold patL
    simp only [Bool.false_eq_true, if_false]
    rw [isG hu, Option.bind_some]
    cases hc : isC st u 2 [] with
    | false => exact ⟨(t, l), st, by simp, h, Nat.le_refl _, id⟩
    | true =>
      obtain ⟨c1, c2⟩ := isC_ok hc
      obtain ⟨b1, b2⟩ := hb c1
      obtain ⟨s1, a1, a2, a3, a4, a5, a6, a7, a8⟩ := takeW h hu (by omega)
      have hn : needS st 2 [] = some (u, s1) := by
        unfold needS
        rw [isG hu, Option.bind_some, hc, if_pos rfl, a1]
      have htx := h.text e
      have hp := a6.pos
      simp only [if_true]
      rw [hn, Option.bind_some, if_pos (by show t.length + u.text.length ≤ lim; omega)]
      obtain ⟨w, s2, g1, g2, g3⟩ := nameW a6 1 (.inl rfl) l.length
      rw [show (u, s1).2 = s1 from rfl, g1, Option.bind_some]
      obtain ⟨rr, s3, k1, k2, k3, k4⟩ := patLW f s2 (t ++ u.text) (l ++ [w]) g2.good (fun he => ⟨by omega, by
        have : s2.toks.length * 10000 ≤ s1.toks.length * 10000 := Nat.mul_le_mul_right _ g3
        simp; omega⟩) (by omega)
      exact ⟨rr, s3, k1, k2, by omega, fun _ => c1⟩

theorem patternW {f : Nat} {st : PSt} (h : Good st.toks) (hb : st.toks.length + 1 ≤ f) (hm : f ≤ 1000000) : ∃ r st', patternS f st = some (r, st') ∧ Good st'.toks ∧ st'.toks.length ≤ st.toks.length := by
  obtain ⟨u, r, e, hu, h2, h3⟩ := lookG h
  have hp := h.pos
  unfold patternS
  rw [isG hu, Option.bind_some]
  cases hc : isC st u 1 [] with
  | true =>
    obtain ⟨c1, c2⟩ := isC_ok hc
    obtain ⟨s1, a1, a2, a3, a4, a5, a6, a7, a8⟩ := takeW h hu (by omega)
    exact ⟨_, s1, by rw [if_pos rfl, a1]; rfl, a6, by omega⟩
  | false =>
    simp only [Bool.false_eq_true, if_false]
    rw [isG hu, Option.bind_some]
    cases hc : isC st u 3 [] with
    | true =>
      obtain ⟨c1, c2⟩ := isC_ok hc
      obtain ⟨s1, a1, a2, a3, a4, a5, a6, a7, a8⟩ := takeW h hu (by omega)
      obtain ⟨w, s2, g1, g2, g3⟩ := nameW a6 1 (.inl rfl) 0
      exact ⟨_, s2, by rw [if_pos rfl, a1, Option.bind_some, show (u, s1).2 = s1 from rfl, g1]; rfl, g2.good, by omega⟩
    | false =>
      simp only [Bool.false_eq_true, if_false]
      obtain ⟨f, rfl⟩ : ∃ k, f = k + 1 := ⟨f - 1, by omega⟩
      unfold patL
      simp only [if_true, Option.bind_some]
      have first : ∃ v s1, needS st 2 [] = some (v, s1) ∧ Good s1.toks ∧ s1.toks.length ≤ st.toks.length ∧ v.text.length ≤ 10000 := by
        unfold needS
        rw [isG hu, Option.bind_some]
        cases hc : isC st u 2 [] with
        | true =>
          obtain ⟨c1, c2⟩ := isC_ok hc
          obtain ⟨s1, a1, a2, a3, a4, a5, a6, a7, a8⟩ := takeW h hu (by omega)
          exact ⟨u, s1, by rw [if_pos rfl, a1], a6, by omega, h.text e⟩
        | false =>
          simp only [Bool.false_eq_true, if_false]
          rw [hu]
          exact ⟨z4, _, rfl, by rw [failS_toks]; exact h, by rw [failS_toks]; omega, by simp [z4]⟩
      obtain ⟨v, s1, d1, d2, d3, d4⟩ := first
      rw [d1, Option.bind_some, if_pos (by show ([] : List Nat).length + v.text.length ≤ lim; simp [lim]; omega)]
      obtain ⟨w, s2, g1, g2, g3⟩ := nameW d2 1 (.inl rfl) 0
      rw [show (v, s1).2 = s1 from rfl, show ([] : List (List Nat)).length = 0 from rfl, g1, Option.bind_some]
      have h2p := g2.good.pos
      obtain ⟨rr, s3, k1, k2, k3, k4⟩ := patLW f s2 ([] ++ v.text) ([] ++ [w]) g2.good (fun he => ⟨by omega, by
        have : s2.toks.length * 10000 ≤ 1000000 * 10000 := Nat.mul_le_mul_right _ (by omega)
        simp [lim]; omega⟩) (by omega)
      exact ⟨rr, s3, k1, k2, by omega⟩

theorem need1 {st : PSt} (h : Good st.toks) (kd : Int) (hk : kd ≠ 0) (tx : List Nat) : ∃ t s', needS st kd tx = some (t, s') ∧ Good s'.toks ∧ s'.toks.length ≤ st.toks.length := by
  obtain ⟨u, r, e, hu, h2, h3⟩ := lookG h
  unfold needS
  rw [isG hu, Option.bind_some]
  cases hc : isC st u kd tx with
  | true =>
    obtain ⟨c1, c2⟩ := isC_ok hc
    obtain ⟨s1, a1, a2, a3, a4, a5, a6, a7, a8⟩ := takeW h hu (by rw [c2]; exact hk)
    exact ⟨u, s1, by rw [if_pos rfl, a1], a6, by omega⟩
  | false =>
    simp only [Bool.false_eq_true, if_false]
    rw [hu]
    exact ⟨z4, _, rfl, by rw [failS_toks]; exact h, by rw [failS_toks]; omega⟩

theorem headW {f : Nat} {st : PSt} (h : Good st.toks) (hb : st.toks.length + 1 ≤ f) (hm : f ≤ 1000000) : ∃ x st', headS f st = some (x, st') ∧ Good st'.toks ∧ st'.toks.length ≤ st.toks.length := by
  obtain ⟨r, s1, a1, a2, a3⟩ := patternW h hb hm
  unfold headS
  rw [a1, Option.bind_some]
  obtain ⟨u, q, e, hu, h2, h3⟩ := lookG a2
  unfold primS
  rw [isG hu]
  simp only [Option.bind_some]
  cases hc : isC s1 u 3 [60] with
  | false => exact ⟨_, s1, rfl, a2, a3⟩
  | true =>
    obtain ⟨c1, c2⟩ := isC_ok hc
    obtain ⟨s2, b1, b2, b3, b4, b5, b6, b7, b8⟩ := takeW a2 hu (by omega)
    simp only [if_true]
    rw [b1, Option.bind_some]
    obtain ⟨t3, s3, d1, d2, d3⟩ := need1 b6 2 (by decide) primT
    rw [show (u, s2).2 = s2 from rfl, d1, Option.bind_some]
    obtain ⟨t4, s4, e1, e2, e3⟩ := need1 d2 4 (by decide) []
    rw [show (t3, s3).2 = s3 from rfl, e1, Option.bind_some]
    have g5 : Good (if 255 < t4.num then failS s4 t4 2 else s4).toks ∧ (if 255 < t4.num then failS s4 t4 2 else s4).toks.length = s4.toks.length := by
      split
      · rw [failS_toks]; exact ⟨e2, rfl⟩
      · exact ⟨e2, rfl⟩
    obtain ⟨t5, s5, k1, k2, k3⟩ := need1 g5.1 3 (by decide) [62]
    rw [show (if 255 < (t4, s4).1.num then failS (t4, s4).2 (t4, s4).1 2 else (t4, s4).2) = (if 255 < t4.num then failS s4 t4 2 else s4) from rfl, k1]
    exact ⟨_, s5, rfl, k2, by omega⟩

theorem tailW {f : Nat} {st : PSt} (x : Node) (h : Good st.toks) (hf : st.toks.length + 3 ≤ f) (hm : f ≤ 1000000) : ∃ y s, tailM f x st = some (y, s) := by
  obtain ⟨ts, s2, b1, b2⟩ := tempsW (f := f) h (fun _ => by omega) (by omega)
  have hl2 := b2.len
  obtain ⟨ks, s3, k, c1, c2, c3⟩ := stmtsW (exprFW f (by omega) hm) f s2 [] b2.good (fun _ => by omega) (by omega)
  obtain ⟨u, s4, d1, d2, d3⟩ := needW c2.good 0 [] 0 (fun h => absurd rfl h) (fun _ => rfl)
  unfold tailM
  rw [b1, Option.bind_some, c1, Option.bind_some, d1]
  exact ⟨_, _, rfl⟩

/-- A method of at most 2000 bytes is read, or refused. -/
theorem methodD {u : List Nat} (hu : u.length ≤ 2000) : ∃ lx res, lexM 2001 2001 u = some lx ∧ readM (headS 2004) 2004 lx = some res ∧ (res.2.2 = 0 → res.2.1 = 0) := by
  obtain ⟨lx, hl, hg⟩ := lexD hu
  refine ⟨lx, ?_⟩
  by_cases e : lx.2.2 = 0
  · obtain ⟨g1, g2⟩ := hg e
    obtain ⟨x, s1, h1, h2, h3⟩ := headW (f := 2004) (st := ⟨lx.1, 0, 0, 0⟩) g1 (by show lx.1.length + 1 ≤ _; omega) (by omega)
    have h3 : s1.toks.length ≤ lx.1.length := h3
    obtain ⟨y, s2, h4⟩ := tailW (f := 2004) x h2 (by omega) (by omega)
    rw [readM_lx e, readM_tail, h1, Option.bind_some, h4]
    by_cases e2 : s2.err = 0
    · exact ⟨(y, 0, 0), hl, by simp [e2], fun _ => rfl⟩
    · exact ⟨(zN, s2.pos, s2.err), hl, by simp [e2], fun h => absurd h e2⟩
  · refine ⟨(zN, lx.2.1, lx.2.2), hl, ?_, fun h => absurd h e⟩
    unfold readM
    rw [if_neg e]

end Go.Dd

/- Dd, part Z7: ParseLike runs to true. -/
set_option linter.unusedVariables false
set_option linter.unusedSimpArgs false
set_option maxRecDepth 100000
namespace Go.Dd
open Go.Proofs

theorem like2 {I : Im} {A L : Ls} {h : Hp} {u : List Nat} (hu : u.length ≤ 300) (hb : ∀ c ∈ u, c < 256) (S : Sy I A [] L h) :
    Ev (fun n => s7a2 (recL 9 true n) n (.s u) h) (fun v h' => v = .b true) := by
  obtain ⟨lx, res, l1, l2, l4⟩ := doitD (u := u) (by omega)
  have hlen : (fooB ++ u).length = u.length + 4 := by simp [fooB]
  obtain ⟨lx2, res2, m1, m2, m3⟩ := methodD (u := fooB ++ u) (by omega)
  unfold s7a2
  have e8 : ∀ n, recL 9 true n 8 = shD n 8 := fun n => recL_other true n rfl
  have e15 : ∀ n, recL 9 true n 15 = shD n 15 := fun n => recL_other true n rfl
  have e11 : ∀ n, recL 9 true n 11 = shD n 11 := fun n => recL_other true n rfl
  have e16 : ∀ n, recL 9 true n 16 = shD n 16 := fun n => recL_other true n rfl
  simp only [e8, e15, e11, e16, recL_self]
  have hlim : u.length ≤ lim := by simp [lim]; omega
  have hlim2 : (fooB ++ u).length ≤ lim := by simp only [lim]; omega
  have hb2 : ∀ c ∈ fooB ++ u, c < 256 := by
    intro c hc
    rcases List.mem_append.1 hc with hc | hc
    · simp [fooB] at hc; omega
    · exact hb c hc
  refine Ev.call (Doit_ok S hlim hb 2001 2001 2004 (by simp [lim]) (by simp [lim]) lx l1 res l2) ?_
  rintro _ h1 ⟨J, cs, rfl, g1, S1, N1⟩
  obtain ⟨c1, o1, b1⟩ := N1.shape
  refine wx ?_; refine wx ?_; refine wx ?_; refine wa fun _ _ _ => ?_; refine wt fun _ _ => ?_
  rename_i b5 _ _ _ _
  refine Ev.sadd (by simp; omega) ?_
  refine Ev.call (Method_ok (by assumption) hlim2 hb2 2001 2001 2004 2004 (by simp [lim]) (by simp [lim]) (by simp [lim]) lx2 m1 res2 m2) ?_
  rintro _ h2 ⟨K, cs2, rfl, g2, S2, N2⟩
  obtain ⟨c2, o2, b2⟩ := N2.shape
  refine wx ?_; refine wx ?_; refine wx ?_; refine wa fun _ _ _ => ?_; refine wt fun _ _ => ?_
  rename_i b12 _ _ h13 S13
  refine Ev.lenS ?_
  -- where it is compared with the document's
  have els : Ev (fun n => bnd (shD n 16 [.s u, (.b false)] h13) fun v33 h33 =>
    bnd (pExtract 0 v33 h33) fun v34 h34 =>
    bnd (pExtract 1 v33 h34) fun v35 h35 =>
    bnd (pExtract 2 v33 h35) fun v36 h36 =>
    bnd (pNew [(.i .i64 (Int.ofNat 0)), (.s []), (.i .i64 (Int.ofNat 0)), .l0, .l0, .l0] h36) fun v37 h37 =>
    bnd (pStore 6 v37 v34 h37) fun _ h38 =>
    bnd (pLoadA 6 (.p b5 0) h38) fun v39 h39 =>
    bnd (pLoadA 6 v37 h39) fun v40 h40 =>
    bnd (shD n 11 [v39, v40] h40) fun v41 h41 =>
    bnd (gD v41 true (some ((.i .i64 res.2.1), h41)) h41) fun v42 h42 =>
    bnd (gD v41 true (some (v35, h42)) h42) fun v43 h43 =>
    bnd (gD v41 true (pInt .eql v42 v43 h43) h43) fun v44 h44 =>
    bnd (pPick v41 v44 (.b false) h44) fun v45 h45 =>
    bnd (gD v45 true (some ((.i .i64 res.2.2), h45)) h45) fun v46 h46 =>
    bnd (gD v45 true (some (v36, h46)) h46) fun v47 h47 =>
    bnd (gD v45 true (pInt .eql v46 v47 h47) h47) fun v48 h48 =>
    bnd (pPick v45 v48 (.b false) h48) fun v49 h49 =>
    bnd (gD v49 true (some ((.i .i64 res2.2.2), h49)) h49) fun v50 h50 =>
    bnd (gD v49 true (pInt .neq v50 (.i .i64 (Int.ofNat 0)) h50) h50) fun v51 h51 =>
    bnd (gD v49 true (some (v51, h51)) h51) fun v52 h52 =>
    bnd (gD v52 false (some ((.i .i64 res2.2.1), h52)) h52) fun v53 h53 =>
    bnd (gD v52 false (pInt .eql v53 (.i .i64 (Int.ofNat 0)) h53) h53) fun v54 h54 =>
    bnd (gD v49 true (pPick v52 (.b true) v54 h54) h54) fun v55 h55 =>
    bnd (pPick v49 v55 (.b false) h55) fun v56 h56 =>
    bnd (gD v56 true (some (.b true, h56)) h56) fun v57 h57 =>
    bnd (pPick v56 v57 (.b false) h57) fun v58 h58 =>
    some (v58, h58)) (fun v h' => v = .b true) := by
    refine Ev.call (ReadD_ok S13 hlim 2001 2001 2004 (by simp [lim]) (by simp [lim]) lx l1 res (read_Q (by simp [lim]) (fun e => (lex_GT (by omega) l1 e).1) l2)) ?_
    rintro _ h3 ⟨M, cs3, rfl, g3, S3, N3⟩
    obtain ⟨c3, o3, b3⟩ := N3.shape
    refine wx ?_; refine wx ?_; refine wx ?_; refine wa fun _ _ _ => ?_; refine wt fun _ _ => ?_; refine ws ?_; refine ws ?_
    refine Ev.call (same_ok res.1 res.1 M A [] _ _ cs cs3 (by assumption) ((N1.mono g2).mono g3) N3) ?_
    rintro _ h5 ⟨rfl, S5⟩
    rw [nEq_refl]
    refine zt ?_; refine wm ?_; refine zt ?_; refine wm ?_; refine zt ?_
    refine Ev.ieq (fun e4 => ?_) (fun e4 => absurd rfl e4)
    refine ap ?_; refine zt ?_; refine wm ?_; refine zt ?_; refine wm ?_; refine zt ?_
    refine Ev.ieq (fun e5 => ?_) (fun e5 => absurd rfl e5)
    refine ap ?_; refine zt ?_; refine wm ?_; refine zt ?_
    refine Ev.ine (fun e6 => ?_) (fun e6 => ?_)
    · refine zt ?_; refine wm ?_; refine yg ?_; refine yg ?_; refine zt ?_; refine ap ?_; refine ap ?_; refine zt ?_; refine wm ?_; refine ap ?_
      exact Ev.ret rfl
    · refine zt ?_; refine wm ?_; refine zf ?_; refine wm ?_; refine zf ?_
      refine Ev.ieq (fun e7 => ?_) (fun e7 => absurd (m3 e6) e7)
      refine zt ?_; refine aq ?_; refine ap ?_; refine zt ?_; refine wm ?_; refine ap ?_
      exact Ev.ret rfl
  refine Ev.igt (fun e1 => ?_) (fun e1 => ?_)
  · refine zt ?_; refine wm ?_; refine zt ?_
    refine Ev.ieq (fun e2 => ?_) (fun e2 => ?_)
    · refine ap ?_; refine zt ?_; refine wm ?_; refine zt ?_
      refine Ev.ieq (fun e3 => ?_) (fun e3 => ?_)
      · -- both are read
        have e2' : res.2.2 = 0 := e2
        obtain ⟨k0, _⟩ := l4 e2'
        have hr : readM doitS 2004 lx = some (res.1, res.2.1, 0) := by
          rw [l2, ← e2']
        obtain ⟨l', ts, ks, n1, n2, n3⟩ := like_read hu l1 k0 hr 2004
        have n1 : lexM 2001 2001 (fooB ++ u) = some (l', 0, 0) := n1
        rw [m1] at n1
        cases n1
        rw [m2] at n3
        cases n3
        rw [n2] at N1
        obtain ⟨s1, s2, s3, rfl, a1, a2, a3, cells, F, NL⟩ := (N1.mono g2)
        obtain ⟨s1', s2', s3', rfl, a1', a2', a3', cells', F', NL'⟩ := N2
        have q1 := a1.2.one
        have q2 := a2.2.one
        have q3 := F.one
        have q1' := a1'.2.one
        have q2' := a2'.2.one
        have q3' := F'.one
        refine ap ?_; refine yt ?_; refine wf ?_; refine wu fun _ _ => ?_; refine wf ?_; refine wl ?_; refine wf ?_; refine wu fun _ _ => ?_; refine ws ?_; refine ws ?_
        refine Ev.call (same_ok (.mk 11 [102, 111, 111] 0 [] ts ks) (.mk 11 [102, 111, 111] 0 [] ts ks) K A [] _ _ _ _ (by assumption) ⟨s1, s2, s3, rfl, a1, a2, a3, cells, F, NL⟩ ⟨s1', s2', s3', rfl, a1', a2', a3', cells', F', NL'⟩) ?_
        rintro _ h5 ⟨rfl, S5⟩
        rw [nEq_refl]
        refine zt ?_; refine wm ?_; refine ap ?_
        exact Ev.ret rfl
      · refine ap ?_; refine yj ?_
        exact els
    · refine ap ?_; refine yf ?_; refine yf ?_; refine aq ?_; refine yj ?_
      exact els
  · refine yf ?_; refine yf ?_; refine aq ?_; refine yf ?_; refine yf ?_; refine aq ?_; refine yj ?_
    exact els

/-- ParseLike runs to true, whatever its argument. -/
theorem like_ok {I : Im} {A L : Ls} {h : Hp} {u : List Nat} (hb : ∀ c ∈ u, c < 256) (S : Sy I A [] L h) :
    Ev (fun n => s7 (recL 9 true n) n (.s u) h) (fun v h' => v = .b true) := by
  unfold s7 s7a1
  refine Ev.lenS ?_
  refine Ev.igt (fun e1 => ?_) (fun e1 => ?_)
  · refine yt ?_
    simp at e1
    refine Ev.op (cutT (by omega) _) ?_
    exact like2 (by simp; omega) (fun c hc => hb c (List.mem_of_mem_take hc)) S
  · refine yj ?_
    simp at e1
    exact like2 (by omega) hb S

end Go.Dd

