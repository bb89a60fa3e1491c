/- A part of the proof: T6 T7 T8 T9 T10 T11 T12 T13 T14 U1 U2 U3 T15 T16 T17 T18 U4 T19 Z1 Z4 P0 P1 P2 P3 P4 P5 P6 P7 P8 P9: each text has a comment of its own. -/
import Derived.Test.YtliejomdaookoaaGreatDoorSa2
/- Dd, part T6: the program's parser: walks of expressions, blocks, statements. -/
set_option linter.unusedVariables false
set_option linter.unusedSimpArgs false
set_option maxRecDepth 100000
namespace Go.Dd
open Go.Proofs

theorem enter153 (n : Nat) (x : DV) (h : Hp) : shD (n + 1) 153 [x] h = s153 (shD n) n x h := by kernel_rfl
theorem enter152 (n : Nat) (x : DV) (h : Hp) : shD (n + 1) 152 [x] h = s152 (shD n) n x h := by kernel_rfl
theorem enter50 (n : Nat) (x : DV) (h : Hp) : shD (n + 1) 50 [x] h = s50 (shD n) n x h := by kernel_rfl
theorem enter154 (n : Nat) (x : DV) (h : Hp) : shD (n + 1) 154 [x] h = s154 (shD n) n x h := by kernel_rfl
theorem enter137 (n : Nat) (x : DV) (h : Hp) : shD (n + 1) 137 [x] h = s137 (shD n) n x h := by kernel_rfl
theorem enter135 (n : Nat) (x y : DV) (h : Hp) : shD (n + 1) 135 [x, y] h = s135 (shD n) n x y h := by kernel_rfl
theorem enter134 (n : Nat) (x y : DV) (h : Hp) : shD (n + 1) 134 [x, y] h = s134 (shD n) n x y h := by kernel_rfl
theorem enter139 (n : Nat) (x : DV) (h : Hp) : shD (n + 1) 139 [x] h = s139 (shD n) n x h := by kernel_rfl
theorem enter114 (n : Nat) (x : DV) (h : Hp) : shD (n + 1) 114 [x] h = s114 (shD n) n x h := by kernel_rfl
theorem enter79 (n : Nat) (x : DV) (h : Hp) : shD (n + 1) 79 [x] h = s79 (shD n) n x h := by kernel_rfl

theorem call152 (rec : FuncId → List DV → Hp → Res) (x : DV) (h : Hp) : pCall CF rec (.f 152 [x] []) [] h = rec 152 [x] h := by kernel_rfl
theorem call153 (rec : FuncId → List DV → Hp → Res) (x : DV) (h : Hp) : pCall CF rec (.f 153 [x] []) [] h = rec 153 [x] h := by kernel_rfl
theorem call154 (rec : FuncId → List DV → Hp → Res) (x : DV) (h : Hp) : pCall CF rec (.f 154 [x] []) [] h = rec 154 [x] h := by kernel_rfl

theorem inner_ok {E : PF} (HE : NOk 79 E) : NOk 153 (innerS E) := by
  intro I A L h p s st x st' S T hm
  unfold innerS at hm
  obtain ⟨⟨y, st1⟩, hy, hm⟩ := Option.bind_eq_some_iff.1 hm
  obtain ⟨⟨t, st2⟩, ht, hm⟩ := Option.bind_eq_some_iff.1 hm
  simp only [Option.some.injEq, Prod.mk.injEq] at hm
  obtain ⟨rfl, rfl⟩ := hm
  refine Ev.enter (fun n => enter153 n _ h) ?_
  unfold s153
  refine wa fun _ _ _ => ?_
  refine Ev.call (HE _ _ _ _ _ _ _ _ _ (by assumption) T hy) ?_
  rintro _ _ ⟨J, s1, cs, rfl, g1, S1, T1, N1⟩
  obtain ⟨l1, o1, b1⟩ := N1.shape
  refine wa fun _ _ _ => ?_; refine wt fun _ _ => ?_
  refine Ev.call (need_ok (by assumption) T1 ht) ?_
  rintro _ _ ⟨rfl, s2, S2, T2⟩
  refine ws ?_; refine wt fun _ _ => ?_; refine ws ?_
  exact Ev.ret ⟨J, s2, cs, rfl, g1, dp, T2, N1⟩

/-- A node is appended to a slice of nodes that grows. -/
theorem app_node {I : Im} {B A Q L : Ls} {h : Hp} {x : DV} {xs : List Node} {cells : List DV} (G : Gr I 6 B x xs.length cells) (NL : NVL I xs cells) {y : Node} {cs : List DV} (N : NV I y cs) {b : Pos}
    (S : Sy I (B ++ A) Q L h) (m : (b, some (.row .ex cs)) ∈ L) (hl : xs.length + 1 ≤ lim) :
    ∃ x' h' B' cells', pAppend 6 104 x (.l b 0 1 1) h = some (x', h') ∧ Sy I (B' ++ A) Q L h' ∧ Gr I 6 B' x' (xs ++ [y]).length cells' ∧ NVL I (xs ++ [y]) cells' := by
  obtain ⟨l1, o1, b1⟩ := N.shape
  have hr : (xs.length + 1) * 104 ≤ roomD := by simp [roomD, lim] at hl ⊢; omega
  obtain ⟨x4, h4, B4, e4, S4, G4⟩ := G.app S (src_own S (n := 1) m (by omega) o1) (by omega) o1 (by omega) hr
  exact ⟨x4, h4, B4, cells ++ cs, e4, S4, by simpa using G4, NL.app (NVL.single N)⟩

/-- It grows no more. -/
theorem Gr.nodes {I : Im} {B A Q L : Ls} {h : Hp} {x : DV} {xs : List Node} {cells : List DV} (G : Gr I 6 B x xs.length cells) (NL : NVL I xs cells) (S : Sy I (B ++ A) Q L h) (hl : xs.length ≤ lim) :
    ∃ J, ILe I J ∧ Sy J A Q L h ∧ NS J x xs := by
  obtain ⟨J, gJ, S3, F3⟩ := G.freeze S
  exact ⟨J, gJ, S3, hl, cells, F3, NL.mono gJ⟩

theorem stmts_loop {E : PF} (HE : NOk 79 E) : ∀ (f j : Nat) (I : Im) (B A L : Ls) (h : Hp) (p : Pos) (s x : DV) (st : PSt) (xs ys : List Node) (cells : List DV) (st' : PSt), Sy I (B ++ A) [PS p s st] L h → Gr I 6 B x xs.length cells → NVL I xs cells →
    xs.length + f ≤ lim → TS' I s st.toks → stmtsL E f xs st = some (ys, st') →
    Ev (fun n => s50a4l (shD n) n (n - j) (.p p 0) x h) (fun v h' => ∃ J s', ILe I J ∧ Sy J A [PS p s' st'] L h' ∧ TS' J s' st'.toks ∧ NS J v ys)
  | 0, j, I, B, A, L, h, p, s, x, st, xs, ys, cells, st', S, G, NL, hl, T, hm => by cases hm
  | f + 1, j, I, B, A, L, h, p, s, x, st, xs, ys, cells, st', S, G, NL, hl, T, hm => by
    unfold stmtsL at hm
    refine Ev.loop j (ll := fun n m => s50a4l (shD n) n m (.p p 0) x h) (bb := fun n m => s50a4b (shD n) n (s50a4l (shD n) n m) (.p p 0) x h) (fun _ _ => rfl) ?_
    have hs := T.2.one
    unfold s50a4b s50a3
    refine wn ?_; refine wf ?_; refine wq ?_
    have fin : ∀ h', Sy I (B ++ A) [PS p s st] L h' → some (xs, st) = some (ys, st') → Ev (fun _ => some (x, h')) (fun v h' => ∃ J s', ILe I J ∧ Sy J A [PS p s' st'] L h' ∧ TS' J s' st'.toks ∧ NS J v ys) := by
      intro h' S' hm
      simp only [Option.some.injEq, Prod.mk.injEq] at hm
      obtain ⟨rfl, rfl⟩ := hm
      obtain ⟨J, gJ, S3, N3⟩ := G.nodes NL S' (by omega)
      exact Ev.ret ⟨J, s, gJ, S3, T.mono gJ, N3⟩
    refine Ev.ieq (fun e1 => ?_) (fun e1 => ?_)
    · rw [if_pos (show st.err = 0 from e1)] at hm
      refine zt ?_; refine wm ?_; refine zt ?_
      obtain ⟨c, hc, hm⟩ := Option.bind_eq_some_iff.1 hm
      refine Ev.call (is_ok (by assumption) T hc) ?_
      rintro _ _ ⟨rfl, S1⟩
      cases c with
      | true =>
        refine zt ?_; refine an ?_; refine ap ?_; refine yf ?_; refine yf ?_; refine yf ?_; refine aq ?_; refine yj ?_
        exact fin _ S1 (by simpa using hm)
      | false =>
        refine zt ?_; refine ao ?_; refine ap ?_; refine zt ?_; refine wm ?_; refine zt ?_
        rw [if_neg (by simp)] at hm
        obtain ⟨c, hc, hm⟩ := Option.bind_eq_some_iff.1 hm
        refine Ev.call (is_ok (by assumption) T hc) ?_
        rintro _ _ ⟨rfl, S2⟩
        cases c with
        | true =>
          refine zt ?_; refine an ?_; refine ap ?_; refine yj ?_
          exact fin _ S2 (by simpa using hm)
        | false =>
          refine zt ?_; refine ao ?_; refine ap ?_; refine yt ?_
          rw [if_neg (by simp)] at hm
          obtain ⟨c, hc, hm⟩ := Option.bind_eq_some_iff.1 hm
          unfold s50a5
          refine Ev.call (is_ok (by assumption) T hc) ?_
          rintro _ _ ⟨rfl, S3⟩
          unfold s50a7
          cases c with
          | true =>
            refine yt ?_
            rw [if_pos rfl] at hm
            obtain ⟨⟨t, st1⟩, ht, hm⟩ := Option.bind_eq_some_iff.1 hm
            obtain ⟨⟨y, st2⟩, hy, hm⟩ := Option.bind_eq_some_iff.1 hm
            obtain ⟨d, hd, hm⟩ := Option.bind_eq_some_iff.1 hm
            unfold s50a8
            refine Ev.call (take_ok S3 T ht) ?_
            rintro _ _ ⟨rfl, s4, S4, T4⟩
            unfold s50a9
            refine Ev.call (HE _ _ _ _ _ _ _ _ _ S4 T4 hy) ?_
            rintro _ _ ⟨J, s5, cs, rfl, g5, S5, T5, N5⟩
            obtain ⟨l5, o5, b5⟩ := N5.shape
            refine Ev.bs S5 (fill6 l5) ?_
            intro b6 h6 S6
            obtain ⟨K, g7, S7, F7, _⟩ := Fz.built (sz := 6) (n := 1) S6 (by omega) o5
            have N7 : NS K _ [y] := ⟨by simp [lim], cs, F7, NVL.single (N5.mono g7)⟩
            have o7 := N7.one
            refine wd ?_
            have N8 := NV.of (I := K) (k := 10) (t := []) (m := 0) (SS.nil K) (SS.nil K) N7
            obtain ⟨l8, o8, b8⟩ := N8.shape
            refine Ev.bs S7 (fill6 l8) ?_
            intro b9 h9 S9
            obtain ⟨x10, h10, B10, cells10, e10, S10, G10, NL10⟩ := app_node ((G.mono g5).mono g7) ((NL.mono g5).mono g7) N8 S9 (List.Mem.head _) (by omega)
            refine Ev.op e10 ?_
            unfold s50a10 s50a11
            refine Ev.call (is_ok S10.dropL (T5.mono g7) hd) ?_
            rintro _ _ ⟨rfl, S11⟩
            have fin2 : ∀ h' s', Sy K (B10 ++ A) [PS p s' st'] L h' → TS' K s' st'.toks → ys = xs ++ [.mk 10 [] 0 [] [] [y]] → Ev (fun _ => some (x10, h')) (fun v h' => ∃ J s', ILe I J ∧ Sy J A [PS p s' st'] L h' ∧ TS' J s' st'.toks ∧ NS J v ys) := by
              intro h' s' S' T' e
              subst e
              obtain ⟨M, gM, S12, N12⟩ := G10.nodes NL10 S' (by simp; omega)
              exact Ev.ret ⟨M, s', (g5.trans g7).trans gM, S12, T'.mono gM, N12⟩
            cases d with
            | true =>
              refine yt ?_
              rw [if_pos rfl] at hm
              obtain ⟨⟨t2, st3⟩, ht2, hm⟩ := Option.bind_eq_some_iff.1 hm
              simp only [Option.some.injEq, Prod.mk.injEq] at hm
              obtain ⟨rfl, rfl⟩ := hm
              refine Ev.call (take_ok S11 (T5.mono g7) ht2) ?_
              rintro _ _ ⟨rfl, s18, S13, T13⟩
              exact fin2 _ s18 S13 T13 rfl
            | false =>
              refine yj ?_
              rw [if_neg (by simp)] at hm
              simp only [Option.some.injEq, Prod.mk.injEq] at hm
              obtain ⟨rfl, rfl⟩ := hm
              exact fin2 _ s5 S11 (T5.mono g7) rfl
          | false =>
            refine yj ?_
            rw [if_neg (by simp)] at hm
            obtain ⟨⟨y, st2⟩, hy, hm⟩ := Option.bind_eq_some_iff.1 hm
            obtain ⟨d, hd, hm⟩ := Option.bind_eq_some_iff.1 hm
            unfold s50a6
            refine Ev.call (HE _ _ _ _ _ _ _ _ _ S3 T hy) ?_
            rintro _ _ ⟨J, s5, cs, rfl, g5, S5, T5, N5⟩
            obtain ⟨l5, o5, b5⟩ := N5.shape
            refine Ev.bs S5 (fill6 l5) ?_
            intro b6 h6 S6
            obtain ⟨x10, h10, B10, cells10, e10, S10, G10, NL10⟩ := app_node (G.mono g5) (NL.mono g5) N5 S6 (List.Mem.head _) (by omega)
            refine Ev.op e10 ?_
            refine Ev.call (is_ok S10.dropL T5 hd) ?_
            rintro _ _ ⟨rfl, S11⟩
            cases d with
            | true =>
              refine an ?_; refine yj ?_
              rw [if_pos rfl] at hm
              obtain ⟨⟨t2, st3⟩, ht2, hm⟩ := Option.bind_eq_some_iff.1 hm
              refine Ev.call (take_ok S11 T5 ht2) ?_
              rintro _ _ ⟨rfl, s18, S13, T13⟩
              refine (stmts_loop HE f (j + 1) J B10 A L _ p s18 x10 st3 (xs ++ [y]) ys cells10 st' S13 G10 NL10 (by simp; omega) T13 hm).mono ?_
              rintro v h' ⟨M, s', gM, r⟩
              exact ⟨M, s', g5.trans gM, r⟩
            | false =>
              refine ao ?_; refine yt ?_
              rw [if_neg (by simp)] at hm
              simp only [Option.some.injEq, Prod.mk.injEq] at hm
              obtain ⟨rfl, rfl⟩ := hm
              obtain ⟨M, gM, S12, N12⟩ := G10.nodes NL10 S11 (by simp; omega)
              exact Ev.ret ⟨M, s5, g5.trans gM, S12, T5.mono gM, N12⟩
    · rw [if_neg (show ¬ st.err = 0 from e1)] at hm
      refine yf ?_; refine yf ?_; refine yf ?_; refine aq ?_; refine yf ?_; refine yf ?_; refine yf ?_; refine aq ?_; refine yj ?_
      exact fin _ (by assumption) hm

theorem stmts_ok {E : PF} (HE : NOk 79 E) {I : Im} {A L : Ls} {h : Hp} {p : Pos} {s : DV} {st : PSt} (f : Nat) (hf : f ≤ lim) (S : Sy I A [PS p s st] L h) (T : TS' I s st.toks) {ys : List Node} {st' : PSt} (hm : stmtsL E f [] st = some (ys, st')) :
    Ev (fun n => shD n 50 [.p p 0] h) (fun v h' => ∃ J s', ILe I J ∧ Sy J A [PS p s' st'] L h' ∧ TS' J s' st'.toks ∧ NS J v ys) := by
  refine Ev.enter (fun n => enter50 n _ h) ?_
  unfold s50 s50a1 s50a2 s50a4
  exact stmts_loop HE f 0 I [] A L h p s .l0 st [] ys [] st' S (Gr.nil I 6) rfl (by simpa using hf) T hm

end Go.Dd

/- Dd, part T7: the program's parser: walks of literals, blocks, primaries, messages. -/
set_option linter.unusedVariables false
set_option linter.unusedSimpArgs false
set_option maxRecDepth 100000
namespace Go.Dd
open Go.Proofs

theorem lits_loop {LI : PF} (HL : NOk 152 LI) : ∀ (f j : Nat) (I : Im) (B A L : Ls) (h : Hp) (p : Pos) (s x : DV) (st : PSt) (xs ys : List Node) (cells z : List DV) (st' : PSt) (b2 b3 : Pos),
    Sy I (B ++ A) [PS p s st] ((b3, some (.row .ex [.i .i64 (Int.ofNat 4), .s [], .i .i64 (Int.ofNat 0), .l0, .l0, x])) :: (b2, some (.row .ex z)) :: L) h → Gr I 6 B x xs.length cells → NVL I xs cells → z.length = 6 → (∀ v ∈ z, v.one = true) →
    xs.length + f ≤ lim → TS' I s st.toks → (litsL LI f xs st).bind (fun r => (takeS r.2).bind fun q => some (r.1, q.2)) = some (ys, st') →
    Ev (fun n => s152a4l (shD n) n (n - j) (.p p 0) (.p b2 0) (.p b3 0) h) (NPost I A L p (.mk 4 [] 0 [] [] ys) st')
  | 0, j, I, B, A, L, h, p, s, x, st, xs, ys, cells, z, st', b2, b3, S, G, NL, z1, z2, hl, T, hm => by cases hm
  | f + 1, j, I, B, A, L, h, p, s, x, st, xs, ys, cells, z, st', b2, b3, S, G, NL, z1, z2, hl, T, hm => by
    unfold litsL at hm
    refine Ev.loop j (ll := fun n m => s152a4l (shD n) n m (.p p 0) (.p b2 0) (.p b3 0) h) (bb := fun n m => s152a4b (shD n) n (s152a4l (shD n) n m) (.p p 0) (.p b2 0) (.p b3 0) h) (fun _ _ => rfl) ?_
    have hs := T.2.one
    have hx := G.one
    unfold s152a4b
    refine wn ?_; refine wf ?_; refine wq ?_
    have fin : ∀ h', Sy I (B ++ A) [PS p s st] ((b3, some (.row .ex [.i .i64 (Int.ofNat 4), .s [], .i .i64 (Int.ofNat 0), .l0, .l0, x])) :: (b2, some (.row .ex z)) :: L) h' → (some (xs, st)).bind (fun r => (takeS r.2).bind fun q => some (r.1, q.2)) = some (ys, st') →
        Ev (fun n => s152a3 (shD n) n (.p p 0) (.p b2 0) (.p b3 0) h') (NPost I A L p (.mk 4 [] 0 [] [] ys) st') := by
      intro h' S' hm
      simp only [Option.bind_some] at hm
      obtain ⟨⟨t2, st2⟩, ht2, hm⟩ := Option.bind_eq_some_iff.1 hm
      simp only [Option.some.injEq, Prod.mk.injEq] at hm
      obtain ⟨rfl, rfl⟩ := hm
      unfold s152a3
      refine Ev.call (take_ok S' T ht2) ?_
      rintro _ _ ⟨rfl, s2, S2, T2⟩
      obtain ⟨J, gJ, S3, N3⟩ := G.nodes NL S2 (by omega)
      have o3 := N3.one
      refine ws ?_; refine wt fun _ _ => ?_; refine ws ?_
      exact Ev.ret ⟨J, s2, _, rfl, gJ, dp, T2.mono gJ, NV.of (SS.nil J) (SS.nil J) N3⟩
    refine Ev.ieq (fun e1 => ?_) (fun e1 => ?_)
    · rw [if_pos (show st.err = 0 from e1)] at hm
      refine zt ?_; refine wm ?_; refine zt ?_
      rw [Option.bind_assoc] at hm
      obtain ⟨c, hc, hm⟩ := Option.bind_eq_some_iff.1 hm
      refine Ev.call (is_ok (by assumption) T hc) ?_
      rintro _ _ ⟨rfl, S1⟩
      cases c with
      | true =>
        refine zt ?_; refine an ?_; refine ap ?_; refine yj ?_
        exact fin _ S1 (by simpa using hm)
      | false =>
        refine zt ?_; refine ao ?_; refine ap ?_; refine yt ?_
        rw [if_neg (by simp), Option.bind_assoc] at hm
        obtain ⟨⟨⟨y, d⟩, st1⟩, hy, hm⟩ := Option.bind_eq_some_iff.1 hm
        unfold s152a5
        refine Ev.call (plain_ok S1 T hy) ?_
        rintro _ _ ⟨s2, cs, rfl, S2, T2, N2⟩
        obtain ⟨l2, o2, q2⟩ := N2.shape
        refine wx ?_; refine wx ?_; refine wa fun _ _ _ => ?_; refine wt fun _ _ => ?_
        unfold s152a6
        have body : ∀ (J : Im) (h' : Hp) (b4 : Pos) (y' : Node) (cs' : List DV) (s' : DV) (st1' : PSt), ILe I J → Sy J (B ++ A) [PS p s' st1'] ((b4, some (.row .ex cs')) :: (b3, some (.row .ex [.i .i64 (Int.ofNat 4), .s [], .i .i64 (Int.ofNat 0), .l0, .l0, x])) :: (b2, some (.row .ex z)) :: L) h' →
            TS' J s' st1'.toks → NV J y' cs' → (litsL LI f (xs ++ [y']) st1').bind (fun r => (takeS r.2).bind fun q => some (r.1, q.2)) = some (ys, st') →
            Ev (fun n => s152a7 (shD n) n (s152a4l (shD n) n (n - (j + 1))) (.p p 0) (.p b2 0) (.p b3 0) (.p b4 0) h') (NPost I A L p (.mk 4 [] 0 [] [] ys) st') := by
          intro J h' b4 y' cs' s' st1' gJ S' T' N' hm
          obtain ⟨l', o', q'⟩ := N'.shape
          unfold s152a7
          refine wf ?_; refine wl ?_; refine ws ?_
          refine Ev.bs S' (fill6 l') ?_
          intro b6 h6 S6
          obtain ⟨x10, h10, B10, cells10, e10, S10, G10, NL10⟩ := app_node (G.mono gJ) (NL.mono gJ) N' S6 (List.Mem.head _) (by omega)
          have hx10 := G10.one
          refine Ev.op e10 ?_
          refine wf ?_; refine wu fun _ _ => ?_
          refine (lits_loop HL f (j + 1) J B10 A L _ p s' x10 st1' (xs ++ [y']) ys cells10 z st' b2 b3 ?_ G10 NL10 z1 z2 (by simp; omega) T' hm).mono (NPost.le gJ)
          exact Sy.dropL (Sy.dropL (by assumption))
        cases d with
        | true =>
          refine yt ?_
          exact body I _ _ y cs s2 st1 (ILe.refl _) (by assumption) T2 N2 (by simpa using hm)
        | false =>
          refine yj ?_
          rw [if_neg (by simp), Option.bind_assoc] at hm
          obtain ⟨c1, hc1, hm⟩ := Option.bind_eq_some_iff.1 hm
          rw [Option.bind_assoc] at hm
          obtain ⟨c2, hc2, hm2⟩ := Option.bind_eq_some_iff.1 hm
          refine Ev.call (is_ok (by assumption) T2 hc1) ?_
          rintro _ _ ⟨rfl, S3⟩
          have more : ∀ (b4 : Pos) h', Sy I (B ++ A) [PS p s2 st1] ((b4, some (.row .ex cs)) :: (b3, some (.row .ex [.i .i64 (Int.ofNat 4), .s [], .i .i64 (Int.ofNat 0), .l0, .l0, x])) :: (b2, some (.row .ex z)) :: L) h' → (if c2 = true then (withinS LI st1).bind fun q => litsL LI f (xs ++ [q.1]) q.2 else (lookS st1 0).bind fun t => litsL LI f (xs ++ [y]) (failS st1 t 13)).bind (fun r => (takeS r.2).bind fun q => some (r.1, q.2)) = some (ys, st') →
            Ev (fun n => ifD (.b c2)
              (bnd (shD n 151 [.p p 0, .f 152 [.p p 0] []] h') fun v41 h41 => bnd (pStore 6 (.p b4 0) v41 h41) fun _ h42 => s152a7 (shD n) n (s152a4l (shD n) n (n - (j + 1))) (.p p 0) (.p b2 0) (.p b3 0) (.p b4 0) h42)
              (bnd (shD n 81 [.p p 0, .i .i64 (Int.ofNat 0)] h') fun v43 h43 => bnd (shD n 80 [.p p 0, v43, .i .i64 (Int.ofNat 13)] h43) fun v44 h44 => s152a7 (shD n) n (s152a4l (shD n) n (n - (j + 1))) (.p p 0) (.p b2 0) (.p b3 0) (.p b4 0) h44))
              (NPost I A L p (.mk 4 [] 0 [] [] ys) st') := by
            intro b4 h' S' hm
            cases c2 with
            | true =>
              rw [if_pos rfl, Option.bind_assoc] at hm
              obtain ⟨⟨w, st2⟩, hw, hm⟩ := Option.bind_eq_some_iff.1 hm
              refine yt ?_
              refine Ev.call (within_ok call152 HL S' T2 hw) ?_
              rintro _ _ ⟨J, s5, ds, rfl, g5, S5, T5, N5⟩
              obtain ⟨l5, o5, q5⟩ := N5.shape
              refine wt fun _ _ => ?_
              exact body J _ _ w ds s5 st2 g5 (by assumption) T5 N5 hm
            | false =>
              rw [if_neg (by simp), Option.bind_assoc] at hm
              obtain ⟨t, ht, hm⟩ := Option.bind_eq_some_iff.1 hm
              refine yj ?_
              refine Ev.call (look_ok (k := 0) S' T2 ht) ?_
              rintro _ _ ⟨rfl, S5⟩
              refine Ev.call (fail_ok S5 T2.2.one t _) ?_
              rintro _ _ ⟨rfl, S6⟩
              exact body I _ _ y cs s2 (failS st1 t 13) (ILe.refl _) S6 (by rw [failS_toks]; exact T2) N2 hm
          cases c1 with
          | true =>
            simp only [if_true, Option.some.injEq] at hc2
            subst hc2
            have M := more _ _ S3 hm2
            refine yg ?_; refine yg ?_; refine ap ?_; refine yt ?_
            exact M
          | false =>
            refine zf ?_; refine wm ?_; refine zf ?_
            refine Ev.call (is_ok (by assumption) T2 (by simpa using hc2)) ?_
            rintro _ _ ⟨rfl, S4⟩
            have M := more _ _ S4 hm2
            refine aq ?_
            exact M
    · rw [if_neg (show ¬ st.err = 0 from e1)] at hm
      refine yf ?_; refine yf ?_; refine yf ?_; refine aq ?_; refine yj ?_
      exact fin _ (by assumption) hm

theorem literals_ok {LI : PF} (HL : NOk 152 LI) (f : Nat) (hf : f ≤ lim) : NOk 152 (literalsS LI f) := by
  intro I A L h p s st x st' S T hm
  unfold literalsS at hm
  refine Ev.enter (fun n => enter152 n _ h) ?_
  unfold s152 s152a1 s152a2 s152a4
  refine wa fun _ _ _ => ?_; refine wd ?_; refine wa fun _ _ _ => ?_; refine wt fun _ _ => ?_
  obtain ⟨⟨ys, st1⟩, h1, hm⟩ := Option.bind_eq_some_iff.1 hm
  obtain ⟨⟨t, st2⟩, h2, hm⟩ := Option.bind_eq_some_iff.1 hm
  simp only [Option.some.injEq, Prod.mk.injEq] at hm
  obtain ⟨rfl, rfl⟩ := hm
  refine lits_loop HL f 0 I [] A L _ p s .l0 st [] ys [] _ st2 _ _ (by assumption) (Gr.nil I 6) rfl rfl (by first | assumption | exact tc_ones _ | (repeat (first | exact ones_nil | refine ones_cons (by first | rfl | assumption | exact Fz.one (by assumption)) ?_))) (by simpa using hf) T ?_
  rw [h1]
  simp [h2]

theorem lit_ok : ∀ (f : Nat), f ≤ lim → NOk 152 (litF f)
  | 0, _ => fun I A L h p s st x st' S T hm => by cases hm
  | f + 1, hf => literals_ok (lit_ok f (by omega)) f (by omega)

end Go.Dd

/- Dd, part T8: the program's parser: walks of blocks, primaries, messages, expressions. -/
set_option linter.unusedVariables false
set_option linter.unusedSimpArgs false
set_option maxRecDepth 100000
namespace Go.Dd
open Go.Proofs

/-- A text is appended to a slice of texts that grows. -/
theorem app_text {I : Im} {B A Q L : Ls} {h : Hp} {x : DV} {l : List (List Nat)} (G : Gr I 1 B x l.length (l.map .s)) {t : List Nat} {b : Pos} (S : Sy I (B ++ A) Q L h) (m : (b, some (.row .ex [.s t])) ∈ L) (hl : l.length + 1 ≤ lim) :
    ∃ x' h' B', pAppend 1 16 x (.l b 0 1 1) h = some (x', h') ∧ Sy I (B' ++ A) Q L h' ∧ Gr I 1 B' x' (l ++ [t]).length ((l ++ [t]).map .s) := by
  have hr : (l.length + 1) * 16 ≤ roomD := by simp [roomD, lim] at hl ⊢; omega
  obtain ⟨x4, h4, B4, e4, S4, G4⟩ := G.app S (src_own S (n := 1) m rfl (ones_cons rfl ones_nil)) rfl (ones_cons rfl ones_nil) (by omega) hr
  exact ⟨x4, h4, B4, e4, S4, by simpa using G4⟩

theorem params_loop {P : DV → Hp → Prop} : ∀ (f j : Nat) (I : Im) (B A L : Ls) (h : Hp) (p : Pos) (s x : DV) (st : PSt) (l l' : List (List Nat)) (z : List DV) (st' : PSt) (b2 b3 : Pos),
    Sy I (B ++ A) [PS p s st] ((b3, some (.row .ex [.i .i64 (Int.ofNat 9), .s [], .i .i64 (Int.ofNat 0), x, .l0, .l0])) :: (b2, some (.row .ex z)) :: L) h → Gr I 1 B x l.length (l.map .s) → z.length = 6 → (∀ v ∈ z, v.one = true) →
    l.length + f ≤ lim → TS' I s st.toks → paramsL f l st = some (l', st') →
    (∀ (B' : Ls) (h' : Hp) (s' x' : DV), Sy I (B' ++ A) [PS p s' st'] ((b3, some (.row .ex [.i .i64 (Int.ofNat 9), .s [], .i .i64 (Int.ofNat 0), x', .l0, .l0])) :: (b2, some (.row .ex z)) :: L) h' → Gr I 1 B' x' l'.length (l'.map .s) → l'.length ≤ lim → TS' I s' st'.toks →
      Ev (fun n => s154a3 (shD n) n (.p p 0) (.p b2 0) (.p b3 0) h') P) →
    Ev (fun n => s154a5l (shD n) n (n - j) (.p p 0) (.p b2 0) (.p b3 0) h) P
  | 0, j, I, B, A, L, h, p, s, x, st, l, l', z, st', b2, b3, S, G, z1, z2, hl, T, hm, K => by cases hm
  | f + 1, j, I, B, A, L, h, p, s, x, st, l, l', z, st', b2, b3, S, G, z1, z2, hl, T, hm, K => by
    unfold paramsL at hm
    obtain ⟨c, hc, hm⟩ := Option.bind_eq_some_iff.1 hm
    refine Ev.loop j (ll := fun n m => s154a5l (shD n) n m (.p p 0) (.p b2 0) (.p b3 0) h) (bb := fun n m => s154a5b (shD n) n (s154a5l (shD n) n m) (.p p 0) (.p b2 0) (.p b3 0) h) (fun _ _ => rfl) ?_
    have hx := G.one
    unfold s154a5b
    refine Ev.call (is_ok S T hc) ?_
    rintro _ _ ⟨rfl, S1⟩
    cases c with
    | false =>
      refine yj ?_
      rw [if_neg (by simp)] at hm
      simp only [Option.some.injEq, Prod.mk.injEq] at hm
      obtain ⟨rfl, rfl⟩ := hm
      exact K B _ s x S1 G (by omega) T
    | true =>
      refine yt ?_; refine wf ?_
      rw [if_pos rfl] at hm
      obtain ⟨⟨t, st1⟩, ht, hm⟩ := Option.bind_eq_some_iff.1 hm
      have Sr := S1.res
      refine wl ?_; refine wf ?_; refine wl ?_
      refine Ev.call (name_ok Sr T G.len ht) ?_
      rintro _ _ ⟨rfl, s2, S2, T2⟩
      refine Ev.cnd ?_ ?_
      · rw [Bool.and_true]; exact same1S S2 (by first | exact List.Mem.head _ | exact (List.Mem.tail _ (List.Mem.head _)) | exact (List.Mem.tail _ (List.Mem.tail _ (List.Mem.head _))) | exact (List.Mem.tail _ (List.Mem.tail _ (List.Mem.tail _ (List.Mem.head _)))) | exact (List.Mem.tail _ (List.Mem.tail _ (List.Mem.tail _ (List.Mem.tail _ (List.Mem.head _))))) | exact (List.Mem.tail _ (List.Mem.tail _ (List.Mem.tail _ (List.Mem.tail _ (List.Mem.tail _ (List.Mem.head _)))))) | exact (List.Mem.tail _ (List.Mem.tail _ (List.Mem.tail _ (List.Mem.tail _ (List.Mem.tail _ (List.Mem.tail _ (List.Mem.head _))))))) | exact (List.Mem.tail _ (List.Mem.tail _ (List.Mem.tail _ (List.Mem.tail _ (List.Mem.tail _ (List.Mem.tail _ (List.Mem.tail _ (List.Mem.head _)))))))) | exact (List.Mem.tail _ (List.Mem.tail _ (List.Mem.tail _ (List.Mem.tail _ (List.Mem.tail _ (List.Mem.tail _ (List.Mem.tail _ (List.Mem.tail _ (List.Mem.head _)))))))))) rfl hx G.beq
      refine Ev.bsAt0 S2 (cs := [.s t]) (by first | exact Rpl.head _ | exact (Rpl.tail _ (Rpl.head _)) | exact (Rpl.tail _ (Rpl.tail _ (Rpl.head _))) | exact (Rpl.tail _ (Rpl.tail _ (Rpl.tail _ (Rpl.head _)))) | exact (Rpl.tail _ (Rpl.tail _ (Rpl.tail _ (Rpl.tail _ (Rpl.head _))))) | exact (Rpl.tail _ (Rpl.tail _ (Rpl.tail _ (Rpl.tail _ (Rpl.tail _ (Rpl.head _)))))) | exact (Rpl.tail _ (Rpl.tail _ (Rpl.tail _ (Rpl.tail _ (Rpl.tail _ (Rpl.tail _ (Rpl.head _))))))) | exact (Rpl.tail _ (Rpl.tail _ (Rpl.tail _ (Rpl.tail _ (Rpl.tail _ (Rpl.tail _ (Rpl.tail _ (Rpl.head _)))))))) | exact (Rpl.tail _ (Rpl.tail _ (Rpl.tail _ (Rpl.tail _ (Rpl.tail _ (Rpl.tail _ (Rpl.tail _ (Rpl.tail _ (Rpl.head _)))))))))) rfl ?_
      intro h3 S3
      obtain ⟨x4, h4, B4, e4, S4, G4⟩ := app_text G S3 (by first | exact List.Mem.head _ | exact (List.Mem.tail _ (List.Mem.head _)) | exact (List.Mem.tail _ (List.Mem.tail _ (List.Mem.head _))) | exact (List.Mem.tail _ (List.Mem.tail _ (List.Mem.tail _ (List.Mem.head _)))) | exact (List.Mem.tail _ (List.Mem.tail _ (List.Mem.tail _ (List.Mem.tail _ (List.Mem.head _))))) | exact (List.Mem.tail _ (List.Mem.tail _ (List.Mem.tail _ (List.Mem.tail _ (List.Mem.tail _ (List.Mem.head _)))))) | exact (List.Mem.tail _ (List.Mem.tail _ (List.Mem.tail _ (List.Mem.tail _ (List.Mem.tail _ (List.Mem.tail _ (List.Mem.head _))))))) | exact (List.Mem.tail _ (List.Mem.tail _ (List.Mem.tail _ (List.Mem.tail _ (List.Mem.tail _ (List.Mem.tail _ (List.Mem.tail _ (List.Mem.head _)))))))) | exact (List.Mem.tail _ (List.Mem.tail _ (List.Mem.tail _ (List.Mem.tail _ (List.Mem.tail _ (List.Mem.tail _ (List.Mem.tail _ (List.Mem.tail _ (List.Mem.head _)))))))))) (by omega)
      have hx4 := G4.one
      refine Ev.op e4 ?_
      refine wf ?_; refine wu fun _ _ => ?_
      exact params_loop f (j + 1) I B4 A L _ p s2 x4 st1 (l ++ [t]) l' z st' b2 b3 (dp) G4 z1 z2 (by simp; omega) T2 hm K

theorem block_ok {E : PF} (HE : NOk 79 E) (f : Nat) (hf : f ≤ lim) : NOk 154 (blockS E f) := by
  intro I A L h p s st x st' S T hm
  unfold blockS at hm
  obtain ⟨⟨l, st1⟩, h1, hm⟩ := Option.bind_eq_some_iff.1 hm
  obtain ⟨st2, h2, hm⟩ := Option.bind_eq_some_iff.1 hm
  obtain ⟨⟨ts, st3⟩, h3, hm⟩ := Option.bind_eq_some_iff.1 hm
  obtain ⟨⟨ks, st4⟩, h4, hm⟩ := Option.bind_eq_some_iff.1 hm
  obtain ⟨⟨t, st5⟩, h5, hm⟩ := Option.bind_eq_some_iff.1 hm
  simp only [Option.some.injEq, Prod.mk.injEq] at hm
  obtain ⟨rfl, rfl⟩ := hm
  refine Ev.enter (fun n => enter154 n _ h) ?_
  unfold s154 s154a1 s154a2 s154a5
  refine wa fun _ _ _ => ?_; refine wd ?_; refine wa fun _ _ _ => ?_; refine wt fun _ _ => ?_
  refine params_loop f 0 I [] A L _ p s .l0 st [] l _ st1 _ _ (by assumption) (Gr.nil I 1) rfl (by first | assumption | exact tc_ones _ | (repeat (first | exact ones_nil | refine ones_cons (by first | rfl | assumption | exact Fz.one (by assumption)) ?_))) (by simpa using hf) T h1 ?_
  intro B h' s' x' S1 G1 hl T1
  have hx := G1.one
  unfold s154a3
  have rest : ∀ (h' : Hp) (s' : DV) (b2 b3 : Pos) (z : List DV), z.length = 6 → (∀ v ∈ z, v.one = true) → Sy I (B ++ A) [PS p s' st2] ((b3, some (.row .ex [.i .i64 (Int.ofNat 9), .s [], .i .i64 (Int.ofNat 0), x', .l0, .l0])) :: (b2, some (.row .ex z)) :: L) h' → TS' I s' st2.toks →
      Ev (fun n => s154a4 (shD n) n (.p p 0) (.p b2 0) (.p b3 0) h') (NPost I A L p (.mk 9 [] 0 l ts ks) st5) := by
    intro h' s' b2 b3 z z1 z2 S2 T2
    unfold s154a4
    obtain ⟨J, gJ, S3, F3⟩ := G1.freeze S2
    refine Ev.call (temps_ok f hf S3 (T2.mono gJ) h3) ?_
    rintro v4 h4' ⟨K, s4, g4, S4, T4, N4⟩
    have o4 := N4.2.one
    refine wf ?_; refine wu fun _ _ => ?_
    refine Ev.call (stmts_ok HE f hf (by assumption) T4 h4) ?_
    rintro v5 h5' ⟨M, s5, g5, S5, T5, N5⟩
    have o5 := N5.one
    refine wf ?_; refine wu fun _ _ => ?_
    refine Ev.call (need_ok (by assumption) T5 h5) ?_
    rintro _ _ ⟨rfl, s6, S6, T6⟩
    refine ws ?_; refine wt fun _ _ => ?_; refine ws ?_
    exact Ev.ret ⟨M, s6, _, rfl, (gJ.trans g4).trans g5, dp, T6, NV.of ⟨hl, (F3.mono g4).mono g5⟩ (N4.mono g5) N5⟩
  refine wf ?_; refine wl ?_
  refine Ev.op (G1.len _) ?_
  unfold bar at h2
  refine Ev.igt (fun e1 => ?_) (fun e1 => ?_)
  · have e2 : 0 < l.length := by simp at e1; exact e1
    simp only [if_pos e2] at h2
    obtain ⟨c, hc, h2⟩ := Option.bind_eq_some_iff.1 h2
    refine zt ?_; refine wm ?_; refine zt ?_
    refine Ev.call (is_ok (by assumption) T1 hc) ?_
    rintro _ _ ⟨rfl, S2⟩
    cases c with
    | true =>
      refine zt ?_; refine an ?_; refine ap ?_; refine yj ?_
      simp only [if_true, Option.some.injEq] at h2
      subst h2
      exact rest _ s' _ _ _ rfl (by first | assumption | exact tc_ones _ | (repeat (first | exact ones_nil | refine ones_cons (by first | rfl | assumption | exact Fz.one (by assumption)) ?_))) S2 T1
    | false =>
      refine zt ?_; refine ao ?_; refine ap ?_; refine yt ?_
      obtain ⟨⟨t2, st6⟩, ht2, h2⟩ := Option.bind_eq_some_iff.1 (by simpa using h2)
      simp only [Option.some.injEq] at h2
      subst h2
      refine Ev.call (need_ok (by assumption) T1 ht2) ?_
      rintro _ _ ⟨rfl, s3, S3, T3⟩
      exact rest _ s3 _ _ _ rfl (by first | assumption | exact tc_ones _ | (repeat (first | exact ones_nil | refine ones_cons (by first | rfl | assumption | exact Fz.one (by assumption)) ?_))) S3 T3
  · have e2 : ¬ 0 < l.length := fun e => e1 (by show (0 : Int) < _; omega)
    simp only [if_neg e2, Option.some.injEq] at h2
    subst h2
    refine yf ?_; refine yf ?_; refine yf ?_; refine aq ?_; refine yj ?_
    exact rest _ s' _ _ _ rfl (by first | assumption | exact tc_ones _ | (repeat (first | exact ones_nil | refine ones_cons (by first | rfl | assumption | exact Fz.one (by assumption)) ?_))) S1 T1

theorem primary_ok {LI E : PF} (HL : NOk 152 LI) (HE : NOk 79 E) (f : Nat) (hf : f ≤ lim) : NOk 137 (primaryS LI E f) := by
  intro I A L h p s st x st' S T hm
  unfold primaryS at hm
  obtain ⟨⟨⟨y, d⟩, st1⟩, hy, hm⟩ := Option.bind_eq_some_iff.1 hm
  refine Ev.enter (fun n => enter137 n _ h) ?_
  unfold s137 s137a1
  refine wa fun _ _ _ => ?_
  refine Ev.call (plain_ok (by assumption) T hy) ?_
  rintro _ _ ⟨s2, cs, rfl, S2, T2, N2⟩
  obtain ⟨l2, o2, q2⟩ := N2.shape
  have hs2 := T2.2.one
  refine wx ?_; refine wx ?_; refine wa fun _ _ _ => ?_; refine wt fun _ _ => ?_
  cases d with
  | true =>
    refine yt ?_; refine ws ?_; refine wt fun _ _ => ?_; refine ws ?_
    simp only [if_true, Option.some.injEq, Prod.mk.injEq] at hm
    obtain ⟨rfl, rfl⟩ := hm
    exact Ev.ret ⟨I, s2, _, rfl, ILe.refl _, dp, T2, N2⟩
  | false =>
    refine yj ?_
    rw [if_neg (by simp)] at hm
    obtain ⟨t, ht, hm⟩ := Option.bind_eq_some_iff.1 hm
    unfold s137a2 s137a3
    refine Ev.call (look_ok (k := 0) (by assumption) T2 ht) ?_
    rintro _ _ ⟨rfl, S3⟩
    refine wa fun _ _ _ => ?_; refine wt fun _ _ => ?_; refine wn ?_; refine wf ?_; refine wq ?_
    refine Ev.ine (fun e1 => ?_) (fun e1 => ?_)
    · refine yt ?_; refine wd ?_; refine wt fun _ _ => ?_; refine ws ?_
      rw [if_neg (show ¬ st1.err = 0 from e1)] at hm
      simp only [Option.some.injEq, Prod.mk.injEq] at hm
      obtain ⟨rfl, rfl⟩ := hm
      exact Ev.ret ⟨I, s2, _, rfl, ILe.refl _, dp, T2, NV.flat _ _ _⟩
    · refine yj ?_; refine wf ?_; refine wl ?_
      rw [if_pos (show st1.err = 0 from e1)] at hm
      refine Ev.ieq (fun e2 => ?_) (fun e2 => ?_)
      · refine yt ?_
        rw [if_pos (show t.kind = 1 from e2)] at hm
        obtain ⟨⟨t1, st2⟩, ht1, hm⟩ := Option.bind_eq_some_iff.1 hm
        simp only [Option.some.injEq, Prod.mk.injEq] at hm
        obtain ⟨rfl, rfl⟩ := hm
        refine Ev.call (take_ok (by assumption) T2 ht1) ?_
        rintro _ _ ⟨rfl, s3, S3, T3⟩
        refine wp ?_; refine wd ?_; refine wt fun _ _ => ?_; refine ws ?_
        exact Ev.ret ⟨I, s3, _, rfl, ILe.refl _, dp, T3, NV.flat _ _ _⟩
      · refine yj ?_; refine wf ?_; refine wl ?_
        rw [if_neg (show ¬ t.kind = 1 from e2)] at hm
        refine Ev.ieq (fun e3 => ?_) (fun e3 => ?_)
        · refine yt ?_
          rw [if_pos (show t.kind = 7 from e3)] at hm
          refine Ev.call (within_ok call152 HL (by assumption) T2 hm) ?_
          rintro _ _ ⟨J, s5, ds, rfl, g5, S5, T5, N5⟩
          obtain ⟨l5, o5, q5⟩ := N5.shape
          refine wt fun _ _ => ?_; refine ws ?_
          exact Ev.ret ⟨J, s5, _, rfl, g5, dp, T5, N5⟩
        · refine yj ?_
          rw [if_neg (show ¬ t.kind = 7 from e3)] at hm
          obtain ⟨c, hc, hm⟩ := Option.bind_eq_some_iff.1 hm
          refine Ev.call (is_ok (by assumption) T2 hc) ?_
          rintro _ _ ⟨rfl, S4⟩
          cases c with
          | true =>
            refine yt ?_
            refine Ev.call (within_ok call153 (inner_ok HE) (by assumption) T2 hm) ?_
            rintro _ _ ⟨J, s5, ds, rfl, g5, S5, T5, N5⟩
            obtain ⟨l5, o5, q5⟩ := N5.shape
            refine wt fun _ _ => ?_; refine ws ?_
            exact Ev.ret ⟨J, s5, _, rfl, g5, dp, T5, N5⟩
          | false =>
            refine yj ?_
            rw [if_neg (by simp)] at hm
            obtain ⟨c, hc, hm⟩ := Option.bind_eq_some_iff.1 hm
            refine Ev.call (is_ok (by assumption) T2 hc) ?_
            rintro _ _ ⟨rfl, S5⟩
            cases c with
            | true =>
              refine yt ?_
              refine Ev.call (within_ok call154 (block_ok HE f hf) (by assumption) T2 hm) ?_
              rintro _ _ ⟨J, s5, ds, rfl, g5, S5, T5, N5⟩
              obtain ⟨l5, o5, q5⟩ := N5.shape
              refine wt fun _ _ => ?_; refine ws ?_
              exact Ev.ret ⟨J, s5, _, rfl, g5, dp, T5, N5⟩
            | false =>
              refine yj ?_; refine ws ?_
              simp only [Bool.false_eq_true, if_false, Option.some.injEq, Prod.mk.injEq] at hm
              obtain ⟨rfl, rfl⟩ := hm
              refine Ev.call (fail_ok (by assumption) T2.2.one t _) ?_
              rintro _ _ ⟨rfl, S6⟩
              refine wd ?_; refine wt fun _ _ => ?_; refine ws ?_
              exact Ev.ret ⟨I, s2, _, rfl, ILe.refl _, dp, by rw [failS_toks]; exact T2, NV.flat _ _ _⟩

theorem binary_loop {P : PF} (HP : NOk 137 P) (g : Nat) : ∀ (f j : Nat) (I : Im) (A L : Ls) (h : Hp) (p : Pos) (s : DV) (st : PSt) (x y : Node) (cs z : List DV) (st' : PSt) (b3 b4 : Pos), Sy I A [PS p s st] ((b4, some (.row .ex z)) :: (b3, some (.row .ex cs)) :: L) h →
    z.length = 6 → (∀ v ∈ z, v.one = true) → TS' I s st.toks → NV I x cs → binaryL P g f x st = some (y, st') → Ev (fun n => s135a3l (shD n) n (n - j) (.p p 0) (.p b3 0) (.p b4 0) h) (NPost I A L p y st')
  | 0, j, I, A, L, h, p, s, st, x, y, cs, z, st', b3, b4, S, z1, z2, T, N, hm => by cases hm
  | f + 1, j, I, A, L, h, p, s, st, x, y, cs, z, st', b3, b4, S, z1, z2, T, N, hm => by
    unfold binaryL at hm
    obtain ⟨c, hc, hm⟩ := Option.bind_eq_some_iff.1 hm
    refine Ev.loop j (ll := fun n m => s135a3l (shD n) n m (.p p 0) (.p b3 0) (.p b4 0) h) (bb := fun n m => s135a3b (shD n) n (s135a3l (shD n) n m) (.p p 0) (.p b3 0) (.p b4 0) h) (fun _ _ => rfl) ?_
    unfold s135a3b s135a2
    obtain ⟨l1, o1, q1⟩ := N.shape
    refine Ev.call (is_ok S T hc) ?_
    rintro _ _ ⟨rfl, S1⟩
    cases c with
    | false =>
      refine yj ?_; refine ws ?_; refine wt fun _ _ => ?_; refine ws ?_
      rw [if_neg (by simp)] at hm
      simp only [Option.some.injEq, Prod.mk.injEq] at hm
      obtain ⟨rfl, rfl⟩ := hm
      exact Ev.ret ⟨I, s, cs, rfl, ILe.refl _, dp, T, N⟩
    | true =>
      refine yt ?_
      rw [if_pos rfl] at hm
      obtain ⟨⟨t, st1⟩, ht, hm⟩ := Option.bind_eq_some_iff.1 hm
      obtain ⟨⟨y1, st2⟩, hy1, hm⟩ := Option.bind_eq_some_iff.1 hm
      obtain ⟨⟨y2, st3⟩, hy2, hm⟩ := Option.bind_eq_some_iff.1 hm
      refine Ev.call (take_ok S1 T ht) ?_
      rintro _ _ ⟨rfl, s2, S2, T2⟩
      refine wa fun _ _ _ => ?_; refine wt fun _ _ => ?_; refine wf ?_
      have Sr := Sy.res (by assumption)
      refine wl ?_; refine ws ?_
      refine Ev.call (HP _ _ _ _ _ _ _ _ _ Sr T2 hy1) ?_
      rintro _ _ ⟨J, s5, ds, rfl, g5, S5, T5, N5⟩
      refine Ev.cnd ?_ ?_
      · rw [sameA S5 (by first | exact List.Mem.head _ | exact (List.Mem.tail _ (List.Mem.head _)) | exact (List.Mem.tail _ (List.Mem.tail _ (List.Mem.head _))) | exact (List.Mem.tail _ (List.Mem.tail _ (List.Mem.tail _ (List.Mem.head _)))) | exact (List.Mem.tail _ (List.Mem.tail _ (List.Mem.tail _ (List.Mem.tail _ (List.Mem.head _))))) | exact (List.Mem.tail _ (List.Mem.tail _ (List.Mem.tail _ (List.Mem.tail _ (List.Mem.tail _ (List.Mem.head _)))))) | exact (List.Mem.tail _ (List.Mem.tail _ (List.Mem.tail _ (List.Mem.tail _ (List.Mem.tail _ (List.Mem.tail _ (List.Mem.head _))))))) | exact (List.Mem.tail _ (List.Mem.tail _ (List.Mem.tail _ (List.Mem.tail _ (List.Mem.tail _ (List.Mem.tail _ (List.Mem.tail _ (List.Mem.head _)))))))) | exact (List.Mem.tail _ (List.Mem.tail _ (List.Mem.tail _ (List.Mem.tail _ (List.Mem.tail _ (List.Mem.tail _ (List.Mem.tail _ (List.Mem.tail _ (List.Mem.head _)))))))))) l1 o1 q1, same1S S5 (by first | exact List.Mem.head _ | exact (List.Mem.tail _ (List.Mem.head _)) | exact (List.Mem.tail _ (List.Mem.tail _ (List.Mem.head _))) | exact (List.Mem.tail _ (List.Mem.tail _ (List.Mem.tail _ (List.Mem.head _)))) | exact (List.Mem.tail _ (List.Mem.tail _ (List.Mem.tail _ (List.Mem.tail _ (List.Mem.head _))))) | exact (List.Mem.tail _ (List.Mem.tail _ (List.Mem.tail _ (List.Mem.tail _ (List.Mem.tail _ (List.Mem.head _)))))) | exact (List.Mem.tail _ (List.Mem.tail _ (List.Mem.tail _ (List.Mem.tail _ (List.Mem.tail _ (List.Mem.tail _ (List.Mem.head _))))))) | exact (List.Mem.tail _ (List.Mem.tail _ (List.Mem.tail _ (List.Mem.tail _ (List.Mem.tail _ (List.Mem.tail _ (List.Mem.tail _ (List.Mem.head _)))))))) | exact (List.Mem.tail _ (List.Mem.tail _ (List.Mem.tail _ (List.Mem.tail _ (List.Mem.tail _ (List.Mem.tail _ (List.Mem.tail _ (List.Mem.tail _ (List.Mem.head _)))))))))) rfl rfl (beq_s _)]; rfl
      refine Ev.call (unary_ok g _ _ _ _ _ _ _ _ _ _ _ S5 T5 N5 hy2) ?_
      rintro _ _ ⟨K, s6, es, rfl, g6, S6, T6, N6⟩
      obtain ⟨l6, o6, q6⟩ := N6.shape
      refine Ev.cnd ?_ ?_
      · rw [sameA S6 (by first | exact List.Mem.head _ | exact (List.Mem.tail _ (List.Mem.head _)) | exact (List.Mem.tail _ (List.Mem.tail _ (List.Mem.head _))) | exact (List.Mem.tail _ (List.Mem.tail _ (List.Mem.tail _ (List.Mem.head _)))) | exact (List.Mem.tail _ (List.Mem.tail _ (List.Mem.tail _ (List.Mem.tail _ (List.Mem.head _))))) | exact (List.Mem.tail _ (List.Mem.tail _ (List.Mem.tail _ (List.Mem.tail _ (List.Mem.tail _ (List.Mem.head _)))))) | exact (List.Mem.tail _ (List.Mem.tail _ (List.Mem.tail _ (List.Mem.tail _ (List.Mem.tail _ (List.Mem.tail _ (List.Mem.head _))))))) | exact (List.Mem.tail _ (List.Mem.tail _ (List.Mem.tail _ (List.Mem.tail _ (List.Mem.tail _ (List.Mem.tail _ (List.Mem.tail _ (List.Mem.head _)))))))) | exact (List.Mem.tail _ (List.Mem.tail _ (List.Mem.tail _ (List.Mem.tail _ (List.Mem.tail _ (List.Mem.tail _ (List.Mem.tail _ (List.Mem.tail _ (List.Mem.head _)))))))))) l1 o1 q1, same1S S6 (by first | exact List.Mem.head _ | exact (List.Mem.tail _ (List.Mem.head _)) | exact (List.Mem.tail _ (List.Mem.tail _ (List.Mem.head _))) | exact (List.Mem.tail _ (List.Mem.tail _ (List.Mem.tail _ (List.Mem.head _)))) | exact (List.Mem.tail _ (List.Mem.tail _ (List.Mem.tail _ (List.Mem.tail _ (List.Mem.head _))))) | exact (List.Mem.tail _ (List.Mem.tail _ (List.Mem.tail _ (List.Mem.tail _ (List.Mem.tail _ (List.Mem.head _)))))) | exact (List.Mem.tail _ (List.Mem.tail _ (List.Mem.tail _ (List.Mem.tail _ (List.Mem.tail _ (List.Mem.tail _ (List.Mem.head _))))))) | exact (List.Mem.tail _ (List.Mem.tail _ (List.Mem.tail _ (List.Mem.tail _ (List.Mem.tail _ (List.Mem.tail _ (List.Mem.tail _ (List.Mem.head _)))))))) | exact (List.Mem.tail _ (List.Mem.tail _ (List.Mem.tail _ (List.Mem.tail _ (List.Mem.tail _ (List.Mem.tail _ (List.Mem.tail _ (List.Mem.tail _ (List.Mem.head _)))))))))) rfl rfl (beq_s _)]; rfl
      refine Ev.bsAt0 S6 (by first | exact Rpl.head _ | exact (Rpl.tail _ (Rpl.head _)) | exact (Rpl.tail _ (Rpl.tail _ (Rpl.head _))) | exact (Rpl.tail _ (Rpl.tail _ (Rpl.tail _ (Rpl.head _)))) | exact (Rpl.tail _ (Rpl.tail _ (Rpl.tail _ (Rpl.tail _ (Rpl.head _))))) | exact (Rpl.tail _ (Rpl.tail _ (Rpl.tail _ (Rpl.tail _ (Rpl.tail _ (Rpl.head _)))))) | exact (Rpl.tail _ (Rpl.tail _ (Rpl.tail _ (Rpl.tail _ (Rpl.tail _ (Rpl.tail _ (Rpl.head _))))))) | exact (Rpl.tail _ (Rpl.tail _ (Rpl.tail _ (Rpl.tail _ (Rpl.tail _ (Rpl.tail _ (Rpl.tail _ (Rpl.head _)))))))) | exact (Rpl.tail _ (Rpl.tail _ (Rpl.tail _ (Rpl.tail _ (Rpl.tail _ (Rpl.tail _ (Rpl.tail _ (Rpl.tail _ (Rpl.head _)))))))))) (fill12 l1 l6) ?_
      intro h7 S7
      have NL7 : NVL K [x, y2] (cs ++ es) := (NVL.single ((N.mono g5).mono g6)).app (NVL.single N6)
      obtain ⟨c1, c2⟩ := NL7.shape
      obtain ⟨M, g8, S8, F8, _⟩ := Fz.built (sz := 6) (n := 2) S7 c1 c2
      have N8 : NS M _ [x, y2] := ⟨by simp [lim], _, F8, NL7.mono g8⟩
      refine Ev.call (send_ok S8 N8) ?_
      rintro _ _ ⟨cs9, rfl, N9, S9⟩
      obtain ⟨l9, o9, q9⟩ := N9.shape
      refine wt fun _ _ => ?_
      refine (binary_loop HP g f (j + 1) M A L _ p s6 st3 _ y cs9 z st' b3 b4 ?_ z1 z2 (T6.mono g8) N9 hm).mono (NPost.le ((g5.trans g6).trans g8))
      exact Sy.dropL (by assumption)

theorem binary_ok {P : PF} (HP : NOk 137 P) (g f : Nat) : NOk1 135 (binaryL P g f) := by
  intro I A L h p s st x y cs st' S T N hm
  refine Ev.enter (fun n => enter135 n _ _ h) ?_
  unfold s135 s135a1 s135a3
  refine wb fun _ _ _ => ?_; refine wa fun _ _ _ => ?_
  exact binary_loop HP g f 0 _ _ _ _ _ _ _ _ _ _ _ _ _ _ (by assumption) rfl (by first | assumption | exact tc_ones _ | (repeat (first | exact ones_nil | refine ones_cons (by first | rfl | assumption | exact Fz.one (by assumption)) ?_))) T N hm

end Go.Dd

/- Dd, part T9: the program's parser: walks of keywords, messages, cascades, expressions. -/
set_option linter.unusedVariables false
set_option linter.unusedSimpArgs false
set_option maxRecDepth 100000
namespace Go.Dd
open Go.Proofs

theorem Sy.swap {I : Im} {A Q L : Ls} {a b : Pos × Option Ob} {h : Hp} (S : Sy I A Q (a :: b :: L) h) : Sy I A Q (b :: a :: L) h :=
  perm3 ((List.Perm.refl _).append (List.Perm.swap _ _ _)) S
theorem Sy.drop2 {I : Im} {A Q L : Ls} {a b : Pos × Option Ob} {h : Hp} (S : Sy I A Q (a :: b :: L) h) : Sy I A Q (a :: L) h := S.swap.dropL

theorem Sy.drop3 {I : Im} {A Q L : Ls} {a b c : Pos × Option Ob} {h : Hp} (S : Sy I A Q (a :: b :: c :: L) h) : Sy I A Q (a :: b :: L) h :=
  sub3 ((List.Sublist.refl _).append (((List.sublist_cons_self c L).cons_cons b).cons_cons a)) S

theorem Ev.newAt {I : Im} {A Q L L' : Ls} {h : Hp} {k : Nat → DV → Hp → Res} {P : DV → Hp → Prop} {b : Pos} {cs : List DV} (S : Sy I A Q L h) (r : Rpl b none (some (.row .ex cs)) L L')
    (H : ∀ h', Sy I A Q L' h' → Ev (fun m => k m (.p b 0) h') P) : Ev (fun m => bnd (pNewAt b cs h) (k m)) P :=
  Ev.op (v := .p b 0) (h := ⟨h.next, Tr.set (.row .ex cs) b h.bl⟩) rfl (H _ (S.setL r rfl (fun c => Tr.get_set _ _ _ _)))

theorem send_eq {I : Im} {A Q L : Ls} {h : Hp} (S : Sy I A Q L h) {t : List Nat} {x : DV} (hx : x.one = true) :
    Ev (fun n => shD n 149 [.s t, x] h) (fun v h' => v = .a [.i .i64 (Int.ofNat 7), .s t, .i .i64 (Int.ofNat 0), .l0, .l0, x] ∧ Sy I A Q L h') := by
  refine Ev.enter (fun n => enter149 n _ _ h) ?_
  unfold s149
  refine wa fun _ _ _ => ?_; refine wd ?_; refine wt fun _ _ => ?_; refine ws ?_
  exact Ev.ret ⟨rfl, dp⟩

theorem keys_loop {P : PF} (HP : NOk 137 P) (g : Nat) : ∀ (f j : Nat) (I : Im) (B A L : Ls) (h : Hp) (p : Pos) (s x : DV) (st : PSt) (t : List Nat) (xs : List Node) (y : Node) (cells z : List DV) (st' : PSt) (b4 b5 : Pos),
    Sy I (B ++ A) [PS p s st] ((b5, some (.row .ex [.i .i64 (Int.ofNat 7), .s t, .i .i64 (Int.ofNat 0), .l0, .l0, x])) :: (b4, some (.row .ex z)) :: L) h → Gr I 6 B x xs.length cells → NVL I xs cells → z.length = 6 → (∀ v ∈ z, v.one = true) →
    xs.length + f ≤ lim → TS' I s st.toks → keysL P g f t xs st = some (y, st') →
    Ev (fun n => s134a5l (shD n) n (n - j) (.p p 0) (.p b4 0) (.p b5 0) h) (NPost I A L p y st')
  | 0, j, I, B, A, L, h, p, s, x, st, t, xs, y, cells, z, st', b4, b5, S, G, NL, z1, z2, hl, T, hm => by cases hm
  | f + 1, j, I, B, A, L, h, p, s, x, st, t, xs, y, cells, z, st', b4, b5, S, G, NL, z1, z2, hl, T, hm => by
    unfold keysL at hm
    obtain ⟨c, hc, hm⟩ := Option.bind_eq_some_iff.1 hm
    refine Ev.loop j (ll := fun n m => s134a5l (shD n) n m (.p p 0) (.p b4 0) (.p b5 0) h) (bb := fun n m => s134a5b (shD n) n (s134a5l (shD n) n m) (.p p 0) (.p b4 0) (.p b5 0) h) (fun _ _ => rfl) ?_
    have hx := G.one
    unfold s134a5b s134a4
    refine Ev.call (is_ok S T hc) ?_
    rintro _ _ ⟨rfl, S1⟩
    cases c with
    | false =>
      rw [if_neg (by simp)] at hm
      simp only [Option.some.injEq, Prod.mk.injEq] at hm
      obtain ⟨rfl, rfl⟩ := hm
      obtain ⟨J, gJ, S3, N3⟩ := G.nodes NL S1 (by omega)
      refine yj ?_; refine ws ?_; refine wt fun _ _ => ?_; refine ws ?_
      exact Ev.ret ⟨J, s, _, rfl, gJ, dp, T.mono gJ, NV.of (SS.nil J) (SS.nil J) N3⟩
    | true =>
      rw [if_pos rfl] at hm
      obtain ⟨⟨t1, st1⟩, ht, hm⟩ := Option.bind_eq_some_iff.1 hm
      split at hm
      · rename_i hlen
        obtain ⟨⟨y1, st2⟩, hy1, hm⟩ := Option.bind_eq_some_iff.1 hm
        obtain ⟨⟨y2, st3⟩, hy2, hm⟩ := Option.bind_eq_some_iff.1 hm
        obtain ⟨⟨y3, st4⟩, hy3, hm⟩ := Option.bind_eq_some_iff.1 hm
        refine yt ?_; refine wf ?_; refine wl ?_
        refine Ev.call (take_ok S1 T ht) ?_
        rintro _ _ ⟨rfl, s2, S2, T2⟩
        refine Ev.cnd ?_ ?_
        · rw [Bool.and_true]; exact same1S S2 (by first | exact List.Mem.head _ | exact (List.Mem.tail _ (List.Mem.head _)) | exact (List.Mem.tail _ (List.Mem.tail _ (List.Mem.head _))) | exact (List.Mem.tail _ (List.Mem.tail _ (List.Mem.tail _ (List.Mem.head _)))) | exact (List.Mem.tail _ (List.Mem.tail _ (List.Mem.tail _ (List.Mem.tail _ (List.Mem.head _))))) | exact (List.Mem.tail _ (List.Mem.tail _ (List.Mem.tail _ (List.Mem.tail _ (List.Mem.tail _ (List.Mem.head _)))))) | exact (List.Mem.tail _ (List.Mem.tail _ (List.Mem.tail _ (List.Mem.tail _ (List.Mem.tail _ (List.Mem.tail _ (List.Mem.head _))))))) | exact (List.Mem.tail _ (List.Mem.tail _ (List.Mem.tail _ (List.Mem.tail _ (List.Mem.tail _ (List.Mem.tail _ (List.Mem.tail _ (List.Mem.head _)))))))) | exact (List.Mem.tail _ (List.Mem.tail _ (List.Mem.tail _ (List.Mem.tail _ (List.Mem.tail _ (List.Mem.tail _ (List.Mem.tail _ (List.Mem.tail _ (List.Mem.head _)))))))))) rfl rfl (beq_s _)
        refine wp ?_
        refine Ev.sadd (by simp only [lim] at hlen; omega) ?_
        refine wf ?_; refine wu fun _ _ => ?_; refine wf ?_
        have Sr := Sy.res (by assumption)
        refine wl ?_
        refine Ev.call (HP _ _ _ _ _ _ _ _ _ Sr T2 hy1) ?_
        rintro _ _ ⟨J, s5, ds, rfl, g5, S5, T5, N5⟩
        refine Ev.cnd ?_ ?_
        · rw [Bool.and_true]; exact same1S S5 (by first | exact List.Mem.head _ | exact (List.Mem.tail _ (List.Mem.head _)) | exact (List.Mem.tail _ (List.Mem.tail _ (List.Mem.head _))) | exact (List.Mem.tail _ (List.Mem.tail _ (List.Mem.tail _ (List.Mem.head _)))) | exact (List.Mem.tail _ (List.Mem.tail _ (List.Mem.tail _ (List.Mem.tail _ (List.Mem.head _))))) | exact (List.Mem.tail _ (List.Mem.tail _ (List.Mem.tail _ (List.Mem.tail _ (List.Mem.tail _ (List.Mem.head _)))))) | exact (List.Mem.tail _ (List.Mem.tail _ (List.Mem.tail _ (List.Mem.tail _ (List.Mem.tail _ (List.Mem.tail _ (List.Mem.head _))))))) | exact (List.Mem.tail _ (List.Mem.tail _ (List.Mem.tail _ (List.Mem.tail _ (List.Mem.tail _ (List.Mem.tail _ (List.Mem.tail _ (List.Mem.head _)))))))) | exact (List.Mem.tail _ (List.Mem.tail _ (List.Mem.tail _ (List.Mem.tail _ (List.Mem.tail _ (List.Mem.tail _ (List.Mem.tail _ (List.Mem.tail _ (List.Mem.head _)))))))))) rfl hx G.beq
        refine Ev.call (unary_ok g _ _ _ _ _ _ _ _ _ _ _ S5 T5 N5 hy2) ?_
        rintro _ _ ⟨K, s6, es, rfl, g6, S6, T6, N6⟩
        refine Ev.cnd ?_ ?_
        · rw [Bool.and_true]; exact same1S S6 (by first | exact List.Mem.head _ | exact (List.Mem.tail _ (List.Mem.head _)) | exact (List.Mem.tail _ (List.Mem.tail _ (List.Mem.head _))) | exact (List.Mem.tail _ (List.Mem.tail _ (List.Mem.tail _ (List.Mem.head _)))) | exact (List.Mem.tail _ (List.Mem.tail _ (List.Mem.tail _ (List.Mem.tail _ (List.Mem.head _))))) | exact (List.Mem.tail _ (List.Mem.tail _ (List.Mem.tail _ (List.Mem.tail _ (List.Mem.tail _ (List.Mem.head _)))))) | exact (List.Mem.tail _ (List.Mem.tail _ (List.Mem.tail _ (List.Mem.tail _ (List.Mem.tail _ (List.Mem.tail _ (List.Mem.head _))))))) | exact (List.Mem.tail _ (List.Mem.tail _ (List.Mem.tail _ (List.Mem.tail _ (List.Mem.tail _ (List.Mem.tail _ (List.Mem.tail _ (List.Mem.head _)))))))) | exact (List.Mem.tail _ (List.Mem.tail _ (List.Mem.tail _ (List.Mem.tail _ (List.Mem.tail _ (List.Mem.tail _ (List.Mem.tail _ (List.Mem.tail _ (List.Mem.head _)))))))))) rfl hx G.beq
        refine Ev.call (binary_ok HP g g _ _ _ _ _ _ _ _ _ _ _ S6 T6 N6 hy3) ?_
        rintro _ _ ⟨M, s7, fs, rfl, g7, S7, T7, N7⟩
        obtain ⟨l7, o7, q7⟩ := N7.shape
        refine Ev.cnd ?_ ?_
        · rw [Bool.and_true]; exact same1S S7 (by first | exact List.Mem.head _ | exact (List.Mem.tail _ (List.Mem.head _)) | exact (List.Mem.tail _ (List.Mem.tail _ (List.Mem.head _))) | exact (List.Mem.tail _ (List.Mem.tail _ (List.Mem.tail _ (List.Mem.head _)))) | exact (List.Mem.tail _ (List.Mem.tail _ (List.Mem.tail _ (List.Mem.tail _ (List.Mem.head _))))) | exact (List.Mem.tail _ (List.Mem.tail _ (List.Mem.tail _ (List.Mem.tail _ (List.Mem.tail _ (List.Mem.head _)))))) | exact (List.Mem.tail _ (List.Mem.tail _ (List.Mem.tail _ (List.Mem.tail _ (List.Mem.tail _ (List.Mem.tail _ (List.Mem.head _))))))) | exact (List.Mem.tail _ (List.Mem.tail _ (List.Mem.tail _ (List.Mem.tail _ (List.Mem.tail _ (List.Mem.tail _ (List.Mem.tail _ (List.Mem.head _)))))))) | exact (List.Mem.tail _ (List.Mem.tail _ (List.Mem.tail _ (List.Mem.tail _ (List.Mem.tail _ (List.Mem.tail _ (List.Mem.tail _ (List.Mem.tail _ (List.Mem.head _)))))))))) rfl hx G.beq
        refine Ev.bsAt0 S7 (by first | exact Rpl.head _ | exact (Rpl.tail _ (Rpl.head _)) | exact (Rpl.tail _ (Rpl.tail _ (Rpl.head _))) | exact (Rpl.tail _ (Rpl.tail _ (Rpl.tail _ (Rpl.head _)))) | exact (Rpl.tail _ (Rpl.tail _ (Rpl.tail _ (Rpl.tail _ (Rpl.head _))))) | exact (Rpl.tail _ (Rpl.tail _ (Rpl.tail _ (Rpl.tail _ (Rpl.tail _ (Rpl.head _)))))) | exact (Rpl.tail _ (Rpl.tail _ (Rpl.tail _ (Rpl.tail _ (Rpl.tail _ (Rpl.tail _ (Rpl.head _))))))) | exact (Rpl.tail _ (Rpl.tail _ (Rpl.tail _ (Rpl.tail _ (Rpl.tail _ (Rpl.tail _ (Rpl.tail _ (Rpl.head _)))))))) | exact (Rpl.tail _ (Rpl.tail _ (Rpl.tail _ (Rpl.tail _ (Rpl.tail _ (Rpl.tail _ (Rpl.tail _ (Rpl.tail _ (Rpl.head _)))))))))) (fill6 l7) ?_
        intro h8 S8
        have g57 := (g5.trans g6).trans g7
        obtain ⟨x10, h10, B10, cells10, e10, S10, G10, NL10⟩ := app_node (G.mono g57) (NL.mono g57) N7 S8 (by first | exact List.Mem.head _ | exact (List.Mem.tail _ (List.Mem.head _)) | exact (List.Mem.tail _ (List.Mem.tail _ (List.Mem.head _))) | exact (List.Mem.tail _ (List.Mem.tail _ (List.Mem.tail _ (List.Mem.head _)))) | exact (List.Mem.tail _ (List.Mem.tail _ (List.Mem.tail _ (List.Mem.tail _ (List.Mem.head _))))) | exact (List.Mem.tail _ (List.Mem.tail _ (List.Mem.tail _ (List.Mem.tail _ (List.Mem.tail _ (List.Mem.head _)))))) | exact (List.Mem.tail _ (List.Mem.tail _ (List.Mem.tail _ (List.Mem.tail _ (List.Mem.tail _ (List.Mem.tail _ (List.Mem.head _))))))) | exact (List.Mem.tail _ (List.Mem.tail _ (List.Mem.tail _ (List.Mem.tail _ (List.Mem.tail _ (List.Mem.tail _ (List.Mem.tail _ (List.Mem.head _)))))))) | exact (List.Mem.tail _ (List.Mem.tail _ (List.Mem.tail _ (List.Mem.tail _ (List.Mem.tail _ (List.Mem.tail _ (List.Mem.tail _ (List.Mem.tail _ (List.Mem.head _)))))))))) (by omega)
        have hx10 := G10.one
        refine Ev.op e10 ?_
        refine wf ?_; refine wu fun _ _ => ?_
        refine (keys_loop HP g f (j + 1) M B10 A L _ p s7 x10 st4 (t ++ t1.text) (xs ++ [y3]) y cells10 z st' b4 b5 ?_ G10 NL10 z1 z2 (by simp; omega) T7 hm).mono (NPost.le g57)
        exact Sy.dropL (by assumption)
      · cases hm

theorem keys_ok {P : PF} (HP : NOk 137 P) (g : Nat) (hg : g + 1 ≤ lim) : NOk1 134 (keysS P g) := by
  intro I A L h p s st x y cs st' S T N hm
  unfold keysS at hm
  obtain ⟨c, hc, hm⟩ := Option.bind_eq_some_iff.1 hm
  obtain ⟨l1, o1, q1⟩ := N.shape
  refine Ev.enter (fun n => enter134 n _ _ h) ?_
  unfold s134 s134a1
  refine wb fun _ _ _ => ?_; refine wa fun _ _ _ => ?_
  refine Ev.call (is_ok (by assumption) T hc) ?_
  rintro _ _ ⟨rfl, S1⟩
  cases c with
  | false =>
    refine ao ?_; refine yt ?_; refine ws ?_; refine wt fun _ _ => ?_; refine ws ?_
    rw [if_neg (by simp)] at hm
    simp only [Option.some.injEq, Prod.mk.injEq] at hm
    obtain ⟨rfl, rfl⟩ := hm
    exact Ev.ret ⟨I, s, cs, rfl, ILe.refl _, dp, T, N⟩
  | true =>
    rw [if_pos rfl] at hm
    unfold s134a2 s134a3 s134a5
    refine an ?_; refine yj ?_; refine ws ?_
    refine Ev.bs S1 (fill6 l1) ?_
    intro b2 h2 S2
    obtain ⟨J, gJ, S4, F4, G4⟩ := Fz.built (sz := 6) (n := 1) S2 (by omega) o1
    refine Ev.call (send_eq S4 rfl) ?_
    rintro _ _ ⟨rfl, S5⟩
    refine wa fun _ _ _ => ?_; refine wt fun _ _ => ?_
    exact (keys_loop HP g g 0 J [] A L _ p s _ st [] [x] y cs _ st' _ _ (Sy.drop3 (by assumption)) G4 (NVL.single (N.mono gJ)) (by rfl) (by first | assumption | exact tc_ones _ | (repeat (first | exact ones_nil | refine ones_cons (by first | rfl | assumption | exact Fz.one (by assumption)) ?_))) (by simp; omega) (T.mono gJ) hm).mono (NPost.le gJ)

theorem msg_ok {P : PF} (HP : NOk 137 P) (g : Nat) (hg : g + 1 ≤ lim) : NOk 139 (msgS P g) := by
  intro I A L h p s st x st' S T hm
  unfold msgS at hm
  obtain ⟨t, ht, hm⟩ := Option.bind_eq_some_iff.1 hm
  refine Ev.enter (fun n => enter139 n _ h) ?_
  unfold s139
  refine wa fun _ _ _ => ?_; refine wa fun _ _ _ => ?_
  refine Ev.call (look_ok (k := 0) (by assumption) T ht) ?_
  rintro _ _ ⟨rfl, S1⟩
  refine wa fun _ _ _ => ?_; refine wt fun _ _ => ?_; refine wf ?_; refine wl ?_
  have NZ : ∀ J : Im, NV J zN [.i .i64 (Int.ofNat 0), .s [], .i .i64 (Int.ofNat 0), .l0, .l0, .l0] := fun J => NV.flat _ _ _
  have ZO : ∀ v ∈ [DV.i .i64 (Int.ofNat 0), .s [], .i .i64 (Int.ofNat 0), .l0, .l0, .l0], v.one = true := by first | assumption | exact tc_ones _ | (repeat (first | exact ones_nil | refine ones_cons (by first | rfl | assumption | exact Fz.one (by assumption)) ?_))
  refine Ev.ieq (fun e1 => ?_) (fun e1 => ?_)
  · rw [if_pos (show t.kind = 1 from e1)] at hm
    obtain ⟨⟨t1, st1⟩, ht1, hm⟩ := Option.bind_eq_some_iff.1 hm
    simp only [Option.some.injEq, Prod.mk.injEq] at hm
    obtain ⟨rfl, rfl⟩ := hm
    refine yt ?_
    refine Ev.call (take_ok (by assumption) T ht1) ?_
    rintro _ _ ⟨rfl, s2, S2, T2⟩
    refine wf ?_; refine wl ?_; refine ws ?_
    refine Ev.bs S2 (fill6 rfl) ?_
    intro b3 h3 S3
    obtain ⟨J, gJ, S4, F4, _⟩ := Fz.built (sz := 6) (n := 1) S3 rfl ZO
    have N4 : NS J _ [zN] := ⟨by simp [lim], _, F4, NVL.single (NZ J)⟩
    refine Ev.call (send_ok S4 N4) ?_
    rintro _ _ ⟨cs5, rfl, N5, S5⟩
    obtain ⟨l5, o5, b5⟩ := N5.shape
    refine wt fun _ _ => ?_; refine ws ?_
    exact Ev.ret ⟨J, s2, _, rfl, gJ, dp, T2.mono gJ, N5⟩
  · rw [if_neg (show ¬ t.kind = 1 from e1)] at hm
    refine yj ?_
    refine Ev.ieq (fun e2 => ?_) (fun e2 => ?_)
    · rw [if_pos (show t.kind = 3 from e2)] at hm
      obtain ⟨⟨t1, st1⟩, ht1, hm⟩ := Option.bind_eq_some_iff.1 hm
      obtain ⟨⟨y1, st2⟩, hy1, hm⟩ := Option.bind_eq_some_iff.1 hm
      obtain ⟨⟨y2, st3⟩, hy2, hm⟩ := Option.bind_eq_some_iff.1 hm
      simp only [Option.some.injEq, Prod.mk.injEq] at hm
      obtain ⟨rfl, rfl⟩ := hm
      refine yt ?_
      refine Ev.call (take_ok (by assumption) T ht1) ?_
      rintro _ _ ⟨rfl, s2, S2, T2⟩
      have Sr := S2.res
      refine wf ?_; refine wl ?_; refine ws ?_
      refine Ev.call (HP _ _ _ _ _ _ _ _ _ Sr T2 hy1) ?_
      rintro _ _ ⟨J, s5, ds, rfl, g5, S5, T5, N5⟩
      refine Ev.cnd ?_ ?_
      · rw [sameA (n := 6) S5 (by first | exact List.Mem.head _ | exact (List.Mem.tail _ (List.Mem.head _)) | exact (List.Mem.tail _ (List.Mem.tail _ (List.Mem.head _))) | exact (List.Mem.tail _ (List.Mem.tail _ (List.Mem.tail _ (List.Mem.head _)))) | exact (List.Mem.tail _ (List.Mem.tail _ (List.Mem.tail _ (List.Mem.tail _ (List.Mem.head _))))) | exact (List.Mem.tail _ (List.Mem.tail _ (List.Mem.tail _ (List.Mem.tail _ (List.Mem.tail _ (List.Mem.head _)))))) | exact (List.Mem.tail _ (List.Mem.tail _ (List.Mem.tail _ (List.Mem.tail _ (List.Mem.tail _ (List.Mem.tail _ (List.Mem.head _))))))) | exact (List.Mem.tail _ (List.Mem.tail _ (List.Mem.tail _ (List.Mem.tail _ (List.Mem.tail _ (List.Mem.tail _ (List.Mem.tail _ (List.Mem.head _)))))))) | exact (List.Mem.tail _ (List.Mem.tail _ (List.Mem.tail _ (List.Mem.tail _ (List.Mem.tail _ (List.Mem.tail _ (List.Mem.tail _ (List.Mem.tail _ (List.Mem.head _)))))))))) rfl ZO (NZ J).shape.2.2, same1S S5 (by first | exact List.Mem.head _ | exact (List.Mem.tail _ (List.Mem.head _)) | exact (List.Mem.tail _ (List.Mem.tail _ (List.Mem.head _))) | exact (List.Mem.tail _ (List.Mem.tail _ (List.Mem.tail _ (List.Mem.head _)))) | exact (List.Mem.tail _ (List.Mem.tail _ (List.Mem.tail _ (List.Mem.tail _ (List.Mem.head _))))) | exact (List.Mem.tail _ (List.Mem.tail _ (List.Mem.tail _ (List.Mem.tail _ (List.Mem.tail _ (List.Mem.head _)))))) | exact (List.Mem.tail _ (List.Mem.tail _ (List.Mem.tail _ (List.Mem.tail _ (List.Mem.tail _ (List.Mem.tail _ (List.Mem.head _))))))) | exact (List.Mem.tail _ (List.Mem.tail _ (List.Mem.tail _ (List.Mem.tail _ (List.Mem.tail _ (List.Mem.tail _ (List.Mem.tail _ (List.Mem.head _)))))))) | exact (List.Mem.tail _ (List.Mem.tail _ (List.Mem.tail _ (List.Mem.tail _ (List.Mem.tail _ (List.Mem.tail _ (List.Mem.tail _ (List.Mem.tail _ (List.Mem.head _)))))))))) rfl rfl (beq_s _)]; rfl
      refine Ev.call (unary_ok g _ _ _ _ _ _ _ _ _ _ _ S5 T5 N5 hy2) ?_
      rintro _ _ ⟨K, s6, es, rfl, g6, S6, T6, N6⟩
      obtain ⟨l6, o6, q6⟩ := N6.shape
      refine Ev.cnd ?_ ?_
      · rw [sameA (n := 6) S6 (by first | exact List.Mem.head _ | exact (List.Mem.tail _ (List.Mem.head _)) | exact (List.Mem.tail _ (List.Mem.tail _ (List.Mem.head _))) | exact (List.Mem.tail _ (List.Mem.tail _ (List.Mem.tail _ (List.Mem.head _)))) | exact (List.Mem.tail _ (List.Mem.tail _ (List.Mem.tail _ (List.Mem.tail _ (List.Mem.head _))))) | exact (List.Mem.tail _ (List.Mem.tail _ (List.Mem.tail _ (List.Mem.tail _ (List.Mem.tail _ (List.Mem.head _)))))) | exact (List.Mem.tail _ (List.Mem.tail _ (List.Mem.tail _ (List.Mem.tail _ (List.Mem.tail _ (List.Mem.tail _ (List.Mem.head _))))))) | exact (List.Mem.tail _ (List.Mem.tail _ (List.Mem.tail _ (List.Mem.tail _ (List.Mem.tail _ (List.Mem.tail _ (List.Mem.tail _ (List.Mem.head _)))))))) | exact (List.Mem.tail _ (List.Mem.tail _ (List.Mem.tail _ (List.Mem.tail _ (List.Mem.tail _ (List.Mem.tail _ (List.Mem.tail _ (List.Mem.tail _ (List.Mem.head _)))))))))) rfl ZO (NZ J).shape.2.2, same1S S6 (by first | exact List.Mem.head _ | exact (List.Mem.tail _ (List.Mem.head _)) | exact (List.Mem.tail _ (List.Mem.tail _ (List.Mem.head _))) | exact (List.Mem.tail _ (List.Mem.tail _ (List.Mem.tail _ (List.Mem.head _)))) | exact (List.Mem.tail _ (List.Mem.tail _ (List.Mem.tail _ (List.Mem.tail _ (List.Mem.head _))))) | exact (List.Mem.tail _ (List.Mem.tail _ (List.Mem.tail _ (List.Mem.tail _ (List.Mem.tail _ (List.Mem.head _)))))) | exact (List.Mem.tail _ (List.Mem.tail _ (List.Mem.tail _ (List.Mem.tail _ (List.Mem.tail _ (List.Mem.tail _ (List.Mem.head _))))))) | exact (List.Mem.tail _ (List.Mem.tail _ (List.Mem.tail _ (List.Mem.tail _ (List.Mem.tail _ (List.Mem.tail _ (List.Mem.tail _ (List.Mem.head _)))))))) | exact (List.Mem.tail _ (List.Mem.tail _ (List.Mem.tail _ (List.Mem.tail _ (List.Mem.tail _ (List.Mem.tail _ (List.Mem.tail _ (List.Mem.tail _ (List.Mem.head _)))))))))) rfl rfl (beq_s _)]; rfl
      refine Ev.bsAt0 S6 (by first | exact Rpl.head _ | exact (Rpl.tail _ (Rpl.head _)) | exact (Rpl.tail _ (Rpl.tail _ (Rpl.head _))) | exact (Rpl.tail _ (Rpl.tail _ (Rpl.tail _ (Rpl.head _)))) | exact (Rpl.tail _ (Rpl.tail _ (Rpl.tail _ (Rpl.tail _ (Rpl.head _))))) | exact (Rpl.tail _ (Rpl.tail _ (Rpl.tail _ (Rpl.tail _ (Rpl.tail _ (Rpl.head _)))))) | exact (Rpl.tail _ (Rpl.tail _ (Rpl.tail _ (Rpl.tail _ (Rpl.tail _ (Rpl.tail _ (Rpl.head _))))))) | exact (Rpl.tail _ (Rpl.tail _ (Rpl.tail _ (Rpl.tail _ (Rpl.tail _ (Rpl.tail _ (Rpl.tail _ (Rpl.head _)))))))) | exact (Rpl.tail _ (Rpl.tail _ (Rpl.tail _ (Rpl.tail _ (Rpl.tail _ (Rpl.tail _ (Rpl.tail _ (Rpl.tail _ (Rpl.head _)))))))))) (fill12 rfl l6) ?_
      intro h7 S7
      have NL7 : NVL K [zN, y2] (_ ++ es) := (NVL.single (NZ K)).app (NVL.single N6)
      obtain ⟨c1, c2⟩ := NL7.shape
      obtain ⟨M, g8, S8, F8, _⟩ := Fz.built (sz := 6) (n := 2) S7 c1 c2
      have N8 : NS M _ [zN, y2] := ⟨by simp [lim], _, F8, NL7.mono g8⟩
      refine Ev.call (send_ok S8 N8) ?_
      rintro _ _ ⟨cs9, rfl, N9, S9⟩
      obtain ⟨l9, o9, q9⟩ := N9.shape
      refine wt fun _ _ => ?_; refine ws ?_
      exact Ev.ret ⟨M, s6, _, rfl, (g5.trans g6).trans g8, dp, T6.mono g8, N9⟩
    · rw [if_neg (show ¬ t.kind = 3 from e2)] at hm
      refine yj ?_
      refine Ev.ieq (fun e3 => ?_) (fun e3 => ?_)
      · rw [if_pos (show t.kind = 2 from e3)] at hm
        refine yt ?_; refine ws ?_
        refine Ev.call (keys_ok HP g hg _ _ _ _ _ _ _ _ _ _ _ (by assumption) T (NZ I) hm) ?_
        rintro _ _ ⟨J, s5, ds, rfl, g5, S5, T5, N5⟩
        obtain ⟨l5, o5, q5⟩ := N5.shape
        refine wt fun _ _ => ?_; refine ws ?_
        exact Ev.ret ⟨J, s5, _, rfl, g5, dp, T5, N5⟩
      · rw [if_neg (show ¬ t.kind = 2 from e3)] at hm
        simp only [Option.some.injEq, Prod.mk.injEq] at hm
        obtain ⟨rfl, rfl⟩ := hm
        refine yj ?_; refine ws ?_
        refine Ev.call (fail_ok (by assumption) T.2.one t _) ?_
        rintro _ _ ⟨rfl, S6⟩
        refine ws ?_; refine wt fun _ _ => ?_; refine ws ?_
        exact Ev.ret ⟨I, s, _, rfl, ILe.refl _, dp, by rw [failS_toks]; exact T, NZ I⟩

theorem cas_loop {P : PF} (HP : NOk 137 P) (g : Nat) (hg : g + 1 ≤ lim) : ∀ (f j : Nat) (I : Im) (B A L : Ls) (h : Hp) (p : Pos) (s x : DV) (st : PSt) (xs : List Node) (y : Node) (cells z : List DV) (st' : PSt) (b2 b4 : Pos),
    Sy I (B ++ A) [PS p s st] ((b4, some (.row .ex [.i .i64 (Int.ofNat 8), .s [], .i .i64 (Int.ofNat 0), .l0, .l0, x])) :: (b2, some (.row .ex z)) :: L) h → Gr I 6 B x xs.length cells → NVL I xs cells → z.length = 6 → (∀ v ∈ z, v.one = true) →
    xs.length + f ≤ lim → TS' I s st.toks → casL P g f xs st = some (y, st') →
    Ev (fun n => s114a7l (shD n) n (n - j) (.p p 0) (.p b2 0) (.p b4 0) h) (NPost I A L p y st')
  | 0, j, I, B, A, L, h, p, s, x, st, xs, y, cells, z, st', b2, b4, S, G, NL, z1, z2, hl, T, hm => by cases hm
  | f + 1, j, I, B, A, L, h, p, s, x, st, xs, y, cells, z, st', b2, b4, S, G, NL, z1, z2, hl, T, hm => by
    unfold casL at hm
    obtain ⟨c, hc, hm⟩ := Option.bind_eq_some_iff.1 hm
    refine Ev.loop j (ll := fun n m => s114a7l (shD n) n m (.p p 0) (.p b2 0) (.p b4 0) h) (bb := fun n m => s114a7b (shD n) n (s114a7l (shD n) n m) (.p p 0) (.p b2 0) (.p b4 0) h) (fun _ _ => rfl) ?_
    have hx := G.one
    unfold s114a7b s114a6
    refine Ev.call (is_ok S T hc) ?_
    rintro _ _ ⟨rfl, S1⟩
    cases c with
    | false =>
      rw [if_neg (by simp)] at hm
      simp only [Option.some.injEq, Prod.mk.injEq] at hm
      obtain ⟨rfl, rfl⟩ := hm
      obtain ⟨J, gJ, S3, N3⟩ := G.nodes NL S1 (by omega)
      refine yj ?_; refine ws ?_; refine wt fun _ _ => ?_; refine ws ?_
      exact Ev.ret ⟨J, s, _, rfl, gJ, dp, T.mono gJ, NV.of (SS.nil J) (SS.nil J) N3⟩
    | true =>
      rw [if_pos rfl] at hm
      obtain ⟨⟨t1, st1⟩, ht, hm⟩ := Option.bind_eq_some_iff.1 hm
      obtain ⟨⟨y1, st2⟩, hy1, hm⟩ := Option.bind_eq_some_iff.1 hm
      refine yt ?_
      refine Ev.call (take_ok S1 T ht) ?_
      rintro _ _ ⟨rfl, s2, S2, T2⟩
      have Sr := S2.res
      refine wf ?_; refine wl ?_
      refine Ev.call (msg_ok HP g hg _ _ _ _ _ _ _ _ _ Sr T2 hy1) ?_
      rintro _ _ ⟨J, s5, ds, rfl, g5, S5, T5, N5⟩
      refine Ev.cnd ?_ ?_
      · rw [Bool.and_true]; exact same1S S5 (by first | exact List.Mem.head _ | exact (List.Mem.tail _ (List.Mem.head _)) | exact (List.Mem.tail _ (List.Mem.tail _ (List.Mem.head _))) | exact (List.Mem.tail _ (List.Mem.tail _ (List.Mem.tail _ (List.Mem.head _)))) | exact (List.Mem.tail _ (List.Mem.tail _ (List.Mem.tail _ (List.Mem.tail _ (List.Mem.head _))))) | exact (List.Mem.tail _ (List.Mem.tail _ (List.Mem.tail _ (List.Mem.tail _ (List.Mem.tail _ (List.Mem.head _)))))) | exact (List.Mem.tail _ (List.Mem.tail _ (List.Mem.tail _ (List.Mem.tail _ (List.Mem.tail _ (List.Mem.tail _ (List.Mem.head _))))))) | exact (List.Mem.tail _ (List.Mem.tail _ (List.Mem.tail _ (List.Mem.tail _ (List.Mem.tail _ (List.Mem.tail _ (List.Mem.tail _ (List.Mem.head _)))))))) | exact (List.Mem.tail _ (List.Mem.tail _ (List.Mem.tail _ (List.Mem.tail _ (List.Mem.tail _ (List.Mem.tail _ (List.Mem.tail _ (List.Mem.tail _ (List.Mem.head _)))))))))) rfl hx G.beq
      refine Ev.call (message_ok S5 N5) ?_
      rintro _ _ ⟨K, es, rfl, g6, S6, N6⟩
      obtain ⟨l6, o6, q6⟩ := N6.shape
      refine Ev.cnd ?_ ?_
      · rw [Bool.and_true]; exact same1S S6 (by first | exact List.Mem.head _ | exact (List.Mem.tail _ (List.Mem.head _)) | exact (List.Mem.tail _ (List.Mem.tail _ (List.Mem.head _))) | exact (List.Mem.tail _ (List.Mem.tail _ (List.Mem.tail _ (List.Mem.head _)))) | exact (List.Mem.tail _ (List.Mem.tail _ (List.Mem.tail _ (List.Mem.tail _ (List.Mem.head _))))) | exact (List.Mem.tail _ (List.Mem.tail _ (List.Mem.tail _ (List.Mem.tail _ (List.Mem.tail _ (List.Mem.head _)))))) | exact (List.Mem.tail _ (List.Mem.tail _ (List.Mem.tail _ (List.Mem.tail _ (List.Mem.tail _ (List.Mem.tail _ (List.Mem.head _))))))) | exact (List.Mem.tail _ (List.Mem.tail _ (List.Mem.tail _ (List.Mem.tail _ (List.Mem.tail _ (List.Mem.tail _ (List.Mem.tail _ (List.Mem.head _)))))))) | exact (List.Mem.tail _ (List.Mem.tail _ (List.Mem.tail _ (List.Mem.tail _ (List.Mem.tail _ (List.Mem.tail _ (List.Mem.tail _ (List.Mem.tail _ (List.Mem.head _)))))))))) rfl hx G.beq
      refine Ev.bsAt0 S6 (by first | exact Rpl.head _ | exact (Rpl.tail _ (Rpl.head _)) | exact (Rpl.tail _ (Rpl.tail _ (Rpl.head _))) | exact (Rpl.tail _ (Rpl.tail _ (Rpl.tail _ (Rpl.head _)))) | exact (Rpl.tail _ (Rpl.tail _ (Rpl.tail _ (Rpl.tail _ (Rpl.head _))))) | exact (Rpl.tail _ (Rpl.tail _ (Rpl.tail _ (Rpl.tail _ (Rpl.tail _ (Rpl.head _)))))) | exact (Rpl.tail _ (Rpl.tail _ (Rpl.tail _ (Rpl.tail _ (Rpl.tail _ (Rpl.tail _ (Rpl.head _))))))) | exact (Rpl.tail _ (Rpl.tail _ (Rpl.tail _ (Rpl.tail _ (Rpl.tail _ (Rpl.tail _ (Rpl.tail _ (Rpl.head _)))))))) | exact (Rpl.tail _ (Rpl.tail _ (Rpl.tail _ (Rpl.tail _ (Rpl.tail _ (Rpl.tail _ (Rpl.tail _ (Rpl.tail _ (Rpl.head _)))))))))) (fill6 l6) ?_
      intro h8 S8
      have g56 := g5.trans g6
      obtain ⟨x10, h10, B10, cells10, e10, S10, G10, NL10⟩ := app_node (G.mono g56) (NL.mono g56) N6 S8 (by first | exact List.Mem.head _ | exact (List.Mem.tail _ (List.Mem.head _)) | exact (List.Mem.tail _ (List.Mem.tail _ (List.Mem.head _))) | exact (List.Mem.tail _ (List.Mem.tail _ (List.Mem.tail _ (List.Mem.head _)))) | exact (List.Mem.tail _ (List.Mem.tail _ (List.Mem.tail _ (List.Mem.tail _ (List.Mem.head _))))) | exact (List.Mem.tail _ (List.Mem.tail _ (List.Mem.tail _ (List.Mem.tail _ (List.Mem.tail _ (List.Mem.head _)))))) | exact (List.Mem.tail _ (List.Mem.tail _ (List.Mem.tail _ (List.Mem.tail _ (List.Mem.tail _ (List.Mem.tail _ (List.Mem.head _))))))) | exact (List.Mem.tail _ (List.Mem.tail _ (List.Mem.tail _ (List.Mem.tail _ (List.Mem.tail _ (List.Mem.tail _ (List.Mem.tail _ (List.Mem.head _)))))))) | exact (List.Mem.tail _ (List.Mem.tail _ (List.Mem.tail _ (List.Mem.tail _ (List.Mem.tail _ (List.Mem.tail _ (List.Mem.tail _ (List.Mem.tail _ (List.Mem.head _)))))))))) (by omega)
      have hx10 := G10.one
      refine Ev.op e10 ?_
      refine wf ?_; refine wu fun _ _ => ?_
      refine (cas_loop HP g hg f (j + 1) K B10 A L _ p s5 x10 st2 (xs ++ [msgN y1]) y cells10 z st' b2 b4 ?_ G10 NL10 z1 z2 (by simp; omega) (T5.mono g6) hm).mono (NPost.le g56)
      exact Sy.dropL (by assumption)

theorem cascade_ok {P : PF} (HP : NOk 137 P) (g : Nat) (hg : g + 2 ≤ lim) : NOk 114 (cascadeS P g) := by
  intro I A L h p s st x st' S T hm
  unfold cascadeS at hm
  obtain ⟨⟨y1, st1⟩, hy1, hm⟩ := Option.bind_eq_some_iff.1 hm
  obtain ⟨⟨y2, st2⟩, hy2, hm⟩ := Option.bind_eq_some_iff.1 hm
  obtain ⟨⟨y3, st3⟩, hy3, hm⟩ := Option.bind_eq_some_iff.1 hm
  obtain ⟨⟨y4, st4⟩, hy4, hm⟩ := Option.bind_eq_some_iff.1 hm
  obtain ⟨c, hc, hm⟩ := Option.bind_eq_some_iff.1 hm
  refine Ev.enter (fun n => enter114 n _ h) ?_
  unfold s114 s114a1
  refine wa fun _ _ _ => ?_
  refine Ev.call (HP _ _ _ _ _ _ _ _ _ (by assumption) T hy1) ?_
  rintro _ _ ⟨J1, s1, c1, rfl, g1, S1, T1, N1⟩
  refine Ev.call (unary_ok g _ _ _ _ _ _ _ _ _ _ _ S1 T1 N1 hy2) ?_
  rintro _ _ ⟨J2, s2, c2, rfl, g2, S2, T2, N2⟩
  refine Ev.call (binary_ok HP g g _ _ _ _ _ _ _ _ _ _ _ S2 T2 N2 hy3) ?_
  rintro _ _ ⟨J3, s3, c3, rfl, g3, S3, T3, N3⟩
  refine Ev.call (keys_ok HP g (by omega) _ _ _ _ _ _ _ _ _ _ _ S3 T3 N3 hy4) ?_
  rintro _ _ ⟨J4, s4, c4, rfl, g4, S4, T4, N4⟩
  have g14 := ((g1.trans g2).trans g3).trans g4
  obtain ⟨l4, o4, q4⟩ := N4.shape
  refine wa fun _ _ _ => ?_; refine wt fun _ _ => ?_
  unfold s114a2
  refine Ev.call (is_ok (by assumption) T4 hc) ?_
  rintro _ _ ⟨rfl, S5⟩
  cases c with
  | false =>
    rw [if_neg (by simp)] at hm
    simp only [Option.some.injEq, Prod.mk.injEq] at hm
    obtain ⟨rfl, rfl⟩ := hm
    refine ao ?_; refine yt ?_; refine ws ?_; refine wt fun _ _ => ?_; refine ws ?_
    exact Ev.ret ⟨J4, s4, _, rfl, g14, dp, T4, N4⟩
  | true =>
    rw [if_pos rfl] at hm
    have N4' := N4
    obtain ⟨k, t, m, ns, ts, ks⟩ := y4
    obtain ⟨d1, d2, d3, rfl, a1, a2, a3, cells, F, NL⟩ := N4
    have o1 := a1.2.one
    have o2 := a2.2.one
    have o3 := F.one
    unfold s114a3
    refine an ?_; refine yj ?_; refine wf ?_; refine wl ?_
    refine Ev.ine (fun e1 => ?_) (fun e1 => ?_)
    · rw [if_neg (show ¬ Node.kind (.mk k t m ns ts ks) = 7 from e1)] at hm
      obtain ⟨u, hu, hm⟩ := Option.bind_eq_some_iff.1 hm
      simp only [Option.some.injEq, Prod.mk.injEq] at hm
      obtain ⟨rfl, rfl⟩ := hm
      refine yt ?_
      refine Ev.call (look_ok (k := 0) (by assumption) T4 hu) ?_
      rintro _ _ ⟨rfl, S6⟩
      refine Ev.call (fail_ok S6 T4.2.one u _) ?_
      rintro _ _ ⟨rfl, S7⟩
      refine ws ?_; refine wt fun _ _ => ?_; refine ws ?_
      exact Ev.ret ⟨J4, s4, _, rfl, g14, dp, by rw [failS_toks]; exact T4, N4'⟩
    · rw [if_pos (show Node.kind (.mk k t m ns ts ks) = 7 from e1)] at hm
      obtain ⟨k0, hk0, hm⟩ := Option.bind_eq_some_iff.1 hm
      refine yj ?_
      unfold s114a4
      rename_i bx _ _ by' _ _ _ _
      have Sr : Sy J4 A [PS p s4 st4] ((_, none) :: (_, none) :: _) (resv 2 _) := S5.res.res
      have NS3 : NS J4 d3 ks := ⟨a3, cells, F, NL⟩
      obtain ⟨b6, o6, c6, i6, N6, L6⟩ := NS3.at (i := 0) hk0
      refine wf ?_; refine wl ?_
      refine Ev.op (i6 _) (Ev.op (L6 J4 _ _ _ _ (ILe.refl _) Sr) ?_)
      refine ws ?_
      refine Ev.call (message_ok Sr N4') ?_
      rintro _ _ ⟨K, es, rfl, g7, S7, N7⟩
      obtain ⟨l7, o7, q7⟩ := N7.shape
      obtain ⟨l6, o6', q6⟩ := N6.shape
      refine Ev.cnd ?_ ?_
      · rw [L6 K _ _ _ _ g7 S7, same1S S7 (by first | exact List.Mem.head _ | exact (List.Mem.tail _ (List.Mem.head _)) | exact (List.Mem.tail _ (List.Mem.tail _ (List.Mem.head _))) | exact (List.Mem.tail _ (List.Mem.tail _ (List.Mem.tail _ (List.Mem.head _)))) | exact (List.Mem.tail _ (List.Mem.tail _ (List.Mem.tail _ (List.Mem.tail _ (List.Mem.head _))))) | exact (List.Mem.tail _ (List.Mem.tail _ (List.Mem.tail _ (List.Mem.tail _ (List.Mem.tail _ (List.Mem.head _)))))) | exact (List.Mem.tail _ (List.Mem.tail _ (List.Mem.tail _ (List.Mem.tail _ (List.Mem.tail _ (List.Mem.tail _ (List.Mem.head _))))))) | exact (List.Mem.tail _ (List.Mem.tail _ (List.Mem.tail _ (List.Mem.tail _ (List.Mem.tail _ (List.Mem.tail _ (List.Mem.tail _ (List.Mem.head _)))))))) | exact (List.Mem.tail _ (List.Mem.tail _ (List.Mem.tail _ (List.Mem.tail _ (List.Mem.tail _ (List.Mem.tail _ (List.Mem.tail _ (List.Mem.tail _ (List.Mem.head _)))))))))) rfl o3 F.beq]
        simpa [sameR] using q6
      refine Ev.bsAt0 S7 (by first | exact Rpl.head _ | exact (Rpl.tail _ (Rpl.head _)) | exact (Rpl.tail _ (Rpl.tail _ (Rpl.head _))) | exact (Rpl.tail _ (Rpl.tail _ (Rpl.tail _ (Rpl.head _)))) | exact (Rpl.tail _ (Rpl.tail _ (Rpl.tail _ (Rpl.tail _ (Rpl.head _))))) | exact (Rpl.tail _ (Rpl.tail _ (Rpl.tail _ (Rpl.tail _ (Rpl.tail _ (Rpl.head _)))))) | exact (Rpl.tail _ (Rpl.tail _ (Rpl.tail _ (Rpl.tail _ (Rpl.tail _ (Rpl.tail _ (Rpl.head _))))))) | exact (Rpl.tail _ (Rpl.tail _ (Rpl.tail _ (Rpl.tail _ (Rpl.tail _ (Rpl.tail _ (Rpl.tail _ (Rpl.head _)))))))) | exact (Rpl.tail _ (Rpl.tail _ (Rpl.tail _ (Rpl.tail _ (Rpl.tail _ (Rpl.tail _ (Rpl.tail _ (Rpl.tail _ (Rpl.head _)))))))))) (fill12 l6 l7) ?_
      intro h8 S8
      have NL8 : NVL K [k0, msgN (.mk k t m ns ts ks)] (c6 ++ es) := (NVL.single (N6.mono g7)).app (NVL.single N7)
      obtain ⟨e8, e9⟩ := NL8.shape
      obtain ⟨M, g9, S9, F9, G9⟩ := Fz.built (sz := 6) (n := 2) S8.swap e8 e9
      refine wd ?_
      refine Ev.newAt S9 (Rpl.head _) ?_
      intro h10 S10
      refine wt fun _ _ => ?_
      unfold s114a5 s114a7
      refine (cas_loop HP g (by omega) g 0 M [] A L _ p s4 _ st4 [k0, msgN (.mk k t m ns ts ks)] x (c6 ++ es) _ st' _ _ (Sy.drop2 (by assumption)) G9 (NL8.mono g9) (by rfl) (by first | assumption | exact tc_ones _ | (repeat (first | exact ones_nil | refine ones_cons (by first | rfl | assumption | exact Fz.one (by assumption)) ?_))) (by simp; omega) ((T4.mono g7).mono g9) hm).mono (NPost.le ((g14.trans g7).trans g9))

theorem expr_ok {P E : PF} (HP : NOk 137 P) (HE : NOk 79 E) (g : Nat) (hg : g + 2 ≤ lim) : NOk 79 (exprS P E g) := by
  intro I A L h p s st x st' S T hm
  unfold exprS at hm
  obtain ⟨c, hc, hm⟩ := Option.bind_eq_some_iff.1 hm
  obtain ⟨d, hd, hm2⟩ := Option.bind_eq_some_iff.1 hm
  refine Ev.enter (fun n => enter79 n _ h) ?_
  unfold s79
  refine wa fun _ _ _ => ?_
  refine Ev.call (is_ok (by assumption) T hc) ?_
  rintro _ _ ⟨rfl, S1⟩
  have cas : d = false → ∀ (b1 : Pos) (z : List DV) h', z.length = 6 → (∀ v ∈ z, v.one = true) → Sy I A [PS p s st] ((b1, some (.row .ex z)) :: L) h' →
      Ev (fun n => bnd (shD n 114 [.p p 0] h') fun v21 h21 => bnd (pStore 6 (.p b1 0) v21 h21) fun _ h22 => bnd (pLoadA 6 (.p b1 0) h22) fun v23 _ => some (v23, h22)) (NPost I A L p x st') := by
    intro hd0 b1 z h' z1 z2 S'
    subst hd0
    rw [if_neg (by simp)] at hm2
    refine Ev.call (cascade_ok HP g hg _ _ _ _ _ _ _ _ _ S' T hm2) ?_
    rintro _ _ ⟨J, s5, ds, rfl, g5, S5, T5, N5⟩
    obtain ⟨l5, o5, q5⟩ := N5.shape
    refine wt fun _ _ => ?_; refine ws ?_
    exact Ev.ret ⟨J, s5, _, rfl, g5, dp, T5, N5⟩
  cases c with
  | false =>
    simp only [Bool.false_eq_true, if_false, Option.some.injEq] at hd
    have C := cas hd.symm _ _ _ rfl (by first | assumption | exact tc_ones _ | (repeat (first | exact ones_nil | refine ones_cons (by first | rfl | assumption | exact Fz.one (by assumption)) ?_))) S1
    refine yf ?_; refine yf ?_; refine yf ?_; refine yf ?_; refine aq ?_; refine yj ?_
    exact C
  | true =>
    rw [if_pos rfl] at hd
    obtain ⟨t, ht, hd⟩ := Option.bind_eq_some_iff.1 hd
    simp only [Option.some.injEq] at hd
    refine zt ?_; refine wm ?_; refine zt ?_
    refine Ev.call (look_ok (k := 1) S1 T ht) ?_
    rintro _ _ ⟨rfl, S2⟩
    refine zt ?_; refine wp ?_; refine zt ?_
    refine Ev.ieq (fun e1 => ?_) (fun e1 => ?_)
    · rw [decide_eq_true (show t.kind = 9 from e1)] at hd
      subst hd
      rw [if_pos rfl] at hm2
      obtain ⟨⟨t1, st1⟩, ht1, hm2⟩ := Option.bind_eq_some_iff.1 hm2
      obtain ⟨⟨t2, st2⟩, ht2, hm2⟩ := Option.bind_eq_some_iff.1 hm2
      obtain ⟨⟨y, st3⟩, hy, hm2⟩ := Option.bind_eq_some_iff.1 hm2
      simp only [Option.some.injEq, Prod.mk.injEq] at hm2
      obtain ⟨rfl, rfl⟩ := hm2
      refine ap ?_; refine yt ?_
      refine Ev.call (take_ok S2 T ht1) ?_
      rintro _ _ ⟨rfl, s3, S3, T3⟩
      refine wp ?_; refine wd ?_; refine wa fun _ _ _ => ?_; refine wt fun _ _ => ?_
      refine Ev.call (take_ok (by assumption) T3 ht2) ?_
      rintro _ _ ⟨rfl, s4, S4, T4⟩
      refine Ev.call (HE _ _ _ _ _ _ _ _ _ S4 T4 hy) ?_
      rintro _ _ ⟨J, s5, ds, rfl, g5, S5, T5, N5⟩
      obtain ⟨l5, o5, q5⟩ := N5.shape
      refine Ev.bs S5 (fill6 l5) ?_
      intro b6 h6 S6
      obtain ⟨K, g7, S7, F7, _⟩ := Fz.built (sz := 6) (n := 1) S6 (by omega) o5
      have N7 : NS K _ [y] := ⟨by simp [lim], ds, F7, NVL.single (N5.mono g7)⟩
      refine wf ?_; refine wu fun _ _ => ?_; refine ws ?_; refine wt fun _ _ => ?_; refine ws ?_
      exact Ev.ret ⟨K, s5, _, rfl, g5.trans g7, dp, T5.mono g7, NV.of (SS.nil K) (SS.nil K) N7⟩
    · rw [decide_eq_false (show ¬ t.kind = 9 from e1)] at hd
      have C := cas hd.symm _ _ _ rfl (by first | assumption | exact tc_ones _ | (repeat (first | exact ones_nil | refine ones_cons (by first | rfl | assumption | exact Fz.one (by assumption)) ?_))) S2
      refine ap ?_; refine yj ?_
      exact C

theorem exprF_ok : ∀ (f : Nat), f + 2 ≤ lim → NOk 79 (exprF f)
  | 0, _ => fun I A L h p s st x st' S T hm => by cases hm
  | f + 1, hf => expr_ok (primary_ok (lit_ok f (by omega)) (exprF_ok f (by omega)) f (by omega)) (exprF_ok f (by omega)) f (by omega)

end Go.Dd

/- Dd, part T10: the program's lexer: bytes, runs of bytes, names, numbers. -/
set_option linter.unusedVariables false
set_option linter.unusedSimpArgs false
set_option maxRecDepth 100000
namespace Go.Dd
open Go.Proofs

/-! ### Bytes -/
def letterB (c : Nat) : Bool := (decide (97 ≤ c) && decide (c ≤ 122)) || (decide (65 ≤ c) && decide (c ≤ 90))
def digitB (c : Nat) : Bool := decide (48 ≤ c) && decide (c ≤ 57)
def nameB (c : Nat) : Bool := letterB c || digitB c
def textB (c : Nat) : Bool := !decide (c = 39)
def inB (l : List Nat) (c : Nat) : Bool := l.contains c

section
variable {k : Nat → DV → Hp → Res} {P : DV → Hp → Prop} {h : Hp}
theorem Ev.lenS {l : List Nat} (H : Ev (fun n => k n (.i .i64 (l.length : Int)) h) P) : Ev (fun n => bnd (pLenS (.s l) h) (k n)) P := H
theorem idxS {l : List Nat} {i c : Nat} (e : l[i]? = some c) (h : Hp) : pIndexS (.s l) (.i .i64 (i : Int)) h = some (.i .u8 (Int.ofNat c), h) := by
  show (if 0 ≤ (i : Int) then (match l[(i : Int).toNat]? with
    | some c => some (DV.i .u8 (c : Int), h)
    | none => none) else none) = _
  rw [if_pos (by omega), show (i : Int).toNat = i by omega, e]
  rfl
theorem cutS {l : List Nat} {a b : Nat} (h1 : a ≤ b) (h2 : b ≤ l.length) (h : Hp) : pSliceS (.s l) (some (.i .i64 (a : Int))) (some (.i .i64 (b : Int))) h = some (.s ((l.take b).drop a), h) := by
  have e1 : hiD (some (.i .i64 (b : Int))) l.length l.length = some b := by
    show (if 0 ≤ (b : Int) ∧ (b : Int) ≤ (l.length : Int) then some (b : Int).toNat else none) = _
    rw [if_pos ⟨by omega, by omega⟩]; rfl
  have e2 : loD (some (.i .i64 (a : Int))) b = some a := by
    show (if 0 ≤ (a : Int) ∧ (a : Int) ≤ (b : Int) then some (a : Int).toNat else none) = _
    rw [if_pos ⟨by omega, by omega⟩]; rfl
  simp only [pSliceS, e1, e2]
theorem cutE {l : List Nat} {a : Nat} (h1 : a ≤ l.length) (h : Hp) : pSliceS (.s l) (some (.i .i64 (a : Int))) none h = some (.s (l.drop a), h) := by
  have e1 : hiD none l.length l.length = some l.length := by simp [hiD]
  have e2 : loD (some (.i .i64 (a : Int))) l.length = some a := by
    show (if 0 ≤ (a : Int) ∧ (a : Int) ≤ (l.length : Int) then some (a : Int).toNat else none) = _
    rw [if_pos ⟨by omega, by omega⟩]; rfl
  simp only [pSliceS, e1, e2, List.take_length]
end

theorem enter107 (n : Nat) (x : DV) (h : Hp) : shD (n + 1) 107 [x] h = s107 (shD n) n x h := by kernel_rfl
theorem enter110 (n : Nat) (x : DV) (h : Hp) : shD (n + 1) 110 [x] h = s110 (shD n) n x h := by kernel_rfl
theorem enter132 (n : Nat) (x : DV) (h : Hp) : shD (n + 1) 132 [x] h = s132 (shD n) n x h := by kernel_rfl
theorem enter133 (n : Nat) (x : DV) (h : Hp) : shD (n + 1) 133 [x] h = s133 (shD n) n x h := by kernel_rfl
theorem enter105 (n : Nat) (x y : DV) (h : Hp) : shD (n + 1) 105 [x, y] h = s105 (shD n) n x y h := by kernel_rfl
theorem enter75 (n : Nat) (x : DV) (h : Hp) : shD (n + 1) 75 [x] h = s75 (shD n) n x h := by kernel_rfl
theorem enter57 (n : Nat) (x y : DV) (h : Hp) : shD (n + 1) 57 [x, y] h = s57 (shD n) n x y h := by kernel_rfl
theorem enter85 (n : Nat) (x y : DV) (h : Hp) : shD (n + 1) 85 [x, y] h = s85 (shD n) n x y h := by kernel_rfl
theorem enter106 (n : Nat) (x y : DV) (h : Hp) : shD (n + 1) 106 [x, y] h = s106 (shD n) n x y h := by kernel_rfl
theorem enter74 (n : Nat) (x y z : DV) (h : Hp) : shD (n + 1) 74 [x, y, z] h = s74 (shD n) n x y z h := by kernel_rfl
theorem enter108 (n : Nat) (x : DV) (h : Hp) : shD (n + 1) 108 [x] h = s108 (shD n) n x h := by kernel_rfl
theorem enter109 (n : Nat) (x : DV) (h : Hp) : shD (n + 1) 109 [x] h = s109 (shD n) n x h := by kernel_rfl
theorem call105 (rec : FuncId → List DV → Hp → Res) (x y : DV) (h : Hp) : pCall CF rec (.f 105 [] [y]) [x] h = rec 105 [x, y] h := by kernel_rfl
theorem call110 (rec : FuncId → List DV → Hp → Res) (x : DV) (h : Hp) : pCall CF rec (.f 110 [] []) [x] h = rec 110 [x] h := by kernel_rfl
theorem call132 (rec : FuncId → List DV → Hp → Res) (x : DV) (h : Hp) : pCall CF rec (.f 132 [] []) [x] h = rec 132 [x] h := by kernel_rfl
theorem call133 (rec : FuncId → List DV → Hp → Res) (x : DV) (h : Hp) : pCall CF rec (.f 133 [] []) [x] h = rec 133 [x] h := by kernel_rfl

theorem letter_ok (c : Nat) (h : Hp) : Ev (fun n => shD n 107 [.i .u8 (Int.ofNat c)] h) (fun v h' => v = .b (letterB c) ∧ h' = h) := by
  refine Ev.enter (fun n => enter107 n _ h) ?_
  unfold s107
  refine Ev.ige (fun e1 => ?_) (fun e1 => ?_)
  · refine zt ?_; refine wm ?_; refine zt ?_
    refine Ev.ile (fun e2 => ?_) (fun e2 => ?_)
    · refine ap ?_; refine yg ?_; refine yg ?_; refine yg ?_; refine yu ?_; refine yu ?_; refine yg ?_; refine ap ?_
      exact Ev.ret ⟨by simp at e1 e2; simp [letterB]; omega, rfl⟩
    · refine ap ?_; refine zf ?_; refine wm ?_; refine zf ?_
      refine Ev.ige (fun e3 => ?_) (fun e3 => ?_)
      · refine zf ?_; refine wm ?_; refine zt ?_; refine wm ?_; refine zt ?_
        refine Ev.ile (fun e4 => ?_) (fun e4 => ?_)
        · refine zf ?_; refine ap ?_; refine aq ?_
          exact Ev.ret ⟨by simp at e1 e2 e3 e4; omega, rfl⟩
        · refine zf ?_; refine ap ?_; refine aq ?_
          exact Ev.ret ⟨by simp at e1 e2 e3 e4; simp [letterB]; omega, rfl⟩
      · refine zf ?_; refine wm ?_; refine yf ?_; refine yf ?_; refine zf ?_; refine aq ?_; refine aq ?_
        exact Ev.ret ⟨by simp at e1 e2 e3; omega, rfl⟩
  · refine yf ?_; refine yf ?_; refine aq ?_; refine zf ?_; refine wm ?_; refine zf ?_
    refine Ev.ige (fun e3 => ?_) (fun e3 => ?_)
    · refine zf ?_; refine wm ?_; refine zt ?_; refine wm ?_; refine zt ?_
      refine Ev.ile (fun e4 => ?_) (fun e4 => ?_)
      · refine zf ?_; refine ap ?_; refine aq ?_
        exact Ev.ret ⟨by simp at e1 e3 e4; simp [letterB]; omega, rfl⟩
      · refine zf ?_; refine ap ?_; refine aq ?_
        exact Ev.ret ⟨by simp at e1 e3 e4; simp [letterB]; omega, rfl⟩
    · refine zf ?_; refine wm ?_; refine yf ?_; refine yf ?_; refine zf ?_; refine aq ?_; refine aq ?_
      exact Ev.ret ⟨by simp at e1 e3; simp [letterB]; omega, rfl⟩

theorem digit_ok (c : Nat) (h : Hp) : Ev (fun n => shD n 110 [.i .u8 (Int.ofNat c)] h) (fun v h' => v = .b (digitB c) ∧ h' = h) := by
  refine Ev.enter (fun n => enter110 n _ h) ?_
  unfold s110
  refine Ev.ige (fun e1 => ?_) (fun e1 => ?_)
  · refine zt ?_; refine wm ?_; refine zt ?_
    refine Ev.ile (fun e2 => ?_) (fun e2 => ?_)
    · refine ap ?_
      exact Ev.ret ⟨by simp at e1 e2; simp [digitB]; omega, rfl⟩
    · refine ap ?_
      exact Ev.ret ⟨by simp at e1 e2; simp [digitB]; omega, rfl⟩
  · refine yf ?_; refine yf ?_; refine aq ?_
    exact Ev.ret ⟨by simp at e1; simp [digitB]; omega, rfl⟩

/-- What a closure over bytes says, wherever it is called. -/
def CSpec (I : Im) (f : DV) (so : Nat → Bool) : Prop := ∀ (J : Im) (A Q L : Ls) (h : Hp) (c : Nat), ILe I J → Sy J A Q L h → c < 256 → Ev (fun n => pCall CF (shD n) f [.i .u8 (Int.ofNat c)] h) (fun v h' => v = .b (so c) ∧ h' = h)

theorem digit_c (I : Im) : CSpec I (.f 110 [] []) digitB := by
  intro J A Q L h c _ _ _
  simp only [call110]
  exact digit_ok c h

theorem name_c (I : Im) : CSpec I (.f 132 [] []) nameB := by
  intro J A Q L h c _ _ _
  simp only [call132]
  refine Ev.enter (fun n => enter132 n _ h) ?_
  unfold s132
  refine Ev.call (letter_ok c h) ?_
  rintro _ _ ⟨rfl, rfl⟩
  cases e : letterB c with
  | true =>
    refine yg ?_; refine yg ?_; refine ap ?_
    exact Ev.ret ⟨by simp [nameB, e], rfl⟩
  | false =>
    refine zf ?_; refine wm ?_; refine zf ?_
    refine Ev.call (digit_ok c _) ?_
    rintro _ _ ⟨rfl, rfl⟩
    refine aq ?_
    exact Ev.ret ⟨by simp [nameB, e], rfl⟩

theorem text_c (I : Im) : CSpec I (.f 133 [] []) textB := by
  intro J A Q L h c _ _ _
  simp only [call133]
  refine Ev.enter (fun n => enter133 n _ h) ?_
  unfold s133
  refine Ev.ine (fun e1 => ?_) (fun e1 => ?_)
  · exact Ev.ret ⟨by simp at e1; simp [textB]; omega, rfl⟩
  · exact Ev.ret ⟨by simp at e1; simp [textB]; omega, rfl⟩

theorem idx_ge (c : Nat) : ∀ (l : List Nat) (i : Nat), decide (0 ≤ idxGo c l i) = l.contains c
  | [], i => rfl
  | x :: l, i => by
    have ih := idx_ge c l (i + 1)
    unfold idxGo
    cases e : Nat.beq x c with
    | true =>
      have e2 := Nat.eq_of_beq_eq_true e
      subst e2
      simp
    | false =>
      have e2 : ¬ x = c := fun e2 => by subst e2; simp at e
      simp only [cond_false, ih]
      have e3 : ¬ c = x := fun e3 => e2 e3.symm
      simp [e3]

theorem index_ok (l : List Nat) (c : Nat) (hc : c < 256) (h : Hp) : Ev (fun n => shD n 57 [.s l, .i .u8 (Int.ofNat c)] h) (fun v h' => v = .i .i64 (idxGo c l 0) ∧ h' = h) := by
  refine Ev.enter (fun n => enter57 n _ _ h) ?_
  unfold s57
  refine Ev.call (F := fun n => shD n 85 [.s l, .i .u8 (Int.ofNat c)] h) (Q := fun v h' => v = .i .i64 (idxGo c l 0) ∧ h' = h) ?_ ?_
  · refine Ev.enter (fun n => enter85 n _ _ h) ?_
    unfold s85
    have e : idxF [.s l, .i .u8 (Int.ofNat c)] h = some (.i .i64 (idxGo c l 0), h) := by
      have e2 : Nat.blt c 256 = true := by simpa [Nat.blt_eq] using hc
      show (bif Nat.blt c 256 then some (DV.i IntKind.i64 (idxGo c l 0), h) else none) = _
      rw [e2]
      rfl
    refine Ev.op e ?_
    exact Ev.ret ⟨rfl, rfl⟩
  · rintro _ _ ⟨rfl, rfl⟩
    exact Ev.ret ⟨rfl, rfl⟩

/-- 'in': a closure over a text. -/
theorem in_ok {I : Im} {A Q L : Ls} {h : Hp} (S : Sy I A Q L h) (l : List Nat) :
    Ev (fun n => shD n 75 [.s l] h) (fun v h' => ∃ J, ILe I J ∧ Sy J A Q L h' ∧ CSpec J v (inB l)) := by
  refine Ev.enter (fun n => enter75 n _ h) ?_
  unfold s75
  refine Ev.box S rfl ?_
  intro b h1 S1
  obtain ⟨S2, g⟩ := S1.freeze
  refine Ev.ret ⟨_, g, S2, ?_⟩
  intro J A' Q' L' h' c gJ S' hc
  simp only [call105]
  refine Ev.enter (fun n => enter105 n _ _ h') ?_
  unfold s105
  refine Ev.ld (S'.im _ _ (gJ _ _ (Im.put_same _ _ _))) rfl rfl ?_
  refine Ev.call (index_ok l c hc h') ?_
  rintro _ _ ⟨rfl, rfl⟩
  refine Ev.op (pInt_eq .geq (.b (decide (idxGo c l 0 ≥ Int.ofNat 0))) rfl) ?_
  refine Ev.ret ⟨?_, rfl⟩
  rw [show (decide (idxGo c l 0 ≥ Int.ofNat 0)) = l.contains c from idx_ge c l 0]
  rfl

/-! ### The reader -/
def RS (r : Pos) (s : List Nat) (at_ : Nat) : Pos × Option Ob := (r, some (.row .ex [.s s, .i .i64 (at_ : Int)]))

/-- So many bytes are so, at most some. -/
def runN (so : Nat → Bool) : Nat → List Nat → Nat
  | 0, _ => 0
  | _ + 1, [] => 0
  | m + 1, c :: u => if so c then runN so m u + 1 else 0

def nextB (s : List Nat) (i : Nat) : Nat := s.getD i 0

theorem runN_le (so : Nat → Bool) : ∀ (m : Nat) (u : List Nat), runN so m u ≤ u.length
  | 0, _ => by simp [runN]
  | _ + 1, [] => by simp [runN]
  | m + 1, c :: u => by
    have := runN_le so m u
    simp only [runN, List.length_cons]
    split <;> omega

section
variable {I : Im} {A L : Ls} {h : Hp} {r : Pos} {s : List Nat} {i : Nat}

theorem wrapN (n : Nat) (h : n ≤ 1000000000000) : IntKind.i64.wrap (n : Int) = (n : Int) := wrap64s _ (by omega) (by omega)

theorem byte_ok (S : Sy I A [RS r s i] L h) (hs : s.length ≤ lim) (hi : i ≤ s.length) (k : Nat) (hk : k ≤ 2) :
    Ev (fun n => shD n 106 [.p r 0, .i .i64 (Int.ofNat k)] h) (fun v h' => v = .i .u8 (Int.ofNat (nextB s (i + k))) ∧ h' = h) := by
  refine Ev.enter (fun n => enter106 n _ _ h) ?_
  unfold s106
  have e0 : IntKind.i64.wrap ((i : Int) + Int.ofNat k) = ((i + k : Nat) : Int) := by
    rw [show (i : Int) + Int.ofNat k = ((i + k : Nat) : Int) by simp]
    exact wrapN _ (by simp only [lim] at hs; omega)
  refine wn ?_; refine wf ?_; refine wq ?_
  refine Ev.iadd ?_
  rw [e0]
  refine wn ?_; refine wf ?_; refine wq ?_
  refine Ev.lenS ?_
  refine Ev.ige (fun e1 => ?_) (fun e1 => ?_)
  · refine yt ?_
    have e2 : s.length ≤ i + k := by omega
    exact Ev.ret ⟨by simp [nextB, List.getD, List.getElem?_eq_none e2], rfl⟩
  · refine yj ?_; refine wn ?_; refine wf ?_; refine wq ?_; refine wn ?_; refine wf ?_; refine wq ?_
    refine Ev.iadd ?_
    rw [e0]
    have e2 : i + k < s.length := by omega
    refine Ev.op (idxS (c := s[i + k]) (by simp [e2]) _) ?_
    exact Ev.ret ⟨by simp [nextB, List.getD, e2], rfl⟩

theorem run_loop {f : DV} {so : Nat → Bool} (C : CSpec I f so) (hs : s.length ≤ lim) (hb : ∀ c ∈ s, c < 256) (from_ : Nat) : ∀ (m j i : Nat) (h : Hp) (most : Nat), Sy I A [RS r s i] L h → from_ ≤ i → i ≤ s.length → (i - from_) + m = most → most ≤ lim →
    Ev (fun n => s74a4l (shD n) n (n - j) (.p r 0) f (.i .i64 (most : Int)) (.i .i64 (from_ : Int)) h) (fun v h' => v = .s ((s.take (i + runN so m (s.drop i))).drop from_) ∧ Sy I A [RS r s (i + runN so m (s.drop i))] L h') := by
  intro m
  induction m with
  | zero =>
    intro j i h most S h1 h2 h3 h4
    refine Ev.loop j (ll := fun n m => s74a4l (shD n) n m (.p r 0) f (.i .i64 (most : Int)) (.i .i64 (from_ : Int)) h) (bb := fun n m => s74a4b (shD n) n (s74a4l (shD n) n m) (.p r 0) f (.i .i64 (most : Int)) (.i .i64 (from_ : Int)) h) (fun _ _ => rfl) ?_
    unfold s74a4b s74a3
    refine wn ?_; refine wf ?_; refine wq ?_; refine wn ?_; refine wf ?_; refine wq ?_
    refine Ev.lenS ?_
    have fin : Ev (fun n => bnd (pSliceS (.s s) (some (.i .i64 (from_ : Int))) (some (.i .i64 (i : Int))) h) fun v7 h7 => some (v7, h7)) (fun v h' => v = .s ((s.take (i + runN so 0 (s.drop i))).drop from_) ∧ Sy I A [RS r s (i + runN so 0 (s.drop i))] L h') :=
      Ev.op (cutS h1 h2 h) (Ev.ret ⟨by simp [runN], by simpa [runN] using S⟩)
    refine Ev.ilt (fun e1 => ?_) (fun e1 => ?_)
    · refine zt ?_; refine wm ?_; refine zt ?_; refine wn ?_; refine zt ?_; refine wf ?_; refine zt ?_; refine wq ?_; refine zt ?_; refine wm ?_; refine zt ?_
      refine Ev.isub ?_
      rw [show (i : Int) - (from_ : Int) = ((i - from_ : Nat) : Int) by omega, wrapN _ (by simp only [lim] at hs; omega)]
      refine zt ?_; refine wm ?_; refine zt ?_
      refine Ev.ilt (fun e2 => ?_) (fun e2 => ?_)
      · omega
      · refine ap ?_; refine yf ?_; refine yf ?_; refine yf ?_; refine yf ?_; refine yf ?_; refine yf ?_; refine yf ?_; refine yf ?_; refine yf ?_; refine yf ?_; refine yf ?_; refine aq ?_; refine yj ?_; refine wn ?_; refine wf ?_; refine wq ?_; refine wn ?_; refine wf ?_; refine wq ?_
        exact fin
    · refine yf ?_; refine yf ?_; refine yf ?_; refine yf ?_; refine yf ?_; refine yf ?_; refine yf ?_; refine yf ?_; refine aq ?_; refine yf ?_; refine yf ?_; refine yf ?_; refine yf ?_; refine yf ?_; refine yf ?_; refine yf ?_; refine yf ?_; refine yf ?_; refine yf ?_; refine yf ?_; refine aq ?_; refine yj ?_; refine wn ?_; refine wf ?_; refine wq ?_; refine wn ?_; refine wf ?_; refine wq ?_
      exact fin
  | succ m ih =>
    intro j i h most S h1 h2 h3 h4
    refine Ev.loop j (ll := fun n m => s74a4l (shD n) n m (.p r 0) f (.i .i64 (most : Int)) (.i .i64 (from_ : Int)) h) (bb := fun n m => s74a4b (shD n) n (s74a4l (shD n) n m) (.p r 0) f (.i .i64 (most : Int)) (.i .i64 (from_ : Int)) h) (fun _ _ => rfl) ?_
    unfold s74a4b s74a3
    refine wn ?_; refine wf ?_; refine wq ?_; refine wn ?_; refine wf ?_; refine wq ?_
    refine Ev.lenS ?_
    have fin : runN so (m + 1) (s.drop i) = 0 → Ev (fun n => bnd (pSliceS (.s s) (some (.i .i64 (from_ : Int))) (some (.i .i64 (i : Int))) h) fun v7 h7 => some (v7, h7)) (fun v h' => v = .s ((s.take (i + runN so (m + 1) (s.drop i))).drop from_) ∧ Sy I A [RS r s (i + runN so (m + 1) (s.drop i))] L h') := fun e0 => by
      rw [e0]
      exact Ev.op (cutS h1 h2 h) (Ev.ret ⟨rfl, S⟩)
    refine Ev.ilt (fun e1 => ?_) (fun e1 => ?_)
    · have e1' : i < s.length := by omega
      have hd : s.drop i = s[i] :: s.drop (i + 1) := List.drop_eq_getElem_cons e1'
      refine zt ?_; refine wm ?_; refine zt ?_; refine wn ?_; refine zt ?_; refine wf ?_; refine zt ?_; refine wq ?_; refine zt ?_; refine wm ?_; refine zt ?_
      refine Ev.isub ?_
      rw [show (i : Int) - (from_ : Int) = ((i - from_ : Nat) : Int) by omega, wrapN _ (by simp only [lim] at hs; omega)]
      refine zt ?_; refine wm ?_; refine zt ?_
      refine Ev.ilt (fun e2 => ?_) (fun e2 => ?_)
      · refine ap ?_; refine zt ?_; refine wm ?_; refine zt ?_; refine wm ?_; refine zt ?_; refine wn ?_; refine zt ?_; refine wf ?_; refine zt ?_; refine wq ?_; refine zt ?_; refine wm ?_; refine zt ?_; refine wn ?_; refine zt ?_; refine wf ?_; refine zt ?_; refine wq ?_; refine zt ?_
        refine Ev.op (idxS (c := s[i]) (by simp [e1']) _) ?_
        refine zt ?_
        refine Ev.call (C I _ _ _ _ s[i] (ILe.refl _) S (hb _ (List.getElem_mem e1'))) ?_
        rintro _ _ ⟨rfl, rfl⟩
        refine ap ?_
        cases e3 : so s[i] with
        | false =>
          refine yj ?_; refine wn ?_; refine wf ?_; refine wq ?_; refine wn ?_; refine wf ?_; refine wq ?_
          exact fin (by rw [hd]; simp [runN, e3])
        | true =>
          refine yt ?_; refine wn ?_; refine wf ?_; refine wq ?_
          refine Ev.iadd ?_
          have e4 : IntKind.i64.wrap ((i : Int) + Int.ofNat 1) = ((i + 1 : Nat) : Int) := by
            rw [show (i : Int) + Int.ofNat 1 = ((i + 1 : Nat) : Int) by simp]
            exact wrapN _ (by simp only [lim] at hs; omega)
          rw [e4]
          refine wn ?_; refine wf ?_; refine wv fun _ _ => ?_
          have := ih (j + 1) (i + 1) _ most (by assumption) (by omega) (by omega) (by omega) h4
          have e5 : i + 1 + runN so m (s.drop (i + 1)) = i + runN so (m + 1) (s.drop i) := by
            rw [hd]
            simp [runN, e3]
            omega
          rw [e5] at this
          exact this
      · omega
    · refine yf ?_; refine yf ?_; refine yf ?_; refine yf ?_; refine yf ?_; refine yf ?_; refine yf ?_; refine yf ?_; refine aq ?_; refine yf ?_; refine yf ?_; refine yf ?_; refine yf ?_; refine yf ?_; refine yf ?_; refine yf ?_; refine yf ?_; refine yf ?_; refine yf ?_; refine yf ?_; refine aq ?_; refine yj ?_; refine wn ?_; refine wf ?_; refine wq ?_; refine wn ?_; refine wf ?_; refine wq ?_
      have e1' : s.drop i = [] := List.drop_eq_nil_of_le (by omega)
      exact fin (by rw [e1']; rfl)

/-- What a run of bytes is. -/
theorem run_ok {f : DV} {so : Nat → Bool} (C : CSpec I f so) (S : Sy I A [RS r s i] L h) (hs : s.length ≤ lim) (hb : ∀ c ∈ s, c < 256) (hi : i ≤ s.length) (most : Nat) (hm : most ≤ lim) :
    Ev (fun n => shD n 74 [.p r 0, f, .i .i64 (most : Int)] h) (fun v h' => v = .s ((s.drop i).take (runN so most (s.drop i))) ∧ Sy I A [RS r s (i + runN so most (s.drop i))] L h') := by
  refine Ev.enter (fun n => enter74 n _ _ _ h) ?_
  unfold s74 s74a1 s74a2 s74a4
  refine wn ?_; refine wf ?_; refine wq ?_
  refine (run_loop C hs hb i most 0 i h most S (Nat.le_refl _) hi (by omega) hm).mono ?_
  rintro v h' ⟨rfl, S'⟩
  refine ⟨?_, S'⟩
  rw [List.drop_take, Nat.add_sub_cancel_left]

end
end Go.Dd

/- Dd, part T11: the program's lexer: names, numbers, texts, symbols. -/
set_option linter.unusedVariables false
set_option linter.unusedSimpArgs false
set_option maxRecDepth 100000
namespace Go.Dd
open Go.Proofs

theorem runN_tw (so : Nat → Bool) : ∀ (u : List Nat) (m : Nat), u.length ≤ m → runN so m u = (u.takeWhile so).length
  | [], 0, _ => rfl
  | [], _ + 1, _ => rfl
  | c :: u, 0, h => by simp at h
  | c :: u, m + 1, h => by
    have := runN_tw so u m (by simpa using h)
    simp only [runN, this]
    cases e : so c <;> simp [e]

theorem take_tw (so : Nat → Bool) : ∀ (u : List Nat), u.take (u.takeWhile so).length = u.takeWhile so
  | [] => rfl
  | c :: u => by
    have := take_tw so u
    cases e : so c <;> simp [e, this]

theorem tw_le (so : Nat → Bool) : ∀ (u : List Nat), (u.takeWhile so).length ≤ u.length
  | [] => Nat.le_refl _
  | c :: u => by
    have := tw_le so u
    cases e : so c <;> simp [e]
    omega

theorem tw_all (so : Nat → Bool) : ∀ (u : List Nat) (c : Nat), c ∈ u.takeWhile so → so c = true
  | [], c, h => by simp at h
  | d :: u, c, h => by
    cases e : so d with
    | false => simp [e] at h
    | true =>
      simp [e] at h
      rcases h with rfl | h
      · exact e
      · exact tw_all so u c h

/-! ### What it says: of the bytes from here on -/
def nx (u : List Nat) (k : Nat) : Nat := u.getD k 0
def nameM (u : List Nat) : List Nat × Int × Nat := if 24 < (u.takeWhile nameB).length then ([], 12, (u.takeWhile nameB).length) else (u.takeWhile nameB, 0, (u.takeWhile nameB).length)
def colonM (u : List Nat) : Bool := decide (nx u 0 = 58) && !decide (nx u 1 = 61)
def numGo : Int → List Nat → Int × Int
  | n, [] => (n, 0)
  | n, c :: w => if 115292150460684697 < n then (0, 2) else if 1152921504606846976 < n * 10 + ((c : Int) - 48) then (0, 2) else numGo (n * 10 + ((c : Int) - 48)) w
def numberM (u : List Nat) : Int × Int × Nat := ((numGo 0 (u.takeWhile digitB)).1, (numGo 0 (u.takeWhile digitB)).2, (u.takeWhile digitB).length)
def textM : Nat → List Nat → List Nat → Option (List Nat × Int × Nat)
  | 0, _, _ => none
  | f + 1, out, u =>
    if (u.takeWhile textB).length = u.length then some ([], 11, u.length)
    else if nx u ((u.takeWhile textB).length + 1) = 39 then
      (textM f (out ++ u.takeWhile textB ++ [39]) (u.drop ((u.takeWhile textB).length + 2))).bind fun r => some (r.1, r.2.1, r.2.2 + ((u.takeWhile textB).length + 2))
    else some (out ++ u.takeWhile textB, 0, (u.takeWhile textB).length + 1)
def signs : List Nat := [43, 45, 42, 47, 60, 62, 61, 126, 44, 64, 38, 37]
def marks : List Nat := [94, 46, 59, 40, 41, 91, 93, 124]
def blanks : List Nat := [9, 10, 13, 32]
def symL : Nat → List Nat → List Nat → Option (List Nat × Int × Nat)
  | 0, _, _ => none
  | f + 1, out, u =>
    if letterB (nx u 0) then
      if colonM (u.drop (nameM u).2.2) then
        if (nameM u).2.1 = 0 then (symL f (out ++ ((nameM u).1 ++ [58])) (u.drop ((nameM u).2.2 + 1))).bind fun r => some (r.1, r.2.1, r.2.2 + ((nameM u).2.2 + 1))
        else some ([], (nameM u).2.1, (nameM u).2.2 + 1)
      else some (out, 0, 0)
    else some (out, 0, 0)
def symbolM (f : Nat) (u : List Nat) : Option (List Nat × Int × Nat) :=
  if runN (inB signs) 2 u = 0 then
    if letterB (nx u 0) then
      if (nameM u).2.1 = 0 then
        if colonM (u.drop (nameM u).2.2) then (symL f ((nameM u).1 ++ [58]) (u.drop ((nameM u).2.2 + 1))).bind fun r => some (r.1, r.2.1, r.2.2 + ((nameM u).2.2 + 1))
        else some ((nameM u).1, 0, (nameM u).2.2)
      else some ((nameM u).1, (nameM u).2.1, (nameM u).2.2)
    else some ([], 10, 0)
  else some (u.take (runN (inB signs) 2 u), 0, runN (inB signs) 2 u)

theorem nx_drop (s : List Nat) (i k : Nat) : nextB s (i + k) = nx (s.drop i) k := by simp [nextB, nx, List.getD, List.getElem?_drop]

theorem nameM_le (u : List Nat) : (nameM u).2.2 ≤ u.length := by
  unfold nameM
  have := tw_le nameB u
  split <;> exact this
section
variable {I : Im} {A L : Ls} {h : Hp} {r : Pos} {s : List Nat} {i : Nat}

theorem nm_ok (S : Sy I A [RS r s i] L h) (hs : s.length ≤ lim) (hb : ∀ c ∈ s, c < 256) (hi : i ≤ s.length) :
    Ev (fun n => shD n 108 [.p r 0] h) (fun v h' => v = .t [.s (nameM (s.drop i)).1, .i .i64 (nameM (s.drop i)).2.1] ∧ Sy I A [RS r s (i + (nameM (s.drop i)).2.2)] L h') := by
  refine Ev.enter (fun n => enter108 n _ h) ?_
  unfold s108
  refine wn ?_; refine wf ?_; refine wq ?_
  refine Ev.lenS ?_
  refine Ev.call (run_ok (name_c I) S hs hb hi s.length hs) ?_
  rintro _ h1 ⟨rfl, S1⟩
  have e0 : runN nameB s.length (s.drop i) = ((s.drop i).takeWhile nameB).length := runN_tw _ _ _ (by simp)
  rw [e0] at S1 ⊢
  rw [take_tw]
  refine Ev.lenS ?_
  unfold nameM
  refine Ev.igt (fun e1 => ?_) (fun e1 => ?_)
  · refine yt ?_
    have e2 : 24 < ((s.drop i).takeWhile nameB).length := by simp at e1; omega
    rw [if_pos e2]
    exact Ev.ret ⟨rfl, S1⟩
  · refine yj ?_
    have e2 : ¬ 24 < ((s.drop i).takeWhile nameB).length := by simp at e1; omega
    rw [if_neg e2]
    exact Ev.ret ⟨rfl, S1⟩

theorem addN {i : Nat} (k : Nat) (hs : i + k ≤ 1000000000000) : IntKind.i64.wrap ((i : Int) + Int.ofNat k) = ((i + k : Nat) : Int) := by
  rw [show (i : Int) + Int.ofNat k = ((i + k : Nat) : Int) by simp]
  exact wrapN _ hs

theorem col_ok (S : Sy I A [RS r s i] L h) (hs : s.length ≤ lim) (hi : i ≤ s.length) :
    Ev (fun n => shD n 109 [.p r 0] h) (fun v h' => v = .b (colonM (s.drop i)) ∧ Sy I A [RS r s (if colonM (s.drop i) then i + 1 else i)] L h') := by
  refine Ev.enter (fun n => enter109 n _ h) ?_
  unfold s109
  refine Ev.call (byte_ok S hs hi 0 (by omega)) ?_
  rintro _ _ ⟨rfl, rfl⟩
  rw [nx_drop]
  unfold colonM
  refine Ev.ine (fun e1 => ?_) (fun e1 => ?_)
  · refine yg ?_; refine yg ?_; refine yg ?_; refine ap ?_; refine yt ?_
    have e2 : ¬ nx (s.drop i) 0 = 58 := by simp at e1; omega
    simp only [e2, decide_false, Bool.false_and, Bool.false_eq_true, if_false]
    exact Ev.ret ⟨rfl, S⟩
  · refine zf ?_; refine wm ?_; refine zf ?_
    have e2 : nx (s.drop i) 0 = 58 := by simp at e1; omega
    refine Ev.call (byte_ok S hs hi 1 (by omega)) ?_
    rintro _ _ ⟨rfl, rfl⟩
    rw [nx_drop]
    refine zf ?_
    refine Ev.ieq (fun e3 => ?_) (fun e3 => ?_)
    · refine aq ?_; refine yt ?_
      have e4 : nx (s.drop i) 1 = 61 := by simp at e3; omega
      simp only [e2, e4, decide_true, Bool.not_true, Bool.and_false, Bool.false_eq_true, if_false]
      exact Ev.ret ⟨rfl, S⟩
    · refine aq ?_; refine yj ?_; refine wn ?_; refine wf ?_; refine wq ?_
      have e4 : ¬ nx (s.drop i) 1 = 61 := by simp at e3; omega
      simp only [e2, e4, decide_true, decide_false, Bool.not_false, Bool.and_true, if_true]
      refine Ev.iadd ?_
      rw [addN 1 (by simp only [lim] at hs; omega)]
      refine wn ?_; refine wf ?_; refine wv fun _ _ => ?_
      exact Ev.ret ⟨rfl, by assumption⟩

theorem colon_lt {u : List Nat} (h : colonM u = true) : 1 ≤ u.length := by
  unfold colonM at h
  cases u with
  | nil => simp [nx] at h
  | cons => simp

end

/-! ### Numbers -/
theorem nextIt {I : Im} {A Q L L' : Ls} {h : Hp} {k : Nat → DV → Hp → Res} {P : DV → Hp → Prop} {b : Pos} {l : List Nat} {pos c : Nat} (S : Sy I A Q L h) (r : Rpl b (some (.it l pos)) (some (.it l (pos + 1))) L L') (e : l[pos]? = some c) (hc : c < 128)
    (H : ∀ h', Sy I A Q L' h' → Ev (fun m => k m (.t [.b true, .i .i64 (pos : Int), .i .i32 (c : Int)]) h') P) : Ev (fun m => bnd (pNext (.p b 0) h) (k m)) P := by
  refine Ev.op (v := .t [.b true, .i .i64 (pos : Int), .i .i32 (c : Int)]) (h := ⟨h.next, Tr.set (.it l (pos + 1)) b h.bl⟩) ?_ (H _ (S.setL r rfl (fun c => Tr.get_set _ _ _ _)))
  simp [pNext, S.memL r.at.1, e, hc]
theorem endIt {I : Im} {A Q L : Ls} {h : Hp} {k : Nat → DV → Hp → Res} {P : DV → Hp → Prop} {b : Pos} {l : List Nat} {pos : Nat} (S : Sy I A Q L h) (r : (b, some (.it l pos)) ∈ L) (e : l[pos]? = none)
    (H : Ev (fun m => k m (.t [.b false]) h) P) : Ev (fun m => bnd (pNext (.p b 0) h) (k m)) P := by
  refine Ev.op (v := .t [.b false]) (h := h) ?_ H
  simp [pNext, S.memL r, e]

theorem enter111 (n : Nat) (x : DV) (h : Hp) : shD (n + 1) 111 [x] h = s111 (shD n) n x h := by kernel_rfl
theorem enter112 (n : Nat) (x : DV) (h : Hp) : shD (n + 1) 112 [x] h = s112 (shD n) n x h := by kernel_rfl
theorem enter113 (n : Nat) (x : DV) (h : Hp) : shD (n + 1) 113 [x] h = s113 (shD n) n x h := by kernel_rfl
theorem enter76 (n : Nat) (x : DV) (h : Hp) : shD (n + 1) 76 [x] h = s76 (shD n) n x h := by kernel_rfl
theorem enter48 (n : Nat) (x : DV) (h : Hp) : shD (n + 1) 48 [x] h = s48 (shD n) n x h := by kernel_rfl

theorem num_loop {I : Im} {A Q L : Ls} {b : Pos} {l : List Nat} (hd : ∀ c ∈ l, digitB c = true) : ∀ (w : List Nat) (j pos : Nat) (h : Hp) (x : Int), Sy I A Q ((b, some (.it l pos)) :: L) h → l.drop pos = w → 0 ≤ x → x ≤ 1152921504606846976 →
    Ev (fun n => s111a5l (shD n) n (n - j) (.i .i64 x) (.p b 0) h) (fun v h' => v = .t [.i .i64 (numGo x w).1, .i .i64 (numGo x w).2] ∧ Sy I A Q L h') := by
  intro w
  induction w with
  | nil =>
    intro j pos h x S hw h0 h1
    refine Ev.loop j (ll := fun n m => s111a5l (shD n) n m (.i .i64 x) (.p b 0) h) (bb := fun n m => s111a5b (shD n) n (s111a5l (shD n) n m) (.i .i64 x) (.p b 0) h) (fun _ _ => rfl) ?_
    unfold s111a5b s111a3
    refine endIt S (List.Mem.head _) (List.getElem?_eq_none (by simpa using hw)) ?_
    refine wx ?_; refine yj ?_
    exact Ev.ret ⟨rfl, S.dropL⟩
  | cons c w ih =>
    intro j pos h x S hw h0 h1
    have hg : l[pos]? = some c := by
      have : (l.drop pos)[0]? = some c := by rw [hw]; rfl
      simpa using this
    have hw' : l.drop (pos + 1) = w := by
      rw [← List.drop_drop, hw]; rfl
    have hdc := hd c (List.mem_of_getElem? hg)
    simp [digitB] at hdc
    refine Ev.loop j (ll := fun n m => s111a5l (shD n) n m (.i .i64 x) (.p b 0) h) (bb := fun n m => s111a5b (shD n) n (s111a5l (shD n) n m) (.i .i64 x) (.p b 0) h) (fun _ _ => rfl) ?_
    unfold s111a5b
    refine nextIt S (Rpl.head _) hg (by omega) ?_
    intro h2 S2
    refine wx ?_; refine yt ?_; refine wx ?_
    unfold numGo
    refine Ev.igt (fun e1 => ?_) (fun e1 => ?_)
    · refine yt ?_
      rw [if_pos (show (115292150460684697 : Int) < x from e1)]
      exact Ev.ret ⟨rfl, S2.dropL⟩
    · rw [if_neg (show ¬ (115292150460684697 : Int) < x from e1)]
      have e1' : x ≤ 115292150460684697 := by
        have : ¬ (115292150460684697 : Int) < x := e1
        omega
      refine yj ?_
      refine Ev.imul ?_
      refine Ev.isub ?_
      have a1 : IntKind.i64.wrap (x * Int.ofNat 10) = x * 10 := wrap64s _ (by show -9223372036854775808 ≤ x * 10; omega) (by show x * 10 ≤ _; omega)
      have a2 : IntKind.i32.wrap ((c : Int) - Int.ofNat 48) = (c : Int) - 48 := by
        show IntKind.i32.wrap ((c : Int) - 48) = _
        unfold IntKind.wrap
        simp [IntKind.bits, IntKind.signed, IntKind.min, IntKind.max]
        omega
      have a3 : ∀ h, pConvI .i64 (.i .i32 ((c : Int) - 48)) h = some (.i .i64 ((c : Int) - 48), h) := fun h => by
        show some (DV.i .i64 (IntKind.i64.wrap ((c : Int) - 48)), h) = _
        rw [wrap64s _ (by omega) (by omega)]
      rw [a1, a2]
      refine Ev.op (a3 _) ?_
      refine Ev.iadd ?_
      rw [wrap64s _ (by omega) (by omega)]
      refine Ev.igt (fun e2 => ?_) (fun e2 => ?_)
      · refine yt ?_
        rw [if_pos (show (1152921504606846976 : Int) < x * 10 + ((c : Int) - 48) from e2)]
        exact Ev.ret ⟨rfl, S2.dropL⟩
      · refine yj ?_
        rw [if_neg (show ¬ (1152921504606846976 : Int) < x * 10 + ((c : Int) - 48) from e2)]
        have e2' : ¬ (1152921504606846976 : Int) < x * 10 + ((c : Int) - 48) := e2
        exact ih (j + 1) (pos + 1) h2 _ S2 hw' (by omega) (by omega)

section
variable {I : Im} {A L : Ls} {h : Hp} {r : Pos} {s : List Nat} {i : Nat}

theorem num_ok (S : Sy I A [RS r s i] L h) (hs : s.length ≤ lim) (hb : ∀ c ∈ s, c < 256) (hi : i ≤ s.length) :
    Ev (fun n => shD n 111 [.p r 0] h) (fun v h' => v = .t [.i .i64 (numberM (s.drop i)).1, .i .i64 (numberM (s.drop i)).2.1] ∧ Sy I A [RS r s (i + (numberM (s.drop i)).2.2)] L h') := by
  refine Ev.enter (fun n => enter111 n _ h) ?_
  unfold s111 s111a1 s111a2 s111a4 s111a5
  refine wn ?_; refine wf ?_; refine wq ?_
  refine Ev.lenS ?_
  refine Ev.call (run_ok (digit_c I) S hs hb hi s.length hs) ?_
  rintro _ h1 ⟨rfl, S1⟩
  have e0 : runN digitB s.length (s.drop i) = ((s.drop i).takeWhile digitB).length := runN_tw _ _ _ (by simp)
  rw [e0] at S1 ⊢
  rw [take_tw]
  refine Ev.op (v := .p h1.next 0) (h := nw (.it ((s.drop i).takeWhile digitB) 0) h1) rfl ?_
  have S2 := S1.new (.it ((s.drop i).takeWhile digitB) 0)
  exact num_loop (fun c hc => tw_all digitB _ c hc) _ 0 0 _ 0 S2 rfl (by omega) (by omega)

theorem text_loop (hs : s.length ≤ lim) (hb : ∀ c ∈ s, c < 256) : ∀ (f j i : Nat) (h : Hp) (out : List Nat) (res : List Nat × Int × Nat), Sy I A [RS r s i] L h → i ≤ s.length → out.length ≤ 3 * i → textM f out (s.drop i) = some res →
    Ev (fun n => s112a3l (shD n) n (n - j) (.p r 0) (.s out) h) (fun v h' => v = .t [.s res.1, .i .i64 res.2.1] ∧ Sy I A [RS r s (i + res.2.2)] L h') := by
  intro f
  induction f with
  | zero => intro j i h out res S hi ho hm; cases hm
  | succ f ih =>
    intro j i h out res S hi ho hm
    unfold textM at hm
    have hlen := tw_le textB (s.drop i)
    have hd : (s.drop i).length = s.length - i := by simp
    refine Ev.loop j (ll := fun n m => s112a3l (shD n) n m (.p r 0) (.s out) h) (bb := fun n m => s112a3b (shD n) n (s112a3l (shD n) n m) (.p r 0) (.s out) h) (fun _ _ => rfl) ?_
    unfold s112a3b
    refine wn ?_; refine wf ?_; refine wq ?_
    refine Ev.lenS ?_
    refine Ev.call (run_ok (text_c I) S hs hb hi s.length hs) ?_
    rintro _ h1 ⟨rfl, S1⟩
    have e0 : runN textB s.length (s.drop i) = ((s.drop i).takeWhile textB).length := runN_tw _ _ _ (by simp)
    rw [e0] at S1 ⊢
    rw [take_tw]
    generalize hw : (s.drop i).takeWhile textB = w at hm S1 hlen ⊢
    simp only [lim] at hs
    refine Ev.sadd (by omega) ?_
    refine wn ?_; refine wf ?_; refine wq ?_; refine wn ?_; refine wf ?_; refine wq ?_
    refine Ev.lenS ?_
    refine Ev.ige (fun e1 => ?_) (fun e1 => ?_)
    · refine yt ?_
      have e2 : w.length = (s.drop i).length := by omega
      rw [if_pos e2] at hm
      cases hm
      exact Ev.ret ⟨rfl, by rw [← e2]; exact S1⟩
    · have e2 : ¬ w.length = (s.drop i).length := by omega
      rw [if_neg e2] at hm
      refine yj ?_; refine wn ?_; refine wf ?_; refine wq ?_
      refine Ev.iadd ?_
      rw [addN 1 (by omega)]
      refine wn ?_; refine wf ?_; refine wv fun _ _ => ?_
      rename_i h2 S2
      refine Ev.call (byte_ok S2 hs (by omega) 0 (by omega)) ?_
      rintro _ _ ⟨rfl, rfl⟩
      have e3 : nextB s (i + w.length + 1 + 0) = nx (s.drop i) (w.length + 1) := by rw [show i + w.length + 1 + 0 = i + (w.length + 1) by omega, nx_drop]
      rw [e3]
      refine Ev.ine (fun e4 => ?_) (fun e4 => ?_)
      · refine yt ?_
        rw [if_neg (show ¬ nx (s.drop i) (w.length + 1) = 39 by simp at e4; omega)] at hm
        cases hm
        exact Ev.ret ⟨rfl, S2⟩
      · have e5 : nx (s.drop i) (w.length + 1) = 39 := by simp at e4; omega
        rw [if_pos e5] at hm
        obtain ⟨res', hr, hm⟩ := Option.bind_eq_some_iff.1 hm
        simp only [Option.some.injEq] at hm
        subst hm
        have e6 : i + w.length + 2 ≤ s.length := by
          have : w.length + 1 < (s.drop i).length := by
            apply Decidable.byContradiction
            intro hn
            rw [nx, List.getD, List.getElem?_eq_none (by omega)] at e5
            cases e5
          omega
        refine yj ?_
        refine Ev.sadd (by simp; omega) ?_
        refine wn ?_; refine wf ?_; refine wq ?_
        refine Ev.iadd ?_
        rw [addN 1 (by omega)]
        refine wn ?_; refine wf ?_; refine wv fun _ _ => ?_
        refine (ih (j + 1) (i + w.length + 1 + 1) _ (out ++ w ++ [39]) res' (by assumption) (by omega) (by simp; omega) ?_).mono ?_
        · rw [← hr, List.drop_drop]
          congr 2
        · rintro v h' ⟨rfl, S'⟩
          refine ⟨rfl, ?_⟩
          have e7 : i + w.length + 1 + 1 + res'.2.2 = i + (res'.2.2 + (w.length + 2)) := by omega
          rw [← e7]; exact S'

theorem text_ok (S : Sy I A [RS r s i] L h) (hs : s.length ≤ lim) (hb : ∀ c ∈ s, c < 256) (hi : i ≤ s.length) (f : Nat) (res : List Nat × Int × Nat) (hm : textM f [] (s.drop i) = some res) :
    Ev (fun n => shD n 112 [.p r 0] h) (fun v h' => v = .t [.s res.1, .i .i64 res.2.1] ∧ Sy I A [RS r s (i + res.2.2)] L h') := by
  refine Ev.enter (fun n => enter112 n _ h) ?_
  unfold s112 s112a1 s112a2 s112a3
  exact text_loop hs hb f 0 i h [] res S hi (by simp) hm

end
end Go.Dd

/- Dd, part T12: the program's lexer: symbols, tokens, all tokens of a source. -/
set_option linter.unusedVariables false
set_option linter.unusedSimpArgs false
set_option maxRecDepth 100000
namespace Go.Dd
open Go.Proofs

/-- A token from here on: kind, text, number; the error; how long. -/
def tokenM (f : Nat) (u : List Nat) : Option (Int × List Nat × Int × Int × Nat) :=
  if letterB (nx u 0) then
    if (nameM u).2.1 = 0 then
      if colonM (u.drop (nameM u).2.2) then some (2, (nameM u).1 ++ [58], 0, 0, (nameM u).2.2 + 1) else some (1, (nameM u).1, 0, 0, (nameM u).2.2)
    else some (1, (nameM u).1, 0, (nameM u).2.1, (nameM u).2.2)
  else if digitB (nx u 0) then some (4, [], (numberM u).1, (numberM u).2.1, (numberM u).2.2)
  else if nx u 0 = 39 then (textM f [] (u.drop 1)).bind fun r => some (5, r.1, 0, r.2.1, r.2.2 + 1)
  else if nx u 0 = 35 then
    if nx u 1 = 40 then some (7, [], 0, 0, 2) else (symbolM f (u.drop 1)).bind fun r => some (6, r.1, 0, r.2.1, r.2.2 + 1)
  else if nx u 0 = 58 ∧ nx u 1 = 61 then some (9, [], 0, 0, 2)
  else if nx u 0 = 58 ∧ letterB (nx u 1) then some (8, (nameM (u.drop 1)).1, 0, (nameM (u.drop 1)).2.1, (nameM (u.drop 1)).2.2 + 1)
  else if inB signs (nx u 0) then some (3, u.take (runN (inB signs) 2 u), 0, 0, runN (inB signs) 2 u)
  else if inB marks (nx u 0) then some (10, u.take (runN (inB marks) 1 u), 0, 0, runN (inB marks) 1 u)
  else some (0, [], 0, 10, 0)

/-- All tokens: them, or a place and an error. -/
def toksM (g : Nat) (s : List Nat) : Nat → Nat → List Tok → Option (List Tok × Int × Int)
  | 0, _, _ => none
  | f + 1, i, out =>
    if s.length ≤ i + ((s.drop i).takeWhile (inB blanks)).length then some (out ++ [⟨0, [], 0, (s.length : Int)⟩], 0, 0)
    else if nx s (i + ((s.drop i).takeWhile (inB blanks)).length) = 34 then
      if idxGo 34 (s.drop (i + ((s.drop i).takeWhile (inB blanks)).length + 1)) 0 < 0 then some ([], ((i + ((s.drop i).takeWhile (inB blanks)).length : Nat) : Int), 11)
      else toksM g s f (i + ((s.drop i).takeWhile (inB blanks)).length + (idxGo 34 (s.drop (i + ((s.drop i).takeWhile (inB blanks)).length + 1)) 0).toNat + 2) out
    else (tokenM g (s.drop (i + ((s.drop i).takeWhile (inB blanks)).length))).bind fun r =>
      if r.2.2.2.1 = 0 then if (s.drop (i + ((s.drop i).takeWhile (inB blanks)).length)).length < r.2.2.2.2 then none else toksM g s f (i + ((s.drop i).takeWhile (inB blanks)).length + r.2.2.2.2) (out ++ [⟨r.1, r.2.1, r.2.2.1, ((i + ((s.drop i).takeWhile (inB blanks)).length : Nat) : Int)⟩])
      else some ([], ((i + ((s.drop i).takeWhile (inB blanks)).length : Nat) : Int), r.2.2.2.1)

def lexM (g f : Nat) (s : List Nat) : Option (List Tok × Int × Int) := if 2000 < s.length then some ([], 0, 12) else toksM g s f 0 []

theorem nameM_fit (u : List Nat) : (nameM u).1.length ≤ (nameM u).2.2 := by
  unfold nameM
  split <;> simp

section
variable {I : Im} {A L : Ls} {h : Hp} {r : Pos} {s : List Nat} {i : Nat}

theorem sym_loop (hs : s.length ≤ lim) (hb : ∀ c ∈ s, c < 256) : ∀ (f j i : Nat) (h : Hp) (out : List Nat) (res : List Nat × Int × Nat), Sy I A [RS r s i] L h → i ≤ s.length → out.length ≤ 3 * i → symL f out (s.drop i) = some res →
    Ev (fun n => s113a8l (shD n) n (n - j) (.p r 0) (.s out) h) (fun v h' => v = .t [.s res.1, .i .i64 res.2.1] ∧ Sy I A [RS r s (i + res.2.2)] L h') := by
  intro f
  induction f with
  | zero => intro j i h out res S hi ho hm; cases hm
  | succ f ih =>
    intro j i h out res S hi ho hm
    unfold symL at hm
    refine Ev.loop j (ll := fun n m => s113a8l (shD n) n m (.p r 0) (.s out) h) (bb := fun n m => s113a8b (shD n) n (s113a8l (shD n) n m) (.p r 0) (.s out) h) (fun _ _ => rfl) ?_
    unfold s113a8b s113a7
    refine Ev.call (byte_ok S hs hi 0 (by omega)) ?_
    rintro _ _ ⟨rfl, rfl⟩
    rw [nx_drop]
    refine Ev.call (letter_ok _ _) ?_
    rintro _ _ ⟨rfl, rfl⟩
    cases e1 : letterB (nx (s.drop i) 0) with
    | false =>
      refine yj ?_
      rw [if_neg (by simp [e1])] at hm
      cases hm
      exact Ev.ret ⟨rfl, S⟩
    | true =>
      rw [if_pos e1] at hm
      refine yt ?_; refine wn ?_; refine wf ?_; refine wq ?_
      refine Ev.call (nm_ok S hs hb hi) ?_
      rintro _ _ ⟨rfl, S1⟩
      have hn := nameM_le (s.drop i)
      have hn1 := nameM_fit (s.drop i)
      have hd : (s.drop i).length = s.length - i := by simp
      have hdd : s.drop (i + (nameM (s.drop i)).2.2) = (s.drop i).drop (nameM (s.drop i)).2.2 := by rw [List.drop_drop]
      generalize hN : nameM (s.drop i) = N at hm S1 hn hn1 hdd ⊢
      refine wx ?_; refine wx ?_
      refine Ev.call (col_ok S1 hs (by omega)) ?_
      rintro _ _ ⟨rfl, S2⟩
      rw [hdd] at S2 ⊢
      cases e2 : colonM ((s.drop i).drop N.2.2) with
      | false =>
        rw [e2] at hm S2
        simp only [Bool.false_eq_true, if_false, Option.some.injEq] at hm
        subst hm
        refine ao ?_; refine yt ?_; refine wn ?_; refine wf ?_; refine wv fun _ _ => ?_
        exact Ev.ret ⟨rfl, by assumption⟩
      | true =>
        rw [if_pos e2] at hm
        rw [e2, if_pos rfl] at S2
        have hc := colon_lt e2
        have hc2 : i + N.2.2 + 1 ≤ s.length := by simp at hc; omega
        refine an ?_; refine yj ?_
        refine Ev.ine (fun e3 => ?_) (fun e3 => ?_)
        · rw [if_neg (show ¬ N.2.1 = 0 from e3)] at hm
          cases hm
          refine yt ?_
          exact Ev.ret ⟨rfl, S2⟩
        · rw [if_pos (show N.2.1 = 0 from e3)] at hm
          obtain ⟨res', hr, hm⟩ := Option.bind_eq_some_iff.1 hm
          simp only [Option.some.injEq] at hm
          subst hm
          simp only [lim] at hs
          refine yj ?_
          refine Ev.sadd (by simp; omega) ?_
          refine Ev.sadd (by simp; omega) ?_
          refine (ih (j + 1) (i + N.2.2 + 1) _ (out ++ (N.1 ++ [58])) res' S2 hc2 (by simp; omega) ?_).mono ?_
          · rw [← hr, List.drop_drop, Nat.add_assoc]
          · rintro v h' ⟨rfl, S'⟩
            refine ⟨rfl, ?_⟩
            have e7 : i + N.2.2 + 1 + res'.2.2 = i + (res'.2.2 + (N.2.2 + 1)) := by omega
            rw [← e7]; exact S'

theorem symbol_ok (S : Sy I A [RS r s i] L h) (hs : s.length ≤ lim) (hb : ∀ c ∈ s, c < 256) (hi : i ≤ s.length) (f : Nat) (res : List Nat × Int × Nat) (hm : symbolM f (s.drop i) = some res) :
    Ev (fun n => shD n 113 [.p r 0] h) (fun v h' => v = .t [.s res.1, .i .i64 res.2.1] ∧ ∃ J, ILe I J ∧ Sy J A [RS r s (i + res.2.2)] L h') := by
  refine Ev.enter (fun n => enter113 n _ h) ?_
  unfold symbolM at hm
  unfold s113 s113a1
  refine Ev.call (in_ok S signs) ?_
  rintro cl h1 ⟨J, gJ, S1, C1⟩
  refine Ev.call (run_ok C1 S1 hs hb hi 2 (by simp [lim])) ?_
  rintro _ h2 ⟨rfl, S2⟩
  have hd : (s.drop i).length = s.length - i := by simp
  have hr := runN_le (inB signs) 2 (s.drop i)
  refine Ev.sne (fun e1 => ?_) (fun e1 => ?_)
  · refine yt ?_
    have e2 : ¬ runN (inB signs) 2 (s.drop i) = 0 := fun e => e1 (by rw [e]; rfl)
    rw [if_neg e2] at hm
    cases hm
    exact Ev.ret ⟨rfl, J, gJ, S2⟩
  · have e2 : runN (inB signs) 2 (s.drop i) = 0 := by
      have := congrArg List.length e1
      rw [List.length_take] at this
      simp only [List.length_nil] at this
      omega
    rw [if_pos e2] at hm
    rw [e2, Nat.add_zero] at S2
    refine yj ?_
    unfold s113a2
    refine Ev.call (byte_ok S2 hs hi 0 (by omega)) ?_
    rintro _ _ ⟨rfl, rfl⟩
    rw [nx_drop]
    refine Ev.call (letter_ok _ _) ?_
    rintro _ _ ⟨rfl, rfl⟩
    cases e3 : letterB (nx (s.drop i) 0) with
    | false =>
      refine ao ?_; refine yt ?_
      rw [if_neg (by simp [e3])] at hm
      cases hm
      exact Ev.ret ⟨rfl, J, gJ, S2⟩
    | true =>
      rw [if_pos e3] at hm
      refine an ?_; refine yj ?_
      unfold s113a3
      refine Ev.call (nm_ok S2 hs hb hi) ?_
      rintro _ _ ⟨rfl, S3⟩
      have hn := nameM_le (s.drop i)
      have hn1 := nameM_fit (s.drop i)
      have hdd : s.drop (i + (nameM (s.drop i)).2.2) = (s.drop i).drop (nameM (s.drop i)).2.2 := by rw [List.drop_drop]
      generalize hN : nameM (s.drop i) = N at hm S3 hn hn1 hdd ⊢
      refine wx ?_; refine wx ?_
      unfold s113a4
      refine Ev.ine (fun e4 => ?_) (fun e4 => ?_)
      · rw [if_neg (show ¬ N.2.1 = 0 from e4)] at hm
        cases hm
        refine yg ?_; refine yg ?_; refine yg ?_; refine ap ?_; refine yt ?_
        exact Ev.ret ⟨rfl, J, gJ, S3⟩
      · rw [if_pos (show N.2.1 = 0 from e4)] at hm
        refine zf ?_; refine wm ?_; refine zf ?_
        refine Ev.call (col_ok S3 hs (by omega)) ?_
        rintro _ _ ⟨rfl, S4⟩
        rw [hdd] at S4 ⊢
        cases e5 : colonM ((s.drop i).drop N.2.2) with
        | false =>
          rw [e5] at hm S4
          simp only [Bool.false_eq_true, if_false, Option.some.injEq] at hm
          subst hm
          refine zf ?_; refine ao ?_; refine aq ?_; refine yt ?_
          refine Ev.ret ⟨?_, J, gJ, S4⟩
          rw [show N.2.1 = 0 from e4]
        | true =>
          rw [e5] at hm S4
          simp only [if_true] at hm
          rw [if_pos rfl] at S4
          obtain ⟨res', hr', hm⟩ := Option.bind_eq_some_iff.1 hm
          simp only [Option.some.injEq] at hm
          subst hm
          have hc := colon_lt e5
          have hc2 : i + N.2.2 + 1 ≤ s.length := by simp at hc; omega
          have hs' := hs
          simp only [lim] at hs
          refine zf ?_; refine an ?_; refine aq ?_; refine yj ?_
          unfold s113a5 s113a6 s113a8
          refine Ev.sadd (by simp; omega) ?_
          refine (sym_loop hs' hb f 0 (i + N.2.2 + 1) _ (N.1 ++ [58]) res' S4 hc2 (by simp; omega) ?_).mono ?_
          · rw [← hr', List.drop_drop, Nat.add_assoc]
          · rintro v h' ⟨rfl, S'⟩
            refine ⟨rfl, J, gJ, ?_⟩
            have e7 : i + N.2.2 + 1 + res'.2.2 = i + (res'.2.2 + (N.2.2 + 1)) := by omega
            rw [← e7]; exact S'

end
end Go.Dd

/- Dd, part T13: the program's lexer: a token, all tokens of a source. -/
set_option linter.unusedVariables false
set_option linter.unusedSimpArgs false
set_option maxRecDepth 100000
namespace Go.Dd
open Go.Proofs

section
variable {I : Im} {A L : Ls} {h : Hp} {r : Pos} {s : List Nat} {i : Nat}

theorem tok_ok (S : Sy I A [RS r s i] L h) (hs : s.length ≤ lim) (hb : ∀ c ∈ s, c < 256) (hi : i < s.length) (f : Nat) (res : Int × List Nat × Int × Int × Nat) (hm : tokenM f (s.drop i) = some res) :
    Ev (fun n => shD n 76 [.p r 0] h) (fun v h' => v = .t [.a (tc ⟨res.1, res.2.1, res.2.2.1, (i : Int)⟩), .i .i64 res.2.2.2.1] ∧ ∃ J, ILe I J ∧ Sy J A [RS r s (i + res.2.2.2.2)] L h') := by
  refine Ev.enter (fun n => enter76 n _ h) ?_
  unfold tokenM at hm
  unfold s76 s76a1
  refine wa fun _ _ _ => ?_; refine wn ?_; refine wf ?_; refine wq ?_; refine wd ?_; refine wa fun _ _ _ => ?_; refine wt fun _ _ => ?_
  unfold s76a2 s76a3
  rename_i h0 S0
  have hd : (s.drop i).length = s.length - i := by simp
  have hs' := hs
  simp only [lim] at hs'
  have hcd : s.drop i = s[i] :: s.drop (i + 1) := List.drop_eq_getElem_cons hi
  have hn0 : nx (s.drop i) 0 < 256 := by rw [hcd]; exact hb _ (List.getElem_mem hi)
  refine Ev.call (byte_ok S0 hs (by omega) 0 (by omega)) ?_
  rintro _ _ ⟨rfl, rfl⟩
  rw [nx_drop]
  unfold s76a4
  refine Ev.call (letter_ok _ _) ?_
  rintro _ _ ⟨rfl, rfl⟩
  cases e1 : letterB (nx (s.drop i) 0) with
  | true =>
    rw [if_pos e1] at hm
    refine yt ?_; refine wf ?_; refine wu fun _ _ => ?_
    refine Ev.call (nm_ok (by assumption) hs hb (by omega)) ?_
    rintro _ _ ⟨rfl, S1⟩
    have hn := nameM_le (s.drop i)
    have hn1 := nameM_fit (s.drop i)
    have hdd : s.drop (i + (nameM (s.drop i)).2.2) = (s.drop i).drop (nameM (s.drop i)).2.2 := by rw [List.drop_drop]
    generalize hN : nameM (s.drop i) = N at hm S1 hn hn1 hdd ⊢
    refine wx ?_; refine wx ?_; refine wf ?_; refine wu fun _ _ => ?_
    unfold s76a5
    refine Ev.ieq (fun e2 => ?_) (fun e2 => ?_)
    · rw [if_pos (show N.2.1 = 0 from e2)] at hm
      refine zt ?_; refine wm ?_; refine zt ?_
      refine Ev.call (col_ok (by assumption) hs (by omega)) ?_
      rintro _ _ ⟨rfl, S2⟩
      rw [hdd] at S2 ⊢
      cases e3 : colonM ((s.drop i).drop N.2.2) with
      | true =>
        rw [e3] at hm S2
        simp only [if_true, Option.some.injEq] at hm
        subst hm
        rw [if_pos rfl] at S2
        refine ap ?_; refine yt ?_; refine wf ?_; refine wl ?_
        refine Ev.sadd (by simp; omega) ?_
        refine wf ?_; refine wu fun _ _ => ?_; refine wf ?_; refine wu fun _ _ => ?_; refine ws ?_; refine wt fun _ _ => ?_; refine ws ?_
        refine Ev.ret ⟨?_, I, ILe.refl _, dp⟩
        rw [show N.2.1 = 0 from e2]; rfl
      | false =>
        rw [e3] at hm S2
        simp only [Bool.false_eq_true, if_false, Option.some.injEq] at hm
        subst hm
        refine ap ?_; refine yj ?_; refine ws ?_; refine wt fun _ _ => ?_; refine ws ?_
        refine Ev.ret ⟨?_, I, ILe.refl _, dp⟩
        rw [show N.2.1 = 0 from e2]; rfl
    · rw [if_neg (show ¬ N.2.1 = 0 from e2)] at hm
      cases hm
      refine yf ?_; refine yf ?_; refine aq ?_; refine yj ?_; refine ws ?_; refine wt fun _ _ => ?_; refine ws ?_
      exact Ev.ret ⟨rfl, I, ILe.refl _, dp⟩
  | false =>
  rw [if_neg (by simp [e1])] at hm
  refine yj ?_
  refine Ev.call (digit_ok _ _) ?_
  rintro _ _ ⟨rfl, rfl⟩
  cases e2 : digitB (nx (s.drop i) 0) with
  | true =>
    rw [if_pos e2] at hm
    cases hm
    refine yt ?_; refine wf ?_; refine wu fun _ _ => ?_
    refine Ev.call (num_ok (by assumption) hs hb (by omega)) ?_
    rintro _ _ ⟨rfl, S1⟩
    refine wx ?_; refine wx ?_; refine wf ?_; refine wu fun _ _ => ?_
    unfold s76a5
    refine ws ?_; refine wt fun _ _ => ?_; refine ws ?_
    exact Ev.ret ⟨rfl, I, ILe.refl _, dp⟩
  | false =>
  rw [if_neg (by simp [e2])] at hm
  refine yj ?_
  refine Ev.ieq (fun e3 => ?_) (fun e3 => ?_)
  · rw [if_pos (show nx (s.drop i) 0 = 39 by simp at e3; omega)] at hm
    obtain ⟨res', hr, hm⟩ := Option.bind_eq_some_iff.1 hm
    simp only [Option.some.injEq] at hm
    subst hm
    refine yt ?_; refine wn ?_; refine wf ?_; refine wq ?_
    refine Ev.iadd ?_
    rw [addN 1 (by omega)]
    refine wn ?_; refine wf ?_; refine wv fun _ _ => ?_; refine wf ?_; refine wu fun _ _ => ?_
    refine Ev.call (text_ok (by assumption) hs hb (by omega) f res' (by rw [← hr, List.drop_drop])) ?_
    rintro _ _ ⟨rfl, S1⟩
    refine wx ?_; refine wx ?_; refine wf ?_; refine wu fun _ _ => ?_
    unfold s76a5
    refine ws ?_; refine wt fun _ _ => ?_; refine ws ?_
    refine Ev.ret ⟨rfl, I, ILe.refl _, ?_⟩
    rw [show i + (res'.2.2 + 1) = i + 1 + res'.2.2 by omega]
    exact dp
  rw [if_neg (show ¬ nx (s.drop i) 0 = 39 by simp at e3; omega)] at hm
  refine yj ?_
  refine Ev.ieq (fun e4 => ?_) (fun e4 => ?_)
  · rw [if_pos (show nx (s.drop i) 0 = 35 by simp at e4; omega)] at hm
    refine zt ?_; refine wm ?_; refine zt ?_
    refine Ev.call (byte_ok (by assumption) hs (by omega) 1 (by omega)) ?_
    rintro _ _ ⟨rfl, rfl⟩
    rw [nx_drop]
    refine zt ?_
    refine Ev.ieq (fun e5 => ?_) (fun e5 => ?_)
    · have e5' : nx (s.drop i) 1 = 40 := by simp at e5; omega
      rw [if_pos e5'] at hm
      cases hm
      refine ap ?_; refine yt ?_; refine wn ?_; refine wf ?_; refine wq ?_
      refine Ev.iadd ?_
      rw [addN 2 (by omega)]
      refine wn ?_; refine wf ?_; refine wv fun _ _ => ?_; refine wf ?_; refine wu fun _ _ => ?_
      unfold s76a5
      refine ws ?_; refine wt fun _ _ => ?_; refine ws ?_
      exact Ev.ret ⟨rfl, I, ILe.refl _, dp⟩
    · rw [if_neg (show ¬ nx (s.drop i) 1 = 40 by simp at e5; omega)] at hm
      obtain ⟨res', hr, hm⟩ := Option.bind_eq_some_iff.1 hm
      simp only [Option.some.injEq] at hm
      subst hm
      refine ap ?_; refine yj ?_
      refine Ev.ieq (fun e6 => ?_) (fun e6 => absurd e4 e6)
      refine yt ?_; refine wn ?_; refine wf ?_; refine wq ?_
      refine Ev.iadd ?_
      rw [addN 1 (by omega)]
      refine wn ?_; refine wf ?_; refine wv fun _ _ => ?_; refine wf ?_; refine wu fun _ _ => ?_
      refine Ev.call (symbol_ok (by assumption) hs hb (by omega) f res' (by rw [← hr, List.drop_drop])) ?_
      rintro _ _ ⟨rfl, J, gJ, S1⟩
      refine wx ?_; refine wx ?_; refine wf ?_; refine wu fun _ _ => ?_
      unfold s76a5
      refine ws ?_; refine wt fun _ _ => ?_; refine ws ?_
      refine Ev.ret ⟨rfl, J, gJ, ?_⟩
      rw [show i + (res'.2.2 + 1) = i + 1 + res'.2.2 by omega]
      exact dp
  rw [if_neg (show ¬ nx (s.drop i) 0 = 35 by simp at e4; omega)] at hm
  refine yf ?_; refine yf ?_; refine yf ?_; refine aq ?_; refine yj ?_
  refine Ev.ieq (fun e6 => absurd e6 e4) (fun e6 => ?_)
  refine yj ?_
  have fin : ¬ (nx (s.drop i) 0 = 58 ∧ nx (s.drop i) 1 = 61) → ¬ (nx (s.drop i) 0 = 58 ∧ letterB (nx (s.drop i) 1) = true) → ∀ (h' : Hp) (b2 b4 : Pos),
      Sy I A [RS r s i] ((b4, some (.row .ex [.i .i64 (Int.ofNat 0), .s [], .i .i64 (Int.ofNat 0), .i .i64 (i : Int)])) :: (b2, some (.row .ex [.i .i64 (Int.ofNat 0), .s [], .i .i64 (Int.ofNat 0), .i .i64 (Int.ofNat 0)])) :: L) h' →
      Ev (fun n => bnd (shD n 75 [.s [43, 45, 42, 47, 60, 62, 61, 126, 44, 64, 38, 37]] h') fun v111 h111 =>
        bnd (pCall CF (shD n) v111 [.i .u8 (Int.ofNat (nx (s.drop i) 0))] h111) fun v112 h112 =>
        ifD v112 (
          bnd (shD n 75 [.s [43, 45, 42, 47, 60, 62, 61, 126, 44, 64, 38, 37]] h112) fun v113 h113 =>
          bnd (shD n 74 [.p r 0, v113, .i .i64 (Int.ofNat 2)] h113) fun v114 h114 =>
          bnd (pField 0 (.p b4 0) h114) fun v115 h115 =>
          bnd (pStore 1 v115 (.i .i64 (Int.ofNat 3)) h115) fun _ h116 =>
          bnd (pField 1 (.p b4 0) h116) fun v117 h117 =>
          bnd (pStore 1 v117 v114 h117) fun _ h118 =>
          s76a5 (shD n) n (.p b2 0) (.p b4 0) (.i .i64 (Int.ofNat 0)) h118) (
          bnd (shD n 75 [.s [94, 46, 59, 40, 41, 91, 93, 124]] h112) fun v119 h119 =>
          bnd (pCall CF (shD n) v119 [.i .u8 (Int.ofNat (nx (s.drop i) 0))] h119) fun v120 h120 =>
          ifD v120 (
            bnd (shD n 75 [.s [94, 46, 59, 40, 41, 91, 93, 124]] h120) fun v121 h121 =>
            bnd (shD n 74 [.p r 0, v121, .i .i64 (Int.ofNat 1)] h121) fun v122 h122 =>
            bnd (pField 0 (.p b4 0) h122) fun v123 h123 =>
            bnd (pStore 1 v123 (.i .i64 (Int.ofNat 10)) h123) fun _ h124 =>
            bnd (pField 1 (.p b4 0) h124) fun v125 h125 =>
            bnd (pStore 1 v125 v122 h125) fun _ h126 =>
            s76a5 (shD n) n (.p b2 0) (.p b4 0) (.i .i64 (Int.ofNat 0)) h126) (
            s76a5 (shD n) n (.p b2 0) (.p b4 0) (.i .i64 (Int.ofNat 10)) h120)))
        (fun v h' => v = .t [.a (tc ⟨res.1, res.2.1, res.2.2.1, (i : Int)⟩), .i .i64 res.2.2.2.1] ∧ ∃ J, ILe I J ∧ Sy J A [RS r s (i + res.2.2.2.2)] L h') := by
    intro n1 n2 h' b2 b4 S'
    rw [if_neg n1, if_neg n2] at hm
    refine Ev.call (in_ok S' signs) ?_
    rintro cl h1 ⟨J, gJ, S1, C1⟩
    refine Ev.call (C1 J _ _ _ _ _ (ILe.refl _) S1 hn0) ?_
    rintro _ _ ⟨rfl, rfl⟩
    cases e7 : inB signs (nx (s.drop i) 0) with
    | true =>
      rw [if_pos e7] at hm
      cases hm
      refine yt ?_
      refine Ev.call (in_ok S1 signs) ?_
      rintro cl2 h2 ⟨K, gK, S2, C2⟩
      refine Ev.call (run_ok C2 S2 hs hb (by omega) 2 (by simp [lim])) ?_
      rintro _ h3 ⟨rfl, S3⟩
      refine wf ?_; refine wu fun _ _ => ?_; refine wf ?_; refine wu fun _ _ => ?_
      unfold s76a5
      refine ws ?_; refine wt fun _ _ => ?_; refine ws ?_
      exact Ev.ret ⟨rfl, K, gJ.trans gK, dp⟩
    | false =>
      rw [if_neg (by simp [e7])] at hm
      refine yj ?_
      refine Ev.call (in_ok S1 marks) ?_
      rintro cl2 h2 ⟨K, gK, S2, C2⟩
      refine Ev.call (C2 K _ _ _ _ _ (ILe.refl _) S2 hn0) ?_
      rintro _ _ ⟨rfl, rfl⟩
      cases e8 : inB marks (nx (s.drop i) 0) with
      | true =>
        rw [if_pos e8] at hm
        cases hm
        refine yt ?_
        refine Ev.call (in_ok S2 marks) ?_
        rintro cl3 h3 ⟨M, gM, S3, C3⟩
        refine Ev.call (run_ok C3 S3 hs hb (by omega) 1 (by simp [lim])) ?_
        rintro _ h4 ⟨rfl, S4⟩
        refine wf ?_; refine wu fun _ _ => ?_; refine wf ?_; refine wu fun _ _ => ?_
        unfold s76a5
        refine ws ?_; refine wt fun _ _ => ?_; refine ws ?_
        exact Ev.ret ⟨rfl, M, (gJ.trans gK).trans gM, dp⟩
      | false =>
        rw [if_neg (by simp [e8])] at hm
        cases hm
        refine yj ?_
        unfold s76a5
        refine ws ?_; refine wt fun _ _ => ?_; refine ws ?_
        exact Ev.ret ⟨rfl, K, gJ.trans gK, dp⟩
  refine Ev.ieq (fun e7 => ?_) (fun e7 => ?_)
  · have e7' : nx (s.drop i) 0 = 58 := by simp at e7; omega
    refine zt ?_; refine wm ?_; refine zt ?_
    refine Ev.call (byte_ok (by assumption) hs (by omega) 1 (by omega)) ?_
    rintro _ _ ⟨rfl, rfl⟩
    rw [nx_drop]
    refine zt ?_
    refine Ev.ieq (fun e8 => ?_) (fun e8 => ?_)
    · have e8' : nx (s.drop i) 1 = 61 := by simp at e8; omega
      rw [if_pos ⟨e7', e8'⟩] at hm
      cases hm
      refine ap ?_; refine yt ?_; refine wn ?_; refine wf ?_; refine wq ?_
      refine Ev.iadd ?_
      rw [addN 2 (by omega)]
      refine wn ?_; refine wf ?_; refine wv fun _ _ => ?_; refine wf ?_; refine wu fun _ _ => ?_
      unfold s76a5
      refine ws ?_; refine wt fun _ _ => ?_; refine ws ?_
      exact Ev.ret ⟨rfl, I, ILe.refl _, dp⟩
    · have e8' : ¬ nx (s.drop i) 1 = 61 := by simp at e8; omega
      refine ap ?_; refine yj ?_
      refine Ev.ieq (fun e9 => ?_) (fun e9 => absurd e7 e9)
      refine zt ?_; refine wm ?_; refine zt ?_
      refine Ev.call (byte_ok (by assumption) hs (by omega) 1 (by omega)) ?_
      rintro _ _ ⟨rfl, rfl⟩
      rw [nx_drop]
      refine zt ?_
      refine Ev.call (letter_ok _ _) ?_
      rintro _ _ ⟨rfl, rfl⟩
      cases e10 : letterB (nx (s.drop i) 1) with
      | true =>
        rw [if_neg (fun q => e8' q.2), if_pos ⟨e7', e10⟩] at hm
        cases hm
        refine ap ?_; refine yt ?_; refine wn ?_; refine wf ?_; refine wq ?_
        refine Ev.iadd ?_
        rw [addN 1 (by omega)]
        refine wn ?_; refine wf ?_; refine wv fun _ _ => ?_; refine wf ?_; refine wu fun _ _ => ?_
        refine Ev.call (nm_ok (by assumption) hs hb (by omega)) ?_
        rintro _ _ ⟨rfl, S1⟩
        have hdd : s.drop (i + 1) = (s.drop i).drop 1 := by rw [List.drop_drop]
        rw [hdd] at S1 ⊢
        refine wx ?_; refine wx ?_; refine wf ?_; refine wu fun _ _ => ?_
        unfold s76a5
        refine ws ?_; refine wt fun _ _ => ?_; refine ws ?_
        refine Ev.ret ⟨rfl, I, ILe.refl _, ?_⟩
        rw [show i + ((nameM ((s.drop i).drop 1)).2.2 + 1) = i + 1 + (nameM ((s.drop i).drop 1)).2.2 by omega]
        exact dp
      | false =>
        have F := fin (fun q => e8' q.2) (fun q => by rw [e10] at q; exact absurd q.2 (by simp)) _ _ _ S0
        refine ap ?_; refine yj ?_
        exact F
  · have e7' : ¬ nx (s.drop i) 0 = 58 := by simp at e7; omega
    refine yf ?_; refine yf ?_; refine yf ?_; refine aq ?_; refine yj ?_
    refine Ev.ieq (fun e9 => absurd e9 e7) (fun e9 => ?_)
    have F := fin (fun q => e7' q.1) (fun q => e7' q.1) _ _ _ S0
    refine yf ?_; refine yf ?_; refine yf ?_; refine aq ?_; refine yj ?_
    exact F

end

theorem idxGo_lt (c : Nat) : ∀ (l : List Nat) (i : Nat), ¬ idxGo c l i < 0 → ∃ k : Nat, k < l.length ∧ idxGo c l i = ((i + k : Nat) : Int)
  | [], i, h => absurd (by show Int.negSucc 0 < 0; decide) h
  | x :: l, i, h => by
    unfold idxGo at h ⊢
    cases e : Nat.beq x c with
    | true => exact ⟨0, by simp, by simp⟩
    | false =>
      rw [e] at h
      obtain ⟨k, h1, h2⟩ := idxGo_lt c l (i + 1) h
      refine ⟨k + 1, by simpa using h1, ?_⟩
      simp only [cond_false, h2]
      omega

/-- A token is appended. -/
theorem app_tok {I : Im} {B A Q L : Ls} {h : Hp} {x : DV} {l : List Tok} (G : Gr I 4 B x l.length (l.map tc).flatten) {t : Tok} {b : Pos} (S : Sy I (B ++ A) Q L h) (m : (b, some (.row .ex (tc t))) ∈ L) (hl : l.length + 1 ≤ lim) :
    ∃ x' h' B', pAppend 4 40 x (.l b 0 1 1) h = some (x', h') ∧ Sy I (B' ++ A) Q L h' ∧ Gr I 4 B' x' (l ++ [t]).length ((l ++ [t]).map tc).flatten := by
  have hr : (l.length + 1) * 40 ≤ roomD := by simp [roomD, lim] at hl ⊢; omega
  obtain ⟨x4, h4, B4, e4, S4, G4⟩ := G.app S (src_own S (n := 1) m rfl (tc_ones t)) rfl (tc_ones t) (by omega) hr
  exact ⟨x4, h4, B4, e4, S4, by simpa using G4⟩

theorem fill4 (t : Tok) : fillD [(.i .i64 (Int.ofNat 0)), (.s []), (.i .i64 (Int.ofNat 0)), (.i .i64 (Int.ofNat 0))] [(0, 4, .a (tc t))] = some (tc t) := by
  simp [fillD, cellsD, tc]

/-- What a call that answers tokens leaves. -/
def TPost (I : Im) (A Q L : Ls) (res : List Tok × Int × Int) (v : DV) (h : Hp) : Prop :=
  ∃ J x, v = .t [x, .i .i64 res.2.1, .i .i64 res.2.2] ∧ ILe I J ∧ Sy J A Q L h ∧ TS' J x res.1

theorem TS'.nil (I : Im) : TS' I .l0 [] := ⟨by simp, .inl ⟨.inl rfl, rfl, rfl⟩⟩

theorem toks_loop {A L : Ls} {s : List Nat} (hs : s.length ≤ lim) (hb : ∀ c ∈ s, c < 256) (g : Nat) {r : Pos} : ∀ (f j i : Nat) (I : Im) (B : Ls) (h : Hp) (x : DV) (out : List Tok) (res : List Tok × Int × Int), Sy I (B ++ A) [RS r s i] L h → Gr I 4 B x out.length (out.map tc).flatten →
    i ≤ s.length → out.length + f ≤ lim → toksM g s f i out = some res →
    Ev (fun n => s48a7l (shD n) n (n - j) (.s s) (.p r 0) x h) (TPost I A [] L res) := by
  intro f
  induction f with
  | zero => intro j i I B h x out res S G hi hl hm; cases hm
  | succ f ih =>
    intro j i I B h x out res S G hi hl hm
    unfold toksM at hm
    refine Ev.loop j (ll := fun n m => s48a7l (shD n) n m (.s s) (.p r 0) x h) (bb := fun n m => s48a7b (shD n) n (s48a7l (shD n) n m) (.s s) (.p r 0) x h) (fun _ _ => rfl) ?_
    unfold s48a7b
    refine Ev.call (in_ok S blanks) ?_
    rintro cl h1 ⟨J, gJ, S1, C1⟩
    refine Ev.lenS ?_
    refine Ev.call (run_ok C1 S1 hs hb hi s.length hs) ?_
    rintro _ h2 ⟨rfl, S2⟩
    have e0 : runN (inB blanks) s.length (s.drop i) = ((s.drop i).takeWhile (inB blanks)).length := runN_tw _ _ _ (by simp)
    rw [e0] at S2
    have hle := tw_le (inB blanks) (s.drop i)
    have hdl : (s.drop i).length = s.length - i := by simp
    generalize hw : ((s.drop i).takeWhile (inB blanks)).length = w at hm S2 hle
    have hi2 : i + w ≤ s.length := by omega
    generalize hi3 : i + w = i' at hm S2 hi2
    have hdrop : ∀ {K : Im} {e : Pos × Option Ob} {M : Ls} {h'' : Hp}, Sy K A [e] M h'' → Sy K A [] M h'' := fun S => Sy.dropL (Sy.lQ (Q := []) S)
    have hs' := hs
    simp only [lim] at hs'
    refine wn ?_; refine wf ?_; refine wq ?_
    refine Ev.lenS ?_
    refine Ev.ige (fun e1 => ?_) (fun e1 => ?_)
    · have e1' : s.length ≤ i' := by omega
      rw [if_pos e1'] at hm
      cases hm
      refine yt ?_
      unfold s48a6
      refine Ev.lenS ?_
      refine wd ?_
      refine Ev.bs S2 (fill4 ⟨0, [], 0, (s.length : Int)⟩) ?_
      intro b3 h3 S3
      obtain ⟨x4, h4, B4, e4, S4, G4⟩ := app_tok (G.mono gJ) S3 (List.Mem.head _) (by omega)
      refine Ev.op e4 ?_
      obtain ⟨K, gK, S5, F5⟩ := G4.freeze S4
      exact Ev.ret ⟨K, x4, rfl, gJ.trans gK, hdrop S5.dropL, by simp; omega, F5⟩
    · have e1' : i' < s.length := by omega
      rw [if_neg (by omega)] at hm
      refine yj ?_; refine wn ?_; refine wf ?_; refine wq ?_
      refine Ev.op (idxS (c := s[i']) (by simp [e1']) _) ?_
      have hnx : nx s i' = s[i'] := by simp [nx, List.getD, e1']
      refine Ev.ieq (fun e2 => ?_) (fun e2 => ?_)
      · have e2' : nx s i' = 34 := by rw [hnx]; simp at e2; omega
        rw [if_pos e2'] at hm
        refine yt ?_; refine wn ?_; refine wf ?_; refine wq ?_
        refine Ev.iadd ?_
        rw [addN 1 (by omega)]
        refine Ev.op (cutE (by omega) _) ?_
        refine Ev.call (index_ok _ 34 (by omega) _) ?_
        rintro _ _ ⟨rfl, rfl⟩
        refine Ev.ilt (fun e3 => ?_) (fun e3 => ?_)
        · rw [if_pos (show idxGo 34 (s.drop (i' + 1)) 0 < 0 from e3)] at hm
          cases hm
          refine yt ?_; refine wn ?_; refine wf ?_; refine wq ?_
          obtain ⟨K, gK, S5, F5⟩ := (G.mono gJ).freeze S2
          exact Ev.ret ⟨K, .l0, rfl, gJ.trans gK, hdrop S5, TS'.nil K⟩
        · have e3' : ¬ idxGo 34 (s.drop (i' + 1)) 0 < 0 := e3
          rw [if_neg e3'] at hm
          obtain ⟨k, hk1, hk2⟩ := idxGo_lt 34 _ _ e3'
          rw [hk2] at hm ⊢
          have hk3 : k < s.length - (i' + 1) := by simpa using hk1
          simp only [Nat.zero_add, Int.toNat_natCast] at hm
          refine yj ?_; refine wn ?_; refine wf ?_; refine wq ?_
          refine Ev.iadd ?_
          rw [Nat.zero_add, addN 2 (by omega)]
          refine Ev.iadd ?_
          rw [show (i' : Int) + ((k + 2 : Nat) : Int) = ((i' + k + 2 : Nat) : Int) by omega, wrapN _ (by omega)]
          refine wn ?_; refine wf ?_; refine wv fun _ _ => ?_
          refine (ih (j + 1) (i' + k + 2) J B _ x out res (by assumption) (G.mono gJ) (by omega) (by omega) hm).mono ?_
          rintro v h' ⟨K, y, a1, a2, a3⟩
          exact ⟨K, y, a1, gJ.trans a2, a3⟩
      · have e2' : ¬ nx s i' = 34 := by rw [hnx]; simp at e2; omega
        rw [if_neg e2'] at hm
        obtain ⟨rs, hr, hm⟩ := Option.bind_eq_some_iff.1 hm
        refine yj ?_
        refine Ev.call (tok_ok S2 hs hb e1' g rs hr) ?_
        rintro _ h3 ⟨rfl, K, gK, S3⟩
        refine wx ?_; refine wx ?_; refine wa fun _ _ _ => ?_; refine wt fun _ _ => ?_
        refine Ev.ine (fun e3 => ?_) (fun e3 => ?_)
        · rw [if_neg (show ¬ rs.2.2.2.1 = 0 from e3)] at hm
          cases hm
          refine yt ?_; refine wf ?_; refine wl ?_
          obtain ⟨M, gM, S5, F5⟩ := ((G.mono gJ).mono gK).freeze (by assumption)
          exact Ev.ret ⟨M, .l0, rfl, (gJ.trans gK).trans gM, hdrop S5.dropL, TS'.nil M⟩
        · rw [if_pos (show rs.2.2.2.1 = 0 from e3)] at hm
          split at hm
          · cases hm
          · rename_i hfit
            refine yj ?_; refine ws ?_
            refine Ev.bs (by assumption) (fill4 ⟨rs.1, rs.2.1, rs.2.2.1, (i' : Int)⟩) ?_
            intro b4 h4 S4
            obtain ⟨x5, h5, B5, e5, S5, G5⟩ := app_tok ((G.mono gJ).mono gK) S4 (List.Mem.head _) (by omega)
            refine Ev.op e5 ?_
            refine (ih (j + 1) (i' + rs.2.2.2.2) K B5 h5 x5 _ res S5.dropL.dropL G5 (by simp at hfit; omega) (by simp; omega) hm).mono ?_
            rintro v h' ⟨M, y, a1, a2, a3⟩
            exact ⟨M, y, a1, (gJ.trans gK).trans a2, a3⟩

/-- The tokens of a source. -/
theorem lex_ok {I : Im} {A L : Ls} {h : Hp} (S : Sy I A [] L h) {s : List Nat} (hs : s.length ≤ lim) (hb : ∀ c ∈ s, c < 256) (g f : Nat) (hf : f ≤ lim) (res : List Tok × Int × Int) (hm : lexM g f s = some res) :
    Ev (fun n => shD n 48 [.s s] h) (TPost I A [] L res) := by
  unfold lexM at hm
  refine Ev.enter (fun n => enter48 n _ h) ?_
  unfold s48 s48a1
  refine Ev.lenS ?_
  refine Ev.igt (fun e1 => ?_) (fun e1 => ?_)
  · rw [if_pos (show 2000 < s.length by simp at e1; omega)] at hm
    cases hm
    refine yt ?_
    exact Ev.ret ⟨I, .l0, rfl, ILe.refl _, S, TS'.nil I⟩
  · rw [if_neg (show ¬ 2000 < s.length by simp at e1; omega)] at hm
    refine yj ?_
    unfold s48a2 s48a3 s48a4 s48a5 s48a7
    refine wd ?_; refine wb fun _ _ _ => ?_
    rename_i r h1 S1
    exact toks_loop hs hb g f 0 0 I [] _ .l0 [] res (Sy.qL S1) (Gr.nil I 4) (by omega) (by simpa using hf) hm

end Go.Dd

/- Dd, part T14: the program's parser: a method's head; a source as a node. -/
set_option linter.unusedVariables false
set_option linter.unusedSimpArgs false
set_option maxRecDepth 100000
namespace Go.Dd
open Go.Proofs

def doitS : PF := fun st => some (.mk 11 [100, 111, 73, 116] 0 [] [] [], st)
def Node.with (x : Node) (ts : List (List Nat)) (ks : List Node) : Node := match x with
  | .mk k t m ns _ _ => .mk k t m ns ts ks
def readM (H : PF) (f : Nat) (lx : List Tok × Int × Int) : Option (Node × Int × Int) :=
  if lx.2.2 = 0 then (H ⟨lx.1, 0, 0, 0⟩).bind fun a => (tempsS f a.2).bind fun b => (stmtsL (exprF f) f [] b.2).bind fun c => (needS c.2 0 []).bind fun d =>
    if d.2.err = 0 then some (a.1.with b.1 c.1, 0, 0) else some (zN, d.2.pos, d.2.err)
  else some (zN, lx.2.1, lx.2.2)

theorem enter27 (n : Nat) (x : DV) (h : Hp) : shD (n + 1) 27 [x] h = s27 (shD n) n x h := by kernel_rfl
theorem enter26 (n : Nat) (x y : DV) (h : Hp) : shD (n + 1) 26 [x, y] h = s26 (shD n) n x y h := by kernel_rfl
theorem enter14 (n : Nat) (x : DV) (h : Hp) : shD (n + 1) 14 [x] h = s14 (shD n) n x h := by kernel_rfl
theorem call27 (rec : FuncId → List DV → Hp → Res) (x : DV) (h : Hp) : pCall CF rec (.f 27 [] []) [x] h = rec 27 [x] h := by kernel_rfl
theorem doit_ok : NOk 27 doitS := by
  intro I A L h p s st x st' S T hm
  cases hm
  refine Ev.enter (fun n => enter27 n _ h) ?_
  unfold s27
  refine wa fun _ _ _ => ?_; refine wd ?_; refine wt fun _ _ => ?_; refine ws ?_
  exact Ev.ret ⟨I, s, _, rfl, ILe.refl _, dp, T, NV.flat _ _ _⟩

/-- What a call that answers a node, a place and an error leaves. -/
def RPost (I : Im) (A L : Ls) (res : Node × Int × Int) (v : DV) (h : Hp) : Prop :=
  ∃ J cs, v = .t [.a cs, .i .i64 res.2.1, .i .i64 res.2.2] ∧ ILe I J ∧ Sy J A [] L h ∧ NV J res.1 cs

theorem read_ok {I : Im} {A L : Ls} {h : Hp} {gh : FuncId} {H : PF} (hg : ∀ (rec : FuncId → List DV → Hp → Res) (x : DV) (h : Hp), pCall CF rec (.f gh [] []) [x] h = rec gh [x] h) (HH : NOk gh H) (S : Sy I A [] L h) {s : List Nat} (hs : s.length ≤ lim) (hb : ∀ c ∈ s, c < 256) (g fl f : Nat) (hfl : fl ≤ lim) (hf : f + 2 ≤ lim)
    (lx : List Tok × Int × Int) (hl : lexM g fl s = some lx) (res : Node × Int × Int) (hm : readM H f lx = some res) :
    Ev (fun n => shD n 26 [.s s, .f gh [] []] h) (RPost I A L res) := by
  refine Ev.enter (fun n => enter26 n _ _ h) ?_
  unfold s26
  simp only [hg]
  unfold readM at hm
  refine wa fun _ _ _ => ?_
  refine Ev.call (lex_ok (by assumption) hs hb g fl hfl lx hl) ?_
  rintro _ h1 ⟨J, x1, rfl, g1, S1, T1⟩
  have o1 := T1.2.one
  refine wx ?_; refine wx ?_; refine wx ?_
  refine Ev.ine (fun e1 => ?_) (fun e1 => ?_)
  · rw [if_neg (show ¬ lx.2.2 = 0 from e1)] at hm
    cases hm
    refine yt ?_; refine wd ?_; refine wt fun _ _ => ?_; refine ws ?_
    exact Ev.ret ⟨J, _, rfl, g1, dp, NV.flat _ _ _⟩
  · rw [if_pos (show lx.2.2 = 0 from e1)] at hm
    obtain ⟨⟨y, st1⟩, hy, hm⟩ := Option.bind_eq_some_iff.1 hm
    obtain ⟨⟨ts, st2⟩, h2, hm⟩ := Option.bind_eq_some_iff.1 hm
    obtain ⟨⟨ks, st3⟩, h3, hm⟩ := Option.bind_eq_some_iff.1 hm
    obtain ⟨⟨t, st4⟩, h4, hm⟩ := Option.bind_eq_some_iff.1 hm
    refine yj ?_; refine wd ?_; refine wb fun _ _ _ => ?_
    rename_i p hp Sp
    refine Ev.call (HH _ _ _ _ p x1 ⟨lx.1, 0, 0, 0⟩ _ _ (Sy.qL Sp) T1 hy) ?_
    rintro _ _ ⟨K, s2, cs, rfl, g2, S2, T2, N2⟩
    obtain ⟨k, tt, mm, ns, ts0, ks0⟩ := y
    obtain ⟨d1, d2, d3, rfl, a1, a2, a3, cells, F, NL⟩ := N2
    have q1 := a1.2.one
    have q2 := a2.2.one
    have q3 := F.one
    refine wa fun _ _ _ => ?_; refine wt fun _ _ => ?_
    refine Ev.call (temps_ok f (by omega) (by assumption) T2 h2) ?_
    rintro v3 _ ⟨M, s3, g3, S3, T3, N3⟩
    have q4 := N3.2.one
    refine wf ?_; refine wu fun _ _ => ?_
    refine Ev.call (stmts_ok (exprF_ok f hf) f (by omega) (by assumption) T3 h3) ?_
    rintro v4 _ ⟨O, s4, g4, S4, T4, N4⟩
    have q5 := N4.one
    refine wf ?_; refine wu fun _ _ => ?_
    refine Ev.call (need_ok (by assumption) T4 h4) ?_
    rintro _ _ ⟨rfl, s5, S5, T5⟩
    have q6 := T5.2.one
    have hdrop : ∀ {K : Im} {e : Pos × Option Ob} {M : Ls} {h'' : Hp}, Sy K A [e] M h'' → Sy K A [] M h'' := fun S => Sy.dropL (Sy.lQ (Q := []) S)
    refine wn ?_; refine wf ?_; refine wq ?_
    refine Ev.ine (fun e2 => ?_) (fun e2 => ?_)
    · rw [if_neg (show ¬ st4.err = 0 from e2)] at hm
      cases hm
      refine yt ?_; refine wd ?_; refine wn ?_; refine wf ?_; refine wq ?_; refine wn ?_; refine wf ?_; refine wq ?_; refine wt fun _ _ => ?_
      refine Ev.cnd ?_ ?_
      · rename_i hq Sq
        rw [ld1 (Sq.memQ (List.Mem.head _)) rfl rfl, ld1 (Sq.memQ (List.Mem.head _)) rfl rfl]
        simp [sameR, DV.beq]
      refine ws ?_
      exact Ev.ret ⟨O, _, rfl, ((g1.trans g2).trans g3).trans g4, hdrop (dp), NV.flat _ _ _⟩
    · rw [if_pos (show st4.err = 0 from e2)] at hm
      cases hm
      refine yj ?_; refine ws ?_; refine wt fun _ _ => ?_; refine ws ?_
      refine Ev.ret ⟨O, _, rfl, ((g1.trans g2).trans g3).trans g4, hdrop (dp), ?_⟩
      exact NV.of ((a1.mono g3).mono g4) (N3.mono g4) N4

/-- The node of statements. -/
theorem Doit_ok {I : Im} {A L : Ls} {h : Hp} (S : Sy I A [] L h) {s : List Nat} (hs : s.length ≤ lim) (hb : ∀ c ∈ s, c < 256) (g fl f : Nat) (hfl : fl ≤ lim) (hf : f + 2 ≤ lim)
    (lx : List Tok × Int × Int) (hl : lexM g fl s = some lx) (res : Node × Int × Int) (hm : readM doitS f lx = some res) :
    Ev (fun n => shD n 14 [.s s] h) (RPost I A L res) := by
  refine Ev.enter (fun n => enter14 n _ h) ?_
  unfold s14
  refine wa fun _ _ _ => ?_
  refine Ev.call (read_ok call27 doit_ok (by assumption) hs hb g fl f hfl hf lx hl res hm) ?_
  rintro _ h1 ⟨J, cs, rfl, g1, S1, N1⟩
  obtain ⟨l1, o1, b1⟩ := N1.shape
  refine wx ?_; refine wx ?_; refine wx ?_; refine wt fun _ _ => ?_; refine ws ?_
  exact Ev.ret ⟨J, cs, rfl, g1, dp, N1⟩

end Go.Dd

/- Dd, part U1: plain: what the program's parser says ends, and has just the names and literals of its tokens. -/
set_option linter.unusedVariables false
set_option linter.unusedSimpArgs false
set_option maxRecDepth 100000
namespace Go.Dd

def Good (l : List Tok) : Prop := ∃ a e, l = a ++ [e] ∧ e.kind = 0 ∧ (∀ t ∈ a, t.kind ≠ 0) ∧ ∀ t ∈ a ++ [e], t.text.length ≤ 10000
def T1 (t : Tok) : Nat := if t.kind = 1 ∨ t.kind = 4 ∨ t.kind = 5 ∨ t.kind = 6 ∨ t.kind = 8 then 1 else 0
def T2 (t : Tok) : Nat := if t.kind = 1 ∨ t.kind = 4 ∨ t.kind = 5 ∨ t.kind = 6 ∨ t.kind = 8 ∨ t.kind = 2 ∨ t.kind = 3 then 1 else 0
def least (l : List Tok) : Nat := (l.map T1).sum
def most (l : List Tok) : Nat := (l.map T2).sum

mutual
def cnt : Node → Nat
  | .mk k _ _ ns ts ks => (if k ≠ 9 ∧ k ≠ 8 ∧ k ≠ 10 ∧ k ≠ 11 ∧ k ≠ 4 then 1 else 0) + ns.length + ts.length + cntL ks
def cntL : List Node → Nat
  | [] => 0
  | x :: l => cnt x + cntL l
end

theorem cntL_app : ∀ (a b : List Node), cntL (a ++ b) = cntL a + cntL b
  | [], b => by simp [cntL]
  | x :: a, b => by simp [cntL, cntL_app a b]; omega

theorem Good.head {l : List Tok} (h : Good l) : ∃ t r, l = t :: r ∧ (t.kind = 0 → r = []) ∧ (t.kind ≠ 0 → Good r ∧ 1 ≤ r.length) := by
  obtain ⟨a, e, rfl, he, ha, hb⟩ := h
  cases a with
  | nil => exact ⟨e, [], rfl, fun _ => rfl, fun h => absurd he h⟩
  | cons t a =>
    refine ⟨t, a ++ [e], rfl, fun h => absurd h (ha t (by simp)), fun _ => ⟨⟨a, e, rfl, he, fun u hu => ha u (by simp [hu]), fun u hu => hb u (by simp at hu ⊢; exact .inr hu)⟩, by simp⟩⟩

theorem Good.text {l : List Tok} (h : Good l) {t : Tok} {r : List Tok} (e : l = t :: r) : t.text.length ≤ 10000 := by
  obtain ⟨a, e', rfl, he, ha, hb⟩ := h
  exact hb t (by rw [e]; simp)

/-- From one state to another: so many names and literals. -/
structure Stp (a b : PSt) (k : Nat) : Prop where
  good : Good b.toks
  err : a.err ≠ 0 → b.err ≠ 0
  run : ∃ c, a.toks = c ++ b.toks ∧ (b.err = 0 → least c ≤ k ∧ k ≤ most c)

theorem Stp.ok {a b : PSt} {k : Nat} (h : Stp a b k) (e : b.err = 0) : a.err = 0 := Decidable.byContradiction fun n => h.err n e
theorem Stp.refl {a : PSt} (h : Good a.toks) : Stp a a 0 := ⟨h, id, [], rfl, fun _ => by simp [least, most]⟩
theorem Stp.trans {a b c : PSt} {j k : Nat} (h : Stp a b j) (g : Stp b c k) : Stp a c (j + k) := by
  obtain ⟨x, hx, h1⟩ := h.run
  obtain ⟨y, hy, h2⟩ := g.run
  refine ⟨g.good, fun e => g.err (h.err e), x ++ y, by rw [hx, hy, List.append_assoc], fun e => ?_⟩
  have e' := g.ok e
  obtain ⟨a1, a2⟩ := h1 e'
  obtain ⟨b1, b2⟩ := h2 e
  simp only [least, most, List.map_append, List.sum_append] at *
  omega
theorem Stp.any {a b : PSt} {j : Nat} (h : Stp a b j) (e : b.err ≠ 0) (k : Nat) : Stp a b k := ⟨h.good, h.err, by
  obtain ⟨x, hx, h1⟩ := h.run
  exact ⟨x, hx, fun e' => absurd e' e⟩⟩
theorem Stp.cast {a b : PSt} {j k : Nat} (h : Stp a b j) (e : b.err = 0 → j = k) : Stp a b k := by
  by_cases hb : b.err = 0
  · rw [← e hb]; exact h
  · exact h.any hb k
theorem Stp.len {a b : PSt} {k : Nat} (h : Stp a b k) : b.toks.length ≤ a.toks.length := by
  obtain ⟨x, hx, _⟩ := h.run
  rw [hx]; simp
theorem Stp.same {a b : PSt} (h : Good b.toks) (e1 : b.toks = a.toks) (e2 : b.err = a.err) : Stp a b 0 := ⟨h, fun e => by rw [e2]; exact e, [], by simp [e1], fun _ => by simp [least, most]⟩

theorem lookG {st : PSt} (h : Good st.toks) : ∃ t r, st.toks = t :: r ∧ lookS st 0 = some t ∧ (t.kind = 0 → r = []) ∧ (t.kind ≠ 0 → Good r ∧ 1 ≤ r.length) := by
  obtain ⟨t, r, e, h1, h2⟩ := h.head
  exact ⟨t, r, e, by simp [lookS, e], h1, h2⟩

theorem look1 {st : PSt} (h : Good st.toks) : ∃ t, lookS st 1 = some t := by
  obtain ⟨t, r, e, h1, h2⟩ := h.head
  unfold lookS
  have : min 1 (st.toks.length - 1) < st.toks.length := by rw [e]; simp; omega
  exact ⟨st.toks[min 1 (st.toks.length - 1)], by simp [this]⟩

/-- Is the next token one? -/
def isC (st : PSt) (t : Tok) (kind : Int) (text : List Nat) : Bool := decide (st.err = 0) && decide (t.kind = kind) && (decide (text = []) || decide (t.text = text))
theorem isG {st : PSt} {t : Tok} (h : lookS st 0 = some t) (kind : Int) (text : List Nat) : isS st kind text = some (isC st t kind text) := by
  unfold isS; rw [h]; rfl
theorem isC_ok {st : PSt} {t : Tok} {kind : Int} {text : List Nat} (h : isC st t kind text = true) : st.err = 0 ∧ t.kind = kind := by
  simp [isC] at h
  exact h.1

theorem takeG {st : PSt} (h : Good st.toks) {t : Tok} {r : List Tok} (e : st.toks = t :: r) (hk : t.kind ≠ 0) : takeS st = some (t, { st with toks := r }) ∧ Good r := by
  obtain ⟨t', r', e', h1, h2⟩ := h.head
  rw [e] at e'
  cases e'
  obtain ⟨g1, g2⟩ := h2 hk
  refine ⟨?_, g1⟩
  unfold takeS
  have : lookS st 0 = some t := by simp [lookS, e]
  simp only [this, Option.bind_some, if_neg hk]
  rw [if_pos (by rw [e]; simp; omega), e]
  rfl

theorem take0 {st : PSt} (h : Good st.toks) {t : Tok} {r : List Tok} (e : st.toks = t :: r) (hk : t.kind = 0) : takeS st = some (t, st) := by
  unfold takeS
  have : lookS st 0 = some t := by simp [lookS, e]
  simp [this, hk]

/-- A token is taken. -/
theorem takeW {st : PSt} (h : Good st.toks) {t : Tok} (ht : lookS st 0 = some t) (hk : t.kind ≠ 0) : ∃ st', takeS st = some (t, st') ∧ st'.err = st.err ∧ st'.deep = st.deep ∧ st'.pos = st.pos ∧ st'.toks.length + 1 = st.toks.length ∧ Good st'.toks ∧ st.toks = t :: st'.toks ∧ ∀ k, T1 t ≤ k → k ≤ T2 t → Stp st st' k := by
  obtain ⟨t', r, e, h1, _, _⟩ := lookG h
  rw [h1] at ht
  cases ht
  obtain ⟨a1, a2⟩ := takeG h e hk
  refine ⟨_, a1, rfl, rfl, rfl, by rw [e]; simp, a2, e, fun k k1 k2 => ⟨a2, id, [t], by simp [e], fun _ => by simp [least, most]; omega⟩⟩

/-- A take, whatever it is: for what is in error already, or for marks. -/
theorem takeE {st : PSt} (h : Good st.toks) : ∃ t st', takeS st = some (t, st') ∧ st'.err = st.err ∧ Good st'.toks ∧ ∃ c, st.toks = c ++ st'.toks ∧ (c = [] ∨ c = [t]) := by
  obtain ⟨t, r, e, h1, h2, h3⟩ := lookG h
  by_cases hk : t.kind = 0
  · exact ⟨t, st, take0 h e hk, rfl, h, [], rfl, .inl rfl⟩
  · obtain ⟨a1, a2⟩ := takeG h e hk
    exact ⟨t, _, a1, rfl, a2, [t], by simp [e], .inr rfl⟩

theorem failW {st : PSt} (h : Good st.toks) (t : Tok) (e : Int) (he : e ≠ 0) (k : Nat) : Stp st (failS st t e) k ∧ (failS st t e).err ≠ 0 := by
  have : (failS st t e).err ≠ 0 := by
    unfold failS
    split
    · exact he
    · rename_i h; exact h
  refine ⟨⟨by rw [failS_toks]; exact h, fun _ => this, [], by rw [failS_toks]; simp, fun e' => absurd e' this⟩, this⟩

theorem needW {st : PSt} (h : Good st.toks) (kd : Int) (tx : List Nat) (k : Nat) (hk : kd ≠ 0 → ∀ t : Tok, t.kind = kd → T1 t ≤ k ∧ k ≤ T2 t) (h0 : kd = 0 → k = 0) :
    ∃ t st', needS st kd tx = some (t, st') ∧ Stp st st' k ∧ (st'.err = 0 → st.err = 0 ∧ t.kind = kd) := by
  obtain ⟨t, r, e, h1, h2, h3⟩ := lookG h
  unfold needS
  rw [isG h1]
  simp only [Option.bind_some]
  cases hc : isC st t kd tx with
  | true =>
    obtain ⟨c1, c2⟩ := isC_ok hc
    by_cases hz : t.kind = 0
    · refine ⟨t, st, by simp [take0 h e hz], ?_, fun _ => ⟨c1, c2⟩⟩
      rw [h0 (by rw [← c2]; exact hz)]
      exact Stp.refl h
    · obtain ⟨st', a1, a2, a3, a4, a5, a6, a7, a8⟩ := takeW h h1 hz
      obtain ⟨k1, k2⟩ := hk (by rw [← c2]; exact hz) t c2
      exact ⟨t, st', by simp [a1], a8 k k1 k2, fun _ => ⟨c1, c2⟩⟩
  | false =>
    obtain ⟨f1, f2⟩ := failW h t 13 (by decide) k
    exact ⟨z4, _, by simp [h1], f1, fun e => absurd e f2⟩

theorem tIn {j : Int} {k : Nat} (h : (j = 1 ∨ j = 4 ∨ j = 5 ∨ j = 6 ∨ j = 8) ∧ k = 1 ∨ (j = 2 ∨ j = 3) ∧ k ≤ 1 ∨ (j = 7 ∨ j = 9 ∨ j = 10) ∧ k = 0) : ∀ t : Tok, t.kind = j → T1 t ≤ k ∧ k ≤ T2 t := by
  intro t ht
  unfold T1 T2
  rw [ht]
  rcases h with ⟨rfl | rfl | rfl | rfl | rfl, rfl⟩ | ⟨rfl | rfl, hk⟩ | ⟨rfl | rfl | rfl, rfl⟩ <;> simp <;> omega

theorem nameW {st : PSt} (h : Good st.toks) (kd : Int) (hk : kd = 1 ∨ kd = 8) (len : Nat) : ∃ t st', nameS st kd len = some (t, st') ∧ Stp st st' 1 ∧ st'.toks.length ≤ st.toks.length := by
  obtain ⟨t, st1, h1, h2, h3⟩ := needW h kd [] 1 (fun _ => tIn (by rcases hk with rfl | rfl <;> simp)) (by rcases hk with rfl | rfl <;> simp)
  unfold nameS
  rw [h1]
  simp only [Option.bind_some]
  by_cases hl : len = 4
  · obtain ⟨f1, f2⟩ := failW h2.good t 18 (by decide) 0
    refine ⟨_, _, rfl, ?_, ?_⟩
    · simp only [hl, if_true]; exact h2.trans f1
    · simp only [hl, if_true, failS_toks]; exact h2.len
  · refine ⟨_, _, rfl, ?_, ?_⟩
    · simp only [hl, if_false]; exact h2
    · simp only [hl, if_false]; exact h2.len

theorem negW {st : PSt} (h : Good st.toks) : ∃ c, negS st = some c ∧ (c = true → st.err = 0 ∧ ∃ t u r, st.toks = t :: u :: r ∧ t.kind = 3 ∧ u.kind = 4) := by
  obtain ⟨t, r, e, h1, h2, h3⟩ := lookG h
  obtain ⟨u, hu⟩ := look1 h
  unfold negS
  rw [hu, isG h1, h1]
  refine ⟨_, rfl, fun hc => ?_⟩
  simp at hc
  obtain ⟨⟨c1, c2⟩, _⟩ := hc
  obtain ⟨d1, d2⟩ := isC_ok c1
  refine ⟨d1, t, u, r.drop 1, ?_, d2, c2⟩
  obtain ⟨_, hl⟩ := h3 (by rw [d2]; decide)
  cases r with
  | nil => simp at hl
  | cons v r =>
    have : u = v := by
      unfold lookS at hu
      rw [e] at hu
      simp at hu
      exact hu.symm
    rw [e, this]; rfl

/-- A plain thing. -/
theorem plainW {st : PSt} (h : Good st.toks) : ∃ x c st', plainS st = some ((x, c), st') ∧ (c = true → Stp st st' (cnt x) ∧ st'.toks.length < st.toks.length ∧ st.err = 0 ∧ st'.err = 0) ∧ (c = false → st' = st) ∧ x.kind ≠ 7 := by
  obtain ⟨t, r, e, h1, h2, h3⟩ := lookG h
  unfold plainS
  rw [h1]
  simp only [Option.bind_some]
  by_cases he : st.err = 0
  · rw [if_pos he]
    obtain ⟨c, hc, hc2⟩ := negW h
    rw [hc]
    simp only [Option.bind_some]
    cases c with
    | true =>
      obtain ⟨_, t', u, r', e', k1, k2⟩ := hc2 rfl
      have ht' : t = t' := by rw [e] at e'; exact (List.cons.inj e').1
      subst ht'
      obtain ⟨s1, a1, a2, a3, a4, a5, a6, a7, a8⟩ := takeW h h1 (by rw [k1]; decide)
      have hr : s1.toks = u :: r' := by
        rw [a7] at e'; exact (List.cons.inj e').2
      have hl : lookS s1 0 = some u := by simp [lookS, hr]
      obtain ⟨s2, b1, b2, b3, b4, b5, b6, b7, b8⟩ := takeW a6 hl (by rw [k2]; decide)
      simp only [if_true, a1, Option.bind_some, b1]
      refine ⟨_, _, _, rfl, fun _ => ⟨?_, by show s2.toks.length < _; omega, he, by show s2.err = 0; rw [b2, a2]; exact he⟩, (fun h => by cases h), ?_⟩
      rotate_left
      · show (1 : Int) ≠ 7
        decide
      have S1 := a8 0 (by simp [T1, k1]) (by simp)
      have S2 := b8 1 (by simp [T1, k2]) (by simp [T2, k2])
      have : cnt (.mk 1 [] (w64 (0 - u.num)) [] [] []) = 0 + 1 := by simp [cnt, cntL]
      rw [this]
      exact S1.trans S2
    | false =>
      simp only [Bool.false_eq_true, if_false]
      have one : ∀ (j : Int) (kk : Int), (j = 4 ∨ j = 5 ∨ j = 6) → (kk ≠ 9 ∧ kk ≠ 8 ∧ kk ≠ 10 ∧ kk ≠ 11 ∧ kk ≠ 4) ∧ kk ≠ 7 → t.kind = j →
          ∃ x c st', ((takeS st).bind fun r => some ((Node.mk kk t.text t.num [] [] [], true), r.2)) = some ((x, c), st') ∧ (c = true → Stp st st' (cnt x) ∧ st'.toks.length < st.toks.length ∧ st.err = 0 ∧ st'.err = 0) ∧ (c = false → st' = st) ∧ x.kind ≠ 7 := by
        intro j kk hj hkk ht
        obtain ⟨s1, a1, a2, a3, a4, a5, a6, a7, a8⟩ := takeW h h1 (by rw [ht]; omega)
        rw [a1]
        refine ⟨_, _, _, rfl, fun _ => ⟨?_, by show s1.toks.length < _; omega, he, by show s1.err = 0; rw [a2]; exact he⟩, (fun h => by cases h), ?_⟩
        rotate_left
        · exact hkk.2
        have : cnt (.mk kk t.text t.num [] [] []) = 1 := by simp [cnt, cntL]; omega
        rw [this]
        exact a8 1 (by simp [T1]; split <;> omega) (by simp [T2]; rcases hj with rfl | rfl | rfl <;> simp [ht])
      by_cases h4 : t.kind = 4
      · rw [if_pos h4]; exact one 4 1 (by simp) (by decide) h4
      · rw [if_neg h4]
        by_cases h5 : t.kind = 5
        · rw [if_pos h5]; exact one 5 2 (by simp) (by decide) h5
        · rw [if_neg h5]
          by_cases h6 : t.kind = 6
          · rw [if_pos h6]; exact one 6 3 (by simp) (by decide) h6
          · rw [if_neg h6]
            exact ⟨_, _, _, rfl, (fun h => by cases h), fun _ => rfl, by show (0 : Int) ≠ 7; decide⟩
  · rw [if_neg he]
    exact ⟨_, _, _, rfl, (fun h => by cases h), fun _ => rfl, by show (0 : Int) ≠ 7; decide⟩

end Go.Dd

/- Dd, part U2: plain: the program's parser ends, and has just the names and literals of its tokens: loops. -/
set_option linter.unusedVariables false
set_option linter.unusedSimpArgs false
set_option maxRecDepth 100000
namespace Go.Dd

/-- A node of a send is made by send. -/
def Shp (x : Node) : Prop := x.kind = 7 → ∃ t ks, x = sendN t ks ∧ ks ≠ []

def Fine0 (f : PF) (b : Nat) : Prop := ∀ st, Good st.toks → (st.err = 0 → st.toks.length ≤ b) → ∃ x st', f st = some (x, st') ∧ Stp st st' (cnt x) ∧ Shp x
def FineP (f : PF) (b : Nat) : Prop := ∀ st, Good st.toks → (st.err = 0 → st.toks.length ≤ b) → ∃ x st', f st = some (x, st') ∧ Stp st st' (cnt x) ∧ Shp x ∧ (st'.err = 0 → st'.toks.length < st.toks.length)

theorem Shp.flat (k : Int) (t : List Nat) (m : Int) (ns ts : List (List Nat)) (ks : List Node) (h : k ≠ 7) : Shp (.mk k t m ns ts ks) := fun e => absurd e h
theorem Shp.send (t : List Nat) (x : Node) (ks : List Node) : Shp (sendN t (x :: ks)) := fun _ => ⟨t, _, rfl, by simp⟩
theorem cnt_send (t : List Nat) (ks : List Node) : cnt (sendN t ks) = 1 + cntL ks := by simp [sendN, cnt]
theorem cntL_cons (x : Node) (l : List Node) : cntL (x :: l) = cnt x + cntL l := by simp [cntL]
theorem cntL_nil : cntL [] = 0 := by simp [cntL]

theorem withinW {f : PF} {b : Nat} (Hf : Fine0 f b) {st : PSt} (h : Good st.toks) {t : Tok} (ht : lookS st 0 = some t) (hk : t.kind = 7 ∨ t.kind = 10) (hb : st.err = 0 → st.toks.length ≤ b + 1) :
    ∃ x st', withinS f st = some (x, st') ∧ Stp st st' (cnt x) ∧ Shp x ∧ (st'.err = 0 → st'.toks.length < st.toks.length) := by
  obtain ⟨s1, a1, a2, a3, a4, a5, a6, a7, a8⟩ := takeW h ht (by omega)
  have S1 := a8 0 (by unfold T1; split <;> omega) (by omega)
  unfold withinS
  rw [a1]
  simp only [Option.bind_some]
  by_cases hd : s1.deep = 20
  · rw [if_pos hd]
    obtain ⟨f1, f2⟩ := failW a6 t 14 (by decide) (cnt zN)
    refine ⟨_, _, rfl, ?_, Shp.flat _ _ _ _ _ _ (by decide), fun e => absurd e f2⟩
    have := S1.trans f1
    rwa [Nat.zero_add] at this
  · rw [if_neg hd]
    obtain ⟨x, s2, b1, b2, b3⟩ := Hf { s1 with deep := w64 (s1.deep + 1) } a6 (fun e => by
      have : st.err = 0 := by rw [← a2]; exact e
      have := hb this
      show s1.toks.length ≤ b
      omega)
    rw [b1]
    refine ⟨_, _, rfl, ?_, b3, fun e => ?_⟩
    · have S0 : Stp s1 { s1 with deep := w64 (s1.deep + 1) } 0 := Stp.same a6 rfl rfl
      have S3 : Stp s2 { s2 with deep := w64 (s2.deep - 1) } 0 := Stp.same b2.good rfl rfl
      have := ((S1.trans S0).trans b2).trans S3
      have e0 : 0 + 0 + cnt x + 0 = cnt x := by omega
      rwa [e0] at this
    · have := b2.len
      have this : s2.toks.length ≤ s1.toks.length := this
      show s2.toks.length < _
      omega

theorem unaryW : ∀ (f : Nat) (st : PSt) (x : Node), Good st.toks → (st.err = 0 → st.toks.length ≤ f) → 1 ≤ f → ∃ y st' k, unaryS f x st = some (y, st') ∧ Stp st st' k ∧ cnt y = cnt x + k ∧ (Shp x → Shp y)
  | 0, st, x, h, hf, h1 => by omega
  | f + 1, st, x, h, hf, h1 => by
    obtain ⟨t, r, e, ht, h2, h3⟩ := lookG h
    unfold unaryS
    rw [isG ht]
    simp only [Option.bind_some]
    cases hc : isC st t 1 [] with
    | false => exact ⟨x, st, 0, by simp, Stp.refl h, by simp, id⟩
    | true =>
      obtain ⟨c1, c2⟩ := isC_ok hc
      obtain ⟨s1, a1, a2, a3, a4, a5, a6, a7, a8⟩ := takeW h ht (by omega)
      have hl := hf c1
      have hr : 1 ≤ s1.toks.length := by
        obtain ⟨t', r', e', _⟩ := a6.head
        rw [e']; simp
      obtain ⟨y, st', k, b1, b2, b3, b4⟩ := unaryW f s1 (sendN t.text [x]) a6 (fun _ => by omega) (by omega)
      refine ⟨y, st', 1 + k, by simp [a1, b1], (a8 1 (by simp [T1, c2]) (by simp [T2, c2])).trans b2, ?_, fun _ => b4 (Shp.send _ _ _)⟩
      rw [b3, cnt_send, cntL_cons, cntL_nil]
      omega

theorem tempsLW : ∀ (f : Nat) (st : PSt) (l : List (List Nat)), Good st.toks → (st.err = 0 → st.toks.length ≤ f) → 1 ≤ f → ∃ l' st' k, tempsL f l st = some (l', st') ∧ Stp st st' k ∧ l'.length = l.length + k
  | 0, st, l, h, hf, h1 => by omega
  | f + 1, st, l, h, hf, h1 => by
    obtain ⟨t, r, e, ht, h2, h3⟩ := lookG h
    unfold tempsL
    rw [isG ht]
    simp only [Option.bind_some]
    cases hc : isC st t 1 [] with
    | false =>
      obtain ⟨u, s1, a1, a2, a3⟩ := needW h 10 [124] 0 (fun _ => tIn (by simp)) (by simp)
      exact ⟨l, s1, 0, by simp [a1], a2, by simp⟩
    | true =>
      obtain ⟨c1, c2⟩ := isC_ok hc
      obtain ⟨s1, a1, a2, a3, a4, a5, a6, a7, a8⟩ := takeW h ht (by omega)
      have hl := hf c1
      have hr : 1 ≤ s1.toks.length := by
        obtain ⟨t', r', e', _⟩ := a6.head
        rw [e']; simp
      obtain ⟨l', st', k, b1, b2, b3⟩ := tempsLW f s1 (l ++ [t.text]) a6 (fun _ => by omega) (by omega)
      refine ⟨l', st', 1 + k, by simp [a1, b1], (a8 1 (by simp [T1, c2]) (by simp [T2, c2])).trans b2, ?_⟩
      rw [b3]; simp; omega

theorem tempsW {f : Nat} {st : PSt} (h : Good st.toks) (hf : st.err = 0 → st.toks.length ≤ f) (h1 : 1 ≤ f) : ∃ l st', tempsS f st = some (l, st') ∧ Stp st st' l.length := by
  obtain ⟨t, r, e, ht, h2, h3⟩ := lookG h
  unfold tempsS
  rw [isG ht]
  simp only [Option.bind_some]
  cases hc : isC st t 10 [124] with
  | false => exact ⟨[], st, by simp, Stp.refl h⟩
  | true =>
    obtain ⟨c1, c2⟩ := isC_ok hc
    obtain ⟨s1, a1, a2, a3, a4, a5, a6, a7, a8⟩ := takeW h ht (by omega)
    obtain ⟨l, st', k, b1, b2, b3⟩ := tempsLW f s1 [] a6 (fun e => by have := hf c1; omega) h1
    have S1 := (a8 0 (by simp [T1, c2]) (by omega)).trans b2
    refine ⟨l, st', by simp [a1, b1], ?_⟩
    rw [show l.length = 0 + k by rw [b3]; simp]
    exact S1

theorem paramsW : ∀ (f : Nat) (st : PSt) (l : List (List Nat)), Good st.toks → (st.err = 0 → st.toks.length ≤ f) → 1 ≤ f → ∃ l' st' k, paramsL f l st = some (l', st') ∧ Stp st st' k ∧ l'.length = l.length + k
  | 0, st, l, h, hf, h1 => by omega
  | f + 1, st, l, h, hf, h1 => by
    obtain ⟨t, r, e, ht, h2, h3⟩ := lookG h
    unfold paramsL
    rw [isG ht]
    simp only [Option.bind_some]
    cases hc : isC st t 8 [] with
    | false => exact ⟨l, st, 0, by simp, Stp.refl h, by simp⟩
    | true =>
      obtain ⟨c1, c2⟩ := isC_ok hc
      have hl := hf c1
      obtain ⟨s0, z1, z2, z3, z4, z5, z6, z7, z8⟩ := takeW h ht (by omega)
      obtain ⟨tx, s1, a1, a2, a3⟩ := nameW h 8 (.inr rfl) l.length
      have hlen : s1.toks.length + 1 ≤ st.toks.length := by
        unfold nameS needS at a1
        rw [isG ht, hc] at a1
        simp only [Option.bind_some, if_true, z1, Option.some.injEq, Prod.mk.injEq] at a1
        obtain ⟨_, rfl⟩ := a1
        split
        · rw [failS_toks]; omega
        · omega
      have hr : 1 ≤ s1.toks.length := by
        obtain ⟨t', r', e', _⟩ := a2.good.head
        rw [e']; simp
      obtain ⟨l', st', k, b1, b2, b3⟩ := paramsW f s1 (l ++ [tx]) a2.good (fun _ => by omega) (by omega)
      refine ⟨l', st', 1 + k, by simp [a1, b1], a2.trans b2, ?_⟩
      rw [b3]; simp; omega

theorem innerW {E : PF} {b : Nat} (HE : FineP E b) : Fine0 (innerS E) b := by
  intro st h hb
  obtain ⟨x, s1, a1, a2, a3, a4⟩ := HE st h hb
  obtain ⟨u, s2, c1, c2, c3⟩ := needW a2.good 10 [41] 0 (fun _ => tIn (by simp)) (by simp)
  refine ⟨x, s2, by simp [innerS, a1, c1], ?_, a3⟩
  exact a2.trans c2

theorem litsW {LI : PF} {b : Nat} (HL : Fine0 LI b) : ∀ (f : Nat) (st : PSt) (xs : List Node), Good st.toks → (st.err = 0 → st.toks.length < f ∧ st.toks.length ≤ b + 1) → 1 ≤ f → ∃ ys st' k, litsL LI f xs st = some (ys, st') ∧ Stp st st' k ∧ cntL ys = cntL xs + k ∧ (st'.err = 0 → ∃ t, lookS st' 0 = some t ∧ t.kind = 10)
  | 0, st, xs, h, hf, h1 => by omega
  | f + 1, st, xs, h, hf, h1 => by
    obtain ⟨t, r, e, ht, h2, h3⟩ := lookG h
    unfold litsL
    by_cases he : st.err = 0
    · rw [if_pos he, isG ht]
      simp only [Option.bind_some]
      obtain ⟨hl1, hl2⟩ := hf he
      cases hc : isC st t 10 [41] with
      | true => exact ⟨xs, st, 0, by simp, Stp.refl h, by simp, fun _ => ⟨t, ht, (isC_ok hc).2⟩⟩
      | false =>
        simp only [Bool.false_eq_true, if_false]
        obtain ⟨x, c, s1, a1, a2, a3, _⟩ := plainW h
        rw [a1]
        simp only [Option.bind_some]
        cases c with
        | true =>
          obtain ⟨b1, b2, b3, b4⟩ := a2 rfl
          have hr : 1 ≤ s1.toks.length := by
            obtain ⟨t', r', e', _⟩ := b1.good.head
            rw [e']; simp
          obtain ⟨ys, st', k, d1, d2, d3, d4⟩ := litsW HL f s1 (xs ++ [x]) b1.good (fun _ => by omega) (by omega)
          refine ⟨ys, st', cnt x + k, by simp [d1], b1.trans d2, ?_, d4⟩
          rw [d3, cntL_app, cntL_cons, cntL_nil]; omega
        | false =>
          have := a3 rfl
          subst this
          simp only [Bool.false_eq_true, if_false]
          rw [isG ht]
          simp only [Option.bind_some]
          have nest : (t.kind = 7 ∨ t.kind = 10) → ∃ ys st' k, ((withinS LI s1).bind fun q => litsL LI f (xs ++ [q.1]) q.2) = some (ys, st') ∧ Stp s1 st' k ∧ cntL ys = cntL xs + k ∧ (st'.err = 0 → ∃ t, lookS st' 0 = some t ∧ t.kind = 10) := by
            intro hk
            obtain ⟨y, s2, b1, b2, b3, b4⟩ := withinW HL h ht hk (fun _ => hl2)
            by_cases he2 : s2.err = 0
            · have := b4 he2
              have hr : 1 ≤ s2.toks.length := by
                obtain ⟨t', r', e', _⟩ := b2.good.head
                rw [e']; simp
              obtain ⟨ys, st', k, d1, d2, d3, d4⟩ := litsW HL f s2 (xs ++ [y]) b2.good (fun _ => by omega) (by omega)
              refine ⟨ys, st', cnt y + k, by simp [b1, d1], b2.trans d2, ?_, d4⟩
              rw [d3, cntL_app, cntL_cons, cntL_nil]; omega
            · have hr : 1 ≤ f := by
                rw [e] at hl1
                simp at hl1
                omega
              obtain ⟨ys, st', k, d1, d2, d3, d4⟩ := litsW HL f s2 (xs ++ [y]) b2.good (fun e => absurd e he2) hr
              refine ⟨ys, st', cnt y + k, by simp [b1, d1], b2.trans d2, ?_, d4⟩
              rw [d3, cntL_app, cntL_cons, cntL_nil]; omega
          cases hc1 : isC s1 t 7 [] with
          | true =>
            simp only [if_true, Option.bind_some]
            exact nest (.inl (isC_ok hc1).2)
          | false =>
            simp only [Bool.false_eq_true, if_false]
            rw [isG ht]
            simp only [Option.bind_some]
            cases hc2 : isC s1 t 10 [40] with
            | true =>
              simp only [if_true]
              exact nest (.inr (isC_ok hc2).2)
            | false =>
              simp only [Bool.false_eq_true, if_false, ht, Option.bind_some]
              obtain ⟨f1, f2⟩ := failW h t 13 (by decide) (cnt x)
              have hr : 1 ≤ f := by rw [e] at hl1; simp at hl1; omega
              obtain ⟨ys, st', k, d1, d2, d3, d4⟩ := litsW HL f (failS s1 t 13) (xs ++ [x]) (by rw [failS_toks]; exact h) (fun e => absurd e f2) hr
              refine ⟨ys, st', cnt x + k, d1, f1.trans d2, ?_, d4⟩
              rw [d3, cntL_app, cntL_cons, cntL_nil]; omega
    · rw [if_neg he]
      exact ⟨xs, st, 0, rfl, Stp.refl h, by simp, fun e => absurd e he⟩

end Go.Dd

/- Dd, part U3: plain: the program's parser ends, and has just the names and literals of its tokens: all of it. -/
set_option linter.unusedVariables false
set_option linter.unusedSimpArgs false
set_option maxRecDepth 100000
namespace Go.Dd

theorem Good.pos {l : List Tok} (h : Good l) : 1 ≤ l.length := by
  obtain ⟨t, r, e, _⟩ := h.head
  rw [e]; simp

theorem literalsW {LI : PF} {b f : Nat} (HL : Fine0 LI b) (hf : b + 1 < f) : Fine0 (literalsS LI f) (b + 1) := by
  intro st h hb
  obtain ⟨ys, s1, k, a1, a2, a3, a4⟩ := litsW HL f st [] h (fun e => ⟨by have := hb e; omega, hb e⟩) (by omega)
  have hc : cnt (.mk 4 [] 0 [] [] ys) = k := by simp [cnt, a3, cntL]
  by_cases he : s1.err = 0
  · obtain ⟨t, ht, hk⟩ := a4 he
    obtain ⟨s2, b1, b2, b3, b4, b5, b6, b7, b8⟩ := takeW a2.good ht (by omega)
    refine ⟨.mk 4 [] 0 [] [] ys, s2, by simp [literalsS, a1, b1], ?_, Shp.flat _ _ _ _ _ _ (by decide)⟩
    rw [hc]
    exact a2.trans (b8 0 (by simp [T1, hk]) (by omega))
  · obtain ⟨t, s2, b1, b2, b3, c, b4, b5⟩ := takeE a2.good
    refine ⟨.mk 4 [] 0 [] [] ys, s2, by simp [literalsS, a1, b1], ?_, Shp.flat _ _ _ _ _ _ (by decide)⟩
    have he2 : s2.err ≠ 0 := by rw [b2]; exact he
    have : Stp s1 s2 0 := ⟨b3, fun _ => he2, c, b4, fun e => absurd e he2⟩
    exact (a2.trans this).any he2 _

theorem stmtsW {E : PF} {b : Nat} (HE : FineP E b) : ∀ (f : Nat) (st : PSt) (xs : List Node), Good st.toks → (st.err = 0 → st.toks.length ≤ f ∧ st.toks.length ≤ b) → 1 ≤ f → ∃ ys st' k, stmtsL E f xs st = some (ys, st') ∧ Stp st st' k ∧ cntL ys = cntL xs + k
  | 0, st, xs, h, hf, h1 => by omega
  | f + 1, st, xs, h, hf, h1 => by
    obtain ⟨t, r, e, ht, h2, h3⟩ := lookG h
    unfold stmtsL
    by_cases he : st.err = 0
    · rw [if_pos he, isG ht]
      simp only [Option.bind_some]
      obtain ⟨hl1, hl2⟩ := hf he
      have fin : ∃ ys st' k, some (xs, st) = some (ys, st') ∧ Stp st st' k ∧ cntL ys = cntL xs + k := ⟨xs, st, 0, rfl, Stp.refl h, by simp⟩
      cases hc : isC st t 0 [] with
      | true => simpa using fin
      | false =>
        simp only [Bool.false_eq_true, if_false]
        rw [isG ht]
        simp only [Option.bind_some]
        cases hc2 : isC st t 10 [93] with
        | true => simpa using fin
        | false =>
          simp only [Bool.false_eq_true, if_false]
          rw [isG ht]
          simp only [Option.bind_some]
          cases hc3 : isC st t 10 [94] with
          | true =>
            simp only [if_true]
            obtain ⟨c1, c2⟩ := isC_ok hc3
            obtain ⟨s1, a1, a2, a3, a4, a5, a6, a7, a8⟩ := takeW h ht (by omega)
            obtain ⟨x, s2, b1, b2, b3, b4⟩ := HE s1 a6 (fun _ => by omega)
            obtain ⟨u, r2, e2, hu, _, _⟩ := lookG b2.good
            have S1 := (a8 0 (by simp [T1, c2]) (by omega)).trans b2
            have hcn : cntL (xs ++ [Node.mk 10 [] 0 [] [] [x]]) = cntL xs + (0 + cnt x) := by rw [cntL_app, cntL_cons, cntL_nil]; simp [cnt, cntL]
            rw [a1]
            simp only [Option.bind_some, b1]
            rw [isG hu]
            simp only [Option.bind_some]
            cases hc4 : isC s2 u 10 [46] with
            | false => exact ⟨xs ++ [Node.mk 10 [] 0 [] [] [x]], s2, _, by simp, S1, hcn⟩
            | true =>
              obtain ⟨d1, d2⟩ := isC_ok hc4
              obtain ⟨s3, g1, g2, g3, g4, g5, g6, g7, g8⟩ := takeW b2.good hu (by omega)
              refine ⟨xs ++ [Node.mk 10 [] 0 [] [] [x]], s3, _, by simp [g1], S1.trans (g8 0 (by simp [T1, d2]) (by omega)), by rw [hcn]; omega⟩
          | false =>
            simp only [Bool.false_eq_true, if_false]
            obtain ⟨x, s2, b1, b2, b3, b4⟩ := HE st h (fun _ => hl2)
            obtain ⟨u, r2, e2, hu, _, _⟩ := lookG b2.good
            have hcn : cntL (xs ++ [x]) = cntL xs + cnt x := by rw [cntL_app, cntL_cons, cntL_nil]; omega
            rw [b1]
            simp only [Option.bind_some]
            rw [isG hu]
            simp only [Option.bind_some]
            cases hc4 : isC s2 u 10 [46] with
            | false => exact ⟨xs ++ [x], s2, _, by simp, b2, hcn⟩
            | true =>
              obtain ⟨d1, d2⟩ := isC_ok hc4
              obtain ⟨s3, g1, g2, g3, g4, g5, g6, g7, g8⟩ := takeW b2.good hu (by omega)
              have hlt := b4 d1
              have hp := g6.pos
              obtain ⟨ys, st', k, k1, k2, k3⟩ := stmtsW HE f s3 (xs ++ [x]) g6 (fun _ => by omega) (by omega)
              refine ⟨ys, st', _, by simp [g1, k1], (b2.trans (g8 0 (by simp [T1, d2]) (by omega))).trans k2, by rw [k3, hcn]; omega⟩
    · rw [if_neg he]
      exact ⟨xs, st, 0, rfl, Stp.refl h, by simp⟩

theorem barW {l : List (List Nat)} {st : PSt} (h : Good st.toks) : ∃ st', bar l st = some st' ∧ Stp st st' 0 := by
  obtain ⟨t, r, e, ht, h2, h3⟩ := lookG h
  unfold bar
  by_cases hl : 0 < l.length
  · rw [if_pos hl, isG ht]
    simp only [Option.bind_some]
    cases hc : isC st t 10 [93] with
    | true => exact ⟨st, by simp, Stp.refl h⟩
    | false =>
      obtain ⟨u, s1, a1, a2, a3⟩ := needW h 10 [124] 0 (fun _ => tIn (by simp)) (by simp)
      exact ⟨s1, by simp [a1], a2⟩
  · rw [if_neg hl]
    exact ⟨st, rfl, Stp.refl h⟩

theorem blockW {E : PF} {b f : Nat} (HE : FineP E b) (hf : b ≤ f) (h1 : 1 ≤ f) : Fine0 (blockS E f) b := by
  intro st h hb
  obtain ⟨l, s1, k, a1, a2, a3⟩ := paramsW f st [] h (fun e => by have := hb e; omega) h1
  obtain ⟨s2, b1, b2⟩ := barW (l := l) a2.good
  have S2 := a2.trans b2
  have lt : ∀ s : PSt, (∃ k, Stp st s k) → s.err = 0 → s.toks.length ≤ b := fun s ⟨k, S⟩ e => by
    have h1 := hb (S.ok e)
    have := S.len
    omega
  obtain ⟨ts, s3, c1, c2⟩ := tempsW (f := f) S2.good (fun e => by have := lt s2 ⟨_, S2⟩ e; omega) h1
  have S3 := S2.trans c2
  obtain ⟨ks, s4, k4, d1, d2, d3⟩ := stmtsW HE f s3 [] S3.good (fun e => by have := lt s3 ⟨_, S3⟩ e; omega) h1
  have S4 := S3.trans d2
  obtain ⟨u, s5, e1, e2, e3⟩ := needW S4.good 10 [93] 0 (fun _ => tIn (by simp)) (by simp)
  have S5 := S4.trans e2
  refine ⟨.mk 9 [] 0 l ts ks, s5, by simp [blockS, a1, b1, c1, d1, e1], ?_, Shp.flat _ _ _ _ _ _ (by decide)⟩
  have : cnt (.mk 9 [] 0 l ts ks) = k + 0 + ts.length + k4 + 0 := by
    simp [cnt, d3, cntL] at a3 ⊢
    omega
  rw [this]
  exact S5

theorem primaryW {LI E : PF} {b f : Nat} (HL : Fine0 LI b) (HE : FineP E b) (hf : b ≤ f) (h1 : 1 ≤ f) : FineP (primaryS LI E f) (b + 1) := by
  intro st h hb
  obtain ⟨t, r, e, ht, h2, h3⟩ := lookG h
  obtain ⟨x, c, s1, a1, a2, a3, a7⟩ := plainW h
  unfold primaryS
  rw [a1]
  simp only [Option.bind_some]
  cases c with
  | true =>
    obtain ⟨b1, b2, b3, b4⟩ := a2 rfl
    exact ⟨x, s1, by simp, b1, fun e7 => absurd e7 a7, fun _ => b2⟩
  | false =>
    have := a3 rfl
    subst this
    simp only [Bool.false_eq_true, if_false, ht, Option.bind_some]
    by_cases he : s1.err = 0
    · rw [if_pos he]
      by_cases k1 : t.kind = 1
      · rw [if_pos k1]
        obtain ⟨s2, c1, c2, c3, c4, c5, c6, c7, c8⟩ := takeW h ht (by omega)
        rw [c1]
        refine ⟨_, _, rfl, ?_, Shp.flat _ _ _ _ _ _ (by decide), fun _ => by show s2.toks.length < _; omega⟩
        have : cnt (.mk 5 t.text 0 [] [] []) = 1 := by simp [cnt, cntL]
        rw [this]
        exact c8 1 (by simp [T1, k1]) (by simp [T2, k1])
      · rw [if_neg k1]
        by_cases k7 : t.kind = 7
        · rw [if_pos k7]
          exact withinW HL h ht (.inl k7) hb
        · rw [if_neg k7, isG ht]
          simp only [Option.bind_some]
          cases hc : isC s1 t 10 [40] with
          | true =>
            simp only [if_true]
            exact withinW (innerW HE) h ht (.inr (isC_ok hc).2) hb
          | false =>
            simp only [Bool.false_eq_true, if_false]
            rw [isG ht]
            simp only [Option.bind_some]
            cases hc2 : isC s1 t 10 [91] with
            | true =>
              simp only [if_true]
              exact withinW (blockW HE hf h1) h ht (.inr (isC_ok hc2).2) hb
            | false =>
              simp only [Bool.false_eq_true, if_false]
              obtain ⟨f1, f2⟩ := failW h t 13 (by decide) (cnt zN)
              exact ⟨_, _, rfl, f1, Shp.flat _ _ _ _ _ _ (by decide), fun e => absurd e f2⟩
    · rw [if_neg he]
      exact ⟨_, _, rfl, (Stp.refl h).any he _, Shp.flat _ _ _ _ _ _ (by decide), fun e => absurd e he⟩

theorem binaryW {P : PF} {b g : Nat} (HP : FineP P b) (hg : b ≤ g) (hg1 : 1 ≤ g) : ∀ (f : Nat) (st : PSt) (x : Node), Good st.toks → (st.err = 0 → st.toks.length ≤ f ∧ st.toks.length ≤ b + 1) → 1 ≤ f →
    ∃ y st' k, binaryL P g f x st = some (y, st') ∧ Stp st st' k ∧ cnt y = cnt x + k ∧ (Shp x → Shp y)
  | 0, st, x, h, hf, h1 => by omega
  | f + 1, st, x, h, hf, h1 => by
    obtain ⟨t, r, e, ht, h2, h3⟩ := lookG h
    unfold binaryL
    rw [isG ht]
    simp only [Option.bind_some]
    cases hc : isC st t 3 [] with
    | false => exact ⟨x, st, 0, by simp, Stp.refl h, by simp, id⟩
    | true =>
      obtain ⟨c1, c2⟩ := isC_ok hc
      obtain ⟨hl1, hl2⟩ := hf c1
      obtain ⟨s1, a1, a2, a3, a4, a5, a6, a7, a8⟩ := takeW h ht (by omega)
      have hp := a6.pos
      obtain ⟨q, s2, b1, b2, b3, b4⟩ := HP s1 a6 (fun _ => by omega)
      have hl := b2.len
      obtain ⟨u, s3, ku, d1, d2, d3, d4⟩ := unaryW g s2 q b2.good (fun _ => by omega) hg1
      have hl3 := d2.len
      obtain ⟨y, st', k, k1, k2, k3, k4⟩ := binaryW HP hg hg1 f s3 (sendN t.text [x, u]) d2.good (fun _ => by omega) (by omega)
      refine ⟨y, st', 1 + cnt q + ku + k, by simp [a1, b1, d1, k1], (((a8 1 (by simp [T1, c2]) (by simp [T2, c2])).trans b2).trans d2).trans k2, ?_, fun _ => k4 (Shp.send _ _ _)⟩
      rw [k3, cnt_send, cntL_cons, cntL_cons, cntL_nil, d3]
      omega

/-- One argument of keywords. -/
theorem argW {P : PF} {b g : Nat} (HP : FineP P b) (hg : b + 1 ≤ g) {st : PSt} (h : Good st.toks) (hb : st.err = 0 → st.toks.length ≤ b) :
    ∃ q s2 u s3 w s4, P st = some (q, s2) ∧ unaryS g q s2 = some (u, s3) ∧ binaryL P g g u s3 = some (w, s4) ∧ Stp st s4 (cnt w) ∧ Shp w ∧ (s4.err = 0 → s4.toks.length < st.toks.length) := by
  obtain ⟨q, s2, b1, b2, b3, b4⟩ := HP st h hb
  have hl2 := b2.len
  obtain ⟨u, s3, ku, d1, d2, d3, d4⟩ := unaryW g s2 q b2.good (fun e => by have := hb (b2.ok e); omega) (by omega)
  have hl3 := d2.len
  obtain ⟨w, s4, k, k1, k2, k3, k4⟩ := binaryW (g := g) HP (by omega) (by omega) g s3 u d2.good (fun e => by have := hb (b2.ok (d2.ok e)); omega) (by omega)
  have hl4 := k2.len
  refine ⟨q, s2, u, s3, w, s4, b1, d1, k1, ?_, k4 (d4 b3), fun e => ?_⟩
  · rw [k3, d3]
    exact (b2.trans d2).trans k2
  · have := b4 (d2.ok (k2.ok e))
    omega

theorem keysLW {P : PF} {b g : Nat} (HP : FineP P b) (hg : b + 1 ≤ g) : ∀ (f : Nat) (st : PSt) (t : List Nat) (ks : List Node), Good st.toks → (st.err = 0 → st.toks.length ≤ f ∧ st.toks.length ≤ b + 1 ∧ t.length + st.toks.length * 10000 ≤ lim) → 1 ≤ f → ks ≠ [] →
    ∃ y st' k, keysL P g f t ks st = some (y, st') ∧ Stp st st' k ∧ cnt y = 1 + cntL ks + k ∧ Shp y
  | 0, st, t, ks, h, hf, h1, hk => by omega
  | f + 1, st, t, ks, h, hf, h1, hk => by
    obtain ⟨u, r, e, ht, h2, h3⟩ := lookG h
    unfold keysL
    rw [isG ht]
    simp only [Option.bind_some]
    cases hc : isC st u 2 [] with
    | false => exact ⟨sendN t ks, st, 0, by simp, Stp.refl h, by rw [cnt_send]; rfl, fun _ => ⟨t, ks, rfl, hk⟩⟩
    | true =>
      obtain ⟨c1, c2⟩ := isC_ok hc
      obtain ⟨hl1, hl2, hl3⟩ := hf c1
      obtain ⟨s1, a1, a2, a3, a4, a5, a6, a7, a8⟩ := takeW h ht (by omega)
      have hp := a6.pos
      have htx := h.text a7
      obtain ⟨q, s2, w, s3, v, s4, b1, b2, b3, b4, b5, b6⟩ := argW HP hg a6 (fun _ => by omega)
      have hl4 := b4.len
      obtain ⟨y, st', k, k1, k2, k3, k4⟩ := keysLW HP hg f s4 (t ++ u.text) (ks ++ [v]) b4.good (fun _ => ⟨by omega, by omega, by
        have : s4.toks.length * 10000 ≤ s1.toks.length * 10000 := Nat.mul_le_mul_right _ hl4
        have e2 : st.toks.length * 10000 = s1.toks.length * 10000 + 10000 := by rw [← a5]; omega
        simp
        omega⟩) (by omega) (by simp)
      refine ⟨y, st', 0 + cnt v + k, ?_, ((a8 0 (by simp [T1, c2]) (by omega)).trans b4).trans k2, ?_, k4⟩
      · simp only [if_true, a1, Option.bind_some]
        rw [if_pos (by omega)]
        simp [b1, b2, b3, k1]
      · rw [k3, cntL_app, cntL_cons, cntL_nil]; omega

theorem keysW {P : PF} {b g : Nat} (HP : FineP P b) (hg : b + 2 ≤ g) (hb : b ≤ 1000000) {st : PSt} {x : Node} (h : Good st.toks) (hf : st.err = 0 → st.toks.length ≤ b + 1) :
    ∃ y st' k, keysS P g x st = some (y, st') ∧ Stp st st' k ∧ cnt y = cnt x + k ∧ (Shp x → Shp y) ∧ ((∃ t, lookS st 0 = some t ∧ isC st t 2 [] = true) → ∃ t ks, y = sendN t (x :: ks)) := by
  obtain ⟨u, r, e, ht, h2, h3⟩ := lookG h
  unfold keysS
  rw [isG ht]
  simp only [Option.bind_some]
  cases hc : isC st u 2 [] with
  | false =>
    refine ⟨x, st, 0, by simp, Stp.refl h, by simp, id, ?_⟩
    rintro ⟨t, q1, q2⟩
    rw [ht] at q1
    cases q1
    rw [hc] at q2
    cases q2
  | true =>
    obtain ⟨c1, c2⟩ := isC_ok hc
    have hl := hf c1
    obtain ⟨s1, a1, a2, a3, a4, a5, a6, a7, a8⟩ := takeW h ht (by omega)
    have hp := a6.pos
    have htx := h.text a7
    obtain ⟨q, s2, w, s3, v, s4, b1, b2, b3, b4, b5, b6⟩ := argW (g := g) HP (by omega) a6 (fun _ => by omega)
    have hl4 := b4.len
    obtain ⟨g', rfl⟩ : ∃ g', g = g' + 1 := ⟨g - 1, by omega⟩
    have all : ∀ (f : Nat) (st : PSt) (t : List Nat) (ks : List Node) (y : Node) (st' : PSt), keysL P (g' + 1) f t (x :: ks) st = some (y, st') → ∃ t ks, y = sendN t (x :: ks) := by
      intro f
      induction f with
      | zero => intro st t ks y st' hk; cases hk
      | succ f ih =>
        intro st t ks y st' hk
        unfold keysL at hk
        obtain ⟨c, _, hk⟩ := Option.bind_eq_some_iff.1 hk
        split at hk
        · obtain ⟨_, _, hk⟩ := Option.bind_eq_some_iff.1 hk
          split at hk
          · obtain ⟨_, _, hk⟩ := Option.bind_eq_some_iff.1 hk
            obtain ⟨_, _, hk⟩ := Option.bind_eq_some_iff.1 hk
            obtain ⟨_, _, hk⟩ := Option.bind_eq_some_iff.1 hk
            exact ih _ _ _ _ _ hk
          · cases hk
        · cases hk
          exact ⟨_, _, rfl⟩
    obtain ⟨y, st', k, k1, k2, k3, k4⟩ := keysLW (g := g' + 1) HP (by omega) g' s4 ([] ++ u.text) ([x] ++ [v]) b4.good (fun _ => ⟨by omega, by omega, by
      have : s4.toks.length * 10000 ≤ 1000001 * 10000 := Nat.mul_le_mul_right _ (by omega)
      simp [lim]
      omega⟩) (by omega) (by simp)
    have hres : keysL P (g' + 1) (g' + 1) [] [x] st = some (y, st') := by
      unfold keysL
      rw [isG ht, hc]
      simp only [Option.bind_some, if_true, a1]
      rw [if_pos (by simp [lim]; omega)]
      simp only [Option.bind_some, b1, b2, b3]
      exact k1
    refine ⟨y, st', 1 + cnt v + k, by simpa using hres, ((a8 1 (by simp [T1, c2]) (by simp [T2, c2])).trans b4).trans k2, ?_, fun _ => k4, fun _ => all _ _ _ _ _ _ hres⟩
    rw [k3, cntL_app, cntL_cons, cntL_cons, cntL_nil]; omega

theorem cnt_zN : cnt zN = 1 := by simp [zN, cnt, cntL]
theorem msgN_send (t : List Nat) (x : Node) (ks : List Node) : msgN (sendN t (x :: ks)) = sendN t ks := by simp [msgN, sendN, Node.kids, Node.text]

theorem msgW {P : PF} {b g : Nat} (HP : FineP P b) (hg : b + 2 ≤ g) (hb : b ≤ 1000000) {st : PSt} (h : Good st.toks) (hf : st.err = 0 → st.toks.length ≤ b + 1) :
    ∃ y st', msgS P g st = some (y, st') ∧ Stp st st' (cnt (msgN y)) := by
  obtain ⟨t, r, e, ht, h2, h3⟩ := lookG h
  unfold msgS
  rw [ht]
  simp only [Option.bind_some]
  have any : ∀ {y : Node} {st' : PSt} {k : Nat}, Stp st st' k → (st.err = 0 → k = cnt (msgN y)) → Stp st st' (cnt (msgN y)) := fun S hk => S.cast (fun e => hk (S.ok e))
  by_cases k1 : t.kind = 1
  · rw [if_pos k1]
    obtain ⟨s1, a1, a2, a3, a4, a5, a6, a7, a8⟩ := takeW h ht (by omega)
    rw [a1]
    refine ⟨_, _, rfl, ?_⟩
    rw [msgN_send, cnt_send, cntL_nil]
    exact a8 1 (by simp [T1, k1]) (by simp [T2, k1])
  · rw [if_neg k1]
    by_cases k3 : t.kind = 3
    · rw [if_pos k3]
      obtain ⟨s1, a1, a2, a3, a4, a5, a6, a7, a8⟩ := takeW h ht (by omega)
      have hp := a6.pos
      obtain ⟨q, s2, b1, b2, b3, b4⟩ := HP s1 a6 (fun e => by have := hf (by rw [← a2]; exact e); omega)
      have hl := b2.len
      obtain ⟨u, s3, ku, d1, d2, d3, d4⟩ := unaryW g s2 q b2.good (fun e => by have := hf (by rw [← a2]; exact b2.ok e); omega) (by omega)
      simp only [a1, Option.bind_some, b1, d1]
      refine ⟨_, _, rfl, ?_⟩
      rw [msgN_send, cnt_send, cntL_cons, cntL_nil, d3]
      have := ((a8 1 (by simp [T1, k3]) (by simp [T2, k3])).trans b2).trans d2
      have e2 : 1 + cnt q + ku = 1 + (cnt q + ku + 0) := by omega
      rwa [e2] at this
    · rw [if_neg k3]
      by_cases k2 : t.kind = 2
      · rw [if_pos k2]
        obtain ⟨y, st', k, b1, b2, b3, b4, b5⟩ := keysW (x := zN) HP hg hb h hf
        refine ⟨y, st', b1, b2.cast fun e => ?_⟩
        have he := b2.ok e
        obtain ⟨tt, ks, rfl⟩ := b5 ⟨t, ht, by simp [isC, he, k2]⟩
        rw [msgN_send, cnt_send]
        rw [cnt_send, cntL_cons, cnt_zN] at b3
        omega
      · rw [if_neg k2]
        obtain ⟨f1, f2⟩ := failW h t 13 (by decide) (cnt (msgN zN))
        exact ⟨_, _, rfl, f1⟩

theorem casW {P : PF} {b g : Nat} (HP : FineP P b) (hg : b + 2 ≤ g) (hb : b ≤ 1000000) : ∀ (f : Nat) (st : PSt) (ks : List Node), Good st.toks → (st.err = 0 → st.toks.length ≤ f ∧ st.toks.length ≤ b + 1) → 1 ≤ f →
    ∃ y st' k, casL P g f ks st = some (y, st') ∧ Stp st st' k ∧ cnt y = cntL ks + k ∧ Shp y
  | 0, st, ks, h, hf, h1 => by omega
  | f + 1, st, ks, h, hf, h1 => by
    obtain ⟨t, r, e, ht, h2, h3⟩ := lookG h
    unfold casL
    rw [isG ht]
    simp only [Option.bind_some]
    cases hc : isC st t 10 [59] with
    | false => exact ⟨.mk 8 [] 0 [] [] ks, st, 0, by simp, Stp.refl h, by simp [cnt], Shp.flat _ _ _ _ _ _ (by decide)⟩
    | true =>
      obtain ⟨c1, c2⟩ := isC_ok hc
      obtain ⟨hl1, hl2⟩ := hf c1
      obtain ⟨s1, a1, a2, a3, a4, a5, a6, a7, a8⟩ := takeW h ht (by omega)
      have hp := a6.pos
      obtain ⟨q, s2, b1, b2⟩ := msgW HP hg hb a6 (fun _ => by omega)
      have hl := b2.len
      obtain ⟨y, st', k, k1, k2, k3, k4⟩ := casW HP hg hb f s2 (ks ++ [msgN q]) b2.good (fun _ => by omega) (by omega)
      refine ⟨y, st', 0 + cnt (msgN q) + k, by simp [a1, b1, k1], ((a8 0 (by simp [T1, c2]) (by omega)).trans b2).trans k2, ?_, k4⟩
      rw [k3, cntL_app, cntL_cons, cntL_nil]; omega

theorem cascadeW {P : PF} {b g : Nat} (HP : FineP P b) (hg : b + 2 ≤ g) (hb : b ≤ 1000000) : FineP (cascadeS P g) b := by
  intro st h hbd
  obtain ⟨q, s2, u, s3, w, s4, b1, b2, b3, b4, b5, b6⟩ := argW (g := g) HP (by omega) h hbd
  have hl4 := b4.len
  obtain ⟨y, s5, k, d1, d2, d3, d4, d5⟩ := keysW (x := w) HP hg hb b4.good (fun e => by have := hbd (b4.ok e); omega)
  have hl5 := d2.len
  obtain ⟨t, r, e, ht, h2, h3⟩ := lookG d2.good
  have S5 := b4.trans d2
  have hS : Stp st s5 (cnt y) := by rw [d3]; exact S5
  have hlt : s5.err = 0 → s5.toks.length < st.toks.length := fun e => by
    have := b6 (d2.ok e)
    omega
  unfold cascadeS
  simp only [b1, Option.bind_some, b2, b3, d1]
  rw [isG ht]
  simp only [Option.bind_some]
  cases hc : isC s5 t 10 [59] with
  | false => exact ⟨y, s5, by simp, hS, d4 b5, hlt⟩
  | true =>
    obtain ⟨c1, c2⟩ := isC_ok hc
    simp only [if_true]
    by_cases k7 : y.kind = 7
    · rw [if_pos k7]
      obtain ⟨tx, ks, rfl, hks⟩ := d4 b5 k7
      cases ks with
      | nil => exact absurd rfl hks
      | cons k0 ks =>
        have : (sendN tx (k0 :: ks)).kids[0]? = some k0 := rfl
        rw [this]
        simp only [Option.bind_some, msgN_send]
        have hl := hbd (S5.ok c1)
        obtain ⟨z, s6, k6, e1, e2, e3, e4⟩ := casW HP hg hb g s5 [k0, sendN tx ks] d2.good (fun _ => by omega) (by omega)
        have hl6 := e2.len
        refine ⟨z, s6, e1, ?_, e4, fun e => by have := hlt (e2.ok e); omega⟩
        have := hS.trans e2
        have ec : cnt (sendN tx (k0 :: ks)) + k6 = cnt z := by
          rw [e3, cnt_send, cntL_cons, cntL_cons, cntL_cons, cntL_nil, cnt_send]; omega
        rwa [ec] at this
    · rw [if_neg k7, ht]
      simp only [Option.bind_some]
      obtain ⟨f1, f2⟩ := failW d2.good t 13 (by decide) 0
      exact ⟨_, _, rfl, hS.trans f1, d4 b5, fun e => absurd e f2⟩

theorem exprW {P E : PF} {b g : Nat} (HP : FineP P b) (HE : b = 0 ∨ FineP E (b - 1)) (hg : b + 2 ≤ g) (hb : b ≤ 1000000) : FineP (exprS P E g) b := by
  intro st h hbd
  obtain ⟨t, r, e, ht, h2, h3⟩ := lookG h
  obtain ⟨u, hu⟩ := look1 h
  unfold exprS
  rw [isG ht]
  simp only [Option.bind_some]
  cases hc : isC st t 1 [] with
  | false =>
    simp only [Bool.false_eq_true, if_false, Option.bind_some]
    exact cascadeW HP hg hb st h hbd
  | true =>
    simp only [if_true, hu, Option.bind_some]
    by_cases k9 : u.kind = 9
    · rw [decide_eq_true k9]
      simp only [if_true]
      obtain ⟨c1, c2⟩ := isC_ok hc
      obtain ⟨s1, a1, a2, a3, a4, a5, a6, a7, a8⟩ := takeW h ht (by omega)
      have hu1 : lookS s1 0 = some u := by
        have hp := a6.pos
        have e1 : st.toks.length - 1 = s1.toks.length := by omega
        unfold lookS at hu ⊢
        rw [a7] at hu
        simp at hu ⊢
        rw [show min 1 s1.toks.length = 0 + 1 by omega] at hu
        simpa using hu
      obtain ⟨s2, b1, b2, b3, b4, b5, b6, b7, b8⟩ := takeW a6 hu1 (by omega)
      have hl := hbd c1
      have hp := b6.pos
      have HE' : FineP E (b - 1) := HE.resolve_left (by omega)
      obtain ⟨x, s3, d1, d2, d3, d4⟩ := HE' s2 b6 (fun _ => by omega)
      have hl3 := d2.len
      simp only [a1, Option.bind_some, b1, d1]
      refine ⟨_, _, rfl, ?_, Shp.flat _ _ _ _ _ _ (by decide), fun e => by show s3.toks.length < _; omega⟩
      have : cnt (.mk 6 t.text 0 [] [] [x]) = 1 + 0 + cnt x := by simp [cnt, cntL]
      rw [this]
      exact ((a8 1 (by simp [T1, c2]) (by simp [T2, c2])).trans (b8 0 (by simp [T1, k9]) (by omega))).trans d2
    · rw [decide_eq_false k9]
      simp only [Bool.false_eq_true, if_false]
      exact cascadeW HP hg hb st h hbd

theorem litFW : ∀ (f : Nat), 3 ≤ f → Fine0 (litF f) (f - 3)
  | 0, h => by omega
  | f + 1, h => by
    by_cases h3 : f = 2
    · subst h3
      intro st g hb
      have he : st.err ≠ 0 := fun e => by have := hb e; have := g.pos; omega
      unfold litF literalsS litsL
      rw [if_neg he]
      obtain ⟨t, s2, b1, b2, b3, c, b4, b5⟩ := takeE g
      have he2 : s2.err ≠ 0 := by rw [b2]; exact he
      refine ⟨.mk 4 [] 0 [] [] [], s2, by simp [b1], ⟨b3, fun _ => he2, c, b4, fun e => absurd e he2⟩, Shp.flat _ _ _ _ _ _ (by decide)⟩
    · have := literalsW (f := f) (litFW f (by omega)) (by omega)
      rw [show f - 3 + 1 = f + 1 - 3 by omega] at this
      exact this

theorem primaryErr (LI E : PF) (f : Nat) : FineP (primaryS LI E f) 0 := by
  intro st h hb
  have he : st.err ≠ 0 := fun e => by have := hb e; have := h.pos; omega
  obtain ⟨t, r, e, ht, h2, h3⟩ := lookG h
  obtain ⟨x, c, s1, a1, a2, a3, a7⟩ := plainW h
  unfold primaryS
  rw [a1]
  simp only [Option.bind_some]
  cases c with
  | true => exact absurd (a2 rfl).2.2.1 he
  | false =>
    have := a3 rfl
    subst this
    simp only [Bool.false_eq_true, if_false, ht, Option.bind_some]
    rw [if_neg he]
    exact ⟨_, _, rfl, (Stp.refl h).any he _, Shp.flat _ _ _ _ _ _ (by decide), fun e => absurd e he⟩

theorem exprFW : ∀ (f : Nat), 3 ≤ f → f ≤ 1000000 → FineP (exprF f) (f - 3)
  | 0, h, _ => by omega
  | f + 1, h, hm => by
    by_cases h3 : f = 2
    · subst h3
      exact exprW (b := 0) (g := 2) (primaryErr (litF 2) (exprF 2) 2) (.inl rfl) (by decide) (by decide)
    · have HE := exprFW f (by omega) (by omega)
      have HL := litFW f (by omega)
      have := exprW (P := primaryS (litF f) (exprF f) f) (E := exprF f) (b := f - 3 + 1) (g := f) (primaryW HL HE (by omega) (by omega)) (.inr HE) (by omega) (by omega)
      rw [show f - 3 + 1 = f + 1 - 3 by omega] at this
      exact this

/-- A source whose tokens are good is read, or refused; what is read has just the names and literals of its tokens. -/
theorem readW {f : Nat} {l : List Tok} (h : Good l) (hf : l.length + 3 ≤ f) (hm : f ≤ 1000000) : ∃ x at_ e, readM doitS f (l, 0, 0) = some (x, at_, e) ∧ (e = 0 → least l ≤ cnt x ∧ cnt x ≤ most l) := by
  unfold readM
  rw [if_pos rfl]
  have h0 : Good (⟨l, 0, 0, 0⟩ : PSt).toks := h
  obtain ⟨ts, s2, b1, b2⟩ := tempsW (f := f) h0 (fun _ => by show l.length ≤ f; omega) (by omega)
  have hl2 := b2.len
  have hl2 : s2.toks.length ≤ l.length := hl2
  obtain ⟨ks, s3, k, c1, c2, c3⟩ := stmtsW (exprFW f (by omega) hm) f s2 [] b2.good (fun _ => by omega) (by omega)
  obtain ⟨u, s4, d1, d2, d3⟩ := needW c2.good 0 [] 0 (fun h => absurd rfl h) (fun _ => rfl)
  simp only [doitS, Option.bind_some, b1, c1, d1]
  by_cases he : s4.err = 0
  · rw [if_pos he]
    refine ⟨_, _, _, rfl, fun _ => ?_⟩
    have S := (b2.trans c2).trans d2
    obtain ⟨c, e1, e2⟩ := S.run
    have e1 : l = c ++ s4.toks := e1
    obtain ⟨e3, e4⟩ := e2 he
    obtain ⟨f1, f2⟩ := d3 he
    -- what is left is the end
    have hcn : cnt (Node.with (.mk 11 [100, 111, 73, 116] 0 [] [] []) ts ks) = ts.length + k + 0 := by
      simp [Node.with, cnt, c3, cntL]
    have hrest : s4.toks = s3.toks ∧ ∃ t, s3.toks = [t] ∧ t.kind = 0 := by
      obtain ⟨t, r, e, ht, h2, h3⟩ := lookG c2.good
      unfold needS at d1
      rw [isG ht] at d1
      simp only [Option.bind_some] at d1
      cases hc : isC s3 t 0 [] with
      | false =>
        rw [hc] at d1
        simp only [Bool.false_eq_true, if_false, ht, Option.bind_some, Option.some.injEq, Prod.mk.injEq] at d1
        obtain ⟨_, rfl⟩ := d1
        exact absurd he (failW c2.good t 13 (by decide) 0).2
      | true =>
        rw [hc] at d1
        have hk := (isC_ok hc).2
        rw [if_pos rfl, take0 c2.good e hk] at d1
        simp only [Option.some.injEq, Prod.mk.injEq] at d1
        obtain ⟨_, rfl⟩ := d1
        exact ⟨rfl, t, by rw [e, h2 hk], hk⟩
    obtain ⟨r1, t, r2, r3⟩ := hrest
    rw [r1, r2] at e1
    rw [e1, hcn]
    simp only [least, most, List.map_append, List.sum_append, List.map_cons, List.map_nil, List.sum_cons, List.sum_nil] at e3 e4 ⊢
    have z1 : T1 t = 0 := by simp [T1, r3]
    have z2 : T2 t = 0 := by simp [T2, r3]
    omega
  · rw [if_neg he]
    exact ⟨_, _, _, rfl, fun e => absurd e he⟩

end Go.Dd

/- Dd, part T15: the document's lexer: bytes, names, blanks and remarks. -/
set_option linter.unusedVariables false
set_option linter.unusedSimpArgs false
set_option maxRecDepth 100000
namespace Go.Dd
open Go.Proofs

end Go.Dd

/- Dd, part T16: the document's lexer: blanks and remarks, texts, numbers. -/
set_option linter.unusedVariables false
set_option linter.unusedSimpArgs false
set_option maxRecDepth 100000
namespace Go.Dd
open Go.Proofs

end Go.Dd

/- Dd, part T17: the document's lexer: texts, symbols. -/
set_option linter.unusedVariables false
set_option linter.unusedSimpArgs false
set_option maxRecDepth 100000
namespace Go.Dd
open Go.Proofs

section
variable {I : Im} {A Q L : Ls} {s : List Nat} {p0 : Int} {k0 : Int} {m0 : Int} {b3 b4 : Pos} {z : List DV}

end
end Go.Dd

/- Dd, part T18: the document's lexer: symbols. -/
set_option linter.unusedVariables false
set_option linter.unusedSimpArgs false
set_option maxRecDepth 100000
namespace Go.Dd
open Go.Proofs

theorem nameM_take {u : List Nat} (h : (nameM u).2.1 = 0) : (nameM u).1 = u.take (nameM u).2.2 := by
  unfold nameM at h ⊢
  split at h
  · cases h
  · rename_i hn
    rw [if_neg hn]
    exact (take_tw nameB u).symm

theorem nameM_len (u : List Nat) : (nameM u).2.2 = (u.takeWhile nameB).length := by
  unfold nameM; split <;> rfl
theorem colon_head {u : List Nat} (h : colonM u = true) : ∃ v, u = 58 :: v := by
  unfold colonM at h
  cases u with
  | nil => simp [nx] at h
  | cons c v =>
    simp [nx] at h
    exact ⟨v, by rw [h.1]⟩

theorem take_colon {u : List Nat} {n : Nat} (h : colonM (u.drop n) = true) : u.take (n + 1) = u.take n ++ [58] := by
  obtain ⟨v, e⟩ := colon_head h
  have : u[n]? = some 58 := by
    have : (u.drop n)[0]? = some 58 := by rw [e]; rfl
    simpa using this
  rw [List.take_add_one, this]
  rfl

theorem symL_take : ∀ (f : Nat) (out u : List Nat) (res : List Nat × Int × Nat), symL f out u = some res → res.2.2 ≤ u.length ∧ (res.2.1 = 0 → res.1 = out ++ u.take res.2.2) := by
  intro f
  induction f with
  | zero => intro out u res h; cases h
  | succ f ih =>
    intro out u res h
    unfold symL at h
    have hn := nameM_le u
    split at h
    · split at h
      · rename_i h1 h2
        have hc := colon_lt h2
        simp at hc
        split at h
        · rename_i h3
          obtain ⟨r, hr, h⟩ := Option.bind_eq_some_iff.1 h
          cases h
          obtain ⟨a1, a2⟩ := ih _ _ _ hr
          simp at a1
          refine ⟨by show r.2.2 + ((nameM u).2.2 + 1) ≤ _; omega, fun he => ?_⟩
          show r.1 = out ++ u.take (r.2.2 + ((nameM u).2.2 + 1))
          rw [a2 he, nameM_take h3, Nat.add_comm r.2.2, List.take_add, take_colon h2]
          simp
        · cases h
          refine ⟨by show (nameM u).2.2 + 1 ≤ _; omega, fun he => ?_⟩
          rename_i h3
          exact absurd he h3
      · cases h
        exact ⟨by simp, fun _ => by simp⟩
    · cases h
      exact ⟨by simp, fun _ => by simp⟩

theorem symbolM_take {f : Nat} {u : List Nat} {res : List Nat × Int × Nat} (h : symbolM f u = some res) : res.2.2 ≤ u.length ∧ (res.2.1 = 0 → res.1 = u.take res.2.2) := by
  unfold symbolM at h
  have hn := nameM_le u
  split at h
  · split at h
    · split at h
      · rename_i h3
        split at h
        · rename_i h4
          obtain ⟨r, hr, h⟩ := Option.bind_eq_some_iff.1 h
          cases h
          have hc := colon_lt h4
          simp at hc
          obtain ⟨a1, a2⟩ := symL_take _ _ _ _ hr
          simp at a1
          refine ⟨by show r.2.2 + ((nameM u).2.2 + 1) ≤ _; omega, fun he => ?_⟩
          show r.1 = u.take (r.2.2 + ((nameM u).2.2 + 1))
          rw [a2 he, nameM_take h3, Nat.add_comm r.2.2, List.take_add, take_colon h4]
        · cases h
          exact ⟨hn, fun _ => nameM_take h3⟩
      · cases h
        rename_i h3
        exact ⟨hn, fun he => absurd he h3⟩
    · cases h
      exact ⟨by simp, fun he => (by cases he)⟩
  · cases h
    exact ⟨runN_le _ _ _, fun _ => rfl⟩

section
variable {I : Im} {A Q L : Ls} {s : List Nat} {b3 b4 : Pos} {z : List DV}

end
end Go.Dd

/- Dd, part U4: plain: a source of at most 2000 bytes has tokens, good ones, or is refused. -/
set_option linter.unusedVariables false
set_option linter.unusedSimpArgs false
set_option maxRecDepth 100000
namespace Go.Dd

theorem textD : ∀ (f : Nat) (out u : List Nat), u.length < f → ∃ res, textM f out u = some res ∧ res.2.2 ≤ u.length ∧ (res.2.1 = 0 → 1 ≤ res.2.2 ∧ res.1.length ≤ out.length + u.length)
  | 0, out, u, h => by omega
  | f + 1, out, u, h => by
    have hl := tw_le textB u
    unfold textM
    by_cases h1 : (u.takeWhile textB).length = u.length
    · rw [if_pos h1]
      exact ⟨_, rfl, Nat.le_refl _, fun e => by cases e⟩
    · rw [if_neg h1]
      by_cases h2 : nx u ((u.takeWhile textB).length + 1) = 39
      · rw [if_pos h2]
        have h3 : (u.takeWhile textB).length + 1 < u.length := by
          apply Decidable.byContradiction
          intro hn
          rw [nx, List.getD, List.getElem?_eq_none (by omega)] at h2
          cases h2
        obtain ⟨res, a1, a2, a3⟩ := textD f (out ++ u.takeWhile textB ++ [39]) (u.drop ((u.takeWhile textB).length + 2)) (by simp; omega)
        rw [a1]
        simp at a2
        refine ⟨_, rfl, by show res.2.2 + _ ≤ _; omega, fun e => ?_⟩
        obtain ⟨b1, b2⟩ := a3 e
        simp at b2
        refine ⟨by show 1 ≤ res.2.2 + _; omega, ?_⟩
        show res.1.length ≤ _
        omega
      · rw [if_neg h2]
        refine ⟨_, rfl, by show _ + 1 ≤ _; omega, fun _ => ⟨by show 1 ≤ _ + 1; omega, ?_⟩⟩
        show (out ++ u.takeWhile textB).length ≤ _
        simp
        omega

theorem symLD : ∀ (f : Nat) (out u : List Nat), u.length < f → ∃ res, symL f out u = some res
  | 0, out, u, h => by omega
  | f + 1, out, u, h => by
    unfold symL
    split
    · split
      · rename_i h1 h2
        split
        · have hc := colon_lt h2
          simp at hc
          obtain ⟨res, a1⟩ := symLD f (out ++ ((nameM u).1 ++ [58])) (u.drop ((nameM u).2.2 + 1)) (by simp; omega)
          rw [a1]
          exact ⟨_, rfl⟩
        · exact ⟨_, rfl⟩
      · exact ⟨_, rfl⟩
    · exact ⟨_, rfl⟩

theorem name_pos {u : List Nat} (h : letterB (nx u 0) = true) : 1 ≤ (nameM u).2.2 := by
  rw [nameM_len]
  cases u with
  | nil => simp [nx, letterB] at h
  | cons c u =>
    have : nameB c = true := by
      have : letterB c = true := h
      simp [nameB, this]
    simp [this]

theorem symbolD {f : Nat} {u : List Nat} (h : u.length < f) : ∃ res, symbolM f u = some res := by
  unfold symbolM
  split
  · split
    · split
      · split
        · obtain ⟨res, a1⟩ := symLD f ((nameM u).1 ++ [58]) (u.drop ((nameM u).2.2 + 1)) (by simp; omega)
          rw [a1]
          exact ⟨_, rfl⟩
        · exact ⟨_, rfl⟩
      · exact ⟨_, rfl⟩
    · exact ⟨_, rfl⟩
  · exact ⟨_, rfl⟩

theorem run_pos {l : List Nat} {m : Nat} (hm : 1 ≤ m) {u : List Nat} (hu : u ≠ []) (h : inB l (nx u 0) = true) : 1 ≤ runN (inB l) m u := by
  obtain ⟨m, rfl⟩ : ∃ k, m = k + 1 := ⟨m - 1, by omega⟩
  cases u with
  | nil => exact absurd rfl hu
  | cons c u =>
    have : inB l c = true := h
    simp [runN, this]

/-- A token, or an error. -/
theorem tokenD {f : Nat} {u : List Nat} (hu : u ≠ []) (h : u.length < f) : ∃ res, tokenM f u = some res ∧ (res.2.2.2.1 = 0 → 1 ≤ res.2.2.2.2 ∧ res.2.2.2.2 ≤ u.length ∧ res.1 ≠ 0 ∧ res.2.1.length ≤ u.length) := by
  have hn := nameM_le u
  have hf := nameM_fit u
  have hpos : 1 ≤ u.length := by cases u with
    | nil => exact absurd rfl hu
    | cons => simp
  unfold tokenM
  by_cases h1 : letterB (nx u 0) = true
  · have hp := name_pos h1
    rw [if_pos h1]
    by_cases h2 : (nameM u).2.1 = 0
    · rw [if_pos h2]
      by_cases h3 : colonM (u.drop (nameM u).2.2) = true
      · rw [if_pos h3]
        have hc := colon_lt h3
        simp at hc
        refine ⟨_, rfl, fun _ => ⟨by show 1 ≤ _ + 1; omega, by show _ + 1 ≤ _; omega, by show (2 : Int) ≠ 0; decide, ?_⟩⟩
        show ((nameM u).1 ++ [58]).length ≤ _
        simp; omega
      · rw [if_neg h3]
        exact ⟨_, rfl, fun _ => ⟨hp, hn, by show (1 : Int) ≠ 0; decide, by show (nameM u).1.length ≤ _; omega⟩⟩
    · rw [if_neg h2]
      exact ⟨_, rfl, fun e => absurd e h2⟩
  · rw [if_neg h1]
    by_cases h2 : digitB (nx u 0) = true
    · rw [if_pos h2]
      have hl := tw_le digitB u
      refine ⟨_, rfl, fun _ => ⟨?_, hl, by show (4 : Int) ≠ 0; decide, by simp⟩⟩
      show 1 ≤ (u.takeWhile digitB).length
      cases u with
      | nil => exact absurd rfl hu
      | cons c u =>
        have : digitB c = true := h2
        simp [this]
    · rw [if_neg h2]
      by_cases h3 : nx u 0 = 39
      · rw [if_pos h3]
        obtain ⟨res, a1, a2, a3⟩ := textD f [] (u.drop 1) (by simp; omega)
        rw [a1]
        simp at a2
        refine ⟨_, rfl, fun e => ?_⟩
        obtain ⟨b1, b2⟩ := a3 e
        simp at b2
        exact ⟨by show 1 ≤ res.2.2 + 1; omega, by show res.2.2 + 1 ≤ _; omega, by show (5 : Int) ≠ 0; decide, by show res.1.length ≤ _; omega⟩
      · rw [if_neg h3]
        by_cases h4 : nx u 0 = 35
        · rw [if_pos h4]
          by_cases h5 : nx u 1 = 40
          · rw [if_pos h5]
            have : 1 < u.length := by
              apply Decidable.byContradiction
              intro hn
              rw [nx, List.getD, List.getElem?_eq_none (by omega)] at h5
              cases h5
            exact ⟨_, rfl, fun _ => ⟨by show 1 ≤ 2; omega, by show 2 ≤ _; omega, by show (7 : Int) ≠ 0; decide, by simp⟩⟩
          · rw [if_neg h5]
            obtain ⟨res, a1⟩ := symbolD (f := f) (u := u.drop 1) (by simp; omega)
            obtain ⟨b1, b2⟩ := symbolM_take a1
            rw [a1]
            simp at b1
            refine ⟨_, rfl, fun e => ⟨by show 1 ≤ res.2.2 + 1; omega, by show res.2.2 + 1 ≤ _; omega, by show (6 : Int) ≠ 0; decide, ?_⟩⟩
            show res.1.length ≤ _
            rw [b2 e]
            simp; omega
        · rw [if_neg h4]
          by_cases h5 : nx u 0 = 58 ∧ nx u 1 = 61
          · rw [if_pos h5]
            have : 1 < u.length := by
              apply Decidable.byContradiction
              intro hn
              have := h5.2
              rw [nx, List.getD, List.getElem?_eq_none (by omega)] at this
              cases this
            exact ⟨_, rfl, fun _ => ⟨by show 1 ≤ 2; omega, by show 2 ≤ _; omega, by show (9 : Int) ≠ 0; decide, by simp⟩⟩
          · rw [if_neg h5]
            by_cases h6 : nx u 0 = 58 ∧ letterB (nx u 1) = true
            · rw [if_pos h6]
              have n1 := nameM_le (u.drop 1)
              have n2 := nameM_fit (u.drop 1)
              rw [List.length_drop] at n1
              exact ⟨_, rfl, fun _ => ⟨by show 1 ≤ _ + 1; omega, by show _ + 1 ≤ _; omega, by show (8 : Int) ≠ 0; decide, by show (nameM (u.drop 1)).1.length ≤ _; omega⟩⟩
            · rw [if_neg h6]
              by_cases h7 : inB signs (nx u 0) = true
              · rw [if_pos h7]
                have r1 := run_pos (m := 2) (by omega) hu h7
                have r2 := runN_le (inB signs) 2 u
                refine ⟨_, rfl, fun _ => ⟨r1, r2, by show (3 : Int) ≠ 0; decide, ?_⟩⟩
                show (u.take _).length ≤ _
                simp; omega
              · rw [if_neg h7]
                by_cases h8 : inB marks (nx u 0) = true
                · rw [if_pos h8]
                  have r1 := run_pos (m := 1) (by omega) hu h8
                  have r2 := runN_le (inB marks) 1 u
                  refine ⟨_, rfl, fun _ => ⟨r1, r2, by show (10 : Int) ≠ 0; decide, ?_⟩⟩
                  show (u.take _).length ≤ _
                  simp; omega
                · rw [if_neg h8]
                  exact ⟨_, rfl, fun e => (by cases e)⟩

theorem toksD {g : Nat} {s : List Nat} (hg : s.length < g) (hs : s.length ≤ 10000) : ∀ (f i : Nat) (out : List Tok), i ≤ s.length → s.length < f + i → ∃ res, toksM g s f i out = some res ∧
    (res.2.2 = 0 → ∃ l e, res.1 = out ++ l ++ [e] ∧ e.kind = 0 ∧ e.text = [] ∧ (∀ t ∈ l, t.kind ≠ 0 ∧ t.text.length ≤ 10000) ∧ l.length + i ≤ s.length)
  | 0, i, out, hi, hf => by omega
  | f + 1, i, out, hi, hf => by
    unfold toksM
    have hle := tw_le (inB blanks) (s.drop i)
    have hdl : (s.drop i).length = s.length - i := by simp
    generalize hw : ((s.drop i).takeWhile (inB blanks)).length = w at hle
    by_cases h1 : s.length ≤ i + w
    · rw [if_pos h1]
      exact ⟨_, rfl, fun _ => ⟨[], _, by simp; rfl, rfl, rfl, by simp, by simp; omega⟩⟩
    · rw [if_neg h1]
      by_cases h2 : nx s (i + w) = 34
      · rw [if_pos h2]
        by_cases h3 : idxGo 34 (s.drop (i + w + 1)) 0 < 0
        · rw [if_pos h3]
          exact ⟨_, rfl, fun e => (by cases e)⟩
        · rw [if_neg h3]
          obtain ⟨k, k1, k2⟩ := idxGo_lt 34 _ _ h3
          rw [k2]
          simp at k1
          simp only [Nat.zero_add, Int.toNat_natCast]
          obtain ⟨res, a1, a2⟩ := toksD hg hs f (i + w + k + 2) out (by omega) (by omega)
          refine ⟨res, a1, fun e => ?_⟩
          obtain ⟨l, e', b1, b2, b3, b4, b5⟩ := a2 e
          exact ⟨l, e', b1, b2, b3, b4, by omega⟩
      · rw [if_neg h2]
        have hu : s.drop (i + w) ≠ [] := by
          intro h
          have := congrArg List.length h
          simp at this
          omega
        obtain ⟨rs, c1, c2⟩ := tokenD (f := g) hu (by simp; omega)
        rw [c1]
        simp only [Option.bind_some]
        by_cases h4 : rs.2.2.2.1 = 0
        · rw [if_pos h4]
          obtain ⟨d1, d2, d3, d4⟩ := c2 h4
          rw [if_neg (by omega)]
          simp at d2 d4
          obtain ⟨res, a1, a2⟩ := toksD hg hs f (i + w + rs.2.2.2.2) (out ++ [⟨rs.1, rs.2.1, rs.2.2.1, ((i + w : Nat) : Int)⟩]) (by omega) (by omega)
          refine ⟨res, a1, fun e => ?_⟩
          obtain ⟨l, e', b1, b2, b3, b4, b5⟩ := a2 e
          refine ⟨⟨rs.1, rs.2.1, rs.2.2.1, ((i + w : Nat) : Int)⟩ :: l, e', by rw [b1]; simp, b2, b3, ?_, by simp; omega⟩
          intro t ht
          rcases List.mem_cons.1 ht with rfl | ht
          · exact ⟨d3, by show rs.2.1.length ≤ _; omega⟩
          · exact b4 t ht
        · rw [if_neg h4]
          exact ⟨_, rfl, fun e => absurd e h4⟩

/-- The tokens of a source. -/
theorem lexD {s : List Nat} (hs : s.length ≤ 2000) : ∃ res, lexM 2001 2001 s = some res ∧ (res.2.2 = 0 → Good res.1 ∧ res.1.length ≤ 2001) := by
  unfold lexM
  rw [if_neg (by omega)]
  obtain ⟨res, a1, a2⟩ := toksD (g := 2001) (s := s) (by omega) (by omega) 2001 0 [] (by omega) (by omega)
  refine ⟨res, a1, fun e => ?_⟩
  obtain ⟨l, e', b1, b2, b3, b4, b5⟩ := a2 e
  rw [b1]
  simp only [List.nil_append]
  refine ⟨⟨l, e', rfl, b2, fun t ht => (b4 t ht).1, fun t ht => ?_⟩, by simp; omega⟩
  rcases List.mem_append.1 ht with ht | ht
  · exact (b4 t ht).2
  · simp at ht
    subst ht
    rw [b3]; simp

end Go.Dd

/- Dd, part T19: the document's lexer: a token, all tokens: they are the program's. -/
set_option linter.unusedVariables false
set_option linter.unusedSimpArgs false
set_option maxRecDepth 100000
namespace Go.Dd
open Go.Proofs

section
variable {I : Im} {A Q L : Ls} {s : List Nat} {b4 b7 : Pos} {z : List DV}

end
end Go.Dd

/- Dd, part Z1: the law's count of a node. -/
set_option linter.unusedVariables false
set_option linter.unusedSimpArgs false
set_option maxRecDepth 100000
namespace Go.Dd
open Go.Proofs

theorem wadd {a b : Nat} (h : a + b ≤ lim) : IntKind.i64.wrap ((a : Int) + (b : Int)) = ((a + b : Nat) : Int) := by
  rw [wrap64s _ (by omega) (by simp [lim] at h ⊢; omega)]
  omega
theorem wadd1 {a : Nat} (h : a + 1 ≤ lim) : IntKind.i64.wrap ((a : Int) + Int.ofNat 1) = ((a + 1 : Nat) : Int) := wadd (b := 1) h

def NC (b : Pos) (k : Int) (t : List Nat) (m : Int) (s1 s2 s3 : DV) : Pos × Option Ob := (b, some (.row .ex [.i .i64 k, .s t, .i .i64 m, s1, s2, s3]))

end Go.Dd

/- Dd, part Z4: the document's Same of two nodes. -/
set_option linter.unusedVariables false
set_option linter.unusedSimpArgs false
set_option maxRecDepth 100000
namespace Go.Dd
open Go.Proofs

mutual
def nEq : Node → Node → Bool
  | .mk k t m ns ts ks, .mk k' t' m' ns' ts' ks' => decide (ns = ns') && decide (ts = ts') && decide (k = k') && decide (t = t') && decide (m = m') && nEqL ks ks'
def nEqL : List Node → List Node → Bool
  | [], [] => true
  | x :: l, y :: l' => nEq x y && nEqL l l'
  | _, _ => false
end

mutual
theorem nEq_refl : ∀ (x : Node), nEq x x = true
  | .mk k t m ns ts ks => by simp [nEq, nEqL_refl ks]
theorem nEqL_refl : ∀ (x : List Node), nEqL x x = true
  | [] => rfl
  | x :: l => by simp [nEqL, nEq_refl x, nEqL_refl l]
end
mutual
theorem nEq_eq : ∀ (x y : Node), nEq x y = true → x = y
  | .mk k t m ns ts ks, .mk k' t' m' ns' ts' ks', h => by
    simp [nEq] at h
    obtain ⟨⟨⟨⟨⟨h1, h2⟩, h3⟩, h4⟩, h5⟩, h6⟩ := h
    rw [h1, h2, h3, h4, h5, nEqL_eq ks ks' h6]
theorem nEqL_eq : ∀ (x y : List Node), nEqL x y = true → x = y
  | [], [], _ => rfl
  | [], _ :: _, h => by simp [nEqL] at h
  | _ :: _, [], h => by simp [nEqL] at h
  | x :: l, y :: l', h => by
    simp [nEqL] at h
    rw [nEq_eq x y h.1, nEqL_eq l l' h.2]
end

theorem nEqL_len : ∀ (x y : List Node), x.length ≠ y.length → nEqL x y = false
  | [], [], h => absurd rfl h
  | [], _ :: _, h => rfl
  | _ :: _, [], h => rfl
  | x :: l, y :: l', h => by
    simp at h
    simp [nEqL, nEqL_len l l' h]

theorem enter21b (n : Nat) (x y : DV) (h : Hp) : shD (n + 1) 28 [x, y] h = s28 (shD n) n x y h := by kernel_rfl

theorem SS.at {I : Im} {s : DV} {l : List (List Nat)} (H : SS I s l) {A Q L : Ls} {h : Hp} (S : Sy I A Q L h) {i : Nat} {x : List Nat} (hi : l[i]? = some x) :
    ∃ b o, (∀ h', pIndexAddr 1 s (.i .i64 (i : Int)) h' = some (.p b o, h')) ∧ pLoad1 (.p b o) h = some (.s x, h) := by
  obtain ⟨hlt, hg⟩ := List.getElem?_eq_some_iff.1 hi
  obtain ⟨b, o, e, k, row, g, rest, d⟩ := H.2.at S hlt
  refine ⟨b, o, e, ld1 g ?_ rfl⟩
  have e2 : row[o]? = (row.drop o)[0]? := by simp
  rw [e2, d, Nat.mul_one, List.drop_eq_getElem_cons (by simpa using hlt)]
  simp [hg]

section
variable {I : Im} {A Q L : Ls}

theorem names_loop {h : Hp} {s1 s2 : DV} {l1 l2 : List (List Nat)} (S : Sy I A Q L h) (N1 : SS I s1 l1) (N2 : SS I s2 l2) : ∀ (r1 r2 : List (List Nat)) (i j : Nat), l1.drop i = r1 → l2.drop i = r2 → r1.length = r2.length → i ≤ l1.length →
    Ev (fun n => s28a5l (shD n) n (n - j) s1 s2 (.i .i64 (i : Int)) h) (fun v h' => v = .b (decide (r1 = r2)) ∧ h' = h) := by
  intro r1
  induction r1 with
  | nil =>
    intro r2 i j e1 e2 hl hi
    refine Ev.loop j (ll := fun n p => s28a5l (shD n) n p s1 s2 (.i .i64 (i : Int)) h) (bb := fun n p => s28a5b (shD n) n (s28a5l (shD n) n p) s1 s2 (.i .i64 (i : Int)) h) (fun _ _ => rfl) ?_
    have h2 : r2 = [] := by cases r2 with
      | nil => rfl
      | cons => simp at hl
    subst h2
    have hl2 : i = l1.length := by
      have := congrArg List.length e1
      simp at this
      omega
    unfold s28a5b
    refine Ev.op (N1.2.len _) (Ev.ilt (fun k => ?_) (fun k => ?_))
    · omega
    · refine yj ?_
      unfold s28a3
      exact Ev.ret ⟨by simp, rfl⟩
  | cons x r1 ih =>
    intro r2 i j e1 e2 hl hi
    refine Ev.loop j (ll := fun n p => s28a5l (shD n) n p s1 s2 (.i .i64 (i : Int)) h) (bb := fun n p => s28a5b (shD n) n (s28a5l (shD n) n p) s1 s2 (.i .i64 (i : Int)) h) (fun _ _ => rfl) ?_
    obtain ⟨y, r2, rfl⟩ : ∃ y r, r2 = y :: r := by cases r2 with
      | nil => simp at hl
      | cons y r => exact ⟨y, r, rfl⟩
    have hx : l1[i]? = some x := by
      have := congrArg (fun l => l[0]?) e1
      simpa using this
    have hy : l2[i]? = some y := by
      have := congrArg (fun l => l[0]?) e2
      simpa using this
    have hlt := (List.getElem?_eq_some_iff.1 hx).1
    have e1' : l1.drop (i + 1) = r1 := by
      have := congrArg (List.drop 1) e1
      simpa [List.drop_drop] using this
    have e2' : l2.drop (i + 1) = r2 := by
      have := congrArg (List.drop 1) e2
      simpa [List.drop_drop] using this
    obtain ⟨b1, o1, p1, q1⟩ := N1.at S hx
    obtain ⟨b2, o2, p2, q2⟩ := N2.at S hy
    have hb := N1.1
    unfold s28a5b
    refine Ev.op (N1.2.len _) (Ev.ilt (fun k => ?_) (fun k => ?_))
    · refine yt ?_
      refine Ev.op (p1 _) (Ev.op q1 (Ev.op (p2 _) (Ev.op q2 ?_)))
      refine Ev.sne (fun k2 => ?_) (fun k2 => ?_)
      · refine yt ?_
        exact Ev.ret ⟨by simp [k2], rfl⟩
      · refine yj ?_
        refine Ev.iadd ?_
        rw [wadd1 (by omega)]
        refine (ih r2 (i + 1) (j + 1) e1' e2' (by simpa using hl) (by omega)).mono ?_
        rintro v h' ⟨rfl, rfl⟩
        exact ⟨by simp [k2], rfl⟩
    · omega

theorem names_ok {h : Hp} {s1 s2 : DV} {l1 l2 : List (List Nat)} (S : Sy I A Q L h) (N1 : SS I s1 l1) (N2 : SS I s2 l2) :
    Ev (fun n => shD n 28 [s1, s2] h) (fun v h' => v = .b (decide (l1 = l2)) ∧ h' = h) := by
  refine Ev.enter (fun n => enter21b n _ _ h) ?_
  unfold s28 s28a1
  refine Ev.op (N1.2.len _) (Ev.op (N2.2.len _) (Ev.ine (fun e => ?_) (fun e => ?_)))
  · refine yt ?_
    refine Ev.ret ⟨?_, rfl⟩
    have : l1 ≠ l2 := fun h => e (by rw [h])
    simp [this]
  · refine yj ?_
    unfold s28a2 s28a4
    exact names_loop S N1 N2 l1 l2 0 0 (by simp) (by simp) (by omega) (by omega)
end

theorem same_tail {I : Im} {A Q L : Ls} {h : Hp} {b b' : Pos} {k m k' m' : Int} {t t' : List Nat} {s1 s2 s3 s1' s2' s3' : DV} {c1 c2 : Bool} {ks ks' : List Node}
    (S : Sy I A Q (NC b' k' t' m' s1' s2' s3' :: NC b k t m s1 s2 s3 :: L) h) (h3 : NS I s3 ks) (h3' : NS I s3' ks') (o1 : s1.one = true) (o2 : s2.one = true) (o1' : s1'.one = true) (o2' : s2'.one = true)
    (loop : ks.length = ks'.length → Ev (fun n => s16a7l (shD n) n (n - 0) (.p b 0) (.p b' 0) (.i .i64 ((0 : Nat) : Int)) h) (fun v h' => v = .b (nEqL ks ks') ∧ Sy I A Q (NC b' k' t' m' s1' s2' s3' :: NC b k t m s1 s2 s3 :: L) h')) :
    Ev (fun n => s16a3 (shD n) n (.p b 0) (.p b' 0) (.b c1) (.b c2) h) (fun v h' => v = .b (c1 && c2 && decide (k = k') && decide (t = t') && decide (m = m') && nEqL ks ks') ∧ Sy I A Q L h') := by
  unfold s16a3
  unfold NC at S
  have o3 := h3.one
  have o3' := h3'.one
  cases c1 with
  | false =>
    refine ao ?_; refine yg ?_; refine yg ?_; refine ap ?_; refine yg ?_; refine yg ?_; refine yg ?_; refine yg ?_; refine yg ?_; refine ap ?_; refine yg ?_; refine yg ?_; refine yg ?_; refine yg ?_; refine yg ?_; refine ap ?_; refine yg ?_; refine yg ?_; refine yg ?_; refine yg ?_; refine yg ?_; refine ap ?_; refine yg ?_; refine yg ?_; refine yg ?_; refine yg ?_; refine yg ?_; refine yg ?_; refine yg ?_; refine ap ?_; refine yt ?_
    exact Ev.ret ⟨by simp, dp⟩
  | true =>
    cases c2 with
    | false =>
      refine an ?_; refine zf ?_; refine wm ?_; refine zf ?_; refine ao ?_; refine aq ?_; refine yg ?_; refine yg ?_; refine yg ?_; refine yg ?_; refine yg ?_; refine ap ?_; refine yg ?_; refine yg ?_; refine yg ?_; refine yg ?_; refine yg ?_; refine ap ?_; refine yg ?_; refine yg ?_; refine yg ?_; refine yg ?_; refine yg ?_; refine ap ?_; refine yg ?_; refine yg ?_; refine yg ?_; refine yg ?_; refine yg ?_; refine yg ?_; refine yg ?_; refine ap ?_; refine yt ?_
      exact Ev.ret ⟨by simp, dp⟩
    | true =>
      refine an ?_; refine zf ?_; refine wm ?_; refine zf ?_; refine an ?_; refine aq ?_; refine zf ?_; refine wf ?_; refine zf ?_; refine wl ?_; refine zf ?_; refine wf ?_; refine zf ?_; refine wl ?_; refine zf ?_
      refine Ev.ine (fun e1 => ?_) (fun e1 => ?_)
      · refine aq ?_; refine yg ?_; refine yg ?_; refine yg ?_; refine yg ?_; refine yg ?_; refine ap ?_; refine yg ?_; refine yg ?_; refine yg ?_; refine yg ?_; refine yg ?_; refine ap ?_; refine yg ?_; refine yg ?_; refine yg ?_; refine yg ?_; refine yg ?_; refine yg ?_; refine yg ?_; refine ap ?_; refine yt ?_
        exact Ev.ret ⟨by simp [e1], dp⟩
      · refine aq ?_; refine zf ?_; refine wf ?_; refine zf ?_; refine wl ?_; refine zf ?_; refine wf ?_; refine zf ?_; refine wl ?_; refine zf ?_
        refine Ev.sne (fun e2 => ?_) (fun e2 => ?_)
        · refine aq ?_; refine yg ?_; refine yg ?_; refine yg ?_; refine yg ?_; refine yg ?_; refine ap ?_; refine yg ?_; refine yg ?_; refine yg ?_; refine yg ?_; refine yg ?_; refine yg ?_; refine yg ?_; refine ap ?_; refine yt ?_
          exact Ev.ret ⟨by simp [e2], dp⟩
        · refine aq ?_; refine zf ?_; refine wf ?_; refine zf ?_; refine wl ?_; refine zf ?_; refine wf ?_; refine zf ?_; refine wl ?_; refine zf ?_
          refine Ev.ine (fun e3 => ?_) (fun e3 => ?_)
          · refine aq ?_; refine yg ?_; refine yg ?_; refine yg ?_; refine yg ?_; refine yg ?_; refine yg ?_; refine yg ?_; refine ap ?_; refine yt ?_
            exact Ev.ret ⟨by simp [e3], dp⟩
          · refine aq ?_; refine zf ?_; refine wf ?_; refine zf ?_; refine wl ?_; refine zf ?_
            refine Ev.op (h3.len _) ?_
            refine zf ?_; refine wf ?_; refine zf ?_; refine wl ?_; refine zf ?_
            refine Ev.op (h3'.len _) ?_
            refine zf ?_
            refine Ev.ine (fun e4 => ?_) (fun e4 => ?_)
            · refine aq ?_; refine yt ?_
              refine Ev.ret ⟨?_, dp⟩
              rw [nEqL_len ks ks' (by omega)]
              simp
            · refine aq ?_; refine yj ?_
              unfold s16a4 s16a6
              refine (loop (by omega)).mono ?_
              rintro v h' ⟨rfl, S'⟩
              exact ⟨by simp [e1, e2, e3], S'.dropL.dropL⟩

mutual
theorem same_ok : ∀ (x y : Node) (I : Im) (A Q L : Ls) (h : Hp) (cs cs' : List DV), Sy I A Q L h → NV I x cs → NV I y cs' → Ev (fun n => shD n 16 [.a cs, .a cs'] h) (fun v h' => v = .b (nEq x y) ∧ Sy I A Q L h')
  | .mk k t m ns ts ks, .mk k' t' m' ns' ts' ks', I, A, Q, L, h, cs, cs', S, ⟨s1, s2, s3, e, a1, a2, a3, cells, F, NL⟩, ⟨s1', s2', s3', e', a1', a2', a3', cells', F', NL'⟩ => by
    subst e
    subst e'
    have o1 := a1.2.one
    have o2 := a2.2.one
    have o3 := F.one
    have o1' := a1'.2.one
    have o2' := a2'.2.one
    have o3' := F'.one
    refine Ev.enter (fun n => enter16 n _ _ h) ?_
    unfold s16
    refine Ev.box S rfl (fun b h1 S1 => ?_)
    refine Ev.box S1 rfl (fun b' h2 S2 => ?_)
    unfold s16a1
    refine wf ?_; refine wl ?_; refine wf ?_; refine wl ?_
    refine Ev.call (names_ok S2 a1 a1') ?_
    rintro _ _ ⟨rfl, rfl⟩
    unfold s16a2
    refine wf ?_; refine wl ?_; refine wf ?_; refine wl ?_
    refine Ev.call (names_ok S2 a2 a2') ?_
    rintro _ _ ⟨rfl, rfl⟩
    simp only [nEq]
    refine same_tail (by exact S2) ⟨a3, cells, F, NL⟩ ⟨a3', cells', F', NL'⟩ o1 o2 o1' o2' ?_
    intro hl
    exact same_loop ks ks' I A Q L _ _ _ [] [] b b' k k' t t' m m' s1 s2 s3 s1' s2' s3' ks ks' 0 0 ⟨a3, cells, F, NL⟩ ⟨a3', cells', F', NL'⟩ (by simp) (by simp) hl (by omega) S2 rfl rfl o3 o3'
theorem same_loop : ∀ (r r' : List Node) (I : Im) (A Q L : Ls) (h : Hp) (c c' : List DV) (L0 L1 : Ls) (b b' : Pos) (k k' : Int) (t t' : List Nat) (m m' : Int) (s1 s2 s3 s1' s2' s3' : DV) (ks ks' : List Node) (i j : Nat), NS I s3 ks → NS I s3' ks' → ks.drop i = r → ks'.drop i = r' → r.length = r'.length → i ≤ ks.length →
    Sy I A Q ((b', some (.row .ex c')) :: (b, some (.row .ex c)) :: L) h → c[5]? = some s3 → c'[5]? = some s3' → s3.one = true → s3'.one = true →
    Ev (fun n => s16a7l (shD n) n (n - j) (.p b 0) (.p b' 0) (.i .i64 (i : Int)) h) (fun v h' => v = .b (nEqL r r') ∧ Sy I A Q ((b', some (.row .ex c')) :: (b, some (.row .ex c)) :: L) h')
  | [], r', I, A, Q, L, h, c, c', L0, L1, b, b', k, k', t, t', m, m', s1, s2, s3, s1', s2', s3', ks, ks', i, j, N, N', hr, hr', hl, hi, S, g, g', o3, o3' => by
    have h2 : r' = [] := by cases r' with
      | nil => rfl
      | cons => simp at hl
    subst h2
    refine Ev.loop j (ll := fun n p => s16a7l (shD n) n p (.p b 0) (.p b' 0) (.i .i64 (i : Int)) h) (bb := fun n p => s16a7b (shD n) n (s16a7l (shD n) n p) (.p b 0) (.p b' 0) (.i .i64 (i : Int)) h) (fun _ _ => rfl) ?_
    have hl2 : i = ks.length := by
      have := congrArg List.length hr
      simp at this
      omega
    unfold s16a7b
    refine Ev.fld (Ev.op (ld1 (S.memL (List.Mem.tail _ (List.Mem.head _))) (by simpa using g) o3) ?_)
    refine Ev.op (N.len _) (Ev.ilt (fun e1 => ?_) (fun e1 => ?_))
    · omega
    · refine yj ?_
      unfold s16a5
      exact Ev.ret ⟨rfl, S⟩
  | x :: r, r', I, A, Q, L, h, c, c', L0, L1, b, b', k, k', t, t', m, m', s1, s2, s3, s1', s2', s3', ks, ks', i, j, N, N', hr, hr', hl, hi, S, g, g', o3, o3' => by
    obtain ⟨y, r', rfl⟩ : ∃ y q, r' = y :: q := by cases r' with
      | nil => simp at hl
      | cons y q => exact ⟨y, q, rfl⟩
    refine Ev.loop j (ll := fun n p => s16a7l (shD n) n p (.p b 0) (.p b' 0) (.i .i64 (i : Int)) h) (bb := fun n p => s16a7b (shD n) n (s16a7l (shD n) n p) (.p b 0) (.p b' 0) (.i .i64 (i : Int)) h) (fun _ _ => rfl) ?_
    have hx : ks[i]? = some x := by
      have := congrArg (fun l => l[0]?) hr
      simpa using this
    have hy : ks'[i]? = some y := by
      have := congrArg (fun l => l[0]?) hr'
      simpa using this
    have hlt := (List.getElem?_eq_some_iff.1 hx).1
    have e1' : ks.drop (i + 1) = r := by
      have := congrArg (List.drop 1) hr
      simpa [List.drop_drop] using this
    have e2' : ks'.drop (i + 1) = r' := by
      have := congrArg (List.drop 1) hr'
      simpa [List.drop_drop] using this
    have hb := N.1
    unfold s16a7b
    have l1 := fun {h} (S : Sy I A Q ((b', some (.row .ex c')) :: (b, some (.row .ex c)) :: L) h) => ld1 (o := 0 + 5) (S.memL (List.Mem.tail _ (List.Mem.head _))) (by simpa using g) o3
    have l2 := fun {h} (S : Sy I A Q ((b', some (.row .ex c')) :: (b, some (.row .ex c)) :: L) h) => ld1 (o := 0 + 5) (S.memL (List.Mem.head _)) (by simpa using g') o3'
    refine Ev.fld (Ev.op (l1 S) ?_)
    refine Ev.op (N.len _) (Ev.ilt (fun e1 => ?_) (fun e1 => ?_))
    · refine yt ?_; refine wf ?_
      refine Ev.op (l1 S) ?_
      obtain ⟨p1, q1, d1, u1, u2, u3⟩ := N.at hx
      obtain ⟨p2, q2, d2, v1, v2, v3⟩ := N'.at hy
      refine Ev.op (u1 _) (Ev.op (u3 _ _ _ _ _ (ILe.refl _) S) (Ev.fld (Ev.op (l2 S) (Ev.op (v1 _) (Ev.op (v3 _ _ _ _ _ (ILe.refl _) S) ?_)))))
      refine Ev.call (same_ok x y I A Q _ h d1 d2 S u2 v2) ?_
      rintro _ h1 ⟨rfl, S1⟩
      simp only [nEqL]
      cases e : nEq x y with
      | false =>
        refine ao ?_; refine yt ?_
        exact Ev.ret ⟨by simp, S1⟩
      | true =>
        refine an ?_; refine yj ?_
        refine Ev.iadd ?_
        rw [wadd1 (by omega)]
        refine (same_loop r r' I A Q L h1 c c' L0 L1 b b' k k' t t' m m' s1 s2 s3 s1' s2' s3' ks ks' (i + 1) (j + 1) N N' e1' e2' (by simpa using hl) (by omega) S1 g g' o3 o3').mono ?_
        rintro v h' ⟨rfl, S2⟩
        exact ⟨by simp, S2⟩
    · omega
end

end Go.Dd

/- Dd, part P0: plain: the text of a node. -/
set_option linter.unusedVariables false
set_option linter.unusedSimpArgs false
namespace Go.Dd

def letTx (c : Nat) : Bool := (decide (97 ≤ c) && decide (c ≤ 122)) || (decide (65 ≤ c) && decide (c ≤ 90))

/-- What a selector is: 1: a name, 2: signs, 3: keywords. -/
def kindTx (s : List Nat) : Nat := if 0 ≤ idxGo 58 s 0 then 3 else match s with
  | [] => 2
  | c :: _ => if letTx c = true then 1 else 2

def heightTx (k : Int) (t : List Nat) : Nat := if k = 7 then kindTx t else if k = 8 then 4 else if k = 6 then 5 else 0

/-- A selector's keywords. -/
def partsTx (s : List Nat) : List (List Nat) := (piecesN 58 [] s).dropLast

/-- What is known of a node that is shown: its height and its text. -/
def withinTx (l : List (Nat × List Nat)) (i h : Nat) : List Nat := match l[i]? with
  | none => []
  | some (own, x) => if own > h then 40 :: (x ++ [41]) else x

def keysTx (ps : List (List Nat)) (args : List (Nat × List Nat)) (i : Nat) : List (List Nat) := match ps with
  | [] => []
  | p :: ps => (p ++ 32 :: withinTx args i 2) :: keysTx ps args (i + 1)

def messageTx (s : List Nat) (args : List (Nat × List Nat)) : List Nat :=
  if kindTx s = 1 then s else if kindTx s = 2 then s ++ 32 :: withinTx args 0 1 else joinN [32] (keysTx (partsTx s) args 0)

def sendTx (s : List Nat) (kids : List (Nat × List Nat)) : List Nat :=
  if kids.length = 0 then [] else withinTx kids 0 (if kindTx s = 1 then 1 else 2) ++ 32 :: messageTx s (kids.drop 1)

def bodyTx (ts : List (List Nat)) (kids : List (List Nat)) : List Nat :=
  (if ts.length = 0 then [] else 124 :: 32 :: (joinN [32] ts ++ [32, 124, 32])) ++ joinN [46, 32] kids

structure Nf where
  k : Int
  t : List Nat
  tx : List Nat
  ks : List (Nat × List Nat)

def Nf.ht (x : Nf) : Nat × List Nat := (heightTx x.k x.t, x.tx)

def seriesTx (l : List Nf) : List Nat := match l with
  | a :: b :: r => sendTx b.t (a.ht :: b.ks) ++ joinN [] (r.map fun x => 59 :: 32 :: messageTx x.t x.ks)
  | _ => []

def namesTx : List (List Nat) → List Nat
  | [] => []
  | p :: l => 58 :: (p ++ 32 :: namesTx l)

def txTx (k : Int) (t : List Nat) (m : Int) (ns ts : List (List Nat)) (l : List Nf) : List Nat :=
  if k = 1 then itoaN m
  else if k = 2 then 39 :: (replN 39 [39, 39] t ++ [39])
  else if k = 3 then 35 :: t
  else if k = 4 then 35 :: 40 :: (joinN [32] (l.map Nf.tx) ++ [41])
  else if k = 6 then t ++ 32 :: 58 :: 61 :: 32 :: joinN [] (l.map Nf.tx)
  else if k = 10 then 94 :: joinN [] (l.map Nf.tx)
  else if k = 7 then sendTx t (l.map Nf.ht)
  else if k = 8 then seriesTx l
  else if k = 9 then 91 :: ((if namesTx ns = [] then [] else namesTx ns ++ [124, 32]) ++ (bodyTx ts (l.map Nf.tx) ++ [93]))
  else t

mutual
def nf : Node → Nf
  | .mk k t m ns ts ks => ⟨k, t, txTx k t m ns ts (nfL ks), (nfL ks).map Nf.ht⟩
def nfL : List Node → List Nf
  | [] => []
  | x :: l => nf x :: nfL l
end

theorem nfL_eq : ∀ l, nfL l = l.map nf
  | [] => rfl
  | x :: l => by simp [nfL, nfL_eq l]

end Go.Dd

/- Dd, part P1: the small functions of show. -/
set_option linter.unusedVariables false
set_option linter.unusedSimpArgs false
set_option maxRecDepth 100000
namespace Go.Dd
open Go.Proofs

theorem enter32 (n : Nat) (x : DV) (h : Hp) : shD (n + 1) 32 [x] h = s32 (shD n) n x h := by kernel_rfl
theorem enter126 (n : Nat) (x : DV) (h : Hp) : shD (n + 1) 126 [x] h = s126 (shD n) n x h := by kernel_rfl
theorem enter33 (n : Nat) (x : DV) (h : Hp) : shD (n + 1) 33 [x] h = s33 (shD n) n x h := by kernel_rfl
theorem enter58 (n : Nat) (x y : DV) (h : Hp) : shD (n + 1) 58 [x, y] h = s58 (shD n) n x y h := by kernel_rfl
theorem enter19 (n : Nat) (x : DV) (h : Hp) : shD (n + 1) 19 [x] h = s19 (shD n) n x h := by kernel_rfl

theorem letTx_t {c : Nat} (h : (97 ≤ c ∧ c ≤ 122) ∨ (65 ≤ c ∧ c ≤ 90)) : letTx c = true := by simp [letTx]; omega
theorem letTx_f {c : Nat} (h : ¬ ((97 ≤ c ∧ c ≤ 122) ∨ (65 ≤ c ∧ c ≤ 90))) : letTx c = false := by
  cases e : letTx c with
  | false => rfl
  | true => exfalso; apply h; simp [letTx] at e; omega

theorem kindTx_ok (s : List Nat) (h : Hp) : Ev (fun n => shD n 32 [.s s] h) (fun v h' => v = .i .i64 (kindTx s : Int) ∧ h' = h) := by
  refine Ev.enter (fun n => enter32 n _ h) ?_
  unfold s32
  refine Ev.call (index_ok s 58 (by decide) h) ?_
  rintro _ h ⟨rfl, rfl⟩
  refine Ev.ige (fun e => ?_) (fun e => ?_)
  · have e' : (0 : Int) ≤ idxGo 58 s 0 := e
    refine yt ?_
    refine Ev.ret ⟨?_, rfl⟩
    unfold kindTx
    rw [if_pos e']; rfl
  · have e' : ¬ (0 : Int) ≤ idxGo 58 s 0 := e
    refine yj ?_
    cases s with
    | nil =>
      refine Ev.op (show pStr .neq (.s []) (.s []) h = some (.b false, h) from rfl) ?_
      refine yf ?_; refine yf ?_; refine yf ?_; refine yf ?_; refine yu ?_; refine yu ?_; refine yu ?_; refine yf ?_; refine yf ?_; refine yu ?_; refine yu ?_; refine yu ?_; refine yu ?_; refine yu ?_; refine yu ?_; refine yu ?_; refine yu ?_; refine yf ?_; refine aq ?_; refine yj ?_
      refine Ev.ret ⟨?_, rfl⟩
      unfold kindTx
      rw [if_neg e']; rfl
    | cons c l =>
      have ei : pIndexS (.s (c :: l)) (.i .i64 (Int.ofNat 0)) h = some (.i .u8 (c : Int), h) := by simp [pIndexS]
      have ek : kindTx (c :: l) = if letTx c = true then 1 else 2 := by
        unfold kindTx
        rw [if_neg e']
      have k1 : ((97 ≤ c ∧ c ≤ 122) ∨ (65 ≤ c ∧ c ≤ 90)) → (kindTx (c :: l) : Int) = Int.ofNat 1 := fun hh => by rw [ek, letTx_t hh]; rfl
      have k2 : ¬ ((97 ≤ c ∧ c ≤ 122) ∨ (65 ≤ c ∧ c ≤ 90)) → (kindTx (c :: l) : Int) = Int.ofNat 2 := fun hh => by rw [ek, letTx_f hh]; rfl
      refine Ev.op (show pStr .neq (.s (c :: l)) (.s []) h = some (.b true, h) from rfl) ?_
      refine zt ?_; refine wm ?_; refine zt ?_
      refine Ev.op ei ?_
      refine zt ?_
      refine Ev.ige (fun e1 => ?_) (fun e1 => ?_)
      · have e1' : 97 ≤ c := by have h0 := e1; simp at h0; omega
        refine zt ?_; refine wm ?_; refine zt ?_; refine wm ?_; refine zt ?_
        refine Ev.op ei ?_
        refine zt ?_
        refine Ev.ile (fun e2 => ?_) (fun e2 => ?_)
        · have e2' : c ≤ 122 := by have h0 := e2; simp at h0; omega
          refine zt ?_; refine ap ?_; refine zt ?_; refine wm ?_; refine yg ?_; refine yg ?_; refine yg ?_; refine yg ?_; refine yu ?_; refine yu ?_; refine yu ?_; refine yg ?_; refine zt ?_; refine ap ?_; refine ap ?_; refine yt ?_
          exact Ev.ret ⟨by rw [k1 (by omega)], rfl⟩
        · have e2' : ¬ c ≤ 122 := by have h0 := e2; simp at h0; omega
          refine zt ?_; refine ap ?_; refine zt ?_; refine wm ?_; refine zf ?_; refine wm ?_; refine zf ?_
          refine Ev.op ei ?_
          refine zf ?_
          refine Ev.ige (fun e3 => ?_) (fun e3 => ?_)
          · refine zf ?_; refine wm ?_; refine zt ?_; refine wm ?_; refine zt ?_
            refine Ev.op ei ?_
            refine zt ?_
            refine Ev.ile (fun e4 => ?_) (fun e4 => ?_)
            · have e4' : c ≤ 90 := by have h0 := e4; simp at h0; omega
              omega
            · refine zf ?_; refine ap ?_; refine zt ?_; refine aq ?_; refine ap ?_; refine yj ?_
              exact Ev.ret ⟨by rw [k2 (by omega)], rfl⟩
          · have e3' : ¬ 65 ≤ c := by have h0 := e3; simp at h0; omega
            omega
      · have e1' : ¬ 97 ≤ c := by have h0 := e1; simp at h0; omega
        refine zt ?_; refine wm ?_; refine yf ?_; refine yf ?_; refine yf ?_; refine zt ?_; refine aq ?_; refine zt ?_; refine wm ?_; refine zf ?_; refine wm ?_; refine zf ?_
        refine Ev.op ei ?_
        refine zf ?_
        refine Ev.ige (fun e3 => ?_) (fun e3 => ?_)
        · have e3' : 65 ≤ c := by have h0 := e3; simp at h0; omega
          refine zf ?_; refine wm ?_; refine zt ?_; refine wm ?_; refine zt ?_
          refine Ev.op ei ?_
          refine zt ?_
          refine Ev.ile (fun e4 => ?_) (fun e4 => ?_)
          · have e4' : c ≤ 90 := by have h0 := e4; simp at h0; omega
            refine zf ?_; refine ap ?_; refine zt ?_; refine aq ?_; refine ap ?_; refine yt ?_
            exact Ev.ret ⟨by rw [k1 (by omega)], rfl⟩
          · have e4' : ¬ c ≤ 90 := by have h0 := e4; simp at h0; omega
            refine zf ?_; refine ap ?_; refine zt ?_; refine aq ?_; refine ap ?_; refine yj ?_
            exact Ev.ret ⟨by rw [k2 (by omega)], rfl⟩
        · have e3' : ¬ 65 ≤ c := by have h0 := e3; simp at h0; omega
          refine zf ?_; refine wm ?_; refine yf ?_; refine yf ?_; refine yf ?_; refine zf ?_; refine aq ?_; refine zt ?_; refine aq ?_; refine ap ?_; refine yj ?_
          exact Ev.ret ⟨by rw [k2 (by omega)], rfl⟩

theorem heightTx_ok {I : Im} {A Q L : Ls} {h : Hp} (S : Sy I A Q L h) {x : Node} {cs : List DV} (N : NV I x cs) :
    Ev (fun n => shD n 126 [.a cs] h) (fun v h' => v = .i .i64 (((nf x).ht).1 : Int) ∧ Sy I A Q L h') := by
  refine Ev.enter (fun n => enter126 n _ h) ?_
  unfold s126
  obtain ⟨k, t, m, ns, ts, ks⟩ := x
  obtain ⟨s1, s2, s3, rfl, a, b, c, cells, F, NL⟩ := N
  have o1 := a.2.one
  have o2 := b.2.one
  have o3 := F.one
  have eh : ((nf (.mk k t m ns ts ks)).ht).1 = heightTx k t := by simp [nf, Nf.ht]
  rw [eh]
  refine wb fun _ _ _ => ?_; refine wf ?_; refine wl ?_
  refine Ev.ieq (fun e1 => ?_) (fun e1 => ?_)
  · refine yt ?_; refine wf ?_; refine wl ?_
    refine Ev.call (kindTx_ok t _) ?_
    rintro _ h1 ⟨rfl, rfl⟩
    refine Ev.ret ⟨?_, dp⟩
    rw [heightTx, if_pos (by simpa using e1)]
  · refine Ev.iff ?_
    refine Ev.ieq (fun e2 => ?_) (fun e2 => ?_)
    · refine yt ?_
      refine Ev.ret ⟨?_, dp⟩
      rw [heightTx, if_neg (by simpa using e1), if_pos (by simpa using e2)]; rfl
    · refine Ev.iff ?_
      refine Ev.ieq (fun e3 => ?_) (fun e3 => ?_)
      · refine yt ?_
        refine Ev.ret ⟨?_, dp⟩
        rw [heightTx, if_neg (by simpa using e1), if_neg (by simpa using e2), if_pos (by simpa using e3)]; rfl
      · refine yj ?_
        refine Ev.ret ⟨?_, dp⟩
        rw [heightTx, if_neg (by simpa using e1), if_neg (by simpa using e2), if_neg (by simpa using e3)]; rfl

end Go.Dd

/- Dd, part P2: put, parts, and what is joined. -/
set_option linter.unusedVariables false
set_option linter.unusedSimpArgs false
set_option maxRecDepth 100000
namespace Go.Dd
open Go.Proofs

theorem strsD_map : ∀ l : List (List Nat), strsD (l.map .s) = some l
  | [] => rfl
  | x :: l => by simp [strsD, strsD_map l]

theorem join_op {x : DV} {h : Hp} {n : Nat} {l : List (List Nat)} {sep : List Nat} (hx : ∀ t, x ≠ .s t) (e : srcD 1 x h = some (n, l.map .s)) (h1 : (joinN sep l).length ≤ 100000000000) (h2 : n ≤ 100000000000) (hc : capD x = true) :
    joinF [x, .s sep] h = some (.s (joinN sep l), h) := by
  have e1 : Nat.ble (joinN sep l).length 100000000000 = true := Nat.ble_eq_true_of_le h1
  have e2 : Nat.ble n 100000000000 = true := Nat.ble_eq_true_of_le h2
  have key : joinF [x, .s sep] h = (match srcD 1 x h with
    | some (n, cells) => match strsD cells with
      | some l => bif Nat.ble (joinN sep l).length 100000000000 then (bif Nat.ble n 100000000000 && capD x then some (.s (joinN sep l), h) else none) else none
      | none => none
    | none => none) := by
    cases x <;> first | rfl | exact absurd rfl (hx _)
  rw [key, e]
  simp only [strsD_map, e1, e2, hc, cond_true, Bool.and_self]

theorem Fz.cap {I : Im} {sz : Nat} {s : DV} {len : Nat} {cells : List DV} (H : Fz I sz s len cells) : capD s = true ∧ ∀ t, s ≠ .s t := by
  rcases H with ⟨rfl | rfl, _⟩ | ⟨b, o, cap, k, row, rest, rfl, h2, _⟩
  · exact ⟨rfl, fun t e => by cases e⟩
  · exact ⟨rfl, fun t e => by cases e⟩
  · exact ⟨Nat.ble_eq_true_of_le h2, fun t e => by cases e⟩

/-- What is joined out of a slice that stays. -/
theorem SS.join {I : Im} {s : DV} {l : List (List Nat)} (H : SS I s l) {A Q L : Ls} {h : Hp} (S : Sy I A Q L h) {sep : List Nat} (h1 : (joinN sep l).length ≤ 100000000000) : joinF [s, .s sep] h = some (.s (joinN sep l), h) := by
  obtain ⟨hl, F⟩ := H
  exact join_op F.cap.2 (F.src S) h1 (by simp [lim] at hl; omega) F.cap.1

/-- Texts put together. -/
theorem put_ok {I : Im} {A Q L : Ls} {h : Hp} {b : Pos} {n : Nat} (l : List (List Nat)) (S : Sy I A Q L h) (m : (b, some (.row .ex (l.map .s))) ∈ L) (hn : n = l.length) (h1 : (joinN [] l).length ≤ 100000000000) (h2 : l.length ≤ 1000) :
    Ev (fun k => shD k 19 [.l b 0 n n] h) (fun v h' => v = .s (joinN [] l) ∧ h' = h) := by
  refine Ev.enter (fun n => enter19 n _ h) ?_
  unfold s19
  have e : srcD 1 (.l b 0 n n) h = some (n, l.map .s) := src_own S m (by simp [hn]) (fun v hv => by
    obtain ⟨t, _, rfl⟩ := List.mem_map.1 hv
    rfl)
  have e2 : joinF [.l b 0 n n, .s []] h = some (.s (joinN [] l), h) := join_op (fun t e => by cases e) e h1 (by omega) (Nat.ble_eq_true_of_le (Nat.le_refl _))
  refine Ev.op e2 ?_
  exact Ev.ret ⟨rfl, rfl⟩

theorem pieces_len (c : Nat) : ∀ (s acc : List Nat), 1 ≤ (piecesN c acc s).length ∧ (piecesN c acc s).length ≤ s.length + 1
  | [], acc => by simp [piecesN]
  | x :: s, acc => by
    unfold piecesN
    cases Nat.beq x c with
    | true => have := pieces_len c s []; simp; omega
    | false => have := pieces_len c s (acc ++ [x]); simp; omega

/-- A selector's keywords. -/
theorem parts_ok {I : Im} {A Q L : Ls} {h : Hp} (S : Sy I A Q L h) {s : List Nat} (hs : s.length ≤ 1000000000) :
    Ev (fun n => shD n 33 [.s s] h) (fun v h' => ∃ J, ILe I J ∧ Sy J A Q L h' ∧ SS J v (partsTx s)) := by
  refine Ev.enter (fun n => enter33 n _ h) ?_
  unfold s33
  obtain ⟨p1, p2⟩ := pieces_len 58 s []
  generalize hps : piecesN 58 [] s = ps at p1 p2
  have e58 : Ev (fun n => shD n 58 [.s s, .s [58]] h) (fun v h' => v = .l h.next 0 ps.length ps.length ∧ h' = nw (.row .ex (ps.map .s)) h) := by
    refine Ev.enter (fun n => enter58 n _ _ h) ?_
    unfold s58
    refine Ev.op (show pLenS (.s [58]) h = some (.i .i64 1, h) from rfl) ?_
    have e1 : Nat.ble s.length 4000000000 = true := Nat.ble_eq_true_of_le (by omega)
    have e : splitF [.s s, .s [58], .i .i64 1, .i .i64 (Int.negSucc 0)] h = some (.l h.next 0 ps.length ps.length, nw (.row .ex (ps.map .s)) h) := by
      show (bif Nat.blt 58 256 then (bif Nat.ble s.length 4000000000 then (fun l => some (DV.l h.next 0 l.length l.length, (⟨h.next.succ, Tr.set (.row .ex (l.map DV.s)) h.next h.bl⟩ : Hp))) (piecesN 58 [] s) else none) else none) = _
      rw [e1, hps]
      rfl
    refine Ev.op e ?_
    exact Ev.ret ⟨rfl, rfl⟩
  refine Ev.call e58 ?_
  rintro _ _ ⟨rfl, rfl⟩
  refine Ev.op (show pLen (.l h.next 0 ps.length ps.length) (nw (.row .ex (ps.map .s)) h) = some (.i .i64 (ps.length : Int), nw (.row .ex (ps.map .s)) h) from rfl) ?_
  refine Ev.isub ?_
  have S1 := S.new (.row .ex (ps.map DV.s))
  obtain ⟨S2, g⟩ := S1.freeze
  have hw : IntKind.i64.wrap ((ps.length : Int) - Int.ofNat 1) = ((ps.length - 1 : Nat) : Int) := by
    rw [show (ps.length : Int) - Int.ofNat 1 = ((ps.length - 1 : Nat) : Int) by simp; omega]
    have := wadd (a := ps.length - 1) (b := 0) (by simp only [lim]; omega)
    simpa using this
  rw [hw]
  have e : pSlice 1 (.l h.next 0 ps.length ps.length) none (some (.i .i64 ((ps.length - 1 : Nat) : Int))) (nw (.row .ex (ps.map DV.s)) h) = some (.l h.next 0 (ps.length - 1) ps.length, nw (.row .ex (ps.map DV.s)) h) := by
    have hg : (nw (.row .ex (ps.map DV.s)) h).bl.get h.next = some (.row .ex (ps.map DV.s)) := nw_get h _
    have e1 : hiD (some (.i .i64 ((ps.length - 1 : Nat) : Int))) ps.length ps.length = some (ps.length - 1) := by
      show (if 0 ≤ ((ps.length - 1 : Nat) : Int) ∧ ((ps.length - 1 : Nat) : Int) ≤ (ps.length : Int) then some ((ps.length - 1 : Nat) : Int).toNat else none) = _
      rw [if_pos ⟨by omega, by omega⟩]
      rfl
    have e2 : loD none (ps.length - 1) = some 0 := rfl
    unfold pSlice
    simp only [e1, e2, hg]
    simp
  refine Ev.op e ?_
  have hpl : (partsTx s).length = ps.length - 1 := by simp [partsTx, hps]
  refine Ev.ret ⟨_, g, S2, ?_, .inr ⟨h.next, 0, ps.length, .ex, ps.map .s, [.s (ps.getLast (by intro e0; rw [e0] at p1; simp at p1))], ?_, by omega, Im.put_same _ _ _, ?_, ?_, ?_⟩⟩
  · rw [hpl]; simp only [lim]; omega
  · rw [hpl]
  · have := List.dropLast_concat_getLast (l := ps) (by intro e0; rw [e0] at p1; simp at p1)
    simp only [partsTx, hps, List.drop_zero]
    conv => lhs; rw [← this]
    simp
  · simp [partsTx, hps]
  · intro v hv
    obtain ⟨t, _, rfl⟩ := List.mem_map.1 hv
    rfl

end Go.Dd

/- Dd, part P3: show's within, message, send: over the texts of the kids. -/
set_option linter.unusedVariables false
set_option linter.unusedSimpArgs false
set_option maxRecDepth 100000
namespace Go.Dd
open Go.Proofs

theorem Sy.weak {I J : Im} {A Q L : Ls} {h : Hp} (S : Sy J A Q L h) (g : ILe I J) : Sy I A Q L h where
  wf := S.wf
  im := fun b o m => S.im b o (g b o m)
  loc := S.loc
  lt := S.lt
  nd := S.nd
  dj := fun b o m => by
    have := S.dj b o m
    cases e : I b with
    | none => rfl
    | some q => rw [g b q e] at this; cases this

/-- Its text is told. -/
def TxOk (x : Node) : Prop := ∀ (I : Im) (A Q L : Ls) (h : Hp) (cs : List DV), Sy I A Q L h → NV I x cs → (nf x).tx.length ≤ 100000000000 →
  Ev (fun n => shD n 36 [.a cs] h) (fun v h' => v = .s (nf x).tx ∧ Sy I A Q L h')

theorem enter89 (n : Nat) (x y z : DV) (h : Hp) : shD (n + 1) 89 [x, y, z] h = s89 (shD n) n x y z h := by kernel_rfl
theorem enter90 (n : Nat) (x y : DV) (h : Hp) : shD (n + 1) 90 [x, y] h = s90 (shD n) n x y h := by kernel_rfl
theorem enter61 (n : Nat) (x y : DV) (h : Hp) : shD (n + 1) 61 [x, y] h = s61 (shD n) n x y h := by kernel_rfl

/-- What is known of some nodes. -/
def infs (ks : List Node) : List (Nat × List Nat) := ks.map fun x => (nf x).ht

theorem withinTx_ok {I : Im} {A Q L : Ls} {h : Hp} (S : Sy I A Q L h) {s : DV} {ks : List Node} (N : NS I s ks) (T : ∀ x ∈ ks, TxOk x) (i hh : Nat) (hl : (withinTx (infs ks) i hh).length ≤ 100000000000) :
    Ev (fun n => shD n 89 [s, .i .i64 (i : Int), .i .i64 (hh : Int)] h) (fun v h' => v = .s (withinTx (infs ks) i hh) ∧ Sy I A Q L h') := by
  refine Ev.enter (fun n => enter89 n _ _ _ h) ?_
  unfold s89
  refine Ev.op (N.len _) ?_
  refine Ev.ige (fun e1 => ?_) (fun e1 => ?_)
  · refine yt ?_
    refine Ev.ret ⟨?_, S⟩
    have : ks.length ≤ i := by omega
    simp [withinTx, infs, List.getElem?_eq_none this]
  · refine yj ?_
    have hi : i < ks.length := by omega
    have hx : ks[i]? = some ks[i] := by simp [hi]
    generalize ks[i] = x at hx
    have Tx := T x (List.mem_of_getElem? hx)
    obtain ⟨b, o, c, ei, Nx, el⟩ := N.at hx
    have ew : withinTx (infs ks) i hh = if (nf x).ht.1 > hh then 40 :: ((nf x).tx ++ [41]) else (nf x).tx := by
      simp [withinTx, infs, hx, Nf.ht]
    rw [ew] at hl ⊢
    refine Ev.op (ei _) ?_
    refine Ev.op (el _ _ _ _ _ (ILe.refl _) S) ?_
    refine Ev.call (heightTx_ok S Nx) ?_
    rintro _ h5 ⟨rfl, S5⟩
    refine Ev.igt (fun e2 => ?_) (fun e2 => ?_)
    · have e2' : (nf x).ht.1 > hh := by omega
      rw [if_pos e2'] at hl ⊢
      refine yt ?_
      refine Ev.op (ei _) ?_
      refine Ev.op (el _ _ _ _ _ (ILe.refl _) S5) ?_
      refine Ev.call (Tx _ _ _ _ _ _ S5 Nx (by simp at hl; omega)) ?_
      rintro _ h9 ⟨rfl, S9⟩
      refine Ev.bs S9 (cs := [.s [40], .s (nf x).tx, .s [41]]) (by simp [fillD, cellsD]) ?_
      intro b1 h10 S10
      refine Ev.call (put_ok [[40], (nf x).tx, [41]] S10 (List.Mem.head _) rfl (by simp [joinN] at hl ⊢; omega) (by simp)) ?_
      rintro _ _ ⟨rfl, rfl⟩
      refine Ev.ret ⟨?_, S10.dropL⟩
      simp [joinN]
    · have e2' : ¬ (nf x).ht.1 > hh := by omega
      rw [if_neg e2'] at hl ⊢
      refine yj ?_
      refine Ev.op (ei _) ?_
      refine Ev.op (el _ _ _ _ _ (ILe.refl _) S5) ?_
      refine Ev.call (Tx _ _ _ _ _ _ S5 Nx hl) ?_
      rintro _ h9 ⟨rfl, S9⟩
      exact Ev.ret ⟨rfl, S9⟩

theorem joinN_le (sep : List Nat) : ∀ (l : List (List Nat)) (x : List Nat), x ∈ l → x.length ≤ (joinN sep l).length
  | [], x, h => by simp at h
  | [y], x, h => by simp at h; subst h; simp [joinN]
  | y :: z :: l, x, h => by
    rcases List.mem_cons.1 h with rfl | h
    · simp [joinN]
    · have := joinN_le sep (z :: l) x h
      simp only [joinN, List.length_append]
      omega

theorem keysTx_len : ∀ (ps : List (List Nat)) (a : List (Nat × List Nat)) (i : Nat), (keysTx ps a i).length = ps.length
  | [], a, i => rfl
  | p :: ps, a, i => by simp [keysTx, keysTx_len ps a (i + 1)]

section
variable {I : Im} {A Q L : Ls} {s y : DV} {ks : List Node} {ps : List (List Nat)}
theorem msg_loop (N : NS I s ks) (T : ∀ x ∈ ks, TxOk x) (Y : SS I y ps) : ∀ (r : List (List Nat)) (i j : Nat) (B : Ls) (h : Hp) (x : DV) (acc : List (List Nat)), ps.drop i = r → i ≤ ps.length → Sy I (B ++ A) Q L h → Gr I 1 B x acc.length (acc.map .s) →
    (joinN [32] (acc ++ keysTx r (infs ks) i)).length ≤ 100000000000 → acc.length + r.length ≤ lim →
    Ev (fun n => s90a6l (shD n) n (n - j) s x y (.i .i64 (ps.length : Int)) (.i .i64 (i : Int)) h) (fun v h' => v = .s (joinN [32] (acc ++ keysTx r (infs ks) i)) ∧ Sy I A Q L h')
  | [], i, j, B, h, x, acc, hr, hi, S, G, hl, hc => by
    refine Ev.loop j (ll := fun n m => s90a6l (shD n) n m s x y (.i .i64 (ps.length : Int)) (.i .i64 (i : Int)) h) (bb := fun n m => s90a6b (shD n) n (s90a6l (shD n) n m) s x y (.i .i64 (ps.length : Int)) (.i .i64 (i : Int)) h) (fun _ _ => rfl) ?_
    unfold s90a6b
    have hle : ps.length ≤ i := List.drop_eq_nil_iff.1 hr
    refine Ev.ilt (fun e1 => absurd e1 (by omega)) (fun e1 => ?_)
    refine Ev.iff ?_
    unfold s90a4
    simp only [keysTx, List.append_nil] at hl ⊢
    obtain ⟨J, gJ, S3, F3⟩ := G.freeze S
    refine Ev.op (SS.join (I := J) ⟨by simpa using hc, F3⟩ S3 hl) ?_
    exact Ev.ret ⟨rfl, S3.weak gJ⟩
  | p :: r, i, j, B, h, x, acc, hr, hi, S, G, hl, hc => by
    refine Ev.loop j (ll := fun n m => s90a6l (shD n) n m s x y (.i .i64 (ps.length : Int)) (.i .i64 (i : Int)) h) (bb := fun n m => s90a6b (shD n) n (s90a6l (shD n) n m) s x y (.i .i64 (ps.length : Int)) (.i .i64 (i : Int)) h) (fun _ _ => rfl) ?_
    unfold s90a6b
    have hlim : ps.length ≤ lim := Y.1
    have hi' : i < ps.length := by
      rcases Nat.lt_or_ge i ps.length with h | h
      · exact h
      · rw [List.drop_eq_nil_of_le h] at hr; cases hr
    have hx : ps[i]? = some p := by
      have : (ps.drop i)[0]? = some p := by rw [hr]; rfl
      simpa using this
    have hr2 : ps.drop (i + 1) = r := by
      have := drop_cons hx
      rw [hr] at this
      simpa using this.symm
    refine Ev.ilt (fun e1 => ?_) (fun e1 => absurd (show (i : Int) < ps.length by omega) e1)
    refine Ev.ift ?_
    obtain ⟨b, o, ei, el⟩ := Y.at S hx
    refine Ev.op (ei _) ?_
    refine Ev.op el ?_
    have hmem : (p ++ 32 :: withinTx (infs ks) i 2) ∈ acc ++ keysTx (p :: r) (infs ks) i := by simp [keysTx]
    have hp := joinN_le [32] _ _ hmem
    have hp' : (p ++ 32 :: withinTx (infs ks) i 2).length ≤ 100000000000 := Nat.le_trans hp hl
    simp only [List.length_append, List.length_cons] at hp'
    refine Ev.call (withinTx_ok S N T i 2 (by omega)) ?_
    rintro _ h6 ⟨rfl, S6⟩
    refine Ev.bs S6 (cs := [.s p, .s [32], .s (withinTx (infs ks) i 2)]) (by simp [fillD, cellsD]) ?_
    intro b1 h7 S7
    refine Ev.call (put_ok [p, [32], withinTx (infs ks) i 2] S7 (List.Mem.head _) rfl (by simp [joinN]; omega) (by simp)) ?_
    rintro _ _ ⟨rfl, rfl⟩
    have ej : joinN [] [p, [32], withinTx (infs ks) i 2] = p ++ 32 :: withinTx (infs ks) i 2 := by simp [joinN]
    rw [ej]
    refine Ev.bs S7 (cs := [.s (p ++ 32 :: withinTx (infs ks) i 2)]) rfl ?_
    intro b2 h9 S9
    obtain ⟨x4, h4, B4, e4, S4, G4⟩ := app_text G S9 (List.Mem.head _) (by simp at hc; omega)
    refine Ev.op e4 ?_
    refine Ev.iadd ?_
    rw [wadd1 (by omega)]
    have := msg_loop N T Y r (i + 1) (j + 1) B4 h4 x4 (acc ++ [p ++ 32 :: withinTx (infs ks) i 2]) hr2 (by omega) S4.dropL.dropL G4 (by simpa [keysTx] using hl) (by simp at hc ⊢; omega)
    simpa [keysTx] using this
end

end Go.Dd

/- Dd, part P4: show's message and send. -/
set_option linter.unusedVariables false
set_option linter.unusedSimpArgs false
set_option maxRecDepth 100000
namespace Go.Dd
open Go.Proofs

/-- The rest of a slice, which may be nothing, is the same in every heap. -/
theorem Fz.restA {I : Im} {sz : Nat} {s : DV} {len : Nat} {cells : List DV} (H : Fz I sz s len cells) {i : Nat} (hi : i ≤ len) (h0 : 0 < len) :
    ∃ s', (∀ (A Q L : Ls) (h : Hp), Sy I A Q L h → pSlice sz s (some (.i .i64 (Int.ofNat i))) none h = some (s', h)) ∧ Fz I sz s' (len - i) (cells.drop (i * sz)) := by
  rcases H with ⟨_, rfl, _⟩ | ⟨b, o, cap, k, row, rest, rfl, h2, h3, h4, h5, h6⟩
  · omega
  · have hle : i * sz ≤ cells.length := by rw [h5]; exact Nat.mul_le_mul_right _ (by omega)
    have hd : row.drop (o + i * sz) = cells.drop (i * sz) ++ rest := by
      rw [← List.drop_drop, h4, List.drop_append_of_le_length hle]
    have e1 : hiD none len cap = some len := by simp [hiD, h2]
    have e2 : loD (some (.i .i64 (Int.ofNat i))) len = some i := by
      show (if 0 ≤ (Int.ofNat i) ∧ (Int.ofNat i) ≤ (len : Int) then some (Int.ofNat i).toNat else none) = _
      have hi' : (Int.ofNat i) = (i : Int) := rfl
      rw [if_pos ⟨by omega, by omega⟩]
      rfl
    have hlen : (cells.drop (i * sz)).length = (len - i) * sz := by rw [List.length_drop, h5, Nat.sub_mul]
    by_cases hc : cap = i
    · have hz : len - i = 0 := by omega
      have hnil : cells.drop (i * sz) = [] := List.eq_nil_of_length_eq_zero (by rw [hlen, hz]; simp)
      by_cases hk : k = .ro ∨ k = .ex
      · refine ⟨.l b o (len - i) (cap - i), fun A Q L h S => ?_, .inr ⟨b, o, cap - i, k, row, row.drop o, rfl, by omega, h3, ?_, hlen, fun v hv => h6 v (List.mem_of_mem_drop hv)⟩⟩
        · have hg := S.im _ _ h3
          unfold pSlice
          simp only [e1, e2, hg]
          rcases hk with rfl | rfl <;> simp [hc]
        · rw [hnil]; rfl
      · refine ⟨.le, fun A Q L h S => ?_, ?_⟩
        · have hg := S.im _ _ h3
          unfold pSlice
          simp only [e1, e2, hg]
          cases k with
          | ro => exact absurd (.inl rfl) hk
          | ex => exact absurd (.inr rfl) hk
          | gr es => simp [hc]
          | sp => simp [hc]
        · rw [hz, hnil]
          exact .inl ⟨.inr rfl, rfl, rfl⟩
    · refine ⟨.l b (o + i * sz) (len - i) (cap - i), fun A Q L h S => ?_, .inr ⟨b, o + i * sz, cap - i, k, row, rest, rfl, by omega, h3, hd, hlen, fun v hv => h6 v (List.mem_of_mem_drop hv)⟩⟩
      unfold pSlice
      simp only [e1, e2, S.im _ _ h3]
      cases k <;> simp [hc]

theorem NS.restA {I : Im} {s : DV} {ks : List Node} (N : NS I s ks) {i : Nat} (hi : i ≤ ks.length) (h0 : 0 < ks.length) :
    ∃ s', (∀ (A Q L : Ls) (h : Hp), Sy I A Q L h → pSlice 6 s (some (.i .i64 (Int.ofNat i))) none h = some (s', h)) ∧ NS I s' (ks.drop i) := by
  obtain ⟨hl, cells, F, NL⟩ := N
  obtain ⟨s', e, F'⟩ := F.restA hi h0
  exact ⟨s', e, by rw [List.length_drop]; omega, cells.drop (i * 6), by simpa using F', NL.drop i⟩

section
variable {I : Im} {A Q L : Ls} {h : Hp} {s : DV} {ks : List Node} {t : List Nat}
theorem messageTx_ok (S : Sy I A Q L h) (N : NS I s ks) (T : ∀ x ∈ ks, TxOk x) (hs : t.length ≤ 1000000000) (hl : (messageTx t (infs ks)).length ≤ 100000000000) :
    Ev (fun n => shD n 90 [.s t, s] h) (fun v h' => v = .s (messageTx t (infs ks)) ∧ Sy I A Q L h') := by
  refine Ev.enter (fun n => enter90 n _ _ h) ?_
  unfold s90 s90a1
  refine Ev.call (kindTx_ok t h) ?_
  rintro _ h ⟨rfl, rfl⟩
  refine Ev.ieq (fun e1 => ?_) (fun e1 => ?_)
  · have e1' : kindTx t = 1 := by have h0 := e1; simp at h0; omega
    refine Ev.ift ?_
    refine Ev.ret ⟨?_, S⟩
    rw [messageTx, if_pos e1']
  · have e1' : ¬ kindTx t = 1 := by have h0 := e1; simp at h0; omega
    refine Ev.iff ?_
    refine Ev.ieq (fun e2 => ?_) (fun e2 => ?_)
    · have e2' : kindTx t = 2 := by have h0 := e2; simp at h0; omega
      have em : messageTx t (infs ks) = t ++ 32 :: withinTx (infs ks) 0 1 := by rw [messageTx, if_neg e1', if_pos e2']
      rw [em] at hl ⊢
      simp only [List.length_append, List.length_cons] at hl
      refine Ev.ift ?_
      refine Ev.call (withinTx_ok S N T 0 1 (by omega)) ?_
      rintro _ h6 ⟨rfl, S6⟩
      refine Ev.bs S6 (cs := [.s t, .s [32], .s (withinTx (infs ks) 0 1)]) (by simp [fillD, cellsD]) ?_
      intro b1 h7 S7
      refine Ev.call (put_ok [t, [32], withinTx (infs ks) 0 1] S7 (List.Mem.head _) rfl (by simp [joinN]; omega) (by simp)) ?_
      rintro _ _ ⟨rfl, rfl⟩
      refine Ev.ret ⟨?_, S7.dropL⟩
      simp [joinN]
    · have e2' : ¬ kindTx t = 2 := by have h0 := e2; simp at h0; omega
      have em : messageTx t (infs ks) = joinN [32] (keysTx (partsTx t) (infs ks) 0) := by rw [messageTx, if_neg e1', if_neg e2']
      rw [em] at hl ⊢
      refine Ev.iff ?_
      unfold s90a2 s90a3
      refine Ev.call (parts_ok S hs) ?_
      rintro v h1 ⟨J, g, S1, Y⟩
      refine Ev.op (Y.2.len _) ?_
      unfold s90a5 s90a6
      refine (msg_loop (A := A) (N.mono g) T Y (partsTx t) 0 0 [] h1 .l0 [] rfl (Nat.zero_le _) S1 (Gr.nil J 1) (by simpa using hl) (by simpa using Y.1)).mono ?_
      rintro v h' ⟨e, S2⟩
      exact ⟨by simpa using e, S2.weak g⟩

theorem sendTx_ok (S : Sy I A Q L h) (N : NS I s ks) (T : ∀ x ∈ ks, TxOk x) (hs : t.length ≤ 1000000000) (hl : (sendTx t (infs ks)).length ≤ 100000000000) :
    Ev (fun n => shD n 61 [.s t, s] h) (fun v h' => v = .s (sendTx t (infs ks)) ∧ Sy I A Q L h') := by
  refine Ev.enter (fun n => enter61 n _ _ h) ?_
  unfold s61 s61a1
  have hil : (infs ks).length = ks.length := by simp [infs]
  refine Ev.op (N.len _) ?_
  refine Ev.ieq (fun e1 => ?_) (fun e1 => ?_)
  · have e1' : ks.length = 0 := by have h0 := e1; simp at h0; simp [h0]
    refine Ev.ift ?_
    refine Ev.ret ⟨?_, S⟩
    rw [sendTx, if_pos (by omega)]
  · have e1' : ¬ ks.length = 0 := fun e => e1 (by rw [e]; rfl)
    refine Ev.iff ?_
    unfold s61a2 s61a3
    have go : ∀ (hh : Nat), hh = (if kindTx t = 1 then 1 else 2) → Ev (fun n => s61a4 (shD n) n (.s t) s (.i .i64 (hh : Int)) h) (fun v h' => v = .s (sendTx t (infs ks)) ∧ Sy I A Q L h') := by
      intro hh eh
      have em : sendTx t (infs ks) = withinTx (infs ks) 0 hh ++ 32 :: messageTx t (infs (ks.drop 1)) := by
        rw [sendTx, if_neg (by omega), eh]
        simp [infs]
      rw [em] at hl ⊢
      simp only [List.length_append, List.length_cons] at hl
      unfold s61a4
      obtain ⟨s', er, N'⟩ := N.restA (i := 1) (by omega) (by omega)
      have Sr := S.res
      refine Ev.call (withinTx_ok Sr N T 0 hh (by omega)) ?_
      rintro _ h1 ⟨rfl, S1⟩
      refine Ev.op (er _ _ _ _ S1) ?_
      refine Ev.cnd ?_ ?_
      · rw [er _ _ _ _ Sr]
        have : DV.beq s' s' = true := N'.2.choose_spec.1.beq
        simp [sameR, this]
      refine Ev.call (messageTx_ok S1 N' (fun x hx => T x (List.mem_of_mem_drop hx)) hs (by omega)) ?_
      rintro _ h3 ⟨rfl, S3⟩
      refine Ev.bsAt0 S3 (cs := [.s (withinTx (infs ks) 0 hh), .s [32], .s (messageTx t (infs (ks.drop 1)))]) (Rpl.head _) (by simp [fillD, cellsD]) ?_
      intro h4 S4
      refine Ev.call (put_ok [withinTx (infs ks) 0 hh, [32], messageTx t (infs (ks.drop 1))] S4 (List.Mem.head _) rfl (by simp [joinN] at hl ⊢; omega) (by simp)) ?_
      rintro _ _ ⟨rfl, rfl⟩
      refine Ev.ret ⟨?_, S4.dropL⟩
      simp [joinN]
    refine Ev.call (kindTx_ok t h) ?_
    rintro _ h ⟨rfl, rfl⟩
    refine Ev.ieq (fun e2 => ?_) (fun e2 => ?_)
    · have e2' : kindTx t = 1 := by have h0 := e2; simp at h0; omega
      refine Ev.ift ?_
      exact go 1 (by rw [if_pos e2'])
    · have e2' : ¬ kindTx t = 1 := by have h0 := e2; simp at h0; omega
      refine Ev.iff ?_
      exact go 2 (by rw [if_neg e2'])
end

end Go.Dd

/- Dd, part P5: show's all. -/
set_option linter.unusedVariables false
set_option linter.unusedSimpArgs false
set_option maxRecDepth 100000
namespace Go.Dd
open Go.Proofs

theorem enter35 (n : Nat) (x y z : DV) (h : Hp) : shD (n + 1) 35 [x, y, z] h = s35 (shD n) n x y z h := by kernel_rfl
theorem call36 (rec : FuncId → List DV → Hp → Res) (x : DV) (h : Hp) : pCall CF rec (.f 36 [] []) [x] h = rec 36 [x] h := by kernel_rfl

/-- What is done with each node. -/
def HowOk (hw : DV) (g : Node → List Nat) (x : Node) : Prop := ∀ (I : Im) (A Q L : Ls) (h : Hp) (cs : List DV), Sy I A Q L h → NV I x cs → (g x).length ≤ 100000000000 →
  Ev (fun n => pCall CF (shD n) hw [.a cs] h) (fun v h' => v = .s (g x) ∧ Sy I A Q L h')

theorem HowOk.text {x : Node} (T : TxOk x) : HowOk (.f 36 [] []) (fun x => (nf x).tx) x := by
  intro I A Q L h cs S N hl
  have := T I A Q L h cs S N hl
  have e : (fun n => pCall CF (shD n) (.f 36 [] []) [.a cs] h) = fun n => shD n 36 [.a cs] h := funext fun n => call36 _ _ _
  rw [e]
  exact this

section
variable {I : Im} {A Q L : Ls} {s hw : DV} {ks : List Node} {sep : List Nat} {g : Node → List Nat}
theorem all_loop (N : NS I s ks) (T : ∀ x ∈ ks, HowOk hw g x) : ∀ (r : List Node) (i j : Nat) (B : Ls) (h : Hp) (x : DV) (acc : List (List Nat)), ks.drop i = r → Sy I (B ++ A) Q L h → Gr I 1 B x acc.length (acc.map .s) →
    (joinN sep (acc ++ r.map g)).length ≤ 100000000000 → acc.length + r.length ≤ lim →
    Ev (fun n => s35a5l (shD n) n (n - j) (.s sep) hw x s (.i .i64 (ks.length : Int)) (.i .i64 (i : Int)) h) (fun v h' => v = .s (joinN sep (acc ++ r.map g)) ∧ Sy I A Q L h')
  | [], i, j, B, h, x, acc, hr, S, G, hl, hc => by
    refine Ev.loop j (ll := fun n m => s35a5l (shD n) n m (.s sep) hw x s (.i .i64 (ks.length : Int)) (.i .i64 (i : Int)) h) (bb := fun n m => s35a5b (shD n) n (s35a5l (shD n) n m) (.s sep) hw x s (.i .i64 (ks.length : Int)) (.i .i64 (i : Int)) h) (fun _ _ => rfl) ?_
    unfold s35a5b
    have hle : ks.length ≤ i := List.drop_eq_nil_iff.1 hr
    refine Ev.ilt (fun e1 => absurd e1 (by omega)) (fun e1 => ?_)
    refine Ev.iff ?_
    unfold s35a3
    simp only [List.map_nil, List.append_nil] at hl ⊢
    obtain ⟨J, gJ, S3, F3⟩ := G.freeze S
    refine Ev.op (SS.join (I := J) ⟨by simpa using hc, F3⟩ S3 hl) ?_
    exact Ev.ret ⟨rfl, S3.weak gJ⟩
  | y :: r, i, j, B, h, x, acc, hr, S, G, hl, hc => by
    refine Ev.loop j (ll := fun n m => s35a5l (shD n) n m (.s sep) hw x s (.i .i64 (ks.length : Int)) (.i .i64 (i : Int)) h) (bb := fun n m => s35a5b (shD n) n (s35a5l (shD n) n m) (.s sep) hw x s (.i .i64 (ks.length : Int)) (.i .i64 (i : Int)) h) (fun _ _ => rfl) ?_
    unfold s35a5b
    have hlim : ks.length ≤ lim := N.1
    have hi' : i < ks.length := by
      rcases Nat.lt_or_ge i ks.length with h | h
      · exact h
      · rw [List.drop_eq_nil_of_le h] at hr; cases hr
    have hx : ks[i]? = some y := by
      have : (ks.drop i)[0]? = some y := by rw [hr]; rfl
      simpa using this
    have hr2 : ks.drop (i + 1) = r := by
      have := drop_cons hx
      rw [hr] at this
      simpa using this.symm
    refine Ev.ilt (fun e1 => ?_) (fun e1 => absurd (show (i : Int) < ks.length by omega) e1)
    refine Ev.ift ?_
    obtain ⟨b, o, c, ei, Nx, el⟩ := N.at hx
    obtain ⟨c1, o1, b1⟩ := Nx.shape
    have hmem : g y ∈ acc ++ (y :: r).map g := by simp
    have hp := Nat.le_trans (joinN_le sep _ _ hmem) hl
    refine Ev.op (ei _) ?_
    refine Ev.op (el _ _ _ _ _ (ILe.refl _) S) ?_
    refine wa fun _ _ _ => ?_; refine wt fun _ _ => ?_; refine ws ?_
    refine Ev.call (T y (List.mem_of_getElem? hx) _ _ _ _ _ _ (by assumption) Nx hp) ?_
    rintro _ h9 ⟨rfl, S9⟩
    refine Ev.bs S9 (cs := [.s (g y)]) rfl ?_
    intro b2 h10 S10
    obtain ⟨x4, h4, B4, e4, S4, G4⟩ := app_text G S10 (List.Mem.head _) (by simp at hc; omega)
    refine Ev.op e4 ?_
    refine Ev.iadd ?_
    rw [wadd1 (by omega)]
    have := all_loop N T r (i + 1) (j + 1) B4 h4 x4 (acc ++ [g y]) hr2 (dp) G4 (by simpa using hl) (by simp at hc ⊢; omega)
    simpa using this

theorem all_ok {h : Hp} (S : Sy I A Q L h) (N : NS I s ks) (T : ∀ x ∈ ks, HowOk hw g x) (hl : (joinN sep (ks.map g)).length ≤ 100000000000) :
    Ev (fun n => shD n 35 [s, .s sep, hw] h) (fun v h' => v = .s (joinN sep (ks.map g)) ∧ Sy I A Q L h') := by
  refine Ev.enter (fun n => enter35 n _ _ _ h) ?_
  unfold s35 s35a1 s35a2
  refine Ev.op (N.len _) ?_
  unfold s35a4 s35a5
  have := all_loop (A := A) (Q := Q) (L := L) (sep := sep) N T ks 0 0 [] h .l0 [] rfl S (Gr.nil I 1) (by simpa using hl) (by simpa using N.1)
  simpa using this
end

end Go.Dd

/- Dd, part P6: show's body. -/
set_option linter.unusedVariables false
set_option linter.unusedSimpArgs false
set_option maxRecDepth 100000
namespace Go.Dd
open Go.Proofs

theorem enter21 (n : Nat) (x : DV) (h : Hp) : shD (n + 1) 21 [x] h = s21 (shD n) n x h := by kernel_rfl

/-- The texts of nodes. -/
def txs (ks : List Node) : List (List Nat) := ks.map fun x => (nf x).tx

section
variable {I : Im} {A Q L : Ls} {h : Hp} {k m : Int} {t : List Nat} {ns ts : List (List Nat)} {ks : List Node} {cs : List DV}
theorem bodyTx_ok (S : Sy I A Q L h) (N : NV I (.mk k t m ns ts ks) cs) (T : ∀ x ∈ ks, TxOk x) (hl : (bodyTx ts (txs ks)).length ≤ 100000000000) :
    Ev (fun n => shD n 21 [.a cs] h) (fun v h' => v = .s (bodyTx ts (txs ks)) ∧ Sy I A Q L h') := by
  refine Ev.enter (fun n => enter21 n _ h) ?_
  unfold s21 s21a1 s21a2
  obtain ⟨s1, s2, s3, rfl, a, b, c, cells, F, NL⟩ := N
  have N3 : NS I s3 ks := ⟨c, cells, F, NL⟩
  have o1 := a.2.one
  have o2 := b.2.one
  have o3 := F.one
  refine Ev.box S rfl ?_
  intro b1 h1 S1
  have eb : bodyTx ts (txs ks) = (if ts.length = 0 then [] else 124 :: 32 :: (joinN [32] ts ++ [32, 124, 32])) ++ joinN [46, 32] (txs ks) := rfl
  have fin : ∀ (pre : List Nat) (h : Hp), Sy I A Q ((b1, some (.row .ex [.i .i64 k, .s t, .i .i64 m, s1, s2, s3])) :: L) h → (pre ++ joinN [46, 32] (txs ks)).length ≤ 100000000000 →
      Ev (fun n => s21a3 (shD n) n (.p b1 0) (.s pre) h) (fun v h' => v = .s (pre ++ joinN [46, 32] (txs ks)) ∧ Sy I A Q L h') := by
    intro pre h S hl
    unfold s21a3
    simp only [List.length_append] at hl
    refine wf ?_; refine wl ?_
    refine Ev.call (all_ok (sep := [46, 32]) S N3 (fun x hx => HowOk.text (T x hx)) (by simp only [txs] at hl; omega)) ?_
    rintro _ h3 ⟨rfl, S3⟩
    refine Ev.bs S3 (cs := [.s pre, .s (joinN [46, 32] (txs ks))]) (by simp [fillD, cellsD, txs]) ?_
    intro b2 h4 S4
    refine Ev.call (put_ok [pre, joinN [46, 32] (txs ks)] S4 (List.Mem.head _) rfl (by simp [joinN]; omega) (by simp)) ?_
    rintro _ _ ⟨rfl, rfl⟩
    refine Ev.ret ⟨?_, S4.dropL.dropL⟩
    simp [joinN]
  rw [eb] at hl ⊢
  refine wf ?_; refine wl ?_
  refine Ev.op (b.2.len _) ?_
  refine Ev.igt (fun e1 => ?_) (fun e1 => ?_)
  · have e1' : ¬ ts.length = 0 := by have h0 := e1; simp at h0; intro h9; simp [h9] at h0
    rw [if_neg e1'] at hl ⊢
    have hl2 : (joinN [32] ts).length ≤ 100000000000 := by simp at hl; omega
    refine yt ?_; refine wf ?_; refine wl ?_
    refine Ev.op (SS.join b S1 hl2) ?_
    refine Ev.bs S1 (cs := [.s [124, 32], .s (joinN [32] ts), .s [32, 124, 32]]) (by simp [fillD, cellsD]) ?_
    intro b2 h4 S4
    refine Ev.call (put_ok [[124, 32], joinN [32] ts, [32, 124, 32]] S4 (List.Mem.head _) rfl (by simp [joinN] at hl ⊢; omega) (by simp)) ?_
    rintro _ _ ⟨rfl, rfl⟩
    have ej : joinN [] [[124, 32], joinN [32] ts, [32, 124, 32]] = 124 :: 32 :: (joinN [32] ts ++ [32, 124, 32]) := by simp [joinN]
    rw [ej]
    exact fin _ _ S4.dropL hl
  · have e1' : ts.length = 0 := by have h0 := e1; simp at h0; simpa using h0
    rw [if_pos e1'] at hl ⊢
    refine yj ?_
    exact fin _ _ S1 hl
end

end Go.Dd

/- Dd, part P7: show's messages behind a cascade's first. -/
set_option linter.unusedVariables false
set_option linter.unusedSimpArgs false
set_option maxRecDepth 100000
namespace Go.Dd
open Go.Proofs

theorem enter91 (n : Nat) (x : DV) (h : Hp) : shD (n + 1) 91 [x] h = s91 (shD n) n x h := by kernel_rfl
theorem enter62 (n : Nat) (x : DV) (h : Hp) : shD (n + 1) 62 [x] h = s62 (shD n) n x h := by kernel_rfl
theorem enter36 (n : Nat) (x : DV) (h : Hp) : shD (n + 1) 36 [x] h = s36 (shD n) n x h := by kernel_rfl
theorem call91 (rec : FuncId → List DV → Hp → Res) (x : DV) (h : Hp) : pCall CF rec (.f 91 [] []) [x] h = rec 91 [x] h := by kernel_rfl

theorem nf_ks (k m : Int) (t : List Nat) (ns ts : List (List Nat)) (ks : List Node) : (nf (.mk k t m ns ts ks)).ks = infs ks ∧ (nf (.mk k t m ns ts ks)).t = t := by
  simp [nf, nfL_eq, infs]

/-- A further message of a cascade. -/
def furtherTx (x : Node) : List Nat := 59 :: 32 :: messageTx (nf x).t (nf x).ks

theorem how91 {x : Node} (T : ∀ y ∈ x.kids, TxOk y) (hs : x.text.length ≤ 1000000000) : HowOk (.f 91 [] []) furtherTx x := by
  intro I A Q L h cs S N hl
  have e : (fun n => pCall CF (shD n) (.f 91 [] []) [.a cs] h) = fun n => shD n 91 [.a cs] h := funext fun n => call91 _ _ _
  rw [e]
  obtain ⟨k, t, m, ns, ts, ks⟩ := x
  obtain ⟨q1, q2⟩ := nf_ks k m t ns ts ks
  have ef : furtherTx (.mk k t m ns ts ks) = 59 :: 32 :: messageTx t (infs ks) := by rw [furtherTx, q1, q2]
  rw [ef] at hl ⊢
  simp only [List.length_cons] at hl
  refine Ev.enter (fun n => enter91 n _ h) ?_
  unfold s91
  obtain ⟨s1, s2, s3, rfl, a, b, c, cells, F, NL⟩ := N
  have N3 : NS I s3 ks := ⟨c, cells, F, NL⟩
  have o1 := a.2.one
  have o2 := b.2.one
  have o3 := F.one
  refine Ev.box S rfl ?_
  intro b1 h1 S1
  refine wf ?_; refine wl ?_; refine wf ?_; refine wl ?_
  refine Ev.call (messageTx_ok S1 N3 T hs (by omega)) ?_
  rintro _ h3 ⟨rfl, S3⟩
  refine Ev.bs S3 (cs := [.s [59, 32], .s (messageTx t (infs ks))]) (by simp [fillD, cellsD]) ?_
  intro b2 h4 S4
  refine Ev.call (put_ok [[59, 32], messageTx t (infs ks)] S4 (List.Mem.head _) rfl (by simp [joinN]; omega) (by simp)) ?_
  rintro _ _ ⟨rfl, rfl⟩
  refine Ev.ret ⟨?_, S4.dropL.dropL⟩
  simp [joinN]

end Go.Dd

/- Dd, part P8: a cascade's first message with its receiver; fields of an element. -/
set_option linter.unusedVariables false
set_option linter.unusedSimpArgs false
set_option maxRecDepth 100000
namespace Go.Dd
open Go.Proofs

theorem ldA_fld {b : Pos} {o j : Nat} {c : List DV} {v : DV} {h : Hp} (e : pLoadA 6 (.p b o) h = some (.a c, h)) (hv : c[j]? = some v) : pLoad1 (.p b (o + j)) h = some (v, h) := by
  simp only [pLoadA, cellsAt] at e
  cases hr : rowOf b h with
  | none => rw [hr] at e; cases e
  | some l =>
    rw [hr] at e
    simp only at e
    cases ht : takeD 6 (l.drop o) with
    | none => rw [ht] at e; cases e
    | some cs =>
      rw [ht] at e
      simp only [Option.some.injEq, Prod.mk.injEq, DV.a.injEq, and_true] at e
      subst e
      obtain ⟨h1, h2, h3, h4⟩ := takeD_spec 6 _ _ ht
      have hj : j < 6 := by
        have := (List.getElem?_eq_some_iff.1 hv).1
        omega
      have ev : l[o + j]? = some v := by
        rw [h3] at hv
        rw [List.getElem?_take_of_lt hj, List.getElem?_drop] at hv
        exact hv
      have ho := h4 v (List.mem_of_getElem? hv)
      simp [pLoad1, cellD, hr, ev, ho]

theorem first_ok {I : Im} {A Q L : Ls} {h : Hp} {b : Pos} {y : Node} {ca : List DV} {s3 : DV} {ks : List Node} (S : Sy I A Q ((b, some (.row .ex ca)) :: L) h) (Ny : NV I y ca) (N3 : NS I s3 ks) (hl : ks.length + 1 ≤ lim) :
    ∃ x h' J, pAppend 6 104 (.l b 0 1 1) s3 h = some (x, h') ∧ ILe I J ∧ Sy J A Q L h' ∧ NS J x (y :: ks) := by
  obtain ⟨c1, c2, _⟩ := Ny.shape
  have N3' := N3
  obtain ⟨hk, cells, F, NL⟩ := N3
  by_cases h0 : ks.length = 0
  · have hks : ks = [] := List.eq_nil_of_length_eq_zero h0
    subst hks
    have hc : cells = [] := NL
    have hs : srcD 6 s3 h = some (0, []) := by
      rw [F.src S.dropL, hc]
      rfl
    have hg := S.memL (List.Mem.head _)
    have e : pAppend 6 104 (.l b 0 1 1) s3 h = some (.l b 0 1 1, ⟨h.next, Tr.set (.row .ex ca) b h.bl⟩) := by
      obtain ⟨k, t, m, ns, ts, ks'⟩ := y
      obtain ⟨s1, s2, s4, rfl, _⟩ := Ny
      unfold pAppend
      simp only [hs]
      simp [storeAtD, hg, Kind.writable, putAt, putD]
    have S2 : Sy I A Q ((b, some (.row .ex ca)) :: L) ⟨h.next, Tr.set (.row .ex ca) b h.bl⟩ := S.setL (Rpl.head _) rfl (fun c => Tr.get_set _ _ _ _)
    obtain ⟨J, gJ, S4, F4, _⟩ := Fz.built (sz := 6) (n := 1) S2 (by simpa using c1) c2
    exact ⟨_, _, J, e, gJ, S4, by simp [lim], ca, F4, NVL.single (Ny.mono gJ)⟩
  · obtain ⟨J, gJ, S4, F4, G4⟩ := Fz.built (sz := 6) (n := 1) S (by simpa using c1) c2
    obtain ⟨d1, d2⟩ := NL.shape
    have hr : (1 + ks.length) * 104 ≤ roomD := by simp [roomD, lim] at hl ⊢; omega
    obtain ⟨x5, h5, B5, e5, S5, G5⟩ := G4.app (A0 := A) S4 ((F.mono gJ).src S4) d1 d2 h0 hr
    obtain ⟨K, gK, S6, F6⟩ := G5.freeze S5
    refine ⟨x5, h5, K, e5, gJ.trans gK, S6, by simpa using hl, ca ++ cells, by simpa [Nat.add_comm] using F6, ?_⟩
    exact NVL.app (NVL.single ((Ny.mono gJ).mono gK)) ((NL.mono gJ).mono gK)

end Go.Dd

/- Dd, part P9: show's series. -/
set_option linter.unusedVariables false
set_option linter.unusedSimpArgs false
set_option maxRecDepth 100000
namespace Go.Dd
open Go.Proofs

theorem series_eq (a b : Node) (r : List Node) : seriesTx (nfL (a :: b :: r)) = sendTx (nf b).t (infs (a :: b.kids)) ++ joinN [] (r.map furtherTx) := by
  obtain ⟨k, t, m, ns, ts, ks⟩ := b
  obtain ⟨q1, q2⟩ := nf_ks k m t ns ts ks
  have e : ((nfL r).map fun x => 59 :: 32 :: messageTx x.t x.ks) = r.map furtherTx := by
    rw [nfL_eq, List.map_map]
    rfl
  simp only [nfL, seriesTx, e, q1]
  rfl

section
variable {I : Im} {A Q L : Ls} {h : Hp} {s : DV} {ks : List Node}
theorem series_ok (S : Sy I A Q L h) (N : NS I s ks) (T : ∀ x ∈ ks, TxOk x) (K : ∀ x ∈ ks, (∀ y ∈ x.kids, TxOk y) ∧ x.text.length ≤ 1000000000 ∧ x.kids.length + 1 ≤ lim) (hl : (seriesTx (nfL ks)).length ≤ 100000000000) :
    Ev (fun n => shD n 62 [s] h) (fun v h' => v = .s (seriesTx (nfL ks)) ∧ Sy I A Q L h') := by
  refine Ev.enter (fun n => enter62 n _ h) ?_
  unfold s62
  refine Ev.op (N.len _) ?_
  refine Ev.ilt (fun e1 => ?_) (fun e1 => ?_)
  · refine Ev.ift ?_
    refine Ev.ret ⟨?_, S⟩
    match ks, e1 with
    | [], _ => rfl
    | [_], _ => rfl
    | _ :: _ :: _, e1 => simp at e1; omega
  · match ks, N, T, K, hl, e1 with
    | [], _, _, _, _, e1 => simp at e1
    | [_], _, _, _, _, e1 => simp at e1
    | a :: b :: r, N, T, K, hl, e1 =>
      rw [series_eq] at hl ⊢
      simp only [List.length_append] at hl
      refine Ev.iff ?_
      obtain ⟨p0, o0, ca, ei0, Na, el0⟩ := N.at (i := 0) (x := a) rfl
      obtain ⟨p1, o1, cb, ei1, Nb, el1⟩ := N.at (i := 1) (x := b) rfl
      have Sr := S.res
      obtain ⟨c1, c2, _⟩ := Na.shape
      obtain ⟨kb, tb, mb, nsb, tsb, ksb⟩ := b
      obtain ⟨K1, K2, K3⟩ := K (.mk kb tb mb nsb tsb ksb) (by simp)
      obtain ⟨q1, q2⟩ := nf_ks kb mb tb nsb tsb ksb
      rw [q2] at hl ⊢
      have hl' : (sendTx tb (infs (a :: ksb))).length + (joinN [] (r.map furtherTx)).length ≤ 100000000000 := hl
      obtain ⟨s1, s2, s3, rfl, ya, yb, yc, cells, F, NL⟩ := Nb
      have N3 : NS I s3 ksb := ⟨yc, cells, F, NL⟩
      refine Ev.op (ei0 _) ?_
      refine Ev.op (el0 _ _ _ _ _ (ILe.refl _) Sr) ?_
      refine Ev.bsAt0 Sr (Rpl.head _) (fill6 c1) ?_
      intro h4 S4
      refine Ev.op (ei1 _) ?_
      refine Ev.fld ?_
      refine Ev.op (ldA_fld (j := 5) (el1 _ _ _ _ _ (ILe.refl _) S4) rfl) ?_
      refine Ev.cnd ?_ ?_
      · rw [ldA_fld (j := 5) (el1 _ _ _ _ _ (ILe.refl _) Sr) rfl]
        have : DV.beq s3 s3 = true := F.beq
        simp [sameR, this]
      obtain ⟨x9, h9, J, e9, g9, S9, N9⟩ := first_ok S4 Na N3 K3
      refine Ev.op e9 ?_
      obtain ⟨s', er, N'⟩ := N.restA (i := 2) (by simp) (by simp)
      refine Ev.op (er _ _ _ _ (S9.weak g9)) ?_
      refine Ev.call (all_ok (g := furtherTx) (sep := []) S9 (N'.mono g9) (fun x hx => ?_) (by simpa using (by omega : (joinN [] (r.map furtherTx)).length ≤ 100000000000))) ?_
      · have hx' : x ∈ r := by simpa using hx
        obtain ⟨k1, k2, _⟩ := K x (by simp [hx'])
        exact how91 k1 k2
      rintro _ h11 ⟨rfl, S11⟩
      refine Ev.op (ei1 _) ?_
      refine Ev.fld ?_
      refine Ev.op (ldA_fld (j := 1) (el1 _ _ _ _ _ g9 S11) rfl) ?_
      refine Ev.call (sendTx_ok S11 N9 (fun x hx => ?_) K2 (by omega)) ?_
      · rcases List.mem_cons.1 hx with rfl | hx
        · exact T _ (by simp)
        · exact K1 x hx
      rintro _ h15 ⟨rfl, S15⟩
      have ed : (List.drop 2 (a :: Node.mk kb tb mb nsb tsb ksb :: r)) = r := rfl
      rw [ed]
      refine Ev.bs S15 (cs := [.s (sendTx tb (infs (a :: ksb))), .s (joinN [] (r.map furtherTx))]) (by simp [fillD, cellsD]) ?_
      intro b2 h16 S16
      refine Ev.call (put_ok [sendTx tb (infs (a :: ksb)), joinN [] (r.map furtherTx)] S16 (List.Mem.head _) rfl (by simp [joinN]; omega) (by simp)) ?_
      rintro _ _ ⟨rfl, rfl⟩
      refine Ev.ret ⟨?_, S16.dropL.weak g9⟩
      simp [joinN, Node.kids]
end

end Go.Dd

