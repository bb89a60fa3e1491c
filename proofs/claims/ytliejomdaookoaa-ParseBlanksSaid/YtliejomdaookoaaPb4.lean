/- A part of the proof: U3 T15 T16 T17 T18 U4 T19 Z1 Z2 Z4 B1 B2 B3 Z5: each text has a comment of its own. -/
import Derived.Test.YtliejomdaookoaaPb3
/- Dd, part U3: plain: the program's parser ends, and has just the names and literals of its tokens: all of it. -/
set_option linter.unusedVariables false
set_option linter.unusedSimpArgs false
set_option maxRecDepth 100000
namespace Go.Dd

theorem Good.pos {l : List Tok} (h : Good l) : 1 ≤ l.length := by
  obtain ⟨t, r, e, _⟩ := h.head
  rw [e]; simp

theorem literalsW {LI : PF} {b f : Nat} (HL : Fine0 LI b) (hf : b + 1 < f) : Fine0 (literalsS LI f) (b + 1) := by
  intro st h hb
  obtain ⟨ys, s1, k, a1, a2, a3, a4⟩ := litsW HL f st [] h (fun e => ⟨by have := hb e; omega, hb e⟩) (by omega)
  have hc : cnt (.mk 4 [] 0 [] [] ys) = k := by simp [cnt, a3, cntL]
  by_cases he : s1.err = 0
  · obtain ⟨t, ht, hk⟩ := a4 he
    obtain ⟨s2, b1, b2, b3, b4, b5, b6, b7, b8⟩ := takeW a2.good ht (by omega)
    refine ⟨.mk 4 [] 0 [] [] ys, s2, by simp [literalsS, a1, b1], ?_, Shp.flat _ _ _ _ _ _ (by decide)⟩
    rw [hc]
    exact a2.trans (b8 0 (by simp [T1, hk]) (by omega))
  · obtain ⟨t, s2, b1, b2, b3, c, b4, b5⟩ := takeE a2.good
    refine ⟨.mk 4 [] 0 [] [] ys, s2, by simp [literalsS, a1, b1], ?_, Shp.flat _ _ _ _ _ _ (by decide)⟩
    have he2 : s2.err ≠ 0 := by rw [b2]; exact he
    have : Stp s1 s2 0 := ⟨b3, fun _ => he2, c, b4, fun e => absurd e he2⟩
    exact (a2.trans this).any he2 _

theorem stmtsW {E : PF} {b : Nat} (HE : FineP E b) : ∀ (f : Nat) (st : PSt) (xs : List Node), Good st.toks → (st.err = 0 → st.toks.length ≤ f ∧ st.toks.length ≤ b) → 1 ≤ f → ∃ ys st' k, stmtsL E f xs st = some (ys, st') ∧ Stp st st' k ∧ cntL ys = cntL xs + k
  | 0, st, xs, h, hf, h1 => by omega
  | f + 1, st, xs, h, hf, h1 => by
    obtain ⟨t, r, e, ht, h2, h3⟩ := lookG h
    unfold stmtsL
    by_cases he : st.err = 0
    · rw [if_pos he, isG ht]
      simp only [Option.bind_some]
      obtain ⟨hl1, hl2⟩ := hf he
      have fin : ∃ ys st' k, some (xs, st) = some (ys, st') ∧ Stp st st' k ∧ cntL ys = cntL xs + k := ⟨xs, st, 0, rfl, Stp.refl h, by simp⟩
      cases hc : isC st t 0 [] with
      | true => simpa using fin
      | false =>
        simp only [Bool.false_eq_true, if_false]
        rw [isG ht]
        simp only [Option.bind_some]
        cases hc2 : isC st t 10 [93] with
        | true => simpa using fin
        | false =>
          simp only [Bool.false_eq_true, if_false]
          rw [isG ht]
          simp only [Option.bind_some]
          cases hc3 : isC st t 10 [94] with
          | true =>
            simp only [if_true]
            obtain ⟨c1, c2⟩ := isC_ok hc3
            obtain ⟨s1, a1, a2, a3, a4, a5, a6, a7, a8⟩ := takeW h ht (by omega)
            obtain ⟨x, s2, b1, b2, b3, b4⟩ := HE s1 a6 (fun _ => by omega)
            obtain ⟨u, r2, e2, hu, _, _⟩ := lookG b2.good
            have S1 := (a8 0 (by simp [T1, c2]) (by omega)).trans b2
            have hcn : cntL (xs ++ [Node.mk 10 [] 0 [] [] [x]]) = cntL xs + (0 + cnt x) := by rw [cntL_app, cntL_cons, cntL_nil]; simp [cnt, cntL]
            rw [a1]
            simp only [Option.bind_some, b1]
            rw [isG hu]
            simp only [Option.bind_some]
            cases hc4 : isC s2 u 10 [46] with
            | false => exact ⟨xs ++ [Node.mk 10 [] 0 [] [] [x]], s2, _, by simp, S1, hcn⟩
            | true =>
              obtain ⟨d1, d2⟩ := isC_ok hc4
              obtain ⟨s3, g1, g2, g3, g4, g5, g6, g7, g8⟩ := takeW b2.good hu (by omega)
              refine ⟨xs ++ [Node.mk 10 [] 0 [] [] [x]], s3, _, by simp [g1], S1.trans (g8 0 (by simp [T1, d2]) (by omega)), by rw [hcn]; omega⟩
          | false =>
            simp only [Bool.false_eq_true, if_false]
            obtain ⟨x, s2, b1, b2, b3, b4⟩ := HE st h (fun _ => hl2)
            obtain ⟨u, r2, e2, hu, _, _⟩ := lookG b2.good
            have hcn : cntL (xs ++ [x]) = cntL xs + cnt x := by rw [cntL_app, cntL_cons, cntL_nil]; omega
            rw [b1]
            simp only [Option.bind_some]
            rw [isG hu]
            simp only [Option.bind_some]
            cases hc4 : isC s2 u 10 [46] with
            | false => exact ⟨xs ++ [x], s2, _, by simp, b2, hcn⟩
            | true =>
              obtain ⟨d1, d2⟩ := isC_ok hc4
              obtain ⟨s3, g1, g2, g3, g4, g5, g6, g7, g8⟩ := takeW b2.good hu (by omega)
              have hlt := b4 d1
              have hp := g6.pos
              obtain ⟨ys, st', k, k1, k2, k3⟩ := stmtsW HE f s3 (xs ++ [x]) g6 (fun _ => by omega) (by omega)
              refine ⟨ys, st', _, by simp [g1, k1], (b2.trans (g8 0 (by simp [T1, d2]) (by omega))).trans k2, by rw [k3, hcn]; omega⟩
    · rw [if_neg he]
      exact ⟨xs, st, 0, rfl, Stp.refl h, by simp⟩

theorem barW {l : List (List Nat)} {st : PSt} (h : Good st.toks) : ∃ st', bar l st = some st' ∧ Stp st st' 0 := by
  obtain ⟨t, r, e, ht, h2, h3⟩ := lookG h
  unfold bar
  by_cases hl : 0 < l.length
  · rw [if_pos hl, isG ht]
    simp only [Option.bind_some]
    cases hc : isC st t 10 [93] with
    | true => exact ⟨st, by simp, Stp.refl h⟩
    | false =>
      obtain ⟨u, s1, a1, a2, a3⟩ := needW h 10 [124] 0 (fun _ => tIn (by simp)) (by simp)
      exact ⟨s1, by simp [a1], a2⟩
  · rw [if_neg hl]
    exact ⟨st, rfl, Stp.refl h⟩

theorem blockW {E : PF} {b f : Nat} (HE : FineP E b) (hf : b ≤ f) (h1 : 1 ≤ f) : Fine0 (blockS E f) b := by
  intro st h hb
  obtain ⟨l, s1, k, a1, a2, a3⟩ := paramsW f st [] h (fun e => by have := hb e; omega) h1
  obtain ⟨s2, b1, b2⟩ := barW (l := l) a2.good
  have S2 := a2.trans b2
  have lt : ∀ s : PSt, (∃ k, Stp st s k) → s.err = 0 → s.toks.length ≤ b := fun s ⟨k, S⟩ e => by
    have h1 := hb (S.ok e)
    have := S.len
    omega
  obtain ⟨ts, s3, c1, c2⟩ := tempsW (f := f) S2.good (fun e => by have := lt s2 ⟨_, S2⟩ e; omega) h1
  have S3 := S2.trans c2
  obtain ⟨ks, s4, k4, d1, d2, d3⟩ := stmtsW HE f s3 [] S3.good (fun e => by have := lt s3 ⟨_, S3⟩ e; omega) h1
  have S4 := S3.trans d2
  obtain ⟨u, s5, e1, e2, e3⟩ := needW S4.good 10 [93] 0 (fun _ => tIn (by simp)) (by simp)
  have S5 := S4.trans e2
  refine ⟨.mk 9 [] 0 l ts ks, s5, by simp [blockS, a1, b1, c1, d1, e1], ?_, Shp.flat _ _ _ _ _ _ (by decide)⟩
  have : cnt (.mk 9 [] 0 l ts ks) = k + 0 + ts.length + k4 + 0 := by
    simp [cnt, d3, cntL] at a3 ⊢
    omega
  rw [this]
  exact S5

theorem primaryW {LI E : PF} {b f : Nat} (HL : Fine0 LI b) (HE : FineP E b) (hf : b ≤ f) (h1 : 1 ≤ f) : FineP (primaryS LI E f) (b + 1) := by
  intro st h hb
  obtain ⟨t, r, e, ht, h2, h3⟩ := lookG h
  obtain ⟨x, c, s1, a1, a2, a3, a7⟩ := plainW h
  unfold primaryS
  rw [a1]
  simp only [Option.bind_some]
  cases c with
  | true =>
    obtain ⟨b1, b2, b3, b4⟩ := a2 rfl
    exact ⟨x, s1, by simp, b1, fun e7 => absurd e7 a7, fun _ => b2⟩
  | false =>
    have := a3 rfl
    subst this
    simp only [Bool.false_eq_true, if_false, ht, Option.bind_some]
    by_cases he : s1.err = 0
    · rw [if_pos he]
      by_cases k1 : t.kind = 1
      · rw [if_pos k1]
        obtain ⟨s2, c1, c2, c3, c4, c5, c6, c7, c8⟩ := takeW h ht (by omega)
        rw [c1]
        refine ⟨_, _, rfl, ?_, Shp.flat _ _ _ _ _ _ (by decide), fun _ => by show s2.toks.length < _; omega⟩
        have : cnt (.mk 5 t.text 0 [] [] []) = 1 := by simp [cnt, cntL]
        rw [this]
        exact c8 1 (by simp [T1, k1]) (by simp [T2, k1])
      · rw [if_neg k1]
        by_cases k7 : t.kind = 7
        · rw [if_pos k7]
          exact withinW HL h ht (.inl k7) hb
        · rw [if_neg k7, isG ht]
          simp only [Option.bind_some]
          cases hc : isC s1 t 10 [40] with
          | true =>
            simp only [if_true]
            exact withinW (innerW HE) h ht (.inr (isC_ok hc).2) hb
          | false =>
            simp only [Bool.false_eq_true, if_false]
            rw [isG ht]
            simp only [Option.bind_some]
            cases hc2 : isC s1 t 10 [91] with
            | true =>
              simp only [if_true]
              exact withinW (blockW HE hf h1) h ht (.inr (isC_ok hc2).2) hb
            | false =>
              simp only [Bool.false_eq_true, if_false]
              obtain ⟨f1, f2⟩ := failW h t 13 (by decide) (cnt zN)
              exact ⟨_, _, rfl, f1, Shp.flat _ _ _ _ _ _ (by decide), fun e => absurd e f2⟩
    · rw [if_neg he]
      exact ⟨_, _, rfl, (Stp.refl h).any he _, Shp.flat _ _ _ _ _ _ (by decide), fun e => absurd e he⟩

theorem binaryW {P : PF} {b g : Nat} (HP : FineP P b) (hg : b ≤ g) (hg1 : 1 ≤ g) : ∀ (f : Nat) (st : PSt) (x : Node), Good st.toks → (st.err = 0 → st.toks.length ≤ f ∧ st.toks.length ≤ b + 1) → 1 ≤ f →
    ∃ y st' k, binaryL P g f x st = some (y, st') ∧ Stp st st' k ∧ cnt y = cnt x + k ∧ (Shp x → Shp y)
  | 0, st, x, h, hf, h1 => by omega
  | f + 1, st, x, h, hf, h1 => by
    obtain ⟨t, r, e, ht, h2, h3⟩ := lookG h
    unfold binaryL
    rw [isG ht]
    simp only [Option.bind_some]
    cases hc : isC st t 3 [] with
    | false => exact ⟨x, st, 0, by simp, Stp.refl h, by simp, id⟩
    | true =>
      obtain ⟨c1, c2⟩ := isC_ok hc
      obtain ⟨hl1, hl2⟩ := hf c1
      obtain ⟨s1, a1, a2, a3, a4, a5, a6, a7, a8⟩ := takeW h ht (by omega)
      have hp := a6.pos
      obtain ⟨q, s2, b1, b2, b3, b4⟩ := HP s1 a6 (fun _ => by omega)
      have hl := b2.len
      obtain ⟨u, s3, ku, d1, d2, d3, d4⟩ := unaryW g s2 q b2.good (fun _ => by omega) hg1
      have hl3 := d2.len
      obtain ⟨y, st', k, k1, k2, k3, k4⟩ := binaryW HP hg hg1 f s3 (sendN t.text [x, u]) d2.good (fun _ => by omega) (by omega)
      refine ⟨y, st', 1 + cnt q + ku + k, by simp [a1, b1, d1, k1], (((a8 1 (by simp [T1, c2]) (by simp [T2, c2])).trans b2).trans d2).trans k2, ?_, fun _ => k4 (Shp.send _ _ _)⟩
      rw [k3, cnt_send, cntL_cons, cntL_cons, cntL_nil, d3]
      omega

/-- One argument of keywords. -/
theorem argW {P : PF} {b g : Nat} (HP : FineP P b) (hg : b + 1 ≤ g) {st : PSt} (h : Good st.toks) (hb : st.err = 0 → st.toks.length ≤ b) :
    ∃ q s2 u s3 w s4, P st = some (q, s2) ∧ unaryS g q s2 = some (u, s3) ∧ binaryL P g g u s3 = some (w, s4) ∧ Stp st s4 (cnt w) ∧ Shp w ∧ (s4.err = 0 → s4.toks.length < st.toks.length) := by
  obtain ⟨q, s2, b1, b2, b3, b4⟩ := HP st h hb
  have hl2 := b2.len
  obtain ⟨u, s3, ku, d1, d2, d3, d4⟩ := unaryW g s2 q b2.good (fun e => by have := hb (b2.ok e); omega) (by omega)
  have hl3 := d2.len
  obtain ⟨w, s4, k, k1, k2, k3, k4⟩ := binaryW (g := g) HP (by omega) (by omega) g s3 u d2.good (fun e => by have := hb (b2.ok (d2.ok e)); omega) (by omega)
  have hl4 := k2.len
  refine ⟨q, s2, u, s3, w, s4, b1, d1, k1, ?_, k4 (d4 b3), fun e => ?_⟩
  · rw [k3, d3]
    exact (b2.trans d2).trans k2
  · have := b4 (d2.ok (k2.ok e))
    omega

theorem keysLW {P : PF} {b g : Nat} (HP : FineP P b) (hg : b + 1 ≤ g) : ∀ (f : Nat) (st : PSt) (t : List Nat) (ks : List Node), Good st.toks → (st.err = 0 → st.toks.length ≤ f ∧ st.toks.length ≤ b + 1 ∧ t.length + st.toks.length * 10000 ≤ lim) → 1 ≤ f → ks ≠ [] →
    ∃ y st' k, keysL P g f t ks st = some (y, st') ∧ Stp st st' k ∧ cnt y = 1 + cntL ks + k ∧ Shp y
  | 0, st, t, ks, h, hf, h1, hk => by omega
  | f + 1, st, t, ks, h, hf, h1, hk => by
    obtain ⟨u, r, e, ht, h2, h3⟩ := lookG h
    unfold keysL
    rw [isG ht]
    simp only [Option.bind_some]
    cases hc : isC st u 2 [] with
    | false => exact ⟨sendN t ks, st, 0, by simp, Stp.refl h, by rw [cnt_send]; rfl, fun _ => ⟨t, ks, rfl, hk⟩⟩
    | true =>
      obtain ⟨c1, c2⟩ := isC_ok hc
      obtain ⟨hl1, hl2, hl3⟩ := hf c1
      obtain ⟨s1, a1, a2, a3, a4, a5, a6, a7, a8⟩ := takeW h ht (by omega)
      have hp := a6.pos
      have htx := h.text a7
      obtain ⟨q, s2, w, s3, v, s4, b1, b2, b3, b4, b5, b6⟩ := argW HP hg a6 (fun _ => by omega)
      have hl4 := b4.len
      obtain ⟨y, st', k, k1, k2, k3, k4⟩ := keysLW HP hg f s4 (t ++ u.text) (ks ++ [v]) b4.good (fun _ => ⟨by omega, by omega, by
        have : s4.toks.length * 10000 ≤ s1.toks.length * 10000 := Nat.mul_le_mul_right _ hl4
        have e2 : st.toks.length * 10000 = s1.toks.length * 10000 + 10000 := by rw [← a5]; omega
        simp
        omega⟩) (by omega) (by simp)
      refine ⟨y, st', 0 + cnt v + k, ?_, ((a8 0 (by simp [T1, c2]) (by omega)).trans b4).trans k2, ?_, k4⟩
      · simp only [if_true, a1, Option.bind_some]
        rw [if_pos (by omega)]
        simp [b1, b2, b3, k1]
      · rw [k3, cntL_app, cntL_cons, cntL_nil]; omega

theorem keysW {P : PF} {b g : Nat} (HP : FineP P b) (hg : b + 2 ≤ g) (hb : b ≤ 1000000) {st : PSt} {x : Node} (h : Good st.toks) (hf : st.err = 0 → st.toks.length ≤ b + 1) :
    ∃ y st' k, keysS P g x st = some (y, st') ∧ Stp st st' k ∧ cnt y = cnt x + k ∧ (Shp x → Shp y) ∧ ((∃ t, lookS st 0 = some t ∧ isC st t 2 [] = true) → ∃ t ks, y = sendN t (x :: ks)) := by
  obtain ⟨u, r, e, ht, h2, h3⟩ := lookG h
  unfold keysS
  rw [isG ht]
  simp only [Option.bind_some]
  cases hc : isC st u 2 [] with
  | false =>
    refine ⟨x, st, 0, by simp, Stp.refl h, by simp, id, ?_⟩
    rintro ⟨t, q1, q2⟩
    rw [ht] at q1
    cases q1
    rw [hc] at q2
    cases q2
  | true =>
    obtain ⟨c1, c2⟩ := isC_ok hc
    have hl := hf c1
    obtain ⟨s1, a1, a2, a3, a4, a5, a6, a7, a8⟩ := takeW h ht (by omega)
    have hp := a6.pos
    have htx := h.text a7
    obtain ⟨q, s2, w, s3, v, s4, b1, b2, b3, b4, b5, b6⟩ := argW (g := g) HP (by omega) a6 (fun _ => by omega)
    have hl4 := b4.len
    obtain ⟨g', rfl⟩ : ∃ g', g = g' + 1 := ⟨g - 1, by omega⟩
    have all : ∀ (f : Nat) (st : PSt) (t : List Nat) (ks : List Node) (y : Node) (st' : PSt), keysL P (g' + 1) f t (x :: ks) st = some (y, st') → ∃ t ks, y = sendN t (x :: ks) := by
      intro f
      induction f with
      | zero => intro st t ks y st' hk; cases hk
      | succ f ih =>
        intro st t ks y st' hk
        unfold keysL at hk
        obtain ⟨c, _, hk⟩ := Option.bind_eq_some_iff.1 hk
        split at hk
        · obtain ⟨_, _, hk⟩ := Option.bind_eq_some_iff.1 hk
          split at hk
          · obtain ⟨_, _, hk⟩ := Option.bind_eq_some_iff.1 hk
            obtain ⟨_, _, hk⟩ := Option.bind_eq_some_iff.1 hk
            obtain ⟨_, _, hk⟩ := Option.bind_eq_some_iff.1 hk
            exact ih _ _ _ _ _ hk
          · cases hk
        · cases hk
          exact ⟨_, _, rfl⟩
    obtain ⟨y, st', k, k1, k2, k3, k4⟩ := keysLW (g := g' + 1) HP (by omega) g' s4 ([] ++ u.text) ([x] ++ [v]) b4.good (fun _ => ⟨by omega, by omega, by
      have : s4.toks.length * 10000 ≤ 1000001 * 10000 := Nat.mul_le_mul_right _ (by omega)
      simp [lim]
      omega⟩) (by omega) (by simp)
    have hres : keysL P (g' + 1) (g' + 1) [] [x] st = some (y, st') := by
      unfold keysL
      rw [isG ht, hc]
      simp only [Option.bind_some, if_true, a1]
      rw [if_pos (by simp [lim]; omega)]
      simp only [Option.bind_some, b1, b2, b3]
      exact k1
    refine ⟨y, st', 1 + cnt v + k, by simpa using hres, ((a8 1 (by simp [T1, c2]) (by simp [T2, c2])).trans b4).trans k2, ?_, fun _ => k4, fun _ => all _ _ _ _ _ _ hres⟩
    rw [k3, cntL_app, cntL_cons, cntL_cons, cntL_nil]; omega

theorem cnt_zN : cnt zN = 1 := by simp [zN, cnt, cntL]
theorem msgN_send (t : List Nat) (x : Node) (ks : List Node) : msgN (sendN t (x :: ks)) = sendN t ks := by simp [msgN, sendN, Node.kids, Node.text]

theorem msgW {P : PF} {b g : Nat} (HP : FineP P b) (hg : b + 2 ≤ g) (hb : b ≤ 1000000) {st : PSt} (h : Good st.toks) (hf : st.err = 0 → st.toks.length ≤ b + 1) :
    ∃ y st', msgS P g st = some (y, st') ∧ Stp st st' (cnt (msgN y)) := by
  obtain ⟨t, r, e, ht, h2, h3⟩ := lookG h
  unfold msgS
  rw [ht]
  simp only [Option.bind_some]
  have any : ∀ {y : Node} {st' : PSt} {k : Nat}, Stp st st' k → (st.err = 0 → k = cnt (msgN y)) → Stp st st' (cnt (msgN y)) := fun S hk => S.cast (fun e => hk (S.ok e))
  by_cases k1 : t.kind = 1
  · rw [if_pos k1]
    obtain ⟨s1, a1, a2, a3, a4, a5, a6, a7, a8⟩ := takeW h ht (by omega)
    rw [a1]
    refine ⟨_, _, rfl, ?_⟩
    rw [msgN_send, cnt_send, cntL_nil]
    exact a8 1 (by simp [T1, k1]) (by simp [T2, k1])
  · rw [if_neg k1]
    by_cases k3 : t.kind = 3
    · rw [if_pos k3]
      obtain ⟨s1, a1, a2, a3, a4, a5, a6, a7, a8⟩ := takeW h ht (by omega)
      have hp := a6.pos
      obtain ⟨q, s2, b1, b2, b3, b4⟩ := HP s1 a6 (fun e => by have := hf (by rw [← a2]; exact e); omega)
      have hl := b2.len
      obtain ⟨u, s3, ku, d1, d2, d3, d4⟩ := unaryW g s2 q b2.good (fun e => by have := hf (by rw [← a2]; exact b2.ok e); omega) (by omega)
      simp only [a1, Option.bind_some, b1, d1]
      refine ⟨_, _, rfl, ?_⟩
      rw [msgN_send, cnt_send, cntL_cons, cntL_nil, d3]
      have := ((a8 1 (by simp [T1, k3]) (by simp [T2, k3])).trans b2).trans d2
      have e2 : 1 + cnt q + ku = 1 + (cnt q + ku + 0) := by omega
      rwa [e2] at this
    · rw [if_neg k3]
      by_cases k2 : t.kind = 2
      · rw [if_pos k2]
        obtain ⟨y, st', k, b1, b2, b3, b4, b5⟩ := keysW (x := zN) HP hg hb h hf
        refine ⟨y, st', b1, b2.cast fun e => ?_⟩
        have he := b2.ok e
        obtain ⟨tt, ks, rfl⟩ := b5 ⟨t, ht, by simp [isC, he, k2]⟩
        rw [msgN_send, cnt_send]
        rw [cnt_send, cntL_cons, cnt_zN] at b3
        omega
      · rw [if_neg k2]
        obtain ⟨f1, f2⟩ := failW h t 13 (by decide) (cnt (msgN zN))
        exact ⟨_, _, rfl, f1⟩

theorem casW {P : PF} {b g : Nat} (HP : FineP P b) (hg : b + 2 ≤ g) (hb : b ≤ 1000000) : ∀ (f : Nat) (st : PSt) (ks : List Node), Good st.toks → (st.err = 0 → st.toks.length ≤ f ∧ st.toks.length ≤ b + 1) → 1 ≤ f →
    ∃ y st' k, casL P g f ks st = some (y, st') ∧ Stp st st' k ∧ cnt y = cntL ks + k ∧ Shp y
  | 0, st, ks, h, hf, h1 => by omega
  | f + 1, st, ks, h, hf, h1 => by
    obtain ⟨t, r, e, ht, h2, h3⟩ := lookG h
    unfold casL
    rw [isG ht]
    simp only [Option.bind_some]
    cases hc : isC st t 10 [59] with
    | false => exact ⟨.mk 8 [] 0 [] [] ks, st, 0, by simp, Stp.refl h, by simp [cnt], Shp.flat _ _ _ _ _ _ (by decide)⟩
    | true =>
      obtain ⟨c1, c2⟩ := isC_ok hc
      obtain ⟨hl1, hl2⟩ := hf c1
      obtain ⟨s1, a1, a2, a3, a4, a5, a6, a7, a8⟩ := takeW h ht (by omega)
      have hp := a6.pos
      obtain ⟨q, s2, b1, b2⟩ := msgW HP hg hb a6 (fun _ => by omega)
      have hl := b2.len
      obtain ⟨y, st', k, k1, k2, k3, k4⟩ := casW HP hg hb f s2 (ks ++ [msgN q]) b2.good (fun _ => by omega) (by omega)
      refine ⟨y, st', 0 + cnt (msgN q) + k, by simp [a1, b1, k1], ((a8 0 (by simp [T1, c2]) (by omega)).trans b2).trans k2, ?_, k4⟩
      rw [k3, cntL_app, cntL_cons, cntL_nil]; omega

theorem cascadeW {P : PF} {b g : Nat} (HP : FineP P b) (hg : b + 2 ≤ g) (hb : b ≤ 1000000) : FineP (cascadeS P g) b := by
  intro st h hbd
  obtain ⟨q, s2, u, s3, w, s4, b1, b2, b3, b4, b5, b6⟩ := argW (g := g) HP (by omega) h hbd
  have hl4 := b4.len
  obtain ⟨y, s5, k, d1, d2, d3, d4, d5⟩ := keysW (x := w) HP hg hb b4.good (fun e => by have := hbd (b4.ok e); omega)
  have hl5 := d2.len
  obtain ⟨t, r, e, ht, h2, h3⟩ := lookG d2.good
  have S5 := b4.trans d2
  have hS : Stp st s5 (cnt y) := by rw [d3]; exact S5
  have hlt : s5.err = 0 → s5.toks.length < st.toks.length := fun e => by
    have := b6 (d2.ok e)
    omega
  unfold cascadeS
  simp only [b1, Option.bind_some, b2, b3, d1]
  rw [isG ht]
  simp only [Option.bind_some]
  cases hc : isC s5 t 10 [59] with
  | false => exact ⟨y, s5, by simp, hS, d4 b5, hlt⟩
  | true =>
    obtain ⟨c1, c2⟩ := isC_ok hc
    simp only [if_true]
    by_cases k7 : y.kind = 7
    · rw [if_pos k7]
      obtain ⟨tx, ks, rfl, hks⟩ := d4 b5 k7
      cases ks with
      | nil => exact absurd rfl hks
      | cons k0 ks =>
        have : (sendN tx (k0 :: ks)).kids[0]? = some k0 := rfl
        rw [this]
        simp only [Option.bind_some, msgN_send]
        have hl := hbd (S5.ok c1)
        obtain ⟨z, s6, k6, e1, e2, e3, e4⟩ := casW HP hg hb g s5 [k0, sendN tx ks] d2.good (fun _ => by omega) (by omega)
        have hl6 := e2.len
        refine ⟨z, s6, e1, ?_, e4, fun e => by have := hlt (e2.ok e); omega⟩
        have := hS.trans e2
        have ec : cnt (sendN tx (k0 :: ks)) + k6 = cnt z := by
          rw [e3, cnt_send, cntL_cons, cntL_cons, cntL_cons, cntL_nil, cnt_send]; omega
        rwa [ec] at this
    · rw [if_neg k7, ht]
      simp only [Option.bind_some]
      obtain ⟨f1, f2⟩ := failW d2.good t 13 (by decide) 0
      exact ⟨_, _, rfl, hS.trans f1, d4 b5, fun e => absurd e f2⟩

theorem exprW {P E : PF} {b g : Nat} (HP : FineP P b) (HE : b = 0 ∨ FineP E (b - 1)) (hg : b + 2 ≤ g) (hb : b ≤ 1000000) : FineP (exprS P E g) b := by
  intro st h hbd
  obtain ⟨t, r, e, ht, h2, h3⟩ := lookG h
  obtain ⟨u, hu⟩ := look1 h
  unfold exprS
  rw [isG ht]
  simp only [Option.bind_some]
  cases hc : isC st t 1 [] with
  | false =>
    simp only [Bool.false_eq_true, if_false, Option.bind_some]
    exact cascadeW HP hg hb st h hbd
  | true =>
    simp only [if_true, hu, Option.bind_some]
    by_cases k9 : u.kind = 9
    · rw [decide_eq_true k9]
      simp only [if_true]
      obtain ⟨c1, c2⟩ := isC_ok hc
      obtain ⟨s1, a1, a2, a3, a4, a5, a6, a7, a8⟩ := takeW h ht (by omega)
      have hu1 : lookS s1 0 = some u := by
        have hp := a6.pos
        have e1 : st.toks.length - 1 = s1.toks.length := by omega
        unfold lookS at hu ⊢
        rw [a7] at hu
        simp at hu ⊢
        rw [show min 1 s1.toks.length = 0 + 1 by omega] at hu
        simpa using hu
      obtain ⟨s2, b1, b2, b3, b4, b5, b6, b7, b8⟩ := takeW a6 hu1 (by omega)
      have hl := hbd c1
      have hp := b6.pos
      have HE' : FineP E (b - 1) := HE.resolve_left (by omega)
      obtain ⟨x, s3, d1, d2, d3, d4⟩ := HE' s2 b6 (fun _ => by omega)
      have hl3 := d2.len
      simp only [a1, Option.bind_some, b1, d1]
      refine ⟨_, _, rfl, ?_, Shp.flat _ _ _ _ _ _ (by decide), fun e => by show s3.toks.length < _; omega⟩
      have : cnt (.mk 6 t.text 0 [] [] [x]) = 1 + 0 + cnt x := by simp [cnt, cntL]
      rw [this]
      exact ((a8 1 (by simp [T1, c2]) (by simp [T2, c2])).trans (b8 0 (by simp [T1, k9]) (by omega))).trans d2
    · rw [decide_eq_false k9]
      simp only [Bool.false_eq_true, if_false]
      exact cascadeW HP hg hb st h hbd

theorem litFW : ∀ (f : Nat), 3 ≤ f → Fine0 (litF f) (f - 3)
  | 0, h => by omega
  | f + 1, h => by
    by_cases h3 : f = 2
    · subst h3
      intro st g hb
      have he : st.err ≠ 0 := fun e => by have := hb e; have := g.pos; omega
      unfold litF literalsS litsL
      rw [if_neg he]
      obtain ⟨t, s2, b1, b2, b3, c, b4, b5⟩ := takeE g
      have he2 : s2.err ≠ 0 := by rw [b2]; exact he
      refine ⟨.mk 4 [] 0 [] [] [], s2, by simp [b1], ⟨b3, fun _ => he2, c, b4, fun e => absurd e he2⟩, Shp.flat _ _ _ _ _ _ (by decide)⟩
    · have := literalsW (f := f) (litFW f (by omega)) (by omega)
      rw [show f - 3 + 1 = f + 1 - 3 by omega] at this
      exact this

theorem primaryErr (LI E : PF) (f : Nat) : FineP (primaryS LI E f) 0 := by
  intro st h hb
  have he : st.err ≠ 0 := fun e => by have := hb e; have := h.pos; omega
  obtain ⟨t, r, e, ht, h2, h3⟩ := lookG h
  obtain ⟨x, c, s1, a1, a2, a3, a7⟩ := plainW h
  unfold primaryS
  rw [a1]
  simp only [Option.bind_some]
  cases c with
  | true => exact absurd (a2 rfl).2.2.1 he
  | false =>
    have := a3 rfl
    subst this
    simp only [Bool.false_eq_true, if_false, ht, Option.bind_some]
    rw [if_neg he]
    exact ⟨_, _, rfl, (Stp.refl h).any he _, Shp.flat _ _ _ _ _ _ (by decide), fun e => absurd e he⟩

theorem exprFW : ∀ (f : Nat), 3 ≤ f → f ≤ 1000000 → FineP (exprF f) (f - 3)
  | 0, h, _ => by omega
  | f + 1, h, hm => by
    by_cases h3 : f = 2
    · subst h3
      exact exprW (b := 0) (g := 2) (primaryErr (litF 2) (exprF 2) 2) (.inl rfl) (by decide) (by decide)
    · have HE := exprFW f (by omega) (by omega)
      have HL := litFW f (by omega)
      have := exprW (P := primaryS (litF f) (exprF f) f) (E := exprF f) (b := f - 3 + 1) (g := f) (primaryW HL HE (by omega) (by omega)) (.inr HE) (by omega) (by omega)
      rw [show f - 3 + 1 = f + 1 - 3 by omega] at this
      exact this

/-- A source whose tokens are good is read, or refused; what is read has just the names and literals of its tokens. -/
theorem readW {f : Nat} {l : List Tok} (h : Good l) (hf : l.length + 3 ≤ f) (hm : f ≤ 1000000) : ∃ x at_ e, readM doitS f (l, 0, 0) = some (x, at_, e) ∧ (e = 0 → least l ≤ cnt x ∧ cnt x ≤ most l) := by
  unfold readM
  rw [if_pos rfl]
  have h0 : Good (⟨l, 0, 0, 0⟩ : PSt).toks := h
  obtain ⟨ts, s2, b1, b2⟩ := tempsW (f := f) h0 (fun _ => by show l.length ≤ f; omega) (by omega)
  have hl2 := b2.len
  have hl2 : s2.toks.length ≤ l.length := hl2
  obtain ⟨ks, s3, k, c1, c2, c3⟩ := stmtsW (exprFW f (by omega) hm) f s2 [] b2.good (fun _ => by omega) (by omega)
  obtain ⟨u, s4, d1, d2, d3⟩ := needW c2.good 0 [] 0 (fun h => absurd rfl h) (fun _ => rfl)
  simp only [doitS, Option.bind_some, b1, c1, d1]
  by_cases he : s4.err = 0
  · rw [if_pos he]
    refine ⟨_, _, _, rfl, fun _ => ?_⟩
    have S := (b2.trans c2).trans d2
    obtain ⟨c, e1, e2⟩ := S.run
    have e1 : l = c ++ s4.toks := e1
    obtain ⟨e3, e4⟩ := e2 he
    obtain ⟨f1, f2⟩ := d3 he
    -- what is left is the end
    have hcn : cnt (Node.with (.mk 11 [100, 111, 73, 116] 0 [] [] []) ts ks) = ts.length + k + 0 := by
      simp [Node.with, cnt, c3, cntL]
    have hrest : s4.toks = s3.toks ∧ ∃ t, s3.toks = [t] ∧ t.kind = 0 := by
      obtain ⟨t, r, e, ht, h2, h3⟩ := lookG c2.good
      unfold needS at d1
      rw [isG ht] at d1
      simp only [Option.bind_some] at d1
      cases hc : isC s3 t 0 [] with
      | false =>
        rw [hc] at d1
        simp only [Bool.false_eq_true, if_false, ht, Option.bind_some, Option.some.injEq, Prod.mk.injEq] at d1
        obtain ⟨_, rfl⟩ := d1
        exact absurd he (failW c2.good t 13 (by decide) 0).2
      | true =>
        rw [hc] at d1
        have hk := (isC_ok hc).2
        rw [if_pos rfl, take0 c2.good e hk] at d1
        simp only [Option.some.injEq, Prod.mk.injEq] at d1
        obtain ⟨_, rfl⟩ := d1
        exact ⟨rfl, t, by rw [e, h2 hk], hk⟩
    obtain ⟨r1, t, r2, r3⟩ := hrest
    rw [r1, r2] at e1
    rw [e1, hcn]
    simp only [least, most, List.map_append, List.sum_append, List.map_cons, List.map_nil, List.sum_cons, List.sum_nil] at e3 e4 ⊢
    have z1 : T1 t = 0 := by simp [T1, r3]
    have z2 : T2 t = 0 := by simp [T2, r3]
    omega
  · rw [if_neg he]
    exact ⟨_, _, _, rfl, fun e => absurd e he⟩

end Go.Dd

/- Dd, part T15: the document's lexer: bytes, names, blanks and remarks. -/
set_option linter.unusedVariables false
set_option linter.unusedSimpArgs false
set_option maxRecDepth 100000
namespace Go.Dd
open Go.Proofs

theorem enter33 (n : Nat) (x : DV) (h : Hp) : shD (n + 1) 33 [x] h = s33 (shD n) n x h := by kernel_rfl
theorem enter34 (n : Nat) (x y : DV) (h : Hp) : shD (n + 1) 34 [x, y] h = s34 (shD n) n x y h := by kernel_rfl
theorem enter35 (n : Nat) (x y : DV) (h : Hp) : shD (n + 1) 35 [x, y] h = s35 (shD n) n x y h := by kernel_rfl
theorem enter36 (n : Nat) (x y : DV) (h : Hp) : shD (n + 1) 36 [x, y] h = s36 (shD n) n x y h := by kernel_rfl
theorem enter37 (n : Nat) (x y : DV) (h : Hp) : shD (n + 1) 37 [x, y] h = s37 (shD n) n x y h := by kernel_rfl
theorem enter38 (n : Nat) (x y : DV) (h : Hp) : shD (n + 1) 38 [x, y] h = s38 (shD n) n x y h := by kernel_rfl
theorem enter19 (n : Nat) (x y : DV) (h : Hp) : shD (n + 1) 19 [x, y] h = s19 (shD n) n x y h := by kernel_rfl
theorem enter20 (n : Nat) (x y : DV) (h : Hp) : shD (n + 1) 20 [x, y] h = s20 (shD n) n x y h := by kernel_rfl
theorem enter10 (n : Nat) (x : DV) (h : Hp) : shD (n + 1) 10 [x] h = s10 (shD n) n x h := by kernel_rfl

/-- What a byte is, by the document. -/
def kindN (c : Nat) : Nat := if letterB c then 1 else if digitB c then 2 else if inB blanks c then 5 else if inB signs c then 3 else if inB marks c then 4 else 0
def atZ (u : List Nat) : Int := match u with
  | [] => -1
  | c :: _ => (kindN c : Int)

theorem marks_loop (c : Nat) (h : Hp) : ∀ (w : List Nat) (j i : Nat), marks.drop i = w → i ≤ 8 →
    Ev (fun n => s33a10l (shD n) n (n - j) (.i .u8 (Int.ofNat c)) (.s marks) (.i .i64 (i : Int)) h) (fun v h' => v = .i .i64 (if inB w c then 4 else 0) ∧ h' = h) := by
  intro w
  induction w with
  | nil =>
    intro j i hw hi
    refine Ev.loop j (ll := fun n m => s33a10l (shD n) n m (.i .u8 (Int.ofNat c)) (.s marks) (.i .i64 (i : Int)) h) (bb := fun n m => s33a10b (shD n) n (s33a10l (shD n) n m) (.i .u8 (Int.ofNat c)) (.s marks) (.i .i64 (i : Int)) h) (fun _ _ => rfl) ?_
    unfold s33a10b s33a8
    have hl : marks.length ≤ i := by simpa using hw
    refine Ev.lenS ?_
    refine Ev.ilt (fun e1 => by omega) (fun e1 => ?_)
    refine yj ?_
    exact Ev.ret ⟨rfl, rfl⟩
  | cons d w ih =>
    intro j i hw hi
    have hg : marks[i]? = some d := by
      have : (marks.drop i)[0]? = some d := by rw [hw]; rfl
      simpa using this
    have hw' : marks.drop (i + 1) = w := by rw [← List.drop_drop, hw]; rfl
    have hlt := (List.getElem?_eq_some_iff.1 hg).1
    refine Ev.loop j (ll := fun n m => s33a10l (shD n) n m (.i .u8 (Int.ofNat c)) (.s marks) (.i .i64 (i : Int)) h) (bb := fun n m => s33a10b (shD n) n (s33a10l (shD n) n m) (.i .u8 (Int.ofNat c)) (.s marks) (.i .i64 (i : Int)) h) (fun _ _ => rfl) ?_
    unfold s33a10b
    refine Ev.lenS ?_
    refine Ev.ilt (fun e1 => ?_) (fun e1 => by omega)
    refine yt ?_
    refine Ev.op (idxS hg _) ?_
    refine Ev.ieq (fun e2 => ?_) (fun e2 => ?_)
    · refine yt ?_
      have : d = c := by simp at e2; omega
      subst this
      exact Ev.ret ⟨by simp [inB], rfl⟩
    · refine yj ?_
      have hne : ¬ c = d := fun e => e2 (by rw [e])
      refine Ev.iadd ?_
      rw [addN 1 (by omega)]
      refine (ih (j + 1) (i + 1) hw' hlt).mono ?_
      rintro v h' ⟨rfl, rfl⟩
      refine ⟨?_, rfl⟩
      simp [inB, hne]

theorem signs_loop (c : Nat) (h : Hp) : ∀ (w : List Nat) (j i : Nat), signs.drop i = w → i ≤ 12 →
    Ev (fun n => s33a12l (shD n) n (n - j) (.i .u8 (Int.ofNat c)) (.s signs) (.i .i64 (i : Int)) h) (fun v h' => v = .i .i64 (if inB w c then 3 else if inB marks c then 4 else 0) ∧ h' = h) := by
  intro w
  induction w with
  | nil =>
    intro j i hw hi
    refine Ev.loop j (ll := fun n m => s33a12l (shD n) n m (.i .u8 (Int.ofNat c)) (.s signs) (.i .i64 (i : Int)) h) (bb := fun n m => s33a12b (shD n) n (s33a12l (shD n) n m) (.i .u8 (Int.ofNat c)) (.s signs) (.i .i64 (i : Int)) h) (fun _ _ => rfl) ?_
    unfold s33a12b s33a6 s33a7 s33a9 s33a10
    have hl : signs.length ≤ i := by simpa using hw
    refine Ev.lenS ?_
    refine Ev.ilt (fun e1 => by omega) (fun e1 => ?_)
    refine yj ?_
    refine (marks_loop c h marks 0 0 rfl (by omega)).mono ?_
    rintro v h' ⟨rfl, rfl⟩
    exact ⟨by simp [inB], rfl⟩
  | cons d w ih =>
    intro j i hw hi
    have hg : signs[i]? = some d := by
      have : (signs.drop i)[0]? = some d := by rw [hw]; rfl
      simpa using this
    have hw' : signs.drop (i + 1) = w := by rw [← List.drop_drop, hw]; rfl
    have hlt := (List.getElem?_eq_some_iff.1 hg).1
    refine Ev.loop j (ll := fun n m => s33a12l (shD n) n m (.i .u8 (Int.ofNat c)) (.s signs) (.i .i64 (i : Int)) h) (bb := fun n m => s33a12b (shD n) n (s33a12l (shD n) n m) (.i .u8 (Int.ofNat c)) (.s signs) (.i .i64 (i : Int)) h) (fun _ _ => rfl) ?_
    unfold s33a12b
    refine Ev.lenS ?_
    refine Ev.ilt (fun e1 => ?_) (fun e1 => by omega)
    refine yt ?_
    refine Ev.op (idxS hg _) ?_
    refine Ev.ieq (fun e2 => ?_) (fun e2 => ?_)
    · refine yt ?_
      have : d = c := by simp at e2; omega
      subst this
      exact Ev.ret ⟨by simp [inB], rfl⟩
    · refine yj ?_
      have hne : ¬ c = d := fun e => e2 (by rw [e])
      refine Ev.iadd ?_
      rw [addN 1 (by omega)]
      refine (ih (j + 1) (i + 1) hw' hlt).mono ?_
      rintro v h' ⟨rfl, rfl⟩
      refine ⟨?_, rfl⟩
      simp [inB, hne]

theorem kind_ok (c : Nat) (h : Hp) : Ev (fun n => shD n 33 [.i .u8 (Int.ofNat c)] h) (fun v h' => v = .i .i64 (kindN c : Int) ∧ h' = h) := by
  refine Ev.enter (fun n => enter33 n _ h) ?_
  unfold s33 s33a1
  have yes : letterB c = true → Ev (fun n => some (DV.i .i64 (Int.ofNat 1), h)) (fun v h' => v = .i .i64 (kindN c : Int) ∧ h' = h) := fun e => Ev.ret ⟨by simp [kindN, e], rfl⟩
  have no : letterB c = false → Ev (fun n => s33a2 (shD n) n (.i .u8 (Int.ofNat c)) h) (fun v h' => v = .i .i64 (kindN c : Int) ∧ h' = h) := fun e => by
    unfold s33a2
    have yes2 : digitB c = true → Ev (fun n => some (DV.i .i64 (Int.ofNat 2), h)) (fun v h' => v = .i .i64 (kindN c : Int) ∧ h' = h) := fun e2 => Ev.ret ⟨by simp [kindN, e, e2], rfl⟩
    have no2 : digitB c = false → Ev (fun n => s33a3 (shD n) n (.i .u8 (Int.ofNat c)) h) (fun v h' => v = .i .i64 (kindN c : Int) ∧ h' = h) := fun e2 => by
      unfold s33a3
      have yes3 : inB blanks c = true → Ev (fun n => some (DV.i .i64 (Int.ofNat 5), h)) (fun v h' => v = .i .i64 (kindN c : Int) ∧ h' = h) := fun e3 => Ev.ret ⟨by simp [kindN, e, e2, e3], rfl⟩
      refine Ev.ieq (fun e3 => ?_) (fun e3 => ?_)
      · have : c = 9 := by simp at e3; omega
        have Y := yes3 (by subst this; rfl)
        exact Y
      · refine zf ?_; refine wm ?_; refine zf ?_
        refine Ev.ieq (fun e4 => ?_) (fun e4 => ?_)
        · have : c = 10 := by simp at e4; omega
          have Y := yes3 (by subst this; rfl)
          exact Y
        · refine aq ?_; refine zf ?_; refine wm ?_; refine zf ?_
          refine Ev.ieq (fun e5 => ?_) (fun e5 => ?_)
          · have : c = 13 := by simp at e5; omega
            have Y := yes3 (by subst this; rfl)
            exact Y
          · refine aq ?_; refine zf ?_; refine wm ?_; refine zf ?_
            refine Ev.ieq (fun e6 => ?_) (fun e6 => ?_)
            · have : c = 32 := by simp at e6; omega
              have Y := yes3 (by subst this; rfl)
              exact Y
            · refine aq ?_; refine yj ?_
              have e7 : inB blanks c = false := by
                simp at e3 e4 e5 e6
                simp [inB, blanks]
                omega
              unfold s33a4 s33a5 s33a11 s33a12
              refine (signs_loop c h signs 0 0 rfl (by omega)).mono ?_
              rintro v h' ⟨rfl, rfl⟩
              refine ⟨?_, rfl⟩
              simp only [kindN, e, e2, e7, Bool.false_eq_true, if_false]
              cases inB signs c <;> cases inB marks c <;> rfl
    refine Ev.ige (fun e3 => ?_) (fun e3 => ?_)
    · refine zt ?_; refine wm ?_; refine zt ?_
      refine Ev.ile (fun e4 => ?_) (fun e4 => ?_)
      · have Y := yes2 (by simp at e3 e4; simp [digitB]; omega)
        exact Y
      · have Y := no2 (by simp at e3 e4; simp [digitB]; omega)
        exact Y
    · have Y := no2 (by simp at e3; simp [digitB]; omega)
      exact Y
  refine Ev.ige (fun e1 => ?_) (fun e1 => ?_)
  · refine zt ?_; refine wm ?_; refine zt ?_
    refine Ev.ile (fun e2 => ?_) (fun e2 => ?_)
    · have Y := yes (by simp at e1 e2; simp [letterB]; omega)
      exact Y
    · refine ap ?_; refine zf ?_; refine wm ?_; refine zf ?_
      refine Ev.ige (fun e3 => ?_) (fun e3 => ?_)
      · refine zf ?_; refine wm ?_; refine zt ?_; refine wm ?_; refine zt ?_
        refine Ev.ile (fun e4 => ?_) (fun e4 => ?_)
        · simp at e1 e2 e3 e4; omega
        · have Y := no (by simp at e1 e2 e3 e4; simp [letterB]; omega)
          exact Y
      · simp at e1 e2 e3; omega
  · refine yf ?_; refine yf ?_; refine aq ?_; refine zf ?_; refine wm ?_; refine zf ?_
    refine Ev.ige (fun e3 => ?_) (fun e3 => ?_)
    · refine zf ?_; refine wm ?_; refine zt ?_; refine wm ?_; refine zt ?_
      refine Ev.ile (fun e4 => ?_) (fun e4 => ?_)
      · have Y := yes (by simp at e1 e3 e4; simp [letterB]; omega)
        exact Y
      · have Y := no (by simp at e1 e3 e4; simp [letterB]; omega)
        exact Y
    · have Y := no (by simp at e1 e3; simp [letterB]; omega)
      exact Y

theorem at_ok (s : List Nat) (i : Nat) (h : Hp) : Ev (fun n => shD n 34 [.s s, .i .i64 (i : Int)] h) (fun v h' => v = .i .i64 (atZ (s.drop i)) ∧ h' = h) := by
  refine Ev.enter (fun n => enter34 n _ _ h) ?_
  unfold s34
  refine Ev.lenS ?_
  refine Ev.ige (fun e1 => ?_) (fun e1 => ?_)
  · refine yt ?_
    rw [List.drop_eq_nil_of_le (by omega)]
    exact Ev.ret ⟨rfl, rfl⟩
  · refine yj ?_
    have hi : i < s.length := by omega
    refine Ev.op (idxS (c := s[i]) (by simp [hi]) _) ?_
    refine Ev.call (kind_ok _ _) ?_
    rintro _ _ ⟨rfl, rfl⟩
    rw [List.drop_eq_getElem_cons hi]
    exact Ev.ret ⟨rfl, rfl⟩

theorem kind1 (c : Nat) : kindN c = 1 ↔ letterB c = true := by
  unfold kindN
  constructor
  · intro h
    repeat' split at h
    all_goals first | assumption | omega
  · intro h; simp [h]

theorem kind2 (c : Nat) : kindN c = 2 ↔ digitB c = true := by
  unfold kindN
  constructor
  · intro h
    repeat' split at h
    all_goals first | assumption | omega
  · intro h
    have : letterB c = false := by simp [digitB] at h; simp [letterB]; omega
    simp [this, h]

theorem nameEnd_ok (s : List Nat) (hs : s.length ≤ lim) (h : Hp) : ∀ (u : List Nat) (j i : Nat), s.drop i = u → i ≤ s.length →
    Ev (fun n => s35a3l (shD n) n (n - j) (.s s) (.i .i64 (i : Int)) h) (fun v h' => v = .i .i64 ((i + (u.takeWhile nameB).length : Nat) : Int) ∧ h' = h) := by
  intro u
  induction u with
  | nil =>
    intro j i hu hi
    refine Ev.loop j (ll := fun n m => s35a3l (shD n) n m (.s s) (.i .i64 (i : Int)) h) (bb := fun n m => s35a3b (shD n) n (s35a3l (shD n) n m) (.s s) (.i .i64 (i : Int)) h) (fun _ _ => rfl) ?_
    unfold s35a3b s35a2
    refine Ev.call (at_ok s i h) ?_
    rintro _ _ ⟨rfl, rfl⟩
    rw [hu]
    refine Ev.ieq (fun e1 => absurd e1 (by decide)) (fun e1 => ?_)
    refine zf ?_; refine wm ?_; refine zf ?_; refine wm ?_; refine zf ?_
    refine Ev.call (at_ok s i _) ?_
    rintro _ _ ⟨rfl, rfl⟩
    rw [hu]
    refine zf ?_
    refine Ev.ieq (fun e2 => absurd e2 (by decide)) (fun e2 => ?_)
    refine aq ?_; refine yj ?_
    exact Ev.ret ⟨by simp, rfl⟩
  | cons c u ih =>
    intro j i hu hi
    have hlt : i < s.length := by
      have := congrArg List.length hu
      simp at this
      omega
    have hu' : s.drop (i + 1) = u := by rw [← List.drop_drop, hu]; rfl
    simp only [lim] at hs
    refine Ev.loop j (ll := fun n m => s35a3l (shD n) n m (.s s) (.i .i64 (i : Int)) h) (bb := fun n m => s35a3b (shD n) n (s35a3l (shD n) n m) (.s s) (.i .i64 (i : Int)) h) (fun _ _ => rfl) ?_
    unfold s35a3b s35a2
    have go : nameB c = true → Ev (fun n => bnd (pInt .add (.i .i64 (i : Int)) (.i .i64 (Int.ofNat 1)) h) fun v8 h8 => s35a3l (shD n) n (n - (j + 1)) (.s s) v8 h8) (fun v h' => v = .i .i64 ((i + ((c :: u).takeWhile nameB).length : Nat) : Int) ∧ h' = h) := fun e => by
      refine Ev.iadd ?_
      rw [addN 1 (by omega)]
      refine (ih (j + 1) (i + 1) hu' (by omega)).mono ?_
      rintro v h' ⟨rfl, rfl⟩
      refine ⟨?_, rfl⟩
      simp [e]
      omega
    refine Ev.call (at_ok s i h) ?_
    rintro _ _ ⟨rfl, rfl⟩
    rw [hu]
    refine Ev.ieq (fun e1 => ?_) (fun e1 => ?_)
    · have e1' : letterB c = true := (kind1 c).1 (by simp [atZ] at e1; omega)
      have G := go (by simp [nameB, e1'])
      exact G
    · refine zf ?_; refine wm ?_; refine zf ?_; refine wm ?_; refine zf ?_
      refine Ev.call (at_ok s i _) ?_
      rintro _ _ ⟨rfl, rfl⟩
      rw [hu]
      refine zf ?_
      refine Ev.ieq (fun e2 => ?_) (fun e2 => ?_)
      · have e2' : digitB c = true := (kind2 c).1 (by simp [atZ] at e2; omega)
        have G := go (by simp [nameB, e2'])
        exact G
      · refine aq ?_; refine yj ?_
        have e1' : letterB c = false := by
          cases h1 : letterB c with
          | false => rfl
          | true => exact absurd (show atZ (c :: u) = _ by simp [atZ, (kind1 c).2 h1]) e1
        have e2' : digitB c = false := by
          cases h1 : digitB c with
          | false => rfl
          | true => exact absurd (show atZ (c :: u) = _ by simp [atZ, (kind2 c).2 h1]) e2
        exact Ev.ret ⟨by simp [nameB, e1', e2'], rfl⟩

theorem nend_ok (s : List Nat) (hs : s.length ≤ lim) (i : Nat) (hi : i ≤ s.length) (h : Hp) : Ev (fun n => shD n 35 [.s s, .i .i64 (i : Int)] h) (fun v h' => v = .i .i64 ((i + ((s.drop i).takeWhile nameB).length : Nat) : Int) ∧ h' = h) := by
  refine Ev.enter (fun n => enter35 n _ _ h) ?_
  unfold s35 s35a1 s35a3
  exact nameEnd_ok s hs h _ 0 i rfl hi

theorem rcol_ok (s : List Nat) (hs : s.length ≤ lim) (i : Nat) (hi : i ≤ s.length) (h : Hp) : Ev (fun n => shD n 36 [.s s, .i .i64 (i : Int)] h) (fun v h' => v = .b (colonM (s.drop i)) ∧ h' = h) := by
  refine Ev.enter (fun n => enter36 n _ _ h) ?_
  unfold s36
  simp only [lim] at hs
  refine Ev.lenS ?_
  refine Ev.ilt (fun e1 => ?_) (fun e1 => ?_)
  · have hlt : i < s.length := by omega
    have n0 : nx (s.drop i) 0 = s[i] := by rw [List.drop_eq_getElem_cons hlt]; rfl
    refine zt ?_; refine wm ?_; refine zt ?_; refine wm ?_; refine zt ?_
    refine Ev.op (idxS (c := s[i]) (by simp [hlt]) _) ?_
    refine zt ?_
    refine Ev.ieq (fun e2 => ?_) (fun e2 => ?_)
    · have e2' : s[i] = 58 := by simp at e2; omega
      refine ap ?_; refine zt ?_; refine wm ?_; refine zt ?_
      refine Ev.iadd ?_
      rw [addN 1 (by omega)]
      refine zt ?_; refine wm ?_; refine zt ?_
      refine Ev.lenS ?_
      refine zt ?_
      refine Ev.ilt (fun e3 => ?_) (fun e3 => ?_)
      · have hlt2 : i + 1 < s.length := by omega
        have n1 : nx (s.drop i) 1 = s[i + 1] := by simp [nx, List.getD, List.getElem?_drop, hlt2]
        refine zt ?_; refine wm ?_; refine zt ?_; refine wm ?_; refine zt ?_; refine wm ?_; refine zt ?_
        refine Ev.iadd ?_
        rw [addN 1 (by omega)]
        refine zt ?_
        refine Ev.op (idxS (c := s[i + 1]) (by simp [hlt2]) _) ?_
        refine zt ?_
        refine Ev.ieq (fun e4 => ?_) (fun e4 => ?_)
        · have e4' : s[i + 1] = 61 := by simp at e4; omega
          refine zt ?_; refine ap ?_; refine zt ?_; refine an ?_; refine ap ?_
          exact Ev.ret ⟨by simp [colonM, n0, n1, e2', e4'], rfl⟩
        · have e4' : ¬ s[i + 1] = 61 := by simp at e4; omega
          refine zt ?_; refine ap ?_; refine zt ?_; refine ao ?_; refine ap ?_
          exact Ev.ret ⟨by simp [colonM, n0, n1, e2', e4'], rfl⟩
      · refine zt ?_; refine wm ?_; refine yf ?_; refine yf ?_; refine yf ?_; refine yf ?_; refine yf ?_; refine zt ?_; refine aq ?_; refine zt ?_; refine ao ?_; refine ap ?_
        have n1 : nx (s.drop i) 1 = 0 := by simp [nx, List.getD, List.getElem?_drop, List.getElem?_eq_none (show s.length ≤ i + 1 by omega)]
        exact Ev.ret ⟨by simp [colonM, n0, n1, e2'], rfl⟩
    · have e2' : ¬ s[i] = 58 := by simp at e2; omega
      refine ap ?_; refine yf ?_; refine yf ?_; refine yf ?_; refine yf ?_; refine yf ?_; refine yf ?_; refine yu ?_; refine yu ?_; refine yu ?_; refine yu ?_; refine yu ?_; refine yf ?_; refine yf ?_; refine aq ?_
      exact Ev.ret ⟨by simp [colonM, n0, e2'], rfl⟩
  · refine yf ?_; refine yf ?_; refine yf ?_; refine yf ?_; refine aq ?_; refine yf ?_; refine yf ?_; refine yf ?_; refine yf ?_; refine yf ?_; refine yf ?_; refine yu ?_; refine yu ?_; refine yu ?_; refine yu ?_; refine yu ?_; refine yf ?_; refine yf ?_; refine aq ?_
    have n0 : nx (s.drop i) 0 = 0 := by rw [List.drop_eq_nil_of_le (by omega)]; rfl
    exact Ev.ret ⟨by simp [colonM, n0], rfl⟩

end Go.Dd

/- Dd, part T16: the document's lexer: blanks and remarks, texts, numbers. -/
set_option linter.unusedVariables false
set_option linter.unusedSimpArgs false
set_option maxRecDepth 100000
namespace Go.Dd
open Go.Proofs

def remB (c : Nat) : Bool := !decide (c = 34)

theorem idxGo_tw : ∀ (l : List Nat) (i : Nat), idxGo 34 l i = if (l.takeWhile remB).length < l.length then ((i + (l.takeWhile remB).length : Nat) : Int) else -1
  | [], i => rfl
  | x :: l, i => by
    have ih := idxGo_tw l (i + 1)
    unfold idxGo
    cases e : Nat.beq x 34 with
    | true =>
      have := Nat.eq_of_beq_eq_true e
      subst this
      simp [remB]
    | false =>
      have hx : ¬ x = 34 := fun h => by subst h; simp at e
      simp only [cond_false, ih]
      have : (x :: l).takeWhile remB = x :: l.takeWhile remB := by simp [remB, hx]
      rw [this]
      simp only [List.length_cons, Nat.add_lt_add_iff_right]
      split
      · congr 1; omega
      · rfl

/-- Where blanks and remarks end; whether a remark has no end. -/
inductive SkipTo (s : List Nat) : Nat → Nat → Bool → Prop
  | fin (i : Nat) : s.length ≤ i → SkipTo s i i false
  | blank (i k : Nat) (o : Bool) : i < s.length → inB blanks (nx s i) = true → SkipTo s (i + 1) k o → SkipTo s i k o
  | tok (i : Nat) : i < s.length → inB blanks (nx s i) = false → nx s i ≠ 34 → SkipTo s i i false
  | opn (i : Nat) : i < s.length → nx s i = 34 → ((s.drop (i + 1)).takeWhile remB).length = (s.drop (i + 1)).length → SkipTo s i i true
  | rem (i k : Nat) (o : Bool) : i < s.length → nx s i = 34 → ((s.drop (i + 1)).takeWhile remB).length < (s.drop (i + 1)).length → SkipTo s (i + 1 + ((s.drop (i + 1)).takeWhile remB).length + 1) k o → SkipTo s i k o

theorem kind5 (c : Nat) : kindN c = 5 ↔ inB blanks c = true := by
  unfold kindN
  constructor
  · intro h
    repeat' split at h
    all_goals first | assumption | omega
  · intro h
    have h2 : c = 9 ∨ c = 10 ∨ c = 13 ∨ c = 32 := by simpa [inB, blanks] using h
    rcases h2 with rfl | rfl | rfl | rfl <;> rfl

theorem rem_loop {P : DV → Hp → Prop} {s : List Nat} (hs : s.length ≤ lim) {i0 : Nat} {kk : Nat → DV → DV → Hp → Res} {h : Hp} : ∀ (u : List Nat) (j i : Nat), s.drop i = u → i ≤ s.length →
    ((u.takeWhile remB).length = u.length → P (.t [.i .i64 (i0 : Int), .b true]) h) → ((u.takeWhile remB).length < u.length → Ev (fun n => kk n (.s s) (.i .i64 ((i + (u.takeWhile remB).length + 1 : Nat) : Int)) h) P) →
    Ev (fun n => s19a9l (shD n) n (kk n) (n - j) (.s s) (.i .i64 (i0 : Int)) (.i .i64 (i : Int)) h) P := by
  intro u
  simp only [lim] at hs
  induction u with
  | nil =>
    intro j i hu hi H1 H2
    refine Ev.loop j (ll := fun n m => s19a9l (shD n) n (kk n) m (.s s) (.i .i64 (i0 : Int)) (.i .i64 (i : Int)) h) (bb := fun n m => s19a9b (shD n) n (kk n) (s19a9l (shD n) n (kk n) m) (.s s) (.i .i64 (i0 : Int)) (.i .i64 (i : Int)) h) (fun _ _ => rfl) ?_
    unfold s19a9b s19a8
    have hl : s.length ≤ i := by simpa using hu
    refine Ev.lenS ?_
    refine Ev.ilt (fun e1 => by omega) (fun e1 => ?_)
    refine yf ?_; refine yf ?_; refine yf ?_; refine yf ?_; refine aq ?_; refine yj ?_
    refine Ev.lenS ?_
    refine Ev.ieq (fun e2 => ?_) (fun e2 => absurd (by omega) e2)
    refine yt ?_
    exact Ev.ret (H1 rfl)
  | cons c u ih =>
    intro j i hu hi H1 H2
    have hlt : i < s.length := by
      have := congrArg List.length hu
      simp at this
      omega
    have hu' : s.drop (i + 1) = u := by rw [← List.drop_drop, hu]; rfl
    have hc : s[i] = c := by
      rw [List.drop_eq_getElem_cons hlt] at hu
      exact (List.cons.inj hu).1
    refine Ev.loop j (ll := fun n m => s19a9l (shD n) n (kk n) m (.s s) (.i .i64 (i0 : Int)) (.i .i64 (i : Int)) h) (bb := fun n m => s19a9b (shD n) n (kk n) (s19a9l (shD n) n (kk n) m) (.s s) (.i .i64 (i0 : Int)) (.i .i64 (i : Int)) h) (fun _ _ => rfl) ?_
    unfold s19a9b s19a8
    refine Ev.lenS ?_
    refine Ev.ilt (fun e1 => ?_) (fun e1 => by omega)
    refine zt ?_; refine wm ?_; refine zt ?_; refine wm ?_; refine zt ?_
    refine Ev.op (idxS (c := s[i]) (by simp [hlt]) _) ?_
    refine zt ?_
    refine Ev.ine (fun e2 => ?_) (fun e2 => ?_)
    · have e2' : remB c = true := by rw [hc] at e2; simp at e2; simp [remB]; omega
      have et : (c :: u).takeWhile remB = c :: u.takeWhile remB := by simp [e2']
      refine ap ?_; refine yt ?_
      refine Ev.iadd ?_
      rw [addN 1 (by omega)]
      refine ih (j + 1) (i + 1) hu' (by omega) ?_ ?_
      · intro hl; exact H1 (by rw [et]; simp [hl])
      · intro hl
        have := H2 (by rw [et]; simp; omega)
        rw [et] at this
        simp only [List.length_cons] at this
        rw [show i + 1 + (u.takeWhile remB).length + 1 = i + ((u.takeWhile remB).length + 1) + 1 by omega]
        exact this
    · have e2' : remB c = false := by rw [hc] at e2; simp at e2; simp [remB]; omega
      have et : (c :: u).takeWhile remB = [] := by simp [e2']
      refine ap ?_; refine yj ?_
      refine Ev.lenS ?_
      refine Ev.ieq (fun e3 => by omega) (fun e3 => ?_)
      refine yj ?_
      refine Ev.iadd ?_
      rw [addN 1 (by omega)]
      have := H2 (by rw [et]; simp)
      rw [et] at this
      exact this

theorem skip_loop {s : List Nat} (hs : s.length ≤ lim) {h : Hp} {i k : Nat} {o : Bool} (H : SkipTo s i k o) : ∀ (j : Nat), i ≤ s.length →
    Ev (fun n => s19a3l (shD n) n (n - j) (.s s) (.i .i64 (i : Int)) h) (fun v h' => v = .t [.i .i64 (k : Int), .b o] ∧ h' = h) := by
  have hs' := hs
  simp only [lim] at hs'
  induction H with
  | fin i hl =>
    intro j hi
    refine Ev.loop j (ll := fun n m => s19a3l (shD n) n m (.s s) (.i .i64 (i : Int)) h) (bb := fun n m => s19a3b (shD n) n (s19a3l (shD n) n m) (.s s) (.i .i64 (i : Int)) h) (fun _ _ => rfl) ?_
    unfold s19a3b s19a2
    refine Ev.lenS ?_
    refine Ev.ilt (fun e1 => by omega) (fun e1 => ?_)
    refine yj ?_
    exact Ev.ret ⟨rfl, rfl⟩
  | blank i k o hlt hb _ ih =>
    intro j hi
    have hnx : nx s i = s[i] := by simp [nx, List.getD, hlt]
    refine Ev.loop j (ll := fun n m => s19a3l (shD n) n m (.s s) (.i .i64 (i : Int)) h) (bb := fun n m => s19a3b (shD n) n (s19a3l (shD n) n m) (.s s) (.i .i64 (i : Int)) h) (fun _ _ => rfl) ?_
    unfold s19a3b s19a2 s19a4
    refine Ev.lenS ?_
    refine Ev.ilt (fun e1 => ?_) (fun e1 => by omega)
    refine yt ?_
    refine Ev.op (idxS (c := s[i]) (by simp [hlt]) _) ?_
    refine Ev.call (kind_ok _ _) ?_
    rintro _ _ ⟨rfl, rfl⟩
    refine Ev.ieq (fun e2 => ?_) (fun e2 => absurd (by rw [(kind5 _).2 (hnx ▸ hb)]; rfl) e2)
    refine yt ?_
    refine Ev.iadd ?_
    rw [addN 1 (by omega)]
    exact ih (j + 1) (by omega)
  | tok i hlt hb h34 =>
    intro j hi
    have hnx : nx s i = s[i] := by simp [nx, List.getD, hlt]
    refine Ev.loop j (ll := fun n m => s19a3l (shD n) n m (.s s) (.i .i64 (i : Int)) h) (bb := fun n m => s19a3b (shD n) n (s19a3l (shD n) n m) (.s s) (.i .i64 (i : Int)) h) (fun _ _ => rfl) ?_
    unfold s19a3b s19a2 s19a4 s19a5
    refine Ev.lenS ?_
    refine Ev.ilt (fun e1 => ?_) (fun e1 => by omega)
    refine yt ?_
    refine Ev.op (idxS (c := s[i]) (by simp [hlt]) _) ?_
    refine Ev.call (kind_ok _ _) ?_
    rintro _ _ ⟨rfl, rfl⟩
    refine Ev.ieq (fun e2 => ?_) (fun e2 => ?_)
    · have : inB blanks s[i] = true := (kind5 _).1 (by simp at e2; omega)
      rw [hnx, this] at hb
      cases hb
    refine yj ?_
    refine Ev.op (idxS (c := s[i]) (by simp [hlt]) _) ?_
    refine Ev.ine (fun e3 => ?_) (fun e3 => absurd (by rw [hnx]; simp at e3; omega) h34)
    unfold s19a2
    exact Ev.ret ⟨rfl, rfl⟩
  | opn i hlt h34 hl =>
    intro j hi
    have hnx : nx s i = s[i] := by simp [nx, List.getD, hlt]
    have hb : inB blanks s[i] = false := by rw [← hnx, h34]; rfl
    refine Ev.loop j (ll := fun n m => s19a3l (shD n) n m (.s s) (.i .i64 (i : Int)) h) (bb := fun n m => s19a3b (shD n) n (s19a3l (shD n) n m) (.s s) (.i .i64 (i : Int)) h) (fun _ _ => rfl) ?_
    unfold s19a3b s19a2 s19a4 s19a5
    refine Ev.lenS ?_
    refine Ev.ilt (fun e1 => ?_) (fun e1 => by omega)
    refine yt ?_
    refine Ev.op (idxS (c := s[i]) (by simp [hlt]) _) ?_
    refine Ev.call (kind_ok _ _) ?_
    rintro _ _ ⟨rfl, rfl⟩
    refine Ev.ieq (fun e2 => ?_) (fun e2 => ?_)
    · have : inB blanks s[i] = true := (kind5 _).1 (by simp at e2; omega)
      rw [this] at hb
      cases hb
    refine yj ?_
    refine Ev.op (idxS (c := s[i]) (by simp [hlt]) _) ?_
    refine Ev.ine (fun e3 => absurd (by rw [← hnx, h34]) e3) (fun e3 => ?_)
    refine yj ?_
    unfold s19a6 s19a7 s19a9
    refine Ev.iadd ?_
    rw [addN 1 (by omega)]
    refine rem_loop hs (kk := fun n => s19a3l (shD n) n (n - (j + 1))) (s.drop (i + 1)) 0 (i + 1) rfl (by omega) (fun _ => ⟨rfl, rfl⟩) (fun hl2 => by omega)
  | rem i k o hlt h34 hl _ ih =>
    intro j hi
    have hnx : nx s i = s[i] := by simp [nx, List.getD, hlt]
    have hb : inB blanks s[i] = false := by rw [← hnx, h34]; rfl
    refine Ev.loop j (ll := fun n m => s19a3l (shD n) n m (.s s) (.i .i64 (i : Int)) h) (bb := fun n m => s19a3b (shD n) n (s19a3l (shD n) n m) (.s s) (.i .i64 (i : Int)) h) (fun _ _ => rfl) ?_
    unfold s19a3b s19a2 s19a4 s19a5
    refine Ev.lenS ?_
    refine Ev.ilt (fun e1 => ?_) (fun e1 => by omega)
    refine yt ?_
    refine Ev.op (idxS (c := s[i]) (by simp [hlt]) _) ?_
    refine Ev.call (kind_ok _ _) ?_
    rintro _ _ ⟨rfl, rfl⟩
    refine Ev.ieq (fun e2 => ?_) (fun e2 => ?_)
    · have : inB blanks s[i] = true := (kind5 _).1 (by simp at e2; omega)
      rw [this] at hb
      cases hb
    refine yj ?_
    refine Ev.op (idxS (c := s[i]) (by simp [hlt]) _) ?_
    refine Ev.ine (fun e3 => absurd (by rw [← hnx, h34]) e3) (fun e3 => ?_)
    refine yj ?_
    unfold s19a6 s19a7 s19a9
    refine Ev.iadd ?_
    rw [addN 1 (by omega)]
    have hll : (s.drop (i + 1)).length = s.length - (i + 1) := by simp
    refine rem_loop hs (kk := fun n => s19a3l (shD n) n (n - (j + 1))) (s.drop (i + 1)) 0 (i + 1) rfl (by omega) (fun hl2 => by omega) (fun hl2 => ih (j + 1) (by omega))

theorem skip_ok {s : List Nat} (hs : s.length ≤ lim) {h : Hp} {i k : Nat} {o : Bool} (H : SkipTo s i k o) (hi : i ≤ s.length) :
    Ev (fun n => shD n 19 [.s s, .i .i64 (i : Int)] h) (fun v h' => v = .t [.i .i64 (k : Int), .b o] ∧ h' = h) := by
  refine Ev.enter (fun n => enter19 n _ _ h) ?_
  unfold s19 s19a1 s19a3
  exact skip_loop hs H 0 hi

/-- The tokens, one behind the other. -/
theorem toks_skip {g : Nat} {s : List Nat} : ∀ (f i : Nat) (out : List Tok) (res : List Tok × Int × Int), i ≤ s.length → toksM g s f i out = some res →
    ∃ k o, SkipTo s i k o ∧ k ≤ s.length ∧ (o = true → res = ([], (k : Int), 11)) ∧ (o = false → k = s.length → res = (out ++ [⟨0, [], 0, (k : Int)⟩], 0, 0)) ∧
      (o = false → k < s.length → ∃ rs, tokenM g (s.drop k) = some rs ∧ (rs.2.2.2.1 ≠ 0 → res = ([], (k : Int), rs.2.2.2.1)) ∧
        (rs.2.2.2.1 = 0 → k + rs.2.2.2.2 ≤ s.length ∧ ∃ f', f' < f ∧ toksM g s f' (k + rs.2.2.2.2) (out ++ [⟨rs.1, rs.2.1, rs.2.2.1, (k : Int)⟩]) = some res)) := by
  intro f
  induction f with
  | zero => intro i out res hi hm; cases hm
  | succ f ih =>
    intro i out res hi hm
    unfold toksM at hm
    have hle := tw_le (inB blanks) (s.drop i)
    have hdl : (s.drop i).length = s.length - i := by simp
    have up : ∀ (w : Nat) (i : Nat), w ≤ ((s.drop i).takeWhile (inB blanks)).length → ∀ k o, SkipTo s (i + w) k o → SkipTo s i k o := by
      intro w
      induction w with
      | zero => intro i _ k o H; exact H
      | succ w ihw =>
        intro i hw k o H
        have hlt : i < s.length := by
          have := tw_le (inB blanks) (s.drop i)
          simp at this
          omega
        have hd := List.drop_eq_getElem_cons hlt
        rw [hd] at hw
        have hb : inB blanks s[i] = true := by
          cases e : inB blanks s[i] with
          | true => rfl
          | false =>
            rw [List.takeWhile_cons, e] at hw
            simp only [Bool.false_eq_true, if_false, List.length_nil] at hw
            omega
        have hnx : nx s i = s[i] := by simp [nx, List.getD, hlt]
        refine SkipTo.blank i k o hlt (by rw [hnx]; exact hb) ?_
        rw [List.takeWhile_cons, hb] at hw
        simp only [if_true, List.length_cons] at hw
        refine ihw (i + 1) (by omega) k o ?_
        rw [show i + 1 + w = i + (w + 1) by omega]
        exact H
    have nb : ∀ w, w = ((s.drop i).takeWhile (inB blanks)).length → i + w < s.length → inB blanks (nx s (i + w)) = false := by
      intro w hw hlt
      have e1 : nx s (i + w) = nx (s.drop i) w := by simp [nx, List.getD, List.getElem?_drop]
      rw [e1, hw]
      have : ∀ u : List Nat, (u.takeWhile (inB blanks)).length < u.length → inB blanks (nx u (u.takeWhile (inB blanks)).length) = false := by
        intro u
        induction u with
        | nil => intro h; simp at h
        | cons c u ihu =>
          intro h
          cases e : inB blanks c with
          | false => simp [e, nx]
          | true =>
            simp [e] at h
            simp [e]
            have := ihu h
            simpa [nx] using this
      exact this _ (by omega)
    generalize hw : ((s.drop i).takeWhile (inB blanks)).length = w at hm hle nb
    have hi2 : i + w ≤ s.length := by omega
    split at hm
    · rename_i h1
      cases hm
      have hk : i + w = s.length := by omega
      refine ⟨i + w, false, up w i (by omega) _ _ (.fin _ h1), by omega, fun h => (by cases h), fun _ h => by rw [hk], fun _ h => by omega⟩
    · rename_i h1
      have h1' : i + w < s.length := by omega
      have hb := nb w rfl h1'
      split at hm
      · rename_i h2
        rw [idxGo_tw] at hm
        by_cases hlt : ((s.drop (i + w + 1)).takeWhile remB).length < (s.drop (i + w + 1)).length
        · rw [if_pos hlt] at hm
          rw [if_neg (by omega)] at hm
          simp only [Nat.zero_add, Int.toNat_natCast] at hm
          have hdl2 : (s.drop (i + w + 1)).length = s.length - (i + w + 1) := by simp
          obtain ⟨k, o, a1, a2, a3, a4, a5⟩ := ih _ out res (by omega) hm
          refine ⟨k, o, up w i (by omega) _ _ (.rem _ k o h1' h2 hlt ?_), a2, a3, a4, ?_⟩
          · rw [show i + w + 1 + ((s.drop (i + w + 1)).takeWhile remB).length + 1 = i + w + ((s.drop (i + w + 1)).takeWhile remB).length + 2 by omega]
            exact a1
          · intro ho hk
            obtain ⟨rs, b1, b2, b3⟩ := a5 ho hk
            refine ⟨rs, b1, b2, fun he => ?_⟩
            obtain ⟨c1, f', c2, c3⟩ := b3 he
            exact ⟨c1, f', by omega, c3⟩
        · rw [if_neg hlt] at hm
          rw [if_pos (by omega)] at hm
          cases hm
          have := tw_le remB (s.drop (i + w + 1))
          exact ⟨i + w, true, up w i (by omega) _ _ (.opn _ h1' h2 (by omega)), by omega, fun _ => rfl, fun h => (by cases h), fun h => (by cases h)⟩
      · rename_i h2
        obtain ⟨rs, hr, hm⟩ := Option.bind_eq_some_iff.1 hm
        refine ⟨i + w, false, up w i (by omega) _ _ (.tok _ h1' hb h2), by omega, fun h => (by cases h), fun _ h => by omega, fun _ _ => ⟨rs, hr, fun he => ?_, fun he => ?_⟩⟩
        · rw [if_neg he] at hm
          cases hm
          rfl
        · rw [if_pos he] at hm
          split at hm
          · cases hm
          · rename_i hfit
            simp at hfit
            exact ⟨by omega, f, by omega, hm⟩

end Go.Dd

/- Dd, part T17: the document's lexer: texts, symbols. -/
set_option linter.unusedVariables false
set_option linter.unusedSimpArgs false
set_option maxRecDepth 100000
namespace Go.Dd
open Go.Proofs

/-- What a call that answers a token, its end and an error leaves: the same as the program's, where there is no error. -/
def KPost (I : Im) (A Q L : Ls) (res : Int × List Nat × Int × Int × Nat) (i : Nat) (v : DV) (h : Hp) : Prop :=
  ∃ t en, v = .t [.a (tc t), .i .i64 en, .i .i64 res.2.2.2.1] ∧ (res.2.2.2.1 = 0 → t = ⟨res.1, res.2.1, res.2.2.1, (i : Int)⟩ ∧ en = ((i + res.2.2.2.2 : Nat) : Int)) ∧ Sy I A Q L h

section
variable {I : Im} {A Q L : Ls} {s : List Nat} {p0 : Int} {k0 : Int} {m0 : Int} {b3 b4 : Pos} {z : List DV}

abbrev tokL (b3 b4 : Pos) (z : List DV) (t : Tok) (L : Ls) : Ls := (b4, some (.row .ex z)) :: (b3, some (.row .ex [.i .i64 t.kind, .s t.text, .i .i64 t.num, .i .i64 t.pos])) :: L

theorem rtext_run {P : DV → Hp → Prop} (hs : s.length ≤ lim) (z1 : z.length = 4) (z2 : ∀ v ∈ z, v.one = true) : ∀ (u : List Nat) (i : Nat) (out : List Nat), s.drop i = u → out.length ≤ i → i ≤ s.length →
    (∀ (j : Nat) (h : Hp), Sy I A Q (tokL b3 b4 z ⟨k0, out ++ u.takeWhile textB, m0, p0⟩ L) h → Ev (fun n => s37a4l (shD n) n (n - j) (.s s) (.p b3 0) (.p b4 0) (.i .i64 ((i + (u.takeWhile textB).length : Nat) : Int)) h) P) →
    ∀ (j : Nat) (h : Hp), Sy I A Q (tokL b3 b4 z ⟨k0, out, m0, p0⟩ L) h → Ev (fun n => s37a4l (shD n) n (n - j) (.s s) (.p b3 0) (.p b4 0) (.i .i64 (i : Int)) h) P := by
  intro u
  induction u with
  | nil =>
    intro i out hu ho hi H j h S
    have := H j h (by simpa using S)
    simpa using this
  | cons c u ih =>
    intro i out hu ho hi H j h S
    have hlt : i < s.length := by
      have := congrArg List.length hu
      simp at this
      omega
    have hu' : s.drop (i + 1) = u := by rw [← List.drop_drop, hu]; rfl
    have hc : s[i] = c := by
      rw [List.drop_eq_getElem_cons hlt] at hu
      exact (List.cons.inj hu).1
    cases e : textB c with
    | false =>
      rw [List.takeWhile_cons, e] at H
      have := H j h (by simpa using S)
      simpa using this
    | true =>
      rw [List.takeWhile_cons, e] at H
      simp only [if_true, List.length_cons] at H
      have hs' := hs
      simp only [lim] at hs'
      refine Ev.loop j (ll := fun n m => s37a4l (shD n) n m (.s s) (.p b3 0) (.p b4 0) (.i .i64 (i : Int)) h) (bb := fun n m => s37a4b (shD n) n (s37a4l (shD n) n m) (.s s) (.p b3 0) (.p b4 0) (.i .i64 (i : Int)) h) (fun _ _ => rfl) ?_
      unfold s37a4b
      refine Ev.lenS ?_
      refine Ev.ilt (fun e1 => ?_) (fun e1 => by omega)
      refine yt ?_
      refine Ev.op (idxS (c := s[i]) (by simp [hlt]) _) ?_
      refine Ev.ine (fun e2 => ?_) (fun e2 => ?_)
      · refine yt ?_; refine wf ?_; refine wl ?_
        refine Ev.iadd ?_
        rw [addN 1 (by omega)]
        refine Ev.op (cutS (by omega) (by omega) _) ?_
        have ec : (s.take (i + 1)).drop i = [c] := by
          rw [List.drop_take, hu, Nat.add_sub_cancel_left]; rfl
        rw [ec]
        refine Ev.sadd (by simp; omega) ?_
        refine wf ?_; refine wu fun _ _ => ?_
        refine Ev.iadd ?_
        rw [addN 1 (by omega)]
        refine ih (i + 1) (out ++ [c]) hu' (by simp; omega) (by omega) ?_ (j + 1) _ (by assumption)
        intro j' h' S'
        rw [show i + 1 + (u.takeWhile textB).length = i + ((u.takeWhile textB).length + 1) by omega]
        exact H j' h' (by simpa using S')
      · rw [hc] at e2
        simp [textB] at e
        simp at e2
        omega

theorem rtext_loop (hs : s.length ≤ lim) (z1 : z.length = 4) (z2 : ∀ v ∈ z, v.one = true) : ∀ (f j i : Nat) (h : Hp) (out : List Nat) (res : List Nat × Int × Nat), Sy I A Q (tokL b3 b4 z ⟨k0, out, m0, p0⟩ L) h → i ≤ s.length → out.length ≤ i → textM f out (s.drop i) = some res →
    Ev (fun n => s37a4l (shD n) n (n - j) (.s s) (.p b3 0) (.p b4 0) (.i .i64 (i : Int)) h)
      (fun v h' => ∃ t en, v = .t [.a (tc t), .i .i64 en, .i .i64 res.2.1] ∧ (res.2.1 = 0 → t = ⟨k0, res.1, m0, p0⟩ ∧ en = ((i + res.2.2 : Nat) : Int)) ∧ Sy I A Q L h') := by
  intro f
  induction f with
  | zero => intro j i h out res S hi ho hm; cases hm
  | succ f ih =>
    intro j i h out res S hi ho hm
    unfold textM at hm
    have hlen := tw_le textB (s.drop i)
    have hd : (s.drop i).length = s.length - i := by simp
    have hs' := hs
    simp only [lim] at hs'
    refine rtext_run hs z1 z2 (s.drop i) i out rfl ho hi ?_ j h S
    intro j' h' S'
    have hnth : (s.drop i)[((s.drop i).takeWhile textB).length]? = s[i + ((s.drop i).takeWhile textB).length]? := by rw [List.getElem?_drop]
    have hstop : ∀ u : List Nat, (u.takeWhile textB).length < u.length → u[(u.takeWhile textB).length]? = some 39 := by
      intro u
      induction u with
      | nil => intro h; simp at h
      | cons c u ihu =>
        intro h
        cases e : textB c with
        | false =>
          simp [textB] at e
          subst e
          simp [textB]
        | true =>
          rw [List.takeWhile_cons, e] at h ⊢
          simp only [if_true, List.length_cons] at h ⊢
          have := ihu (by omega)
          simpa using this
    generalize hw : (s.drop i).takeWhile textB = w at hm S' hlen hnth
    have hwst : w.length < (s.drop i).length → s[i + w.length]? = some 39 := fun hl => by
      rw [← hnth, ← hw]; exact hstop _ (by rw [hw]; exact hl)
    refine Ev.loop j' (ll := fun n m => s37a4l (shD n) n m (.s s) (.p b3 0) (.p b4 0) (.i .i64 ((i + w.length : Nat) : Int)) h') (bb := fun n m => s37a4b (shD n) n (s37a4l (shD n) n m) (.s s) (.p b3 0) (.p b4 0) (.i .i64 ((i + w.length : Nat) : Int)) h') (fun _ _ => rfl) ?_
    unfold s37a4b s37a3
    refine Ev.lenS ?_
    refine Ev.ilt (fun e1 => ?_) (fun e1 => ?_)
    · have e1' : i + w.length < s.length := by omega
      have hq := hwst (by omega)
      rw [if_neg (by omega)] at hm
      refine yt ?_
      refine Ev.op (idxS hq _) ?_
      refine Ev.ine (fun e2 => absurd rfl e2) (fun e2 => ?_)
      refine yj ?_
      refine Ev.iadd ?_
      rw [addN 1 (by omega)]
      refine Ev.lenS ?_
      have nxe : nx (s.drop i) (w.length + 1) = s.getD (i + w.length + 1) 0 := by simp [nx, List.getD, List.getElem?_drop, Nat.add_assoc]
      have fin : ¬ nx (s.drop i) (w.length + 1) = 39 → Ev (fun n => bnd (pLoadA 4 (.p b3 0) h') fun v34 h34 => bnd (pInt .add (.i .i64 ((i + w.length : Nat) : Int)) (.i .i64 (Int.ofNat 1)) h34) fun v35 h35 => bnd (pStore 4 (.p b4 0) v34 h35) fun _ h36 => bnd (pLoadA 4 (.p b4 0) h36) fun v37 _ => some (.t [v37, v35, .i .i64 (Int.ofNat 0)], h36))
          (fun v h' => ∃ t en, v = .t [.a (tc t), .i .i64 en, .i .i64 res.2.1] ∧ (res.2.1 = 0 → t = ⟨k0, res.1, m0, p0⟩ ∧ en = ((i + res.2.2 : Nat) : Int)) ∧ Sy I A Q L h') := fun e => by
        rw [if_neg e] at hm
        cases hm
        refine ws ?_
        refine Ev.iadd ?_
        rw [addN 1 (by omega)]
        refine wt fun _ _ => ?_; refine ws ?_
        refine Ev.ret ⟨⟨k0, out ++ w, m0, p0⟩, _, rfl, fun _ => ⟨rfl, ?_⟩, dp⟩
        rw [Nat.add_assoc]
      refine Ev.ilt (fun e3 => ?_) (fun e3 => ?_)
      · have e3' : i + w.length + 1 < s.length := by omega
        refine zt ?_; refine wm ?_; refine zt ?_; refine wm ?_; refine zt ?_
        refine Ev.iadd ?_
        rw [addN 1 (by omega)]
        refine zt ?_
        refine Ev.op (idxS (c := s[i + w.length + 1]) (by simp [e3']) _) ?_
        refine zt ?_
        have nxe' : nx (s.drop i) (w.length + 1) = s[i + w.length + 1] := by rw [nxe]; simp [List.getD, e3']
        refine Ev.ieq (fun e4 => ?_) (fun e4 => ?_)
        · have e4' : nx (s.drop i) (w.length + 1) = 39 := by rw [nxe']; simp at e4; omega
          rw [if_pos e4'] at hm
          obtain ⟨res', hr, hm⟩ := Option.bind_eq_some_iff.1 hm
          simp only [Option.some.injEq] at hm
          subst hm
          refine ap ?_; refine yt ?_; refine wf ?_; refine wl ?_
          refine Ev.sadd (by simp; omega) ?_
          refine wf ?_; refine wu fun _ _ => ?_
          refine Ev.iadd ?_
          rw [addN 2 (by omega)]
          refine (ih (j' + 1) (i + w.length + 2) _ (out ++ w ++ [39]) res' (by assumption) (by omega) (by simp; omega) ?_).mono ?_
          · rw [← hr, List.drop_drop]
            congr 2
          · rintro v h'' ⟨t, en, a1, a2, a3⟩
            refine ⟨t, en, a1, fun he => ?_, a3⟩
            obtain ⟨b1, b2⟩ := a2 he
            refine ⟨b1, ?_⟩
            rw [b2]
            show ((i + w.length + 2 + res'.2.2 : Nat) : Int) = ((i + (res'.2.2 + (w.length + 2)) : Nat) : Int)
            congr 1
            omega
        · have F := fin (by rw [nxe']; simp at e4; omega)
          exact F
      · have F := fin (by rw [nxe]; simp [List.getD, List.getElem?_eq_none (show s.length ≤ i + w.length + 1 by omega)])
        exact F
    · have e1' : w.length = (s.drop i).length := by omega
      rw [if_pos e1'] at hm
      cases hm
      refine yj ?_; refine ws ?_; refine wt fun _ _ => ?_; refine ws ?_
      exact Ev.ret ⟨⟨k0, out ++ w, m0, p0⟩, _, rfl, fun he => (by cases he), dp⟩

theorem rtext_ok {h : Hp} (S : Sy I A Q L h) (hs : s.length ≤ lim) {i : Nat} (hi : i < s.length) (f : Nat) (res : List Nat × Int × Nat) (hm : textM f [] (s.drop (i + 1)) = some res) :
    Ev (fun n => shD n 37 [.s s, .a (tc ⟨k0, [], m0, (i : Int)⟩)] h) (fun v h' => ∃ t en, v = .t [.a (tc t), .i .i64 en, .i .i64 res.2.1] ∧ (res.2.1 = 0 → t = ⟨k0, res.1, m0, (i : Int)⟩ ∧ en = ((i + 1 + res.2.2 : Nat) : Int)) ∧ Sy I A Q L h') := by
  refine Ev.enter (fun n => enter37 n _ _ h) ?_
  unfold s37 s37a1 s37a2 s37a4
  refine wb fun _ _ _ => ?_; refine wa fun _ _ _ => ?_; refine wf ?_; refine wl ?_
  refine Ev.iadd ?_
  simp only [lim] at hs
  rw [addN 1 (by omega)]
  rename_i b1 h1 S1 b2 h2 S2
  exact rtext_loop (b3 := b1) (b4 := b2) (k0 := k0) (m0 := m0) (p0 := (i : Int)) hs rfl (by first | assumption | exact tc_ones _ | (repeat (first | exact ones_nil | refine ones_cons (by first | rfl | assumption | exact Fz.one (by assumption)) ?_))) f 0 (i + 1) _ [] res S2 (by omega) (by simp) hm

end
end Go.Dd

/- Dd, part T18: the document's lexer: symbols. -/
set_option linter.unusedVariables false
set_option linter.unusedSimpArgs false
set_option maxRecDepth 100000
namespace Go.Dd
open Go.Proofs

theorem nameM_take {u : List Nat} (h : (nameM u).2.1 = 0) : (nameM u).1 = u.take (nameM u).2.2 := by
  unfold nameM at h ⊢
  split at h
  · cases h
  · rename_i hn
    rw [if_neg hn]
    exact (take_tw nameB u).symm

theorem nameM_len (u : List Nat) : (nameM u).2.2 = (u.takeWhile nameB).length := by
  unfold nameM; split <;> rfl
theorem nameM_err (u : List Nat) : (nameM u).2.1 = if 24 < (u.takeWhile nameB).length then 12 else 0 := by
  unfold nameM; split <;> rfl

theorem colon_head {u : List Nat} (h : colonM u = true) : ∃ v, u = 58 :: v := by
  unfold colonM at h
  cases u with
  | nil => simp [nx] at h
  | cons c v =>
    simp [nx] at h
    exact ⟨v, by rw [h.1]⟩

theorem take_colon {u : List Nat} {n : Nat} (h : colonM (u.drop n) = true) : u.take (n + 1) = u.take n ++ [58] := by
  obtain ⟨v, e⟩ := colon_head h
  have : u[n]? = some 58 := by
    have : (u.drop n)[0]? = some 58 := by rw [e]; rfl
    simpa using this
  rw [List.take_add_one, this]
  rfl

theorem symL_take : ∀ (f : Nat) (out u : List Nat) (res : List Nat × Int × Nat), symL f out u = some res → res.2.2 ≤ u.length ∧ (res.2.1 = 0 → res.1 = out ++ u.take res.2.2) := by
  intro f
  induction f with
  | zero => intro out u res h; cases h
  | succ f ih =>
    intro out u res h
    unfold symL at h
    have hn := nameM_le u
    split at h
    · split at h
      · rename_i h1 h2
        have hc := colon_lt h2
        simp at hc
        split at h
        · rename_i h3
          obtain ⟨r, hr, h⟩ := Option.bind_eq_some_iff.1 h
          cases h
          obtain ⟨a1, a2⟩ := ih _ _ _ hr
          simp at a1
          refine ⟨by show r.2.2 + ((nameM u).2.2 + 1) ≤ _; omega, fun he => ?_⟩
          show r.1 = out ++ u.take (r.2.2 + ((nameM u).2.2 + 1))
          rw [a2 he, nameM_take h3, Nat.add_comm r.2.2, List.take_add, take_colon h2]
          simp
        · cases h
          refine ⟨by show (nameM u).2.2 + 1 ≤ _; omega, fun he => ?_⟩
          rename_i h3
          exact absurd he h3
      · cases h
        exact ⟨by simp, fun _ => by simp⟩
    · cases h
      exact ⟨by simp, fun _ => by simp⟩

theorem symbolM_take {f : Nat} {u : List Nat} {res : List Nat × Int × Nat} (h : symbolM f u = some res) : res.2.2 ≤ u.length ∧ (res.2.1 = 0 → res.1 = u.take res.2.2) := by
  unfold symbolM at h
  have hn := nameM_le u
  split at h
  · split at h
    · split at h
      · rename_i h3
        split at h
        · rename_i h4
          obtain ⟨r, hr, h⟩ := Option.bind_eq_some_iff.1 h
          cases h
          have hc := colon_lt h4
          simp at hc
          obtain ⟨a1, a2⟩ := symL_take _ _ _ _ hr
          simp at a1
          refine ⟨by show r.2.2 + ((nameM u).2.2 + 1) ≤ _; omega, fun he => ?_⟩
          show r.1 = u.take (r.2.2 + ((nameM u).2.2 + 1))
          rw [a2 he, nameM_take h3, Nat.add_comm r.2.2, List.take_add, take_colon h4]
        · cases h
          exact ⟨hn, fun _ => nameM_take h3⟩
      · cases h
        rename_i h3
        exact ⟨hn, fun he => absurd he h3⟩
    · cases h
      exact ⟨by simp, fun he => (by cases he)⟩
  · cases h
    exact ⟨runN_le _ _ _, fun _ => rfl⟩

theorem atZ1 (u : List Nat) : atZ u = 1 ↔ letterB (nx u 0) = true := by
  cases u with
  | nil => simp [atZ, nx, letterB]
  | cons c u =>
    have := kind1 c
    simp only [atZ, nx, List.getD_cons_zero]
    rw [← this]
    omega

theorem kind3 (c : Nat) : kindN c = 3 ↔ inB signs c = true := by
  unfold kindN
  constructor
  · intro h
    repeat' split at h
    all_goals first | assumption | omega
  · intro h
    have h2 : c = 43 ∨ c = 45 ∨ c = 42 ∨ c = 47 ∨ c = 60 ∨ c = 62 ∨ c = 61 ∨ c = 126 ∨ c = 44 ∨ c = 64 ∨ c = 38 ∨ c = 37 := by simpa [inB, signs] using h
    rcases h2 with rfl | rfl | rfl | rfl | rfl | rfl | rfl | rfl | rfl | rfl | rfl | rfl <;> rfl

theorem kind4 (c : Nat) : kindN c = 4 ↔ inB marks c = true := by
  unfold kindN
  constructor
  · intro h
    repeat' split at h
    all_goals first | assumption | omega
  · intro h
    have h2 : c = 94 ∨ c = 46 ∨ c = 59 ∨ c = 40 ∨ c = 41 ∨ c = 91 ∨ c = 93 ∨ c = 124 := by simpa [inB, marks] using h
    rcases h2 with rfl | rfl | rfl | rfl | rfl | rfl | rfl | rfl <;> rfl

theorem atZ3 (u : List Nat) : atZ u = 3 ↔ ∃ c v, u = c :: v ∧ inB signs c = true := by
  cases u with
  | nil => simp [atZ]
  | cons c u =>
    have := kind3 c
    constructor
    · intro h
      exact ⟨c, u, rfl, this.1 (by simp only [atZ] at h; omega)⟩
    · rintro ⟨c', v, e, h⟩
      cases e
      simp only [atZ]
      rw [this.2 h]; rfl

/-- Two signs at most. -/
theorem run_signs (u : List Nat) : (atZ u = 3 → runN (inB signs) 2 u = if atZ (u.drop 1) = 3 then 2 else 1) ∧ (¬ atZ u = 3 → runN (inB signs) 2 u = 0) := by
  constructor
  · intro h
    obtain ⟨c, v, rfl, hc⟩ := (atZ3 u).1 h
    simp only [runN, hc, if_true, List.drop_succ_cons, List.drop_zero]
    cases v with
    | nil => simp [runN, atZ]
    | cons d v =>
      cases hd : inB signs d with
      | true =>
        rw [if_pos ((atZ3 _).2 ⟨d, v, rfl, hd⟩)]
        simp [runN, hd]
      | false =>
        rw [if_neg (fun h => by obtain ⟨c', v', e, h'⟩ := (atZ3 _).1 h; cases e; rw [h'] at hd; cases hd)]
        simp [runN, hd]
  · intro h
    cases u with
    | nil => rfl
    | cons c v =>
      have hc : inB signs c = false := by
        cases e : inB signs c with
        | false => rfl
        | true => exact absurd ((atZ3 _).2 ⟨c, v, rfl, e⟩) h
      simp [runN, hc]

section
variable {I : Im} {A Q L : Ls} {s : List Nat} {b3 b4 : Pos} {z : List DV}

theorem rsym_fin {t0 : List Nat} {h : Hp} {p0 : Int} (S : Sy I A Q (tokL b3 b4 z ⟨6, t0, 0, p0⟩ L) h) (z1 : z.length = 4) (z2 : ∀ v ∈ z, v.one = true) (a e : Nat) (h1 : a ≤ e) (h2 : e ≤ s.length) :
    Ev (fun n => s38a9 (shD n) n (.s s) (.p b3 0) (.p b4 0) (.i .i64 (a : Int)) (.i .i64 (e : Int)) h) (fun v h' => v = .t [.a (tc ⟨6, (s.take e).drop a, 0, p0⟩), .i .i64 (e : Int), .i .i64 0] ∧ Sy I A Q L h') := by
  unfold s38a9
  refine Ev.op (cutS h1 h2 h) ?_
  refine wf ?_; refine wu fun _ _ => ?_; refine ws ?_; refine wt fun _ _ => ?_; refine ws ?_
  exact Ev.ret ⟨rfl, dp⟩

theorem rsym_loop (hs : s.length ≤ lim) (z1 : z.length = 4) (z2 : ∀ v ∈ z, v.one = true) {p0 : Int} (a : Nat) : ∀ (f j e : Nat) (h : Hp) (out : List Nat) (res : List Nat × Int × Nat), Sy I A Q (tokL b3 b4 z ⟨6, [], 0, p0⟩ L) h → a ≤ e → e ≤ s.length → colonM (s.drop e) = true →
    symL f out (s.drop (e + 1)) = some res →
    Ev (fun n => s38a10l (shD n) n (n - j) (.s s) (.p b3 0) (.p b4 0) (.i .i64 (a : Int)) (.i .i64 (e : Int)) h)
      (fun v h' => ∃ t en, v = .t [.a (tc t), .i .i64 en, .i .i64 res.2.1] ∧ (res.2.1 = 0 → t = ⟨6, (s.take (e + 1 + res.2.2)).drop a, 0, p0⟩ ∧ en = ((e + 1 + res.2.2 : Nat) : Int)) ∧ Sy I A Q L h') := by
  intro f
  induction f with
  | zero => intro j e h out res S ha he hc hm; cases hm
  | succ f ih =>
    intro j e h out res S ha he hc hm
    unfold symL at hm
    have hs' := hs
    simp only [lim] at hs'
    have hcl := colon_lt hc
    have he1 : e + 1 ≤ s.length := by simp at hcl; omega
    refine Ev.loop j (ll := fun n m => s38a10l (shD n) n m (.s s) (.p b3 0) (.p b4 0) (.i .i64 (a : Int)) (.i .i64 (e : Int)) h) (bb := fun n m => s38a10b (shD n) n (s38a10l (shD n) n m) (.s s) (.p b3 0) (.p b4 0) (.i .i64 (a : Int)) (.i .i64 (e : Int)) h) (fun _ _ => rfl) ?_
    unfold s38a10b
    refine Ev.call (rcol_ok s hs e he h) ?_
    rintro _ _ ⟨rfl, hh⟩
    rw [hh]
    clear hh
    rw [hc]
    refine yt ?_
    refine Ev.iadd ?_
    rw [addN 1 (by omega)]
    refine Ev.call (at_ok s (e + 1) _) ?_
    rintro _ _ ⟨rfl, hh⟩
    rw [hh]
    clear hh
    have fin : some (out, (0 : Int), 0) = some res → Ev (fun n => s38a9 (shD n) n (.s s) (.p b3 0) (.p b4 0) (.i .i64 (a : Int)) (.i .i64 ((e + 1 : Nat) : Int)) h)
        (fun v h' => ∃ t en, v = .t [.a (tc t), .i .i64 en, .i .i64 res.2.1] ∧ (res.2.1 = 0 → t = ⟨6, (s.take (e + 1 + res.2.2)).drop a, 0, p0⟩ ∧ en = ((e + 1 + res.2.2 : Nat) : Int)) ∧ Sy I A Q L h') := fun er => by
      cases er
      refine (rsym_fin S z1 z2 a (e + 1) (by omega) he1).mono ?_
      rintro v h' ⟨rfl, S'⟩
      exact ⟨_, _, rfl, fun _ => ⟨rfl, rfl⟩, S'⟩
    refine Ev.ine (fun e1 => ?_) (fun e1 => ?_)
    · have e1' : letterB (nx (s.drop (e + 1)) 0) = false := by
        cases e2 : letterB (nx (s.drop (e + 1)) 0) with
        | false => rfl
        | true => exact absurd ((atZ1 _).2 e2) e1
      rw [e1'] at hm
      refine yt ?_
      exact fin (by simpa using hm)
    · have e1' : letterB (nx (s.drop (e + 1)) 0) = true := (atZ1 _).1 e1
      rw [if_pos e1'] at hm
      refine yj ?_
      refine Ev.call (nend_ok s hs (e + 1) he1 _) ?_
      rintro _ _ ⟨rfl, hh⟩
      rw [hh]
      clear hh
      have hnl := nameM_le (s.drop (e + 1))
      have hne := nameM_err (s.drop (e + 1))
      have hnl2 := nameM_len (s.drop (e + 1))
      rw [← hnl2] at hne ⊢
      have hdl : (s.drop (e + 1)).length = s.length - (e + 1) := by simp
      generalize hN : nameM (s.drop (e + 1)) = N at hm hnl hne ⊢
      refine Ev.call (rcol_ok s hs (e + 1 + N.2.2) (by omega) _) ?_
      rintro _ _ ⟨rfl, hh⟩
      rw [hh]
      clear hh
      have hdd : s.drop (e + 1 + N.2.2) = (s.drop (e + 1)).drop N.2.2 := by rw [List.drop_drop]
      cases e2 : colonM (s.drop (e + 1 + N.2.2)) with
      | false =>
        rw [← hdd, e2] at hm
        refine ao ?_; refine yt ?_
        exact fin (by simpa using hm)
      | true =>
        rw [← hdd, e2, if_pos rfl] at hm
        refine an ?_; refine yj ?_
        refine Ev.isub ?_
        rw [show ((e + 1 + N.2.2 : Nat) : Int) - ((e + 1 : Nat) : Int) = ((N.2.2 : Nat) : Int) by omega, wrapN _ (by omega)]
        refine Ev.igt (fun e3 => ?_) (fun e3 => ?_)
        · have e3' : 24 < N.2.2 := by simp at e3; omega
          rw [if_pos e3'] at hne
          rw [if_neg (by rw [hne]; decide)] at hm
          cases hm
          rw [hne]
          refine yt ?_; refine ws ?_; refine wt fun _ _ => ?_; refine ws ?_
          exact Ev.ret ⟨⟨6, [], 0, p0⟩, _, rfl, fun he => (by cases he), dp⟩
        · have e3' : ¬ 24 < N.2.2 := by simp at e3; omega
          rw [if_neg e3'] at hne
          rw [if_pos hne] at hm
          obtain ⟨res', hr, hm⟩ := Option.bind_eq_some_iff.1 hm
          cases hm
          refine yj ?_
          refine (ih (j + 1) (e + 1 + N.2.2) h _ res' S (by omega) (by omega) e2 (by rw [← hr, List.drop_drop, Nat.add_assoc (e + 1)])).mono ?_
          rintro v h'' ⟨t, en, a1, a2, a3⟩
          refine ⟨t, en, a1, fun he => ?_, a3⟩
          obtain ⟨b1, b2⟩ := a2 he
          have ee : e + 1 + N.2.2 + 1 + res'.2.2 = e + 1 + (res'.2.2 + (N.2.2 + 1)) := by omega
          rw [ee] at b1 b2
          exact ⟨b1, b2⟩

theorem rsym_ok {h : Hp} (S : Sy I A Q L h) (hs : s.length ≤ lim) {i : Nat} (hi : i < s.length) (f : Nat) (res : Int × List Nat × Int × Int × Nat)
    (hm : (if nx (s.drop i) 1 = 40 then some (7, [], 0, 0, 2) else (symbolM f ((s.drop i).drop 1)).bind fun r => some (6, r.1, 0, r.2.1, r.2.2 + 1)) = some res) :
    Ev (fun n => shD n 38 [.s s, .a (tc ⟨0, [], 0, (i : Int)⟩)] h) (KPost I A Q L res i) := by
  refine Ev.enter (fun n => enter38 n _ _ h) ?_
  unfold s38 s38a1
  have hs' := hs
  simp only [lim] at hs'
  have hdd : (s.drop i).drop 1 = s.drop (i + 1) := by rw [List.drop_drop]
  have hnx : nx (s.drop i) 1 = nx (s.drop (i + 1)) 0 := by simp [nx, List.getD, List.getElem?_drop]
  rw [hdd, hnx] at hm
  refine wb fun _ _ _ => ?_; refine wa fun _ _ _ => ?_; refine wf ?_; refine wl ?_
  rename_i b1 h1 S1 b2 h2 S2
  refine Ev.iadd ?_
  rw [addN 1 (by omega)]
  unfold s38a2
  refine Ev.lenS ?_
  have go : ¬ nx (s.drop (i + 1)) 0 = 40 → Ev (fun n => s38a3 (shD n) n (.s s) (.p b1 0) (.p b2 0) (.i .i64 ((i + 1 : Nat) : Int)) h2) (KPost I A Q L res i) := fun e0 => by
    rw [if_neg e0] at hm
    obtain ⟨r, hr, hm⟩ := Option.bind_eq_some_iff.1 hm
    cases hm
    obtain ⟨k1, k2⟩ := symbolM_take hr
    unfold s38a3
    refine wf ?_; refine wu fun _ _ => ?_
    rename_i h3 S3
    unfold s38a4
    refine Ev.call (at_ok s (i + 1) _) ?_
    rintro _ _ ⟨rfl, hh⟩
    rw [hh]
    clear hh
    unfold symbolM at hr
    obtain ⟨g1, g2⟩ := run_signs (s.drop (i + 1))
    have hdl : (s.drop (i + 1)).length = s.length - (i + 1) := by simp
    unfold s38a11
    refine Ev.ieq (fun e1 => ?_) (fun e1 => ?_)
    · have g3 := g1 e1
      rw [if_neg (by rw [g3]; split <;> decide)] at hr
      cases hr
      refine yt ?_
      unfold s38a12
      refine Ev.iadd ?_
      rw [addN 1 (by omega)]
      unfold s38a13
      refine Ev.call (at_ok s (i + 1 + 1) _) ?_
      rintro _ _ ⟨rfl, hh⟩
      rw [hh]
      clear hh
      have hd2 : s.drop (i + 1 + 1) = (s.drop (i + 1)).drop 1 := by rw [List.drop_drop]
      have hl0 := runN_le (inB signs) 2 (s.drop (i + 1))
      have fin : ∀ e, e = i + 1 + runN (inB signs) 2 (s.drop (i + 1)) → Ev (fun n => s38a14 (shD n) n (.s s) (.p b1 0) (.p b2 0) (.i .i64 ((i + 1 : Nat) : Int)) (.i .i64 (e : Int)) h3) (KPost I A Q L (6, (s.drop (i + 1)).take (runN (inB signs) 2 (s.drop (i + 1))), 0, 0, runN (inB signs) 2 (s.drop (i + 1)) + 1) i) := by
        intro e he
        unfold s38a14
        refine Ev.op (cutS (by omega) (by omega) _) ?_
        refine wf ?_; refine wu fun _ _ => ?_; refine ws ?_; refine wt fun _ _ => ?_; refine ws ?_
        refine Ev.ret ⟨⟨6, (s.take e).drop (i + 1), 0, (i : Int)⟩, (e : Int), rfl, fun _ => ⟨?_, ?_⟩, dp⟩
        · show (⟨6, (s.take e).drop (i + 1), 0, (i : Int)⟩ : Tok) = ⟨6, (s.drop (i + 1)).take _, 0, (i : Int)⟩
          rw [List.drop_take, he, Nat.add_sub_cancel_left]
        · show (e : Int) = ((i + (_ + 1) : Nat) : Int)
          rw [he]
          omega
      refine Ev.ieq (fun e2 => ?_) (fun e2 => ?_)
      · rw [if_pos (show atZ ((s.drop (i + 1)).drop 1) = 3 by rw [← hd2]; exact e2)] at g3
        refine yt ?_
        refine Ev.iadd ?_
        rw [addN 1 (by omega)]
        exact fin (i + 1 + 1 + 1) (by omega)
      · rw [if_neg (show ¬ atZ ((s.drop (i + 1)).drop 1) = 3 by rw [← hd2]; exact e2)] at g3
        refine yj ?_
        exact fin (i + 1 + 1) (by omega)
    · have g3 := g2 e1
      rw [if_pos g3] at hr
      refine yj ?_
      unfold s38a5
      refine Ev.call (at_ok s (i + 1) _) ?_
      rintro _ _ ⟨rfl, hh⟩
      rw [hh]
      clear hh
      refine Ev.ine (fun e2 => ?_) (fun e2 => ?_)
      · have e2' : letterB (nx (s.drop (i + 1)) 0) = false := by
          cases e3 : letterB (nx (s.drop (i + 1)) 0) with
          | false => rfl
          | true => exact absurd ((atZ1 _).2 e3) e2
        rw [e2'] at hr
        simp only [Bool.false_eq_true, if_false, Option.some.injEq] at hr
        subst hr
        refine yt ?_; refine ws ?_; refine wt fun _ _ => ?_; refine ws ?_
        exact Ev.ret ⟨⟨6, [], 0, (i : Int)⟩, _, rfl, fun he => (by cases he), dp⟩
      · have e2' : letterB (nx (s.drop (i + 1)) 0) = true := (atZ1 _).1 e2
        rw [if_pos e2'] at hr
        refine yj ?_
        unfold s38a6
        refine Ev.call (nend_ok s hs (i + 1) (by omega) _) ?_
        rintro _ _ ⟨rfl, hh⟩
        rw [hh]
        clear hh
        have hnl := nameM_le (s.drop (i + 1))
        have hne := nameM_err (s.drop (i + 1))
        have hnl2 := nameM_len (s.drop (i + 1))
        rw [← hnl2] at hne ⊢
        generalize hN : nameM (s.drop (i + 1)) = N at hr hnl hne ⊢
        unfold s38a7
        refine Ev.isub ?_
        rw [show ((i + 1 + N.2.2 : Nat) : Int) - ((i + 1 : Nat) : Int) = ((N.2.2 : Nat) : Int) by omega, wrapN _ (by omega)]
        refine Ev.igt (fun e3 => ?_) (fun e3 => ?_)
        · have e3' : 24 < N.2.2 := by simp at e3; omega
          rw [if_pos e3'] at hne
          rw [if_neg (by rw [hne]; decide)] at hr
          cases hr
          refine yt ?_; refine ws ?_; refine wt fun _ _ => ?_; refine ws ?_
          refine Ev.ret ⟨⟨6, [], 0, (i : Int)⟩, Int.ofNat 0, ?_, fun he => ?_, dp⟩
          · show _ = DV.t [_, _, DV.i .i64 N.2.1]
            rw [hne]; rfl
          · have he : N.2.1 = 0 := he
            rw [hne] at he
            cases he
        · have e3' : ¬ 24 < N.2.2 := by simp at e3; omega
          rw [if_neg e3'] at hne
          rw [if_pos hne] at hr
          refine yj ?_
          unfold s38a8 s38a10
          have hdc : s.drop (i + 1 + N.2.2) = (s.drop (i + 1)).drop N.2.2 := by rw [List.drop_drop]
          rw [← hdc] at hr
          cases e4 : colonM (s.drop (i + 1 + N.2.2)) with
          | true =>
            rw [e4, if_pos rfl] at hr
            obtain ⟨r', hr', hr⟩ := Option.bind_eq_some_iff.1 hr
            cases hr
            refine (rsym_loop (p0 := (i : Int)) hs rfl (by first | assumption | exact tc_ones _ | (repeat (first | exact ones_nil | refine ones_cons (by first | rfl | assumption | exact Fz.one (by assumption)) ?_))) (i + 1) f 0 (i + 1 + N.2.2) _ _ r' S3 (by omega) (by omega) e4 (by rw [← hr', List.drop_drop, Nat.add_assoc (i + 1)])).mono ?_
            rintro v h' ⟨t, en, a1, a2, a3⟩
            refine ⟨t, en, a1, fun he => ?_, a3⟩
            obtain ⟨c1, c2⟩ := a2 he
            refine ⟨?_, ?_⟩
            · rw [c1]
              show (⟨6, _, 0, (i : Int)⟩ : Tok) = ⟨6, r'.1, 0, (i : Int)⟩
              have := k2 he
              have this : r'.1 = _ := this
              rw [this, List.drop_take]
              congr 2
              show i + 1 + N.2.2 + 1 + r'.2.2 - (i + 1) = r'.2.2 + (N.2.2 + 1)
              omega
            · rw [c2]
              show ((i + 1 + N.2.2 + 1 + r'.2.2 : Nat) : Int) = ((i + (r'.2.2 + (N.2.2 + 1) + 1) : Nat) : Int)
              omega
          | false =>
            rw [e4] at hr
            simp only [Bool.false_eq_true, if_false, Option.some.injEq] at hr
            subst hr
            refine Ev.loop 0 (ll := fun n m => s38a10l (shD n) n m (.s s) (.p b1 0) (.p b2 0) (.i .i64 ((i + 1 : Nat) : Int)) (.i .i64 ((i + 1 + N.2.2 : Nat) : Int)) h3) (bb := fun n m => s38a10b (shD n) n (s38a10l (shD n) n m) (.s s) (.p b1 0) (.p b2 0) (.i .i64 ((i + 1 : Nat) : Int)) (.i .i64 ((i + 1 + N.2.2 : Nat) : Int)) h3) (fun _ _ => rfl) ?_
            unfold s38a10b
            refine Ev.call (rcol_ok s hs _ (by omega) h3) ?_
            rintro _ _ ⟨rfl, hh⟩
            rw [hh]
            clear hh
            rw [e4]
            refine yj ?_
            refine (rsym_fin (p0 := (i : Int)) S3 rfl (by first | assumption | exact tc_ones _ | (repeat (first | exact ones_nil | refine ones_cons (by first | rfl | assumption | exact Fz.one (by assumption)) ?_))) (i + 1) (i + 1 + N.2.2) (by omega) (by omega)).mono ?_
            rintro v h' ⟨rfl, S'⟩
            refine ⟨_, _, rfl, fun _ => ⟨?_, ?_⟩, S'⟩
            · show (⟨6, _, 0, (i : Int)⟩ : Tok) = ⟨6, N.1, 0, (i : Int)⟩
              have := k2 rfl
              have this : N.1 = _ := this
              rw [this, List.drop_take]
              congr 2
              show i + 1 + N.2.2 - (i + 1) = N.2.2
              omega
            · show ((i + 1 + N.2.2 : Nat) : Int) = ((i + (N.2.2 + 1) : Nat) : Int)
              omega
  refine Ev.ilt (fun e1 => ?_) (fun e1 => ?_)
  · have e1' : i + 1 < s.length := by omega
    have hn0 : nx (s.drop (i + 1)) 0 = s[i + 1] := by rw [List.drop_eq_getElem_cons e1']; rfl
    refine zt ?_; refine wm ?_; refine zt ?_; refine wm ?_; refine zt ?_
    refine Ev.op (idxS (c := s[i + 1]) (by simp [e1']) _) ?_
    refine zt ?_
    refine Ev.ieq (fun e2 => ?_) (fun e2 => ?_)
    · have e2' : nx (s.drop (i + 1)) 0 = 40 := by rw [hn0]; simp at e2; omega
      rw [if_pos e2'] at hm
      cases hm
      refine ap ?_; refine yt ?_; refine wf ?_; refine wu fun _ _ => ?_; refine ws ?_
      refine Ev.iadd ?_
      rw [addN 1 (by omega)]
      refine wt fun _ _ => ?_; refine ws ?_
      refine Ev.ret ⟨⟨7, [], 0, (i : Int)⟩, _, rfl, fun _ => ⟨rfl, rfl⟩, dp⟩
    · have G := go (by rw [hn0]; simp at e2; omega)
      exact G
  · have G := go (by rw [List.drop_eq_nil_of_le (by omega)]; simp [nx])
    exact G

end
end Go.Dd

/- Dd, part U4: plain: a source of at most 2000 bytes has tokens, good ones, or is refused. -/
set_option linter.unusedVariables false
set_option linter.unusedSimpArgs false
set_option maxRecDepth 100000
namespace Go.Dd

theorem textD : ∀ (f : Nat) (out u : List Nat), u.length < f → ∃ res, textM f out u = some res ∧ res.2.2 ≤ u.length ∧ (res.2.1 = 0 → 1 ≤ res.2.2 ∧ res.1.length ≤ out.length + u.length)
  | 0, out, u, h => by omega
  | f + 1, out, u, h => by
    have hl := tw_le textB u
    unfold textM
    by_cases h1 : (u.takeWhile textB).length = u.length
    · rw [if_pos h1]
      exact ⟨_, rfl, Nat.le_refl _, fun e => by cases e⟩
    · rw [if_neg h1]
      by_cases h2 : nx u ((u.takeWhile textB).length + 1) = 39
      · rw [if_pos h2]
        have h3 : (u.takeWhile textB).length + 1 < u.length := by
          apply Decidable.byContradiction
          intro hn
          rw [nx, List.getD, List.getElem?_eq_none (by omega)] at h2
          cases h2
        obtain ⟨res, a1, a2, a3⟩ := textD f (out ++ u.takeWhile textB ++ [39]) (u.drop ((u.takeWhile textB).length + 2)) (by simp; omega)
        rw [a1]
        simp at a2
        refine ⟨_, rfl, by show res.2.2 + _ ≤ _; omega, fun e => ?_⟩
        obtain ⟨b1, b2⟩ := a3 e
        simp at b2
        refine ⟨by show 1 ≤ res.2.2 + _; omega, ?_⟩
        show res.1.length ≤ _
        omega
      · rw [if_neg h2]
        refine ⟨_, rfl, by show _ + 1 ≤ _; omega, fun _ => ⟨by show 1 ≤ _ + 1; omega, ?_⟩⟩
        show (out ++ u.takeWhile textB).length ≤ _
        simp
        omega

theorem symLD : ∀ (f : Nat) (out u : List Nat), u.length < f → ∃ res, symL f out u = some res
  | 0, out, u, h => by omega
  | f + 1, out, u, h => by
    unfold symL
    split
    · split
      · rename_i h1 h2
        split
        · have hc := colon_lt h2
          simp at hc
          obtain ⟨res, a1⟩ := symLD f (out ++ ((nameM u).1 ++ [58])) (u.drop ((nameM u).2.2 + 1)) (by simp; omega)
          rw [a1]
          exact ⟨_, rfl⟩
        · exact ⟨_, rfl⟩
      · exact ⟨_, rfl⟩
    · exact ⟨_, rfl⟩

theorem name_pos {u : List Nat} (h : letterB (nx u 0) = true) : 1 ≤ (nameM u).2.2 := by
  rw [nameM_len]
  cases u with
  | nil => simp [nx, letterB] at h
  | cons c u =>
    have : nameB c = true := by
      have : letterB c = true := h
      simp [nameB, this]
    simp [this]

theorem symbolD {f : Nat} {u : List Nat} (h : u.length < f) : ∃ res, symbolM f u = some res := by
  unfold symbolM
  split
  · split
    · split
      · split
        · obtain ⟨res, a1⟩ := symLD f ((nameM u).1 ++ [58]) (u.drop ((nameM u).2.2 + 1)) (by simp; omega)
          rw [a1]
          exact ⟨_, rfl⟩
        · exact ⟨_, rfl⟩
      · exact ⟨_, rfl⟩
    · exact ⟨_, rfl⟩
  · exact ⟨_, rfl⟩

theorem nx_ne {u : List Nat} {c : Nat} (h : nx u 0 = c) (hc : c ≠ 0) : 1 ≤ u.length := by
  cases u with
  | nil => exact absurd h.symm (by simpa [nx] using hc)
  | cons => simp

theorem run_pos {l : List Nat} {m : Nat} (hm : 1 ≤ m) {u : List Nat} (hu : u ≠ []) (h : inB l (nx u 0) = true) : 1 ≤ runN (inB l) m u := by
  obtain ⟨m, rfl⟩ : ∃ k, m = k + 1 := ⟨m - 1, by omega⟩
  cases u with
  | nil => exact absurd rfl hu
  | cons c u =>
    have : inB l c = true := h
    simp [runN, this]

/-- A token, or an error. -/
theorem tokenD {f : Nat} {u : List Nat} (hu : u ≠ []) (h : u.length < f) : ∃ res, tokenM f u = some res ∧ (res.2.2.2.1 = 0 → 1 ≤ res.2.2.2.2 ∧ res.2.2.2.2 ≤ u.length ∧ res.1 ≠ 0 ∧ res.2.1.length ≤ u.length) := by
  have hn := nameM_le u
  have hf := nameM_fit u
  have hpos : 1 ≤ u.length := by cases u with
    | nil => exact absurd rfl hu
    | cons => simp
  unfold tokenM
  by_cases h1 : letterB (nx u 0) = true
  · have hp := name_pos h1
    rw [if_pos h1]
    by_cases h2 : (nameM u).2.1 = 0
    · rw [if_pos h2]
      by_cases h3 : colonM (u.drop (nameM u).2.2) = true
      · rw [if_pos h3]
        have hc := colon_lt h3
        simp at hc
        refine ⟨_, rfl, fun _ => ⟨by show 1 ≤ _ + 1; omega, by show _ + 1 ≤ _; omega, by show (2 : Int) ≠ 0; decide, ?_⟩⟩
        show ((nameM u).1 ++ [58]).length ≤ _
        simp; omega
      · rw [if_neg h3]
        exact ⟨_, rfl, fun _ => ⟨hp, hn, by show (1 : Int) ≠ 0; decide, by show (nameM u).1.length ≤ _; omega⟩⟩
    · rw [if_neg h2]
      exact ⟨_, rfl, fun e => absurd e h2⟩
  · rw [if_neg h1]
    by_cases h2 : digitB (nx u 0) = true
    · rw [if_pos h2]
      have hl := tw_le digitB u
      refine ⟨_, rfl, fun _ => ⟨?_, hl, by show (4 : Int) ≠ 0; decide, by simp⟩⟩
      show 1 ≤ (u.takeWhile digitB).length
      cases u with
      | nil => exact absurd rfl hu
      | cons c u =>
        have : digitB c = true := h2
        simp [this]
    · rw [if_neg h2]
      by_cases h3 : nx u 0 = 39
      · rw [if_pos h3]
        obtain ⟨res, a1, a2, a3⟩ := textD f [] (u.drop 1) (by simp; omega)
        rw [a1]
        simp at a2
        refine ⟨_, rfl, fun e => ?_⟩
        obtain ⟨b1, b2⟩ := a3 e
        simp at b2
        exact ⟨by show 1 ≤ res.2.2 + 1; omega, by show res.2.2 + 1 ≤ _; omega, by show (5 : Int) ≠ 0; decide, by show res.1.length ≤ _; omega⟩
      · rw [if_neg h3]
        by_cases h4 : nx u 0 = 35
        · rw [if_pos h4]
          by_cases h5 : nx u 1 = 40
          · rw [if_pos h5]
            have : 1 < u.length := by
              apply Decidable.byContradiction
              intro hn
              rw [nx, List.getD, List.getElem?_eq_none (by omega)] at h5
              cases h5
            exact ⟨_, rfl, fun _ => ⟨by show 1 ≤ 2; omega, by show 2 ≤ _; omega, by show (7 : Int) ≠ 0; decide, by simp⟩⟩
          · rw [if_neg h5]
            obtain ⟨res, a1⟩ := symbolD (f := f) (u := u.drop 1) (by simp; omega)
            obtain ⟨b1, b2⟩ := symbolM_take a1
            rw [a1]
            simp at b1
            refine ⟨_, rfl, fun e => ⟨by show 1 ≤ res.2.2 + 1; omega, by show res.2.2 + 1 ≤ _; omega, by show (6 : Int) ≠ 0; decide, ?_⟩⟩
            show res.1.length ≤ _
            rw [b2 e]
            simp; omega
        · rw [if_neg h4]
          by_cases h5 : nx u 0 = 58 ∧ nx u 1 = 61
          · rw [if_pos h5]
            have : 1 < u.length := by
              apply Decidable.byContradiction
              intro hn
              have := h5.2
              rw [nx, List.getD, List.getElem?_eq_none (by omega)] at this
              cases this
            exact ⟨_, rfl, fun _ => ⟨by show 1 ≤ 2; omega, by show 2 ≤ _; omega, by show (9 : Int) ≠ 0; decide, by simp⟩⟩
          · rw [if_neg h5]
            by_cases h6 : nx u 0 = 58 ∧ letterB (nx u 1) = true
            · rw [if_pos h6]
              have n1 := nameM_le (u.drop 1)
              have n2 := nameM_fit (u.drop 1)
              rw [List.length_drop] at n1
              exact ⟨_, rfl, fun _ => ⟨by show 1 ≤ _ + 1; omega, by show _ + 1 ≤ _; omega, by show (8 : Int) ≠ 0; decide, by show (nameM (u.drop 1)).1.length ≤ _; omega⟩⟩
            · rw [if_neg h6]
              by_cases h7 : inB signs (nx u 0) = true
              · rw [if_pos h7]
                have r1 := run_pos (m := 2) (by omega) hu h7
                have r2 := runN_le (inB signs) 2 u
                refine ⟨_, rfl, fun _ => ⟨r1, r2, by show (3 : Int) ≠ 0; decide, ?_⟩⟩
                show (u.take _).length ≤ _
                simp; omega
              · rw [if_neg h7]
                by_cases h8 : inB marks (nx u 0) = true
                · rw [if_pos h8]
                  have r1 := run_pos (m := 1) (by omega) hu h8
                  have r2 := runN_le (inB marks) 1 u
                  refine ⟨_, rfl, fun _ => ⟨r1, r2, by show (10 : Int) ≠ 0; decide, ?_⟩⟩
                  show (u.take _).length ≤ _
                  simp; omega
                · rw [if_neg h8]
                  exact ⟨_, rfl, fun e => (by cases e)⟩

theorem toksD {g : Nat} {s : List Nat} (hg : s.length < g) (hs : s.length ≤ 10000) : ∀ (f i : Nat) (out : List Tok), i ≤ s.length → s.length < f + i → ∃ res, toksM g s f i out = some res ∧
    (res.2.2 = 0 → ∃ l e, res.1 = out ++ l ++ [e] ∧ e.kind = 0 ∧ e.text = [] ∧ (∀ t ∈ l, t.kind ≠ 0 ∧ t.text.length ≤ 10000) ∧ l.length + i ≤ s.length)
  | 0, i, out, hi, hf => by omega
  | f + 1, i, out, hi, hf => by
    unfold toksM
    have hle := tw_le (inB blanks) (s.drop i)
    have hdl : (s.drop i).length = s.length - i := by simp
    generalize hw : ((s.drop i).takeWhile (inB blanks)).length = w at hle
    by_cases h1 : s.length ≤ i + w
    · rw [if_pos h1]
      exact ⟨_, rfl, fun _ => ⟨[], _, by simp; rfl, rfl, rfl, by simp, by simp; omega⟩⟩
    · rw [if_neg h1]
      by_cases h2 : nx s (i + w) = 34
      · rw [if_pos h2]
        by_cases h3 : idxGo 34 (s.drop (i + w + 1)) 0 < 0
        · rw [if_pos h3]
          exact ⟨_, rfl, fun e => (by cases e)⟩
        · rw [if_neg h3]
          obtain ⟨k, k1, k2⟩ := idxGo_lt 34 _ _ h3
          rw [k2]
          simp at k1
          simp only [Nat.zero_add, Int.toNat_natCast]
          obtain ⟨res, a1, a2⟩ := toksD hg hs f (i + w + k + 2) out (by omega) (by omega)
          refine ⟨res, a1, fun e => ?_⟩
          obtain ⟨l, e', b1, b2, b3, b4, b5⟩ := a2 e
          exact ⟨l, e', b1, b2, b3, b4, by omega⟩
      · rw [if_neg h2]
        have hu : s.drop (i + w) ≠ [] := by
          intro h
          have := congrArg List.length h
          simp at this
          omega
        obtain ⟨rs, c1, c2⟩ := tokenD (f := g) hu (by simp; omega)
        rw [c1]
        simp only [Option.bind_some]
        by_cases h4 : rs.2.2.2.1 = 0
        · rw [if_pos h4]
          obtain ⟨d1, d2, d3, d4⟩ := c2 h4
          rw [if_neg (by omega)]
          simp at d2 d4
          obtain ⟨res, a1, a2⟩ := toksD hg hs f (i + w + rs.2.2.2.2) (out ++ [⟨rs.1, rs.2.1, rs.2.2.1, ((i + w : Nat) : Int)⟩]) (by omega) (by omega)
          refine ⟨res, a1, fun e => ?_⟩
          obtain ⟨l, e', b1, b2, b3, b4, b5⟩ := a2 e
          refine ⟨⟨rs.1, rs.2.1, rs.2.2.1, ((i + w : Nat) : Int)⟩ :: l, e', by rw [b1]; simp, b2, b3, ?_, by simp; omega⟩
          intro t ht
          rcases List.mem_cons.1 ht with rfl | ht
          · exact ⟨d3, by show rs.2.1.length ≤ _; omega⟩
          · exact b4 t ht
        · rw [if_neg h4]
          exact ⟨_, rfl, fun e => absurd e h4⟩

/-- The tokens of a source. -/
theorem lexD {s : List Nat} (hs : s.length ≤ 2000) : ∃ res, lexM 2001 2001 s = some res ∧ (res.2.2 = 0 → Good res.1 ∧ res.1.length ≤ 2001) := by
  unfold lexM
  rw [if_neg (by omega)]
  obtain ⟨res, a1, a2⟩ := toksD (g := 2001) (s := s) (by omega) (by omega) 2001 0 [] (by omega) (by omega)
  refine ⟨res, a1, fun e => ?_⟩
  obtain ⟨l, e', b1, b2, b3, b4, b5⟩ := a2 e
  rw [b1]
  simp only [List.nil_append]
  refine ⟨⟨l, e', rfl, b2, fun t ht => (b4 t ht).1, fun t ht => ?_⟩, by simp; omega⟩
  rcases List.mem_append.1 ht with ht | ht
  · exact (b4 t ht).2
  · simp at ht
    subst ht
    rw [b3]; simp

end Go.Dd

/- Dd, part T19: the document's lexer: a token, all tokens: they are the program's. -/
set_option linter.unusedVariables false
set_option linter.unusedSimpArgs false
set_option maxRecDepth 100000
namespace Go.Dd
open Go.Proofs

theorem atZ2 (u : List Nat) : atZ u = 2 ↔ ∃ c v, u = c :: v ∧ digitB c = true := by
  cases u with
  | nil => simp [atZ]
  | cons c u =>
    have := kind2 c
    constructor
    · intro h
      exact ⟨c, u, rfl, this.1 (by simp only [atZ] at h; omega)⟩
    · rintro ⟨c', v, e, h⟩
      cases e
      simp only [atZ]
      rw [this.2 h]; rfl

/-- One digit more. -/
theorem numGo_cons (n : Int) (c : Nat) (w : List Nat) (h0 : 0 ≤ n) (hn : n ≤ 1152921504606846976) (hc : digitB c = true) :
    numGo n (c :: w) = if 1152921504606846976 < 10 * n + ((c : Int) - 48) then (0, 2) else numGo (10 * n + ((c : Int) - 48)) w := by
  simp [digitB] at hc
  have e0 : numGo n (c :: w) = if 115292150460684697 < n then (0, 2) else if 1152921504606846976 < n * 10 + ((c : Int) - 48) then (0, 2) else numGo (n * 10 + ((c : Int) - 48)) w := rfl
  rw [e0]
  have e : n * 10 + ((c : Int) - 48) = 10 * n + ((c : Int) - 48) := by omega
  rw [e]
  by_cases h1 : (115292150460684697 : Int) < n
  · rw [if_pos h1, if_pos (by omega)]
  · rw [if_neg h1]

section
variable {I : Im} {A Q L : Ls} {s : List Nat} {b4 b7 : Pos} {z : List DV}

theorem rnum_loop (hs : s.length ≤ lim) (z1 : z.length = 4) (z2 : ∀ v ∈ z, v.one = true) {p0 : Int} : ∀ (u : List Nat) (j i : Nat) (h : Hp) (x : Int), s.drop i = u → i ≤ s.length → 0 ≤ x → x ≤ 1152921504606846976 →
    Sy I A Q ((b7, some (.row .ex [.i .i64 4, .s [], .i .i64 x, .i .i64 p0])) :: (b4, some (.row .ex z)) :: L) h →
    Ev (fun n => s20a16l (shD n) n (n - j) (.s s) (.i .i64 (i : Int)) (.p b4 0) (.p b7 0) h)
      (fun v h' => ∃ t en, v = .t [.a (tc t), .i .i64 en, .i .i64 (numGo x (u.takeWhile digitB)).2] ∧ ((numGo x (u.takeWhile digitB)).2 = 0 → t = ⟨4, [], (numGo x (u.takeWhile digitB)).1, p0⟩ ∧ en = ((i + (u.takeWhile digitB).length : Nat) : Int)) ∧ Sy I A Q L h') := by
  intro u
  have hs' := hs
  simp only [lim] at hs'
  induction u with
  | nil =>
    intro j i h x hu hi h0 h1 S
    refine Ev.loop j (ll := fun n m => s20a16l (shD n) n m (.s s) (.i .i64 (i : Int)) (.p b4 0) (.p b7 0) h) (bb := fun n m => s20a16b (shD n) n (s20a16l (shD n) n m) (.s s) (.i .i64 (i : Int)) (.p b4 0) (.p b7 0) h) (fun _ _ => rfl) ?_
    unfold s20a16b s20a15
    refine Ev.call (at_ok s i h) ?_
    rintro _ _ ⟨rfl, hh⟩
    rw [hh, hu]
    clear hh
    refine Ev.ieq (fun e1 => absurd e1 (by decide)) (fun e1 => ?_)
    refine yj ?_; refine ws ?_; refine wt fun _ _ => ?_; refine ws ?_
    exact Ev.ret ⟨⟨4, [], x, p0⟩, _, rfl, fun _ => ⟨rfl, rfl⟩, dp⟩
  | cons c u ih =>
    intro j i h x hu hi h0 h1 S
    have hlt : i < s.length := by
      have := congrArg List.length hu
      simp at this
      omega
    have hu' : s.drop (i + 1) = u := by rw [← List.drop_drop, hu]; rfl
    have hc : s[i] = c := by
      rw [List.drop_eq_getElem_cons hlt] at hu
      exact (List.cons.inj hu).1
    refine Ev.loop j (ll := fun n m => s20a16l (shD n) n m (.s s) (.i .i64 (i : Int)) (.p b4 0) (.p b7 0) h) (bb := fun n m => s20a16b (shD n) n (s20a16l (shD n) n m) (.s s) (.i .i64 (i : Int)) (.p b4 0) (.p b7 0) h) (fun _ _ => rfl) ?_
    unfold s20a16b s20a15
    refine Ev.call (at_ok s i h) ?_
    rintro _ _ ⟨rfl, hh⟩
    rw [hh, hu]
    clear hh
    refine Ev.ieq (fun e1 => ?_) (fun e1 => ?_)
    · obtain ⟨c', v', e, hd⟩ := (atZ2 _).1 e1
      cases e
      have hd' := hd
      simp [digitB] at hd'
      have tw : (c :: u).takeWhile digitB = c :: u.takeWhile digitB := by simp [hd]
      rw [tw, numGo_cons x c _ h0 h1 hd]
      refine yt ?_
      refine Ev.op (idxS (c := c) (by simp [hlt, hc]) _) ?_
      refine Ev.isub ?_
      have a2 : IntKind.u8.wrap (Int.ofNat c - Int.ofNat 48) = (c : Int) - 48 := by
        show IntKind.u8.wrap ((c : Int) - 48) = _
        unfold IntKind.wrap
        simp [IntKind.bits, IntKind.signed, IntKind.min, IntKind.max]
        omega
      have a3 : ∀ h, pConvI .i64 (.i .u8 ((c : Int) - 48)) h = some (.i .i64 ((c : Int) - 48), h) := fun h => by
        show some (DV.i .i64 (IntKind.i64.wrap ((c : Int) - 48)), h) = _
        rw [wrap64s _ (by omega) (by omega)]
      rw [a2]
      refine Ev.op (a3 _) ?_
      refine wf ?_; refine wl ?_
      refine Ev.isub ?_
      rw [wrap64s (Int.ofNat 1152921504606846976 - ((c : Int) - 48)) (by show -9223372036854775808 ≤ (1152921504606846976 : Int) - ((c : Int) - 48); omega) (by show (1152921504606846976 : Int) - ((c : Int) - 48) ≤ _; omega)]
      have a4 : ∀ h, pInt .quo (.i .i64 (Int.ofNat 1152921504606846976 - ((c : Int) - 48))) (.i .i64 (Int.ofNat 10)) h = some (.i .i64 (((1152921504606846976 : Int) - ((c : Int) - 48)) / 10), h) := fun h => by
        refine pInt_eq .quo _ ?_
        show (if Int.ofNat 10 = 0 then none else some (DV.i .i64 (IntKind.i64.wrap ((Int.ofNat 1152921504606846976 - ((c : Int) - 48)).tdiv (Int.ofNat 10))))) = _
        rw [if_neg (by decide)]
        have e5 : (Int.ofNat 1152921504606846976 - ((c : Int) - 48)).tdiv (Int.ofNat 10) = ((1152921504606846976 : Int) - ((c : Int) - 48)) / 10 := by
          show ((1152921504606846976 : Int) - ((c : Int) - 48)).tdiv 10 = _
          rw [Int.tdiv_eq_ediv_of_nonneg (by omega)]
        rw [e5, wrap64s _ (by omega) (by omega)]
      refine Ev.op (a4 _) ?_
      refine Ev.igt (fun e2 => ?_) (fun e2 => ?_)
      · rw [if_pos (by omega)]
        refine yt ?_; refine ws ?_; refine wt fun _ _ => ?_; refine ws ?_
        exact Ev.ret ⟨⟨4, [], x, p0⟩, _, rfl, fun he => (by cases he), dp⟩
      · rw [if_neg (by omega)]
        refine yj ?_; refine wf ?_; refine wl ?_
        refine Ev.imul ?_
        rw [wrap64s (Int.ofNat 10 * x) (by show -9223372036854775808 ≤ 10 * x; omega) (by show 10 * x ≤ _; omega)]
        refine Ev.iadd ?_
        rw [wrap64s (Int.ofNat 10 * x + ((c : Int) - 48)) (by show -9223372036854775808 ≤ 10 * x + ((c : Int) - 48); omega) (by show 10 * x + ((c : Int) - 48) ≤ _; omega)]
        refine wf ?_; refine wu fun _ _ => ?_
        refine Ev.iadd ?_
        rw [addN 1 (by omega)]
        refine (ih (j + 1) (i + 1) _ (10 * x + ((c : Int) - 48)) hu' (by omega) (by omega) (by omega) (by assumption)).mono ?_
        rintro v h' ⟨t, en, b1, b2, b3⟩
        refine ⟨t, en, b1, fun he => ?_, b3⟩
        obtain ⟨d1, d2⟩ := b2 he
        refine ⟨d1, ?_⟩
        rw [d2]
        simp only [List.length_cons]
        omega
    · have hd : digitB c = false := by
        cases e : digitB c with
        | false => rfl
        | true => exact absurd ((atZ2 _).2 ⟨c, u, rfl, e⟩) e1
      have tw : (c :: u).takeWhile digitB = [] := by simp [hd]
      rw [tw]
      refine yj ?_; refine ws ?_; refine wt fun _ _ => ?_; refine ws ?_
      exact Ev.ret ⟨⟨4, [], x, p0⟩, _, rfl, fun _ => ⟨rfl, rfl⟩, dp⟩

theorem rtok_ok {h : Hp} (S : Sy I A Q L h) (hs : s.length ≤ lim) {i : Nat} (hi : i < s.length) (f : Nat) (res : Int × List Nat × Int × Int × Nat) (hm : tokenM f (s.drop i) = some res) :
    Ev (fun n => shD n 20 [.s s, .i .i64 (i : Int)] h) (KPost I A Q L res i) := by
  refine Ev.enter (fun n => enter20 n _ _ h) ?_
  unfold tokenM at hm
  unfold s20 s20a1
  refine wa fun _ _ _ => ?_; refine wd ?_; refine wa fun _ _ _ => ?_; refine wt fun _ _ => ?_
  rename_i b4 h4 S4 b7 h7 S7 h0 S0
  unfold s20a2
  have hd : (s.drop i).length = s.length - i := by simp
  have hs' := hs
  simp only [lim] at hs'
  have hcd : s.drop i = s[i] :: s.drop (i + 1) := List.drop_eq_getElem_cons hi
  have hn0 : nx (s.drop i) 0 = s[i] := by rw [hcd]; rfl
  have hat : atZ (s.drop i) = (kindN s[i] : Int) := by rw [hcd]; rfl
  have hdd1 : s.drop (i + 1) = (s.drop i).drop 1 := by rw [List.drop_drop]
  have hidx : s[i]? = some s[i] := by simp [hi]
  refine Ev.call (at_ok s i h0) ?_
  rintro _ _ ⟨rfl, hh⟩
  rw [hh, hat]
  clear hh
  unfold s20a3
  refine Ev.ieq (fun e1 => ?_) (fun e1 => ?_)
  · have e1' : letterB s[i] = true := (kind1 _).1 (by simp at e1; omega)
    rw [if_pos (by rw [hn0]; exact e1')] at hm
    unfold s20a17
    refine yt ?_
    unfold s20a18
    refine Ev.call (nend_ok s hs i (by omega) _) ?_
    rintro _ _ ⟨rfl, hh⟩
    rw [hh]
    clear hh
    have hnl := nameM_le (s.drop i)
    have hne := nameM_err (s.drop i)
    have hnt := nameM_take (u := s.drop i)
    have hnl2 := nameM_len (s.drop i)
    rw [← hnl2] at hne ⊢
    generalize hN : nameM (s.drop i) = N at hm hnl hne hnt ⊢
    unfold s20a19
    refine Ev.isub ?_
    rw [show ((i + N.2.2 : Nat) : Int) - (i : Int) = ((N.2.2 : Nat) : Int) by omega, wrapN _ (by omega)]
    refine Ev.igt (fun e3 => ?_) (fun e3 => ?_)
    · have e3' : 24 < N.2.2 := by simp at e3; omega
      rw [if_pos e3'] at hne
      rw [if_neg (by rw [hne]; decide)] at hm
      cases hm
      refine yt ?_; refine ws ?_; refine wt fun _ _ => ?_; refine ws ?_
      refine Ev.ret ⟨⟨0, [], 0, (i : Int)⟩, Int.ofNat 0, ?_, fun he => ?_, dp⟩
      · show _ = DV.t [_, _, DV.i .i64 N.2.1]
        rw [hne]; rfl
      · have he : N.2.1 = 0 := he
        rw [hne] at he
        cases he
    · have e3' : ¬ 24 < N.2.2 := by simp at e3; omega
      rw [if_neg e3'] at hne
      rw [if_pos hne] at hm
      refine yj ?_
      unfold s20a20
      refine wf ?_; refine wu fun _ _ => ?_
      unfold s20a21
      refine Ev.call (rcol_ok s hs (i + N.2.2) (by omega) _) ?_
      rintro _ _ ⟨rfl, hh⟩
      rw [hh]
      clear hh
      have hdd : s.drop (i + N.2.2) = (s.drop i).drop N.2.2 := by rw [List.drop_drop]
      rw [← hdd] at hm
      cases e4 : colonM (s.drop (i + N.2.2)) with
      | true =>
        rw [e4, if_pos rfl] at hm
        cases hm
        have hcl := colon_lt e4
        have hcl' : i + N.2.2 + 1 ≤ s.length := by simp at hcl; omega
        refine yt ?_; refine wf ?_; refine wu fun _ _ => ?_
        refine Ev.iadd ?_
        rw [addN 1 (by omega)]
        unfold s20a22
        refine Ev.op (cutS (by omega) hcl' _) ?_
        refine wf ?_; refine wu fun _ _ => ?_; refine ws ?_; refine wt fun _ _ => ?_; refine ws ?_
        refine Ev.ret ⟨⟨2, (s.take (i + N.2.2 + 1)).drop i, 0, (i : Int)⟩, _, rfl, fun _ => ⟨?_, ?_⟩, dp⟩
        · show (⟨2, _, 0, (i : Int)⟩ : Tok) = ⟨2, N.1 ++ [58], 0, (i : Int)⟩
          rw [List.drop_take, show i + N.2.2 + 1 - i = N.2.2 + 1 by omega, take_colon (by rw [← hdd]; exact e4), ← hnt hne]
        · show ((i + N.2.2 + 1 : Nat) : Int) = ((i + (N.2.2 + 1) : Nat) : Int)
          omega
      | false =>
        rw [e4] at hm
        simp only [Bool.false_eq_true, if_false, Option.some.injEq] at hm
        subst hm
        refine yj ?_
        unfold s20a22
        refine Ev.op (cutS (by omega) (by omega) _) ?_
        refine wf ?_; refine wu fun _ _ => ?_; refine ws ?_; refine wt fun _ _ => ?_; refine ws ?_
        refine Ev.ret ⟨⟨1, (s.take (i + N.2.2)).drop i, 0, (i : Int)⟩, _, rfl, fun _ => ⟨?_, rfl⟩, dp⟩
        show (⟨1, _, 0, (i : Int)⟩ : Tok) = ⟨1, N.1, 0, (i : Int)⟩
        rw [List.drop_take, show i + N.2.2 - i = N.2.2 by omega, ← hnt hne]
  have e1' : letterB s[i] = false := by
    cases e : letterB s[i] with
    | false => rfl
    | true => exact absurd (by rw [(kind1 _).2 e]; rfl) e1
  rw [if_neg (by rw [hn0, e1']; simp)] at hm
  unfold s20a17
  refine yj ?_
  unfold s20a4
  refine Ev.ieq (fun e2 => ?_) (fun e2 => ?_)
  · have e2' : digitB s[i] = true := (kind2 _).1 (by simp at e2; omega)
    rw [if_pos (by rw [hn0]; exact e2')] at hm
    cases hm
    unfold s20a12
    refine yt ?_
    unfold s20a13
    refine wf ?_; refine wu fun _ _ => ?_
    unfold s20a14 s20a16
    rename_i hq Sq
    refine (rnum_loop (b4 := b4) (b7 := b7) (p0 := (i : Int)) (z := [.i .i64 (Int.ofNat 0), .s [], .i .i64 (Int.ofNat 0), .i .i64 (Int.ofNat 0)]) hs rfl (by first | assumption | exact tc_ones _ | (repeat (first | exact ones_nil | refine ones_cons (by first | rfl | assumption | exact Fz.one (by assumption)) ?_))) (s.drop i) 0 i hq 0 rfl (by omega) (by omega) (by omega) Sq).mono ?_
    rintro v h' ⟨t, en, a1, a2, a3⟩
    exact ⟨t, en, a1, a2, a3⟩
  have e2' : digitB s[i] = false := by
    cases e : digitB s[i] with
    | false => rfl
    | true => exact absurd (by rw [(kind2 _).2 e]; rfl) e2
  rw [if_neg (by rw [hn0, e2']; simp)] at hm
  unfold s20a12
  refine yj ?_
  unfold s20a5
  have hsg : ∀ c, inB signs c = true → ¬ c = 39 ∧ ¬ c = 35 ∧ ¬ c = 58 := by
    intro c h
    have h2 : c = 43 ∨ c = 45 ∨ c = 42 ∨ c = 47 ∨ c = 60 ∨ c = 62 ∨ c = 61 ∨ c = 126 ∨ c = 44 ∨ c = 64 ∨ c = 38 ∨ c = 37 := by simpa [inB, signs] using h
    omega
  have hmk : ∀ c, inB marks c = true → ¬ c = 39 ∧ ¬ c = 35 ∧ ¬ c = 58 ∧ inB signs c = false := by
    intro c h
    have h2 : c = 94 ∨ c = 46 ∨ c = 59 ∨ c = 40 ∨ c = 41 ∨ c = 91 ∨ c = 93 ∨ c = 124 := by simpa [inB, marks] using h
    refine ⟨by omega, by omega, by omega, ?_⟩
    rcases h2 with rfl | rfl | rfl | rfl | rfl | rfl | rfl | rfl <;> rfl
  refine Ev.ieq (fun e3 => ?_) (fun e3 => ?_)
  · have e3' : inB signs s[i] = true := (kind3 _).1 (by simp at e3; omega)
    obtain ⟨q1, q2, q3⟩ := hsg _ e3'
    rw [hn0, if_neg q1, if_neg q2, if_neg (fun q => q3 q.1), if_neg (fun q => q3 q.1), if_pos e3'] at hm
    cases hm
    unfold s20a7
    refine yt ?_
    unfold s20a8
    refine wf ?_; refine wu fun _ _ => ?_
    rename_i h5 S5
    unfold s20a9
    refine Ev.iadd ?_
    rw [addN 1 (by omega)]
    unfold s20a10
    refine Ev.call (at_ok s (i + 1) _) ?_
    rintro _ _ ⟨rfl, hh⟩
    rw [hh]
    clear hh
    have g3 := (run_signs (s.drop i)).1 (by rw [hat, (kind3 _).2 e3']; rfl)
    have hl0 := runN_le (inB signs) 2 (s.drop i)
    have fin : ∀ e, e = i + runN (inB signs) 2 (s.drop i) → Ev (fun n => s20a11 (shD n) n (.s s) (.i .i64 (i : Int)) (.p b4 0) (.p b7 0) (.i .i64 (e : Int)) h5) (KPost I A Q L (3, (s.drop i).take (runN (inB signs) 2 (s.drop i)), 0, 0, runN (inB signs) 2 (s.drop i)) i) := by
      intro e he
      unfold s20a11
      refine Ev.op (cutS (by omega) (by omega) _) ?_
      refine wf ?_; refine wu fun _ _ => ?_; refine ws ?_; refine wt fun _ _ => ?_; refine ws ?_
      refine Ev.ret ⟨⟨3, (s.take e).drop i, 0, (i : Int)⟩, (e : Int), rfl, fun _ => ⟨?_, ?_⟩, dp⟩
      · show (⟨3, (s.take e).drop i, 0, (i : Int)⟩ : Tok) = ⟨3, (s.drop i).take _, 0, (i : Int)⟩
        rw [List.drop_take, he, Nat.add_sub_cancel_left]
      · show (e : Int) = ((i + _ : Nat) : Int)
        rw [he]
    refine Ev.ieq (fun e4 => ?_) (fun e4 => ?_)
    · rw [if_pos (show atZ ((s.drop i).drop 1) = 3 by rw [← hdd1]; exact e4)] at g3
      refine yt ?_
      refine Ev.iadd ?_
      rw [addN 1 (by omega)]
      exact fin (i + 1 + 1) (by omega)
    · rw [if_neg (show ¬ atZ ((s.drop i).drop 1) = 3 by rw [← hdd1]; exact e4)] at g3
      refine yj ?_
      exact fin (i + 1) (by omega)
  have e3' : inB signs s[i] = false := by
    cases e : inB signs s[i] with
    | false => rfl
    | true => exact absurd (by rw [(kind3 _).2 e]; rfl) e3
  unfold s20a7
  refine yj ?_
  unfold s20a6
  refine Ev.ieq (fun e4 => ?_) (fun e4 => ?_)
  · have e4' : inB marks s[i] = true := (kind4 _).1 (by simp at e4; omega)
    obtain ⟨q1, q2, q3, q4⟩ := hmk _ e4'
    rw [hn0, if_neg q1, if_neg q2, if_neg (fun q => q3 q.1), if_neg (fun q => q3 q.1), if_neg (by rw [q4]; simp), if_pos e4'] at hm
    cases hm
    have hr1 : runN (inB marks) 1 (s.drop i) = 1 := by rw [hcd]; simp [runN, e4']
    rw [hr1]
    refine yt ?_; refine wf ?_; refine wu fun _ _ => ?_
    refine Ev.iadd ?_
    rw [addN 1 (by omega)]
    refine Ev.op (cutS (by omega) (by omega) _) ?_
    refine wf ?_; refine wu fun _ _ => ?_; refine ws ?_
    refine Ev.iadd ?_
    rw [addN 1 (by omega)]
    refine wt fun _ _ => ?_; refine ws ?_
    refine Ev.ret ⟨⟨10, (s.take (i + 1)).drop i, 0, (i : Int)⟩, _, rfl, fun _ => ⟨?_, rfl⟩, dp⟩
    show (⟨10, _, 0, (i : Int)⟩ : Tok) = ⟨10, (s.drop i).take 1, 0, (i : Int)⟩
    rw [List.drop_take, Nat.add_sub_cancel_left]
  have e4' : inB marks s[i] = false := by
    cases e : inB marks s[i] with
    | false => rfl
    | true => exact absurd (by rw [(kind4 _).2 e]; rfl) e4
  refine yj ?_
  refine Ev.op (idxS hidx _) ?_
  refine Ev.ieq (fun e5 => ?_) (fun e5 => ?_)
  · have e5' : s[i] = 39 := by simp at e5; omega
    rw [if_pos (by rw [hn0]; exact e5')] at hm
    obtain ⟨r, hr, hm⟩ := Option.bind_eq_some_iff.1 hm
    cases hm
    refine yt ?_; refine wf ?_; refine wu fun _ _ => ?_; refine ws ?_
    refine Ev.call (rtext_ok (k0 := 5) (m0 := 0) (by assumption) hs hi f r (by rw [hdd1]; exact hr)) ?_
    rintro _ _ ⟨t, en, rfl, a2, S5⟩
    refine wx ?_; refine wx ?_; refine wx ?_; refine wt fun _ _ => ?_; refine ws ?_
    refine Ev.ret ⟨t, en, rfl, fun he => ?_, dp⟩
    obtain ⟨d1, d2⟩ := a2 he
    refine ⟨d1, ?_⟩
    rw [d2]
    show ((i + 1 + r.2.2 : Nat) : Int) = ((i + (r.2.2 + 1) : Nat) : Int)
    omega
  rw [if_neg (by rw [hn0]; simp at e5; omega)] at hm
  refine yj ?_
  refine Ev.op (idxS hidx _) ?_
  refine Ev.ieq (fun e6 => ?_) (fun e6 => ?_)
  · have e6' : s[i] = 35 := by simp at e6; omega
    rw [if_pos (by rw [hn0]; exact e6')] at hm
    refine yt ?_; refine ws ?_
    refine Ev.call (rsym_ok (by assumption) hs hi f res hm) ?_
    rintro _ _ ⟨t, en, rfl, a2, S5⟩
    refine wx ?_; refine wx ?_; refine wx ?_; refine wt fun _ _ => ?_; refine ws ?_
    exact Ev.ret ⟨t, en, rfl, a2, dp⟩
  rw [if_neg (by rw [hn0]; simp at e6; omega)] at hm
  refine yj ?_
  refine Ev.op (idxS hidx _) ?_
  have bad : ¬ (nx (s.drop i) 0 = 58 ∧ nx (s.drop i) 1 = 61) → ¬ (nx (s.drop i) 0 = 58 ∧ letterB (nx (s.drop i) 1) = true) → res = (0, [], 0, 10, 0) := fun n1 n2 => by
    rw [if_neg n1, if_neg n2, if_neg (by rw [hn0, e3']; simp), if_neg (by rw [hn0, e4']; simp)] at hm
    cases hm
    rfl
  refine Ev.ieq (fun e7 => ?_) (fun e7 => ?_)
  · have e7' : nx (s.drop i) 0 = 58 := by rw [hn0]; simp at e7; omega
    refine zt ?_; refine wm ?_; refine zt ?_
    refine Ev.iadd ?_
    rw [addN 1 (by omega)]
    refine zt ?_; refine wm ?_; refine zt ?_
    refine Ev.lenS ?_
    refine zt ?_
    have hn1 : nx (s.drop i) 1 = nx (s.drop (i + 1)) 0 := by simp [nx, List.getD, List.getElem?_drop]
    have rest : ¬ nx (s.drop i) 1 = 61 → Ev (fun n => bnd (pIndexS (.s s) (.i .i64 (i : Int)) h0) fun v52 h52 =>
          bnd (pInt .eql v52 (.i .u8 (Int.ofNat 58)) h52) fun v53 h53 =>
          bnd (gD v53 true (some (.s s, h53)) h53) fun v54 h54 =>
          bnd (gD v53 true (some (.i .i64 (i : Int), h54)) h54) fun v55 h55 =>
          bnd (gD v53 true (pInt .add v55 (.i .i64 (Int.ofNat 1)) h55) h55) fun v56 h56 =>
          bnd (gD v53 true (shD n 34 [v54, v56] h56) h56) fun v57 h57 =>
          bnd (gD v53 true (pInt .eql v57 (.i .i64 (Int.ofNat 1)) h57) h57) fun v58 h58 =>
          bnd (pPick v53 v58 (.b false) h58) fun v59 h59 =>
          ifD v59 (
            bnd (pInt .add (.i .i64 (i : Int)) (.i .i64 (Int.ofNat 1)) h59) fun v60 h60 =>
            bnd (shD n 35 [.s s, v60] h60) fun v61 h61 =>
            bnd (pInt .sub v61 (.i .i64 (i : Int)) h61) fun v62 h62 =>
            bnd (pInt .sub v62 (.i .i64 (Int.ofNat 1)) h62) fun v63 h63 =>
            bnd (pInt .gtr v63 (.i .i64 (Int.ofNat 24)) h63) fun v64 h64 =>
            ifD v64 (
              bnd (pLoadA 4 (.p b7 0) h64) fun v65 h65 =>
              bnd (pStore 4 (.p b4 0) v65 h65) fun _ h66 =>
              bnd (pLoadA 4 (.p b4 0) h66) fun v67 _ =>
              some (.t [v67, .i .i64 (Int.ofNat 0), .i .i64 (Int.ofNat 12)], h66)) (
              bnd (pField 0 (.p b7 0) h64) fun v68 h68 =>
              bnd (pStore 1 v68 (.i .i64 (Int.ofNat 8)) h68) fun _ h69 =>
              bnd (pInt .add (.i .i64 (i : Int)) (.i .i64 (Int.ofNat 1)) h69) fun v70 h70 =>
              bnd (pSliceS (.s s) (some v70) (some v61) h70) fun v71 h71 =>
              bnd (pField 1 (.p b7 0) h71) fun v72 h72 =>
              bnd (pStore 1 v72 v71 h72) fun _ h73 =>
              bnd (pLoadA 4 (.p b7 0) h73) fun v74 h74 =>
              bnd (pStore 4 (.p b4 0) v74 h74) fun _ h75 =>
              bnd (pLoadA 4 (.p b4 0) h75) fun v76 _ =>
              some (.t [v76, v61, .i .i64 (Int.ofNat 0)], h75))) (
            bnd (pLoadA 4 (.p b7 0) h59) fun v77 h77 =>
            bnd (pStore 4 (.p b4 0) v77 h77) fun _ h78 =>
            bnd (pLoadA 4 (.p b4 0) h78) fun v79 _ =>
            some (.t [v79, .i .i64 (Int.ofNat 0), .i .i64 (Int.ofNat 10)], h78))) (KPost I A Q L res i) := fun ne => by
      rw [if_neg (fun q => ne q.2)] at hm
      refine Ev.op (idxS hidx _) ?_
      refine Ev.ieq (fun e8 => ?_) (fun e8 => absurd e7 e8)
      refine zt ?_; refine wm ?_; refine zt ?_; refine wm ?_; refine zt ?_
      refine Ev.iadd ?_
      rw [addN 1 (by omega)]
      refine zt ?_
      refine Ev.call (at_ok s (i + 1) _) ?_
      rintro _ _ ⟨rfl, hh⟩
      rw [hh]
      clear hh
      refine zt ?_
      refine Ev.ieq (fun e9 => ?_) (fun e9 => ?_)
      · have e9' : letterB (nx (s.drop i) 1) = true := by rw [hn1]; exact (atZ1 _).1 e9
        rw [if_pos ⟨e7', e9'⟩] at hm
        cases hm
        refine ap ?_; refine yt ?_
        refine Ev.iadd ?_
        rw [addN 1 (by omega)]
        refine Ev.call (nend_ok s hs (i + 1) (by omega) _) ?_
        rintro _ _ ⟨rfl, hh⟩
        rw [hh]
        clear hh
        rw [← hdd1]
        have hnl := nameM_le (s.drop (i + 1))
        have hne := nameM_err (s.drop (i + 1))
        have hnt := nameM_take (u := s.drop (i + 1))
        have hnl2 := nameM_len (s.drop (i + 1))
        have hdl : (s.drop (i + 1)).length = s.length - (i + 1) := by simp
        rw [← hnl2] at hne ⊢
        generalize hN : nameM (s.drop (i + 1)) = N at hnl hne hnt ⊢
        refine Ev.isub ?_
        rw [show ((i + 1 + N.2.2 : Nat) : Int) - (i : Int) = ((N.2.2 + 1 : Nat) : Int) by omega, wrapN _ (by omega)]
        refine Ev.isub ?_
        rw [show ((N.2.2 + 1 : Nat) : Int) - Int.ofNat 1 = ((N.2.2 : Nat) : Int) by simp, wrapN _ (by omega)]
        refine Ev.igt (fun e10 => ?_) (fun e10 => ?_)
        · have e10' : 24 < N.2.2 := by simp at e10; omega
          rw [if_pos e10'] at hne
          refine yt ?_; refine ws ?_; refine wt fun _ _ => ?_; refine ws ?_
          refine Ev.ret ⟨⟨0, [], 0, (i : Int)⟩, Int.ofNat 0, ?_, fun he => ?_, dp⟩
          · show _ = DV.t [_, _, DV.i .i64 N.2.1]
            rw [hne]; rfl
          · have he : N.2.1 = 0 := he
            rw [hne] at he
            cases he
        · have e10' : ¬ 24 < N.2.2 := by simp at e10; omega
          rw [if_neg e10'] at hne
          refine yj ?_; refine wf ?_; refine wu fun _ _ => ?_
          refine Ev.iadd ?_
          rw [addN 1 (by omega)]
          refine Ev.op (cutS (by omega) (by omega) _) ?_
          refine wf ?_; refine wu fun _ _ => ?_; refine ws ?_; refine wt fun _ _ => ?_; refine ws ?_
          refine Ev.ret ⟨⟨8, (s.take (i + 1 + N.2.2)).drop (i + 1), 0, (i : Int)⟩, ((i + 1 + N.2.2 : Nat) : Int), ?_, fun _ => ⟨?_, ?_⟩, dp⟩
          · show _ = DV.t [_, _, DV.i .i64 N.2.1]
            rw [hne]; rfl
          · show (⟨8, _, 0, (i : Int)⟩ : Tok) = ⟨8, N.1, 0, (i : Int)⟩
            rw [List.drop_take, Nat.add_sub_cancel_left, ← hnt hne]
          · show ((i + 1 + N.2.2 : Nat) : Int) = ((i + (N.2.2 + 1) : Nat) : Int)
            omega
      · have e9' : ¬ letterB (nx (s.drop i) 1) = true := fun q => e9 ((atZ1 _).2 (by rw [← hn1]; exact q))
        have := bad (fun q => ne q.2) (fun q => e9' q.2)
        subst this
        refine ap ?_; refine yj ?_; refine ws ?_; refine wt fun _ _ => ?_; refine ws ?_
        exact Ev.ret ⟨⟨0, [], 0, (i : Int)⟩, _, rfl, fun he => (by cases he), dp⟩
    refine Ev.ilt (fun e8 => ?_) (fun e8 => ?_)
    · have e8' : i + 1 < s.length := by omega
      have hn1' : nx (s.drop i) 1 = s[i + 1] := by rw [hn1, List.drop_eq_getElem_cons e8']; rfl
      refine ap ?_; refine zt ?_; refine wm ?_; refine zt ?_; refine wm ?_; refine zt ?_
      refine Ev.iadd ?_
      rw [addN 1 (by omega)]
      refine zt ?_
      refine Ev.op (idxS (c := s[i + 1]) (by simp [e8']) _) ?_
      refine zt ?_
      refine Ev.ieq (fun e9 => ?_) (fun e9 => ?_)
      · have e9' : nx (s.drop i) 1 = 61 := by rw [hn1']; simp at e9; omega
        rw [if_pos ⟨e7', e9'⟩] at hm
        cases hm
        refine ap ?_; refine yt ?_; refine wf ?_; refine wu fun _ _ => ?_; refine ws ?_
        refine Ev.iadd ?_
        rw [addN 2 (by omega)]
        refine wt fun _ _ => ?_; refine ws ?_
        exact Ev.ret ⟨⟨9, [], 0, (i : Int)⟩, _, rfl, fun _ => ⟨rfl, rfl⟩, dp⟩
      · have R := rest (by rw [hn1']; simp at e9; omega)
        exact R
    · have R := rest (by rw [hn1, List.drop_eq_nil_of_le (by omega)]; simp [nx])
      exact R
  · have e7' : ¬ nx (s.drop i) 0 = 58 := by rw [hn0]; simp at e7; omega
    have := bad (fun q => e7' q.1) (fun q => e7' q.1)
    subst this
    refine yf ?_; refine yf ?_; refine yf ?_; refine yf ?_; refine yf ?_; refine aq ?_; refine yf ?_; refine yf ?_; refine yf ?_; refine yf ?_; refine yf ?_; refine aq ?_; refine yj ?_
    refine Ev.op (idxS hidx _) ?_
    refine Ev.ieq (fun e8 => absurd e8 e7) (fun e8 => ?_)
    refine yf ?_; refine yf ?_; refine yf ?_; refine yf ?_; refine yf ?_; refine aq ?_; refine yj ?_; refine ws ?_; refine wt fun _ _ => ?_; refine ws ?_
    exact Ev.ret ⟨⟨0, [], 0, (i : Int)⟩, _, rfl, fun he => (by cases he), dp⟩

theorem rtoks_loop (hs : s.length ≤ lim) (g : Nat) : ∀ (f j i : Nat) (I : Im) (B : Ls) (h : Hp) (x : DV) (out : List Tok) (res : List Tok × Int × Int), Sy I (B ++ A) Q L h → Gr I 4 B x out.length (out.map tc).flatten →
    i ≤ s.length → out.length + f ≤ lim → toksM g s f i out = some res →
    Ev (fun n => s10a5l (shD n) n (n - j) (.s s) x (.i .i64 (i : Int)) h) (TPost I A Q L res) := by
  intro f
  induction f using Nat.strongRecOn with
  | _ f ih =>
    intro j i I B h x out res S G hi hl hm
    cases f with
    | zero => cases hm
    | succ f =>
    obtain ⟨k, o, sk, hk, c1, c2, c3⟩ := toks_skip (f + 1) i out res hi hm
    refine Ev.loop j (ll := fun n m => s10a5l (shD n) n m (.s s) x (.i .i64 (i : Int)) h) (bb := fun n m => s10a5b (shD n) n (s10a5l (shD n) n m) (.s s) x (.i .i64 (i : Int)) h) (fun _ _ => rfl) ?_
    unfold s10a5b
    refine Ev.call (skip_ok hs sk hi) ?_
    rintro _ _ ⟨rfl, hh⟩
    rw [hh]
    clear hh
    refine wx ?_; refine wx ?_
    cases o with
    | true =>
      rw [c1 rfl]
      refine yt ?_
      obtain ⟨K, gK, S5, F5⟩ := G.freeze S
      exact Ev.ret ⟨K, .l0, rfl, gK, S5, TS'.nil K⟩
    | false =>
      refine yj ?_
      refine Ev.lenS ?_
      refine Ev.ieq (fun e1 => ?_) (fun e1 => ?_)
      · rw [c2 rfl (by omega)]
        refine yt ?_; refine wd ?_
        refine Ev.bs S (fill4 ⟨0, [], 0, (k : Int)⟩) ?_
        intro b3 h3 S3
        obtain ⟨x4, h4, B4, e4, S4, G4⟩ := app_tok G S3 (List.Mem.head _) (by omega)
        refine Ev.op e4 ?_
        obtain ⟨K, gK, S5, F5⟩ := G4.freeze S4
        exact Ev.ret ⟨K, x4, rfl, gK, S5.dropL, by simp; omega, F5⟩
      · obtain ⟨rs, hr, d1, d2⟩ := c3 rfl (by omega)
        refine yj ?_
        refine Ev.call (rtok_ok S hs (by omega) g rs hr) ?_
        rintro _ h3 ⟨t, en, rfl, a2, S3⟩
        refine wx ?_; refine wx ?_; refine wx ?_; refine wa fun _ _ _ => ?_; refine wt fun _ _ => ?_
        refine Ev.ine (fun e3 => ?_) (fun e3 => ?_)
        · rw [d1 e3]
          refine yt ?_
          obtain ⟨M, gM, S5, F5⟩ := G.freeze (by assumption)
          exact Ev.ret ⟨M, .l0, rfl, gM, S5.dropL, TS'.nil M⟩
        · obtain ⟨m1, f', m2, m3⟩ := d2 e3
          obtain ⟨rfl, rfl⟩ := a2 e3
          refine yj ?_; refine ws ?_
          refine Ev.bs (by assumption) (fill4 ⟨rs.1, rs.2.1, rs.2.2.1, (k : Int)⟩) ?_
          intro b4 h4 S4
          obtain ⟨x5, h5, B5, e5, S5, G5⟩ := app_tok G S4 (List.Mem.head _) (by omega)
          refine Ev.op e5 ?_
          exact ih f' m2 (j + 1) (k + rs.2.2.2.2) I B5 h5 x5 _ res S5.dropL.dropL G5 m1 (by simp; omega) m3

/-- The document's tokens of a source are the program's. -/
theorem rlex_ok {h : Hp} (S : Sy I A Q L h) (hs : s.length ≤ lim) (g f : Nat) (hf : f ≤ lim) (res : List Tok × Int × Int) (hm : lexM g f s = some res) :
    Ev (fun n => shD n 10 [.s s] h) (TPost I A Q L res) := by
  unfold lexM at hm
  refine Ev.enter (fun n => enter10 n _ h) ?_
  unfold s10 s10a1
  refine Ev.lenS ?_
  refine Ev.igt (fun e1 => ?_) (fun e1 => ?_)
  · rw [if_pos (show 2000 < s.length by simp at e1; omega)] at hm
    cases hm
    refine yt ?_
    exact Ev.ret ⟨I, .l0, rfl, ILe.refl _, S, TS'.nil I⟩
  · rw [if_neg (show ¬ 2000 < s.length by simp at e1; omega)] at hm
    refine yj ?_
    unfold s10a2 s10a3 s10a4 s10a5
    exact rtoks_loop hs g f 0 0 I [] _ .l0 [] res S (Gr.nil I 4) (by omega) (by simpa using hf) hm

end
end Go.Dd

/- Dd, part Z1: the law's count of a node. -/
set_option linter.unusedVariables false
set_option linter.unusedSimpArgs false
set_option maxRecDepth 100000
namespace Go.Dd
open Go.Proofs

theorem enter12 (n : Nat) (x : DV) (h : Hp) : shD (n + 1) 12 [x] h = s12 (shD n) n x h := by kernel_rfl

theorem wadd {a b : Nat} (h : a + b ≤ lim) : IntKind.i64.wrap ((a : Int) + (b : Int)) = ((a + b : Nat) : Int) := by
  rw [wrap64s _ (by omega) (by simp [lim] at h ⊢; omega)]
  omega
theorem wadd1 {a : Nat} (h : a + 1 ≤ lim) : IntKind.i64.wrap ((a : Int) + Int.ofNat 1) = ((a + 1 : Nat) : Int) := wadd (b := 1) h

theorem NS.shape {I : Im} {s : DV} {ks : List Node} (H : NS I s ks) : s.one = true := H.one

def NC (b : Pos) (k : Int) (t : List Nat) (m : Int) (s1 s2 s3 : DV) : Pos × Option Ob := (b, some (.row .ex [.i .i64 k, .s t, .i .i64 m, s1, s2, s3]))

theorem count3 {I : Im} {A Q L : Ls} {h : Hp} {b : Pos} {k m : Int} {t : List Nat} {s1 s2 s3 : DV} {ns ts : List (List Nat)} {ks : List Node} {a : Nat}
    (S : Sy I A Q (NC b k t m s1 s2 s3 :: L) h) (h1 : SS I s1 ns) (h2 : SS I s2 ts) (h3 : NS I s3 ks) (hc : a + ns.length + ts.length + cntL ks ≤ lim)
    (loop : ∀ (h : Hp) (acc : Nat), acc + cntL ks ≤ lim → Sy I A Q (NC b k t m s1 s2 s3 :: L) h → Ev (fun n => s12a7l (shD n) n (n - 0) (.p b 0) (.i .i64 acc) (.i .i64 ((0 : Nat) : Int)) h) (fun v h' => v = .i .i64 ((acc + cntL ks : Nat) : Int) ∧ Sy I A Q (NC b k t m s1 s2 s3 :: L) h')) :
    Ev (fun n => s12a3 (shD n) n (.p b 0) (.i .i64 (a : Int)) h) (fun v h' => v = .i .i64 ((a + ns.length + ts.length + cntL ks : Nat) : Int) ∧ Sy I A Q L h') := by
  unfold s12a3
  unfold NC at S
  have o1 := h1.2.one
  have o2 := h2.2.one
  have o3 := h3.one
  refine wf ?_; refine wl ?_
  refine Ev.op (h1.2.len _) (Ev.iadd ?_)
  rw [wadd (by omega)]
  refine wf ?_; refine wl ?_
  refine Ev.op (h2.2.len _) (Ev.iadd ?_)
  rw [wadd (by omega)]
  unfold s12a4 s12a6
  refine (loop _ _ (by omega) S).mono ?_
  rintro v h' ⟨rfl, S'⟩
  exact ⟨rfl, S'.dropL⟩

theorem count2 {I : Im} {A Q L : Ls} {h : Hp} {b : Pos} {k m : Int} {t : List Nat} {s1 s2 s3 : DV} {P : DV → Hp → Prop}
    (S : Sy I A Q (NC b k t m s1 s2 s3 :: L) h) 
    (H : Ev (fun n => s12a3 (shD n) n (.p b 0) (.i .i64 (((if k ≠ 9 ∧ k ≠ 8 ∧ k ≠ 10 ∧ k ≠ 11 ∧ k ≠ 4 then 1 else 0 : Nat)) : Int)) h) P) :
    Ev (fun n => s12a2 (shD n) n (.p b 0) (.i .i64 (Int.ofNat 0)) h) P := by
  unfold s12a2
  unfold NC at S
  refine wf ?_; refine wl ?_
  refine Ev.ine (fun e1 => ?_) (fun e1 => ?_)
  · refine zt ?_; refine wf ?_; refine zt ?_; refine wl ?_; refine zt ?_
    refine Ev.ine (fun e2 => ?_) (fun e2 => ?_)
    · refine ap ?_; refine zt ?_; refine wf ?_; refine zt ?_; refine wl ?_; refine zt ?_
      refine Ev.ine (fun e3 => ?_) (fun e3 => ?_)
      · refine ap ?_; refine zt ?_; refine wf ?_; refine zt ?_; refine wl ?_; refine zt ?_
        refine Ev.ine (fun e4 => ?_) (fun e4 => ?_)
        · refine ap ?_; refine zt ?_; refine wf ?_; refine zt ?_; refine wl ?_; refine zt ?_
          refine Ev.ine (fun e5 => ?_) (fun e5 => ?_)
          · refine ap ?_; refine yt ?_
            rw [if_pos ⟨e1, e2, e3, e4, e5⟩] at H
            exact H
          · refine ap ?_; refine yj ?_
            rw [if_neg (fun h => h.2.2.2.2 e5)] at H
            exact H
        · refine ap ?_; refine yf ?_; refine yf ?_; refine yf ?_; refine aq ?_; refine yj ?_
          rw [if_neg (fun h => h.2.2.2.1 e4)] at H
          exact H
      · refine ap ?_; refine yf ?_; refine yf ?_; refine yf ?_; refine aq ?_; refine yf ?_; refine yf ?_; refine yf ?_; refine aq ?_; refine yj ?_
        rw [if_neg (fun h => h.2.2.1 e3)] at H
        exact H
    · refine ap ?_; refine yf ?_; refine yf ?_; refine yf ?_; refine aq ?_; refine yf ?_; refine yf ?_; refine yf ?_; refine aq ?_; refine yf ?_; refine yf ?_; refine yf ?_; refine aq ?_; refine yj ?_
      rw [if_neg (fun h => h.2.1 e2)] at H
      exact H
  · refine yf ?_; refine yf ?_; refine yf ?_; refine aq ?_; refine yf ?_; refine yf ?_; refine yf ?_; refine aq ?_; refine yf ?_; refine yf ?_; refine yf ?_; refine aq ?_; refine yf ?_; refine yf ?_; refine yf ?_; refine aq ?_; refine yj ?_
    rw [if_neg (fun h => h.1 e1)] at H
    exact H

mutual
theorem count_ok : ∀ (x : Node) (I : Im) (A Q L : Ls) (h : Hp) (cs : List DV), cnt x ≤ lim → Sy I A Q L h → NV I x cs → Ev (fun n => shD n 12 [.a cs] h) (fun v h' => v = .i .i64 (cnt x : Int) ∧ Sy I A Q L h')
  | .mk k t m ns ts ks, I, A, Q, L, h, cs, hc, S, ⟨s1, s2, s3, e, a1, a2, a3, cells, F, NL⟩ => by
    subst e
    simp only [cnt] at hc ⊢
    refine Ev.enter (fun n => enter12 n _ h) ?_
    unfold s12
    refine Ev.box S rfl (fun b h1 S1 => ?_)
    unfold s12a1
    refine count2 (by exact S1) ?_
    refine count3 (by exact S1) a1 a2 ⟨a3, cells, F, NL⟩ hc ?_
    intro h2 acc hac S2
    exact count_loop ks I A Q L b k t m s1 s2 s3 ks 0 0 acc h2 ⟨a3, cells, F, NL⟩ (by simp) (by omega) hac S2
theorem count_loop : ∀ (r : List Node) (I : Im) (A Q L : Ls) (b : Pos) (k : Int) (t : List Nat) (m : Int) (s1 s2 s3 : DV) (ks : List Node) (i j acc : Nat) (h : Hp), NS I s3 ks → ks.drop i = r → i ≤ ks.length → acc + cntL r ≤ lim →
    Sy I A Q (NC b k t m s1 s2 s3 :: L) h → Ev (fun n => s12a7l (shD n) n (n - j) (.p b 0) (.i .i64 acc) (.i .i64 (i : Int)) h) (fun v h' => v = .i .i64 ((acc + cntL r : Nat) : Int) ∧ Sy I A Q (NC b k t m s1 s2 s3 :: L) h')
  | [], I, A, Q, L, b, k, t, m, s1, s2, s3, ks, i, j, acc, h, N, hr, hi, hac, S => by
    refine Ev.loop j (ll := fun n p => s12a7l (shD n) n p (.p b 0) (.i .i64 acc) (.i .i64 (i : Int)) h) (bb := fun n p => s12a7b (shD n) n (s12a7l (shD n) n p) (.p b 0) (.i .i64 acc) (.i .i64 (i : Int)) h) (fun _ _ => rfl) ?_
    have o3 := N.one
    have hl : i = ks.length := by
      have := congrArg List.length hr
      simp at this
      omega
    unfold s12a7b
    have S' := S
    unfold NC at S'
    refine wf ?_; refine wl ?_
    refine Ev.op (N.len _) (Ev.ilt (fun e1 => ?_) (fun e1 => ?_))
    · omega
    · refine yj ?_
      unfold s12a5
      exact Ev.ret ⟨by simp [cntL], S⟩
  | x :: r, I, A, Q, L, b, k, t, m, s1, s2, s3, ks, i, j, acc, h, N, hr, hi, hac, S => by
    refine Ev.loop j (ll := fun n p => s12a7l (shD n) n p (.p b 0) (.i .i64 acc) (.i .i64 (i : Int)) h) (bb := fun n p => s12a7b (shD n) n (s12a7l (shD n) n p) (.p b 0) (.i .i64 acc) (.i .i64 (i : Int)) h) (fun _ _ => rfl) ?_
    have o3 := N.one
    have hx : ks[i]? = some x := by
      have := congrArg (fun l => l[0]?) hr
      simpa using this
    have hlt := (List.getElem?_eq_some_iff.1 hx).1
    have hr' : ks.drop (i + 1) = r := by
      have := congrArg (List.drop 1) hr
      simpa [List.drop_drop] using this
    have hb := N.1
    unfold s12a7b
    have S' := S
    unfold NC at S'
    simp only [cntL] at hac ⊢
    refine wf ?_; refine wl ?_
    refine Ev.op (N.len _) (Ev.ilt (fun e1 => ?_) (fun e1 => ?_))
    · refine yt ?_; refine wf ?_; refine wl ?_
      obtain ⟨b', o', c, q1, q2, q3⟩ := N.at hx
      refine Ev.op (q1 _) (Ev.op (q3 _ _ _ _ _ (ILe.refl _) S) ?_)
      refine Ev.call (count_ok x I A Q _ h c (by omega) S q2) ?_
      rintro _ h1 ⟨rfl, S1⟩
      refine Ev.iadd ?_
      rw [wadd (by omega)]
      refine Ev.iadd ?_
      rw [wadd1 (by omega)]
      refine (count_loop r I A Q L b k t m s1 s2 s3 ks (i + 1) (j + 1) (acc + cnt x) h1 N hr' (by omega) (by omega) S1).mono ?_
      rintro v h' ⟨rfl, S2⟩
      exact ⟨by rw [Nat.add_assoc], S2⟩
    · omega
end

end Go.Dd

/- Dd, part Z2: ParseWhole runs to true. -/
set_option linter.unusedVariables false
set_option linter.unusedSimpArgs false
set_option maxRecDepth 100000
namespace Go.Dd
open Go.Proofs

theorem TS'.cell {I : Im} {s : DV} {l : List Tok} (H : TS' I s l) {A Q L : Ls} {h : Hp} (S : Sy I A Q L h) {i : Nat} {t : Tok} (hi : l[i]? = some t) :
    ∃ b o, (∀ h', pIndexAddr 4 s (.i .i64 (i : Int)) h' = some (.p b o, h')) ∧ ∀ k v, (tc t)[k]? = some v → pLoad1 (.p b (o + k)) h = some (v, h) := by
  obtain ⟨hlt, hg⟩ := List.getElem?_eq_some_iff.1 hi
  obtain ⟨b, o, e, k, row, g, rest, d⟩ := H.2.at S hlt
  refine ⟨b, o, e, fun k v hv => ld1 g ?_ (tc_ones t v (List.mem_of_getElem? hv))⟩
  rw [tc_drop, drop_cons hi, List.map_cons, List.flatten_cons, List.append_assoc] at d
  have e2 : row[o + k]? = (row.drop o)[k]? := by simp
  rw [e2, d, List.getElem?_append_left (List.getElem?_eq_some_iff.1 hv).1]
  exact hv

theorem cutT {l : List Nat} {b : Nat} (h2 : b ≤ l.length) (h : Hp) : pSliceS (.s l) none (some (.i .i64 (Int.ofNat b))) h = some (.s (l.take b), h) := by
  have e1 : loD none b = some 0 := by simp [loD]
  have e2 : hiD (some (.i .i64 (Int.ofNat b))) l.length l.length = some b := by
    show (if 0 ≤ (Int.ofNat b) ∧ (Int.ofNat b) ≤ (l.length : Int) then some (Int.ofNat b).toNat else none) = _
    have hi' : (Int.ofNat b) = (b : Int) := rfl
    rw [if_pos ⟨by omega, by omega⟩]
    rfl
  simp only [pSliceS, e1, e2, List.drop_zero]

theorem readM_lx {H : PF} {f : Nat} {lx : List Tok × Int × Int} (h : lx.2.2 = 0) : readM H f lx = readM H f (lx.1, 0, 0) := by
  unfold readM
  rw [if_pos h, if_pos rfl]

/-- A source of at most 2000 bytes is read, or refused. -/
theorem doitD {u : List Nat} (hu : u.length ≤ 2000) : ∃ lx res, lexM 2001 2001 u = some lx ∧ readM doitS 2004 lx = some res ∧ (res.2.2 = 0 → lx.2.2 = 0 ∧ lx.1.length ≤ 2001 ∧ Good lx.1 ∧ least lx.1 ≤ cnt res.1 ∧ cnt res.1 ≤ most lx.1) := by
  obtain ⟨lx, hl, hg⟩ := lexD hu
  by_cases e : lx.2.2 = 0
  · obtain ⟨g1, g2⟩ := hg e
    obtain ⟨x, a, e', h1, h2⟩ := readW (f := 2004) g1 (by omega) (by omega)
    refine ⟨lx, _, hl, (readM_lx e).trans h1, fun h => ⟨e, g2, g1, h2 h⟩⟩
  · refine ⟨lx, (zN, lx.2.1, lx.2.2), hl, ?_, fun h => absurd h e⟩
    unfold readM
    rw [if_neg e]

theorem most_le (l : List Tok) : most l ≤ l.length := by
  unfold most
  induction l with
  | nil => simp
  | cons t l ih =>
    have : T2 t ≤ 1 := by unfold T2; split <;> omega
    simp; omega

theorem lm_cons (t : Tok) (l : List Tok) : least (t :: l) = T1 t + least l ∧ most (t :: l) = T2 t + most l := by simp [least, most]

section
variable {I : Im} {A Q L : Ls} {b : Pos} {x6 : DV} {lt : List Tok} {cs : List DV} {x : Node}

theorem whole_end {h : Hp} (S : Sy I A Q ((b, some (.row .ex cs)) :: L) h) (N : NV I x cs) (hc : cnt x ≤ lim) {a c : Nat} (h1 : a ≤ cnt x) (h2 : cnt x ≤ c) :
    Ev (fun n => s5a9 (recL 9 true n) n (.p b 0) (.i .i64 (a : Int)) (.i .i64 (c : Int)) h) (fun v h' => v = .b true) := by
  unfold s5a9
  have e12 : ∀ n, recL 9 true n 12 = shD n 12 := fun n => recL_other true n rfl
  simp only [e12, recL_self]
  obtain ⟨l1, o1, b1⟩ := N.shape
  refine ws ?_
  refine Ev.call (count_ok x I A Q _ _ cs hc S N) ?_
  rintro _ h1 ⟨rfl, S1⟩
  refine Ev.ige (fun e1 => ?_) (fun e1 => ?_)
  · refine zt ?_; refine wm ?_; refine zt ?_; refine wm ?_; refine zt ?_
    refine Ev.ile (fun e2 => ?_) (fun e2 => ?_)
    · refine ap ?_; refine zt ?_; refine wm ?_; refine ap ?_
      exact Ev.ret rfl
    · omega
  · omega

theorem whole_loop (T : TS' I x6 lt) (hl : lt.length ≤ 2001) (N : NV I x cs) (hc : cnt x ≤ lim) : ∀ (r : List Tok) (i j a c : Nat) (h : Hp), lt.drop i = r → i ≤ lt.length → a ≤ i → c ≤ i → a + least r ≤ cnt x → cnt x ≤ c + most r →
    Sy I A Q ((b, some (.row .ex cs)) :: L) h →
    Ev (fun n => s5a11l (recL 9 true n) n (n - j) (.p b 0) x6 (.i .i64 (a : Int)) (.i .i64 (c : Int)) (.i .i64 (i : Int)) h) (fun v h' => v = .b true) := by
  intro r
  induction r with
  | nil =>
    intro i j a c h hr hi ha hcc h1 h2 S
    refine Ev.loop j (ll := fun n p => s5a11l (recL 9 true n) n p (.p b 0) x6 (.i .i64 (a : Int)) (.i .i64 (c : Int)) (.i .i64 (i : Int)) h) (bb := fun n p => s5a11b (recL 9 true n) n (s5a11l (recL 9 true n) n p) (.p b 0) x6 (.i .i64 (a : Int)) (.i .i64 (c : Int)) (.i .i64 (i : Int)) h) (fun _ _ => rfl) ?_
    have hl2 : i = lt.length := by
      have := congrArg List.length hr
      simp at this
      omega
    unfold s5a11b
    refine Ev.op (T.2.len _) (Ev.ilt (fun e1 => ?_) (fun e1 => ?_))
    · omega
    · refine yj ?_
      simp [least, most] at h1 h2
      exact whole_end S N hc h1 h2
  | cons t r ih =>
    intro i j a c h hr hi ha hcc h1 h2 S
    refine Ev.loop j (ll := fun n p => s5a11l (recL 9 true n) n p (.p b 0) x6 (.i .i64 (a : Int)) (.i .i64 (c : Int)) (.i .i64 (i : Int)) h) (bb := fun n p => s5a11b (recL 9 true n) n (s5a11l (recL 9 true n) n p) (.p b 0) x6 (.i .i64 (a : Int)) (.i .i64 (c : Int)) (.i .i64 (i : Int)) h) (fun _ _ => rfl) ?_
    have hx : lt[i]? = some t := by
      have := congrArg (fun l => l[0]?) hr
      simpa using this
    have hlt := (List.getElem?_eq_some_iff.1 hx).1
    have hr' : lt.drop (i + 1) = r := by
      have := congrArg (List.drop 1) hr
      simpa [List.drop_drop] using this
    obtain ⟨q1, q2⟩ := lm_cons t r
    rw [q1] at h1
    rw [q2] at h2
    obtain ⟨pb, po, p1, p2⟩ := T.cell S hx
    -- the rest of a round
    have step : ∀ (a' c' : Nat), a' = a + T1 t → c' = c + T2 t → Ev (fun n => s5a13 (recL 9 true n) n (s5a11l (recL 9 true n) n (n - (j + 1))) (.p b 0) x6 (.i .i64 (a' : Int)) (.i .i64 (c' : Int)) (.i .i64 (i : Int)) h) (fun v h' => v = .b true) := by
      intro a' c' ea ec
      have b1 : T1 t ≤ 1 := by unfold T1; split <;> omega
      have b2 : T2 t ≤ 1 := by unfold T2; split <;> omega
      unfold s5a13
      refine Ev.iadd ?_
      rw [wadd1 (by simp [lim]; omega)]
      exact ih (i + 1) (j + 1) a' c' h hr' (by omega) (by omega) (by omega) (by omega) (by omega) S
    have second : ∀ (a' c' : Nat), a' = a + T1 t → c' = c + T1 t → c' ≤ 5000 → (T1 t = 1 → T2 t = 1 ∧ t.kind ≠ 2 ∧ t.kind ≠ 3) → (T1 t = 0 → T2 t = if t.kind = 2 ∨ t.kind = 3 then 1 else 0) → T1 t ≤ 1 →
        Ev (fun n => s5a15 (recL 9 true n) n (s5a11l (recL 9 true n) n (n - (j + 1))) (.p b 0) x6 (.i .i64 (a' : Int)) (.i .i64 (c' : Int)) (.i .i64 (i : Int)) (.i .i64 t.kind) h) (fun v h' => v = .b true) := by
      intro a' c' ea ec hle k1 k2 k3
      unfold s5a15
      refine Ev.ieq (fun e1 => ?_) (fun e1 => ?_)
      · refine yg ?_; refine yg ?_; refine ap ?_; refine yt ?_
        refine Ev.iadd ?_
        rw [wadd1 (by simp [lim]; omega)]
        have z : T1 t = 0 := by
          apply Decidable.byContradiction; intro hh
          exact (k1 (by omega)).2.1 e1
        have := k2 z
        rw [if_pos (.inl e1)] at this
        exact step _ _ ea (by omega)
      · refine zf ?_; refine wm ?_; refine zf ?_
        refine Ev.ieq (fun e2 => ?_) (fun e2 => ?_)
        · refine aq ?_; refine yt ?_
          refine Ev.iadd ?_
          rw [wadd1 (by simp [lim]; omega)]
          have z : T1 t = 0 := by
            apply Decidable.byContradiction; intro hh
            exact (k1 (by omega)).2.2 e2
          have := k2 z
          rw [if_pos (.inr e2)] at this
          exact step _ _ ea (by omega)
        · refine aq ?_; refine yj ?_
          refine step _ _ ea ?_
          by_cases z : T1 t = 1
          · have := (k1 z).1
            omega
          · have := k2 (by omega)
            rw [if_neg (fun h => h.elim e1 e2)] at this
            omega
    have yes : (t.kind = 1 ∨ t.kind = 4 ∨ t.kind = 5 ∨ t.kind = 6 ∨ t.kind = 8) → Ev (fun n => bnd (pInt .add (.i .i64 (a : Int)) (.i .i64 (Int.ofNat 1)) h) fun v44 h44 =>
        bnd (pInt .add (.i .i64 (c : Int)) (.i .i64 (Int.ofNat 1)) h44) fun v45 h45 =>
        s5a15 (recL 9 true n) n (s5a11l (recL 9 true n) n (n - (j + 1))) (.p b 0) x6 v44 v45 (.i .i64 (i : Int)) (.i .i64 t.kind) h45) (fun v h' => v = .b true) := by
      intro hk
      have z1 : T1 t = 1 := by unfold T1; rw [if_pos hk]
      refine Ev.iadd ?_
      rw [wadd1 (by simp [lim]; omega)]
      refine Ev.iadd ?_
      rw [wadd1 (by simp [lim]; omega)]
      refine second _ _ (by omega) (by omega) (by omega) (fun _ => ⟨?_, ?_, ?_⟩) (fun h => by omega) (by omega)
      · unfold T2
        rw [if_pos (by omega)]
      · omega
      · omega
    unfold s5a11b
    refine Ev.op (T.2.len _) (Ev.ilt (fun e1 => ?_) (fun e1 => ?_))
    · refine yt ?_
      unfold s5a12
      refine Ev.op (p1 _) ?_
      refine Ev.fld ?_
      refine Ev.op (p2 0 _ rfl) ?_
      unfold s5a14
      refine Ev.ieq (fun k1 => ?_) (fun k1 => ?_)
      · refine yg ?_; refine yg ?_; refine ap ?_; refine yg ?_; refine yg ?_; refine ap ?_; refine yg ?_; refine yg ?_; refine ap ?_; refine yg ?_; refine yg ?_; refine ap ?_; refine yt ?_
        exact yes (.inl k1)
      · refine zf ?_; refine wm ?_; refine zf ?_
        refine Ev.ieq (fun k2 => ?_) (fun k2 => ?_)
        · refine aq ?_; refine yg ?_; refine yg ?_; refine ap ?_; refine yg ?_; refine yg ?_; refine ap ?_; refine yg ?_; refine yg ?_; refine ap ?_; refine yt ?_
          exact yes (.inr (.inl k2))
        · refine aq ?_; refine zf ?_; refine wm ?_; refine zf ?_
          refine Ev.ieq (fun k3 => ?_) (fun k3 => ?_)
          · refine aq ?_; refine yg ?_; refine yg ?_; refine ap ?_; refine yg ?_; refine yg ?_; refine ap ?_; refine yt ?_
            exact yes (.inr (.inr (.inl k3)))
          · refine aq ?_; refine zf ?_; refine wm ?_; refine zf ?_
            refine Ev.ieq (fun k4 => ?_) (fun k4 => ?_)
            · refine aq ?_; refine yg ?_; refine yg ?_; refine ap ?_; refine yt ?_
              exact yes (.inr (.inr (.inr (.inl k4))))
            · refine aq ?_; refine zf ?_; refine wm ?_; refine zf ?_
              refine Ev.ieq (fun k5 => ?_) (fun k5 => ?_)
              · refine aq ?_; refine yt ?_
                exact yes (.inr (.inr (.inr (.inr k5))))
              · refine aq ?_; refine yj ?_
                have hn : ¬ (t.kind = 1 ∨ t.kind = 4 ∨ t.kind = 5 ∨ t.kind = 6 ∨ t.kind = 8) := by
                  simp at k1 k2 k3 k4 k5
                  omega
                have z1 : T1 t = 0 := by unfold T1; rw [if_neg hn]
                refine second _ _ (by omega) (by omega) (by omega) (fun h => by omega) (fun _ => ?_) (by omega)
                unfold T2
                by_cases z : t.kind = 2 ∨ t.kind = 3
                · rw [if_pos z, if_pos (by omega)]
                · rw [if_neg z, if_neg (by omega)]
    · omega
end

theorem whole2 {I : Im} {A L : Ls} {h : Hp} {u : List Nat} (hu : u.length ≤ 300) (hb : ∀ c ∈ u, c < 256) (S : Sy I A [] L h) :
    Ev (fun n => s5a2 (recL 9 true n) n (.s u) h) (fun v h' => v = .b true) := by
  obtain ⟨lx, res, l1, l2, l4⟩ := doitD (u := u) (by omega)
  unfold s5a2
  have e8 : ∀ n, recL 9 true n 8 = shD n 8 := fun n => recL_other true n rfl
  have e10 : ∀ n, recL 9 true n 10 = shD n 10 := fun n => recL_other true n rfl
  simp only [e8]
  have hlim : u.length ≤ lim := by simp [lim]; omega
  refine Ev.call (Doit_ok S hlim hb 2001 2001 2004 (by simp [lim]) (by simp [lim]) lx l1 res l2) ?_
  rintro _ h1 ⟨J, cs, rfl, g1, S1, N1⟩
  obtain ⟨c1, o1, b1⟩ := N1.shape
  refine wx ?_; refine wx ?_; refine wx ?_; refine wa fun _ _ _ => ?_; refine wt fun _ _ => ?_
  unfold s5a3
  refine Ev.ine (fun e1 => ?_) (fun e1 => ?_)
  · simp only [recL_self]
    refine yt ?_; refine wm ?_
    exact Ev.ret rfl
  · obtain ⟨k0, l3, k1, k2, k3⟩ := l4 e1
    refine yj ?_
    unfold s5a4
    simp only [e10]
    refine Ev.call (rlex_ok (by assumption) hlim 2001 2001 (by simp [lim]) lx l1) ?_
    rintro _ h2 ⟨K, x, rfl, g2, S2, T2⟩
    refine wx ?_; refine wx ?_; refine wx ?_
    unfold s5a5
    refine Ev.ine (fun e2 => ?_) (fun e2 => ?_)
    · exact absurd k0 e2
    · refine yj ?_
      unfold s5a6 s5a7 s5a8 s5a10 s5a11
      have hm := most_le lx.1
      exact whole_loop T2 l3 (N1.mono g2) (by simp [lim]; omega) lx.1 0 0 0 0 h2 (by simp) (by omega) (by omega) (by omega) (by omega) (by omega) S2

/-- ParseWhole runs to true, whatever its argument. -/
theorem whole_ok {I : Im} {A L : Ls} {h : Hp} {u : List Nat} (hb : ∀ c ∈ u, c < 256) (S : Sy I A [] L h) :
    Ev (fun n => s5 (recL 9 true n) n (.s u) h) (fun v h' => v = .b true) := by
  unfold s5 s5a1
  refine Ev.lenS ?_
  refine Ev.igt (fun e1 => ?_) (fun e1 => ?_)
  · refine yt ?_
    simp at e1
    refine Ev.op (cutT (by omega) _) ?_
    exact whole2 (by simp; omega) (fun c hc => hb c (List.mem_of_mem_take hc)) S
  · refine yj ?_
    simp at e1
    exact whole2 (by omega) hb S

end Go.Dd

/- Dd, part Z4: the document's Same of two nodes. -/
set_option linter.unusedVariables false
set_option linter.unusedSimpArgs false
set_option maxRecDepth 100000
namespace Go.Dd
open Go.Proofs

mutual
def nEq : Node → Node → Bool
  | .mk k t m ns ts ks, .mk k' t' m' ns' ts' ks' => decide (ns = ns') && decide (ts = ts') && decide (k = k') && decide (t = t') && decide (m = m') && nEqL ks ks'
def nEqL : List Node → List Node → Bool
  | [], [] => true
  | x :: l, y :: l' => nEq x y && nEqL l l'
  | _, _ => false
end

mutual
theorem nEq_refl : ∀ (x : Node), nEq x x = true
  | .mk k t m ns ts ks => by simp [nEq, nEqL_refl ks]
theorem nEqL_refl : ∀ (x : List Node), nEqL x x = true
  | [] => rfl
  | x :: l => by simp [nEqL, nEq_refl x, nEqL_refl l]
end
mutual
theorem nEq_eq : ∀ (x y : Node), nEq x y = true → x = y
  | .mk k t m ns ts ks, .mk k' t' m' ns' ts' ks', h => by
    simp [nEq] at h
    obtain ⟨⟨⟨⟨⟨h1, h2⟩, h3⟩, h4⟩, h5⟩, h6⟩ := h
    rw [h1, h2, h3, h4, h5, nEqL_eq ks ks' h6]
theorem nEqL_eq : ∀ (x y : List Node), nEqL x y = true → x = y
  | [], [], _ => rfl
  | [], _ :: _, h => by simp [nEqL] at h
  | _ :: _, [], h => by simp [nEqL] at h
  | x :: l, y :: l', h => by
    simp [nEqL] at h
    rw [nEq_eq x y h.1, nEqL_eq l l' h.2]
end

theorem nEqL_len : ∀ (x y : List Node), x.length ≠ y.length → nEqL x y = false
  | [], [], h => absurd rfl h
  | [], _ :: _, h => rfl
  | _ :: _, [], h => rfl
  | x :: l, y :: l', h => by
    simp at h
    simp [nEqL, nEqL_len l l' h]

theorem enter21b (n : Nat) (x y : DV) (h : Hp) : shD (n + 1) 21 [x, y] h = s21 (shD n) n x y h := by kernel_rfl

theorem SS.at {I : Im} {s : DV} {l : List (List Nat)} (H : SS I s l) {A Q L : Ls} {h : Hp} (S : Sy I A Q L h) {i : Nat} {x : List Nat} (hi : l[i]? = some x) :
    ∃ b o, (∀ h', pIndexAddr 1 s (.i .i64 (i : Int)) h' = some (.p b o, h')) ∧ pLoad1 (.p b o) h = some (.s x, h) := by
  obtain ⟨hlt, hg⟩ := List.getElem?_eq_some_iff.1 hi
  obtain ⟨b, o, e, k, row, g, rest, d⟩ := H.2.at S hlt
  refine ⟨b, o, e, ld1 g ?_ rfl⟩
  have e2 : row[o]? = (row.drop o)[0]? := by simp
  rw [e2, d, Nat.mul_one, List.drop_eq_getElem_cons (by simpa using hlt)]
  simp [hg]

section
variable {I : Im} {A Q L : Ls}

theorem names_loop {h : Hp} {s1 s2 : DV} {l1 l2 : List (List Nat)} (S : Sy I A Q L h) (N1 : SS I s1 l1) (N2 : SS I s2 l2) : ∀ (r1 r2 : List (List Nat)) (i j : Nat), l1.drop i = r1 → l2.drop i = r2 → r1.length = r2.length → i ≤ l1.length →
    Ev (fun n => s21a5l (shD n) n (n - j) s1 s2 (.i .i64 (i : Int)) h) (fun v h' => v = .b (decide (r1 = r2)) ∧ h' = h) := by
  intro r1
  induction r1 with
  | nil =>
    intro r2 i j e1 e2 hl hi
    refine Ev.loop j (ll := fun n p => s21a5l (shD n) n p s1 s2 (.i .i64 (i : Int)) h) (bb := fun n p => s21a5b (shD n) n (s21a5l (shD n) n p) s1 s2 (.i .i64 (i : Int)) h) (fun _ _ => rfl) ?_
    have h2 : r2 = [] := by cases r2 with
      | nil => rfl
      | cons => simp at hl
    subst h2
    have hl2 : i = l1.length := by
      have := congrArg List.length e1
      simp at this
      omega
    unfold s21a5b
    refine Ev.op (N1.2.len _) (Ev.ilt (fun k => ?_) (fun k => ?_))
    · omega
    · refine yj ?_
      unfold s21a3
      exact Ev.ret ⟨by simp, rfl⟩
  | cons x r1 ih =>
    intro r2 i j e1 e2 hl hi
    refine Ev.loop j (ll := fun n p => s21a5l (shD n) n p s1 s2 (.i .i64 (i : Int)) h) (bb := fun n p => s21a5b (shD n) n (s21a5l (shD n) n p) s1 s2 (.i .i64 (i : Int)) h) (fun _ _ => rfl) ?_
    obtain ⟨y, r2, rfl⟩ : ∃ y r, r2 = y :: r := by cases r2 with
      | nil => simp at hl
      | cons y r => exact ⟨y, r, rfl⟩
    have hx : l1[i]? = some x := by
      have := congrArg (fun l => l[0]?) e1
      simpa using this
    have hy : l2[i]? = some y := by
      have := congrArg (fun l => l[0]?) e2
      simpa using this
    have hlt := (List.getElem?_eq_some_iff.1 hx).1
    have e1' : l1.drop (i + 1) = r1 := by
      have := congrArg (List.drop 1) e1
      simpa [List.drop_drop] using this
    have e2' : l2.drop (i + 1) = r2 := by
      have := congrArg (List.drop 1) e2
      simpa [List.drop_drop] using this
    obtain ⟨b1, o1, p1, q1⟩ := N1.at S hx
    obtain ⟨b2, o2, p2, q2⟩ := N2.at S hy
    have hb := N1.1
    unfold s21a5b
    refine Ev.op (N1.2.len _) (Ev.ilt (fun k => ?_) (fun k => ?_))
    · refine yt ?_
      refine Ev.op (p1 _) (Ev.op q1 (Ev.op (p2 _) (Ev.op q2 ?_)))
      refine Ev.sne (fun k2 => ?_) (fun k2 => ?_)
      · refine yt ?_
        exact Ev.ret ⟨by simp [k2], rfl⟩
      · refine yj ?_
        refine Ev.iadd ?_
        rw [wadd1 (by omega)]
        refine (ih r2 (i + 1) (j + 1) e1' e2' (by simpa using hl) (by omega)).mono ?_
        rintro v h' ⟨rfl, rfl⟩
        exact ⟨by simp [k2], rfl⟩
    · omega

theorem names_ok {h : Hp} {s1 s2 : DV} {l1 l2 : List (List Nat)} (S : Sy I A Q L h) (N1 : SS I s1 l1) (N2 : SS I s2 l2) :
    Ev (fun n => shD n 21 [s1, s2] h) (fun v h' => v = .b (decide (l1 = l2)) ∧ h' = h) := by
  refine Ev.enter (fun n => enter21b n _ _ h) ?_
  unfold s21 s21a1
  refine Ev.op (N1.2.len _) (Ev.op (N2.2.len _) (Ev.ine (fun e => ?_) (fun e => ?_)))
  · refine yt ?_
    refine Ev.ret ⟨?_, rfl⟩
    have : l1 ≠ l2 := fun h => e (by rw [h])
    simp [this]
  · refine yj ?_
    unfold s21a2 s21a4
    exact names_loop S N1 N2 l1 l2 0 0 (by simp) (by simp) (by omega) (by omega)
end

theorem same_tail {I : Im} {A Q L : Ls} {h : Hp} {b b' : Pos} {k m k' m' : Int} {t t' : List Nat} {s1 s2 s3 s1' s2' s3' : DV} {c1 c2 : Bool} {ks ks' : List Node}
    (S : Sy I A Q (NC b' k' t' m' s1' s2' s3' :: NC b k t m s1 s2 s3 :: L) h) (h3 : NS I s3 ks) (h3' : NS I s3' ks') (o1 : s1.one = true) (o2 : s2.one = true) (o1' : s1'.one = true) (o2' : s2'.one = true)
    (loop : ks.length = ks'.length → Ev (fun n => s11a7l (shD n) n (n - 0) (.p b 0) (.p b' 0) (.i .i64 ((0 : Nat) : Int)) h) (fun v h' => v = .b (nEqL ks ks') ∧ Sy I A Q (NC b' k' t' m' s1' s2' s3' :: NC b k t m s1 s2 s3 :: L) h')) :
    Ev (fun n => s11a3 (shD n) n (.p b 0) (.p b' 0) (.b c1) (.b c2) h) (fun v h' => v = .b (c1 && c2 && decide (k = k') && decide (t = t') && decide (m = m') && nEqL ks ks') ∧ Sy I A Q L h') := by
  unfold s11a3
  unfold NC at S
  have o3 := h3.one
  have o3' := h3'.one
  cases c1 with
  | false =>
    refine ao ?_; refine yg ?_; refine yg ?_; refine ap ?_; refine yg ?_; refine yg ?_; refine yg ?_; refine yg ?_; refine yg ?_; refine ap ?_; refine yg ?_; refine yg ?_; refine yg ?_; refine yg ?_; refine yg ?_; refine ap ?_; refine yg ?_; refine yg ?_; refine yg ?_; refine yg ?_; refine yg ?_; refine ap ?_; refine yg ?_; refine yg ?_; refine yg ?_; refine yg ?_; refine yg ?_; refine yg ?_; refine yg ?_; refine ap ?_; refine yt ?_
    exact Ev.ret ⟨by simp, dp⟩
  | true =>
    cases c2 with
    | false =>
      refine an ?_; refine zf ?_; refine wm ?_; refine zf ?_; refine ao ?_; refine aq ?_; refine yg ?_; refine yg ?_; refine yg ?_; refine yg ?_; refine yg ?_; refine ap ?_; refine yg ?_; refine yg ?_; refine yg ?_; refine yg ?_; refine yg ?_; refine ap ?_; refine yg ?_; refine yg ?_; refine yg ?_; refine yg ?_; refine yg ?_; refine ap ?_; refine yg ?_; refine yg ?_; refine yg ?_; refine yg ?_; refine yg ?_; refine yg ?_; refine yg ?_; refine ap ?_; refine yt ?_
      exact Ev.ret ⟨by simp, dp⟩
    | true =>
      refine an ?_; refine zf ?_; refine wm ?_; refine zf ?_; refine an ?_; refine aq ?_; refine zf ?_; refine wf ?_; refine zf ?_; refine wl ?_; refine zf ?_; refine wf ?_; refine zf ?_; refine wl ?_; refine zf ?_
      refine Ev.ine (fun e1 => ?_) (fun e1 => ?_)
      · refine aq ?_; refine yg ?_; refine yg ?_; refine yg ?_; refine yg ?_; refine yg ?_; refine ap ?_; refine yg ?_; refine yg ?_; refine yg ?_; refine yg ?_; refine yg ?_; refine ap ?_; refine yg ?_; refine yg ?_; refine yg ?_; refine yg ?_; refine yg ?_; refine yg ?_; refine yg ?_; refine ap ?_; refine yt ?_
        exact Ev.ret ⟨by simp [e1], dp⟩
      · refine aq ?_; refine zf ?_; refine wf ?_; refine zf ?_; refine wl ?_; refine zf ?_; refine wf ?_; refine zf ?_; refine wl ?_; refine zf ?_
        refine Ev.sne (fun e2 => ?_) (fun e2 => ?_)
        · refine aq ?_; refine yg ?_; refine yg ?_; refine yg ?_; refine yg ?_; refine yg ?_; refine ap ?_; refine yg ?_; refine yg ?_; refine yg ?_; refine yg ?_; refine yg ?_; refine yg ?_; refine yg ?_; refine ap ?_; refine yt ?_
          exact Ev.ret ⟨by simp [e2], dp⟩
        · refine aq ?_; refine zf ?_; refine wf ?_; refine zf ?_; refine wl ?_; refine zf ?_; refine wf ?_; refine zf ?_; refine wl ?_; refine zf ?_
          refine Ev.ine (fun e3 => ?_) (fun e3 => ?_)
          · refine aq ?_; refine yg ?_; refine yg ?_; refine yg ?_; refine yg ?_; refine yg ?_; refine yg ?_; refine yg ?_; refine ap ?_; refine yt ?_
            exact Ev.ret ⟨by simp [e3], dp⟩
          · refine aq ?_; refine zf ?_; refine wf ?_; refine zf ?_; refine wl ?_; refine zf ?_
            refine Ev.op (h3.len _) ?_
            refine zf ?_; refine wf ?_; refine zf ?_; refine wl ?_; refine zf ?_
            refine Ev.op (h3'.len _) ?_
            refine zf ?_
            refine Ev.ine (fun e4 => ?_) (fun e4 => ?_)
            · refine aq ?_; refine yt ?_
              refine Ev.ret ⟨?_, dp⟩
              rw [nEqL_len ks ks' (by omega)]
              simp
            · refine aq ?_; refine yj ?_
              unfold s11a4 s11a6
              refine (loop (by omega)).mono ?_
              rintro v h' ⟨rfl, S'⟩
              exact ⟨by simp [e1, e2, e3], S'.dropL.dropL⟩

mutual
theorem same_ok : ∀ (x y : Node) (I : Im) (A Q L : Ls) (h : Hp) (cs cs' : List DV), Sy I A Q L h → NV I x cs → NV I y cs' → Ev (fun n => shD n 11 [.a cs, .a cs'] h) (fun v h' => v = .b (nEq x y) ∧ Sy I A Q L h')
  | .mk k t m ns ts ks, .mk k' t' m' ns' ts' ks', I, A, Q, L, h, cs, cs', S, ⟨s1, s2, s3, e, a1, a2, a3, cells, F, NL⟩, ⟨s1', s2', s3', e', a1', a2', a3', cells', F', NL'⟩ => by
    subst e
    subst e'
    have o1 := a1.2.one
    have o2 := a2.2.one
    have o3 := F.one
    have o1' := a1'.2.one
    have o2' := a2'.2.one
    have o3' := F'.one
    refine Ev.enter (fun n => enter11 n _ _ h) ?_
    unfold s11
    refine Ev.box S rfl (fun b h1 S1 => ?_)
    refine Ev.box S1 rfl (fun b' h2 S2 => ?_)
    unfold s11a1
    refine wf ?_; refine wl ?_; refine wf ?_; refine wl ?_
    refine Ev.call (names_ok S2 a1 a1') ?_
    rintro _ _ ⟨rfl, rfl⟩
    unfold s11a2
    refine wf ?_; refine wl ?_; refine wf ?_; refine wl ?_
    refine Ev.call (names_ok S2 a2 a2') ?_
    rintro _ _ ⟨rfl, rfl⟩
    simp only [nEq]
    refine same_tail (by exact S2) ⟨a3, cells, F, NL⟩ ⟨a3', cells', F', NL'⟩ o1 o2 o1' o2' ?_
    intro hl
    exact same_loop ks ks' I A Q L _ _ _ [] [] b b' k k' t t' m m' s1 s2 s3 s1' s2' s3' ks ks' 0 0 ⟨a3, cells, F, NL⟩ ⟨a3', cells', F', NL'⟩ (by simp) (by simp) hl (by omega) S2 rfl rfl o3 o3'
theorem same_loop : ∀ (r r' : List Node) (I : Im) (A Q L : Ls) (h : Hp) (c c' : List DV) (L0 L1 : Ls) (b b' : Pos) (k k' : Int) (t t' : List Nat) (m m' : Int) (s1 s2 s3 s1' s2' s3' : DV) (ks ks' : List Node) (i j : Nat), NS I s3 ks → NS I s3' ks' → ks.drop i = r → ks'.drop i = r' → r.length = r'.length → i ≤ ks.length →
    Sy I A Q ((b', some (.row .ex c')) :: (b, some (.row .ex c)) :: L) h → c[5]? = some s3 → c'[5]? = some s3' → s3.one = true → s3'.one = true →
    Ev (fun n => s11a7l (shD n) n (n - j) (.p b 0) (.p b' 0) (.i .i64 (i : Int)) h) (fun v h' => v = .b (nEqL r r') ∧ Sy I A Q ((b', some (.row .ex c')) :: (b, some (.row .ex c)) :: L) h')
  | [], r', I, A, Q, L, h, c, c', L0, L1, b, b', k, k', t, t', m, m', s1, s2, s3, s1', s2', s3', ks, ks', i, j, N, N', hr, hr', hl, hi, S, g, g', o3, o3' => by
    have h2 : r' = [] := by cases r' with
      | nil => rfl
      | cons => simp at hl
    subst h2
    refine Ev.loop j (ll := fun n p => s11a7l (shD n) n p (.p b 0) (.p b' 0) (.i .i64 (i : Int)) h) (bb := fun n p => s11a7b (shD n) n (s11a7l (shD n) n p) (.p b 0) (.p b' 0) (.i .i64 (i : Int)) h) (fun _ _ => rfl) ?_
    have hl2 : i = ks.length := by
      have := congrArg List.length hr
      simp at this
      omega
    unfold s11a7b
    refine Ev.fld (Ev.op (ld1 (S.memL (List.Mem.tail _ (List.Mem.head _))) (by simpa using g) o3) ?_)
    refine Ev.op (N.len _) (Ev.ilt (fun e1 => ?_) (fun e1 => ?_))
    · omega
    · refine yj ?_
      unfold s11a5
      exact Ev.ret ⟨rfl, S⟩
  | x :: r, r', I, A, Q, L, h, c, c', L0, L1, b, b', k, k', t, t', m, m', s1, s2, s3, s1', s2', s3', ks, ks', i, j, N, N', hr, hr', hl, hi, S, g, g', o3, o3' => by
    obtain ⟨y, r', rfl⟩ : ∃ y q, r' = y :: q := by cases r' with
      | nil => simp at hl
      | cons y q => exact ⟨y, q, rfl⟩
    refine Ev.loop j (ll := fun n p => s11a7l (shD n) n p (.p b 0) (.p b' 0) (.i .i64 (i : Int)) h) (bb := fun n p => s11a7b (shD n) n (s11a7l (shD n) n p) (.p b 0) (.p b' 0) (.i .i64 (i : Int)) h) (fun _ _ => rfl) ?_
    have hx : ks[i]? = some x := by
      have := congrArg (fun l => l[0]?) hr
      simpa using this
    have hy : ks'[i]? = some y := by
      have := congrArg (fun l => l[0]?) hr'
      simpa using this
    have hlt := (List.getElem?_eq_some_iff.1 hx).1
    have e1' : ks.drop (i + 1) = r := by
      have := congrArg (List.drop 1) hr
      simpa [List.drop_drop] using this
    have e2' : ks'.drop (i + 1) = r' := by
      have := congrArg (List.drop 1) hr'
      simpa [List.drop_drop] using this
    have hb := N.1
    unfold s11a7b
    have l1 := fun {h} (S : Sy I A Q ((b', some (.row .ex c')) :: (b, some (.row .ex c)) :: L) h) => ld1 (o := 0 + 5) (S.memL (List.Mem.tail _ (List.Mem.head _))) (by simpa using g) o3
    have l2 := fun {h} (S : Sy I A Q ((b', some (.row .ex c')) :: (b, some (.row .ex c)) :: L) h) => ld1 (o := 0 + 5) (S.memL (List.Mem.head _)) (by simpa using g') o3'
    refine Ev.fld (Ev.op (l1 S) ?_)
    refine Ev.op (N.len _) (Ev.ilt (fun e1 => ?_) (fun e1 => ?_))
    · refine yt ?_; refine wf ?_
      refine Ev.op (l1 S) ?_
      obtain ⟨p1, q1, d1, u1, u2, u3⟩ := N.at hx
      obtain ⟨p2, q2, d2, v1, v2, v3⟩ := N'.at hy
      refine Ev.op (u1 _) (Ev.op (u3 _ _ _ _ _ (ILe.refl _) S) (Ev.fld (Ev.op (l2 S) (Ev.op (v1 _) (Ev.op (v3 _ _ _ _ _ (ILe.refl _) S) ?_)))))
      refine Ev.call (same_ok x y I A Q _ h d1 d2 S u2 v2) ?_
      rintro _ h1 ⟨rfl, S1⟩
      simp only [nEqL]
      cases e : nEq x y with
      | false =>
        refine ao ?_; refine yt ?_
        exact Ev.ret ⟨by simp, S1⟩
      | true =>
        refine an ?_; refine yj ?_
        refine Ev.iadd ?_
        rw [wadd1 (by omega)]
        refine (same_loop r r' I A Q L h1 c c' L0 L1 b b' k k' t t' m m' s1 s2 s3 s1' s2' s3' ks ks' (i + 1) (j + 1) N N' e1' e2' (by simpa using hl) (by omega) S1 g g' o3 o3').mono ?_
        rintro v h' ⟨rfl, S2⟩
        exact ⟨by simp, S2⟩
    · omega
end

end Go.Dd

/- Dd, part B1: plain: what the program's parser says does not depend on where its tokens stand, but for a number right behind a sign. -/
set_option linter.unusedVariables false
set_option linter.unusedSimpArgs false
set_option maxRecDepth 100000
namespace Go.Dd

def TE (t u : Tok) : Prop := t.kind = u.kind ∧ t.text = u.text ∧ t.num = u.num

def Sim (l l' : List Tok) : Prop := l.length = l'.length ∧ ∀ (i : Nat) (t : Tok), l[i]? = some t → ∃ t', l'[i]? = some t' ∧ TE t t' ∧
  (t.kind = 3 → ∀ u u', l[i + 1]? = some u → u.kind = 4 → l'[i + 1]? = some u' → (u.pos = w64 (t.pos + 1) ↔ u'.pos = w64 (t'.pos + 1)))

def Rs (a b : PSt) : Prop := Sim a.toks b.toks ∧ a.deep = b.deep ∧ a.err = b.err

def RO {α : Type} (V : α → α → Prop) (o o' : Option (α × PSt)) : Prop := ∀ x s, o = some (x, s) → ∃ y s', o' = some (y, s') ∧ V x y ∧ Rs s s'

section
variable {α β : Type} {V : α → α → Prop} {W : β → β → Prop}
theorem RO.bind {o o' : Option (α × PSt)} {k k' : α × PSt → Option (β × PSt)} (H : RO V o o') (K : ∀ x y s s', V x y → Rs s s' → RO W (k (x, s)) (k' (y, s'))) : RO W (o.bind k) (o'.bind k') := by
  intro y t e
  obtain ⟨⟨x, s⟩, e1, e2⟩ := Option.bind_eq_some_iff.1 e
  obtain ⟨x', s', a, b, c⟩ := H x s e1
  obtain ⟨y', t', d⟩ := K x x' s s' b c y t e2
  exact ⟨y', t', by rw [a]; exact d.1, d.2⟩
theorem RO.bindB {γ : Type} {o o' : Option γ} {k k' : γ → Option (β × PSt)} (H : ∀ b, o = some b → o' = some b) (K : ∀ b, o = some b → RO W (k b) (k' b)) : RO W (o.bind k) (o'.bind k') := by
  intro y t e
  obtain ⟨x, e1, e2⟩ := Option.bind_eq_some_iff.1 e
  obtain ⟨y', t', d⟩ := K x e1 y t e2
  exact ⟨y', t', by rw [H x e1]; exact d.1, d.2⟩
theorem RO.bindT {o o' : Option Tok} {k k' : Tok → Option (β × PSt)} (H : ∀ b, o = some b → ∃ b', o' = some b' ∧ TE b b') (K : ∀ b b', TE b b' → RO W (k b) (k' b')) : RO W (o.bind k) (o'.bind k') := by
  intro y t e
  obtain ⟨x, e1, e2⟩ := Option.bind_eq_some_iff.1 e
  obtain ⟨x', a, b⟩ := H x e1
  obtain ⟨y', t', d⟩ := K x x' b y t e2
  exact ⟨y', t', by rw [a]; exact d.1, d.2⟩
theorem RO.bindS {o o' : Option PSt} {k k' : PSt → Option (β × PSt)} (H : ∀ s, o = some s → ∃ s', o' = some s' ∧ Rs s s') (K : ∀ s s', Rs s s' → RO W (k s) (k' s')) : RO W (o.bind k) (o'.bind k') := by
  intro y t e
  obtain ⟨x, e1, e2⟩ := Option.bind_eq_some_iff.1 e
  obtain ⟨x', a, b⟩ := H x e1
  obtain ⟨y', t', d⟩ := K x x' b y t e2
  exact ⟨y', t', by rw [a]; exact d.1, d.2⟩
theorem RO.some {x y : α} {s s' : PSt} (h : V x y) (r : Rs s s') : RO V (some (x, s)) (some (y, s')) := fun _ _ e => by
  cases e; exact ⟨_, _, rfl, h, r⟩
theorem RO.none {o : Option (α × PSt)} : RO V none o := fun _ _ e => by cases e
end

variable {s s' : PSt}

theorem look_R (R : Rs s s') (k : Nat) : ∀ t, lookS s k = some t → ∃ t', lookS s' k = some t' ∧ TE t t' := by
  intro t h
  unfold lookS at h ⊢
  obtain ⟨t', a, b, _⟩ := R.1.2 _ t h
  exact ⟨t', by rw [← R.1.1]; exact a, b⟩

theorem is_R (R : Rs s s') (k : Int) (t : List Nat) : ∀ b, isS s k t = some b → isS s' k t = some b := by
  intro b h
  unfold isS at h ⊢
  obtain ⟨x, e1, e2⟩ := Option.bind_eq_some_iff.1 h
  obtain ⟨x', a, b1, b2, b3⟩ := look_R R 0 x e1
  rw [a, Option.bind_some, ← R.2.2, ← b1, ← b2]
  exact e2

theorem fail_R (R : Rs s s') (t t' : Tok) (e : Int) : Rs (failS s t e) (failS s' t' e) := by
  unfold failS
  rw [← R.2.2]
  split
  · exact ⟨R.1, R.2.1, rfl⟩
  · exact R

theorem Sim.drop {l l' : List Tok} (h : Sim l l') (n : Nat) : Sim (l.drop n) (l'.drop n) := by
  refine ⟨by simp [h.1], fun i t ht => ?_⟩
  rw [List.getElem?_drop] at ht
  obtain ⟨t', a, b, c⟩ := h.2 _ t ht
  refine ⟨t', by rw [List.getElem?_drop]; exact a, b, fun k u u' hu k2 hu' => ?_⟩
  rw [List.getElem?_drop] at hu hu'
  exact c k u u' hu k2 hu'

theorem take_R (R : Rs s s') : RO TE (takeS s) (takeS s') := by
  unfold takeS
  refine RO.bindT (look_R R 0) fun t t' h => ?_
  rw [← h.1]
  by_cases h0 : t.kind = 0
  · rw [if_pos h0, if_pos h0]; exact RO.some h R
  · rw [if_neg h0, if_neg h0, ← R.1.1]
    split
    · exact RO.some h ⟨R.1.drop 1, R.2⟩
    · exact RO.none

theorem TE.refl (t : Tok) : TE t t := ⟨rfl, rfl, rfl⟩

theorem need_R (R : Rs s s') (k : Int) (t : List Nat) : RO TE (needS s k t) (needS s' k t) := by
  unfold needS
  refine RO.bindB (is_R R k t) fun b _ => ?_
  cases b with
  | true => exact take_R R
  | false =>
    simp only [Bool.false_eq_true, if_false]
    exact RO.bindT (look_R R 0) fun t t' h => RO.some (TE.refl _) (fail_R R _ _ _)

theorem name_R (R : Rs s s') (k : Int) (n : Nat) : RO Eq (nameS s k n) (nameS s' k n) := by
  unfold nameS
  refine RO.bind (need_R R k []) fun x y a b h R2 => ?_
  refine RO.some h.2.1 ?_
  show Rs (if n = 4 then failS a x 18 else a) (if n = 4 then failS b y 18 else b)
  split
  · exact fail_R R2 _ _ _
  · exact R2

theorem neg_R (R : Rs s s') : ∀ c, negS s = some c → negS s' = some c := by
  intro c h
  unfold negS at h ⊢
  obtain ⟨t, e1, h⟩ := Option.bind_eq_some_iff.1 h
  obtain ⟨d, e2, h⟩ := Option.bind_eq_some_iff.1 h
  obtain ⟨u, e3, h⟩ := Option.bind_eq_some_iff.1 h
  simp only [Option.some.injEq] at h
  obtain ⟨t', f1, g1⟩ := look_R R 1 t e1
  obtain ⟨u', f3, g3⟩ := look_R R 0 u e3
  have f2 := is_R R 3 [45] d e2
  rw [f1, Option.bind_some, f2, Option.bind_some, f3, Option.bind_some]
  rw [← h]
  congr 1
  rw [← g1.1]
  cases d with
  | false => simp
  | true =>
    by_cases k4 : t.kind = 4
    · simp only [k4, decide_true, Bool.true_and]
      unfold isS at e2
      rw [e3, Option.bind_some] at e2
      simp only [Option.some.injEq, Bool.and_eq_true, decide_eq_true_eq] at e2
      obtain ⟨⟨z1, z2⟩, z3⟩ := e2
      unfold lookS at e1 e3 f1 f3
      have hl := R.1.1
      have h0 : 0 < s.toks.length := by have := (List.getElem?_eq_some_iff.1 e3).1; omega
      by_cases h1 : s.toks.length = 1
      · exfalso
        rw [h1] at e1 e3
        simp at e1 e3
        rw [e1] at e3
        cases e3
        omega
      · rw [show min 1 (s.toks.length - 1) = 1 by omega] at e1
        rw [show min 0 (s.toks.length - 1) = 0 by omega] at e3
        rw [show min 1 (s'.toks.length - 1) = 1 by omega] at f1
        rw [show min 0 (s'.toks.length - 1) = 0 by omega] at f3
        obtain ⟨u2, p1, p2, p3⟩ := R.1.2 0 u e3
        rw [f3] at p1
        cases p1
        have := p3 z2 t t' e1 k4 f1
        simp only [this]
    · simp [k4]

theorem plain_R (R : Rs s s') : RO Eq (plainS s) (plainS s') := by
  unfold plainS
  refine RO.bindT (look_R R 0) fun t t' h => ?_
  rw [← R.2.2, ← h.1, ← h.2.1, ← h.2.2]
  by_cases he : s.err = 0
  · rw [if_pos he, if_pos he]
    refine RO.bindB (neg_R R) fun c _ => ?_
    cases c with
    | true =>
      simp only [if_true]
      exact RO.bind (take_R R) fun x y a b _ R2 => RO.bind (take_R R2) fun x y a b h R3 => RO.some (by rw [h.2.2]) R3
    | false =>
      simp only [Bool.false_eq_true, if_false]
      split
      · exact RO.bind (take_R R) fun x y a b _ R2 => RO.some rfl R2
      · split
        · exact RO.bind (take_R R) fun x y a b _ R2 => RO.some rfl R2
        · split
          · exact RO.bind (take_R R) fun x y a b _ R2 => RO.some rfl R2
          · exact RO.some rfl R
  · rw [if_neg he, if_neg he]
    exact RO.some rfl R

def PR (f : PF) : Prop := ∀ s s', Rs s s' → RO Eq (f s) (f s')

theorem within_R {f : PF} (F : PR f) : PR (withinS f) := by
  intro s s' R
  unfold withinS
  refine RO.bind (take_R R) fun x y a b h R2 => ?_
  show RO Eq (if a.deep = 20 then _ else _) (if b.deep = 20 then _ else _)
  rw [← R2.2.1]
  split
  · exact RO.some rfl (fail_R R2 _ _ _)
  · refine RO.bind (F _ _ ⟨R2.1, rfl, R2.2.2⟩) fun x y c d h R3 => ?_
    subst h
    exact RO.some rfl ⟨R3.1, by show w64 (c.deep - 1) = w64 (d.deep - 1); rw [R3.2.1], R3.2.2⟩

theorem unary_R : ∀ (f : Nat) (x : Node), PR (unaryS f x)
  | 0, x => fun s s' R => RO.none
  | f + 1, x => fun s s' R => by
    unfold unaryS
    refine RO.bindB (is_R R _ _) fun c _ => ?_
    cases c with
    | true =>
      refine RO.bind (take_R R) fun t u a b h R2 => ?_
      show RO Eq (unaryS f (sendN t.text [x]) a) (unaryS f (sendN u.text [x]) b)
      rw [h.2.1]
      exact unary_R f _ _ _ R2
    | false => exact RO.some rfl R

theorem tempsL_R : ∀ (f : Nat) (l : List (List Nat)) (s s' : PSt), Rs s s' → RO Eq (tempsL f l s) (tempsL f l s')
  | 0, l, s, s', R => RO.none
  | f + 1, l, s, s', R => by
    unfold tempsL
    refine RO.bindB (is_R R _ _) fun c _ => ?_
    cases c with
    | true =>
      refine RO.bind (take_R R) fun t u a b h R2 => ?_
      show RO Eq (tempsL f (l ++ [t.text]) a) (tempsL f (l ++ [u.text]) b)
      rw [h.2.1]
      exact tempsL_R f _ _ _ R2
    | false => exact RO.bind (need_R R _ _) fun x y a b _ R2 => RO.some rfl R2

theorem temps_R (f : Nat) (R : Rs s s') : RO Eq (tempsS f s) (tempsS f s') := by
  unfold tempsS
  refine RO.bindB (is_R R _ _) fun c _ => ?_
  cases c with
  | true => exact RO.bind (take_R R) fun t u a b h R2 => tempsL_R f [] _ _ R2
  | false => exact RO.some rfl R

theorem inner_R {E : PF} (F : PR E) : PR (innerS E) := by
  intro s s' R
  unfold innerS
  refine RO.bind (F _ _ R) fun x y a b h R2 => ?_
  subst h
  exact RO.bind (need_R R2 _ _) fun _ _ _ _ _ R3 => RO.some rfl R3

theorem litsL_R {LI : PF} (F : PR LI) : ∀ (f : Nat) (xs : List Node) (s s' : PSt), Rs s s' → RO Eq (litsL LI f xs s) (litsL LI f xs s')
  | 0, xs, s, s', R => RO.none
  | f + 1, xs, s, s', R => by
    unfold litsL
    rw [← R.2.2]
    split
    · refine RO.bindB (is_R R _ _) fun c _ => ?_
      cases c with
      | true => exact RO.some rfl R
      | false =>
        refine RO.bind (plain_R R) fun x y a b h R2 => ?_
        subst h
        show RO Eq (if x.2 = true then litsL LI f (xs ++ [x.1]) a else _) (if x.2 = true then litsL LI f (xs ++ [x.1]) b else _)
        split
        · exact litsL_R F f _ _ _ R2
        · refine RO.bindB (is_R R2 _ _) fun c1 _ => ?_
          have step : ∀ c2, RO Eq (if c2 = true then (withinS LI a).bind fun q => litsL LI f (xs ++ [q.1]) q.2 else (lookS a 0).bind fun t => litsL LI f (xs ++ [x.1]) (failS a t 13))
              (if c2 = true then (withinS LI b).bind fun q => litsL LI f (xs ++ [q.1]) q.2 else (lookS b 0).bind fun t => litsL LI f (xs ++ [x.1]) (failS b t 13)) := by
            intro c2
            cases c2 with
            | true =>
              refine RO.bind (within_R F _ _ R2) fun x y a b h R3 => ?_
              subst h
              exact litsL_R F f _ _ _ R3
            | false => exact RO.bindT (look_R R2 0) fun t t' h => litsL_R F f _ _ _ (fail_R R2 _ _ _)
          cases c1 with
          | true => exact step true
          | false => exact RO.bindB (is_R R2 _ _) fun c2 _ => step c2
    · exact RO.some rfl R

theorem literals_R {LI : PF} (F : PR LI) (f : Nat) : PR (literalsS LI f) := by
  intro s s' R
  unfold literalsS
  refine RO.bind (litsL_R F f [] _ _ R) fun x y a b h R2 => ?_
  subst h
  exact RO.bind (take_R R2) fun _ _ _ _ _ R3 => RO.some rfl R3

theorem paramsL_R : ∀ (f : Nat) (l : List (List Nat)) (s s' : PSt), Rs s s' → RO Eq (paramsL f l s) (paramsL f l s')
  | 0, l, s, s', R => RO.none
  | f + 1, l, s, s', R => by
    unfold paramsL
    refine RO.bindB (is_R R _ _) fun c _ => ?_
    cases c with
    | true =>
      refine RO.bind (name_R R _ _) fun x y a b h R2 => ?_
      subst h
      exact paramsL_R f _ _ _ R2
    | false => exact RO.some rfl R

theorem stmtsL_R {E : PF} (F : PR E) : ∀ (f : Nat) (xs : List Node) (s s' : PSt), Rs s s' → RO Eq (stmtsL E f xs s) (stmtsL E f xs s')
  | 0, xs, s, s', R => RO.none
  | f + 1, xs, s, s', R => by
    unfold stmtsL
    rw [← R.2.2]
    split
    · refine RO.bindB (is_R R _ _) fun c _ => ?_
      cases c with
      | true => exact RO.some rfl R
      | false =>
        refine RO.bindB (is_R R _ _) fun c _ => ?_
        cases c with
        | true => exact RO.some rfl R
        | false =>
          refine RO.bindB (is_R R _ _) fun c _ => ?_
          cases c with
          | true =>
            refine RO.bind (take_R R) fun _ _ a b _ R2 => ?_
            refine RO.bind (F _ _ R2) fun x y a b h R3 => ?_
            subst h
            refine RO.bindB (is_R R3 _ _) fun c _ => ?_
            cases c with
            | true => exact RO.bind (take_R R3) fun _ _ _ _ _ R4 => RO.some rfl R4
            | false => exact RO.some rfl R3
          | false =>
            refine RO.bind (F _ _ R) fun x y a b h R3 => ?_
            subst h
            refine RO.bindB (is_R R3 _ _) fun c _ => ?_
            cases c with
            | true => exact RO.bind (take_R R3) fun _ _ _ _ _ R4 => stmtsL_R F f _ _ _ R4
            | false => exact RO.some rfl R3
    · exact RO.some rfl R

theorem bar_R (l : List (List Nat)) (R : Rs s s') : ∀ t, bar l s = some t → ∃ t', bar l s' = some t' ∧ Rs t t' := by
  intro t h
  unfold bar at h ⊢
  split at h
  · rename_i hl
    rw [if_pos hl]
    obtain ⟨c, e, h⟩ := Option.bind_eq_some_iff.1 h
    rw [is_R R _ _ c e, Option.bind_some]
    cases c with
    | true => cases h; exact ⟨_, rfl, R⟩
    | false =>
      simp only [Bool.false_eq_true, if_false] at h ⊢
      obtain ⟨⟨x, a⟩, e2, h⟩ := Option.bind_eq_some_iff.1 h
      cases h
      obtain ⟨y, b, e3, _, R2⟩ := need_R R 10 [124] x a e2
      exact ⟨b, by rw [e3]; rfl, R2⟩
  · rename_i hl
    rw [if_neg hl]
    cases h; exact ⟨_, rfl, R⟩

theorem block_R {E : PF} (F : PR E) (f : Nat) : PR (blockS E f) := by
  intro s s' R
  unfold blockS
  refine RO.bind (paramsL_R f [] _ _ R) fun x y a b h R2 => ?_
  subst h
  refine RO.bindS (bar_R x R2) fun a b R3 => ?_
  refine RO.bind (temps_R f R3) fun y y' a b h R4 => ?_
  subst h
  refine RO.bind (stmtsL_R F f [] _ _ R4) fun z z' a b h R5 => ?_
  subst h
  exact RO.bind (need_R R5 _ _) fun _ _ _ _ _ R6 => RO.some rfl R6

theorem primary_R {LI E : PF} (FL : PR LI) (FE : PR E) (f : Nat) : PR (primaryS LI E f) := by
  intro s s' R
  unfold primaryS
  refine RO.bind (plain_R R) fun x y a b h R2 => ?_
  subst h
  show RO Eq (if x.2 = true then _ else _) (if x.2 = true then _ else _)
  split
  · exact RO.some rfl R2
  · refine RO.bindT (look_R R2 0) fun t t' h => ?_
    show RO Eq (if a.err = 0 then _ else _) (if b.err = 0 then _ else _)
    rw [← R2.2.2, ← h.1]
    split
    · split
      · refine RO.bind (take_R R2) fun u u' a b h R3 => ?_
        show RO Eq (some (Node.mk 5 u.text 0 [] [] [], a)) (some (Node.mk 5 u'.text 0 [] [] [], b))
        rw [h.2.1]
        exact RO.some rfl R3
      · split
        · exact within_R FL _ _ R2
        · refine RO.bindB (is_R R2 _ _) fun c _ => ?_
          cases c with
          | true => exact within_R (inner_R FE) _ _ R2
          | false =>
            refine RO.bindB (is_R R2 _ _) fun c _ => ?_
            cases c with
            | true => exact within_R (block_R FE f) _ _ R2
            | false => exact RO.some rfl (fail_R R2 _ _ _)
    · exact RO.some rfl R2

theorem binaryL_R {P : PF} (F : PR P) (g : Nat) : ∀ (f : Nat) (x : Node), PR (binaryL P g f x)
  | 0, x => fun s s' R => RO.none
  | f + 1, x => fun s s' R => by
    unfold binaryL
    refine RO.bindB (is_R R _ _) fun c _ => ?_
    cases c with
    | true =>
      refine RO.bind (take_R R) fun t u a b h R2 => ?_
      refine RO.bind (F _ _ R2) fun y y' a b h2 R3 => ?_
      subst h2
      refine RO.bind (unary_R g y _ _ R3) fun z z' a b h2 R4 => ?_
      subst h2
      show RO Eq (binaryL P g f (sendN t.text [x, z]) a) (binaryL P g f (sendN u.text [x, z]) b)
      rw [h.2.1]
      exact binaryL_R F g f _ _ _ R4
    | false => exact RO.some rfl R

theorem keysL_R {P : PF} (F : PR P) (g : Nat) : ∀ (f : Nat) (t : List Nat) (ks : List Node), PR (keysL P g f t ks)
  | 0, t, ks => fun s s' R => RO.none
  | f + 1, t, ks => fun s s' R => by
    unfold keysL
    refine RO.bindB (is_R R _ _) fun c _ => ?_
    cases c with
    | true =>
      refine RO.bind (take_R R) fun x u a b h R2 => ?_
      show RO Eq (if t.length + x.text.length ≤ lim then _ else _) (if t.length + u.text.length ≤ lim then _ else _)
      rw [← h.2.1]
      split
      · refine RO.bind (F _ _ R2) fun y y' a b h2 R3 => ?_
        subst h2
        refine RO.bind (unary_R g y _ _ R3) fun z z' a b h2 R4 => ?_
        subst h2
        refine RO.bind (binaryL_R F g g z _ _ R4) fun w w' a b h2 R5 => ?_
        subst h2
        exact keysL_R F g f _ _ _ _ R5
      · exact RO.none
    | false => exact RO.some rfl R

theorem keys_R {P : PF} (F : PR P) (g : Nat) (x : Node) : PR (keysS P g x) := by
  intro s s' R
  unfold keysS
  refine RO.bindB (is_R R _ _) fun c _ => ?_
  cases c with
  | true => exact keysL_R F g g [] [x] _ _ R
  | false => exact RO.some rfl R

theorem msg_R {P : PF} (F : PR P) (g : Nat) : PR (msgS P g) := by
  intro s s' R
  unfold msgS
  refine RO.bindT (look_R R 0) fun t t' h => ?_
  rw [← h.1, ← h.2.1]
  split
  · exact RO.bind (take_R R) fun _ _ _ _ _ R2 => RO.some rfl R2
  · split
    · refine RO.bind (take_R R) fun _ _ _ _ _ R2 => ?_
      refine RO.bind (F _ _ R2) fun y y' a b h2 R3 => ?_
      subst h2
      refine RO.bind (unary_R g y _ _ R3) fun z z' a b h2 R4 => ?_
      subst h2
      exact RO.some rfl R4
    · split
      · exact keys_R F g zN _ _ R
      · exact RO.some rfl (fail_R R _ _ _)

theorem casL_R {P : PF} (F : PR P) (g : Nat) : ∀ (f : Nat) (ks : List Node), PR (casL P g f ks)
  | 0, ks => fun s s' R => RO.none
  | f + 1, ks => fun s s' R => by
    unfold casL
    refine RO.bindB (is_R R _ _) fun c _ => ?_
    cases c with
    | true =>
      refine RO.bind (take_R R) fun _ _ _ _ _ R2 => ?_
      refine RO.bind (msg_R F g _ _ R2) fun y y' a b h2 R3 => ?_
      subst h2
      exact casL_R F g f _ _ _ R3
    | false => exact RO.some rfl R

theorem cascade_R {P : PF} (F : PR P) (g : Nat) : PR (cascadeS P g) := by
  intro s s' R
  unfold cascadeS
  refine RO.bind (F _ _ R) fun y y' a b h2 R2 => ?_
  subst h2
  refine RO.bind (unary_R g y _ _ R2) fun z z' a b h2 R3 => ?_
  subst h2
  refine RO.bind (binaryL_R F g g z _ _ R3) fun w w' a b h2 R4 => ?_
  subst h2
  refine RO.bind (keys_R F g w _ _ R4) fun n n' a b h2 R5 => ?_
  subst h2
  refine RO.bindB (is_R R5 _ _) fun c _ => ?_
  cases c with
  | true =>
    show RO Eq (if n.kind = 7 then _ else _) (if n.kind = 7 then _ else _)
    split
    · refine RO.bindB (fun b e => e) fun k0 _ => ?_
      exact casL_R F g g _ _ _ R5
    · exact RO.bindT (look_R R5 0) fun t t' h => RO.some rfl (fail_R R5 _ _ _)
  | false => exact RO.some rfl R5

theorem expr_R {P E : PF} (F : PR P) (FE : PR E) (g : Nat) : PR (exprS P E g) := by
  intro s s' R
  unfold exprS
  refine RO.bindB (is_R R _ _) fun c _ => ?_
  have step : ∀ d, RO Eq (if d = true then (takeS s).bind fun r => (takeS r.2).bind fun q => (E q.2).bind fun u => some (Node.mk 6 r.1.text 0 [] [] [u.1], u.2) else cascadeS P g s)
      (if d = true then (takeS s').bind fun r => (takeS r.2).bind fun q => (E q.2).bind fun u => some (Node.mk 6 r.1.text 0 [] [] [u.1], u.2) else cascadeS P g s') := by
    intro d
    cases d with
    | true =>
      refine RO.bind (take_R R) fun t u _ _ h R2 => ?_
      refine RO.bind (take_R R2) fun _ _ _ _ _ R3 => ?_
      refine RO.bind (FE _ _ R3) fun y y' a b h2 R4 => ?_
      subst h2
      show RO Eq (some (Node.mk 6 t.text 0 [] [] [y], a)) (some (Node.mk 6 u.text 0 [] [] [y], b))
      rw [h.2.1]
      exact RO.some rfl R4
    | false => exact cascade_R F g _ _ R
  refine RO.bindB ?_ fun d _ => step d
  intro d hd
  cases c with
  | true =>
    simp only [if_true] at hd ⊢
    obtain ⟨t, e1, e2⟩ := Option.bind_eq_some_iff.1 hd
    obtain ⟨t', a, b⟩ := look_R R 1 t e1
    rw [a, Option.bind_some, ← b.1]
    exact e2
  | false => exact hd

theorem litF_R : ∀ f, PR (litF f)
  | 0 => fun s s' R => RO.none
  | f + 1 => literals_R (litF_R f) f
theorem exprF_R : ∀ f, PR (exprF f)
  | 0 => fun s s' R => RO.none
  | f + 1 => expr_R (primary_R (litF_R f) (exprF_R f) f) (exprF_R f) f

/-- What is behind a head: temporaries and statements, and no more. -/
def tailM (f : Nat) (x : Node) (st : PSt) : Option (Node × PSt) := (tempsS f st).bind fun b => (stmtsL (exprF f) f [] b.2).bind fun c => (needS c.2 0 []).bind fun d => some (x.with b.1 c.1, d.2)

theorem tail_R (f : Nat) (x : Node) : PR (tailM f x) := by
  intro s s' R
  unfold tailM
  refine RO.bind (temps_R f R) fun y y' a b h2 R2 => ?_
  subst h2
  refine RO.bind (stmtsL_R (exprF_R f) f [] _ _ R2) fun z z' a b h2 R3 => ?_
  subst h2
  exact RO.bind (need_R R3 _ _) fun _ _ _ _ _ R4 => RO.some rfl R4

theorem readM_tail (H : PF) (f : Nat) (l : List Tok) : readM H f (l, 0, 0) = (H ⟨l, 0, 0, 0⟩).bind fun a => (tailM f a.1 a.2).bind fun d => if d.2.err = 0 then some (d.1, 0, 0) else some (zN, d.2.pos, d.2.err) := by
  unfold readM tailM
  rw [if_pos rfl]
  cases H ⟨l, 0, 0, 0⟩ with
  | none => rfl
  | some a =>
    simp only [Option.bind_some]
    cases tempsS f a.2 with
    | none => rfl
    | some b =>
      simp only [Option.bind_some]
      cases stmtsL (exprF f) f [] b.2 with
      | none => rfl
      | some c =>
        simp only [Option.bind_some]
        cases needS c.2 0 [] with
        | none => rfl
        | some d => rfl

/-- Sources whose tokens are alike are read alike, if they are read. -/
theorem doit_sim {f : Nat} {l l' : List Tok} (h : Sim l l') {x : Node} {a : Int} (e : readM doitS f (l, 0, 0) = some (x, a, 0)) : readM doitS f (l', 0, 0) = some (x, 0, 0) := by
  rw [readM_tail] at e ⊢
  unfold doitS at e ⊢
  simp only [Option.bind_some] at e ⊢
  obtain ⟨⟨y, st⟩, e1, e2⟩ := Option.bind_eq_some_iff.1 e
  obtain ⟨y', st', e3, rfl, R⟩ := tail_R f _ ⟨l, 0, 0, 0⟩ ⟨l', 0, 0, 0⟩ ⟨h, rfl, rfl⟩ y st e1
  rw [e3, Option.bind_some]
  by_cases he : st.err = 0
  · rw [if_pos he] at e2
    cases e2
    rw [if_pos (show st'.err = 0 by rw [← R.2.2]; exact he)]
  · rw [if_neg he] at e2
    simp only [Option.some.injEq, Prod.mk.injEq] at e2
    exact absurd e2.2.2 he

end Go.Dd

/- Dd, part B2: plain: a token is the same, whatever else stands behind it. -/
set_option linter.unusedVariables false
set_option linter.unusedSimpArgs false
set_option maxRecDepth 100000
namespace Go.Dd

/-- A byte behind a token that ends it. -/
def stopB (c : Nat) : Prop := nameB c = false ∧ c ≠ 58 ∧ c ≠ 61 ∧ inB signs c = false ∧ c ≠ 39
def Stop (v : List Nat) : Prop := ∃ c r, v = c :: r ∧ stopB c
def Stop3 (v : List Nat) : Prop := ∃ c r, v = c :: r ∧ inB signs c = false

theorem Stop.three {v : List Nat} (h : Stop v) : Stop3 v := by
  obtain ⟨c, r, e, _, _, _, h, _⟩ := h
  exact ⟨c, r, e, h⟩

theorem stop_blank {c : Nat} (h : inB blanks c = true) : stopB c := by
  have : c = 9 ∨ c = 10 ∨ c = 13 ∨ c = 32 := by simpa [inB, blanks] using h
  rcases this with rfl | rfl | rfl | rfl <;> refine ⟨by decide, by decide, by decide, by decide, by decide⟩
theorem stop_quote : stopB 34 := ⟨by decide, by decide, by decide, by decide, by decide⟩

theorem letter_name {c : Nat} (h : nameB c = false) : letterB c = false := by
  unfold nameB at h
  cases e : letterB c with
  | false => rfl
  | true => rw [e] at h; simp at h

theorem tw_cut (so : Nat → Bool) : ∀ (u : List Nat) (k : Nat) (v : List Nat), (∀ c r, v = c :: r → so c = false) → (u.takeWhile so).length ≤ k → k ≤ u.length → (u.take k ++ v).takeWhile so = u.takeWhile so
  | [], k, v, hv, h1, h2 => by
    have : k = 0 := by simpa using h2
    subst this
    cases v with
    | nil => rfl
    | cons c r => simp [hv c r rfl]
  | a :: u, 0, v, hv, h1, h2 => by
    have ha : so a = false := by
      cases e : so a with
      | false => rfl
      | true => simp [e] at h1
    cases v with
    | nil => simp [ha]
    | cons c r => simp [hv c r rfl, ha]
  | a :: u, k + 1, v, hv, h1, h2 => by
    cases e : so a with
    | false => simp [e]
    | true =>
      simp [e] at h1 h2
      have := tw_cut so u k v hv h1 h2
      simp [e, this]

theorem tw_cut2 (so : Nat → Bool) : ∀ (u : List Nat) (k : Nat) (v : List Nat), (u.takeWhile so).length < k → k ≤ u.length → (u.take k ++ v).takeWhile so = u.takeWhile so
  | [], k, v, h1, h2 => by simp at h1 h2; omega
  | a :: u, 0, v, h1, h2 => by omega
  | a :: u, k + 1, v, h1, h2 => by
    cases e : so a with
    | false => simp [e]
    | true =>
      simp [e] at h1 h2
      have := tw_cut2 so u k v h1 h2
      simp [e, this]

theorem run_cut (so : Nat → Bool) : ∀ (m : Nat) (u : List Nat) (k : Nat) (v : List Nat), (∀ c r, v = c :: r → so c = false) → runN so m u ≤ k → k ≤ u.length → runN so m (u.take k ++ v) = runN so m u
  | 0, u, k, v, hv, h1, h2 => rfl
  | m + 1, [], k, v, hv, h1, h2 => by
    have : k = 0 := by simpa using h2
    subst this
    cases v with
    | nil => rfl
    | cons c r => simp [runN, hv c r rfl]
  | m + 1, a :: u, 0, v, hv, h1, h2 => by
    have ha : so a = false := by
      cases e : so a with
      | false => rfl
      | true => simp [runN, e] at h1
    cases v with
    | nil => simp [runN, ha]
    | cons c r => simp [runN, hv c r rfl, ha]
  | m + 1, a :: u, k + 1, v, hv, h1, h2 => by
    cases e : so a with
    | false => simp [runN, e]
    | true =>
      simp [runN, e] at h1 h2
      have := run_cut so m u k v hv h1 h2
      simp [runN, e, this]

theorem nx_cut {u v : List Nat} {k j : Nat} (h : j < k) (hk : k ≤ u.length) : nx (u.take k ++ v) j = nx u j := by
  unfold nx
  rw [List.getD, List.getD, List.getElem?_append_left (by simp; omega), List.getElem?_take_of_lt h]
theorem nx_at {u v : List Nat} {k : Nat} (hk : k ≤ u.length) : nx (u.take k ++ v) k = nx v 0 := by
  unfold nx
  rw [List.getD, List.getD, List.getElem?_append_right (by simp; omega)]
  simp [Nat.min_eq_left hk]
theorem drop_cut {u v : List Nat} {k j : Nat} (h : j ≤ k) (hk : k ≤ u.length) : (u.take k ++ v).drop j = (u.drop j).take (k - j) ++ v := by
  rw [List.drop_append_of_le_length (by simp; omega), List.drop_take]
theorem nxd (u : List Nat) (j k : Nat) : nx (u.drop j) k = nx u (j + k) := by
  unfold nx
  rw [List.getD, List.getD, List.getElem?_drop]

theorem nm_cut {u v : List Nat} {k : Nat} (hv : ∀ c r, v = c :: r → nameB c = false) (h1 : (nameM u).2.2 ≤ k) (h2 : k ≤ u.length) : nameM (u.take k ++ v) = nameM u := by
  rw [nameM_len] at h1
  unfold nameM
  rw [tw_cut nameB u k v hv h1 h2]

theorem Stop.name {v : List Nat} (h : Stop v) : ∀ c r, v = c :: r → nameB c = false := by
  obtain ⟨c, r, rfl, h, _⟩ := h
  intro c' r' e
  cases e; exact h
theorem Stop.signs {v : List Nat} (h : Stop3 v) : ∀ c r, v = c :: r → inB signs c = false := by
  obtain ⟨c, r, rfl, h⟩ := h
  intro c' r' e
  cases e; exact h
theorem Stop.head {v : List Nat} (h : Stop v) : stopB (nx v 0) := by
  obtain ⟨c, r, rfl, h⟩ := h
  exact h

theorem colon_stop {v : List Nat} (h : Stop v) : colonM v = false := by
  unfold colonM
  simp [h.head.2.1]

/-- A colon right ahead of the end of what is cut. -/
theorem colon_cut {u v : List Nat} {n : Nat} (hn : n + 1 ≤ u.length) (h : Stop v) : colonM ((u.take (n + 1) ++ v).drop n) = decide (nx u n = 58) := by
  unfold colonM
  rw [nxd, nxd, nx_cut (by omega) hn, nx_at hn]
  simp [h.head.2.2.1]

theorem colon_dec {u : List Nat} {n : Nat} (h : colonM (u.drop n) = true) : nx u n = 58 := by
  unfold colonM at h
  rw [nxd] at h
  simp at h
  exact h.1

theorem digit_sign {c : Nat} (h : digitB c = true) : inB signs c = false ∧ c ≠ 39 ∧ c ≠ 34 := by
  simp [digitB] at h
  refine ⟨?_, by omega, by omega⟩
  cases e : inB signs c with
  | false => rfl
  | true =>
    exfalso
    simp [inB, signs] at e
    omega

theorem text_cut : ∀ (f : Nat) (out u : List Nat) (res : List Nat × Int × Nat), textM f out u = some res → res.2.2 ≤ u.length ∧ (res.2.1 = 0 → ∀ v, nx v 0 ≠ 39 → textM f out (u.take res.2.2 ++ v) = some res)
  | 0, out, u, res, h => by cases h
  | f + 1, out, u, res, h => by
    have hl := tw_le textB u
    unfold textM at h
    by_cases h1 : (u.takeWhile textB).length = u.length
    · rw [if_pos h1] at h
      cases h
      exact ⟨Nat.le_refl _, fun e => by cases e⟩
    · rw [if_neg h1] at h
      by_cases h2 : nx u ((u.takeWhile textB).length + 1) = 39
      · rw [if_pos h2] at h
        obtain ⟨r, e1, e2⟩ := Option.bind_eq_some_iff.1 h
        cases e2
        obtain ⟨a1, a2⟩ := text_cut f _ _ r e1
        have h3 : (u.takeWhile textB).length + 1 < u.length := by
          apply Decidable.byContradiction
          intro hn
          rw [nx, List.getD, List.getElem?_eq_none (by omega)] at h2
          cases h2
        simp at a1
        refine ⟨by show r.2.2 + _ ≤ _; omega, fun e v hv => ?_⟩
        have e0 : (r.1, r.2.1, r.2.2 + ((u.takeWhile textB).length + 2)).2.2 = r.2.2 + ((u.takeWhile textB).length + 2) := rfl
        rw [e0]
        have ht : (u.take (r.2.2 + ((u.takeWhile textB).length + 2)) ++ v).takeWhile textB = u.takeWhile textB := tw_cut2 textB u _ v (by omega) (by omega)
        unfold textM
        rw [ht]
        rw [if_neg (by simp; omega), nx_cut (by omega) (by omega), if_pos h2, drop_cut (by omega) (by omega)]
        rw [show r.2.2 + ((u.takeWhile textB).length + 2) - ((u.takeWhile textB).length + 2) = r.2.2 by omega, a2 e v hv]
        rfl
      · rw [if_neg h2] at h
        cases h
        refine ⟨by show _ + 1 ≤ _; omega, fun _ v hv => ?_⟩
        show textM (f + 1) out (u.take ((u.takeWhile textB).length + 1) ++ v) = _
        have hk : (u.takeWhile textB).length + 1 ≤ u.length := by omega
        have ht : (u.take ((u.takeWhile textB).length + 1) ++ v).takeWhile textB = u.takeWhile textB := tw_cut2 textB u _ v (by omega) hk
        unfold textM
        rw [ht, if_neg (by simp; omega), nx_at hk, if_neg hv]

theorem symL_cut : ∀ (f : Nat) (out u : List Nat) (res : List Nat × Int × Nat), symL f out u = some res → res.2.1 = 0 → ∀ v, Stop v → symL f out (u.take res.2.2 ++ v) = some res
  | 0, out, u, res, h => by cases h
  | f + 1, out, u, res, h => by
    intro he v hv
    have hlen := (symL_take (f + 1) out u res h).1
    have fin : res = (out, 0, 0) → symL (f + 1) out (u.take res.2.2 ++ v) = some res := by
      rintro rfl
      show symL (f + 1) out (u.take 0 ++ v) = _
      rw [List.take_zero, List.nil_append]
      unfold symL
      rw [if_neg (by simp [letter_name hv.head.1])]
    unfold symL at h
    split at h
    · rename_i h1
      split at h
      · rename_i h2
        split at h
        · rename_i h3
          obtain ⟨r, e1, e2⟩ := Option.bind_eq_some_iff.1 h
          cases e2
          have hc := colon_lt h2
          simp at hc
          have hlr := (symL_take f _ _ r e1).1
          simp at hlr
          have ih := symL_cut f _ _ r e1 he v hv
          show symL (f + 1) out (u.take (r.2.2 + ((nameM u).2.2 + 1)) ++ v) = _
          have hk : r.2.2 + ((nameM u).2.2 + 1) ≤ u.length := by omega
          have en : nameM (u.take (r.2.2 + ((nameM u).2.2 + 1)) ++ v) = nameM u := nm_cut hv.name (by omega) hk
          unfold symL
          rw [nx_cut (by omega) hk, if_pos h1, en]
          have ec : colonM ((u.take (r.2.2 + ((nameM u).2.2 + 1)) ++ v).drop (nameM u).2.2) = true := by
            have hd := colon_dec h2
            unfold colonM at h2 ⊢
            rw [nxd, nxd] at h2 ⊢
            rw [nx_cut (by omega) hk]
            by_cases hr : r.2.2 = 0
            · rw [hr, Nat.zero_add, nx_at (by omega)]
              simp [hd, hv.head.2.2.1]
            · rw [nx_cut (by omega) hk]
              exact h2
          rw [if_pos ec, if_pos h3, drop_cut (by omega) hk, show r.2.2 + ((nameM u).2.2 + 1) - ((nameM u).2.2 + 1) = r.2.2 by omega, ih]
          rfl
        · rename_i h3
          cases h
          exact absurd he h3
      · cases h; exact fin rfl
    · cases h; exact fin rfl

theorem symbol_pos {f : Nat} {u : List Nat} {res : List Nat × Int × Nat} (h : symbolM f u = some res) (he : res.2.1 = 0) : 1 ≤ res.2.2 := by
  unfold symbolM at h
  split at h
  · split at h
    · rename_i h1
      have := name_pos h1
      split at h
      · split at h
        · obtain ⟨r, e1, e2⟩ := Option.bind_eq_some_iff.1 h
          cases e2
          show 1 ≤ r.2.2 + _
          omega
        · cases h; exact this
      · cases h; exact this
    · cases h; cases he
  · rename_i h1
    cases h
    show 1 ≤ runN _ _ _
    omega

theorem symbol_cut {f : Nat} {u : List Nat} {res : List Nat × Int × Nat} (h : symbolM f u = some res) (he : res.2.1 = 0) {v : List Nat} (hv : Stop v) : symbolM f (u.take res.2.2 ++ v) = some res := by
  have hlen := (symbolM_take h).1
  have hpos := symbol_pos h he
  have hs : runN (inB signs) 2 u ≤ res.2.2 → runN (inB signs) 2 (u.take res.2.2 ++ v) = runN (inB signs) 2 u := fun hh => run_cut _ 2 u _ v (Stop.signs hv.three) hh hlen
  unfold symbolM at h
  by_cases h0 : runN (inB signs) 2 u = 0
  · rw [if_pos h0] at h
    have hs := hs (by omega)
    split at h
    · rename_i h1
      split at h
      · rename_i h2
        split at h
        · rename_i h3
          obtain ⟨r, e1, e2⟩ := Option.bind_eq_some_iff.1 h
          cases e2
          have hc := colon_lt h3
          simp at hc
          have hlr := (symL_take f _ _ r e1).1
          simp at hlr
          have ih := symL_cut f _ _ r e1 he v hv
          have hk : r.2.2 + ((nameM u).2.2 + 1) ≤ u.length := by omega
          have en : nameM (u.take (r.2.2 + ((nameM u).2.2 + 1)) ++ v) = nameM u := nm_cut hv.name (by omega) hk
          show symbolM f (u.take (r.2.2 + ((nameM u).2.2 + 1)) ++ v) = _
          unfold symbolM
          rw [show runN (inB signs) 2 (u.take (r.2.2 + ((nameM u).2.2 + 1)) ++ v) = 0 from hs.trans h0, if_pos rfl, nx_cut (by omega) hk, if_pos h1, en, if_pos h2]
          have ec : colonM ((u.take (r.2.2 + ((nameM u).2.2 + 1)) ++ v).drop (nameM u).2.2) = true := by
            have hd := colon_dec h3
            unfold colonM at h3 ⊢
            rw [nxd, nxd] at h3 ⊢
            rw [nx_cut (by omega) hk]
            by_cases hr : r.2.2 = 0
            · rw [hr, Nat.zero_add, nx_at (by omega)]
              simp [hd, hv.head.2.2.1]
            · rw [nx_cut (by omega) hk]
              exact h3
          rw [if_pos ec, drop_cut (by omega) hk, show r.2.2 + ((nameM u).2.2 + 1) - ((nameM u).2.2 + 1) = r.2.2 by omega, ih]
          rfl
        · rename_i h3
          cases h
          show symbolM f (u.take (nameM u).2.2 ++ v) = _
          have hlen : (nameM u).2.2 ≤ u.length := hlen
          have en : nameM (u.take (nameM u).2.2 ++ v) = nameM u := nm_cut hv.name (Nat.le_refl _) hlen
          unfold symbolM
          rw [show runN (inB signs) 2 (u.take (nameM u).2.2 ++ v) = 0 from hs.trans h0, if_pos rfl, nx_cut (name_pos h1) hlen, if_pos h1, en, if_pos h2, drop_cut (Nat.le_refl _) hlen, Nat.sub_self]
          rw [show colonM (List.take 0 (u.drop (nameM u).2.2) ++ v) = false from colon_stop hv]
          rfl
      · rename_i h2
        cases h
        exact absurd he h2
    · cases h; cases he
  · rw [if_neg h0] at h
    cases h
    show symbolM f (u.take (runN (inB signs) 2 u) ++ v) = _
    have hs := hs (Nat.le_refl _)
    have hlen : runN (inB signs) 2 u ≤ u.length := hlen
    have hs : runN (inB signs) 2 (u.take (runN (inB signs) 2 u) ++ v) = runN (inB signs) 2 u := hs
    unfold symbolM
    rw [hs, if_neg h0, List.take_append_of_le_length (by simp; omega), List.take_take, Nat.min_self]

theorem runN_take_pos {l : List Nat} {m : Nat} {u : List Nat} : runN (inB l) m u ≤ u.length := runN_le _ _ _

/-- A token is the same, whatever stands behind it. -/
theorem token_cut {f : Nat} {u : List Nat} {rs : Int × List Nat × Int × Int × Nat} (h : tokenM f u = some rs) (he : rs.2.2.2.1 = 0) (hp : 1 ≤ rs.2.2.2.2) (hl : rs.2.2.2.2 ≤ u.length) {v : List Nat} (h3 : rs.1 = 3 → Stop3 v) (hv : rs.1 ≠ 3 → Stop v) :
    tokenM f (u.take rs.2.2.2.2 ++ v) = some rs := by
  have n0 : nx (u.take rs.2.2.2.2 ++ v) 0 = nx u 0 := nx_cut hp hl
  unfold tokenM at h
  by_cases h1 : letterB (nx u 0) = true
  · rw [if_pos h1] at h
    by_cases h2 : (nameM u).2.1 = 0
    · rw [if_pos h2] at h
      by_cases hc : colonM (u.drop (nameM u).2.2) = true
      · rw [if_pos hc] at h
        cases h
        have hv := hv (by show (2 : Int) ≠ 3; decide)
        have hl : (nameM u).2.2 + 1 ≤ u.length := hl
        have n0 : nx (u.take ((nameM u).2.2 + 1) ++ v) 0 = nx u 0 := n0
        show tokenM f (u.take ((nameM u).2.2 + 1) ++ v) = _
        unfold tokenM
        rw [n0, if_pos h1, nm_cut hv.name (by omega) hl, if_pos h2, colon_cut hl hv, colon_dec hc]
        rfl
      · rw [if_neg hc] at h
        cases h
        have hv := hv (by show (1 : Int) ≠ 3; decide)
        have hl : (nameM u).2.2 ≤ u.length := hl
        have n0 : nx (u.take (nameM u).2.2 ++ v) 0 = nx u 0 := n0
        show tokenM f (u.take (nameM u).2.2 ++ v) = _
        unfold tokenM
        rw [n0, if_pos h1, nm_cut hv.name (Nat.le_refl _) hl, if_pos h2, drop_cut (Nat.le_refl _) hl, Nat.sub_self]
        rw [show colonM (List.take 0 (u.drop (nameM u).2.2) ++ v) = false from colon_stop hv]
        rfl
    · rw [if_neg h2] at h
      cases h
      exact absurd he h2
  · rw [if_neg h1] at h
    by_cases hd : digitB (nx u 0) = true
    · rw [if_pos hd] at h
      cases h
      have hv := hv (by show (4 : Int) ≠ 3; decide)
      have hl : (u.takeWhile digitB).length ≤ u.length := hl
      have n0 : nx (u.take (u.takeWhile digitB).length ++ v) 0 = nx u 0 := n0
      show tokenM f (u.take (u.takeWhile digitB).length ++ v) = _
      have ht : (u.take (u.takeWhile digitB).length ++ v).takeWhile digitB = u.takeWhile digitB := tw_cut digitB u _ v (fun c r e => by
        have := hv.name c r e
        unfold nameB at this
        cases e2 : digitB c with
        | false => rfl
        | true => rw [e2] at this; simp at this) (Nat.le_refl _) hl
      unfold tokenM numberM
      rw [n0, if_neg h1, if_pos hd, ht]
    · rw [if_neg hd] at h
      by_cases hq : nx u 0 = 39
      · rw [if_pos hq] at h
        obtain ⟨r, e1, e2⟩ := Option.bind_eq_some_iff.1 h
        cases e2
        have hv := hv (by show (5 : Int) ≠ 3; decide)
        have hl : r.2.2 + 1 ≤ u.length := hl
        have n0 : nx (u.take (r.2.2 + 1) ++ v) 0 = nx u 0 := n0
        show tokenM f (u.take (r.2.2 + 1) ++ v) = _
        unfold tokenM
        rw [n0, if_neg h1, if_neg hd, if_pos hq, drop_cut (by omega) hl, Nat.add_sub_cancel, (text_cut f _ _ r e1).2 he v hv.head.2.2.2.2]
        rfl
      · rw [if_neg hq] at h
        by_cases hh : nx u 0 = 35
        · rw [if_pos hh] at h
          by_cases h40 : nx u 1 = 40
          · rw [if_pos h40] at h
            cases h
            have hl : 2 ≤ u.length := hl
            have n0 : nx (u.take 2 ++ v) 0 = nx u 0 := n0
            show tokenM f (u.take 2 ++ v) = _
            unfold tokenM
            rw [n0, if_neg h1, if_neg hd, if_neg hq, if_pos hh, nx_cut (by omega) hl, if_pos h40]
          · rw [if_neg h40] at h
            obtain ⟨r, e1, e2⟩ := Option.bind_eq_some_iff.1 h
            cases e2
            have hv := hv (by show (6 : Int) ≠ 3; decide)
            have hl : r.2.2 + 1 ≤ u.length := hl
            have n0 : nx (u.take (r.2.2 + 1) ++ v) 0 = nx u 0 := n0
            have hp := symbol_pos e1 he
            show tokenM f (u.take (r.2.2 + 1) ++ v) = _
            unfold tokenM
            rw [n0, if_neg h1, if_neg hd, if_neg hq, if_pos hh, nx_cut (by omega) hl, if_neg h40, drop_cut (by omega) hl, Nat.add_sub_cancel, symbol_cut e1 he hv]
            rfl
        · rw [if_neg hh] at h
          by_cases ha : nx u 0 = 58 ∧ nx u 1 = 61
          · rw [if_pos ha] at h
            cases h
            have hl : 2 ≤ u.length := hl
            have n0 : nx (u.take 2 ++ v) 0 = nx u 0 := n0
            show tokenM f (u.take 2 ++ v) = _
            unfold tokenM
            rw [n0, if_neg h1, if_neg hd, if_neg hq, if_neg hh, nx_cut (by omega) hl, if_pos ha]
          · rw [if_neg ha] at h
            by_cases hb : nx u 0 = 58 ∧ letterB (nx u 1) = true
            · rw [if_pos hb] at h
              cases h
              have hv := hv (by show (8 : Int) ≠ 3; decide)
              have hl : (nameM (u.drop 1)).2.2 + 1 ≤ u.length := hl
              have n0 : nx (u.take ((nameM (u.drop 1)).2.2 + 1) ++ v) 0 = nx u 0 := n0
              have hp : 1 ≤ (nameM (u.drop 1)).2.2 := name_pos (by rw [nxd]; exact hb.2)
              show tokenM f (u.take ((nameM (u.drop 1)).2.2 + 1) ++ v) = _
              unfold tokenM
              rw [n0, if_neg h1, if_neg hd, if_neg hq, if_neg hh, nx_cut (by omega) hl, if_neg ha, if_pos hb, drop_cut (by omega) hl, Nat.add_sub_cancel, nm_cut hv.name (Nat.le_refl _) (by rw [List.length_drop]; omega)]
            · rw [if_neg hb] at h
              have z58 : (inB signs (nx u 0) = true ∨ inB marks (nx u 0) = true) → nx u 0 ≠ 58 := by
                intro hh e
                rw [e] at hh
                rcases hh with hh | hh <;> exact absurd hh (by decide)
              by_cases hs : inB signs (nx u 0) = true
              · rw [if_pos hs] at h
                cases h
                have h3 := h3 rfl
                have hl : runN (inB signs) 2 u ≤ u.length := hl
                have n0 : nx (u.take (runN (inB signs) 2 u) ++ v) 0 = nx u 0 := n0
                have z := z58 (.inl hs)
                show tokenM f (u.take (runN (inB signs) 2 u) ++ v) = _
                unfold tokenM
                rw [n0, if_neg h1, if_neg hd, if_neg hq, if_neg hh, if_neg (fun x => z x.1), if_neg (fun x => z x.1), if_pos hs, run_cut _ 2 u _ v (Stop.signs h3) (Nat.le_refl _) hl,
                  List.take_append_of_le_length (by simp; omega), List.take_take, Nat.min_self]
              · rw [if_neg hs] at h
                by_cases hm : inB marks (nx u 0) = true
                · rw [if_pos hm] at h
                  cases h
                  have hl : runN (inB marks) 1 u ≤ u.length := hl
                  have n0 : nx (u.take (runN (inB marks) 1 u) ++ v) 0 = nx u 0 := n0
                  have z := z58 (.inr hm)
                  have r1 : runN (inB marks) 1 u = 1 := by
                    cases u with
                    | nil => simp [runN] at hp
                    | cons c u =>
                      have : inB marks c = true := hm
                      simp [runN, this]
                  show tokenM f (u.take (runN (inB marks) 1 u) ++ v) = _
                  have r2 : runN (inB marks) 1 (u.take (runN (inB marks) 1 u) ++ v) = 1 := by
                    rw [r1]
                    cases u with
                    | nil => simp [runN] at r1
                    | cons c u =>
                      have : inB marks c = true := hm
                      simp [runN, this]
                  unfold tokenM
                  rw [n0, if_neg h1, if_neg hd, if_neg hq, if_neg hh, if_neg (fun x => z x.1), if_neg (fun x => z x.1), if_neg hs, if_pos hm, r2, r1]
                  rw [List.take_append_of_le_length (by simp; omega), List.take_take, Nat.min_self]
                · rw [if_neg hm] at h
                  cases h
                  cases he

/-- What a token begins with is no blank, and no remark. -/
theorem token_head {f : Nat} {u : List Nat} {rs : Int × List Nat × Int × Int × Nat} (h : tokenM f u = some rs) (he : rs.2.2.2.1 = 0) : inB blanks (nx u 0) = false ∧ nx u 0 ≠ 34 ∧ (rs.1 = 4 → digitB (nx u 0) = true) := by
  have no : (inB blanks (nx u 0) = true ∨ nx u 0 = 34) → False := by
    intro hh
    have hc : nx u 0 = 9 ∨ nx u 0 = 10 ∨ nx u 0 = 13 ∨ nx u 0 = 32 ∨ nx u 0 = 34 := by
      rcases hh with hh | hh
      · simp [inB, blanks] at hh; omega
      · omega
    unfold tokenM at h
    generalize hx : nx u 0 = x at *
    rcases hc with rfl | rfl | rfl | rfl | rfl <;>
    · simp (config := { decide := true }) only [if_false, false_and] at h
      simp [inB, signs, marks, letterB, digitB] at h
      rw [← h] at he
      cases he
  refine ⟨?_, fun e => no (.inr e), fun e => ?_⟩
  · cases e : inB blanks (nx u 0) with
    | false => rfl
    | true => exact (no (.inl e)).elim
  · apply Decidable.byContradiction
    intro hd
    unfold tokenM at h
    rw [if_neg hd] at h
    repeat' split at h
    all_goals first
      | (cases h; simp at e)
      | (obtain ⟨r, e1, e2⟩ := Option.bind_eq_some_iff.1 h; cases e2; simp at e)

end Go.Dd

/- Dd, part B3: plain: a source with blanks and remarks ahead of its tokens has the same tokens. -/
set_option linter.unusedVariables false
set_option linter.unusedSimpArgs false
set_option maxRecDepth 100000
namespace Go.Dd

/-- Blanks and remarks. -/
inductive Gap : List Nat → Prop
  | nil : Gap []
  | blank (c : Nat) (w : List Nat) : inB blanks c = true → Gap w → Gap (c :: w)
  | rem (r w : List Nat) : (∀ c ∈ r, c ≠ 34) → Gap w → Gap (34 :: (r ++ 34 :: w))

theorem Gap.app {a b : List Nat} (h : Gap a) (k : Gap b) : Gap (a ++ b) := by
  induction h with
  | nil => exact k
  | blank c w hc _ ih => exact .blank c _ hc ih
  | rem r w hr _ ih => simpa using Gap.rem r (w ++ b) hr ih

theorem Gap.stop {w : List Nat} (h : Gap w) {c : Nat} {r : List Nat} (e : w = c :: r) : stopB c := by
  cases h with
  | nil => cases e
  | blank c' w' hc _ => cases e; exact stop_blank hc
  | rem r' w' _ _ => cases e; exact stop_quote

/-- A text, and its tokens, the first byte at a place. -/
inductive Lx (g : Nat) : List Nat → Nat → List Tok → Prop
  | fin (w : List Nat) (p : Nat) : Gap w → Lx g w p [⟨0, [], 0, ((p + w.length : Nat) : Int)⟩]
  | tok (w u : List Nat) (p k : Nat) (rs : Int × List Nat × Int × Int × Nat) (l : List Tok) : Gap w → tokenM g u = some rs → rs.2.2.2.1 = 0 → rs.2.2.2.2 = k → 1 ≤ k → k ≤ u.length → rs.1 ≠ 0 →
      Lx g (u.drop k) (p + w.length + k) l → Lx g (w ++ u) p (⟨rs.1, rs.2.1, rs.2.2.1, ((p + w.length : Nat) : Int)⟩ :: l)

theorem Lx.gap {g : Nat} {u : List Nat} {p : Nat} {l : List Tok} {w : List Nat} (h : Lx g u (p + w.length) l) (k : Gap w) : Lx g (w ++ u) p l := by
  generalize hp : p + w.length = q at h
  cases h with
  | fin _ _ g' =>
    have := Lx.fin (g := g) (w ++ u) p (k.app g')
    rw [List.length_append, ← Nat.add_assoc, hp] at this
    exact this
  | tok w' u _ k' rs l g' h1 h2 h3 h4 h5 h6 h7 =>
    have := Lx.tok (g := g) (w ++ w') u p k' rs l (k.app g') h1 h2 h3 h4 h5 h6 (by rw [List.length_append, ← Nat.add_assoc, hp]; exact h7)
    rw [List.length_append, ← Nat.add_assoc, hp, List.append_assoc] at this
    exact this

/-- The first token. -/
theorem Lx.first {g : Nat} {v : List Nat} {m : Nat} {ll : List Tok} (h : Lx g v m ll) : ∃ a b, ll = a :: b ∧ ∃ w, Gap w ∧ a.pos = ((m + w.length : Nat) : Int) ∧ v.take w.length = w ∧ w.length ≤ v.length := by
  cases h with
  | fin _ _ hw => exact ⟨_, _, rfl, v, hw, rfl, by simp, Nat.le_refl _⟩
  | tok w u _ _ _ _ hw => exact ⟨_, _, rfl, w, hw, rfl, by simp, by simp⟩

theorem drop_mid (r v : List Nat) (c : Nat) : (r ++ c :: v).drop (r.length + 1) = v := by
  rw [show r.length + 1 = (r ++ [c]).length by simp, show r ++ c :: v = (r ++ [c]) ++ v by simp, List.drop_left]

theorem gap_blanks : ∀ (u : List Nat), Gap (u.takeWhile (inB blanks))
  | [] => .nil
  | c :: u => by
    cases e : inB blanks c with
    | false => simp [e]; exact .nil
    | true => simp [e]; exact .blank c _ e (gap_blanks u)

theorem idx_split : ∀ (u : List Nat) (i k : Nat), idxGo 34 u i = ((i + k : Nat) : Int) → ∃ r w, u = r ++ 34 :: w ∧ r.length = k ∧ ∀ c ∈ r, c ≠ 34
  | [], i, k, h => by
    have : idxGo 34 [] i = -1 := rfl
    omega
  | c :: u, i, k, h => by
    have e : idxGo 34 (c :: u) i = bif Nat.beq c 34 then Int.ofNat i else idxGo 34 u (i + 1) := rfl
    cases hc : Nat.beq c 34 with
    | true =>
      rw [e, hc] at h
      have : c = 34 := Nat.eq_of_beq_eq_true hc
      subst this
      have h : (i : Int) = ((i + k : Nat) : Int) := h
      exact ⟨[], u, rfl, by simp; omega, by simp⟩
    | false =>
      rw [e, hc] at h
      have h : idxGo 34 u (i + 1) = ((i + k : Nat) : Int) := h
      have hne : c ≠ 34 := fun e2 => by rw [e2] at hc; cases hc
      have hk : 1 ≤ k := by
        apply Decidable.byContradiction
        intro hn
        have hge := idxGo_lt 34 u (i + 1) (by omega)
        obtain ⟨k', h1, h2⟩ := hge
        omega
      obtain ⟨r, w, a, b, d⟩ := idx_split u (i + 1) (k - 1) (by rw [h]; congr 1; omega)
      refine ⟨c :: r, w, by rw [a]; rfl, by simp [b]; omega, fun x hx => ?_⟩
      rcases List.mem_cons.1 hx with rfl | hx
      · exact hne
      · exact d x hx

theorem tw_drop (so : Nat → Bool) (u : List Nat) : u = u.takeWhile so ++ u.drop (u.takeWhile so).length := by
  induction u with
  | nil => rfl
  | cons c u ih =>
    cases e : so c with
    | false => simp [e]
    | true =>
      simp [e]
      exact ih

/-- What the lexer says is a text and its tokens. -/
theorem toks_lx {g : Nat} {s : List Nat} (hg : s.length < g) : ∀ (f i : Nat) (out : List Tok) (res : List Tok × Int × Int), i ≤ s.length → toksM g s f i out = some res → res.2.2 = 0 → ∃ l, res = (out ++ l, 0, 0) ∧ Lx g (s.drop i) i l
  | 0, i, out, res, hi, h => by cases h
  | f + 1, i, out, res, hi, h => by
    intro he
    have hle := tw_le (inB blanks) (s.drop i)
    have hdl : (s.drop i).length = s.length - i := by simp
    have hsp := tw_drop (inB blanks) (s.drop i)
    have hgap := gap_blanks (s.drop i)
    unfold toksM at h
    generalize hw : (s.drop i).takeWhile (inB blanks) = w at *
    rw [List.drop_drop] at hsp
    by_cases h1 : s.length ≤ i + w.length
    · rw [if_pos h1] at h
      cases h
      refine ⟨_, rfl, ?_⟩
      rw [List.drop_eq_nil_of_le h1, List.append_nil] at hsp
      rw [hsp, show s.length = i + w.length by omega]
      exact .fin w i hgap
    · rw [if_neg h1] at h
      by_cases h2 : nx s (i + w.length) = 34
      · rw [if_pos h2] at h
        by_cases h3 : idxGo 34 (s.drop (i + w.length + 1)) 0 < 0
        · rw [if_pos h3] at h
          cases h
          cases he
        · rw [if_neg h3] at h
          obtain ⟨k, k1, k2⟩ := idxGo_lt 34 _ _ h3
          obtain ⟨r, w', a1, a2, a3⟩ := idx_split _ 0 k k2
          rw [k2] at h
          simp only [Nat.zero_add, Int.toNat_natCast] at h
          simp at k1
          obtain ⟨l, b1, b2⟩ := toks_lx hg f _ out res (by omega) h he
          refine ⟨l, b1, ?_⟩
          rw [hsp]
          have hd : s.drop (i + w.length) = 34 :: (r ++ 34 :: w') := by
            rw [← a1]
            have hlt : i + w.length < s.length := by omega
            rw [List.drop_eq_getElem_cons hlt]
            congr 1
            rw [nx, List.getD, List.getElem?_eq_getElem hlt] at h2
            exact h2
          have hd2 : s.drop (i + w.length + k + 2) = w' := by
            rw [show i + w.length + k + 2 = (i + w.length) + (k + 2) by omega, ← List.drop_drop, hd]
            rw [show k + 2 = (k + 1) + 1 by omega, List.drop_succ_cons, ← a2, drop_mid]
          rw [hd2] at b2
          rw [hd]
          have := Lx.gap (w := w ++ 34 :: (r ++ [34])) (p := i) (u := w') (by
            have e : i + (w ++ 34 :: (r ++ [34])).length = i + w.length + k + 2 := by simp; omega
            rw [e]; exact b2) (hgap.app (by simpa using Gap.rem r [] a3 .nil))
          simpa using this
      · rw [if_neg h2] at h
        obtain ⟨rs, c1, c2⟩ := Option.bind_eq_some_iff.1 h
        have hu : s.drop (i + w.length) ≠ [] := by
          intro h
          have := congrArg List.length h
          simp at this
          omega
        obtain ⟨rs', d1, d2⟩ := tokenD (f := g) hu (by simp; omega)
        rw [c1] at d1
        cases d1
        by_cases h4 : rs.2.2.2.1 = 0
        · rw [if_pos h4] at c2
          obtain ⟨e1, e2, e3, e4⟩ := d2 h4
          rw [if_neg (by omega)] at c2
          simp at e2
          obtain ⟨l, b1, b2⟩ := toks_lx hg f _ _ res (by omega) c2 he
          refine ⟨⟨rs.1, rs.2.1, rs.2.2.1, ((i + w.length : Nat) : Int)⟩ :: l, by rw [b1]; simp, ?_⟩
          rw [hsp]
          refine .tok w _ i _ rs l hgap c1 h4 rfl e1 (by simp; omega) e3 ?_
          rw [List.drop_drop]
          exact b2
        · rw [if_neg h4] at c2
          cases c2
          exact absurd he h4

/-- A gap is skipped. -/
theorem gap_skip {g : Nat} {s : List Nat} {out : List Tok} {X : List Tok × Int × Int} {u w : List Nat} (hw : Gap w) : ∀ (i f : Nat), s.drop i = w ++ u → i ≤ s.length → (∀ f, u.length < f → toksM g s f (i + w.length) out = some X) → (w ++ u).length < f → toksM g s f i out = some X := by
  induction hw with
  | nil => intro i f hd hi H hf; exact H f (by simpa using hf)
  | blank c w hc _ ih =>
    intro i f hd hi H hf
    obtain ⟨f, rfl⟩ : ∃ q, f = q + 1 := ⟨f - 1, by simp at hf; omega⟩
    have hd' : s.drop (i + 1) = w ++ u := by
      have := congrArg (List.drop 1) hd
      simpa [List.drop_drop] using this
    have hi' : i + 1 ≤ s.length := by
      have := congrArg List.length hd
      simp at this
      omega
    have := ih (i + 1) (f + 1) hd' hi' (fun f hf => by
      have := H f hf
      rw [List.length_cons] at this
      rw [show i + 1 + w.length = i + (w.length + 1) by omega]
      exact this) (by simp at hf ⊢; omega)
    rw [← this]
    have e : ((s.drop i).takeWhile (inB blanks)).length = ((s.drop (i + 1)).takeWhile (inB blanks)).length + 1 := by
      rw [hd, hd']; simp [hc]
    unfold toksM
    rw [e, show i + (((s.drop (i + 1)).takeWhile (inB blanks)).length + 1) = i + 1 + ((s.drop (i + 1)).takeWhile (inB blanks)).length by omega]
  | rem r w hr _ ih =>
    intro i f hd hi H hf
    obtain ⟨f, rfl⟩ : ∃ q, f = q + 1 := ⟨f - 1, by simp at hf; omega⟩
    have hd' : s.drop (i + 1) = r ++ 34 :: (w ++ u) := by
      have := congrArg (List.drop 1) hd
      simpa [List.drop_drop] using this
    have hd2 : s.drop (i + r.length + 2) = w ++ u := by
      have := congrArg (List.drop (r.length + 1)) hd'
      rw [List.drop_drop, drop_mid] at this
      rw [show i + r.length + 2 = i + 1 + (r.length + 1) by omega]
      exact this
    have hl := congrArg List.length hd
    simp at hl hf
    have hidx : ∀ (r : List Nat) (v : List Nat) (j : Nat), (∀ c ∈ r, c ≠ 34) → idxGo 34 (r ++ 34 :: v) j = ((j + r.length : Nat) : Int) := by
      intro r
      induction r with
      | nil => intro v j _; rfl
      | cons c r ih =>
        intro v j hc
        have hne : Nat.beq c 34 = false := by
          cases e : Nat.beq c 34 with
          | false => rfl
          | true => exact absurd (Nat.eq_of_beq_eq_true e) (hc c (by simp))
        show (bif Nat.beq c 34 then Int.ofNat j else idxGo 34 (r ++ 34 :: v) (j + 1)) = _
        rw [hne]
        show idxGo 34 (r ++ 34 :: v) (j + 1) = _
        rw [ih v (j + 1) (fun x hx => hc x (by simp [hx]))]
        congr 1
        simp; omega
    unfold toksM
    have e : (s.drop i).takeWhile (inB blanks) = [] := by
      rw [hd]
      have : inB blanks 34 = false := by decide
      simp [this]
    rw [e]
    simp only [List.length_nil, Nat.add_zero]
    rw [if_neg (by omega)]
    have h34 : nx s i = 34 := by
      have : s[i]? = some 34 := by
        have := congrArg (fun l => l[0]?) hd
        simpa using this
      rw [nx, List.getD, this]; rfl
    have hx := hidx r (w ++ u) 0 hr
    rw [Nat.zero_add] at hx
    rw [if_pos h34, hd', if_neg (by rw [hx]; omega), hx, Int.toNat_natCast]
    refine ih (i + r.length + 2) f hd2 (by omega) (fun f hf => ?_) (by simp; omega)
    have := H f hf
    rw [show i + r.length + 2 + w.length = i + (34 :: (r ++ 34 :: w)).length by simp; omega]
    exact this

/-- A text and its tokens: the lexer says so. -/
theorem lx_toks {g : Nat} {s : List Nat} : ∀ (l : List Tok) (u : List Nat) (i f : Nat) (out : List Tok), Lx g u i l → s.drop i = u → i ≤ s.length → u.length < f → toksM g s f i out = some (out ++ l, 0, 0) := by
  intro l
  induction l with
  | nil => intro u i f out h; cases h
  | cons t l ih =>
    intro u i f out h hd hi hf
    cases h with
    | fin _ _ hw =>
      refine gap_skip (u := []) hw i f (by simpa using hd) hi (fun f hf => ?_) (by simpa using hf)
      obtain ⟨f, rfl⟩ : ∃ q, f = q + 1 := ⟨f - 1, by omega⟩
      have hl := congrArg List.length hd
      simp at hl
      unfold toksM
      rw [if_pos (by omega), show s.length = i + u.length by omega]
    | tok w u _ k rs l hw h1 h2 h3 h4 h5 h6 h7 =>
      refine gap_skip (u := u) hw i f hd hi (fun f hf => ?_) hf
      obtain ⟨f, rfl⟩ : ∃ q, f = q + 1 := ⟨f - 1, by omega⟩
      have hl := congrArg List.length hd
      simp at hl
      have hd' : s.drop (i + w.length) = u := by
        rw [← List.drop_drop, hd]; simp
      obtain ⟨q1, q2, _⟩ := token_head h1 h2
      have hne : u ≠ [] := by
        intro e; rw [e] at h5; simp at h5; omega
      obtain ⟨c, u', rfl⟩ : ∃ c u', u = c :: u' := by cases u with
        | nil => exact absurd rfl hne
        | cons c u' => exact ⟨c, u', rfl⟩
      have q1 : inB blanks c = false := q1
      have q2 : c ≠ 34 := q2
      unfold toksM
      rw [hd', show (c :: u').takeWhile (inB blanks) = [] by simp [q1]]
      simp only [List.length_nil, Nat.add_zero]
      have hx : nx s (i + w.length) = c := by
        have : s[i + w.length]? = some c := by
          have := congrArg (fun l => l[0]?) hd'
          simpa using this
        rw [nx, List.getD, this]; rfl
      simp at hl h5
      rw [if_neg (by omega), hx, if_neg q2, hd', h1]
      simp only [Option.bind_some]
      rw [if_pos h2, if_neg (by rw [h3]; simp; omega), h3]
      subst h3
      rw [ih (((c :: u').drop rs.2.2.2.2)) (i + w.length + rs.2.2.2.2) f (out ++ [(⟨rs.1, rs.2.1, rs.2.2.1, ((i + w.length : Nat) : Int)⟩ : Tok)]) h7 (by rw [← List.drop_drop, hd']) (by omega) (by simp at hf ⊢; omega)]
      simp

/-! ### Blanks and remarks put in -/

def insM (t u : Tok) : List Nat := if t.kind ≠ 3 ∨ u.kind ≠ 4 then [32, 34, 114, 34, 32] else []
def spacedM (s : List Nat) : List Tok → List Nat
  | t :: u :: l => (s.take u.pos.toNat).drop t.pos.toNat ++ insM t u ++ spacedM s (u :: l)
  | _ => []

theorem ins_gap (t u : Tok) : Gap (insM t u) := by
  unfold insM
  split
  · exact .blank 32 _ (by decide) (by simpa using Gap.rem [114] [32] (by simp) (.blank 32 _ (by decide) .nil))
  · exact .nil

theorem Sim.cons {l l' : List Tok} {t t' : Tok} (h : Sim l l') (e : TE t t') (k : t.kind = 3 → ∀ u u', l[0]? = some u → u.kind = 4 → l'[0]? = some u' → (u.pos = w64 (t.pos + 1) ↔ u'.pos = w64 (t'.pos + 1))) : Sim (t :: l) (t' :: l') := by
  refine ⟨by simp [h.1], fun i x hx => ?_⟩
  cases i with
  | zero =>
    simp at hx
    subst hx
    exact ⟨t', by simp, e, fun h3 u u' hu h4 hu' => k h3 u u' (by simpa using hu) h4 (by simpa using hu')⟩
  | succ i =>
    simp at hx
    obtain ⟨x', a, b, c⟩ := h.2 i x hx
    exact ⟨x', by simpa using a, b, fun h3 u u' hu h4 hu' => c h3 u u' (by simpa using hu) h4 (by simpa using hu')⟩

theorem w64_small {n : Nat} (h : n ≤ 1000000) : w64 ((n : Int) + 1) = ((n + 1 : Nat) : Int) := by
  unfold w64
  rw [wrap64s _ (by omega) (by omega)]
  omega

/-- The spaced text of some tokens has tokens that are alike. -/
theorem spaced_lx {g : Nat} {s : List Nat} (hs : s.length ≤ 900000) : ∀ (l : List Tok) (u : List Nat) (p : Nat), Lx g u p l → s.drop p = u → p ≤ s.length → ∀ q, q + (spacedM s l).length ≤ 900000 →
    ∃ l', Lx g (spacedM s l) q l' ∧ Sim l l' ∧ (∃ t r, l = t :: r ∧ 0 ≤ t.pos ∧ t.pos ≤ s.length ∧ (r ≠ [] → t.kind ≠ 0) ∧ (r = [] → t.kind = 0) ∧ ∃ w, Gap w ∧ t.pos = ((p + w.length : Nat) : Int) ∧ u.take w.length = w ∧ w.length ≤ u.length) ∧ (∃ t' r', l' = t' :: r' ∧ t'.pos = q) ∧ (∀ t r, l = t :: r → t.kind = 4 → ∃ c v, spacedM s l = c :: v ∧ inB signs c = false) := by
  intro l
  induction l with
  | nil => intro u p h; cases h
  | cons t l ih =>
    intro u p h hd hp q hq
    cases h with
    | fin _ _ hw =>
      have hl := congrArg List.length hd
      simp at hl
      have e0 : spacedM s [⟨0, [], 0, ((p + u.length : Nat) : Int)⟩] = [] := rfl
      rw [e0] at hq ⊢
      refine ⟨[⟨0, [], 0, ((q : Nat) : Int)⟩], ?_, ?_, ⟨_, _, rfl, by show (0 : Int) ≤ ((p + u.length : Nat) : Int); omega, by show ((p + u.length : Nat) : Int) ≤ _; omega, fun h => absurd rfl h, fun _ => rfl, u, hw, rfl, by simp, Nat.le_refl _⟩, ⟨_, _, rfl, rfl⟩, ?_⟩
      · simpa using Lx.fin (g := g) [] q .nil
      · refine ⟨rfl, fun i x hx => ?_⟩
        cases i with
        | zero =>
          simp at hx
          subst hx
          exact ⟨_, rfl, ⟨rfl, rfl, rfl⟩, fun h => by cases h⟩
        | succ i => simp at hx
      · intro t r e hk
        cases e
        cases hk
    | tok w u _ k rs l hw h1 h2 h3 h4 h5 h6 h7 =>
      have hl := congrArg List.length hd
      simp at hl
      have hd' : s.drop (p + w.length) = u := by
        rw [← List.drop_drop, hd]; simp
      -- the next token
      have ihx := ih (u.drop k) (p + w.length + k) h7 (by rw [← List.drop_drop, hd']) (by omega)
      obtain ⟨t1, r1, a1, w1, b1, b2, b3, b4⟩ := h7.first
      subst a1
      simp at b4
      have eseg : (s.take t1.pos.toNat).drop ((p + w.length : Nat) : Int).toNat = u.take k ++ w1 := by
        rw [b2, Int.toNat_natCast, Int.toNat_natCast, List.drop_take, hd', show p + w.length + k + w1.length - (p + w.length) = k + w1.length by omega, List.take_add, b3]
      generalize htt : (⟨rs.1, rs.2.1, rs.2.2.1, ((p + w.length : Nat) : Int)⟩ : Tok) = tt at *
      have etk : tt.kind = rs.1 := by rw [← htt]
      have etp : tt.pos = ((p + w.length : Nat) : Int) := by rw [← htt]
      have esp : spacedM s (tt :: t1 :: r1) = u.take k ++ (w1 ++ insM tt t1 ++ spacedM s (t1 :: r1)) := by
        show (s.take t1.pos.toNat).drop tt.pos.toNat ++ insM tt t1 ++ spacedM s (t1 :: r1) = _
        rw [etp, eseg]
        simp
      rw [esp] at hq ⊢
      simp only [List.length_append] at hq
      have hmin : (u.take k).length = k := by simp; omega
      rw [hmin] at hq
      have hx := ihx (q + k + (w1 ++ insM tt t1).length) (by simp only [List.length_append]; omega)
      obtain ⟨l', c1, c2, c3, ⟨t', r', c4, c5⟩, c6⟩ := hx
      have hgap : Gap (w1 ++ insM tt t1) := b1.app (ins_gap _ _)
      have d1 : Lx g (w1 ++ insM tt t1 ++ spacedM s (t1 :: r1)) (q + k) l' := Lx.gap c1 hgap
      -- what stands behind the token ends it
      have stop : (tt.kind = 3 → Stop3 (w1 ++ insM tt t1 ++ spacedM s (t1 :: r1))) ∧ (tt.kind ≠ 3 → Stop (w1 ++ insM tt t1 ++ spacedM s (t1 :: r1))) := by
        cases e : w1 ++ insM tt t1 with
        | cons c v =>
          have := hgap.stop e
          have S : Stop (c :: v ++ spacedM s (t1 :: r1)) := ⟨c, _, rfl, this⟩
          exact ⟨fun _ => S.three, fun _ => S⟩
        | nil =>
          have e2 : insM tt t1 = [] := (List.append_eq_nil_iff.1 e).2
          unfold insM at e2
          split at e2
          · cases e2
          · rename_i hk
            have hk1 : tt.kind = 3 := Decidable.byContradiction fun h => hk (.inl h)
            have hk2 : t1.kind = 4 := Decidable.byContradiction fun h => hk (.inr h)
            obtain ⟨c, v, f1, f2⟩ := c6 _ _ rfl hk2
            exact ⟨fun _ => ⟨c, v, by rw [f1]; rfl, f2⟩, fun h => absurd hk1 h⟩
      rw [etk] at stop
      subst h3
      have htok := token_cut h1 h2 h4 h5 stop.1 stop.2
      have d2 : Lx g (u.take rs.2.2.2.2 ++ (w1 ++ insM tt t1 ++ spacedM s (t1 :: r1))) q (⟨rs.1, rs.2.1, rs.2.2.1, ((q : Nat) : Int)⟩ :: l') := by
        have := Lx.tok (g := g) [] (u.take rs.2.2.2.2 ++ (w1 ++ insM tt t1 ++ spacedM s (t1 :: r1))) q rs.2.2.2.2 rs l' .nil htok h2 rfl h4 (by simp; omega) h6 (by
          rw [drop_cut (Nat.le_refl _) h5, Nat.sub_self, List.take_zero, List.nil_append]
          exact d1)
        simpa using this
      refine ⟨_, d2, ?_, ⟨tt, t1 :: r1, rfl, by rw [etp]; omega, by rw [etp]; omega, fun _ => by rw [etk]; exact h6, fun h => (by cases h), w, hw, etp, by simp, by simp⟩, ⟨_, _, rfl, rfl⟩, ?_⟩
      · refine Sim.cons c2 ⟨etk, by rw [← htt], by rw [← htt]⟩ ?_
        intro h3 x x' hx h4' hx'
        simp at hx
        subst hx
        rw [c4] at hx'
        simp at hx'
        subst hx'
        have ei : insM tt t1 = [] := by
          unfold insM
          rw [if_neg (fun h => h.elim (fun h => h h3) (fun h => h h4'))]
        rw [ei] at c5
        rw [c5, b2, etp]
        show _ ↔ ((q + rs.2.2.2.2 + (w1 ++ []).length : Nat) : Int) = w64 ((q : Int) + 1)
        rw [w64_small (by omega), w64_small (by omega)]
        simp
        omega
      · intro a b e hk
        cases e
        rw [etk] at hk
        obtain ⟨_, _, z⟩ := token_head h1 h2
        have z := z hk
        cases u with
        | nil => simp at h5; omega
        | cons c u' =>
          obtain ⟨k, hk'⟩ : ∃ k, rs.2.2.2.2 = k + 1 := ⟨rs.2.2.2.2 - 1, by omega⟩
          rw [hk']
          exact ⟨c, u'.take k ++ (w1 ++ insM tt t1 ++ spacedM s (t1 :: r1)), rfl, (digit_sign z).1⟩

/-- A source that is read: with blanks and remarks ahead of its tokens it is read as the same. -/
theorem blanks_read {u : List Nat} (hu : u.length ≤ 300) {lx : List Tok × Int × Int} (hl : lexM 2001 2001 u = some lx) (he : lx.2.2 = 0) {x : Node} {a : Int} (hr : readM doitS 2004 lx = some (x, a, 0)) (hsp : (spacedM u lx.1).length ≤ 2000) :
    ∃ l', lexM 2001 2001 (spacedM u lx.1) = some (l', 0, 0) ∧ readM doitS 2004 (l', 0, 0) = some (x, 0, 0) := by
  unfold lexM at hl
  rw [if_neg (by omega)] at hl
  obtain ⟨l, h1, h2⟩ := toks_lx (by omega) 2001 0 [] lx (by omega) hl he
  subst h1
  simp only [List.nil_append] at hsp hr ⊢
  obtain ⟨l', c1, c2, _⟩ := spaced_lx (s := u) (by omega) l _ 0 h2 rfl (by omega) 0 (by omega)
  refine ⟨l', ?_, doit_sim c2 hr⟩
  unfold lexM
  rw [if_neg (by omega)]
  have := lx_toks (s := spacedM u l) l' _ 0 2001 [] c1 rfl (by omega) (by omega)
  simpa using this

end Go.Dd

/- Dd, part Z5: ParseBlanks runs to true. -/
set_option linter.unusedVariables false
set_option linter.unusedSimpArgs false
set_option maxRecDepth 100000
namespace Go.Dd
open Go.Proofs

def PosOk (N : Nat) : Nat → List Tok → Prop
  | _, [] => True
  | p, t :: l => ∃ a : Nat, t.pos = (a : Int) ∧ p ≤ a ∧ a ≤ N ∧ PosOk N a l

theorem PosOk.low {N : Nat} : ∀ (l : List Tok) {p q : Nat}, q ≤ p → PosOk N p l → PosOk N q l
  | [], _, _, _, _ => trivial
  | t :: l, p, q, h, ⟨a, e, h1, h2, h3⟩ => ⟨a, e, by omega, h2, h3⟩

theorem lx_pos {g : Nat} : ∀ (l : List Tok) (v : List Nat) (p : Nat), Lx g v p l → PosOk (p + v.length) p l := by
  intro l
  induction l with
  | nil => intro v p h; cases h
  | cons t l ih =>
    intro v p h
    cases h with
    | fin _ _ hw => exact ⟨p + v.length, rfl, by omega, by omega, trivial⟩
    | tok w u _ k rs l hw h1 h2 h3 h4 h5 h6 h7 =>
      have := ih _ _ h7
      refine ⟨p + w.length, rfl, by omega, by rw [List.length_append]; omega, ?_⟩
      have e : p + w.length + k + (u.drop k).length = p + (w ++ u).length := by simp; omega
      rw [e] at this
      exact this.low _ (by omega)

section
variable {I : Im} {A L : Ls} {x3 x6 : DV} {lt : List Tok} {u : List Nat} {P : DV → Hp → Prop}

theorem blanks_loop (T : TS' I x6 lt) (hl : lt.length ≤ 2001) (hu : u.length ≤ 300) : ∀ (r : List Tok) (i j : Nat) (acc : List Nat) (p : Nat) (h : Hp), lt.drop i = r → r ≠ [] → PosOk u.length p r → acc.length ≤ i * 1000 → Sy I A [] L h →
    (∀ acc', acc' = acc ++ spacedM u r → Ev (fun n => s4a8 (recL 9 true n) n x3 (.s acc') h) P) →
    Ev (fun n => s4a10l (recL 9 true n) n (n - j) (.s u) x3 x6 (.s acc) (.i .i64 (i : Int)) h) P := by
  intro r
  induction r with
  | nil => intro i j acc p h _ hn; exact absurd rfl hn
  | cons t r ih =>
    intro i j acc p h hr _ hp ha S K
    refine Ev.loop j (ll := fun n q => s4a10l (recL 9 true n) n q (.s u) x3 x6 (.s acc) (.i .i64 (i : Int)) h) (bb := fun n q => s4a10b (recL 9 true n) n (s4a10l (recL 9 true n) n q) (.s u) x3 x6 (.s acc) (.i .i64 (i : Int)) h) (fun _ _ => rfl) ?_
    have hx : lt[i]? = some t := by
      have := congrArg (fun l => l[0]?) hr
      simpa using this
    have hlt := (List.getElem?_eq_some_iff.1 hx).1
    have hr' : lt.drop (i + 1) = r := by
      have := congrArg (List.drop 1) hr
      simpa [List.drop_drop] using this
    have hb := T.1
    have hlim : (2002 : Nat) ≤ lim := by simp [lim]
    unfold s4a10b
    refine Ev.iadd ?_
    rw [wadd1 (by omega)]
    refine Ev.op (T.2.len _) (Ev.ilt (fun e1 => ?_) (fun e1 => ?_))
    · refine yt ?_
      obtain ⟨t1, r1, rfl⟩ : ∃ t1 r1, r = t1 :: r1 := by
        cases r with
        | nil =>
          have := congrArg List.length hr'
          simp at this
          omega
        | cons t1 r1 => exact ⟨t1, r1, rfl⟩
      have hx1 : lt[i + 1]? = some t1 := by
        have := congrArg (fun l => l[0]?) hr'
        simpa using this
      obtain ⟨a, ea, a1, a2, c, ec, c1, c2, c3⟩ := hp
      obtain ⟨p1, o1, u1, u2⟩ := T.cell S hx
      obtain ⟨p2, o2, v1, v2⟩ := T.cell S hx1
      have fin : ∀ acc', acc' = acc ++ ((u.take c).drop a) ++ insM t t1 → Ev (fun n => s4a12 (recL 9 true n) n (s4a10l (recL 9 true n) n (n - (j + 1))) (.s u) x3 x6 (.s acc') (.i .i64 (i : Int)) h) P := by
        intro acc' e
        unfold s4a12
        refine Ev.iadd ?_
        rw [wadd1 (by omega)]
        have hsz : acc'.length ≤ (i + 1) * 1000 := by
          rw [e]
          have : (insM t t1).length ≤ 5 := by unfold insM; split <;> simp
          simp
          omega
        refine ih (i + 1) (j + 1) acc' a h hr' (by simp) ⟨c, ec, c1, c2, c3⟩ hsz S (fun acc2 e2 => K acc2 ?_)
        rw [e2, e]
        have : spacedM u (t :: t1 :: r1) = (u.take c).drop a ++ insM t t1 ++ spacedM u (t1 :: r1) := by
          show (u.take t1.pos.toNat).drop t.pos.toNat ++ _ ++ _ = _
          rw [ea, ec, Int.toNat_natCast, Int.toNat_natCast]
        rw [this]
        simp
      unfold s4a11
      refine Ev.op (u1 _) (Ev.fld (Ev.op (u2 3 _ rfl) (Ev.iadd ?_)))
      rw [wadd1 (by omega)]
      refine Ev.op (v1 _) (Ev.fld (Ev.op (v2 3 _ rfl) ?_))
      rw [ea, ec]
      refine Ev.op (cutS c1 c2 _) (Ev.sadd (by simp; omega) ?_)
      refine Ev.op (u1 _) (Ev.fld (Ev.op (u2 0 _ rfl) ?_))
      refine Ev.ine (fun e2 => ?_) (fun e2 => ?_)
      · refine yg ?_; refine yg ?_; refine yg ?_; refine yg ?_; refine yg ?_; refine yg ?_; refine yg ?_; refine ap ?_; refine yt ?_
        refine Ev.sadd (by simp; omega) ?_
        refine fin _ ?_
        unfold insM
        rw [if_pos (.inl e2)]
      · refine zf ?_; refine wm ?_; refine zf ?_; refine wm ?_; refine zf ?_
        refine Ev.iadd ?_
        rw [wadd1 (by omega)]
        refine zf ?_
        refine Ev.op (v1 _) ?_
        refine zf ?_; refine wf ?_; refine zf ?_
        refine Ev.op (v2 0 _ rfl) ?_
        refine zf ?_
        refine Ev.ine (fun e3 => ?_) (fun e3 => ?_)
        · refine aq ?_; refine yt ?_
          refine Ev.sadd (by simp; omega) ?_
          refine fin _ ?_
          unfold insM
          rw [if_pos (.inr e3)]
        · refine aq ?_; refine yj ?_
          refine fin _ ?_
          unfold insM
          rw [if_neg (fun h => h.elim (fun h => h e2) (fun h => h e3))]
          simp
    · refine yj ?_
      have h1 : r = [] := by
        have := congrArg List.length hr'
        simp at this
        cases r with
        | nil => rfl
        | cons => simp at this; omega
      subst h1
      exact K _ (by simp [spacedM])
end

theorem blanks2 {I : Im} {A L : Ls} {h : Hp} {u : List Nat} (hu : u.length ≤ 300) (hb : ∀ c ∈ u, c < 256) (S : Sy I A [] L h) :
    Ev (fun n => s4a2 (recL 9 true n) n (.s u) h) (fun v h' => v = .b true) := by
  obtain ⟨lx, res, l1, l2, l4⟩ := doitD (u := u) (by omega)
  unfold s4a2
  have e8 : ∀ n, recL 9 true n 8 = shD n 8 := fun n => recL_other true n rfl
  have e10 : ∀ n, recL 9 true n 10 = shD n 10 := fun n => recL_other true n rfl
  have e11 : ∀ n, recL 9 true n 11 = shD n 11 := fun n => recL_other true n rfl
  simp only [e8]
  have hlim : u.length ≤ lim := by simp [lim]; omega
  refine Ev.call (Doit_ok S hlim hb 2001 2001 2004 (by simp [lim]) (by simp [lim]) lx l1 res l2) ?_
  rintro _ h1 ⟨J, cs, rfl, g1, S1, N1⟩
  obtain ⟨c1, o1, b1⟩ := N1.shape
  refine wx ?_; refine wx ?_; refine wx ?_; refine wa fun _ _ _ => ?_; refine wt fun _ _ => ?_
  unfold s4a3
  refine Ev.ine (fun e1 => ?_) (fun e1 => ?_)
  · simp only [recL_self]
    refine yt ?_; refine wm ?_
    exact Ev.ret rfl
  · obtain ⟨k0, l3, k1, k2, k3⟩ := l4 e1
    refine yj ?_
    unfold s4a4
    simp only [e10]
    refine Ev.call (rlex_ok (by assumption) hlim 2001 2001 (by simp [lim]) lx l1) ?_
    rintro _ h2 ⟨K, x, rfl, g2, S2, T2⟩
    refine wx ?_; refine wx ?_; refine wx ?_
    unfold s4a5
    refine Ev.ine (fun e2 => ?_) (fun e2 => ?_)
    · exact absurd k0 e2
    · refine yj ?_
      unfold s4a6 s4a7 s4a9 s4a10
      have l1' := l1
      unfold lexM at l1'
      rw [if_neg (by omega)] at l1'
      obtain ⟨lt, q1, q2⟩ := toks_lx (by omega) 2001 0 [] lx (by omega) l1' k0
      have q3 : lx.1 = lt := by rw [q1]; rfl
      have hpos := lx_pos _ _ _ q2
      simp only [Nat.zero_add, List.drop_zero] at hpos
      rw [← q3] at hpos
      refine blanks_loop (p := 0) T2 l3 hu lx.1 0 0 [] h2 (by simp) ?_ hpos (by simp) S2 ?_
      · obtain ⟨a, e, he, _⟩ := k1
        rw [he]; simp
      · intro acc' ea
        simp only [List.nil_append] at ea
        subst ea
        unfold s4a8
        refine Ev.lenS (Ev.igt (fun e3 => ?_) (fun e3 => ?_))
        · simp only [recL_self]
          refine yt ?_; refine wm ?_
          exact Ev.ret rfl
        · have hr : readM doitS 2004 lx = some (res.1, res.2.1, 0) := by
            rw [l2]
            have : res.2.2 = 0 := e1
            rw [← this]
          have hsp : (spacedM u lx.1).length ≤ 2000 := by simp at e3; omega
          obtain ⟨l', m1, m2⟩ := blanks_read hu l1 k0 hr hsp
          have hb' : ∀ c ∈ spacedM u lx.1, c < 256 := by
            have aux : ∀ (l : List Tok), ∀ c ∈ spacedM u l, c < 256 := by
              intro l
              induction l with
              | nil => intro c hc; cases hc
              | cons t l ih =>
                intro c hc
                cases l with
                | nil => cases hc
                | cons t1 l =>
                  have hc : c ∈ (u.take t1.pos.toNat).drop t.pos.toNat ++ insM t t1 ++ spacedM u (t1 :: l) := hc
                  rcases List.mem_append.1 hc with hc | hc
                  · rcases List.mem_append.1 hc with hc | hc
                    · exact hb c (List.mem_of_mem_take (List.mem_of_mem_drop hc))
                    · unfold insM at hc
                      split at hc
                      · simp at hc; omega
                      · cases hc
                  · exact ih c hc
            exact aux lx.1
          simp only [e8, e11, recL_self]
          refine yj ?_
          refine Ev.call (Doit_ok (by assumption) (by simp [lim]; omega) hb' 2001 2001 2004 (by simp [lim]) (by simp [lim]) (l', 0, 0) m1 (res.1, 0, 0) m2) ?_
          rintro _ h4 ⟨M, cs2, rfl, g4, S4, N4⟩
          obtain ⟨d1, p1, f1⟩ := N4.shape
          refine wx ?_; refine wx ?_; refine wx ?_; refine wa fun _ _ _ => ?_; refine wt fun _ _ => ?_
          refine Ev.ieq (fun e4 => ?_) (fun e4 => ?_)
          · refine zt ?_; refine ws ?_; refine zt ?_; refine ws ?_; refine zt ?_
            refine Ev.call (same_ok res.1 res.1 M A [] _ _ cs cs2 (by assumption) ((N1.mono g2).mono g4) N4) ?_
            rintro _ h5 ⟨rfl, S5⟩
            rw [nEq_refl]
            refine ap ?_; refine zt ?_; refine wm ?_; refine ap ?_
            exact Ev.ret rfl
          · exact absurd rfl e4

/-- ParseBlanks runs to true, whatever its argument. -/
theorem blanks_ok {I : Im} {A L : Ls} {h : Hp} {u : List Nat} (hb : ∀ c ∈ u, c < 256) (S : Sy I A [] L h) :
    Ev (fun n => s4 (recL 9 true n) n (.s u) h) (fun v h' => v = .b true) := by
  unfold s4 s4a1
  refine Ev.lenS ?_
  refine Ev.igt (fun e1 => ?_) (fun e1 => ?_)
  · refine yt ?_
    simp at e1
    refine Ev.op (cutT (by omega) _) ?_
    exact blanks2 (by simp; omega) (fun c hc => hb c (List.mem_of_mem_take hc)) S
  · refine yj ?_
    simp at e1
    exact blanks2 (by omega) hb S

end Go.Dd

