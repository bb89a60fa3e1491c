/- A part of the proof: U1 U2 U3 T15 T16 T17 T18 U4 B2 B3 T19 Z1 Y1 Y2 Y3: each text has a comment of its own. -/
import Derived.Test.YtliejomdaookoaaPl3
/- Dd, part U1: plain: what the program's parser says ends, and has just the names and literals of its tokens. -/
set_option linter.unusedVariables false
set_option linter.unusedSimpArgs false
set_option maxRecDepth 100000
namespace Go.Dd

def Good (l : List Tok) : Prop := ∃ a e, l = a ++ [e] ∧ e.kind = 0 ∧ (∀ t ∈ a, t.kind ≠ 0) ∧ ∀ t ∈ a ++ [e], t.text.length ≤ 10000
def T1 (t : Tok) : Nat := if t.kind = 1 ∨ t.kind = 4 ∨ t.kind = 5 ∨ t.kind = 6 ∨ t.kind = 8 then 1 else 0
def T2 (t : Tok) : Nat := if t.kind = 1 ∨ t.kind = 4 ∨ t.kind = 5 ∨ t.kind = 6 ∨ t.kind = 8 ∨ t.kind = 2 ∨ t.kind = 3 then 1 else 0
def least (l : List Tok) : Nat := (l.map T1).sum
def most (l : List Tok) : Nat := (l.map T2).sum

mutual
def cnt : Node → Nat
  | .mk k _ _ ns ts ks => (if k ≠ 9 ∧ k ≠ 8 ∧ k ≠ 10 ∧ k ≠ 11 ∧ k ≠ 4 then 1 else 0) + ns.length + ts.length + cntL ks
def cntL : List Node → Nat
  | [] => 0
  | x :: l => cnt x + cntL l
end

theorem cntL_app : ∀ (a b : List Node), cntL (a ++ b) = cntL a + cntL b
  | [], b => by simp [cntL]
  | x :: a, b => by simp [cntL, cntL_app a b]; omega

theorem Good.head {l : List Tok} (h : Good l) : ∃ t r, l = t :: r ∧ (t.kind = 0 → r = []) ∧ (t.kind ≠ 0 → Good r ∧ 1 ≤ r.length) := by
  obtain ⟨a, e, rfl, he, ha, hb⟩ := h
  cases a with
  | nil => exact ⟨e, [], rfl, fun _ => rfl, fun h => absurd he h⟩
  | cons t a =>
    refine ⟨t, a ++ [e], rfl, fun h => absurd h (ha t (by simp)), fun _ => ⟨⟨a, e, rfl, he, fun u hu => ha u (by simp [hu]), fun u hu => hb u (by simp at hu ⊢; exact .inr hu)⟩, by simp⟩⟩

theorem Good.text {l : List Tok} (h : Good l) {t : Tok} {r : List Tok} (e : l = t :: r) : t.text.length ≤ 10000 := by
  obtain ⟨a, e', rfl, he, ha, hb⟩ := h
  exact hb t (by rw [e]; simp)

/-- From one state to another: so many names and literals. -/
structure Stp (a b : PSt) (k : Nat) : Prop where
  good : Good b.toks
  err : a.err ≠ 0 → b.err ≠ 0
  run : ∃ c, a.toks = c ++ b.toks ∧ (b.err = 0 → least c ≤ k ∧ k ≤ most c)

theorem Stp.ok {a b : PSt} {k : Nat} (h : Stp a b k) (e : b.err = 0) : a.err = 0 := Decidable.byContradiction fun n => h.err n e
theorem Stp.refl {a : PSt} (h : Good a.toks) : Stp a a 0 := ⟨h, id, [], rfl, fun _ => by simp [least, most]⟩
theorem Stp.trans {a b c : PSt} {j k : Nat} (h : Stp a b j) (g : Stp b c k) : Stp a c (j + k) := by
  obtain ⟨x, hx, h1⟩ := h.run
  obtain ⟨y, hy, h2⟩ := g.run
  refine ⟨g.good, fun e => g.err (h.err e), x ++ y, by rw [hx, hy, List.append_assoc], fun e => ?_⟩
  have e' := g.ok e
  obtain ⟨a1, a2⟩ := h1 e'
  obtain ⟨b1, b2⟩ := h2 e
  simp only [least, most, List.map_append, List.sum_append] at *
  omega
theorem Stp.any {a b : PSt} {j : Nat} (h : Stp a b j) (e : b.err ≠ 0) (k : Nat) : Stp a b k := ⟨h.good, h.err, by
  obtain ⟨x, hx, h1⟩ := h.run
  exact ⟨x, hx, fun e' => absurd e' e⟩⟩
theorem Stp.cast {a b : PSt} {j k : Nat} (h : Stp a b j) (e : b.err = 0 → j = k) : Stp a b k := by
  by_cases hb : b.err = 0
  · rw [← e hb]; exact h
  · exact h.any hb k
theorem Stp.len {a b : PSt} {k : Nat} (h : Stp a b k) : b.toks.length ≤ a.toks.length := by
  obtain ⟨x, hx, _⟩ := h.run
  rw [hx]; simp
theorem Stp.same {a b : PSt} (h : Good b.toks) (e1 : b.toks = a.toks) (e2 : b.err = a.err) : Stp a b 0 := ⟨h, fun e => by rw [e2]; exact e, [], by simp [e1], fun _ => by simp [least, most]⟩

theorem lookG {st : PSt} (h : Good st.toks) : ∃ t r, st.toks = t :: r ∧ lookS st 0 = some t ∧ (t.kind = 0 → r = []) ∧ (t.kind ≠ 0 → Good r ∧ 1 ≤ r.length) := by
  obtain ⟨t, r, e, h1, h2⟩ := h.head
  exact ⟨t, r, e, by simp [lookS, e], h1, h2⟩

theorem look1 {st : PSt} (h : Good st.toks) : ∃ t, lookS st 1 = some t := by
  obtain ⟨t, r, e, h1, h2⟩ := h.head
  unfold lookS
  have : min 1 (st.toks.length - 1) < st.toks.length := by rw [e]; simp; omega
  exact ⟨st.toks[min 1 (st.toks.length - 1)], by simp [this]⟩

/-- Is the next token one? -/
def isC (st : PSt) (t : Tok) (kind : Int) (text : List Nat) : Bool := decide (st.err = 0) && decide (t.kind = kind) && (decide (text = []) || decide (t.text = text))
theorem isG {st : PSt} {t : Tok} (h : lookS st 0 = some t) (kind : Int) (text : List Nat) : isS st kind text = some (isC st t kind text) := by
  unfold isS; rw [h]; rfl
theorem isC_ok {st : PSt} {t : Tok} {kind : Int} {text : List Nat} (h : isC st t kind text = true) : st.err = 0 ∧ t.kind = kind := by
  simp [isC] at h
  exact h.1

theorem takeG {st : PSt} (h : Good st.toks) {t : Tok} {r : List Tok} (e : st.toks = t :: r) (hk : t.kind ≠ 0) : takeS st = some (t, { st with toks := r }) ∧ Good r := by
  obtain ⟨t', r', e', h1, h2⟩ := h.head
  rw [e] at e'
  cases e'
  obtain ⟨g1, g2⟩ := h2 hk
  refine ⟨?_, g1⟩
  unfold takeS
  have : lookS st 0 = some t := by simp [lookS, e]
  simp only [this, Option.bind_some, if_neg hk]
  rw [if_pos (by rw [e]; simp; omega), e]
  rfl

theorem take0 {st : PSt} (h : Good st.toks) {t : Tok} {r : List Tok} (e : st.toks = t :: r) (hk : t.kind = 0) : takeS st = some (t, st) := by
  unfold takeS
  have : lookS st 0 = some t := by simp [lookS, e]
  simp [this, hk]

/-- A token is taken. -/
theorem takeW {st : PSt} (h : Good st.toks) {t : Tok} (ht : lookS st 0 = some t) (hk : t.kind ≠ 0) : ∃ st', takeS st = some (t, st') ∧ st'.err = st.err ∧ st'.deep = st.deep ∧ st'.pos = st.pos ∧ st'.toks.length + 1 = st.toks.length ∧ Good st'.toks ∧ st.toks = t :: st'.toks ∧ ∀ k, T1 t ≤ k → k ≤ T2 t → Stp st st' k := by
  obtain ⟨t', r, e, h1, _, _⟩ := lookG h
  rw [h1] at ht
  cases ht
  obtain ⟨a1, a2⟩ := takeG h e hk
  refine ⟨_, a1, rfl, rfl, rfl, by rw [e]; simp, a2, e, fun k k1 k2 => ⟨a2, id, [t], by simp [e], fun _ => by simp [least, most]; omega⟩⟩

/-- A take, whatever it is: for what is in error already, or for marks. -/
theorem takeE {st : PSt} (h : Good st.toks) : ∃ t st', takeS st = some (t, st') ∧ st'.err = st.err ∧ Good st'.toks ∧ ∃ c, st.toks = c ++ st'.toks ∧ (c = [] ∨ c = [t]) := by
  obtain ⟨t, r, e, h1, h2, h3⟩ := lookG h
  by_cases hk : t.kind = 0
  · exact ⟨t, st, take0 h e hk, rfl, h, [], rfl, .inl rfl⟩
  · obtain ⟨a1, a2⟩ := takeG h e hk
    exact ⟨t, _, a1, rfl, a2, [t], by simp [e], .inr rfl⟩

theorem failW {st : PSt} (h : Good st.toks) (t : Tok) (e : Int) (he : e ≠ 0) (k : Nat) : Stp st (failS st t e) k ∧ (failS st t e).err ≠ 0 := by
  have : (failS st t e).err ≠ 0 := by
    unfold failS
    split
    · exact he
    · rename_i h; exact h
  refine ⟨⟨by rw [failS_toks]; exact h, fun _ => this, [], by rw [failS_toks]; simp, fun e' => absurd e' this⟩, this⟩

theorem needW {st : PSt} (h : Good st.toks) (kd : Int) (tx : List Nat) (k : Nat) (hk : kd ≠ 0 → ∀ t : Tok, t.kind = kd → T1 t ≤ k ∧ k ≤ T2 t) (h0 : kd = 0 → k = 0) :
    ∃ t st', needS st kd tx = some (t, st') ∧ Stp st st' k ∧ (st'.err = 0 → st.err = 0 ∧ t.kind = kd) := by
  obtain ⟨t, r, e, h1, h2, h3⟩ := lookG h
  unfold needS
  rw [isG h1]
  simp only [Option.bind_some]
  cases hc : isC st t kd tx with
  | true =>
    obtain ⟨c1, c2⟩ := isC_ok hc
    by_cases hz : t.kind = 0
    · refine ⟨t, st, by simp [take0 h e hz], ?_, fun _ => ⟨c1, c2⟩⟩
      rw [h0 (by rw [← c2]; exact hz)]
      exact Stp.refl h
    · obtain ⟨st', a1, a2, a3, a4, a5, a6, a7, a8⟩ := takeW h h1 hz
      obtain ⟨k1, k2⟩ := hk (by rw [← c2]; exact hz) t c2
      exact ⟨t, st', by simp [a1], a8 k k1 k2, fun _ => ⟨c1, c2⟩⟩
  | false =>
    obtain ⟨f1, f2⟩ := failW h t 13 (by decide) k
    exact ⟨z4, _, by simp [h1], f1, fun e => absurd e f2⟩

theorem tIn {j : Int} {k : Nat} (h : (j = 1 ∨ j = 4 ∨ j = 5 ∨ j = 6 ∨ j = 8) ∧ k = 1 ∨ (j = 2 ∨ j = 3) ∧ k ≤ 1 ∨ (j = 7 ∨ j = 9 ∨ j = 10) ∧ k = 0) : ∀ t : Tok, t.kind = j → T1 t ≤ k ∧ k ≤ T2 t := by
  intro t ht
  unfold T1 T2
  rw [ht]
  rcases h with ⟨rfl | rfl | rfl | rfl | rfl, rfl⟩ | ⟨rfl | rfl, hk⟩ | ⟨rfl | rfl | rfl, rfl⟩ <;> simp <;> omega

theorem nameW {st : PSt} (h : Good st.toks) (kd : Int) (hk : kd = 1 ∨ kd = 8) (len : Nat) : ∃ t st', nameS st kd len = some (t, st') ∧ Stp st st' 1 ∧ st'.toks.length ≤ st.toks.length := by
  obtain ⟨t, st1, h1, h2, h3⟩ := needW h kd [] 1 (fun _ => tIn (by rcases hk with rfl | rfl <;> simp)) (by rcases hk with rfl | rfl <;> simp)
  unfold nameS
  rw [h1]
  simp only [Option.bind_some]
  by_cases hl : len = 4
  · obtain ⟨f1, f2⟩ := failW h2.good t 18 (by decide) 0
    refine ⟨_, _, rfl, ?_, ?_⟩
    · simp only [hl, if_true]; exact h2.trans f1
    · simp only [hl, if_true, failS_toks]; exact h2.len
  · refine ⟨_, _, rfl, ?_, ?_⟩
    · simp only [hl, if_false]; exact h2
    · simp only [hl, if_false]; exact h2.len

theorem negW {st : PSt} (h : Good st.toks) : ∃ c, negS st = some c ∧ (c = true → st.err = 0 ∧ ∃ t u r, st.toks = t :: u :: r ∧ t.kind = 3 ∧ u.kind = 4) := by
  obtain ⟨t, r, e, h1, h2, h3⟩ := lookG h
  obtain ⟨u, hu⟩ := look1 h
  unfold negS
  rw [hu, isG h1, h1]
  refine ⟨_, rfl, fun hc => ?_⟩
  simp at hc
  obtain ⟨⟨c1, c2⟩, _⟩ := hc
  obtain ⟨d1, d2⟩ := isC_ok c1
  refine ⟨d1, t, u, r.drop 1, ?_, d2, c2⟩
  obtain ⟨_, hl⟩ := h3 (by rw [d2]; decide)
  cases r with
  | nil => simp at hl
  | cons v r =>
    have : u = v := by
      unfold lookS at hu
      rw [e] at hu
      simp at hu
      exact hu.symm
    rw [e, this]; rfl

/-- A plain thing. -/
theorem plainW {st : PSt} (h : Good st.toks) : ∃ x c st', plainS st = some ((x, c), st') ∧ (c = true → Stp st st' (cnt x) ∧ st'.toks.length < st.toks.length ∧ st.err = 0 ∧ st'.err = 0) ∧ (c = false → st' = st) ∧ x.kind ≠ 7 := by
  obtain ⟨t, r, e, h1, h2, h3⟩ := lookG h
  unfold plainS
  rw [h1]
  simp only [Option.bind_some]
  by_cases he : st.err = 0
  · rw [if_pos he]
    obtain ⟨c, hc, hc2⟩ := negW h
    rw [hc]
    simp only [Option.bind_some]
    cases c with
    | true =>
      obtain ⟨_, t', u, r', e', k1, k2⟩ := hc2 rfl
      have ht' : t = t' := by rw [e] at e'; exact (List.cons.inj e').1
      subst ht'
      obtain ⟨s1, a1, a2, a3, a4, a5, a6, a7, a8⟩ := takeW h h1 (by rw [k1]; decide)
      have hr : s1.toks = u :: r' := by
        rw [a7] at e'; exact (List.cons.inj e').2
      have hl : lookS s1 0 = some u := by simp [lookS, hr]
      obtain ⟨s2, b1, b2, b3, b4, b5, b6, b7, b8⟩ := takeW a6 hl (by rw [k2]; decide)
      simp only [if_true, a1, Option.bind_some, b1]
      refine ⟨_, _, _, rfl, fun _ => ⟨?_, by show s2.toks.length < _; omega, he, by show s2.err = 0; rw [b2, a2]; exact he⟩, (fun h => by cases h), ?_⟩
      rotate_left
      · show (1 : Int) ≠ 7
        decide
      have S1 := a8 0 (by simp [T1, k1]) (by simp)
      have S2 := b8 1 (by simp [T1, k2]) (by simp [T2, k2])
      have : cnt (.mk 1 [] (w64 (0 - u.num)) [] [] []) = 0 + 1 := by simp [cnt, cntL]
      rw [this]
      exact S1.trans S2
    | false =>
      simp only [Bool.false_eq_true, if_false]
      have one : ∀ (j : Int) (kk : Int), (j = 4 ∨ j = 5 ∨ j = 6) → (kk ≠ 9 ∧ kk ≠ 8 ∧ kk ≠ 10 ∧ kk ≠ 11 ∧ kk ≠ 4) ∧ kk ≠ 7 → t.kind = j →
          ∃ x c st', ((takeS st).bind fun r => some ((Node.mk kk t.text t.num [] [] [], true), r.2)) = some ((x, c), st') ∧ (c = true → Stp st st' (cnt x) ∧ st'.toks.length < st.toks.length ∧ st.err = 0 ∧ st'.err = 0) ∧ (c = false → st' = st) ∧ x.kind ≠ 7 := by
        intro j kk hj hkk ht
        obtain ⟨s1, a1, a2, a3, a4, a5, a6, a7, a8⟩ := takeW h h1 (by rw [ht]; omega)
        rw [a1]
        refine ⟨_, _, _, rfl, fun _ => ⟨?_, by show s1.toks.length < _; omega, he, by show s1.err = 0; rw [a2]; exact he⟩, (fun h => by cases h), ?_⟩
        rotate_left
        · exact hkk.2
        have : cnt (.mk kk t.text t.num [] [] []) = 1 := by simp [cnt, cntL]; omega
        rw [this]
        exact a8 1 (by simp [T1]; split <;> omega) (by simp [T2]; rcases hj with rfl | rfl | rfl <;> simp [ht])
      by_cases h4 : t.kind = 4
      · rw [if_pos h4]; exact one 4 1 (by simp) (by decide) h4
      · rw [if_neg h4]
        by_cases h5 : t.kind = 5
        · rw [if_pos h5]; exact one 5 2 (by simp) (by decide) h5
        · rw [if_neg h5]
          by_cases h6 : t.kind = 6
          · rw [if_pos h6]; exact one 6 3 (by simp) (by decide) h6
          · rw [if_neg h6]
            exact ⟨_, _, _, rfl, (fun h => by cases h), fun _ => rfl, by show (0 : Int) ≠ 7; decide⟩
  · rw [if_neg he]
    exact ⟨_, _, _, rfl, (fun h => by cases h), fun _ => rfl, by show (0 : Int) ≠ 7; decide⟩

end Go.Dd

/- Dd, part U2: plain: the program's parser ends, and has just the names and literals of its tokens: loops. -/
set_option linter.unusedVariables false
set_option linter.unusedSimpArgs false
set_option maxRecDepth 100000
namespace Go.Dd

/-- A node of a send is made by send. -/
def Shp (x : Node) : Prop := x.kind = 7 → ∃ t ks, x = sendN t ks ∧ ks ≠ []

def Fine0 (f : PF) (b : Nat) : Prop := ∀ st, Good st.toks → (st.err = 0 → st.toks.length ≤ b) → ∃ x st', f st = some (x, st') ∧ Stp st st' (cnt x) ∧ Shp x
def FineP (f : PF) (b : Nat) : Prop := ∀ st, Good st.toks → (st.err = 0 → st.toks.length ≤ b) → ∃ x st', f st = some (x, st') ∧ Stp st st' (cnt x) ∧ Shp x ∧ (st'.err = 0 → st'.toks.length < st.toks.length)

theorem Shp.flat (k : Int) (t : List Nat) (m : Int) (ns ts : List (List Nat)) (ks : List Node) (h : k ≠ 7) : Shp (.mk k t m ns ts ks) := fun e => absurd e h
theorem Shp.send (t : List Nat) (x : Node) (ks : List Node) : Shp (sendN t (x :: ks)) := fun _ => ⟨t, _, rfl, by simp⟩
theorem cnt_send (t : List Nat) (ks : List Node) : cnt (sendN t ks) = 1 + cntL ks := by simp [sendN, cnt]
theorem cntL_cons (x : Node) (l : List Node) : cntL (x :: l) = cnt x + cntL l := by simp [cntL]
theorem cntL_nil : cntL [] = 0 := by simp [cntL]

theorem withinW {f : PF} {b : Nat} (Hf : Fine0 f b) {st : PSt} (h : Good st.toks) {t : Tok} (ht : lookS st 0 = some t) (hk : t.kind = 7 ∨ t.kind = 10) (hb : st.err = 0 → st.toks.length ≤ b + 1) :
    ∃ x st', withinS f st = some (x, st') ∧ Stp st st' (cnt x) ∧ Shp x ∧ (st'.err = 0 → st'.toks.length < st.toks.length) := by
  obtain ⟨s1, a1, a2, a3, a4, a5, a6, a7, a8⟩ := takeW h ht (by omega)
  have S1 := a8 0 (by unfold T1; split <;> omega) (by omega)
  unfold withinS
  rw [a1]
  simp only [Option.bind_some]
  by_cases hd : s1.deep = 20
  · rw [if_pos hd]
    obtain ⟨f1, f2⟩ := failW a6 t 14 (by decide) (cnt zN)
    refine ⟨_, _, rfl, ?_, Shp.flat _ _ _ _ _ _ (by decide), fun e => absurd e f2⟩
    have := S1.trans f1
    rwa [Nat.zero_add] at this
  · rw [if_neg hd]
    obtain ⟨x, s2, b1, b2, b3⟩ := Hf { s1 with deep := w64 (s1.deep + 1) } a6 (fun e => by
      have : st.err = 0 := by rw [← a2]; exact e
      have := hb this
      show s1.toks.length ≤ b
      omega)
    rw [b1]
    refine ⟨_, _, rfl, ?_, b3, fun e => ?_⟩
    · have S0 : Stp s1 { s1 with deep := w64 (s1.deep + 1) } 0 := Stp.same a6 rfl rfl
      have S3 : Stp s2 { s2 with deep := w64 (s2.deep - 1) } 0 := Stp.same b2.good rfl rfl
      have := ((S1.trans S0).trans b2).trans S3
      have e0 : 0 + 0 + cnt x + 0 = cnt x := by omega
      rwa [e0] at this
    · have := b2.len
      have this : s2.toks.length ≤ s1.toks.length := this
      show s2.toks.length < _
      omega

theorem unaryW : ∀ (f : Nat) (st : PSt) (x : Node), Good st.toks → (st.err = 0 → st.toks.length ≤ f) → 1 ≤ f → ∃ y st' k, unaryS f x st = some (y, st') ∧ Stp st st' k ∧ cnt y = cnt x + k ∧ (Shp x → Shp y)
  | 0, st, x, h, hf, h1 => by omega
  | f + 1, st, x, h, hf, h1 => by
    obtain ⟨t, r, e, ht, h2, h3⟩ := lookG h
    unfold unaryS
    rw [isG ht]
    simp only [Option.bind_some]
    cases hc : isC st t 1 [] with
    | false => exact ⟨x, st, 0, by simp, Stp.refl h, by simp, id⟩
    | true =>
      obtain ⟨c1, c2⟩ := isC_ok hc
      obtain ⟨s1, a1, a2, a3, a4, a5, a6, a7, a8⟩ := takeW h ht (by omega)
      have hl := hf c1
      have hr : 1 ≤ s1.toks.length := by
        obtain ⟨t', r', e', _⟩ := a6.head
        rw [e']; simp
      obtain ⟨y, st', k, b1, b2, b3, b4⟩ := unaryW f s1 (sendN t.text [x]) a6 (fun _ => by omega) (by omega)
      refine ⟨y, st', 1 + k, by simp [a1, b1], (a8 1 (by simp [T1, c2]) (by simp [T2, c2])).trans b2, ?_, fun _ => b4 (Shp.send _ _ _)⟩
      rw [b3, cnt_send, cntL_cons, cntL_nil]
      omega

theorem tempsLW : ∀ (f : Nat) (st : PSt) (l : List (List Nat)), Good st.toks → (st.err = 0 → st.toks.length ≤ f) → 1 ≤ f → ∃ l' st' k, tempsL f l st = some (l', st') ∧ Stp st st' k ∧ l'.length = l.length + k
  | 0, st, l, h, hf, h1 => by omega
  | f + 1, st, l, h, hf, h1 => by
    obtain ⟨t, r, e, ht, h2, h3⟩ := lookG h
    unfold tempsL
    rw [isG ht]
    simp only [Option.bind_some]
    cases hc : isC st t 1 [] with
    | false =>
      obtain ⟨u, s1, a1, a2, a3⟩ := needW h 10 [124] 0 (fun _ => tIn (by simp)) (by simp)
      exact ⟨l, s1, 0, by simp [a1], a2, by simp⟩
    | true =>
      obtain ⟨c1, c2⟩ := isC_ok hc
      obtain ⟨s1, a1, a2, a3, a4, a5, a6, a7, a8⟩ := takeW h ht (by omega)
      have hl := hf c1
      have hr : 1 ≤ s1.toks.length := by
        obtain ⟨t', r', e', _⟩ := a6.head
        rw [e']; simp
      obtain ⟨l', st', k, b1, b2, b3⟩ := tempsLW f s1 (l ++ [t.text]) a6 (fun _ => by omega) (by omega)
      refine ⟨l', st', 1 + k, by simp [a1, b1], (a8 1 (by simp [T1, c2]) (by simp [T2, c2])).trans b2, ?_⟩
      rw [b3]; simp; omega

theorem tempsW {f : Nat} {st : PSt} (h : Good st.toks) (hf : st.err = 0 → st.toks.length ≤ f) (h1 : 1 ≤ f) : ∃ l st', tempsS f st = some (l, st') ∧ Stp st st' l.length := by
  obtain ⟨t, r, e, ht, h2, h3⟩ := lookG h
  unfold tempsS
  rw [isG ht]
  simp only [Option.bind_some]
  cases hc : isC st t 10 [124] with
  | false => exact ⟨[], st, by simp, Stp.refl h⟩
  | true =>
    obtain ⟨c1, c2⟩ := isC_ok hc
    obtain ⟨s1, a1, a2, a3, a4, a5, a6, a7, a8⟩ := takeW h ht (by omega)
    obtain ⟨l, st', k, b1, b2, b3⟩ := tempsLW f s1 [] a6 (fun e => by have := hf c1; omega) h1
    have S1 := (a8 0 (by simp [T1, c2]) (by omega)).trans b2
    refine ⟨l, st', by simp [a1, b1], ?_⟩
    rw [show l.length = 0 + k by rw [b3]; simp]
    exact S1

theorem paramsW : ∀ (f : Nat) (st : PSt) (l : List (List Nat)), Good st.toks → (st.err = 0 → st.toks.length ≤ f) → 1 ≤ f → ∃ l' st' k, paramsL f l st = some (l', st') ∧ Stp st st' k ∧ l'.length = l.length + k
  | 0, st, l, h, hf, h1 => by omega
  | f + 1, st, l, h, hf, h1 => by
    obtain ⟨t, r, e, ht, h2, h3⟩ := lookG h
    unfold paramsL
    rw [isG ht]
    simp only [Option.bind_some]
    cases hc : isC st t 8 [] with
    | false => exact ⟨l, st, 0, by simp, Stp.refl h, by simp⟩
    | true =>
      obtain ⟨c1, c2⟩ := isC_ok hc
      have hl := hf c1
      obtain ⟨s0, z1, z2, z3, z4, z5, z6, z7, z8⟩ := takeW h ht (by omega)
      obtain ⟨tx, s1, a1, a2, a3⟩ := nameW h 8 (.inr rfl) l.length
      have hlen : s1.toks.length + 1 ≤ st.toks.length := by
        unfold nameS needS at a1
        rw [isG ht, hc] at a1
        simp only [Option.bind_some, if_true, z1, Option.some.injEq, Prod.mk.injEq] at a1
        obtain ⟨_, rfl⟩ := a1
        split
        · rw [failS_toks]; omega
        · omega
      have hr : 1 ≤ s1.toks.length := by
        obtain ⟨t', r', e', _⟩ := a2.good.head
        rw [e']; simp
      obtain ⟨l', st', k, b1, b2, b3⟩ := paramsW f s1 (l ++ [tx]) a2.good (fun _ => by omega) (by omega)
      refine ⟨l', st', 1 + k, by simp [a1, b1], a2.trans b2, ?_⟩
      rw [b3]; simp; omega

theorem innerW {E : PF} {b : Nat} (HE : FineP E b) : Fine0 (innerS E) b := by
  intro st h hb
  obtain ⟨x, s1, a1, a2, a3, a4⟩ := HE st h hb
  obtain ⟨u, s2, c1, c2, c3⟩ := needW a2.good 10 [41] 0 (fun _ => tIn (by simp)) (by simp)
  refine ⟨x, s2, by simp [innerS, a1, c1], ?_, a3⟩
  exact a2.trans c2

theorem litsW {LI : PF} {b : Nat} (HL : Fine0 LI b) : ∀ (f : Nat) (st : PSt) (xs : List Node), Good st.toks → (st.err = 0 → st.toks.length < f ∧ st.toks.length ≤ b + 1) → 1 ≤ f → ∃ ys st' k, litsL LI f xs st = some (ys, st') ∧ Stp st st' k ∧ cntL ys = cntL xs + k ∧ (st'.err = 0 → ∃ t, lookS st' 0 = some t ∧ t.kind = 10)
  | 0, st, xs, h, hf, h1 => by omega
  | f + 1, st, xs, h, hf, h1 => by
    obtain ⟨t, r, e, ht, h2, h3⟩ := lookG h
    unfold litsL
    by_cases he : st.err = 0
    · rw [if_pos he, isG ht]
      simp only [Option.bind_some]
      obtain ⟨hl1, hl2⟩ := hf he
      cases hc : isC st t 10 [41] with
      | true => exact ⟨xs, st, 0, by simp, Stp.refl h, by simp, fun _ => ⟨t, ht, (isC_ok hc).2⟩⟩
      | false =>
        simp only [Bool.false_eq_true, if_false]
        obtain ⟨x, c, s1, a1, a2, a3, _⟩ := plainW h
        rw [a1]
        simp only [Option.bind_some]
        cases c with
        | true =>
          obtain ⟨b1, b2, b3, b4⟩ := a2 rfl
          have hr : 1 ≤ s1.toks.length := by
            obtain ⟨t', r', e', _⟩ := b1.good.head
            rw [e']; simp
          obtain ⟨ys, st', k, d1, d2, d3, d4⟩ := litsW HL f s1 (xs ++ [x]) b1.good (fun _ => by omega) (by omega)
          refine ⟨ys, st', cnt x + k, by simp [d1], b1.trans d2, ?_, d4⟩
          rw [d3, cntL_app, cntL_cons, cntL_nil]; omega
        | false =>
          have := a3 rfl
          subst this
          simp only [Bool.false_eq_true, if_false]
          rw [isG ht]
          simp only [Option.bind_some]
          have nest : (t.kind = 7 ∨ t.kind = 10) → ∃ ys st' k, ((withinS LI s1).bind fun q => litsL LI f (xs ++ [q.1]) q.2) = some (ys, st') ∧ Stp s1 st' k ∧ cntL ys = cntL xs + k ∧ (st'.err = 0 → ∃ t, lookS st' 0 = some t ∧ t.kind = 10) := by
            intro hk
            obtain ⟨y, s2, b1, b2, b3, b4⟩ := withinW HL h ht hk (fun _ => hl2)
            by_cases he2 : s2.err = 0
            · have := b4 he2
              have hr : 1 ≤ s2.toks.length := by
                obtain ⟨t', r', e', _⟩ := b2.good.head
                rw [e']; simp
              obtain ⟨ys, st', k, d1, d2, d3, d4⟩ := litsW HL f s2 (xs ++ [y]) b2.good (fun _ => by omega) (by omega)
              refine ⟨ys, st', cnt y + k, by simp [b1, d1], b2.trans d2, ?_, d4⟩
              rw [d3, cntL_app, cntL_cons, cntL_nil]; omega
            · have hr : 1 ≤ f := by
                rw [e] at hl1
                simp at hl1
                omega
              obtain ⟨ys, st', k, d1, d2, d3, d4⟩ := litsW HL f s2 (xs ++ [y]) b2.good (fun e => absurd e he2) hr
              refine ⟨ys, st', cnt y + k, by simp [b1, d1], b2.trans d2, ?_, d4⟩
              rw [d3, cntL_app, cntL_cons, cntL_nil]; omega
          cases hc1 : isC s1 t 7 [] with
          | true =>
            simp only [if_true, Option.bind_some]
            exact nest (.inl (isC_ok hc1).2)
          | false =>
            simp only [Bool.false_eq_true, if_false]
            rw [isG ht]
            simp only [Option.bind_some]
            cases hc2 : isC s1 t 10 [40] with
            | true =>
              simp only [if_true]
              exact nest (.inr (isC_ok hc2).2)
            | false =>
              simp only [Bool.false_eq_true, if_false, ht, Option.bind_some]
              obtain ⟨f1, f2⟩ := failW h t 13 (by decide) (cnt x)
              have hr : 1 ≤ f := by rw [e] at hl1; simp at hl1; omega
              obtain ⟨ys, st', k, d1, d2, d3, d4⟩ := litsW HL f (failS s1 t 13) (xs ++ [x]) (by rw [failS_toks]; exact h) (fun e => absurd e f2) hr
              refine ⟨ys, st', cnt x + k, d1, f1.trans d2, ?_, d4⟩
              rw [d3, cntL_app, cntL_cons, cntL_nil]; omega
    · rw [if_neg he]
      exact ⟨xs, st, 0, rfl, Stp.refl h, by simp, fun e => absurd e he⟩

end Go.Dd

/- Dd, part U3: plain: the program's parser ends, and has just the names and literals of its tokens: all of it. -/
set_option linter.unusedVariables false
set_option linter.unusedSimpArgs false
set_option maxRecDepth 100000
namespace Go.Dd

theorem Good.pos {l : List Tok} (h : Good l) : 1 ≤ l.length := by
  obtain ⟨t, r, e, _⟩ := h.head
  rw [e]; simp

theorem literalsW {LI : PF} {b f : Nat} (HL : Fine0 LI b) (hf : b + 1 < f) : Fine0 (literalsS LI f) (b + 1) := by
  intro st h hb
  obtain ⟨ys, s1, k, a1, a2, a3, a4⟩ := litsW HL f st [] h (fun e => ⟨by have := hb e; omega, hb e⟩) (by omega)
  have hc : cnt (.mk 4 [] 0 [] [] ys) = k := by simp [cnt, a3, cntL]
  by_cases he : s1.err = 0
  · obtain ⟨t, ht, hk⟩ := a4 he
    obtain ⟨s2, b1, b2, b3, b4, b5, b6, b7, b8⟩ := takeW a2.good ht (by omega)
    refine ⟨.mk 4 [] 0 [] [] ys, s2, by simp [literalsS, a1, b1], ?_, Shp.flat _ _ _ _ _ _ (by decide)⟩
    rw [hc]
    exact a2.trans (b8 0 (by simp [T1, hk]) (by omega))
  · obtain ⟨t, s2, b1, b2, b3, c, b4, b5⟩ := takeE a2.good
    refine ⟨.mk 4 [] 0 [] [] ys, s2, by simp [literalsS, a1, b1], ?_, Shp.flat _ _ _ _ _ _ (by decide)⟩
    have he2 : s2.err ≠ 0 := by rw [b2]; exact he
    have : Stp s1 s2 0 := ⟨b3, fun _ => he2, c, b4, fun e => absurd e he2⟩
    exact (a2.trans this).any he2 _

theorem stmtsW {E : PF} {b : Nat} (HE : FineP E b) : ∀ (f : Nat) (st : PSt) (xs : List Node), Good st.toks → (st.err = 0 → st.toks.length ≤ f ∧ st.toks.length ≤ b) → 1 ≤ f → ∃ ys st' k, stmtsL E f xs st = some (ys, st') ∧ Stp st st' k ∧ cntL ys = cntL xs + k
  | 0, st, xs, h, hf, h1 => by omega
  | f + 1, st, xs, h, hf, h1 => by
    obtain ⟨t, r, e, ht, h2, h3⟩ := lookG h
    unfold stmtsL
    by_cases he : st.err = 0
    · rw [if_pos he, isG ht]
      simp only [Option.bind_some]
      obtain ⟨hl1, hl2⟩ := hf he
      have fin : ∃ ys st' k, some (xs, st) = some (ys, st') ∧ Stp st st' k ∧ cntL ys = cntL xs + k := ⟨xs, st, 0, rfl, Stp.refl h, by simp⟩
      cases hc : isC st t 0 [] with
      | true => simpa using fin
      | false =>
        simp only [Bool.false_eq_true, if_false]
        rw [isG ht]
        simp only [Option.bind_some]
        cases hc2 : isC st t 10 [93] with
        | true => simpa using fin
        | false =>
          simp only [Bool.false_eq_true, if_false]
          rw [isG ht]
          simp only [Option.bind_some]
          cases hc3 : isC st t 10 [94] with
          | true =>
            simp only [if_true]
            obtain ⟨c1, c2⟩ := isC_ok hc3
            obtain ⟨s1, a1, a2, a3, a4, a5, a6, a7, a8⟩ := takeW h ht (by omega)
            obtain ⟨x, s2, b1, b2, b3, b4⟩ := HE s1 a6 (fun _ => by omega)
            obtain ⟨u, r2, e2, hu, _, _⟩ := lookG b2.good
            have S1 := (a8 0 (by simp [T1, c2]) (by omega)).trans b2
            have hcn : cntL (xs ++ [Node.mk 10 [] 0 [] [] [x]]) = cntL xs + (0 + cnt x) := by rw [cntL_app, cntL_cons, cntL_nil]; simp [cnt, cntL]
            rw [a1]
            simp only [Option.bind_some, b1]
            rw [isG hu]
            simp only [Option.bind_some]
            cases hc4 : isC s2 u 10 [46] with
            | false => exact ⟨xs ++ [Node.mk 10 [] 0 [] [] [x]], s2, _, by simp, S1, hcn⟩
            | true =>
              obtain ⟨d1, d2⟩ := isC_ok hc4
              obtain ⟨s3, g1, g2, g3, g4, g5, g6, g7, g8⟩ := takeW b2.good hu (by omega)
              refine ⟨xs ++ [Node.mk 10 [] 0 [] [] [x]], s3, _, by simp [g1], S1.trans (g8 0 (by simp [T1, d2]) (by omega)), by rw [hcn]; omega⟩
          | false =>
            simp only [Bool.false_eq_true, if_false]
            obtain ⟨x, s2, b1, b2, b3, b4⟩ := HE st h (fun _ => hl2)
            obtain ⟨u, r2, e2, hu, _, _⟩ := lookG b2.good
            have hcn : cntL (xs ++ [x]) = cntL xs + cnt x := by rw [cntL_app, cntL_cons, cntL_nil]; omega
            rw [b1]
            simp only [Option.bind_some]
            rw [isG hu]
            simp only [Option.bind_some]
            cases hc4 : isC s2 u 10 [46] with
            | false => exact ⟨xs ++ [x], s2, _, by simp, b2, hcn⟩
            | true =>
              obtain ⟨d1, d2⟩ := isC_ok hc4
              obtain ⟨s3, g1, g2, g3, g4, g5, g6, g7, g8⟩ := takeW b2.good hu (by omega)
              have hlt := b4 d1
              have hp := g6.pos
              obtain ⟨ys, st', k, k1, k2, k3⟩ := stmtsW HE f s3 (xs ++ [x]) g6 (fun _ => by omega) (by omega)
              refine ⟨ys, st', _, by simp [g1, k1], (b2.trans (g8 0 (by simp [T1, d2]) (by omega))).trans k2, by rw [k3, hcn]; omega⟩
    · rw [if_neg he]
      exact ⟨xs, st, 0, rfl, Stp.refl h, by simp⟩

theorem barW {l : List (List Nat)} {st : PSt} (h : Good st.toks) : ∃ st', bar l st = some st' ∧ Stp st st' 0 := by
  obtain ⟨t, r, e, ht, h2, h3⟩ := lookG h
  unfold bar
  by_cases hl : 0 < l.length
  · rw [if_pos hl, isG ht]
    simp only [Option.bind_some]
    cases hc : isC st t 10 [93] with
    | true => exact ⟨st, by simp, Stp.refl h⟩
    | false =>
      obtain ⟨u, s1, a1, a2, a3⟩ := needW h 10 [124] 0 (fun _ => tIn (by simp)) (by simp)
      exact ⟨s1, by simp [a1], a2⟩
  · rw [if_neg hl]
    exact ⟨st, rfl, Stp.refl h⟩

theorem blockW {E : PF} {b f : Nat} (HE : FineP E b) (hf : b ≤ f) (h1 : 1 ≤ f) : Fine0 (blockS E f) b := by
  intro st h hb
  obtain ⟨l, s1, k, a1, a2, a3⟩ := paramsW f st [] h (fun e => by have := hb e; omega) h1
  obtain ⟨s2, b1, b2⟩ := barW (l := l) a2.good
  have S2 := a2.trans b2
  have lt : ∀ s : PSt, (∃ k, Stp st s k) → s.err = 0 → s.toks.length ≤ b := fun s ⟨k, S⟩ e => by
    have h1 := hb (S.ok e)
    have := S.len
    omega
  obtain ⟨ts, s3, c1, c2⟩ := tempsW (f := f) S2.good (fun e => by have := lt s2 ⟨_, S2⟩ e; omega) h1
  have S3 := S2.trans c2
  obtain ⟨ks, s4, k4, d1, d2, d3⟩ := stmtsW HE f s3 [] S3.good (fun e => by have := lt s3 ⟨_, S3⟩ e; omega) h1
  have S4 := S3.trans d2
  obtain ⟨u, s5, e1, e2, e3⟩ := needW S4.good 10 [93] 0 (fun _ => tIn (by simp)) (by simp)
  have S5 := S4.trans e2
  refine ⟨.mk 9 [] 0 l ts ks, s5, by simp [blockS, a1, b1, c1, d1, e1], ?_, Shp.flat _ _ _ _ _ _ (by decide)⟩
  have : cnt (.mk 9 [] 0 l ts ks) = k + 0 + ts.length + k4 + 0 := by
    simp [cnt, d3, cntL] at a3 ⊢
    omega
  rw [this]
  exact S5

theorem primaryW {LI E : PF} {b f : Nat} (HL : Fine0 LI b) (HE : FineP E b) (hf : b ≤ f) (h1 : 1 ≤ f) : FineP (primaryS LI E f) (b + 1) := by
  intro st h hb
  obtain ⟨t, r, e, ht, h2, h3⟩ := lookG h
  obtain ⟨x, c, s1, a1, a2, a3, a7⟩ := plainW h
  unfold primaryS
  rw [a1]
  simp only [Option.bind_some]
  cases c with
  | true =>
    obtain ⟨b1, b2, b3, b4⟩ := a2 rfl
    exact ⟨x, s1, by simp, b1, fun e7 => absurd e7 a7, fun _ => b2⟩
  | false =>
    have := a3 rfl
    subst this
    simp only [Bool.false_eq_true, if_false, ht, Option.bind_some]
    by_cases he : s1.err = 0
    · rw [if_pos he]
      by_cases k1 : t.kind = 1
      · rw [if_pos k1]
        obtain ⟨s2, c1, c2, c3, c4, c5, c6, c7, c8⟩ := takeW h ht (by omega)
        rw [c1]
        refine ⟨_, _, rfl, ?_, Shp.flat _ _ _ _ _ _ (by decide), fun _ => by show s2.toks.length < _; omega⟩
        have : cnt (.mk 5 t.text 0 [] [] []) = 1 := by simp [cnt, cntL]
        rw [this]
        exact c8 1 (by simp [T1, k1]) (by simp [T2, k1])
      · rw [if_neg k1]
        by_cases k7 : t.kind = 7
        · rw [if_pos k7]
          exact withinW HL h ht (.inl k7) hb
        · rw [if_neg k7, isG ht]
          simp only [Option.bind_some]
          cases hc : isC s1 t 10 [40] with
          | true =>
            simp only [if_true]
            exact withinW (innerW HE) h ht (.inr (isC_ok hc).2) hb
          | false =>
            simp only [Bool.false_eq_true, if_false]
            rw [isG ht]
            simp only [Option.bind_some]
            cases hc2 : isC s1 t 10 [91] with
            | true =>
              simp only [if_true]
              exact withinW (blockW HE hf h1) h ht (.inr (isC_ok hc2).2) hb
            | false =>
              simp only [Bool.false_eq_true, if_false]
              obtain ⟨f1, f2⟩ := failW h t 13 (by decide) (cnt zN)
              exact ⟨_, _, rfl, f1, Shp.flat _ _ _ _ _ _ (by decide), fun e => absurd e f2⟩
    · rw [if_neg he]
      exact ⟨_, _, rfl, (Stp.refl h).any he _, Shp.flat _ _ _ _ _ _ (by decide), fun e => absurd e he⟩

theorem binaryW {P : PF} {b g : Nat} (HP : FineP P b) (hg : b ≤ g) (hg1 : 1 ≤ g) : ∀ (f : Nat) (st : PSt) (x : Node), Good st.toks → (st.err = 0 → st.toks.length ≤ f ∧ st.toks.length ≤ b + 1) → 1 ≤ f →
    ∃ y st' k, binaryL P g f x st = some (y, st') ∧ Stp st st' k ∧ cnt y = cnt x + k ∧ (Shp x → Shp y)
  | 0, st, x, h, hf, h1 => by omega
  | f + 1, st, x, h, hf, h1 => by
    obtain ⟨t, r, e, ht, h2, h3⟩ := lookG h
    unfold binaryL
    rw [isG ht]
    simp only [Option.bind_some]
    cases hc : isC st t 3 [] with
    | false => exact ⟨x, st, 0, by simp, Stp.refl h, by simp, id⟩
    | true =>
      obtain ⟨c1, c2⟩ := isC_ok hc
      obtain ⟨hl1, hl2⟩ := hf c1
      obtain ⟨s1, a1, a2, a3, a4, a5, a6, a7, a8⟩ := takeW h ht (by omega)
      have hp := a6.pos
      obtain ⟨q, s2, b1, b2, b3, b4⟩ := HP s1 a6 (fun _ => by omega)
      have hl := b2.len
      obtain ⟨u, s3, ku, d1, d2, d3, d4⟩ := unaryW g s2 q b2.good (fun _ => by omega) hg1
      have hl3 := d2.len
      obtain ⟨y, st', k, k1, k2, k3, k4⟩ := binaryW HP hg hg1 f s3 (sendN t.text [x, u]) d2.good (fun _ => by omega) (by omega)
      refine ⟨y, st', 1 + cnt q + ku + k, by simp [a1, b1, d1, k1], (((a8 1 (by simp [T1, c2]) (by simp [T2, c2])).trans b2).trans d2).trans k2, ?_, fun _ => k4 (Shp.send _ _ _)⟩
      rw [k3, cnt_send, cntL_cons, cntL_cons, cntL_nil, d3]
      omega

/-- One argument of keywords. -/
theorem argW {P : PF} {b g : Nat} (HP : FineP P b) (hg : b + 1 ≤ g) {st : PSt} (h : Good st.toks) (hb : st.err = 0 → st.toks.length ≤ b) :
    ∃ q s2 u s3 w s4, P st = some (q, s2) ∧ unaryS g q s2 = some (u, s3) ∧ binaryL P g g u s3 = some (w, s4) ∧ Stp st s4 (cnt w) ∧ Shp w ∧ (s4.err = 0 → s4.toks.length < st.toks.length) := by
  obtain ⟨q, s2, b1, b2, b3, b4⟩ := HP st h hb
  have hl2 := b2.len
  obtain ⟨u, s3, ku, d1, d2, d3, d4⟩ := unaryW g s2 q b2.good (fun e => by have := hb (b2.ok e); omega) (by omega)
  have hl3 := d2.len
  obtain ⟨w, s4, k, k1, k2, k3, k4⟩ := binaryW (g := g) HP (by omega) (by omega) g s3 u d2.good (fun e => by have := hb (b2.ok (d2.ok e)); omega) (by omega)
  have hl4 := k2.len
  refine ⟨q, s2, u, s3, w, s4, b1, d1, k1, ?_, k4 (d4 b3), fun e => ?_⟩
  · rw [k3, d3]
    exact (b2.trans d2).trans k2
  · have := b4 (d2.ok (k2.ok e))
    omega

theorem keysLW {P : PF} {b g : Nat} (HP : FineP P b) (hg : b + 1 ≤ g) : ∀ (f : Nat) (st : PSt) (t : List Nat) (ks : List Node), Good st.toks → (st.err = 0 → st.toks.length ≤ f ∧ st.toks.length ≤ b + 1 ∧ t.length + st.toks.length * 10000 ≤ lim) → 1 ≤ f → ks ≠ [] →
    ∃ y st' k, keysL P g f t ks st = some (y, st') ∧ Stp st st' k ∧ cnt y = 1 + cntL ks + k ∧ Shp y
  | 0, st, t, ks, h, hf, h1, hk => by omega
  | f + 1, st, t, ks, h, hf, h1, hk => by
    obtain ⟨u, r, e, ht, h2, h3⟩ := lookG h
    unfold keysL
    rw [isG ht]
    simp only [Option.bind_some]
    cases hc : isC st u 2 [] with
    | false => exact ⟨sendN t ks, st, 0, by simp, Stp.refl h, by rw [cnt_send]; rfl, fun _ => ⟨t, ks, rfl, hk⟩⟩
    | true =>
      obtain ⟨c1, c2⟩ := isC_ok hc
      obtain ⟨hl1, hl2, hl3⟩ := hf c1
      obtain ⟨s1, a1, a2, a3, a4, a5, a6, a7, a8⟩ := takeW h ht (by omega)
      have hp := a6.pos
      have htx := h.text a7
      obtain ⟨q, s2, w, s3, v, s4, b1, b2, b3, b4, b5, b6⟩ := argW HP hg a6 (fun _ => by omega)
      have hl4 := b4.len
      obtain ⟨y, st', k, k1, k2, k3, k4⟩ := keysLW HP hg f s4 (t ++ u.text) (ks ++ [v]) b4.good (fun _ => ⟨by omega, by omega, by
        have : s4.toks.length * 10000 ≤ s1.toks.length * 10000 := Nat.mul_le_mul_right _ hl4
        have e2 : st.toks.length * 10000 = s1.toks.length * 10000 + 10000 := by rw [← a5]; omega
        simp
        omega⟩) (by omega) (by simp)
      refine ⟨y, st', 0 + cnt v + k, ?_, ((a8 0 (by simp [T1, c2]) (by omega)).trans b4).trans k2, ?_, k4⟩
      · simp only [if_true, a1, Option.bind_some]
        rw [if_pos (by omega)]
        simp [b1, b2, b3, k1]
      · rw [k3, cntL_app, cntL_cons, cntL_nil]; omega

theorem keysW {P : PF} {b g : Nat} (HP : FineP P b) (hg : b + 2 ≤ g) (hb : b ≤ 1000000) {st : PSt} {x : Node} (h : Good st.toks) (hf : st.err = 0 → st.toks.length ≤ b + 1) :
    ∃ y st' k, keysS P g x st = some (y, st') ∧ Stp st st' k ∧ cnt y = cnt x + k ∧ (Shp x → Shp y) ∧ ((∃ t, lookS st 0 = some t ∧ isC st t 2 [] = true) → ∃ t ks, y = sendN t (x :: ks)) := by
  obtain ⟨u, r, e, ht, h2, h3⟩ := lookG h
  unfold keysS
  rw [isG ht]
  simp only [Option.bind_some]
  cases hc : isC st u 2 [] with
  | false =>
    refine ⟨x, st, 0, by simp, Stp.refl h, by simp, id, ?_⟩
    rintro ⟨t, q1, q2⟩
    rw [ht] at q1
    cases q1
    rw [hc] at q2
    cases q2
  | true =>
    obtain ⟨c1, c2⟩ := isC_ok hc
    have hl := hf c1
    obtain ⟨s1, a1, a2, a3, a4, a5, a6, a7, a8⟩ := takeW h ht (by omega)
    have hp := a6.pos
    have htx := h.text a7
    obtain ⟨q, s2, w, s3, v, s4, b1, b2, b3, b4, b5, b6⟩ := argW (g := g) HP (by omega) a6 (fun _ => by omega)
    have hl4 := b4.len
    obtain ⟨g', rfl⟩ : ∃ g', g = g' + 1 := ⟨g - 1, by omega⟩
    have all : ∀ (f : Nat) (st : PSt) (t : List Nat) (ks : List Node) (y : Node) (st' : PSt), keysL P (g' + 1) f t (x :: ks) st = some (y, st') → ∃ t ks, y = sendN t (x :: ks) := by
      intro f
      induction f with
      | zero => intro st t ks y st' hk; cases hk
      | succ f ih =>
        intro st t ks y st' hk
        unfold keysL at hk
        obtain ⟨c, _, hk⟩ := Option.bind_eq_some_iff.1 hk
        split at hk
        · obtain ⟨_, _, hk⟩ := Option.bind_eq_some_iff.1 hk
          split at hk
          · obtain ⟨_, _, hk⟩ := Option.bind_eq_some_iff.1 hk
            obtain ⟨_, _, hk⟩ := Option.bind_eq_some_iff.1 hk
            obtain ⟨_, _, hk⟩ := Option.bind_eq_some_iff.1 hk
            exact ih _ _ _ _ _ hk
          · cases hk
        · cases hk
          exact ⟨_, _, rfl⟩
    obtain ⟨y, st', k, k1, k2, k3, k4⟩ := keysLW (g := g' + 1) HP (by omega) g' s4 ([] ++ u.text) ([x] ++ [v]) b4.good (fun _ => ⟨by omega, by omega, by
      have : s4.toks.length * 10000 ≤ 1000001 * 10000 := Nat.mul_le_mul_right _ (by omega)
      simp [lim]
      omega⟩) (by omega) (by simp)
    have hres : keysL P (g' + 1) (g' + 1) [] [x] st = some (y, st') := by
      unfold keysL
      rw [isG ht, hc]
      simp only [Option.bind_some, if_true, a1]
      rw [if_pos (by simp [lim]; omega)]
      simp only [Option.bind_some, b1, b2, b3]
      exact k1
    refine ⟨y, st', 1 + cnt v + k, by simpa using hres, ((a8 1 (by simp [T1, c2]) (by simp [T2, c2])).trans b4).trans k2, ?_, fun _ => k4, fun _ => all _ _ _ _ _ _ hres⟩
    rw [k3, cntL_app, cntL_cons, cntL_cons, cntL_nil]; omega

theorem cnt_zN : cnt zN = 1 := by simp [zN, cnt, cntL]
theorem msgN_send (t : List Nat) (x : Node) (ks : List Node) : msgN (sendN t (x :: ks)) = sendN t ks := by simp [msgN, sendN, Node.kids, Node.text]

theorem msgW {P : PF} {b g : Nat} (HP : FineP P b) (hg : b + 2 ≤ g) (hb : b ≤ 1000000) {st : PSt} (h : Good st.toks) (hf : st.err = 0 → st.toks.length ≤ b + 1) :
    ∃ y st', msgS P g st = some (y, st') ∧ Stp st st' (cnt (msgN y)) := by
  obtain ⟨t, r, e, ht, h2, h3⟩ := lookG h
  unfold msgS
  rw [ht]
  simp only [Option.bind_some]
  have any : ∀ {y : Node} {st' : PSt} {k : Nat}, Stp st st' k → (st.err = 0 → k = cnt (msgN y)) → Stp st st' (cnt (msgN y)) := fun S hk => S.cast (fun e => hk (S.ok e))
  by_cases k1 : t.kind = 1
  · rw [if_pos k1]
    obtain ⟨s1, a1, a2, a3, a4, a5, a6, a7, a8⟩ := takeW h ht (by omega)
    rw [a1]
    refine ⟨_, _, rfl, ?_⟩
    rw [msgN_send, cnt_send, cntL_nil]
    exact a8 1 (by simp [T1, k1]) (by simp [T2, k1])
  · rw [if_neg k1]
    by_cases k3 : t.kind = 3
    · rw [if_pos k3]
      obtain ⟨s1, a1, a2, a3, a4, a5, a6, a7, a8⟩ := takeW h ht (by omega)
      have hp := a6.pos
      obtain ⟨q, s2, b1, b2, b3, b4⟩ := HP s1 a6 (fun e => by have := hf (by rw [← a2]; exact e); omega)
      have hl := b2.len
      obtain ⟨u, s3, ku, d1, d2, d3, d4⟩ := unaryW g s2 q b2.good (fun e => by have := hf (by rw [← a2]; exact b2.ok e); omega) (by omega)
      simp only [a1, Option.bind_some, b1, d1]
      refine ⟨_, _, rfl, ?_⟩
      rw [msgN_send, cnt_send, cntL_cons, cntL_nil, d3]
      have := ((a8 1 (by simp [T1, k3]) (by simp [T2, k3])).trans b2).trans d2
      have e2 : 1 + cnt q + ku = 1 + (cnt q + ku + 0) := by omega
      rwa [e2] at this
    · rw [if_neg k3]
      by_cases k2 : t.kind = 2
      · rw [if_pos k2]
        obtain ⟨y, st', k, b1, b2, b3, b4, b5⟩ := keysW (x := zN) HP hg hb h hf
        refine ⟨y, st', b1, b2.cast fun e => ?_⟩
        have he := b2.ok e
        obtain ⟨tt, ks, rfl⟩ := b5 ⟨t, ht, by simp [isC, he, k2]⟩
        rw [msgN_send, cnt_send]
        rw [cnt_send, cntL_cons, cnt_zN] at b3
        omega
      · rw [if_neg k2]
        obtain ⟨f1, f2⟩ := failW h t 13 (by decide) (cnt (msgN zN))
        exact ⟨_, _, rfl, f1⟩

theorem casW {P : PF} {b g : Nat} (HP : FineP P b) (hg : b + 2 ≤ g) (hb : b ≤ 1000000) : ∀ (f : Nat) (st : PSt) (ks : List Node), Good st.toks → (st.err = 0 → st.toks.length ≤ f ∧ st.toks.length ≤ b + 1) → 1 ≤ f →
    ∃ y st' k, casL P g f ks st = some (y, st') ∧ Stp st st' k ∧ cnt y = cntL ks + k ∧ Shp y
  | 0, st, ks, h, hf, h1 => by omega
  | f + 1, st, ks, h, hf, h1 => by
    obtain ⟨t, r, e, ht, h2, h3⟩ := lookG h
    unfold casL
    rw [isG ht]
    simp only [Option.bind_some]
    cases hc : isC st t 10 [59] with
    | false => exact ⟨.mk 8 [] 0 [] [] ks, st, 0, by simp, Stp.refl h, by simp [cnt], Shp.flat _ _ _ _ _ _ (by decide)⟩
    | true =>
      obtain ⟨c1, c2⟩ := isC_ok hc
      obtain ⟨hl1, hl2⟩ := hf c1
      obtain ⟨s1, a1, a2, a3, a4, a5, a6, a7, a8⟩ := takeW h ht (by omega)
      have hp := a6.pos
      obtain ⟨q, s2, b1, b2⟩ := msgW HP hg hb a6 (fun _ => by omega)
      have hl := b2.len
      obtain ⟨y, st', k, k1, k2, k3, k4⟩ := casW HP hg hb f s2 (ks ++ [msgN q]) b2.good (fun _ => by omega) (by omega)
      refine ⟨y, st', 0 + cnt (msgN q) + k, by simp [a1, b1, k1], ((a8 0 (by simp [T1, c2]) (by omega)).trans b2).trans k2, ?_, k4⟩
      rw [k3, cntL_app, cntL_cons, cntL_nil]; omega

theorem cascadeW {P : PF} {b g : Nat} (HP : FineP P b) (hg : b + 2 ≤ g) (hb : b ≤ 1000000) : FineP (cascadeS P g) b := by
  intro st h hbd
  obtain ⟨q, s2, u, s3, w, s4, b1, b2, b3, b4, b5, b6⟩ := argW (g := g) HP (by omega) h hbd
  have hl4 := b4.len
  obtain ⟨y, s5, k, d1, d2, d3, d4, d5⟩ := keysW (x := w) HP hg hb b4.good (fun e => by have := hbd (b4.ok e); omega)
  have hl5 := d2.len
  obtain ⟨t, r, e, ht, h2, h3⟩ := lookG d2.good
  have S5 := b4.trans d2
  have hS : Stp st s5 (cnt y) := by rw [d3]; exact S5
  have hlt : s5.err = 0 → s5.toks.length < st.toks.length := fun e => by
    have := b6 (d2.ok e)
    omega
  unfold cascadeS
  simp only [b1, Option.bind_some, b2, b3, d1]
  rw [isG ht]
  simp only [Option.bind_some]
  cases hc : isC s5 t 10 [59] with
  | false => exact ⟨y, s5, by simp, hS, d4 b5, hlt⟩
  | true =>
    obtain ⟨c1, c2⟩ := isC_ok hc
    simp only [if_true]
    by_cases k7 : y.kind = 7
    · rw [if_pos k7]
      obtain ⟨tx, ks, rfl, hks⟩ := d4 b5 k7
      cases ks with
      | nil => exact absurd rfl hks
      | cons k0 ks =>
        have : (sendN tx (k0 :: ks)).kids[0]? = some k0 := rfl
        rw [this]
        simp only [Option.bind_some, msgN_send]
        have hl := hbd (S5.ok c1)
        obtain ⟨z, s6, k6, e1, e2, e3, e4⟩ := casW HP hg hb g s5 [k0, sendN tx ks] d2.good (fun _ => by omega) (by omega)
        have hl6 := e2.len
        refine ⟨z, s6, e1, ?_, e4, fun e => by have := hlt (e2.ok e); omega⟩
        have := hS.trans e2
        have ec : cnt (sendN tx (k0 :: ks)) + k6 = cnt z := by
          rw [e3, cnt_send, cntL_cons, cntL_cons, cntL_cons, cntL_nil, cnt_send]; omega
        rwa [ec] at this
    · rw [if_neg k7, ht]
      simp only [Option.bind_some]
      obtain ⟨f1, f2⟩ := failW d2.good t 13 (by decide) 0
      exact ⟨_, _, rfl, hS.trans f1, d4 b5, fun e => absurd e f2⟩

theorem exprW {P E : PF} {b g : Nat} (HP : FineP P b) (HE : b = 0 ∨ FineP E (b - 1)) (hg : b + 2 ≤ g) (hb : b ≤ 1000000) : FineP (exprS P E g) b := by
  intro st h hbd
  obtain ⟨t, r, e, ht, h2, h3⟩ := lookG h
  obtain ⟨u, hu⟩ := look1 h
  unfold exprS
  rw [isG ht]
  simp only [Option.bind_some]
  cases hc : isC st t 1 [] with
  | false =>
    simp only [Bool.false_eq_true, if_false, Option.bind_some]
    exact cascadeW HP hg hb st h hbd
  | true =>
    simp only [if_true, hu, Option.bind_some]
    by_cases k9 : u.kind = 9
    · rw [decide_eq_true k9]
      simp only [if_true]
      obtain ⟨c1, c2⟩ := isC_ok hc
      obtain ⟨s1, a1, a2, a3, a4, a5, a6, a7, a8⟩ := takeW h ht (by omega)
      have hu1 : lookS s1 0 = some u := by
        have hp := a6.pos
        have e1 : st.toks.length - 1 = s1.toks.length := by omega
        unfold lookS at hu ⊢
        rw [a7] at hu
        simp at hu ⊢
        rw [show min 1 s1.toks.length = 0 + 1 by omega] at hu
        simpa using hu
      obtain ⟨s2, b1, b2, b3, b4, b5, b6, b7, b8⟩ := takeW a6 hu1 (by omega)
      have hl := hbd c1
      have hp := b6.pos
      have HE' : FineP E (b - 1) := HE.resolve_left (by omega)
      obtain ⟨x, s3, d1, d2, d3, d4⟩ := HE' s2 b6 (fun _ => by omega)
      have hl3 := d2.len
      simp only [a1, Option.bind_some, b1, d1]
      refine ⟨_, _, rfl, ?_, Shp.flat _ _ _ _ _ _ (by decide), fun e => by show s3.toks.length < _; omega⟩
      have : cnt (.mk 6 t.text 0 [] [] [x]) = 1 + 0 + cnt x := by simp [cnt, cntL]
      rw [this]
      exact ((a8 1 (by simp [T1, c2]) (by simp [T2, c2])).trans (b8 0 (by simp [T1, k9]) (by omega))).trans d2
    · rw [decide_eq_false k9]
      simp only [Bool.false_eq_true, if_false]
      exact cascadeW HP hg hb st h hbd

theorem litFW : ∀ (f : Nat), 3 ≤ f → Fine0 (litF f) (f - 3)
  | 0, h => by omega
  | f + 1, h => by
    by_cases h3 : f = 2
    · subst h3
      intro st g hb
      have he : st.err ≠ 0 := fun e => by have := hb e; have := g.pos; omega
      unfold litF literalsS litsL
      rw [if_neg he]
      obtain ⟨t, s2, b1, b2, b3, c, b4, b5⟩ := takeE g
      have he2 : s2.err ≠ 0 := by rw [b2]; exact he
      refine ⟨.mk 4 [] 0 [] [] [], s2, by simp [b1], ⟨b3, fun _ => he2, c, b4, fun e => absurd e he2⟩, Shp.flat _ _ _ _ _ _ (by decide)⟩
    · have := literalsW (f := f) (litFW f (by omega)) (by omega)
      rw [show f - 3 + 1 = f + 1 - 3 by omega] at this
      exact this

theorem primaryErr (LI E : PF) (f : Nat) : FineP (primaryS LI E f) 0 := by
  intro st h hb
  have he : st.err ≠ 0 := fun e => by have := hb e; have := h.pos; omega
  obtain ⟨t, r, e, ht, h2, h3⟩ := lookG h
  obtain ⟨x, c, s1, a1, a2, a3, a7⟩ := plainW h
  unfold primaryS
  rw [a1]
  simp only [Option.bind_some]
  cases c with
  | true => exact absurd (a2 rfl).2.2.1 he
  | false =>
    have := a3 rfl
    subst this
    simp only [Bool.false_eq_true, if_false, ht, Option.bind_some]
    rw [if_neg he]
    exact ⟨_, _, rfl, (Stp.refl h).any he _, Shp.flat _ _ _ _ _ _ (by decide), fun e => absurd e he⟩

theorem exprFW : ∀ (f : Nat), 3 ≤ f → f ≤ 1000000 → FineP (exprF f) (f - 3)
  | 0, h, _ => by omega
  | f + 1, h, hm => by
    by_cases h3 : f = 2
    · subst h3
      exact exprW (b := 0) (g := 2) (primaryErr (litF 2) (exprF 2) 2) (.inl rfl) (by decide) (by decide)
    · have HE := exprFW f (by omega) (by omega)
      have HL := litFW f (by omega)
      have := exprW (P := primaryS (litF f) (exprF f) f) (E := exprF f) (b := f - 3 + 1) (g := f) (primaryW HL HE (by omega) (by omega)) (.inr HE) (by omega) (by omega)
      rw [show f - 3 + 1 = f + 1 - 3 by omega] at this
      exact this

/-- A source whose tokens are good is read, or refused; what is read has just the names and literals of its tokens. -/
theorem readW {f : Nat} {l : List Tok} (h : Good l) (hf : l.length + 3 ≤ f) (hm : f ≤ 1000000) : ∃ x at_ e, readM doitS f (l, 0, 0) = some (x, at_, e) ∧ (e = 0 → least l ≤ cnt x ∧ cnt x ≤ most l) := by
  unfold readM
  rw [if_pos rfl]
  have h0 : Good (⟨l, 0, 0, 0⟩ : PSt).toks := h
  obtain ⟨ts, s2, b1, b2⟩ := tempsW (f := f) h0 (fun _ => by show l.length ≤ f; omega) (by omega)
  have hl2 := b2.len
  have hl2 : s2.toks.length ≤ l.length := hl2
  obtain ⟨ks, s3, k, c1, c2, c3⟩ := stmtsW (exprFW f (by omega) hm) f s2 [] b2.good (fun _ => by omega) (by omega)
  obtain ⟨u, s4, d1, d2, d3⟩ := needW c2.good 0 [] 0 (fun h => absurd rfl h) (fun _ => rfl)
  simp only [doitS, Option.bind_some, b1, c1, d1]
  by_cases he : s4.err = 0
  · rw [if_pos he]
    refine ⟨_, _, _, rfl, fun _ => ?_⟩
    have S := (b2.trans c2).trans d2
    obtain ⟨c, e1, e2⟩ := S.run
    have e1 : l = c ++ s4.toks := e1
    obtain ⟨e3, e4⟩ := e2 he
    obtain ⟨f1, f2⟩ := d3 he
    -- what is left is the end
    have hcn : cnt (Node.with (.mk 11 [100, 111, 73, 116] 0 [] [] []) ts ks) = ts.length + k + 0 := by
      simp [Node.with, cnt, c3, cntL]
    have hrest : s4.toks = s3.toks ∧ ∃ t, s3.toks = [t] ∧ t.kind = 0 := by
      obtain ⟨t, r, e, ht, h2, h3⟩ := lookG c2.good
      unfold needS at d1
      rw [isG ht] at d1
      simp only [Option.bind_some] at d1
      cases hc : isC s3 t 0 [] with
      | false =>
        rw [hc] at d1
        simp only [Bool.false_eq_true, if_false, ht, Option.bind_some, Option.some.injEq, Prod.mk.injEq] at d1
        obtain ⟨_, rfl⟩ := d1
        exact absurd he (failW c2.good t 13 (by decide) 0).2
      | true =>
        rw [hc] at d1
        have hk := (isC_ok hc).2
        rw [if_pos rfl, take0 c2.good e hk] at d1
        simp only [Option.some.injEq, Prod.mk.injEq] at d1
        obtain ⟨_, rfl⟩ := d1
        exact ⟨rfl, t, by rw [e, h2 hk], hk⟩
    obtain ⟨r1, t, r2, r3⟩ := hrest
    rw [r1, r2] at e1
    rw [e1, hcn]
    simp only [least, most, List.map_append, List.sum_append, List.map_cons, List.map_nil, List.sum_cons, List.sum_nil] at e3 e4 ⊢
    have z1 : T1 t = 0 := by simp [T1, r3]
    have z2 : T2 t = 0 := by simp [T2, r3]
    omega
  · rw [if_neg he]
    exact ⟨_, _, _, rfl, fun e => absurd e he⟩

end Go.Dd

/- Dd, part T15: the document's lexer: bytes, names, blanks and remarks. -/
set_option linter.unusedVariables false
set_option linter.unusedSimpArgs false
set_option maxRecDepth 100000
namespace Go.Dd
open Go.Proofs

theorem enter33 (n : Nat) (x : DV) (h : Hp) : shD (n + 1) 33 [x] h = s33 (shD n) n x h := by kernel_rfl
theorem enter34 (n : Nat) (x y : DV) (h : Hp) : shD (n + 1) 34 [x, y] h = s34 (shD n) n x y h := by kernel_rfl
theorem enter35 (n : Nat) (x y : DV) (h : Hp) : shD (n + 1) 35 [x, y] h = s35 (shD n) n x y h := by kernel_rfl
theorem enter36 (n : Nat) (x y : DV) (h : Hp) : shD (n + 1) 36 [x, y] h = s36 (shD n) n x y h := by kernel_rfl
theorem enter37 (n : Nat) (x y : DV) (h : Hp) : shD (n + 1) 37 [x, y] h = s37 (shD n) n x y h := by kernel_rfl
theorem enter38 (n : Nat) (x y : DV) (h : Hp) : shD (n + 1) 38 [x, y] h = s38 (shD n) n x y h := by kernel_rfl
theorem enter19 (n : Nat) (x y : DV) (h : Hp) : shD (n + 1) 19 [x, y] h = s19 (shD n) n x y h := by kernel_rfl
theorem enter20 (n : Nat) (x y : DV) (h : Hp) : shD (n + 1) 20 [x, y] h = s20 (shD n) n x y h := by kernel_rfl
theorem enter10 (n : Nat) (x : DV) (h : Hp) : shD (n + 1) 10 [x] h = s10 (shD n) n x h := by kernel_rfl

/-- What a byte is, by the document. -/
def kindN (c : Nat) : Nat := if letterB c then 1 else if digitB c then 2 else if inB blanks c then 5 else if inB signs c then 3 else if inB marks c then 4 else 0
def atZ (u : List Nat) : Int := match u with
  | [] => -1
  | c :: _ => (kindN c : Int)

theorem marks_loop (c : Nat) (h : Hp) : ∀ (w : List Nat) (j i : Nat), marks.drop i = w → i ≤ 8 →
    Ev (fun n => s33a10l (shD n) n (n - j) (.i .u8 (Int.ofNat c)) (.s marks) (.i .i64 (i : Int)) h) (fun v h' => v = .i .i64 (if inB w c then 4 else 0) ∧ h' = h) := by
  intro w
  induction w with
  | nil =>
    intro j i hw hi
    refine Ev.loop j (ll := fun n m => s33a10l (shD n) n m (.i .u8 (Int.ofNat c)) (.s marks) (.i .i64 (i : Int)) h) (bb := fun n m => s33a10b (shD n) n (s33a10l (shD n) n m) (.i .u8 (Int.ofNat c)) (.s marks) (.i .i64 (i : Int)) h) (fun _ _ => rfl) ?_
    unfold s33a10b s33a8
    have hl : marks.length ≤ i := by simpa using hw
    refine Ev.lenS ?_
    refine Ev.ilt (fun e1 => by omega) (fun e1 => ?_)
    refine yj ?_
    exact Ev.ret ⟨rfl, rfl⟩
  | cons d w ih =>
    intro j i hw hi
    have hg : marks[i]? = some d := by
      have : (marks.drop i)[0]? = some d := by rw [hw]; rfl
      simpa using this
    have hw' : marks.drop (i + 1) = w := by rw [← List.drop_drop, hw]; rfl
    have hlt := (List.getElem?_eq_some_iff.1 hg).1
    refine Ev.loop j (ll := fun n m => s33a10l (shD n) n m (.i .u8 (Int.ofNat c)) (.s marks) (.i .i64 (i : Int)) h) (bb := fun n m => s33a10b (shD n) n (s33a10l (shD n) n m) (.i .u8 (Int.ofNat c)) (.s marks) (.i .i64 (i : Int)) h) (fun _ _ => rfl) ?_
    unfold s33a10b
    refine Ev.lenS ?_
    refine Ev.ilt (fun e1 => ?_) (fun e1 => by omega)
    refine yt ?_
    refine Ev.op (idxS hg _) ?_
    refine Ev.ieq (fun e2 => ?_) (fun e2 => ?_)
    · refine yt ?_
      have : d = c := by simp at e2; omega
      subst this
      exact Ev.ret ⟨by simp [inB], rfl⟩
    · refine yj ?_
      have hne : ¬ c = d := fun e => e2 (by rw [e])
      refine Ev.iadd ?_
      rw [addN 1 (by omega)]
      refine (ih (j + 1) (i + 1) hw' hlt).mono ?_
      rintro v h' ⟨rfl, rfl⟩
      refine ⟨?_, rfl⟩
      simp [inB, hne]

theorem signs_loop (c : Nat) (h : Hp) : ∀ (w : List Nat) (j i : Nat), signs.drop i = w → i ≤ 12 →
    Ev (fun n => s33a12l (shD n) n (n - j) (.i .u8 (Int.ofNat c)) (.s signs) (.i .i64 (i : Int)) h) (fun v h' => v = .i .i64 (if inB w c then 3 else if inB marks c then 4 else 0) ∧ h' = h) := by
  intro w
  induction w with
  | nil =>
    intro j i hw hi
    refine Ev.loop j (ll := fun n m => s33a12l (shD n) n m (.i .u8 (Int.ofNat c)) (.s signs) (.i .i64 (i : Int)) h) (bb := fun n m => s33a12b (shD n) n (s33a12l (shD n) n m) (.i .u8 (Int.ofNat c)) (.s signs) (.i .i64 (i : Int)) h) (fun _ _ => rfl) ?_
    unfold s33a12b s33a6 s33a7 s33a9 s33a10
    have hl : signs.length ≤ i := by simpa using hw
    refine Ev.lenS ?_
    refine Ev.ilt (fun e1 => by omega) (fun e1 => ?_)
    refine yj ?_
    refine (marks_loop c h marks 0 0 rfl (by omega)).mono ?_
    rintro v h' ⟨rfl, rfl⟩
    exact ⟨by simp [inB], rfl⟩
  | cons d w ih =>
    intro j i hw hi
    have hg : signs[i]? = some d := by
      have : (signs.drop i)[0]? = some d := by rw [hw]; rfl
      simpa using this
    have hw' : signs.drop (i + 1) = w := by rw [← List.drop_drop, hw]; rfl
    have hlt := (List.getElem?_eq_some_iff.1 hg).1
    refine Ev.loop j (ll := fun n m => s33a12l (shD n) n m (.i .u8 (Int.ofNat c)) (.s signs) (.i .i64 (i : Int)) h) (bb := fun n m => s33a12b (shD n) n (s33a12l (shD n) n m) (.i .u8 (Int.ofNat c)) (.s signs) (.i .i64 (i : Int)) h) (fun _ _ => rfl) ?_
    unfold s33a12b
    refine Ev.lenS ?_
    refine Ev.ilt (fun e1 => ?_) (fun e1 => by omega)
    refine yt ?_
    refine Ev.op (idxS hg _) ?_
    refine Ev.ieq (fun e2 => ?_) (fun e2 => ?_)
    · refine yt ?_
      have : d = c := by simp at e2; omega
      subst this
      exact Ev.ret ⟨by simp [inB], rfl⟩
    · refine yj ?_
      have hne : ¬ c = d := fun e => e2 (by rw [e])
      refine Ev.iadd ?_
      rw [addN 1 (by omega)]
      refine (ih (j + 1) (i + 1) hw' hlt).mono ?_
      rintro v h' ⟨rfl, rfl⟩
      refine ⟨?_, rfl⟩
      simp [inB, hne]

theorem kind_ok (c : Nat) (h : Hp) : Ev (fun n => shD n 33 [.i .u8 (Int.ofNat c)] h) (fun v h' => v = .i .i64 (kindN c : Int) ∧ h' = h) := by
  refine Ev.enter (fun n => enter33 n _ h) ?_
  unfold s33 s33a1
  have yes : letterB c = true → Ev (fun n => some (DV.i .i64 (Int.ofNat 1), h)) (fun v h' => v = .i .i64 (kindN c : Int) ∧ h' = h) := fun e => Ev.ret ⟨by simp [kindN, e], rfl⟩
  have no : letterB c = false → Ev (fun n => s33a2 (shD n) n (.i .u8 (Int.ofNat c)) h) (fun v h' => v = .i .i64 (kindN c : Int) ∧ h' = h) := fun e => by
    unfold s33a2
    have yes2 : digitB c = true → Ev (fun n => some (DV.i .i64 (Int.ofNat 2), h)) (fun v h' => v = .i .i64 (kindN c : Int) ∧ h' = h) := fun e2 => Ev.ret ⟨by simp [kindN, e, e2], rfl⟩
    have no2 : digitB c = false → Ev (fun n => s33a3 (shD n) n (.i .u8 (Int.ofNat c)) h) (fun v h' => v = .i .i64 (kindN c : Int) ∧ h' = h) := fun e2 => by
      unfold s33a3
      have yes3 : inB blanks c = true → Ev (fun n => some (DV.i .i64 (Int.ofNat 5), h)) (fun v h' => v = .i .i64 (kindN c : Int) ∧ h' = h) := fun e3 => Ev.ret ⟨by simp [kindN, e, e2, e3], rfl⟩
      refine Ev.ieq (fun e3 => ?_) (fun e3 => ?_)
      · have : c = 9 := by simp at e3; omega
        have Y := yes3 (by subst this; rfl)
        exact Y
      · refine zf ?_; refine wm ?_; refine zf ?_
        refine Ev.ieq (fun e4 => ?_) (fun e4 => ?_)
        · have : c = 10 := by simp at e4; omega
          have Y := yes3 (by subst this; rfl)
          exact Y
        · refine aq ?_; refine zf ?_; refine wm ?_; refine zf ?_
          refine Ev.ieq (fun e5 => ?_) (fun e5 => ?_)
          · have : c = 13 := by simp at e5; omega
            have Y := yes3 (by subst this; rfl)
            exact Y
          · refine aq ?_; refine zf ?_; refine wm ?_; refine zf ?_
            refine Ev.ieq (fun e6 => ?_) (fun e6 => ?_)
            · have : c = 32 := by simp at e6; omega
              have Y := yes3 (by subst this; rfl)
              exact Y
            · refine aq ?_; refine yj ?_
              have e7 : inB blanks c = false := by
                simp at e3 e4 e5 e6
                simp [inB, blanks]
                omega
              unfold s33a4 s33a5 s33a11 s33a12
              refine (signs_loop c h signs 0 0 rfl (by omega)).mono ?_
              rintro v h' ⟨rfl, rfl⟩
              refine ⟨?_, rfl⟩
              simp only [kindN, e, e2, e7, Bool.false_eq_true, if_false]
              cases inB signs c <;> cases inB marks c <;> rfl
    refine Ev.ige (fun e3 => ?_) (fun e3 => ?_)
    · refine zt ?_; refine wm ?_; refine zt ?_
      refine Ev.ile (fun e4 => ?_) (fun e4 => ?_)
      · have Y := yes2 (by simp at e3 e4; simp [digitB]; omega)
        exact Y
      · have Y := no2 (by simp at e3 e4; simp [digitB]; omega)
        exact Y
    · have Y := no2 (by simp at e3; simp [digitB]; omega)
      exact Y
  refine Ev.ige (fun e1 => ?_) (fun e1 => ?_)
  · refine zt ?_; refine wm ?_; refine zt ?_
    refine Ev.ile (fun e2 => ?_) (fun e2 => ?_)
    · have Y := yes (by simp at e1 e2; simp [letterB]; omega)
      exact Y
    · refine ap ?_; refine zf ?_; refine wm ?_; refine zf ?_
      refine Ev.ige (fun e3 => ?_) (fun e3 => ?_)
      · refine zf ?_; refine wm ?_; refine zt ?_; refine wm ?_; refine zt ?_
        refine Ev.ile (fun e4 => ?_) (fun e4 => ?_)
        · simp at e1 e2 e3 e4; omega
        · have Y := no (by simp at e1 e2 e3 e4; simp [letterB]; omega)
          exact Y
      · simp at e1 e2 e3; omega
  · refine yf ?_; refine yf ?_; refine aq ?_; refine zf ?_; refine wm ?_; refine zf ?_
    refine Ev.ige (fun e3 => ?_) (fun e3 => ?_)
    · refine zf ?_; refine wm ?_; refine zt ?_; refine wm ?_; refine zt ?_
      refine Ev.ile (fun e4 => ?_) (fun e4 => ?_)
      · have Y := yes (by simp at e1 e3 e4; simp [letterB]; omega)
        exact Y
      · have Y := no (by simp at e1 e3 e4; simp [letterB]; omega)
        exact Y
    · have Y := no (by simp at e1 e3; simp [letterB]; omega)
      exact Y

theorem at_ok (s : List Nat) (i : Nat) (h : Hp) : Ev (fun n => shD n 34 [.s s, .i .i64 (i : Int)] h) (fun v h' => v = .i .i64 (atZ (s.drop i)) ∧ h' = h) := by
  refine Ev.enter (fun n => enter34 n _ _ h) ?_
  unfold s34
  refine Ev.lenS ?_
  refine Ev.ige (fun e1 => ?_) (fun e1 => ?_)
  · refine yt ?_
    rw [List.drop_eq_nil_of_le (by omega)]
    exact Ev.ret ⟨rfl, rfl⟩
  · refine yj ?_
    have hi : i < s.length := by omega
    refine Ev.op (idxS (c := s[i]) (by simp [hi]) _) ?_
    refine Ev.call (kind_ok _ _) ?_
    rintro _ _ ⟨rfl, rfl⟩
    rw [List.drop_eq_getElem_cons hi]
    exact Ev.ret ⟨rfl, rfl⟩

theorem kind1 (c : Nat) : kindN c = 1 ↔ letterB c = true := by
  unfold kindN
  constructor
  · intro h
    repeat' split at h
    all_goals first | assumption | omega
  · intro h; simp [h]

theorem kind2 (c : Nat) : kindN c = 2 ↔ digitB c = true := by
  unfold kindN
  constructor
  · intro h
    repeat' split at h
    all_goals first | assumption | omega
  · intro h
    have : letterB c = false := by simp [digitB] at h; simp [letterB]; omega
    simp [this, h]

theorem nameEnd_ok (s : List Nat) (hs : s.length ≤ lim) (h : Hp) : ∀ (u : List Nat) (j i : Nat), s.drop i = u → i ≤ s.length →
    Ev (fun n => s35a3l (shD n) n (n - j) (.s s) (.i .i64 (i : Int)) h) (fun v h' => v = .i .i64 ((i + (u.takeWhile nameB).length : Nat) : Int) ∧ h' = h) := by
  intro u
  induction u with
  | nil =>
    intro j i hu hi
    refine Ev.loop j (ll := fun n m => s35a3l (shD n) n m (.s s) (.i .i64 (i : Int)) h) (bb := fun n m => s35a3b (shD n) n (s35a3l (shD n) n m) (.s s) (.i .i64 (i : Int)) h) (fun _ _ => rfl) ?_
    unfold s35a3b s35a2
    refine Ev.call (at_ok s i h) ?_
    rintro _ _ ⟨rfl, rfl⟩
    rw [hu]
    refine Ev.ieq (fun e1 => absurd e1 (by decide)) (fun e1 => ?_)
    refine zf ?_; refine wm ?_; refine zf ?_; refine wm ?_; refine zf ?_
    refine Ev.call (at_ok s i _) ?_
    rintro _ _ ⟨rfl, rfl⟩
    rw [hu]
    refine zf ?_
    refine Ev.ieq (fun e2 => absurd e2 (by decide)) (fun e2 => ?_)
    refine aq ?_; refine yj ?_
    exact Ev.ret ⟨by simp, rfl⟩
  | cons c u ih =>
    intro j i hu hi
    have hlt : i < s.length := by
      have := congrArg List.length hu
      simp at this
      omega
    have hu' : s.drop (i + 1) = u := by rw [← List.drop_drop, hu]; rfl
    simp only [lim] at hs
    refine Ev.loop j (ll := fun n m => s35a3l (shD n) n m (.s s) (.i .i64 (i : Int)) h) (bb := fun n m => s35a3b (shD n) n (s35a3l (shD n) n m) (.s s) (.i .i64 (i : Int)) h) (fun _ _ => rfl) ?_
    unfold s35a3b s35a2
    have go : nameB c = true → Ev (fun n => bnd (pInt .add (.i .i64 (i : Int)) (.i .i64 (Int.ofNat 1)) h) fun v8 h8 => s35a3l (shD n) n (n - (j + 1)) (.s s) v8 h8) (fun v h' => v = .i .i64 ((i + ((c :: u).takeWhile nameB).length : Nat) : Int) ∧ h' = h) := fun e => by
      refine Ev.iadd ?_
      rw [addN 1 (by omega)]
      refine (ih (j + 1) (i + 1) hu' (by omega)).mono ?_
      rintro v h' ⟨rfl, rfl⟩
      refine ⟨?_, rfl⟩
      simp [e]
      omega
    refine Ev.call (at_ok s i h) ?_
    rintro _ _ ⟨rfl, rfl⟩
    rw [hu]
    refine Ev.ieq (fun e1 => ?_) (fun e1 => ?_)
    · have e1' : letterB c = true := (kind1 c).1 (by simp [atZ] at e1; omega)
      have G := go (by simp [nameB, e1'])
      exact G
    · refine zf ?_; refine wm ?_; refine zf ?_; refine wm ?_; refine zf ?_
      refine Ev.call (at_ok s i _) ?_
      rintro _ _ ⟨rfl, rfl⟩
      rw [hu]
      refine zf ?_
      refine Ev.ieq (fun e2 => ?_) (fun e2 => ?_)
      · have e2' : digitB c = true := (kind2 c).1 (by simp [atZ] at e2; omega)
        have G := go (by simp [nameB, e2'])
        exact G
      · refine aq ?_; refine yj ?_
        have e1' : letterB c = false := by
          cases h1 : letterB c with
          | false => rfl
          | true => exact absurd (show atZ (c :: u) = _ by simp [atZ, (kind1 c).2 h1]) e1
        have e2' : digitB c = false := by
          cases h1 : digitB c with
          | false => rfl
          | true => exact absurd (show atZ (c :: u) = _ by simp [atZ, (kind2 c).2 h1]) e2
        exact Ev.ret ⟨by simp [nameB, e1', e2'], rfl⟩

theorem nend_ok (s : List Nat) (hs : s.length ≤ lim) (i : Nat) (hi : i ≤ s.length) (h : Hp) : Ev (fun n => shD n 35 [.s s, .i .i64 (i : Int)] h) (fun v h' => v = .i .i64 ((i + ((s.drop i).takeWhile nameB).length : Nat) : Int) ∧ h' = h) := by
  refine Ev.enter (fun n => enter35 n _ _ h) ?_
  unfold s35 s35a1 s35a3
  exact nameEnd_ok s hs h _ 0 i rfl hi

theorem rcol_ok (s : List Nat) (hs : s.length ≤ lim) (i : Nat) (hi : i ≤ s.length) (h : Hp) : Ev (fun n => shD n 36 [.s s, .i .i64 (i : Int)] h) (fun v h' => v = .b (colonM (s.drop i)) ∧ h' = h) := by
  refine Ev.enter (fun n => enter36 n _ _ h) ?_
  unfold s36
  simp only [lim] at hs
  refine Ev.lenS ?_
  refine Ev.ilt (fun e1 => ?_) (fun e1 => ?_)
  · have hlt : i < s.length := by omega
    have n0 : nx (s.drop i) 0 = s[i] := by rw [List.drop_eq_getElem_cons hlt]; rfl
    refine zt ?_; refine wm ?_; refine zt ?_; refine wm ?_; refine zt ?_
    refine Ev.op (idxS (c := s[i]) (by simp [hlt]) _) ?_
    refine zt ?_
    refine Ev.ieq (fun e2 => ?_) (fun e2 => ?_)
    · have e2' : s[i] = 58 := by simp at e2; omega
      refine ap ?_; refine zt ?_; refine wm ?_; refine zt ?_
      refine Ev.iadd ?_
      rw [addN 1 (by omega)]
      refine zt ?_; refine wm ?_; refine zt ?_
      refine Ev.lenS ?_
      refine zt ?_
      refine Ev.ilt (fun e3 => ?_) (fun e3 => ?_)
      · have hlt2 : i + 1 < s.length := by omega
        have n1 : nx (s.drop i) 1 = s[i + 1] := by simp [nx, List.getD, List.getElem?_drop, hlt2]
        refine zt ?_; refine wm ?_; refine zt ?_; refine wm ?_; refine zt ?_; refine wm ?_; refine zt ?_
        refine Ev.iadd ?_
        rw [addN 1 (by omega)]
        refine zt ?_
        refine Ev.op (idxS (c := s[i + 1]) (by simp [hlt2]) _) ?_
        refine zt ?_
        refine Ev.ieq (fun e4 => ?_) (fun e4 => ?_)
        · have e4' : s[i + 1] = 61 := by simp at e4; omega
          refine zt ?_; refine ap ?_; refine zt ?_; refine an ?_; refine ap ?_
          exact Ev.ret ⟨by simp [colonM, n0, n1, e2', e4'], rfl⟩
        · have e4' : ¬ s[i + 1] = 61 := by simp at e4; omega
          refine zt ?_; refine ap ?_; refine zt ?_; refine ao ?_; refine ap ?_
          exact Ev.ret ⟨by simp [colonM, n0, n1, e2', e4'], rfl⟩
      · refine zt ?_; refine wm ?_; refine yf ?_; refine yf ?_; refine yf ?_; refine yf ?_; refine yf ?_; refine zt ?_; refine aq ?_; refine zt ?_; refine ao ?_; refine ap ?_
        have n1 : nx (s.drop i) 1 = 0 := by simp [nx, List.getD, List.getElem?_drop, List.getElem?_eq_none (show s.length ≤ i + 1 by omega)]
        exact Ev.ret ⟨by simp [colonM, n0, n1, e2'], rfl⟩
    · have e2' : ¬ s[i] = 58 := by simp at e2; omega
      refine ap ?_; refine yf ?_; refine yf ?_; refine yf ?_; refine yf ?_; refine yf ?_; refine yf ?_; refine yu ?_; refine yu ?_; refine yu ?_; refine yu ?_; refine yu ?_; refine yf ?_; refine yf ?_; refine aq ?_
      exact Ev.ret ⟨by simp [colonM, n0, e2'], rfl⟩
  · refine yf ?_; refine yf ?_; refine yf ?_; refine yf ?_; refine aq ?_; refine yf ?_; refine yf ?_; refine yf ?_; refine yf ?_; refine yf ?_; refine yf ?_; refine yu ?_; refine yu ?_; refine yu ?_; refine yu ?_; refine yu ?_; refine yf ?_; refine yf ?_; refine aq ?_
    have n0 : nx (s.drop i) 0 = 0 := by rw [List.drop_eq_nil_of_le (by omega)]; rfl
    exact Ev.ret ⟨by simp [colonM, n0], rfl⟩

end Go.Dd

/- Dd, part T16: the document's lexer: blanks and remarks, texts, numbers. -/
set_option linter.unusedVariables false
set_option linter.unusedSimpArgs false
set_option maxRecDepth 100000
namespace Go.Dd
open Go.Proofs

def remB (c : Nat) : Bool := !decide (c = 34)

theorem idxGo_tw : ∀ (l : List Nat) (i : Nat), idxGo 34 l i = if (l.takeWhile remB).length < l.length then ((i + (l.takeWhile remB).length : Nat) : Int) else -1
  | [], i => rfl
  | x :: l, i => by
    have ih := idxGo_tw l (i + 1)
    unfold idxGo
    cases e : Nat.beq x 34 with
    | true =>
      have := Nat.eq_of_beq_eq_true e
      subst this
      simp [remB]
    | false =>
      have hx : ¬ x = 34 := fun h => by subst h; simp at e
      simp only [cond_false, ih]
      have : (x :: l).takeWhile remB = x :: l.takeWhile remB := by simp [remB, hx]
      rw [this]
      simp only [List.length_cons, Nat.add_lt_add_iff_right]
      split
      · congr 1; omega
      · rfl

/-- Where blanks and remarks end; whether a remark has no end. -/
inductive SkipTo (s : List Nat) : Nat → Nat → Bool → Prop
  | fin (i : Nat) : s.length ≤ i → SkipTo s i i false
  | blank (i k : Nat) (o : Bool) : i < s.length → inB blanks (nx s i) = true → SkipTo s (i + 1) k o → SkipTo s i k o
  | tok (i : Nat) : i < s.length → inB blanks (nx s i) = false → nx s i ≠ 34 → SkipTo s i i false
  | opn (i : Nat) : i < s.length → nx s i = 34 → ((s.drop (i + 1)).takeWhile remB).length = (s.drop (i + 1)).length → SkipTo s i i true
  | rem (i k : Nat) (o : Bool) : i < s.length → nx s i = 34 → ((s.drop (i + 1)).takeWhile remB).length < (s.drop (i + 1)).length → SkipTo s (i + 1 + ((s.drop (i + 1)).takeWhile remB).length + 1) k o → SkipTo s i k o

theorem kind5 (c : Nat) : kindN c = 5 ↔ inB blanks c = true := by
  unfold kindN
  constructor
  · intro h
    repeat' split at h
    all_goals first | assumption | omega
  · intro h
    have h2 : c = 9 ∨ c = 10 ∨ c = 13 ∨ c = 32 := by simpa [inB, blanks] using h
    rcases h2 with rfl | rfl | rfl | rfl <;> rfl

theorem rem_loop {P : DV → Hp → Prop} {s : List Nat} (hs : s.length ≤ lim) {i0 : Nat} {kk : Nat → DV → DV → Hp → Res} {h : Hp} : ∀ (u : List Nat) (j i : Nat), s.drop i = u → i ≤ s.length →
    ((u.takeWhile remB).length = u.length → P (.t [.i .i64 (i0 : Int), .b true]) h) → ((u.takeWhile remB).length < u.length → Ev (fun n => kk n (.s s) (.i .i64 ((i + (u.takeWhile remB).length + 1 : Nat) : Int)) h) P) →
    Ev (fun n => s19a9l (shD n) n (kk n) (n - j) (.s s) (.i .i64 (i0 : Int)) (.i .i64 (i : Int)) h) P := by
  intro u
  simp only [lim] at hs
  induction u with
  | nil =>
    intro j i hu hi H1 H2
    refine Ev.loop j (ll := fun n m => s19a9l (shD n) n (kk n) m (.s s) (.i .i64 (i0 : Int)) (.i .i64 (i : Int)) h) (bb := fun n m => s19a9b (shD n) n (kk n) (s19a9l (shD n) n (kk n) m) (.s s) (.i .i64 (i0 : Int)) (.i .i64 (i : Int)) h) (fun _ _ => rfl) ?_
    unfold s19a9b s19a8
    have hl : s.length ≤ i := by simpa using hu
    refine Ev.lenS ?_
    refine Ev.ilt (fun e1 => by omega) (fun e1 => ?_)
    refine yf ?_; refine yf ?_; refine yf ?_; refine yf ?_; refine aq ?_; refine yj ?_
    refine Ev.lenS ?_
    refine Ev.ieq (fun e2 => ?_) (fun e2 => absurd (by omega) e2)
    refine yt ?_
    exact Ev.ret (H1 rfl)
  | cons c u ih =>
    intro j i hu hi H1 H2
    have hlt : i < s.length := by
      have := congrArg List.length hu
      simp at this
      omega
    have hu' : s.drop (i + 1) = u := by rw [← List.drop_drop, hu]; rfl
    have hc : s[i] = c := by
      rw [List.drop_eq_getElem_cons hlt] at hu
      exact (List.cons.inj hu).1
    refine Ev.loop j (ll := fun n m => s19a9l (shD n) n (kk n) m (.s s) (.i .i64 (i0 : Int)) (.i .i64 (i : Int)) h) (bb := fun n m => s19a9b (shD n) n (kk n) (s19a9l (shD n) n (kk n) m) (.s s) (.i .i64 (i0 : Int)) (.i .i64 (i : Int)) h) (fun _ _ => rfl) ?_
    unfold s19a9b s19a8
    refine Ev.lenS ?_
    refine Ev.ilt (fun e1 => ?_) (fun e1 => by omega)
    refine zt ?_; refine wm ?_; refine zt ?_; refine wm ?_; refine zt ?_
    refine Ev.op (idxS (c := s[i]) (by simp [hlt]) _) ?_
    refine zt ?_
    refine Ev.ine (fun e2 => ?_) (fun e2 => ?_)
    · have e2' : remB c = true := by rw [hc] at e2; simp at e2; simp [remB]; omega
      have et : (c :: u).takeWhile remB = c :: u.takeWhile remB := by simp [e2']
      refine ap ?_; refine yt ?_
      refine Ev.iadd ?_
      rw [addN 1 (by omega)]
      refine ih (j + 1) (i + 1) hu' (by omega) ?_ ?_
      · intro hl; exact H1 (by rw [et]; simp [hl])
      · intro hl
        have := H2 (by rw [et]; simp; omega)
        rw [et] at this
        simp only [List.length_cons] at this
        rw [show i + 1 + (u.takeWhile remB).length + 1 = i + ((u.takeWhile remB).length + 1) + 1 by omega]
        exact this
    · have e2' : remB c = false := by rw [hc] at e2; simp at e2; simp [remB]; omega
      have et : (c :: u).takeWhile remB = [] := by simp [e2']
      refine ap ?_; refine yj ?_
      refine Ev.lenS ?_
      refine Ev.ieq (fun e3 => by omega) (fun e3 => ?_)
      refine yj ?_
      refine Ev.iadd ?_
      rw [addN 1 (by omega)]
      have := H2 (by rw [et]; simp)
      rw [et] at this
      exact this

theorem skip_loop {s : List Nat} (hs : s.length ≤ lim) {h : Hp} {i k : Nat} {o : Bool} (H : SkipTo s i k o) : ∀ (j : Nat), i ≤ s.length →
    Ev (fun n => s19a3l (shD n) n (n - j) (.s s) (.i .i64 (i : Int)) h) (fun v h' => v = .t [.i .i64 (k : Int), .b o] ∧ h' = h) := by
  have hs' := hs
  simp only [lim] at hs'
  induction H with
  | fin i hl =>
    intro j hi
    refine Ev.loop j (ll := fun n m => s19a3l (shD n) n m (.s s) (.i .i64 (i : Int)) h) (bb := fun n m => s19a3b (shD n) n (s19a3l (shD n) n m) (.s s) (.i .i64 (i : Int)) h) (fun _ _ => rfl) ?_
    unfold s19a3b s19a2
    refine Ev.lenS ?_
    refine Ev.ilt (fun e1 => by omega) (fun e1 => ?_)
    refine yj ?_
    exact Ev.ret ⟨rfl, rfl⟩
  | blank i k o hlt hb _ ih =>
    intro j hi
    have hnx : nx s i = s[i] := by simp [nx, List.getD, hlt]
    refine Ev.loop j (ll := fun n m => s19a3l (shD n) n m (.s s) (.i .i64 (i : Int)) h) (bb := fun n m => s19a3b (shD n) n (s19a3l (shD n) n m) (.s s) (.i .i64 (i : Int)) h) (fun _ _ => rfl) ?_
    unfold s19a3b s19a2 s19a4
    refine Ev.lenS ?_
    refine Ev.ilt (fun e1 => ?_) (fun e1 => by omega)
    refine yt ?_
    refine Ev.op (idxS (c := s[i]) (by simp [hlt]) _) ?_
    refine Ev.call (kind_ok _ _) ?_
    rintro _ _ ⟨rfl, rfl⟩
    refine Ev.ieq (fun e2 => ?_) (fun e2 => absurd (by rw [(kind5 _).2 (hnx ▸ hb)]; rfl) e2)
    refine yt ?_
    refine Ev.iadd ?_
    rw [addN 1 (by omega)]
    exact ih (j + 1) (by omega)
  | tok i hlt hb h34 =>
    intro j hi
    have hnx : nx s i = s[i] := by simp [nx, List.getD, hlt]
    refine Ev.loop j (ll := fun n m => s19a3l (shD n) n m (.s s) (.i .i64 (i : Int)) h) (bb := fun n m => s19a3b (shD n) n (s19a3l (shD n) n m) (.s s) (.i .i64 (i : Int)) h) (fun _ _ => rfl) ?_
    unfold s19a3b s19a2 s19a4 s19a5
    refine Ev.lenS ?_
    refine Ev.ilt (fun e1 => ?_) (fun e1 => by omega)
    refine yt ?_
    refine Ev.op (idxS (c := s[i]) (by simp [hlt]) _) ?_
    refine Ev.call (kind_ok _ _) ?_
    rintro _ _ ⟨rfl, rfl⟩
    refine Ev.ieq (fun e2 => ?_) (fun e2 => ?_)
    · have : inB blanks s[i] = true := (kind5 _).1 (by simp at e2; omega)
      rw [hnx, this] at hb
      cases hb
    refine yj ?_
    refine Ev.op (idxS (c := s[i]) (by simp [hlt]) _) ?_
    refine Ev.ine (fun e3 => ?_) (fun e3 => absurd (by rw [hnx]; simp at e3; omega) h34)
    unfold s19a2
    exact Ev.ret ⟨rfl, rfl⟩
  | opn i hlt h34 hl =>
    intro j hi
    have hnx : nx s i = s[i] := by simp [nx, List.getD, hlt]
    have hb : inB blanks s[i] = false := by rw [← hnx, h34]; rfl
    refine Ev.loop j (ll := fun n m => s19a3l (shD n) n m (.s s) (.i .i64 (i : Int)) h) (bb := fun n m => s19a3b (shD n) n (s19a3l (shD n) n m) (.s s) (.i .i64 (i : Int)) h) (fun _ _ => rfl) ?_
    unfold s19a3b s19a2 s19a4 s19a5
    refine Ev.lenS ?_
    refine Ev.ilt (fun e1 => ?_) (fun e1 => by omega)
    refine yt ?_
    refine Ev.op (idxS (c := s[i]) (by simp [hlt]) _) ?_
    refine Ev.call (kind_ok _ _) ?_
    rintro _ _ ⟨rfl, rfl⟩
    refine Ev.ieq (fun e2 => ?_) (fun e2 => ?_)
    · have : inB blanks s[i] = true := (kind5 _).1 (by simp at e2; omega)
      rw [this] at hb
      cases hb
    refine yj ?_
    refine Ev.op (idxS (c := s[i]) (by simp [hlt]) _) ?_
    refine Ev.ine (fun e3 => absurd (by rw [← hnx, h34]) e3) (fun e3 => ?_)
    refine yj ?_
    unfold s19a6 s19a7 s19a9
    refine Ev.iadd ?_
    rw [addN 1 (by omega)]
    refine rem_loop hs (kk := fun n => s19a3l (shD n) n (n - (j + 1))) (s.drop (i + 1)) 0 (i + 1) rfl (by omega) (fun _ => ⟨rfl, rfl⟩) (fun hl2 => by omega)
  | rem i k o hlt h34 hl _ ih =>
    intro j hi
    have hnx : nx s i = s[i] := by simp [nx, List.getD, hlt]
    have hb : inB blanks s[i] = false := by rw [← hnx, h34]; rfl
    refine Ev.loop j (ll := fun n m => s19a3l (shD n) n m (.s s) (.i .i64 (i : Int)) h) (bb := fun n m => s19a3b (shD n) n (s19a3l (shD n) n m) (.s s) (.i .i64 (i : Int)) h) (fun _ _ => rfl) ?_
    unfold s19a3b s19a2 s19a4 s19a5
    refine Ev.lenS ?_
    refine Ev.ilt (fun e1 => ?_) (fun e1 => by omega)
    refine yt ?_
    refine Ev.op (idxS (c := s[i]) (by simp [hlt]) _) ?_
    refine Ev.call (kind_ok _ _) ?_
    rintro _ _ ⟨rfl, rfl⟩
    refine Ev.ieq (fun e2 => ?_) (fun e2 => ?_)
    · have : inB blanks s[i] = true := (kind5 _).1 (by simp at e2; omega)
      rw [this] at hb
      cases hb
    refine yj ?_
    refine Ev.op (idxS (c := s[i]) (by simp [hlt]) _) ?_
    refine Ev.ine (fun e3 => absurd (by rw [← hnx, h34]) e3) (fun e3 => ?_)
    refine yj ?_
    unfold s19a6 s19a7 s19a9
    refine Ev.iadd ?_
    rw [addN 1 (by omega)]
    have hll : (s.drop (i + 1)).length = s.length - (i + 1) := by simp
    refine rem_loop hs (kk := fun n => s19a3l (shD n) n (n - (j + 1))) (s.drop (i + 1)) 0 (i + 1) rfl (by omega) (fun hl2 => by omega) (fun hl2 => ih (j + 1) (by omega))

theorem skip_ok {s : List Nat} (hs : s.length ≤ lim) {h : Hp} {i k : Nat} {o : Bool} (H : SkipTo s i k o) (hi : i ≤ s.length) :
    Ev (fun n => shD n 19 [.s s, .i .i64 (i : Int)] h) (fun v h' => v = .t [.i .i64 (k : Int), .b o] ∧ h' = h) := by
  refine Ev.enter (fun n => enter19 n _ _ h) ?_
  unfold s19 s19a1 s19a3
  exact skip_loop hs H 0 hi

/-- The tokens, one behind the other. -/
theorem toks_skip {g : Nat} {s : List Nat} : ∀ (f i : Nat) (out : List Tok) (res : List Tok × Int × Int), i ≤ s.length → toksM g s f i out = some res →
    ∃ k o, SkipTo s i k o ∧ k ≤ s.length ∧ (o = true → res = ([], (k : Int), 11)) ∧ (o = false → k = s.length → res = (out ++ [⟨0, [], 0, (k : Int)⟩], 0, 0)) ∧
      (o = false → k < s.length → ∃ rs, tokenM g (s.drop k) = some rs ∧ (rs.2.2.2.1 ≠ 0 → res = ([], (k : Int), rs.2.2.2.1)) ∧
        (rs.2.2.2.1 = 0 → k + rs.2.2.2.2 ≤ s.length ∧ ∃ f', f' < f ∧ toksM g s f' (k + rs.2.2.2.2) (out ++ [⟨rs.1, rs.2.1, rs.2.2.1, (k : Int)⟩]) = some res)) := by
  intro f
  induction f with
  | zero => intro i out res hi hm; cases hm
  | succ f ih =>
    intro i out res hi hm
    unfold toksM at hm
    have hle := tw_le (inB blanks) (s.drop i)
    have hdl : (s.drop i).length = s.length - i := by simp
    have up : ∀ (w : Nat) (i : Nat), w ≤ ((s.drop i).takeWhile (inB blanks)).length → ∀ k o, SkipTo s (i + w) k o → SkipTo s i k o := by
      intro w
      induction w with
      | zero => intro i _ k o H; exact H
      | succ w ihw =>
        intro i hw k o H
        have hlt : i < s.length := by
          have := tw_le (inB blanks) (s.drop i)
          simp at this
          omega
        have hd := List.drop_eq_getElem_cons hlt
        rw [hd] at hw
        have hb : inB blanks s[i] = true := by
          cases e : inB blanks s[i] with
          | true => rfl
          | false =>
            rw [List.takeWhile_cons, e] at hw
            simp only [Bool.false_eq_true, if_false, List.length_nil] at hw
            omega
        have hnx : nx s i = s[i] := by simp [nx, List.getD, hlt]
        refine SkipTo.blank i k o hlt (by rw [hnx]; exact hb) ?_
        rw [List.takeWhile_cons, hb] at hw
        simp only [if_true, List.length_cons] at hw
        refine ihw (i + 1) (by omega) k o ?_
        rw [show i + 1 + w = i + (w + 1) by omega]
        exact H
    have nb : ∀ w, w = ((s.drop i).takeWhile (inB blanks)).length → i + w < s.length → inB blanks (nx s (i + w)) = false := by
      intro w hw hlt
      have e1 : nx s (i + w) = nx (s.drop i) w := by simp [nx, List.getD, List.getElem?_drop]
      rw [e1, hw]
      have : ∀ u : List Nat, (u.takeWhile (inB blanks)).length < u.length → inB blanks (nx u (u.takeWhile (inB blanks)).length) = false := by
        intro u
        induction u with
        | nil => intro h; simp at h
        | cons c u ihu =>
          intro h
          cases e : inB blanks c with
          | false => simp [e, nx]
          | true =>
            simp [e] at h
            simp [e]
            have := ihu h
            simpa [nx] using this
      exact this _ (by omega)
    generalize hw : ((s.drop i).takeWhile (inB blanks)).length = w at hm hle nb
    have hi2 : i + w ≤ s.length := by omega
    split at hm
    · rename_i h1
      cases hm
      have hk : i + w = s.length := by omega
      refine ⟨i + w, false, up w i (by omega) _ _ (.fin _ h1), by omega, fun h => (by cases h), fun _ h => by rw [hk], fun _ h => by omega⟩
    · rename_i h1
      have h1' : i + w < s.length := by omega
      have hb := nb w rfl h1'
      split at hm
      · rename_i h2
        rw [idxGo_tw] at hm
        by_cases hlt : ((s.drop (i + w + 1)).takeWhile remB).length < (s.drop (i + w + 1)).length
        · rw [if_pos hlt] at hm
          rw [if_neg (by omega)] at hm
          simp only [Nat.zero_add, Int.toNat_natCast] at hm
          have hdl2 : (s.drop (i + w + 1)).length = s.length - (i + w + 1) := by simp
          obtain ⟨k, o, a1, a2, a3, a4, a5⟩ := ih _ out res (by omega) hm
          refine ⟨k, o, up w i (by omega) _ _ (.rem _ k o h1' h2 hlt ?_), a2, a3, a4, ?_⟩
          · rw [show i + w + 1 + ((s.drop (i + w + 1)).takeWhile remB).length + 1 = i + w + ((s.drop (i + w + 1)).takeWhile remB).length + 2 by omega]
            exact a1
          · intro ho hk
            obtain ⟨rs, b1, b2, b3⟩ := a5 ho hk
            refine ⟨rs, b1, b2, fun he => ?_⟩
            obtain ⟨c1, f', c2, c3⟩ := b3 he
            exact ⟨c1, f', by omega, c3⟩
        · rw [if_neg hlt] at hm
          rw [if_pos (by omega)] at hm
          cases hm
          have := tw_le remB (s.drop (i + w + 1))
          exact ⟨i + w, true, up w i (by omega) _ _ (.opn _ h1' h2 (by omega)), by omega, fun _ => rfl, fun h => (by cases h), fun h => (by cases h)⟩
      · rename_i h2
        obtain ⟨rs, hr, hm⟩ := Option.bind_eq_some_iff.1 hm
        refine ⟨i + w, false, up w i (by omega) _ _ (.tok _ h1' hb h2), by omega, fun h => (by cases h), fun _ h => by omega, fun _ _ => ⟨rs, hr, fun he => ?_, fun he => ?_⟩⟩
        · rw [if_neg he] at hm
          cases hm
          rfl
        · rw [if_pos he] at hm
          split at hm
          · cases hm
          · rename_i hfit
            simp at hfit
            exact ⟨by omega, f, by omega, hm⟩

end Go.Dd

/- Dd, part T17: the document's lexer: texts, symbols. -/
set_option linter.unusedVariables false
set_option linter.unusedSimpArgs false
set_option maxRecDepth 100000
namespace Go.Dd
open Go.Proofs

/-- What a call that answers a token, its end and an error leaves: the same as the program's, where there is no error. -/
def KPost (I : Im) (A Q L : Ls) (res : Int × List Nat × Int × Int × Nat) (i : Nat) (v : DV) (h : Hp) : Prop :=
  ∃ t en, v = .t [.a (tc t), .i .i64 en, .i .i64 res.2.2.2.1] ∧ (res.2.2.2.1 = 0 → t = ⟨res.1, res.2.1, res.2.2.1, (i : Int)⟩ ∧ en = ((i + res.2.2.2.2 : Nat) : Int)) ∧ Sy I A Q L h

section
variable {I : Im} {A Q L : Ls} {s : List Nat} {p0 : Int} {k0 : Int} {m0 : Int} {b3 b4 : Pos} {z : List DV}

abbrev tokL (b3 b4 : Pos) (z : List DV) (t : Tok) (L : Ls) : Ls := (b4, some (.row .ex z)) :: (b3, some (.row .ex [.i .i64 t.kind, .s t.text, .i .i64 t.num, .i .i64 t.pos])) :: L

theorem rtext_run {P : DV → Hp → Prop} (hs : s.length ≤ lim) (z1 : z.length = 4) (z2 : ∀ v ∈ z, v.one = true) : ∀ (u : List Nat) (i : Nat) (out : List Nat), s.drop i = u → out.length ≤ i → i ≤ s.length →
    (∀ (j : Nat) (h : Hp), Sy I A Q (tokL b3 b4 z ⟨k0, out ++ u.takeWhile textB, m0, p0⟩ L) h → Ev (fun n => s37a4l (shD n) n (n - j) (.s s) (.p b3 0) (.p b4 0) (.i .i64 ((i + (u.takeWhile textB).length : Nat) : Int)) h) P) →
    ∀ (j : Nat) (h : Hp), Sy I A Q (tokL b3 b4 z ⟨k0, out, m0, p0⟩ L) h → Ev (fun n => s37a4l (shD n) n (n - j) (.s s) (.p b3 0) (.p b4 0) (.i .i64 (i : Int)) h) P := by
  intro u
  induction u with
  | nil =>
    intro i out hu ho hi H j h S
    have := H j h (by simpa using S)
    simpa using this
  | cons c u ih =>
    intro i out hu ho hi H j h S
    have hlt : i < s.length := by
      have := congrArg List.length hu
      simp at this
      omega
    have hu' : s.drop (i + 1) = u := by rw [← List.drop_drop, hu]; rfl
    have hc : s[i] = c := by
      rw [List.drop_eq_getElem_cons hlt] at hu
      exact (List.cons.inj hu).1
    cases e : textB c with
    | false =>
      rw [List.takeWhile_cons, e] at H
      have := H j h (by simpa using S)
      simpa using this
    | true =>
      rw [List.takeWhile_cons, e] at H
      simp only [if_true, List.length_cons] at H
      have hs' := hs
      simp only [lim] at hs'
      refine Ev.loop j (ll := fun n m => s37a4l (shD n) n m (.s s) (.p b3 0) (.p b4 0) (.i .i64 (i : Int)) h) (bb := fun n m => s37a4b (shD n) n (s37a4l (shD n) n m) (.s s) (.p b3 0) (.p b4 0) (.i .i64 (i : Int)) h) (fun _ _ => rfl) ?_
      unfold s37a4b
      refine Ev.lenS ?_
      refine Ev.ilt (fun e1 => ?_) (fun e1 => by omega)
      refine yt ?_
      refine Ev.op (idxS (c := s[i]) (by simp [hlt]) _) ?_
      refine Ev.ine (fun e2 => ?_) (fun e2 => ?_)
      · refine yt ?_; refine wf ?_; refine wl ?_
        refine Ev.iadd ?_
        rw [addN 1 (by omega)]
        refine Ev.op (cutS (by omega) (by omega) _) ?_
        have ec : (s.take (i + 1)).drop i = [c] := by
          rw [List.drop_take, hu, Nat.add_sub_cancel_left]; rfl
        rw [ec]
        refine Ev.sadd (by simp; omega) ?_
        refine wf ?_; refine wu fun _ _ => ?_
        refine Ev.iadd ?_
        rw [addN 1 (by omega)]
        refine ih (i + 1) (out ++ [c]) hu' (by simp; omega) (by omega) ?_ (j + 1) _ (by assumption)
        intro j' h' S'
        rw [show i + 1 + (u.takeWhile textB).length = i + ((u.takeWhile textB).length + 1) by omega]
        exact H j' h' (by simpa using S')
      · rw [hc] at e2
        simp [textB] at e
        simp at e2
        omega

theorem rtext_loop (hs : s.length ≤ lim) (z1 : z.length = 4) (z2 : ∀ v ∈ z, v.one = true) : ∀ (f j i : Nat) (h : Hp) (out : List Nat) (res : List Nat × Int × Nat), Sy I A Q (tokL b3 b4 z ⟨k0, out, m0, p0⟩ L) h → i ≤ s.length → out.length ≤ i → textM f out (s.drop i) = some res →
    Ev (fun n => s37a4l (shD n) n (n - j) (.s s) (.p b3 0) (.p b4 0) (.i .i64 (i : Int)) h)
      (fun v h' => ∃ t en, v = .t [.a (tc t), .i .i64 en, .i .i64 res.2.1] ∧ (res.2.1 = 0 → t = ⟨k0, res.1, m0, p0⟩ ∧ en = ((i + res.2.2 : Nat) : Int)) ∧ Sy I A Q L h') := by
  intro f
  induction f with
  | zero => intro j i h out res S hi ho hm; cases hm
  | succ f ih =>
    intro j i h out res S hi ho hm
    unfold textM at hm
    have hlen := tw_le textB (s.drop i)
    have hd : (s.drop i).length = s.length - i := by simp
    have hs' := hs
    simp only [lim] at hs'
    refine rtext_run hs z1 z2 (s.drop i) i out rfl ho hi ?_ j h S
    intro j' h' S'
    have hnth : (s.drop i)[((s.drop i).takeWhile textB).length]? = s[i + ((s.drop i).takeWhile textB).length]? := by rw [List.getElem?_drop]
    have hstop : ∀ u : List Nat, (u.takeWhile textB).length < u.length → u[(u.takeWhile textB).length]? = some 39 := by
      intro u
      induction u with
      | nil => intro h; simp at h
      | cons c u ihu =>
        intro h
        cases e : textB c with
        | false =>
          simp [textB] at e
          subst e
          simp [textB]
        | true =>
          rw [List.takeWhile_cons, e] at h ⊢
          simp only [if_true, List.length_cons] at h ⊢
          have := ihu (by omega)
          simpa using this
    generalize hw : (s.drop i).takeWhile textB = w at hm S' hlen hnth
    have hwst : w.length < (s.drop i).length → s[i + w.length]? = some 39 := fun hl => by
      rw [← hnth, ← hw]; exact hstop _ (by rw [hw]; exact hl)
    refine Ev.loop j' (ll := fun n m => s37a4l (shD n) n m (.s s) (.p b3 0) (.p b4 0) (.i .i64 ((i + w.length : Nat) : Int)) h') (bb := fun n m => s37a4b (shD n) n (s37a4l (shD n) n m) (.s s) (.p b3 0) (.p b4 0) (.i .i64 ((i + w.length : Nat) : Int)) h') (fun _ _ => rfl) ?_
    unfold s37a4b s37a3
    refine Ev.lenS ?_
    refine Ev.ilt (fun e1 => ?_) (fun e1 => ?_)
    · have e1' : i + w.length < s.length := by omega
      have hq := hwst (by omega)
      rw [if_neg (by omega)] at hm
      refine yt ?_
      refine Ev.op (idxS hq _) ?_
      refine Ev.ine (fun e2 => absurd rfl e2) (fun e2 => ?_)
      refine yj ?_
      refine Ev.iadd ?_
      rw [addN 1 (by omega)]
      refine Ev.lenS ?_
      have nxe : nx (s.drop i) (w.length + 1) = s.getD (i + w.length + 1) 0 := by simp [nx, List.getD, List.getElem?_drop, Nat.add_assoc]
      have fin : ¬ nx (s.drop i) (w.length + 1) = 39 → Ev (fun n => bnd (pLoadA 4 (.p b3 0) h') fun v34 h34 => bnd (pInt .add (.i .i64 ((i + w.length : Nat) : Int)) (.i .i64 (Int.ofNat 1)) h34) fun v35 h35 => bnd (pStore 4 (.p b4 0) v34 h35) fun _ h36 => bnd (pLoadA 4 (.p b4 0) h36) fun v37 _ => some (.t [v37, v35, .i .i64 (Int.ofNat 0)], h36))
          (fun v h' => ∃ t en, v = .t [.a (tc t), .i .i64 en, .i .i64 res.2.1] ∧ (res.2.1 = 0 → t = ⟨k0, res.1, m0, p0⟩ ∧ en = ((i + res.2.2 : Nat) : Int)) ∧ Sy I A Q L h') := fun e => by
        rw [if_neg e] at hm
        cases hm
        refine ws ?_
        refine Ev.iadd ?_
        rw [addN 1 (by omega)]
        refine wt fun _ _ => ?_; refine ws ?_
        refine Ev.ret ⟨⟨k0, out ++ w, m0, p0⟩, _, rfl, fun _ => ⟨rfl, ?_⟩, dp⟩
        rw [Nat.add_assoc]
      refine Ev.ilt (fun e3 => ?_) (fun e3 => ?_)
      · have e3' : i + w.length + 1 < s.length := by omega
        refine zt ?_; refine wm ?_; refine zt ?_; refine wm ?_; refine zt ?_
        refine Ev.iadd ?_
        rw [addN 1 (by omega)]
        refine zt ?_
        refine Ev.op (idxS (c := s[i + w.length + 1]) (by simp [e3']) _) ?_
        refine zt ?_
        have nxe' : nx (s.drop i) (w.length + 1) = s[i + w.length + 1] := by rw [nxe]; simp [List.getD, e3']
        refine Ev.ieq (fun e4 => ?_) (fun e4 => ?_)
        · have e4' : nx (s.drop i) (w.length + 1) = 39 := by rw [nxe']; simp at e4; omega
          rw [if_pos e4'] at hm
          obtain ⟨res', hr, hm⟩ := Option.bind_eq_some_iff.1 hm
          simp only [Option.some.injEq] at hm
          subst hm
          refine ap ?_; refine yt ?_; refine wf ?_; refine wl ?_
          refine Ev.sadd (by simp; omega) ?_
          refine wf ?_; refine wu fun _ _ => ?_
          refine Ev.iadd ?_
          rw [addN 2 (by omega)]
          refine (ih (j' + 1) (i + w.length + 2) _ (out ++ w ++ [39]) res' (by assumption) (by omega) (by simp; omega) ?_).mono ?_
          · rw [← hr, List.drop_drop]
            congr 2
          · rintro v h'' ⟨t, en, a1, a2, a3⟩
            refine ⟨t, en, a1, fun he => ?_, a3⟩
            obtain ⟨b1, b2⟩ := a2 he
            refine ⟨b1, ?_⟩
            rw [b2]
            show ((i + w.length + 2 + res'.2.2 : Nat) : Int) = ((i + (res'.2.2 + (w.length + 2)) : Nat) : Int)
            congr 1
            omega
        · have F := fin (by rw [nxe']; simp at e4; omega)
          exact F
      · have F := fin (by rw [nxe]; simp [List.getD, List.getElem?_eq_none (show s.length ≤ i + w.length + 1 by omega)])
        exact F
    · have e1' : w.length = (s.drop i).length := by omega
      rw [if_pos e1'] at hm
      cases hm
      refine yj ?_; refine ws ?_; refine wt fun _ _ => ?_; refine ws ?_
      exact Ev.ret ⟨⟨k0, out ++ w, m0, p0⟩, _, rfl, fun he => (by cases he), dp⟩

theorem rtext_ok {h : Hp} (S : Sy I A Q L h) (hs : s.length ≤ lim) {i : Nat} (hi : i < s.length) (f : Nat) (res : List Nat × Int × Nat) (hm : textM f [] (s.drop (i + 1)) = some res) :
    Ev (fun n => shD n 37 [.s s, .a (tc ⟨k0, [], m0, (i : Int)⟩)] h) (fun v h' => ∃ t en, v = .t [.a (tc t), .i .i64 en, .i .i64 res.2.1] ∧ (res.2.1 = 0 → t = ⟨k0, res.1, m0, (i : Int)⟩ ∧ en = ((i + 1 + res.2.2 : Nat) : Int)) ∧ Sy I A Q L h') := by
  refine Ev.enter (fun n => enter37 n _ _ h) ?_
  unfold s37 s37a1 s37a2 s37a4
  refine wb fun _ _ _ => ?_; refine wa fun _ _ _ => ?_; refine wf ?_; refine wl ?_
  refine Ev.iadd ?_
  simp only [lim] at hs
  rw [addN 1 (by omega)]
  rename_i b1 h1 S1 b2 h2 S2
  exact rtext_loop (b3 := b1) (b4 := b2) (k0 := k0) (m0 := m0) (p0 := (i : Int)) hs rfl (by first | assumption | exact tc_ones _ | (repeat (first | exact ones_nil | refine ones_cons (by first | rfl | assumption | exact Fz.one (by assumption)) ?_))) f 0 (i + 1) _ [] res S2 (by omega) (by simp) hm

end
end Go.Dd

/- Dd, part T18: the document's lexer: symbols. -/
set_option linter.unusedVariables false
set_option linter.unusedSimpArgs false
set_option maxRecDepth 100000
namespace Go.Dd
open Go.Proofs

theorem nameM_take {u : List Nat} (h : (nameM u).2.1 = 0) : (nameM u).1 = u.take (nameM u).2.2 := by
  unfold nameM at h ⊢
  split at h
  · cases h
  · rename_i hn
    rw [if_neg hn]
    exact (take_tw nameB u).symm

theorem nameM_len (u : List Nat) : (nameM u).2.2 = (u.takeWhile nameB).length := by
  unfold nameM; split <;> rfl
theorem nameM_err (u : List Nat) : (nameM u).2.1 = if 24 < (u.takeWhile nameB).length then 12 else 0 := by
  unfold nameM; split <;> rfl

theorem colon_head {u : List Nat} (h : colonM u = true) : ∃ v, u = 58 :: v := by
  unfold colonM at h
  cases u with
  | nil => simp [nx] at h
  | cons c v =>
    simp [nx] at h
    exact ⟨v, by rw [h.1]⟩

theorem take_colon {u : List Nat} {n : Nat} (h : colonM (u.drop n) = true) : u.take (n + 1) = u.take n ++ [58] := by
  obtain ⟨v, e⟩ := colon_head h
  have : u[n]? = some 58 := by
    have : (u.drop n)[0]? = some 58 := by rw [e]; rfl
    simpa using this
  rw [List.take_add_one, this]
  rfl

theorem symL_take : ∀ (f : Nat) (out u : List Nat) (res : List Nat × Int × Nat), symL f out u = some res → res.2.2 ≤ u.length ∧ (res.2.1 = 0 → res.1 = out ++ u.take res.2.2) := by
  intro f
  induction f with
  | zero => intro out u res h; cases h
  | succ f ih =>
    intro out u res h
    unfold symL at h
    have hn := nameM_le u
    split at h
    · split at h
      · rename_i h1 h2
        have hc := colon_lt h2
        simp at hc
        split at h
        · rename_i h3
          obtain ⟨r, hr, h⟩ := Option.bind_eq_some_iff.1 h
          cases h
          obtain ⟨a1, a2⟩ := ih _ _ _ hr
          simp at a1
          refine ⟨by show r.2.2 + ((nameM u).2.2 + 1) ≤ _; omega, fun he => ?_⟩
          show r.1 = out ++ u.take (r.2.2 + ((nameM u).2.2 + 1))
          rw [a2 he, nameM_take h3, Nat.add_comm r.2.2, List.take_add, take_colon h2]
          simp
        · cases h
          refine ⟨by show (nameM u).2.2 + 1 ≤ _; omega, fun he => ?_⟩
          rename_i h3
          exact absurd he h3
      · cases h
        exact ⟨by simp, fun _ => by simp⟩
    · cases h
      exact ⟨by simp, fun _ => by simp⟩

theorem symbolM_take {f : Nat} {u : List Nat} {res : List Nat × Int × Nat} (h : symbolM f u = some res) : res.2.2 ≤ u.length ∧ (res.2.1 = 0 → res.1 = u.take res.2.2) := by
  unfold symbolM at h
  have hn := nameM_le u
  split at h
  · split at h
    · split at h
      · rename_i h3
        split at h
        · rename_i h4
          obtain ⟨r, hr, h⟩ := Option.bind_eq_some_iff.1 h
          cases h
          have hc := colon_lt h4
          simp at hc
          obtain ⟨a1, a2⟩ := symL_take _ _ _ _ hr
          simp at a1
          refine ⟨by show r.2.2 + ((nameM u).2.2 + 1) ≤ _; omega, fun he => ?_⟩
          show r.1 = u.take (r.2.2 + ((nameM u).2.2 + 1))
          rw [a2 he, nameM_take h3, Nat.add_comm r.2.2, List.take_add, take_colon h4]
        · cases h
          exact ⟨hn, fun _ => nameM_take h3⟩
      · cases h
        rename_i h3
        exact ⟨hn, fun he => absurd he h3⟩
    · cases h
      exact ⟨by simp, fun he => (by cases he)⟩
  · cases h
    exact ⟨runN_le _ _ _, fun _ => rfl⟩

theorem atZ1 (u : List Nat) : atZ u = 1 ↔ letterB (nx u 0) = true := by
  cases u with
  | nil => simp [atZ, nx, letterB]
  | cons c u =>
    have := kind1 c
    simp only [atZ, nx, List.getD_cons_zero]
    rw [← this]
    omega

theorem kind3 (c : Nat) : kindN c = 3 ↔ inB signs c = true := by
  unfold kindN
  constructor
  · intro h
    repeat' split at h
    all_goals first | assumption | omega
  · intro h
    have h2 : c = 43 ∨ c = 45 ∨ c = 42 ∨ c = 47 ∨ c = 60 ∨ c = 62 ∨ c = 61 ∨ c = 126 ∨ c = 44 ∨ c = 64 ∨ c = 38 ∨ c = 37 := by simpa [inB, signs] using h
    rcases h2 with rfl | rfl | rfl | rfl | rfl | rfl | rfl | rfl | rfl | rfl | rfl | rfl <;> rfl

theorem kind4 (c : Nat) : kindN c = 4 ↔ inB marks c = true := by
  unfold kindN
  constructor
  · intro h
    repeat' split at h
    all_goals first | assumption | omega
  · intro h
    have h2 : c = 94 ∨ c = 46 ∨ c = 59 ∨ c = 40 ∨ c = 41 ∨ c = 91 ∨ c = 93 ∨ c = 124 := by simpa [inB, marks] using h
    rcases h2 with rfl | rfl | rfl | rfl | rfl | rfl | rfl | rfl <;> rfl

theorem atZ3 (u : List Nat) : atZ u = 3 ↔ ∃ c v, u = c :: v ∧ inB signs c = true := by
  cases u with
  | nil => simp [atZ]
  | cons c u =>
    have := kind3 c
    constructor
    · intro h
      exact ⟨c, u, rfl, this.1 (by simp only [atZ] at h; omega)⟩
    · rintro ⟨c', v, e, h⟩
      cases e
      simp only [atZ]
      rw [this.2 h]; rfl

/-- Two signs at most. -/
theorem run_signs (u : List Nat) : (atZ u = 3 → runN (inB signs) 2 u = if atZ (u.drop 1) = 3 then 2 else 1) ∧ (¬ atZ u = 3 → runN (inB signs) 2 u = 0) := by
  constructor
  · intro h
    obtain ⟨c, v, rfl, hc⟩ := (atZ3 u).1 h
    simp only [runN, hc, if_true, List.drop_succ_cons, List.drop_zero]
    cases v with
    | nil => simp [runN, atZ]
    | cons d v =>
      cases hd : inB signs d with
      | true =>
        rw [if_pos ((atZ3 _).2 ⟨d, v, rfl, hd⟩)]
        simp [runN, hd]
      | false =>
        rw [if_neg (fun h => by obtain ⟨c', v', e, h'⟩ := (atZ3 _).1 h; cases e; rw [h'] at hd; cases hd)]
        simp [runN, hd]
  · intro h
    cases u with
    | nil => rfl
    | cons c v =>
      have hc : inB signs c = false := by
        cases e : inB signs c with
        | false => rfl
        | true => exact absurd ((atZ3 _).2 ⟨c, v, rfl, e⟩) h
      simp [runN, hc]

section
variable {I : Im} {A Q L : Ls} {s : List Nat} {b3 b4 : Pos} {z : List DV}

theorem rsym_fin {t0 : List Nat} {h : Hp} {p0 : Int} (S : Sy I A Q (tokL b3 b4 z ⟨6, t0, 0, p0⟩ L) h) (z1 : z.length = 4) (z2 : ∀ v ∈ z, v.one = true) (a e : Nat) (h1 : a ≤ e) (h2 : e ≤ s.length) :
    Ev (fun n => s38a9 (shD n) n (.s s) (.p b3 0) (.p b4 0) (.i .i64 (a : Int)) (.i .i64 (e : Int)) h) (fun v h' => v = .t [.a (tc ⟨6, (s.take e).drop a, 0, p0⟩), .i .i64 (e : Int), .i .i64 0] ∧ Sy I A Q L h') := by
  unfold s38a9
  refine Ev.op (cutS h1 h2 h) ?_
  refine wf ?_; refine wu fun _ _ => ?_; refine ws ?_; refine wt fun _ _ => ?_; refine ws ?_
  exact Ev.ret ⟨rfl, dp⟩

theorem rsym_loop (hs : s.length ≤ lim) (z1 : z.length = 4) (z2 : ∀ v ∈ z, v.one = true) {p0 : Int} (a : Nat) : ∀ (f j e : Nat) (h : Hp) (out : List Nat) (res : List Nat × Int × Nat), Sy I A Q (tokL b3 b4 z ⟨6, [], 0, p0⟩ L) h → a ≤ e → e ≤ s.length → colonM (s.drop e) = true →
    symL f out (s.drop (e + 1)) = some res →
    Ev (fun n => s38a10l (shD n) n (n - j) (.s s) (.p b3 0) (.p b4 0) (.i .i64 (a : Int)) (.i .i64 (e : Int)) h)
      (fun v h' => ∃ t en, v = .t [.a (tc t), .i .i64 en, .i .i64 res.2.1] ∧ (res.2.1 = 0 → t = ⟨6, (s.take (e + 1 + res.2.2)).drop a, 0, p0⟩ ∧ en = ((e + 1 + res.2.2 : Nat) : Int)) ∧ Sy I A Q L h') := by
  intro f
  induction f with
  | zero => intro j e h out res S ha he hc hm; cases hm
  | succ f ih =>
    intro j e h out res S ha he hc hm
    unfold symL at hm
    have hs' := hs
    simp only [lim] at hs'
    have hcl := colon_lt hc
    have he1 : e + 1 ≤ s.length := by simp at hcl; omega
    refine Ev.loop j (ll := fun n m => s38a10l (shD n) n m (.s s) (.p b3 0) (.p b4 0) (.i .i64 (a : Int)) (.i .i64 (e : Int)) h) (bb := fun n m => s38a10b (shD n) n (s38a10l (shD n) n m) (.s s) (.p b3 0) (.p b4 0) (.i .i64 (a : Int)) (.i .i64 (e : Int)) h) (fun _ _ => rfl) ?_
    unfold s38a10b
    refine Ev.call (rcol_ok s hs e he h) ?_
    rintro _ _ ⟨rfl, hh⟩
    rw [hh]
    clear hh
    rw [hc]
    refine yt ?_
    refine Ev.iadd ?_
    rw [addN 1 (by omega)]
    refine Ev.call (at_ok s (e + 1) _) ?_
    rintro _ _ ⟨rfl, hh⟩
    rw [hh]
    clear hh
    have fin : some (out, (0 : Int), 0) = some res → Ev (fun n => s38a9 (shD n) n (.s s) (.p b3 0) (.p b4 0) (.i .i64 (a : Int)) (.i .i64 ((e + 1 : Nat) : Int)) h)
        (fun v h' => ∃ t en, v = .t [.a (tc t), .i .i64 en, .i .i64 res.2.1] ∧ (res.2.1 = 0 → t = ⟨6, (s.take (e + 1 + res.2.2)).drop a, 0, p0⟩ ∧ en = ((e + 1 + res.2.2 : Nat) : Int)) ∧ Sy I A Q L h') := fun er => by
      cases er
      refine (rsym_fin S z1 z2 a (e + 1) (by omega) he1).mono ?_
      rintro v h' ⟨rfl, S'⟩
      exact ⟨_, _, rfl, fun _ => ⟨rfl, rfl⟩, S'⟩
    refine Ev.ine (fun e1 => ?_) (fun e1 => ?_)
    · have e1' : letterB (nx (s.drop (e + 1)) 0) = false := by
        cases e2 : letterB (nx (s.drop (e + 1)) 0) with
        | false => rfl
        | true => exact absurd ((atZ1 _).2 e2) e1
      rw [e1'] at hm
      refine yt ?_
      exact fin (by simpa using hm)
    · have e1' : letterB (nx (s.drop (e + 1)) 0) = true := (atZ1 _).1 e1
      rw [if_pos e1'] at hm
      refine yj ?_
      refine Ev.call (nend_ok s hs (e + 1) he1 _) ?_
      rintro _ _ ⟨rfl, hh⟩
      rw [hh]
      clear hh
      have hnl := nameM_le (s.drop (e + 1))
      have hne := nameM_err (s.drop (e + 1))
      have hnl2 := nameM_len (s.drop (e + 1))
      rw [← hnl2] at hne ⊢
      have hdl : (s.drop (e + 1)).length = s.length - (e + 1) := by simp
      generalize hN : nameM (s.drop (e + 1)) = N at hm hnl hne ⊢
      refine Ev.call (rcol_ok s hs (e + 1 + N.2.2) (by omega) _) ?_
      rintro _ _ ⟨rfl, hh⟩
      rw [hh]
      clear hh
      have hdd : s.drop (e + 1 + N.2.2) = (s.drop (e + 1)).drop N.2.2 := by rw [List.drop_drop]
      cases e2 : colonM (s.drop (e + 1 + N.2.2)) with
      | false =>
        rw [← hdd, e2] at hm
        refine ao ?_; refine yt ?_
        exact fin (by simpa using hm)
      | true =>
        rw [← hdd, e2, if_pos rfl] at hm
        refine an ?_; refine yj ?_
        refine Ev.isub ?_
        rw [show ((e + 1 + N.2.2 : Nat) : Int) - ((e + 1 : Nat) : Int) = ((N.2.2 : Nat) : Int) by omega, wrapN _ (by omega)]
        refine Ev.igt (fun e3 => ?_) (fun e3 => ?_)
        · have e3' : 24 < N.2.2 := by simp at e3; omega
          rw [if_pos e3'] at hne
          rw [if_neg (by rw [hne]; decide)] at hm
          cases hm
          rw [hne]
          refine yt ?_; refine ws ?_; refine wt fun _ _ => ?_; refine ws ?_
          exact Ev.ret ⟨⟨6, [], 0, p0⟩, _, rfl, fun he => (by cases he), dp⟩
        · have e3' : ¬ 24 < N.2.2 := by simp at e3; omega
          rw [if_neg e3'] at hne
          rw [if_pos hne] at hm
          obtain ⟨res', hr, hm⟩ := Option.bind_eq_some_iff.1 hm
          cases hm
          refine yj ?_
          refine (ih (j + 1) (e + 1 + N.2.2) h _ res' S (by omega) (by omega) e2 (by rw [← hr, List.drop_drop, Nat.add_assoc (e + 1)])).mono ?_
          rintro v h'' ⟨t, en, a1, a2, a3⟩
          refine ⟨t, en, a1, fun he => ?_, a3⟩
          obtain ⟨b1, b2⟩ := a2 he
          have ee : e + 1 + N.2.2 + 1 + res'.2.2 = e + 1 + (res'.2.2 + (N.2.2 + 1)) := by omega
          rw [ee] at b1 b2
          exact ⟨b1, b2⟩

theorem rsym_ok {h : Hp} (S : Sy I A Q L h) (hs : s.length ≤ lim) {i : Nat} (hi : i < s.length) (f : Nat) (res : Int × List Nat × Int × Int × Nat)
    (hm : (if nx (s.drop i) 1 = 40 then some (7, [], 0, 0, 2) else (symbolM f ((s.drop i).drop 1)).bind fun r => some (6, r.1, 0, r.2.1, r.2.2 + 1)) = some res) :
    Ev (fun n => shD n 38 [.s s, .a (tc ⟨0, [], 0, (i : Int)⟩)] h) (KPost I A Q L res i) := by
  refine Ev.enter (fun n => enter38 n _ _ h) ?_
  unfold s38 s38a1
  have hs' := hs
  simp only [lim] at hs'
  have hdd : (s.drop i).drop 1 = s.drop (i + 1) := by rw [List.drop_drop]
  have hnx : nx (s.drop i) 1 = nx (s.drop (i + 1)) 0 := by simp [nx, List.getD, List.getElem?_drop]
  rw [hdd, hnx] at hm
  refine wb fun _ _ _ => ?_; refine wa fun _ _ _ => ?_; refine wf ?_; refine wl ?_
  rename_i b1 h1 S1 b2 h2 S2
  refine Ev.iadd ?_
  rw [addN 1 (by omega)]
  unfold s38a2
  refine Ev.lenS ?_
  have go : ¬ nx (s.drop (i + 1)) 0 = 40 → Ev (fun n => s38a3 (shD n) n (.s s) (.p b1 0) (.p b2 0) (.i .i64 ((i + 1 : Nat) : Int)) h2) (KPost I A Q L res i) := fun e0 => by
    rw [if_neg e0] at hm
    obtain ⟨r, hr, hm⟩ := Option.bind_eq_some_iff.1 hm
    cases hm
    obtain ⟨k1, k2⟩ := symbolM_take hr
    unfold s38a3
    refine wf ?_; refine wu fun _ _ => ?_
    rename_i h3 S3
    unfold s38a4
    refine Ev.call (at_ok s (i + 1) _) ?_
    rintro _ _ ⟨rfl, hh⟩
    rw [hh]
    clear hh
    unfold symbolM at hr
    obtain ⟨g1, g2⟩ := run_signs (s.drop (i + 1))
    have hdl : (s.drop (i + 1)).length = s.length - (i + 1) := by simp
    unfold s38a11
    refine Ev.ieq (fun e1 => ?_) (fun e1 => ?_)
    · have g3 := g1 e1
      rw [if_neg (by rw [g3]; split <;> decide)] at hr
      cases hr
      refine yt ?_
      unfold s38a12
      refine Ev.iadd ?_
      rw [addN 1 (by omega)]
      unfold s38a13
      refine Ev.call (at_ok s (i + 1 + 1) _) ?_
      rintro _ _ ⟨rfl, hh⟩
      rw [hh]
      clear hh
      have hd2 : s.drop (i + 1 + 1) = (s.drop (i + 1)).drop 1 := by rw [List.drop_drop]
      have hl0 := runN_le (inB signs) 2 (s.drop (i + 1))
      have fin : ∀ e, e = i + 1 + runN (inB signs) 2 (s.drop (i + 1)) → Ev (fun n => s38a14 (shD n) n (.s s) (.p b1 0) (.p b2 0) (.i .i64 ((i + 1 : Nat) : Int)) (.i .i64 (e : Int)) h3) (KPost I A Q L (6, (s.drop (i + 1)).take (runN (inB signs) 2 (s.drop (i + 1))), 0, 0, runN (inB signs) 2 (s.drop (i + 1)) + 1) i) := by
        intro e he
        unfold s38a14
        refine Ev.op (cutS (by omega) (by omega) _) ?_
        refine wf ?_; refine wu fun _ _ => ?_; refine ws ?_; refine wt fun _ _ => ?_; refine ws ?_
        refine Ev.ret ⟨⟨6, (s.take e).drop (i + 1), 0, (i : Int)⟩, (e : Int), rfl, fun _ => ⟨?_, ?_⟩, dp⟩
        · show (⟨6, (s.take e).drop (i + 1), 0, (i : Int)⟩ : Tok) = ⟨6, (s.drop (i + 1)).take _, 0, (i : Int)⟩
          rw [List.drop_take, he, Nat.add_sub_cancel_left]
        · show (e : Int) = ((i + (_ + 1) : Nat) : Int)
          rw [he]
          omega
      refine Ev.ieq (fun e2 => ?_) (fun e2 => ?_)
      · rw [if_pos (show atZ ((s.drop (i + 1)).drop 1) = 3 by rw [← hd2]; exact e2)] at g3
        refine yt ?_
        refine Ev.iadd ?_
        rw [addN 1 (by omega)]
        exact fin (i + 1 + 1 + 1) (by omega)
      · rw [if_neg (show ¬ atZ ((s.drop (i + 1)).drop 1) = 3 by rw [← hd2]; exact e2)] at g3
        refine yj ?_
        exact fin (i + 1 + 1) (by omega)
    · have g3 := g2 e1
      rw [if_pos g3] at hr
      refine yj ?_
      unfold s38a5
      refine Ev.call (at_ok s (i + 1) _) ?_
      rintro _ _ ⟨rfl, hh⟩
      rw [hh]
      clear hh
      refine Ev.ine (fun e2 => ?_) (fun e2 => ?_)
      · have e2' : letterB (nx (s.drop (i + 1)) 0) = false := by
          cases e3 : letterB (nx (s.drop (i + 1)) 0) with
          | false => rfl
          | true => exact absurd ((atZ1 _).2 e3) e2
        rw [e2'] at hr
        simp only [Bool.false_eq_true, if_false, Option.some.injEq] at hr
        subst hr
        refine yt ?_; refine ws ?_; refine wt fun _ _ => ?_; refine ws ?_
        exact Ev.ret ⟨⟨6, [], 0, (i : Int)⟩, _, rfl, fun he => (by cases he), dp⟩
      · have e2' : letterB (nx (s.drop (i + 1)) 0) = true := (atZ1 _).1 e2
        rw [if_pos e2'] at hr
        refine yj ?_
        unfold s38a6
        refine Ev.call (nend_ok s hs (i + 1) (by omega) _) ?_
        rintro _ _ ⟨rfl, hh⟩
        rw [hh]
        clear hh
        have hnl := nameM_le (s.drop (i + 1))
        have hne := nameM_err (s.drop (i + 1))
        have hnl2 := nameM_len (s.drop (i + 1))
        rw [← hnl2] at hne ⊢
        generalize hN : nameM (s.drop (i + 1)) = N at hr hnl hne ⊢
        unfold s38a7
        refine Ev.isub ?_
        rw [show ((i + 1 + N.2.2 : Nat) : Int) - ((i + 1 : Nat) : Int) = ((N.2.2 : Nat) : Int) by omega, wrapN _ (by omega)]
        refine Ev.igt (fun e3 => ?_) (fun e3 => ?_)
        · have e3' : 24 < N.2.2 := by simp at e3; omega
          rw [if_pos e3'] at hne
          rw [if_neg (by rw [hne]; decide)] at hr
          cases hr
          refine yt ?_; refine ws ?_; refine wt fun _ _ => ?_; refine ws ?_
          refine Ev.ret ⟨⟨6, [], 0, (i : Int)⟩, Int.ofNat 0, ?_, fun he => ?_, dp⟩
          · show _ = DV.t [_, _, DV.i .i64 N.2.1]
            rw [hne]; rfl
          · have he : N.2.1 = 0 := he
            rw [hne] at he
            cases he
        · have e3' : ¬ 24 < N.2.2 := by simp at e3; omega
          rw [if_neg e3'] at hne
          rw [if_pos hne] at hr
          refine yj ?_
          unfold s38a8 s38a10
          have hdc : s.drop (i + 1 + N.2.2) = (s.drop (i + 1)).drop N.2.2 := by rw [List.drop_drop]
          rw [← hdc] at hr
          cases e4 : colonM (s.drop (i + 1 + N.2.2)) with
          | true =>
            rw [e4, if_pos rfl] at hr
            obtain ⟨r', hr', hr⟩ := Option.bind_eq_some_iff.1 hr
            cases hr
            refine (rsym_loop (p0 := (i : Int)) hs rfl (by first | assumption | exact tc_ones _ | (repeat (first | exact ones_nil | refine ones_cons (by first | rfl | assumption | exact Fz.one (by assumption)) ?_))) (i + 1) f 0 (i + 1 + N.2.2) _ _ r' S3 (by omega) (by omega) e4 (by rw [← hr', List.drop_drop, Nat.add_assoc (i + 1)])).mono ?_
            rintro v h' ⟨t, en, a1, a2, a3⟩
            refine ⟨t, en, a1, fun he => ?_, a3⟩
            obtain ⟨c1, c2⟩ := a2 he
            refine ⟨?_, ?_⟩
            · rw [c1]
              show (⟨6, _, 0, (i : Int)⟩ : Tok) = ⟨6, r'.1, 0, (i : Int)⟩
              have := k2 he
              have this : r'.1 = _ := this
              rw [this, List.drop_take]
              congr 2
              show i + 1 + N.2.2 + 1 + r'.2.2 - (i + 1) = r'.2.2 + (N.2.2 + 1)
              omega
            · rw [c2]
              show ((i + 1 + N.2.2 + 1 + r'.2.2 : Nat) : Int) = ((i + (r'.2.2 + (N.2.2 + 1) + 1) : Nat) : Int)
              omega
          | false =>
            rw [e4] at hr
            simp only [Bool.false_eq_true, if_false, Option.some.injEq] at hr
            subst hr
            refine Ev.loop 0 (ll := fun n m => s38a10l (shD n) n m (.s s) (.p b1 0) (.p b2 0) (.i .i64 ((i + 1 : Nat) : Int)) (.i .i64 ((i + 1 + N.2.2 : Nat) : Int)) h3) (bb := fun n m => s38a10b (shD n) n (s38a10l (shD n) n m) (.s s) (.p b1 0) (.p b2 0) (.i .i64 ((i + 1 : Nat) : Int)) (.i .i64 ((i + 1 + N.2.2 : Nat) : Int)) h3) (fun _ _ => rfl) ?_
            unfold s38a10b
            refine Ev.call (rcol_ok s hs _ (by omega) h3) ?_
            rintro _ _ ⟨rfl, hh⟩
            rw [hh]
            clear hh
            rw [e4]
            refine yj ?_
            refine (rsym_fin (p0 := (i : Int)) S3 rfl (by first | assumption | exact tc_ones _ | (repeat (first | exact ones_nil | refine ones_cons (by first | rfl | assumption | exact Fz.one (by assumption)) ?_))) (i + 1) (i + 1 + N.2.2) (by omega) (by omega)).mono ?_
            rintro v h' ⟨rfl, S'⟩
            refine ⟨_, _, rfl, fun _ => ⟨?_, ?_⟩, S'⟩
            · show (⟨6, _, 0, (i : Int)⟩ : Tok) = ⟨6, N.1, 0, (i : Int)⟩
              have := k2 rfl
              have this : N.1 = _ := this
              rw [this, List.drop_take]
              congr 2
              show i + 1 + N.2.2 - (i + 1) = N.2.2
              omega
            · show ((i + 1 + N.2.2 : Nat) : Int) = ((i + (N.2.2 + 1) : Nat) : Int)
              omega
  refine Ev.ilt (fun e1 => ?_) (fun e1 => ?_)
  · have e1' : i + 1 < s.length := by omega
    have hn0 : nx (s.drop (i + 1)) 0 = s[i + 1] := by rw [List.drop_eq_getElem_cons e1']; rfl
    refine zt ?_; refine wm ?_; refine zt ?_; refine wm ?_; refine zt ?_
    refine Ev.op (idxS (c := s[i + 1]) (by simp [e1']) _) ?_
    refine zt ?_
    refine Ev.ieq (fun e2 => ?_) (fun e2 => ?_)
    · have e2' : nx (s.drop (i + 1)) 0 = 40 := by rw [hn0]; simp at e2; omega
      rw [if_pos e2'] at hm
      cases hm
      refine ap ?_; refine yt ?_; refine wf ?_; refine wu fun _ _ => ?_; refine ws ?_
      refine Ev.iadd ?_
      rw [addN 1 (by omega)]
      refine wt fun _ _ => ?_; refine ws ?_
      refine Ev.ret ⟨⟨7, [], 0, (i : Int)⟩, _, rfl, fun _ => ⟨rfl, rfl⟩, dp⟩
    · have G := go (by rw [hn0]; simp at e2; omega)
      exact G
  · have G := go (by rw [List.drop_eq_nil_of_le (by omega)]; simp [nx])
    exact G

end
end Go.Dd

/- Dd, part U4: plain: a source of at most 2000 bytes has tokens, good ones, or is refused. -/
set_option linter.unusedVariables false
set_option linter.unusedSimpArgs false
set_option maxRecDepth 100000
namespace Go.Dd

theorem textD : ∀ (f : Nat) (out u : List Nat), u.length < f → ∃ res, textM f out u = some res ∧ res.2.2 ≤ u.length ∧ (res.2.1 = 0 → 1 ≤ res.2.2 ∧ res.1.length ≤ out.length + u.length)
  | 0, out, u, h => by omega
  | f + 1, out, u, h => by
    have hl := tw_le textB u
    unfold textM
    by_cases h1 : (u.takeWhile textB).length = u.length
    · rw [if_pos h1]
      exact ⟨_, rfl, Nat.le_refl _, fun e => by cases e⟩
    · rw [if_neg h1]
      by_cases h2 : nx u ((u.takeWhile textB).length + 1) = 39
      · rw [if_pos h2]
        have h3 : (u.takeWhile textB).length + 1 < u.length := by
          apply Decidable.byContradiction
          intro hn
          rw [nx, List.getD, List.getElem?_eq_none (by omega)] at h2
          cases h2
        obtain ⟨res, a1, a2, a3⟩ := textD f (out ++ u.takeWhile textB ++ [39]) (u.drop ((u.takeWhile textB).length + 2)) (by simp; omega)
        rw [a1]
        simp at a2
        refine ⟨_, rfl, by show res.2.2 + _ ≤ _; omega, fun e => ?_⟩
        obtain ⟨b1, b2⟩ := a3 e
        simp at b2
        refine ⟨by show 1 ≤ res.2.2 + _; omega, ?_⟩
        show res.1.length ≤ _
        omega
      · rw [if_neg h2]
        refine ⟨_, rfl, by show _ + 1 ≤ _; omega, fun _ => ⟨by show 1 ≤ _ + 1; omega, ?_⟩⟩
        show (out ++ u.takeWhile textB).length ≤ _
        simp
        omega

theorem symLD : ∀ (f : Nat) (out u : List Nat), u.length < f → ∃ res, symL f out u = some res
  | 0, out, u, h => by omega
  | f + 1, out, u, h => by
    unfold symL
    split
    · split
      · rename_i h1 h2
        split
        · have hc := colon_lt h2
          simp at hc
          obtain ⟨res, a1⟩ := symLD f (out ++ ((nameM u).1 ++ [58])) (u.drop ((nameM u).2.2 + 1)) (by simp; omega)
          rw [a1]
          exact ⟨_, rfl⟩
        · exact ⟨_, rfl⟩
      · exact ⟨_, rfl⟩
    · exact ⟨_, rfl⟩

theorem name_pos {u : List Nat} (h : letterB (nx u 0) = true) : 1 ≤ (nameM u).2.2 := by
  rw [nameM_len]
  cases u with
  | nil => simp [nx, letterB] at h
  | cons c u =>
    have : nameB c = true := by
      have : letterB c = true := h
      simp [nameB, this]
    simp [this]

theorem symbolD {f : Nat} {u : List Nat} (h : u.length < f) : ∃ res, symbolM f u = some res := by
  unfold symbolM
  split
  · split
    · split
      · split
        · obtain ⟨res, a1⟩ := symLD f ((nameM u).1 ++ [58]) (u.drop ((nameM u).2.2 + 1)) (by simp; omega)
          rw [a1]
          exact ⟨_, rfl⟩
        · exact ⟨_, rfl⟩
      · exact ⟨_, rfl⟩
    · exact ⟨_, rfl⟩
  · exact ⟨_, rfl⟩

theorem run_pos {l : List Nat} {m : Nat} (hm : 1 ≤ m) {u : List Nat} (hu : u ≠ []) (h : inB l (nx u 0) = true) : 1 ≤ runN (inB l) m u := by
  obtain ⟨m, rfl⟩ : ∃ k, m = k + 1 := ⟨m - 1, by omega⟩
  cases u with
  | nil => exact absurd rfl hu
  | cons c u =>
    have : inB l c = true := h
    simp [runN, this]

/-- A token, or an error. -/
theorem tokenD {f : Nat} {u : List Nat} (hu : u ≠ []) (h : u.length < f) : ∃ res, tokenM f u = some res ∧ (res.2.2.2.1 = 0 → 1 ≤ res.2.2.2.2 ∧ res.2.2.2.2 ≤ u.length ∧ res.1 ≠ 0 ∧ res.2.1.length ≤ u.length) := by
  have hn := nameM_le u
  have hf := nameM_fit u
  have hpos : 1 ≤ u.length := by cases u with
    | nil => exact absurd rfl hu
    | cons => simp
  unfold tokenM
  by_cases h1 : letterB (nx u 0) = true
  · have hp := name_pos h1
    rw [if_pos h1]
    by_cases h2 : (nameM u).2.1 = 0
    · rw [if_pos h2]
      by_cases h3 : colonM (u.drop (nameM u).2.2) = true
      · rw [if_pos h3]
        have hc := colon_lt h3
        simp at hc
        refine ⟨_, rfl, fun _ => ⟨by show 1 ≤ _ + 1; omega, by show _ + 1 ≤ _; omega, by show (2 : Int) ≠ 0; decide, ?_⟩⟩
        show ((nameM u).1 ++ [58]).length ≤ _
        simp; omega
      · rw [if_neg h3]
        exact ⟨_, rfl, fun _ => ⟨hp, hn, by show (1 : Int) ≠ 0; decide, by show (nameM u).1.length ≤ _; omega⟩⟩
    · rw [if_neg h2]
      exact ⟨_, rfl, fun e => absurd e h2⟩
  · rw [if_neg h1]
    by_cases h2 : digitB (nx u 0) = true
    · rw [if_pos h2]
      have hl := tw_le digitB u
      refine ⟨_, rfl, fun _ => ⟨?_, hl, by show (4 : Int) ≠ 0; decide, by simp⟩⟩
      show 1 ≤ (u.takeWhile digitB).length
      cases u with
      | nil => exact absurd rfl hu
      | cons c u =>
        have : digitB c = true := h2
        simp [this]
    · rw [if_neg h2]
      by_cases h3 : nx u 0 = 39
      · rw [if_pos h3]
        obtain ⟨res, a1, a2, a3⟩ := textD f [] (u.drop 1) (by simp; omega)
        rw [a1]
        simp at a2
        refine ⟨_, rfl, fun e => ?_⟩
        obtain ⟨b1, b2⟩ := a3 e
        simp at b2
        exact ⟨by show 1 ≤ res.2.2 + 1; omega, by show res.2.2 + 1 ≤ _; omega, by show (5 : Int) ≠ 0; decide, by show res.1.length ≤ _; omega⟩
      · rw [if_neg h3]
        by_cases h4 : nx u 0 = 35
        · rw [if_pos h4]
          by_cases h5 : nx u 1 = 40
          · rw [if_pos h5]
            have : 1 < u.length := by
              apply Decidable.byContradiction
              intro hn
              rw [nx, List.getD, List.getElem?_eq_none (by omega)] at h5
              cases h5
            exact ⟨_, rfl, fun _ => ⟨by show 1 ≤ 2; omega, by show 2 ≤ _; omega, by show (7 : Int) ≠ 0; decide, by simp⟩⟩
          · rw [if_neg h5]
            obtain ⟨res, a1⟩ := symbolD (f := f) (u := u.drop 1) (by simp; omega)
            obtain ⟨b1, b2⟩ := symbolM_take a1
            rw [a1]
            simp at b1
            refine ⟨_, rfl, fun e => ⟨by show 1 ≤ res.2.2 + 1; omega, by show res.2.2 + 1 ≤ _; omega, by show (6 : Int) ≠ 0; decide, ?_⟩⟩
            show res.1.length ≤ _
            rw [b2 e]
            simp; omega
        · rw [if_neg h4]
          by_cases h5 : nx u 0 = 58 ∧ nx u 1 = 61
          · rw [if_pos h5]
            have : 1 < u.length := by
              apply Decidable.byContradiction
              intro hn
              have := h5.2
              rw [nx, List.getD, List.getElem?_eq_none (by omega)] at this
              cases this
            exact ⟨_, rfl, fun _ => ⟨by show 1 ≤ 2; omega, by show 2 ≤ _; omega, by show (9 : Int) ≠ 0; decide, by simp⟩⟩
          · rw [if_neg h5]
            by_cases h6 : nx u 0 = 58 ∧ letterB (nx u 1) = true
            · rw [if_pos h6]
              have n1 := nameM_le (u.drop 1)
              have n2 := nameM_fit (u.drop 1)
              rw [List.length_drop] at n1
              exact ⟨_, rfl, fun _ => ⟨by show 1 ≤ _ + 1; omega, by show _ + 1 ≤ _; omega, by show (8 : Int) ≠ 0; decide, by show (nameM (u.drop 1)).1.length ≤ _; omega⟩⟩
            · rw [if_neg h6]
              by_cases h7 : inB signs (nx u 0) = true
              · rw [if_pos h7]
                have r1 := run_pos (m := 2) (by omega) hu h7
                have r2 := runN_le (inB signs) 2 u
                refine ⟨_, rfl, fun _ => ⟨r1, r2, by show (3 : Int) ≠ 0; decide, ?_⟩⟩
                show (u.take _).length ≤ _
                simp; omega
              · rw [if_neg h7]
                by_cases h8 : inB marks (nx u 0) = true
                · rw [if_pos h8]
                  have r1 := run_pos (m := 1) (by omega) hu h8
                  have r2 := runN_le (inB marks) 1 u
                  refine ⟨_, rfl, fun _ => ⟨r1, r2, by show (10 : Int) ≠ 0; decide, ?_⟩⟩
                  show (u.take _).length ≤ _
                  simp; omega
                · rw [if_neg h8]
                  exact ⟨_, rfl, fun e => (by cases e)⟩

theorem toksD {g : Nat} {s : List Nat} (hg : s.length < g) (hs : s.length ≤ 10000) : ∀ (f i : Nat) (out : List Tok), i ≤ s.length → s.length < f + i → ∃ res, toksM g s f i out = some res ∧
    (res.2.2 = 0 → ∃ l e, res.1 = out ++ l ++ [e] ∧ e.kind = 0 ∧ e.text = [] ∧ (∀ t ∈ l, t.kind ≠ 0 ∧ t.text.length ≤ 10000) ∧ l.length + i ≤ s.length)
  | 0, i, out, hi, hf => by omega
  | f + 1, i, out, hi, hf => by
    unfold toksM
    have hle := tw_le (inB blanks) (s.drop i)
    have hdl : (s.drop i).length = s.length - i := by simp
    generalize hw : ((s.drop i).takeWhile (inB blanks)).length = w at hle
    by_cases h1 : s.length ≤ i + w
    · rw [if_pos h1]
      exact ⟨_, rfl, fun _ => ⟨[], _, by simp; rfl, rfl, rfl, by simp, by simp; omega⟩⟩
    · rw [if_neg h1]
      by_cases h2 : nx s (i + w) = 34
      · rw [if_pos h2]
        by_cases h3 : idxGo 34 (s.drop (i + w + 1)) 0 < 0
        · rw [if_pos h3]
          exact ⟨_, rfl, fun e => (by cases e)⟩
        · rw [if_neg h3]
          obtain ⟨k, k1, k2⟩ := idxGo_lt 34 _ _ h3
          rw [k2]
          simp at k1
          simp only [Nat.zero_add, Int.toNat_natCast]
          obtain ⟨res, a1, a2⟩ := toksD hg hs f (i + w + k + 2) out (by omega) (by omega)
          refine ⟨res, a1, fun e => ?_⟩
          obtain ⟨l, e', b1, b2, b3, b4, b5⟩ := a2 e
          exact ⟨l, e', b1, b2, b3, b4, by omega⟩
      · rw [if_neg h2]
        have hu : s.drop (i + w) ≠ [] := by
          intro h
          have := congrArg List.length h
          simp at this
          omega
        obtain ⟨rs, c1, c2⟩ := tokenD (f := g) hu (by simp; omega)
        rw [c1]
        simp only [Option.bind_some]
        by_cases h4 : rs.2.2.2.1 = 0
        · rw [if_pos h4]
          obtain ⟨d1, d2, d3, d4⟩ := c2 h4
          rw [if_neg (by omega)]
          simp at d2 d4
          obtain ⟨res, a1, a2⟩ := toksD hg hs f (i + w + rs.2.2.2.2) (out ++ [⟨rs.1, rs.2.1, rs.2.2.1, ((i + w : Nat) : Int)⟩]) (by omega) (by omega)
          refine ⟨res, a1, fun e => ?_⟩
          obtain ⟨l, e', b1, b2, b3, b4, b5⟩ := a2 e
          refine ⟨⟨rs.1, rs.2.1, rs.2.2.1, ((i + w : Nat) : Int)⟩ :: l, e', by rw [b1]; simp, b2, b3, ?_, by simp; omega⟩
          intro t ht
          rcases List.mem_cons.1 ht with rfl | ht
          · exact ⟨d3, by show rs.2.1.length ≤ _; omega⟩
          · exact b4 t ht
        · rw [if_neg h4]
          exact ⟨_, rfl, fun e => absurd e h4⟩

/-- The tokens of a source. -/
theorem lexD {s : List Nat} (hs : s.length ≤ 2000) : ∃ res, lexM 2001 2001 s = some res ∧ (res.2.2 = 0 → Good res.1 ∧ res.1.length ≤ 2001) := by
  unfold lexM
  rw [if_neg (by omega)]
  obtain ⟨res, a1, a2⟩ := toksD (g := 2001) (s := s) (by omega) (by omega) 2001 0 [] (by omega) (by omega)
  refine ⟨res, a1, fun e => ?_⟩
  obtain ⟨l, e', b1, b2, b3, b4, b5⟩ := a2 e
  rw [b1]
  simp only [List.nil_append]
  refine ⟨⟨l, e', rfl, b2, fun t ht => (b4 t ht).1, fun t ht => ?_⟩, by simp; omega⟩
  rcases List.mem_append.1 ht with ht | ht
  · exact (b4 t ht).2
  · simp at ht
    subst ht
    rw [b3]; simp

end Go.Dd

/- Dd, part B2: plain: a token is the same, whatever else stands behind it. -/
set_option linter.unusedVariables false
set_option linter.unusedSimpArgs false
set_option maxRecDepth 100000
namespace Go.Dd

/-- What a token begins with is no blank, and no remark. -/
theorem token_head {f : Nat} {u : List Nat} {rs : Int × List Nat × Int × Int × Nat} (h : tokenM f u = some rs) (he : rs.2.2.2.1 = 0) : inB blanks (nx u 0) = false ∧ nx u 0 ≠ 34 ∧ (rs.1 = 4 → digitB (nx u 0) = true) := by
  have no : (inB blanks (nx u 0) = true ∨ nx u 0 = 34) → False := by
    intro hh
    have hc : nx u 0 = 9 ∨ nx u 0 = 10 ∨ nx u 0 = 13 ∨ nx u 0 = 32 ∨ nx u 0 = 34 := by
      rcases hh with hh | hh
      · simp [inB, blanks] at hh; omega
      · omega
    unfold tokenM at h
    generalize hx : nx u 0 = x at *
    rcases hc with rfl | rfl | rfl | rfl | rfl <;>
    · simp (config := { decide := true }) only [if_false, false_and] at h
      simp [inB, signs, marks, letterB, digitB] at h
      rw [← h] at he
      cases he
  refine ⟨?_, fun e => no (.inr e), fun e => ?_⟩
  · cases e : inB blanks (nx u 0) with
    | false => rfl
    | true => exact (no (.inl e)).elim
  · apply Decidable.byContradiction
    intro hd
    unfold tokenM at h
    rw [if_neg hd] at h
    repeat' split at h
    all_goals first
      | (cases h; simp at e)
      | (obtain ⟨r, e1, e2⟩ := Option.bind_eq_some_iff.1 h; cases e2; simp at e)

end Go.Dd

/- Dd, part B3: plain: a source with blanks and remarks ahead of its tokens has the same tokens. -/
set_option linter.unusedVariables false
set_option linter.unusedSimpArgs false
set_option maxRecDepth 100000
namespace Go.Dd

/-- Blanks and remarks. -/
inductive Gap : List Nat → Prop
  | nil : Gap []
  | blank (c : Nat) (w : List Nat) : inB blanks c = true → Gap w → Gap (c :: w)
  | rem (r w : List Nat) : (∀ c ∈ r, c ≠ 34) → Gap w → Gap (34 :: (r ++ 34 :: w))

theorem Gap.app {a b : List Nat} (h : Gap a) (k : Gap b) : Gap (a ++ b) := by
  induction h with
  | nil => exact k
  | blank c w hc _ ih => exact .blank c _ hc ih
  | rem r w hr _ ih => simpa using Gap.rem r (w ++ b) hr ih

/-- A text, and its tokens, the first byte at a place. -/
inductive Lx (g : Nat) : List Nat → Nat → List Tok → Prop
  | fin (w : List Nat) (p : Nat) : Gap w → Lx g w p [⟨0, [], 0, ((p + w.length : Nat) : Int)⟩]
  | tok (w u : List Nat) (p k : Nat) (rs : Int × List Nat × Int × Int × Nat) (l : List Tok) : Gap w → tokenM g u = some rs → rs.2.2.2.1 = 0 → rs.2.2.2.2 = k → 1 ≤ k → k ≤ u.length → rs.1 ≠ 0 →
      Lx g (u.drop k) (p + w.length + k) l → Lx g (w ++ u) p (⟨rs.1, rs.2.1, rs.2.2.1, ((p + w.length : Nat) : Int)⟩ :: l)

theorem Lx.gap {g : Nat} {u : List Nat} {p : Nat} {l : List Tok} {w : List Nat} (h : Lx g u (p + w.length) l) (k : Gap w) : Lx g (w ++ u) p l := by
  generalize hp : p + w.length = q at h
  cases h with
  | fin _ _ g' =>
    have := Lx.fin (g := g) (w ++ u) p (k.app g')
    rw [List.length_append, ← Nat.add_assoc, hp] at this
    exact this
  | tok w' u _ k' rs l g' h1 h2 h3 h4 h5 h6 h7 =>
    have := Lx.tok (g := g) (w ++ w') u p k' rs l (k.app g') h1 h2 h3 h4 h5 h6 (by rw [List.length_append, ← Nat.add_assoc, hp]; exact h7)
    rw [List.length_append, ← Nat.add_assoc, hp, List.append_assoc] at this
    exact this

theorem drop_mid (r v : List Nat) (c : Nat) : (r ++ c :: v).drop (r.length + 1) = v := by
  rw [show r.length + 1 = (r ++ [c]).length by simp, show r ++ c :: v = (r ++ [c]) ++ v by simp, List.drop_left]

theorem gap_blanks : ∀ (u : List Nat), Gap (u.takeWhile (inB blanks))
  | [] => .nil
  | c :: u => by
    cases e : inB blanks c with
    | false => simp [e]; exact .nil
    | true => simp [e]; exact .blank c _ e (gap_blanks u)

theorem idx_split : ∀ (u : List Nat) (i k : Nat), idxGo 34 u i = ((i + k : Nat) : Int) → ∃ r w, u = r ++ 34 :: w ∧ r.length = k ∧ ∀ c ∈ r, c ≠ 34
  | [], i, k, h => by
    have : idxGo 34 [] i = -1 := rfl
    omega
  | c :: u, i, k, h => by
    have e : idxGo 34 (c :: u) i = bif Nat.beq c 34 then Int.ofNat i else idxGo 34 u (i + 1) := rfl
    cases hc : Nat.beq c 34 with
    | true =>
      rw [e, hc] at h
      have : c = 34 := Nat.eq_of_beq_eq_true hc
      subst this
      have h : (i : Int) = ((i + k : Nat) : Int) := h
      exact ⟨[], u, rfl, by simp; omega, by simp⟩
    | false =>
      rw [e, hc] at h
      have h : idxGo 34 u (i + 1) = ((i + k : Nat) : Int) := h
      have hne : c ≠ 34 := fun e2 => by rw [e2] at hc; cases hc
      have hk : 1 ≤ k := by
        apply Decidable.byContradiction
        intro hn
        have hge := idxGo_lt 34 u (i + 1) (by omega)
        obtain ⟨k', h1, h2⟩ := hge
        omega
      obtain ⟨r, w, a, b, d⟩ := idx_split u (i + 1) (k - 1) (by rw [h]; congr 1; omega)
      refine ⟨c :: r, w, by rw [a]; rfl, by simp [b]; omega, fun x hx => ?_⟩
      rcases List.mem_cons.1 hx with rfl | hx
      · exact hne
      · exact d x hx

theorem tw_drop (so : Nat → Bool) (u : List Nat) : u = u.takeWhile so ++ u.drop (u.takeWhile so).length := by
  induction u with
  | nil => rfl
  | cons c u ih =>
    cases e : so c with
    | false => simp [e]
    | true =>
      simp [e]
      exact ih

/-- What the lexer says is a text and its tokens. -/
theorem toks_lx {g : Nat} {s : List Nat} (hg : s.length < g) : ∀ (f i : Nat) (out : List Tok) (res : List Tok × Int × Int), i ≤ s.length → toksM g s f i out = some res → res.2.2 = 0 → ∃ l, res = (out ++ l, 0, 0) ∧ Lx g (s.drop i) i l
  | 0, i, out, res, hi, h => by cases h
  | f + 1, i, out, res, hi, h => by
    intro he
    have hle := tw_le (inB blanks) (s.drop i)
    have hdl : (s.drop i).length = s.length - i := by simp
    have hsp := tw_drop (inB blanks) (s.drop i)
    have hgap := gap_blanks (s.drop i)
    unfold toksM at h
    generalize hw : (s.drop i).takeWhile (inB blanks) = w at *
    rw [List.drop_drop] at hsp
    by_cases h1 : s.length ≤ i + w.length
    · rw [if_pos h1] at h
      cases h
      refine ⟨_, rfl, ?_⟩
      rw [List.drop_eq_nil_of_le h1, List.append_nil] at hsp
      rw [hsp, show s.length = i + w.length by omega]
      exact .fin w i hgap
    · rw [if_neg h1] at h
      by_cases h2 : nx s (i + w.length) = 34
      · rw [if_pos h2] at h
        by_cases h3 : idxGo 34 (s.drop (i + w.length + 1)) 0 < 0
        · rw [if_pos h3] at h
          cases h
          cases he
        · rw [if_neg h3] at h
          obtain ⟨k, k1, k2⟩ := idxGo_lt 34 _ _ h3
          obtain ⟨r, w', a1, a2, a3⟩ := idx_split _ 0 k k2
          rw [k2] at h
          simp only [Nat.zero_add, Int.toNat_natCast] at h
          simp at k1
          obtain ⟨l, b1, b2⟩ := toks_lx hg f _ out res (by omega) h he
          refine ⟨l, b1, ?_⟩
          rw [hsp]
          have hd : s.drop (i + w.length) = 34 :: (r ++ 34 :: w') := by
            rw [← a1]
            have hlt : i + w.length < s.length := by omega
            rw [List.drop_eq_getElem_cons hlt]
            congr 1
            rw [nx, List.getD, List.getElem?_eq_getElem hlt] at h2
            exact h2
          have hd2 : s.drop (i + w.length + k + 2) = w' := by
            rw [show i + w.length + k + 2 = (i + w.length) + (k + 2) by omega, ← List.drop_drop, hd]
            rw [show k + 2 = (k + 1) + 1 by omega, List.drop_succ_cons, ← a2, drop_mid]
          rw [hd2] at b2
          rw [hd]
          have := Lx.gap (w := w ++ 34 :: (r ++ [34])) (p := i) (u := w') (by
            have e : i + (w ++ 34 :: (r ++ [34])).length = i + w.length + k + 2 := by simp; omega
            rw [e]; exact b2) (hgap.app (by simpa using Gap.rem r [] a3 .nil))
          simpa using this
      · rw [if_neg h2] at h
        obtain ⟨rs, c1, c2⟩ := Option.bind_eq_some_iff.1 h
        have hu : s.drop (i + w.length) ≠ [] := by
          intro h
          have := congrArg List.length h
          simp at this
          omega
        obtain ⟨rs', d1, d2⟩ := tokenD (f := g) hu (by simp; omega)
        rw [c1] at d1
        cases d1
        by_cases h4 : rs.2.2.2.1 = 0
        · rw [if_pos h4] at c2
          obtain ⟨e1, e2, e3, e4⟩ := d2 h4
          rw [if_neg (by omega)] at c2
          simp at e2
          obtain ⟨l, b1, b2⟩ := toks_lx hg f _ _ res (by omega) c2 he
          refine ⟨⟨rs.1, rs.2.1, rs.2.2.1, ((i + w.length : Nat) : Int)⟩ :: l, by rw [b1]; simp, ?_⟩
          rw [hsp]
          refine .tok w _ i _ rs l hgap c1 h4 rfl e1 (by simp; omega) e3 ?_
          rw [List.drop_drop]
          exact b2
        · rw [if_neg h4] at c2
          cases c2
          exact absurd he h4

/-- A gap is skipped. -/
theorem gap_skip {g : Nat} {s : List Nat} {out : List Tok} {X : List Tok × Int × Int} {u w : List Nat} (hw : Gap w) : ∀ (i f : Nat), s.drop i = w ++ u → i ≤ s.length → (∀ f, u.length < f → toksM g s f (i + w.length) out = some X) → (w ++ u).length < f → toksM g s f i out = some X := by
  induction hw with
  | nil => intro i f hd hi H hf; exact H f (by simpa using hf)
  | blank c w hc _ ih =>
    intro i f hd hi H hf
    obtain ⟨f, rfl⟩ : ∃ q, f = q + 1 := ⟨f - 1, by simp at hf; omega⟩
    have hd' : s.drop (i + 1) = w ++ u := by
      have := congrArg (List.drop 1) hd
      simpa [List.drop_drop] using this
    have hi' : i + 1 ≤ s.length := by
      have := congrArg List.length hd
      simp at this
      omega
    have := ih (i + 1) (f + 1) hd' hi' (fun f hf => by
      have := H f hf
      rw [List.length_cons] at this
      rw [show i + 1 + w.length = i + (w.length + 1) by omega]
      exact this) (by simp at hf ⊢; omega)
    rw [← this]
    have e : ((s.drop i).takeWhile (inB blanks)).length = ((s.drop (i + 1)).takeWhile (inB blanks)).length + 1 := by
      rw [hd, hd']; simp [hc]
    unfold toksM
    rw [e, show i + (((s.drop (i + 1)).takeWhile (inB blanks)).length + 1) = i + 1 + ((s.drop (i + 1)).takeWhile (inB blanks)).length by omega]
  | rem r w hr _ ih =>
    intro i f hd hi H hf
    obtain ⟨f, rfl⟩ : ∃ q, f = q + 1 := ⟨f - 1, by simp at hf; omega⟩
    have hd' : s.drop (i + 1) = r ++ 34 :: (w ++ u) := by
      have := congrArg (List.drop 1) hd
      simpa [List.drop_drop] using this
    have hd2 : s.drop (i + r.length + 2) = w ++ u := by
      have := congrArg (List.drop (r.length + 1)) hd'
      rw [List.drop_drop, drop_mid] at this
      rw [show i + r.length + 2 = i + 1 + (r.length + 1) by omega]
      exact this
    have hl := congrArg List.length hd
    simp at hl hf
    have hidx : ∀ (r : List Nat) (v : List Nat) (j : Nat), (∀ c ∈ r, c ≠ 34) → idxGo 34 (r ++ 34 :: v) j = ((j + r.length : Nat) : Int) := by
      intro r
      induction r with
      | nil => intro v j _; rfl
      | cons c r ih =>
        intro v j hc
        have hne : Nat.beq c 34 = false := by
          cases e : Nat.beq c 34 with
          | false => rfl
          | true => exact absurd (Nat.eq_of_beq_eq_true e) (hc c (by simp))
        show (bif Nat.beq c 34 then Int.ofNat j else idxGo 34 (r ++ 34 :: v) (j + 1)) = _
        rw [hne]
        show idxGo 34 (r ++ 34 :: v) (j + 1) = _
        rw [ih v (j + 1) (fun x hx => hc x (by simp [hx]))]
        congr 1
        simp; omega
    unfold toksM
    have e : (s.drop i).takeWhile (inB blanks) = [] := by
      rw [hd]
      have : inB blanks 34 = false := by decide
      simp [this]
    rw [e]
    simp only [List.length_nil, Nat.add_zero]
    rw [if_neg (by omega)]
    have h34 : nx s i = 34 := by
      have : s[i]? = some 34 := by
        have := congrArg (fun l => l[0]?) hd
        simpa using this
      rw [nx, List.getD, this]; rfl
    have hx := hidx r (w ++ u) 0 hr
    rw [Nat.zero_add] at hx
    rw [if_pos h34, hd', if_neg (by rw [hx]; omega), hx, Int.toNat_natCast]
    refine ih (i + r.length + 2) f hd2 (by omega) (fun f hf => ?_) (by simp; omega)
    have := H f hf
    rw [show i + r.length + 2 + w.length = i + (34 :: (r ++ 34 :: w)).length by simp; omega]
    exact this

/-- A text and its tokens: the lexer says so. -/
theorem lx_toks {g : Nat} {s : List Nat} : ∀ (l : List Tok) (u : List Nat) (i f : Nat) (out : List Tok), Lx g u i l → s.drop i = u → i ≤ s.length → u.length < f → toksM g s f i out = some (out ++ l, 0, 0) := by
  intro l
  induction l with
  | nil => intro u i f out h; cases h
  | cons t l ih =>
    intro u i f out h hd hi hf
    cases h with
    | fin _ _ hw =>
      refine gap_skip (u := []) hw i f (by simpa using hd) hi (fun f hf => ?_) (by simpa using hf)
      obtain ⟨f, rfl⟩ : ∃ q, f = q + 1 := ⟨f - 1, by omega⟩
      have hl := congrArg List.length hd
      simp at hl
      unfold toksM
      rw [if_pos (by omega), show s.length = i + u.length by omega]
    | tok w u _ k rs l hw h1 h2 h3 h4 h5 h6 h7 =>
      refine gap_skip (u := u) hw i f hd hi (fun f hf => ?_) hf
      obtain ⟨f, rfl⟩ : ∃ q, f = q + 1 := ⟨f - 1, by omega⟩
      have hl := congrArg List.length hd
      simp at hl
      have hd' : s.drop (i + w.length) = u := by
        rw [← List.drop_drop, hd]; simp
      obtain ⟨q1, q2, _⟩ := token_head h1 h2
      have hne : u ≠ [] := by
        intro e; rw [e] at h5; simp at h5; omega
      obtain ⟨c, u', rfl⟩ : ∃ c u', u = c :: u' := by cases u with
        | nil => exact absurd rfl hne
        | cons c u' => exact ⟨c, u', rfl⟩
      have q1 : inB blanks c = false := q1
      have q2 : c ≠ 34 := q2
      unfold toksM
      rw [hd', show (c :: u').takeWhile (inB blanks) = [] by simp [q1]]
      simp only [List.length_nil, Nat.add_zero]
      have hx : nx s (i + w.length) = c := by
        have : s[i + w.length]? = some c := by
          have := congrArg (fun l => l[0]?) hd'
          simpa using this
        rw [nx, List.getD, this]; rfl
      simp at hl h5
      rw [if_neg (by omega), hx, if_neg q2, hd', h1]
      simp only [Option.bind_some]
      rw [if_pos h2, if_neg (by rw [h3]; simp; omega), h3]
      subst h3
      rw [ih (((c :: u').drop rs.2.2.2.2)) (i + w.length + rs.2.2.2.2) f (out ++ [(⟨rs.1, rs.2.1, rs.2.2.1, ((i + w.length : Nat) : Int)⟩ : Tok)]) h7 (by rw [← List.drop_drop, hd']) (by omega) (by simp at hf ⊢; omega)]
      simp

/-! ### Blanks and remarks put in -/

theorem w64_small {n : Nat} (h : n ≤ 1000000) : w64 ((n : Int) + 1) = ((n + 1 : Nat) : Int) := by
  unfold w64
  rw [wrap64s _ (by omega) (by omega)]
  omega

end Go.Dd

/- Dd, part T19: the document's lexer: a token, all tokens: they are the program's. -/
set_option linter.unusedVariables false
set_option linter.unusedSimpArgs false
set_option maxRecDepth 100000
namespace Go.Dd
open Go.Proofs

theorem atZ2 (u : List Nat) : atZ u = 2 ↔ ∃ c v, u = c :: v ∧ digitB c = true := by
  cases u with
  | nil => simp [atZ]
  | cons c u =>
    have := kind2 c
    constructor
    · intro h
      exact ⟨c, u, rfl, this.1 (by simp only [atZ] at h; omega)⟩
    · rintro ⟨c', v, e, h⟩
      cases e
      simp only [atZ]
      rw [this.2 h]; rfl

/-- One digit more. -/
theorem numGo_cons (n : Int) (c : Nat) (w : List Nat) (h0 : 0 ≤ n) (hn : n ≤ 1152921504606846976) (hc : digitB c = true) :
    numGo n (c :: w) = if 1152921504606846976 < 10 * n + ((c : Int) - 48) then (0, 2) else numGo (10 * n + ((c : Int) - 48)) w := by
  simp [digitB] at hc
  have e0 : numGo n (c :: w) = if 115292150460684697 < n then (0, 2) else if 1152921504606846976 < n * 10 + ((c : Int) - 48) then (0, 2) else numGo (n * 10 + ((c : Int) - 48)) w := rfl
  rw [e0]
  have e : n * 10 + ((c : Int) - 48) = 10 * n + ((c : Int) - 48) := by omega
  rw [e]
  by_cases h1 : (115292150460684697 : Int) < n
  · rw [if_pos h1, if_pos (by omega)]
  · rw [if_neg h1]

section
variable {I : Im} {A Q L : Ls} {s : List Nat} {b4 b7 : Pos} {z : List DV}

theorem rnum_loop (hs : s.length ≤ lim) (z1 : z.length = 4) (z2 : ∀ v ∈ z, v.one = true) {p0 : Int} : ∀ (u : List Nat) (j i : Nat) (h : Hp) (x : Int), s.drop i = u → i ≤ s.length → 0 ≤ x → x ≤ 1152921504606846976 →
    Sy I A Q ((b7, some (.row .ex [.i .i64 4, .s [], .i .i64 x, .i .i64 p0])) :: (b4, some (.row .ex z)) :: L) h →
    Ev (fun n => s20a16l (shD n) n (n - j) (.s s) (.i .i64 (i : Int)) (.p b4 0) (.p b7 0) h)
      (fun v h' => ∃ t en, v = .t [.a (tc t), .i .i64 en, .i .i64 (numGo x (u.takeWhile digitB)).2] ∧ ((numGo x (u.takeWhile digitB)).2 = 0 → t = ⟨4, [], (numGo x (u.takeWhile digitB)).1, p0⟩ ∧ en = ((i + (u.takeWhile digitB).length : Nat) : Int)) ∧ Sy I A Q L h') := by
  intro u
  have hs' := hs
  simp only [lim] at hs'
  induction u with
  | nil =>
    intro j i h x hu hi h0 h1 S
    refine Ev.loop j (ll := fun n m => s20a16l (shD n) n m (.s s) (.i .i64 (i : Int)) (.p b4 0) (.p b7 0) h) (bb := fun n m => s20a16b (shD n) n (s20a16l (shD n) n m) (.s s) (.i .i64 (i : Int)) (.p b4 0) (.p b7 0) h) (fun _ _ => rfl) ?_
    unfold s20a16b s20a15
    refine Ev.call (at_ok s i h) ?_
    rintro _ _ ⟨rfl, hh⟩
    rw [hh, hu]
    clear hh
    refine Ev.ieq (fun e1 => absurd e1 (by decide)) (fun e1 => ?_)
    refine yj ?_; refine ws ?_; refine wt fun _ _ => ?_; refine ws ?_
    exact Ev.ret ⟨⟨4, [], x, p0⟩, _, rfl, fun _ => ⟨rfl, rfl⟩, dp⟩
  | cons c u ih =>
    intro j i h x hu hi h0 h1 S
    have hlt : i < s.length := by
      have := congrArg List.length hu
      simp at this
      omega
    have hu' : s.drop (i + 1) = u := by rw [← List.drop_drop, hu]; rfl
    have hc : s[i] = c := by
      rw [List.drop_eq_getElem_cons hlt] at hu
      exact (List.cons.inj hu).1
    refine Ev.loop j (ll := fun n m => s20a16l (shD n) n m (.s s) (.i .i64 (i : Int)) (.p b4 0) (.p b7 0) h) (bb := fun n m => s20a16b (shD n) n (s20a16l (shD n) n m) (.s s) (.i .i64 (i : Int)) (.p b4 0) (.p b7 0) h) (fun _ _ => rfl) ?_
    unfold s20a16b s20a15
    refine Ev.call (at_ok s i h) ?_
    rintro _ _ ⟨rfl, hh⟩
    rw [hh, hu]
    clear hh
    refine Ev.ieq (fun e1 => ?_) (fun e1 => ?_)
    · obtain ⟨c', v', e, hd⟩ := (atZ2 _).1 e1
      cases e
      have hd' := hd
      simp [digitB] at hd'
      have tw : (c :: u).takeWhile digitB = c :: u.takeWhile digitB := by simp [hd]
      rw [tw, numGo_cons x c _ h0 h1 hd]
      refine yt ?_
      refine Ev.op (idxS (c := c) (by simp [hlt, hc]) _) ?_
      refine Ev.isub ?_
      have a2 : IntKind.u8.wrap (Int.ofNat c - Int.ofNat 48) = (c : Int) - 48 := by
        show IntKind.u8.wrap ((c : Int) - 48) = _
        unfold IntKind.wrap
        simp [IntKind.bits, IntKind.signed, IntKind.min, IntKind.max]
        omega
      have a3 : ∀ h, pConvI .i64 (.i .u8 ((c : Int) - 48)) h = some (.i .i64 ((c : Int) - 48), h) := fun h => by
        show some (DV.i .i64 (IntKind.i64.wrap ((c : Int) - 48)), h) = _
        rw [wrap64s _ (by omega) (by omega)]
      rw [a2]
      refine Ev.op (a3 _) ?_
      refine wf ?_; refine wl ?_
      refine Ev.isub ?_
      rw [wrap64s (Int.ofNat 1152921504606846976 - ((c : Int) - 48)) (by show -9223372036854775808 ≤ (1152921504606846976 : Int) - ((c : Int) - 48); omega) (by show (1152921504606846976 : Int) - ((c : Int) - 48) ≤ _; omega)]
      have a4 : ∀ h, pInt .quo (.i .i64 (Int.ofNat 1152921504606846976 - ((c : Int) - 48))) (.i .i64 (Int.ofNat 10)) h = some (.i .i64 (((1152921504606846976 : Int) - ((c : Int) - 48)) / 10), h) := fun h => by
        refine pInt_eq .quo _ ?_
        show (if Int.ofNat 10 = 0 then none else some (DV.i .i64 (IntKind.i64.wrap ((Int.ofNat 1152921504606846976 - ((c : Int) - 48)).tdiv (Int.ofNat 10))))) = _
        rw [if_neg (by decide)]
        have e5 : (Int.ofNat 1152921504606846976 - ((c : Int) - 48)).tdiv (Int.ofNat 10) = ((1152921504606846976 : Int) - ((c : Int) - 48)) / 10 := by
          show ((1152921504606846976 : Int) - ((c : Int) - 48)).tdiv 10 = _
          rw [Int.tdiv_eq_ediv_of_nonneg (by omega)]
        rw [e5, wrap64s _ (by omega) (by omega)]
      refine Ev.op (a4 _) ?_
      refine Ev.igt (fun e2 => ?_) (fun e2 => ?_)
      · rw [if_pos (by omega)]
        refine yt ?_; refine ws ?_; refine wt fun _ _ => ?_; refine ws ?_
        exact Ev.ret ⟨⟨4, [], x, p0⟩, _, rfl, fun he => (by cases he), dp⟩
      · rw [if_neg (by omega)]
        refine yj ?_; refine wf ?_; refine wl ?_
        refine Ev.imul ?_
        rw [wrap64s (Int.ofNat 10 * x) (by show -9223372036854775808 ≤ 10 * x; omega) (by show 10 * x ≤ _; omega)]
        refine Ev.iadd ?_
        rw [wrap64s (Int.ofNat 10 * x + ((c : Int) - 48)) (by show -9223372036854775808 ≤ 10 * x + ((c : Int) - 48); omega) (by show 10 * x + ((c : Int) - 48) ≤ _; omega)]
        refine wf ?_; refine wu fun _ _ => ?_
        refine Ev.iadd ?_
        rw [addN 1 (by omega)]
        refine (ih (j + 1) (i + 1) _ (10 * x + ((c : Int) - 48)) hu' (by omega) (by omega) (by omega) (by assumption)).mono ?_
        rintro v h' ⟨t, en, b1, b2, b3⟩
        refine ⟨t, en, b1, fun he => ?_, b3⟩
        obtain ⟨d1, d2⟩ := b2 he
        refine ⟨d1, ?_⟩
        rw [d2]
        simp only [List.length_cons]
        omega
    · have hd : digitB c = false := by
        cases e : digitB c with
        | false => rfl
        | true => exact absurd ((atZ2 _).2 ⟨c, u, rfl, e⟩) e1
      have tw : (c :: u).takeWhile digitB = [] := by simp [hd]
      rw [tw]
      refine yj ?_; refine ws ?_; refine wt fun _ _ => ?_; refine ws ?_
      exact Ev.ret ⟨⟨4, [], x, p0⟩, _, rfl, fun _ => ⟨rfl, rfl⟩, dp⟩

theorem rtok_ok {h : Hp} (S : Sy I A Q L h) (hs : s.length ≤ lim) {i : Nat} (hi : i < s.length) (f : Nat) (res : Int × List Nat × Int × Int × Nat) (hm : tokenM f (s.drop i) = some res) :
    Ev (fun n => shD n 20 [.s s, .i .i64 (i : Int)] h) (KPost I A Q L res i) := by
  refine Ev.enter (fun n => enter20 n _ _ h) ?_
  unfold tokenM at hm
  unfold s20 s20a1
  refine wa fun _ _ _ => ?_; refine wd ?_; refine wa fun _ _ _ => ?_; refine wt fun _ _ => ?_
  rename_i b4 h4 S4 b7 h7 S7 h0 S0
  unfold s20a2
  have hd : (s.drop i).length = s.length - i := by simp
  have hs' := hs
  simp only [lim] at hs'
  have hcd : s.drop i = s[i] :: s.drop (i + 1) := List.drop_eq_getElem_cons hi
  have hn0 : nx (s.drop i) 0 = s[i] := by rw [hcd]; rfl
  have hat : atZ (s.drop i) = (kindN s[i] : Int) := by rw [hcd]; rfl
  have hdd1 : s.drop (i + 1) = (s.drop i).drop 1 := by rw [List.drop_drop]
  have hidx : s[i]? = some s[i] := by simp [hi]
  refine Ev.call (at_ok s i h0) ?_
  rintro _ _ ⟨rfl, hh⟩
  rw [hh, hat]
  clear hh
  unfold s20a3
  refine Ev.ieq (fun e1 => ?_) (fun e1 => ?_)
  · have e1' : letterB s[i] = true := (kind1 _).1 (by simp at e1; omega)
    rw [if_pos (by rw [hn0]; exact e1')] at hm
    unfold s20a17
    refine yt ?_
    unfold s20a18
    refine Ev.call (nend_ok s hs i (by omega) _) ?_
    rintro _ _ ⟨rfl, hh⟩
    rw [hh]
    clear hh
    have hnl := nameM_le (s.drop i)
    have hne := nameM_err (s.drop i)
    have hnt := nameM_take (u := s.drop i)
    have hnl2 := nameM_len (s.drop i)
    rw [← hnl2] at hne ⊢
    generalize hN : nameM (s.drop i) = N at hm hnl hne hnt ⊢
    unfold s20a19
    refine Ev.isub ?_
    rw [show ((i + N.2.2 : Nat) : Int) - (i : Int) = ((N.2.2 : Nat) : Int) by omega, wrapN _ (by omega)]
    refine Ev.igt (fun e3 => ?_) (fun e3 => ?_)
    · have e3' : 24 < N.2.2 := by simp at e3; omega
      rw [if_pos e3'] at hne
      rw [if_neg (by rw [hne]; decide)] at hm
      cases hm
      refine yt ?_; refine ws ?_; refine wt fun _ _ => ?_; refine ws ?_
      refine Ev.ret ⟨⟨0, [], 0, (i : Int)⟩, Int.ofNat 0, ?_, fun he => ?_, dp⟩
      · show _ = DV.t [_, _, DV.i .i64 N.2.1]
        rw [hne]; rfl
      · have he : N.2.1 = 0 := he
        rw [hne] at he
        cases he
    · have e3' : ¬ 24 < N.2.2 := by simp at e3; omega
      rw [if_neg e3'] at hne
      rw [if_pos hne] at hm
      refine yj ?_
      unfold s20a20
      refine wf ?_; refine wu fun _ _ => ?_
      unfold s20a21
      refine Ev.call (rcol_ok s hs (i + N.2.2) (by omega) _) ?_
      rintro _ _ ⟨rfl, hh⟩
      rw [hh]
      clear hh
      have hdd : s.drop (i + N.2.2) = (s.drop i).drop N.2.2 := by rw [List.drop_drop]
      rw [← hdd] at hm
      cases e4 : colonM (s.drop (i + N.2.2)) with
      | true =>
        rw [e4, if_pos rfl] at hm
        cases hm
        have hcl := colon_lt e4
        have hcl' : i + N.2.2 + 1 ≤ s.length := by simp at hcl; omega
        refine yt ?_; refine wf ?_; refine wu fun _ _ => ?_
        refine Ev.iadd ?_
        rw [addN 1 (by omega)]
        unfold s20a22
        refine Ev.op (cutS (by omega) hcl' _) ?_
        refine wf ?_; refine wu fun _ _ => ?_; refine ws ?_; refine wt fun _ _ => ?_; refine ws ?_
        refine Ev.ret ⟨⟨2, (s.take (i + N.2.2 + 1)).drop i, 0, (i : Int)⟩, _, rfl, fun _ => ⟨?_, ?_⟩, dp⟩
        · show (⟨2, _, 0, (i : Int)⟩ : Tok) = ⟨2, N.1 ++ [58], 0, (i : Int)⟩
          rw [List.drop_take, show i + N.2.2 + 1 - i = N.2.2 + 1 by omega, take_colon (by rw [← hdd]; exact e4), ← hnt hne]
        · show ((i + N.2.2 + 1 : Nat) : Int) = ((i + (N.2.2 + 1) : Nat) : Int)
          omega
      | false =>
        rw [e4] at hm
        simp only [Bool.false_eq_true, if_false, Option.some.injEq] at hm
        subst hm
        refine yj ?_
        unfold s20a22
        refine Ev.op (cutS (by omega) (by omega) _) ?_
        refine wf ?_; refine wu fun _ _ => ?_; refine ws ?_; refine wt fun _ _ => ?_; refine ws ?_
        refine Ev.ret ⟨⟨1, (s.take (i + N.2.2)).drop i, 0, (i : Int)⟩, _, rfl, fun _ => ⟨?_, rfl⟩, dp⟩
        show (⟨1, _, 0, (i : Int)⟩ : Tok) = ⟨1, N.1, 0, (i : Int)⟩
        rw [List.drop_take, show i + N.2.2 - i = N.2.2 by omega, ← hnt hne]
  have e1' : letterB s[i] = false := by
    cases e : letterB s[i] with
    | false => rfl
    | true => exact absurd (by rw [(kind1 _).2 e]; rfl) e1
  rw [if_neg (by rw [hn0, e1']; simp)] at hm
  unfold s20a17
  refine yj ?_
  unfold s20a4
  refine Ev.ieq (fun e2 => ?_) (fun e2 => ?_)
  · have e2' : digitB s[i] = true := (kind2 _).1 (by simp at e2; omega)
    rw [if_pos (by rw [hn0]; exact e2')] at hm
    cases hm
    unfold s20a12
    refine yt ?_
    unfold s20a13
    refine wf ?_; refine wu fun _ _ => ?_
    unfold s20a14 s20a16
    rename_i hq Sq
    refine (rnum_loop (b4 := b4) (b7 := b7) (p0 := (i : Int)) (z := [.i .i64 (Int.ofNat 0), .s [], .i .i64 (Int.ofNat 0), .i .i64 (Int.ofNat 0)]) hs rfl (by first | assumption | exact tc_ones _ | (repeat (first | exact ones_nil | refine ones_cons (by first | rfl | assumption | exact Fz.one (by assumption)) ?_))) (s.drop i) 0 i hq 0 rfl (by omega) (by omega) (by omega) Sq).mono ?_
    rintro v h' ⟨t, en, a1, a2, a3⟩
    exact ⟨t, en, a1, a2, a3⟩
  have e2' : digitB s[i] = false := by
    cases e : digitB s[i] with
    | false => rfl
    | true => exact absurd (by rw [(kind2 _).2 e]; rfl) e2
  rw [if_neg (by rw [hn0, e2']; simp)] at hm
  unfold s20a12
  refine yj ?_
  unfold s20a5
  have hsg : ∀ c, inB signs c = true → ¬ c = 39 ∧ ¬ c = 35 ∧ ¬ c = 58 := by
    intro c h
    have h2 : c = 43 ∨ c = 45 ∨ c = 42 ∨ c = 47 ∨ c = 60 ∨ c = 62 ∨ c = 61 ∨ c = 126 ∨ c = 44 ∨ c = 64 ∨ c = 38 ∨ c = 37 := by simpa [inB, signs] using h
    omega
  have hmk : ∀ c, inB marks c = true → ¬ c = 39 ∧ ¬ c = 35 ∧ ¬ c = 58 ∧ inB signs c = false := by
    intro c h
    have h2 : c = 94 ∨ c = 46 ∨ c = 59 ∨ c = 40 ∨ c = 41 ∨ c = 91 ∨ c = 93 ∨ c = 124 := by simpa [inB, marks] using h
    refine ⟨by omega, by omega, by omega, ?_⟩
    rcases h2 with rfl | rfl | rfl | rfl | rfl | rfl | rfl | rfl <;> rfl
  refine Ev.ieq (fun e3 => ?_) (fun e3 => ?_)
  · have e3' : inB signs s[i] = true := (kind3 _).1 (by simp at e3; omega)
    obtain ⟨q1, q2, q3⟩ := hsg _ e3'
    rw [hn0, if_neg q1, if_neg q2, if_neg (fun q => q3 q.1), if_neg (fun q => q3 q.1), if_pos e3'] at hm
    cases hm
    unfold s20a7
    refine yt ?_
    unfold s20a8
    refine wf ?_; refine wu fun _ _ => ?_
    rename_i h5 S5
    unfold s20a9
    refine Ev.iadd ?_
    rw [addN 1 (by omega)]
    unfold s20a10
    refine Ev.call (at_ok s (i + 1) _) ?_
    rintro _ _ ⟨rfl, hh⟩
    rw [hh]
    clear hh
    have g3 := (run_signs (s.drop i)).1 (by rw [hat, (kind3 _).2 e3']; rfl)
    have hl0 := runN_le (inB signs) 2 (s.drop i)
    have fin : ∀ e, e = i + runN (inB signs) 2 (s.drop i) → Ev (fun n => s20a11 (shD n) n (.s s) (.i .i64 (i : Int)) (.p b4 0) (.p b7 0) (.i .i64 (e : Int)) h5) (KPost I A Q L (3, (s.drop i).take (runN (inB signs) 2 (s.drop i)), 0, 0, runN (inB signs) 2 (s.drop i)) i) := by
      intro e he
      unfold s20a11
      refine Ev.op (cutS (by omega) (by omega) _) ?_
      refine wf ?_; refine wu fun _ _ => ?_; refine ws ?_; refine wt fun _ _ => ?_; refine ws ?_
      refine Ev.ret ⟨⟨3, (s.take e).drop i, 0, (i : Int)⟩, (e : Int), rfl, fun _ => ⟨?_, ?_⟩, dp⟩
      · show (⟨3, (s.take e).drop i, 0, (i : Int)⟩ : Tok) = ⟨3, (s.drop i).take _, 0, (i : Int)⟩
        rw [List.drop_take, he, Nat.add_sub_cancel_left]
      · show (e : Int) = ((i + _ : Nat) : Int)
        rw [he]
    refine Ev.ieq (fun e4 => ?_) (fun e4 => ?_)
    · rw [if_pos (show atZ ((s.drop i).drop 1) = 3 by rw [← hdd1]; exact e4)] at g3
      refine yt ?_
      refine Ev.iadd ?_
      rw [addN 1 (by omega)]
      exact fin (i + 1 + 1) (by omega)
    · rw [if_neg (show ¬ atZ ((s.drop i).drop 1) = 3 by rw [← hdd1]; exact e4)] at g3
      refine yj ?_
      exact fin (i + 1) (by omega)
  have e3' : inB signs s[i] = false := by
    cases e : inB signs s[i] with
    | false => rfl
    | true => exact absurd (by rw [(kind3 _).2 e]; rfl) e3
  unfold s20a7
  refine yj ?_
  unfold s20a6
  refine Ev.ieq (fun e4 => ?_) (fun e4 => ?_)
  · have e4' : inB marks s[i] = true := (kind4 _).1 (by simp at e4; omega)
    obtain ⟨q1, q2, q3, q4⟩ := hmk _ e4'
    rw [hn0, if_neg q1, if_neg q2, if_neg (fun q => q3 q.1), if_neg (fun q => q3 q.1), if_neg (by rw [q4]; simp), if_pos e4'] at hm
    cases hm
    have hr1 : runN (inB marks) 1 (s.drop i) = 1 := by rw [hcd]; simp [runN, e4']
    rw [hr1]
    refine yt ?_; refine wf ?_; refine wu fun _ _ => ?_
    refine Ev.iadd ?_
    rw [addN 1 (by omega)]
    refine Ev.op (cutS (by omega) (by omega) _) ?_
    refine wf ?_; refine wu fun _ _ => ?_; refine ws ?_
    refine Ev.iadd ?_
    rw [addN 1 (by omega)]
    refine wt fun _ _ => ?_; refine ws ?_
    refine Ev.ret ⟨⟨10, (s.take (i + 1)).drop i, 0, (i : Int)⟩, _, rfl, fun _ => ⟨?_, rfl⟩, dp⟩
    show (⟨10, _, 0, (i : Int)⟩ : Tok) = ⟨10, (s.drop i).take 1, 0, (i : Int)⟩
    rw [List.drop_take, Nat.add_sub_cancel_left]
  have e4' : inB marks s[i] = false := by
    cases e : inB marks s[i] with
    | false => rfl
    | true => exact absurd (by rw [(kind4 _).2 e]; rfl) e4
  refine yj ?_
  refine Ev.op (idxS hidx _) ?_
  refine Ev.ieq (fun e5 => ?_) (fun e5 => ?_)
  · have e5' : s[i] = 39 := by simp at e5; omega
    rw [if_pos (by rw [hn0]; exact e5')] at hm
    obtain ⟨r, hr, hm⟩ := Option.bind_eq_some_iff.1 hm
    cases hm
    refine yt ?_; refine wf ?_; refine wu fun _ _ => ?_; refine ws ?_
    refine Ev.call (rtext_ok (k0 := 5) (m0 := 0) (by assumption) hs hi f r (by rw [hdd1]; exact hr)) ?_
    rintro _ _ ⟨t, en, rfl, a2, S5⟩
    refine wx ?_; refine wx ?_; refine wx ?_; refine wt fun _ _ => ?_; refine ws ?_
    refine Ev.ret ⟨t, en, rfl, fun he => ?_, dp⟩
    obtain ⟨d1, d2⟩ := a2 he
    refine ⟨d1, ?_⟩
    rw [d2]
    show ((i + 1 + r.2.2 : Nat) : Int) = ((i + (r.2.2 + 1) : Nat) : Int)
    omega
  rw [if_neg (by rw [hn0]; simp at e5; omega)] at hm
  refine yj ?_
  refine Ev.op (idxS hidx _) ?_
  refine Ev.ieq (fun e6 => ?_) (fun e6 => ?_)
  · have e6' : s[i] = 35 := by simp at e6; omega
    rw [if_pos (by rw [hn0]; exact e6')] at hm
    refine yt ?_; refine ws ?_
    refine Ev.call (rsym_ok (by assumption) hs hi f res hm) ?_
    rintro _ _ ⟨t, en, rfl, a2, S5⟩
    refine wx ?_; refine wx ?_; refine wx ?_; refine wt fun _ _ => ?_; refine ws ?_
    exact Ev.ret ⟨t, en, rfl, a2, dp⟩
  rw [if_neg (by rw [hn0]; simp at e6; omega)] at hm
  refine yj ?_
  refine Ev.op (idxS hidx _) ?_
  have bad : ¬ (nx (s.drop i) 0 = 58 ∧ nx (s.drop i) 1 = 61) → ¬ (nx (s.drop i) 0 = 58 ∧ letterB (nx (s.drop i) 1) = true) → res = (0, [], 0, 10, 0) := fun n1 n2 => by
    rw [if_neg n1, if_neg n2, if_neg (by rw [hn0, e3']; simp), if_neg (by rw [hn0, e4']; simp)] at hm
    cases hm
    rfl
  refine Ev.ieq (fun e7 => ?_) (fun e7 => ?_)
  · have e7' : nx (s.drop i) 0 = 58 := by rw [hn0]; simp at e7; omega
    refine zt ?_; refine wm ?_; refine zt ?_
    refine Ev.iadd ?_
    rw [addN 1 (by omega)]
    refine zt ?_; refine wm ?_; refine zt ?_
    refine Ev.lenS ?_
    refine zt ?_
    have hn1 : nx (s.drop i) 1 = nx (s.drop (i + 1)) 0 := by simp [nx, List.getD, List.getElem?_drop]
    have rest : ¬ nx (s.drop i) 1 = 61 → Ev (fun n => bnd (pIndexS (.s s) (.i .i64 (i : Int)) h0) fun v52 h52 =>
          bnd (pInt .eql v52 (.i .u8 (Int.ofNat 58)) h52) fun v53 h53 =>
          bnd (gD v53 true (some (.s s, h53)) h53) fun v54 h54 =>
          bnd (gD v53 true (some (.i .i64 (i : Int), h54)) h54) fun v55 h55 =>
          bnd (gD v53 true (pInt .add v55 (.i .i64 (Int.ofNat 1)) h55) h55) fun v56 h56 =>
          bnd (gD v53 true (shD n 34 [v54, v56] h56) h56) fun v57 h57 =>
          bnd (gD v53 true (pInt .eql v57 (.i .i64 (Int.ofNat 1)) h57) h57) fun v58 h58 =>
          bnd (pPick v53 v58 (.b false) h58) fun v59 h59 =>
          ifD v59 (
            bnd (pInt .add (.i .i64 (i : Int)) (.i .i64 (Int.ofNat 1)) h59) fun v60 h60 =>
            bnd (shD n 35 [.s s, v60] h60) fun v61 h61 =>
            bnd (pInt .sub v61 (.i .i64 (i : Int)) h61) fun v62 h62 =>
            bnd (pInt .sub v62 (.i .i64 (Int.ofNat 1)) h62) fun v63 h63 =>
            bnd (pInt .gtr v63 (.i .i64 (Int.ofNat 24)) h63) fun v64 h64 =>
            ifD v64 (
              bnd (pLoadA 4 (.p b7 0) h64) fun v65 h65 =>
              bnd (pStore 4 (.p b4 0) v65 h65) fun _ h66 =>
              bnd (pLoadA 4 (.p b4 0) h66) fun v67 _ =>
              some (.t [v67, .i .i64 (Int.ofNat 0), .i .i64 (Int.ofNat 12)], h66)) (
              bnd (pField 0 (.p b7 0) h64) fun v68 h68 =>
              bnd (pStore 1 v68 (.i .i64 (Int.ofNat 8)) h68) fun _ h69 =>
              bnd (pInt .add (.i .i64 (i : Int)) (.i .i64 (Int.ofNat 1)) h69) fun v70 h70 =>
              bnd (pSliceS (.s s) (some v70) (some v61) h70) fun v71 h71 =>
              bnd (pField 1 (.p b7 0) h71) fun v72 h72 =>
              bnd (pStore 1 v72 v71 h72) fun _ h73 =>
              bnd (pLoadA 4 (.p b7 0) h73) fun v74 h74 =>
              bnd (pStore 4 (.p b4 0) v74 h74) fun _ h75 =>
              bnd (pLoadA 4 (.p b4 0) h75) fun v76 _ =>
              some (.t [v76, v61, .i .i64 (Int.ofNat 0)], h75))) (
            bnd (pLoadA 4 (.p b7 0) h59) fun v77 h77 =>
            bnd (pStore 4 (.p b4 0) v77 h77) fun _ h78 =>
            bnd (pLoadA 4 (.p b4 0) h78) fun v79 _ =>
            some (.t [v79, .i .i64 (Int.ofNat 0), .i .i64 (Int.ofNat 10)], h78))) (KPost I A Q L res i) := fun ne => by
      rw [if_neg (fun q => ne q.2)] at hm
      refine Ev.op (idxS hidx _) ?_
      refine Ev.ieq (fun e8 => ?_) (fun e8 => absurd e7 e8)
      refine zt ?_; refine wm ?_; refine zt ?_; refine wm ?_; refine zt ?_
      refine Ev.iadd ?_
      rw [addN 1 (by omega)]
      refine zt ?_
      refine Ev.call (at_ok s (i + 1) _) ?_
      rintro _ _ ⟨rfl, hh⟩
      rw [hh]
      clear hh
      refine zt ?_
      refine Ev.ieq (fun e9 => ?_) (fun e9 => ?_)
      · have e9' : letterB (nx (s.drop i) 1) = true := by rw [hn1]; exact (atZ1 _).1 e9
        rw [if_pos ⟨e7', e9'⟩] at hm
        cases hm
        refine ap ?_; refine yt ?_
        refine Ev.iadd ?_
        rw [addN 1 (by omega)]
        refine Ev.call (nend_ok s hs (i + 1) (by omega) _) ?_
        rintro _ _ ⟨rfl, hh⟩
        rw [hh]
        clear hh
        rw [← hdd1]
        have hnl := nameM_le (s.drop (i + 1))
        have hne := nameM_err (s.drop (i + 1))
        have hnt := nameM_take (u := s.drop (i + 1))
        have hnl2 := nameM_len (s.drop (i + 1))
        have hdl : (s.drop (i + 1)).length = s.length - (i + 1) := by simp
        rw [← hnl2] at hne ⊢
        generalize hN : nameM (s.drop (i + 1)) = N at hnl hne hnt ⊢
        refine Ev.isub ?_
        rw [show ((i + 1 + N.2.2 : Nat) : Int) - (i : Int) = ((N.2.2 + 1 : Nat) : Int) by omega, wrapN _ (by omega)]
        refine Ev.isub ?_
        rw [show ((N.2.2 + 1 : Nat) : Int) - Int.ofNat 1 = ((N.2.2 : Nat) : Int) by simp, wrapN _ (by omega)]
        refine Ev.igt (fun e10 => ?_) (fun e10 => ?_)
        · have e10' : 24 < N.2.2 := by simp at e10; omega
          rw [if_pos e10'] at hne
          refine yt ?_; refine ws ?_; refine wt fun _ _ => ?_; refine ws ?_
          refine Ev.ret ⟨⟨0, [], 0, (i : Int)⟩, Int.ofNat 0, ?_, fun he => ?_, dp⟩
          · show _ = DV.t [_, _, DV.i .i64 N.2.1]
            rw [hne]; rfl
          · have he : N.2.1 = 0 := he
            rw [hne] at he
            cases he
        · have e10' : ¬ 24 < N.2.2 := by simp at e10; omega
          rw [if_neg e10'] at hne
          refine yj ?_; refine wf ?_; refine wu fun _ _ => ?_
          refine Ev.iadd ?_
          rw [addN 1 (by omega)]
          refine Ev.op (cutS (by omega) (by omega) _) ?_
          refine wf ?_; refine wu fun _ _ => ?_; refine ws ?_; refine wt fun _ _ => ?_; refine ws ?_
          refine Ev.ret ⟨⟨8, (s.take (i + 1 + N.2.2)).drop (i + 1), 0, (i : Int)⟩, ((i + 1 + N.2.2 : Nat) : Int), ?_, fun _ => ⟨?_, ?_⟩, dp⟩
          · show _ = DV.t [_, _, DV.i .i64 N.2.1]
            rw [hne]; rfl
          · show (⟨8, _, 0, (i : Int)⟩ : Tok) = ⟨8, N.1, 0, (i : Int)⟩
            rw [List.drop_take, Nat.add_sub_cancel_left, ← hnt hne]
          · show ((i + 1 + N.2.2 : Nat) : Int) = ((i + (N.2.2 + 1) : Nat) : Int)
            omega
      · have e9' : ¬ letterB (nx (s.drop i) 1) = true := fun q => e9 ((atZ1 _).2 (by rw [← hn1]; exact q))
        have := bad (fun q => ne q.2) (fun q => e9' q.2)
        subst this
        refine ap ?_; refine yj ?_; refine ws ?_; refine wt fun _ _ => ?_; refine ws ?_
        exact Ev.ret ⟨⟨0, [], 0, (i : Int)⟩, _, rfl, fun he => (by cases he), dp⟩
    refine Ev.ilt (fun e8 => ?_) (fun e8 => ?_)
    · have e8' : i + 1 < s.length := by omega
      have hn1' : nx (s.drop i) 1 = s[i + 1] := by rw [hn1, List.drop_eq_getElem_cons e8']; rfl
      refine ap ?_; refine zt ?_; refine wm ?_; refine zt ?_; refine wm ?_; refine zt ?_
      refine Ev.iadd ?_
      rw [addN 1 (by omega)]
      refine zt ?_
      refine Ev.op (idxS (c := s[i + 1]) (by simp [e8']) _) ?_
      refine zt ?_
      refine Ev.ieq (fun e9 => ?_) (fun e9 => ?_)
      · have e9' : nx (s.drop i) 1 = 61 := by rw [hn1']; simp at e9; omega
        rw [if_pos ⟨e7', e9'⟩] at hm
        cases hm
        refine ap ?_; refine yt ?_; refine wf ?_; refine wu fun _ _ => ?_; refine ws ?_
        refine Ev.iadd ?_
        rw [addN 2 (by omega)]
        refine wt fun _ _ => ?_; refine ws ?_
        exact Ev.ret ⟨⟨9, [], 0, (i : Int)⟩, _, rfl, fun _ => ⟨rfl, rfl⟩, dp⟩
      · have R := rest (by rw [hn1']; simp at e9; omega)
        exact R
    · have R := rest (by rw [hn1, List.drop_eq_nil_of_le (by omega)]; simp [nx])
      exact R
  · have e7' : ¬ nx (s.drop i) 0 = 58 := by rw [hn0]; simp at e7; omega
    have := bad (fun q => e7' q.1) (fun q => e7' q.1)
    subst this
    refine yf ?_; refine yf ?_; refine yf ?_; refine yf ?_; refine yf ?_; refine aq ?_; refine yf ?_; refine yf ?_; refine yf ?_; refine yf ?_; refine yf ?_; refine aq ?_; refine yj ?_
    refine Ev.op (idxS hidx _) ?_
    refine Ev.ieq (fun e8 => absurd e8 e7) (fun e8 => ?_)
    refine yf ?_; refine yf ?_; refine yf ?_; refine yf ?_; refine yf ?_; refine aq ?_; refine yj ?_; refine ws ?_; refine wt fun _ _ => ?_; refine ws ?_
    exact Ev.ret ⟨⟨0, [], 0, (i : Int)⟩, _, rfl, fun he => (by cases he), dp⟩

theorem rtoks_loop (hs : s.length ≤ lim) (g : Nat) : ∀ (f j i : Nat) (I : Im) (B : Ls) (h : Hp) (x : DV) (out : List Tok) (res : List Tok × Int × Int), Sy I (B ++ A) Q L h → Gr I 4 B x out.length (out.map tc).flatten →
    i ≤ s.length → out.length + f ≤ lim → toksM g s f i out = some res →
    Ev (fun n => s10a5l (shD n) n (n - j) (.s s) x (.i .i64 (i : Int)) h) (TPost I A Q L res) := by
  intro f
  induction f using Nat.strongRecOn with
  | _ f ih =>
    intro j i I B h x out res S G hi hl hm
    cases f with
    | zero => cases hm
    | succ f =>
    obtain ⟨k, o, sk, hk, c1, c2, c3⟩ := toks_skip (f + 1) i out res hi hm
    refine Ev.loop j (ll := fun n m => s10a5l (shD n) n m (.s s) x (.i .i64 (i : Int)) h) (bb := fun n m => s10a5b (shD n) n (s10a5l (shD n) n m) (.s s) x (.i .i64 (i : Int)) h) (fun _ _ => rfl) ?_
    unfold s10a5b
    refine Ev.call (skip_ok hs sk hi) ?_
    rintro _ _ ⟨rfl, hh⟩
    rw [hh]
    clear hh
    refine wx ?_; refine wx ?_
    cases o with
    | true =>
      rw [c1 rfl]
      refine yt ?_
      obtain ⟨K, gK, S5, F5⟩ := G.freeze S
      exact Ev.ret ⟨K, .l0, rfl, gK, S5, TS'.nil K⟩
    | false =>
      refine yj ?_
      refine Ev.lenS ?_
      refine Ev.ieq (fun e1 => ?_) (fun e1 => ?_)
      · rw [c2 rfl (by omega)]
        refine yt ?_; refine wd ?_
        refine Ev.bs S (fill4 ⟨0, [], 0, (k : Int)⟩) ?_
        intro b3 h3 S3
        obtain ⟨x4, h4, B4, e4, S4, G4⟩ := app_tok G S3 (List.Mem.head _) (by omega)
        refine Ev.op e4 ?_
        obtain ⟨K, gK, S5, F5⟩ := G4.freeze S4
        exact Ev.ret ⟨K, x4, rfl, gK, S5.dropL, by simp; omega, F5⟩
      · obtain ⟨rs, hr, d1, d2⟩ := c3 rfl (by omega)
        refine yj ?_
        refine Ev.call (rtok_ok S hs (by omega) g rs hr) ?_
        rintro _ h3 ⟨t, en, rfl, a2, S3⟩
        refine wx ?_; refine wx ?_; refine wx ?_; refine wa fun _ _ _ => ?_; refine wt fun _ _ => ?_
        refine Ev.ine (fun e3 => ?_) (fun e3 => ?_)
        · rw [d1 e3]
          refine yt ?_
          obtain ⟨M, gM, S5, F5⟩ := G.freeze (by assumption)
          exact Ev.ret ⟨M, .l0, rfl, gM, S5.dropL, TS'.nil M⟩
        · obtain ⟨m1, f', m2, m3⟩ := d2 e3
          obtain ⟨rfl, rfl⟩ := a2 e3
          refine yj ?_; refine ws ?_
          refine Ev.bs (by assumption) (fill4 ⟨rs.1, rs.2.1, rs.2.2.1, (k : Int)⟩) ?_
          intro b4 h4 S4
          obtain ⟨x5, h5, B5, e5, S5, G5⟩ := app_tok G S4 (List.Mem.head _) (by omega)
          refine Ev.op e5 ?_
          exact ih f' m2 (j + 1) (k + rs.2.2.2.2) I B5 h5 x5 _ res S5.dropL.dropL G5 m1 (by simp; omega) m3

/-- The document's tokens of a source are the program's. -/
theorem rlex_ok {h : Hp} (S : Sy I A Q L h) (hs : s.length ≤ lim) (g f : Nat) (hf : f ≤ lim) (res : List Tok × Int × Int) (hm : lexM g f s = some res) :
    Ev (fun n => shD n 10 [.s s] h) (TPost I A Q L res) := by
  unfold lexM at hm
  refine Ev.enter (fun n => enter10 n _ h) ?_
  unfold s10 s10a1
  refine Ev.lenS ?_
  refine Ev.igt (fun e1 => ?_) (fun e1 => ?_)
  · rw [if_pos (show 2000 < s.length by simp at e1; omega)] at hm
    cases hm
    refine yt ?_
    exact Ev.ret ⟨I, .l0, rfl, ILe.refl _, S, TS'.nil I⟩
  · rw [if_neg (show ¬ 2000 < s.length by simp at e1; omega)] at hm
    refine yj ?_
    unfold s10a2 s10a3 s10a4 s10a5
    exact rtoks_loop hs g f 0 0 I [] _ .l0 [] res S (Gr.nil I 4) (by omega) (by simpa using hf) hm

end
end Go.Dd

/- Dd, part Z1: the law's count of a node. -/
set_option linter.unusedVariables false
set_option linter.unusedSimpArgs false
set_option maxRecDepth 100000
namespace Go.Dd
open Go.Proofs

theorem wadd {a b : Nat} (h : a + b ≤ lim) : IntKind.i64.wrap ((a : Int) + (b : Int)) = ((a + b : Nat) : Int) := by
  rw [wrap64s _ (by omega) (by simp [lim] at h ⊢; omega)]
  omega
theorem wadd1 {a : Nat} (h : a + 1 ≤ lim) : IntKind.i64.wrap ((a : Int) + Int.ofNat 1) = ((a + 1 : Nat) : Int) := wadd (b := 1) h

def NC (b : Pos) (k : Int) (t : List Nat) (m : Int) (s1 s2 s3 : DV) : Pos × Option Ob := (b, some (.row .ex [.i .i64 k, .s t, .i .i64 m, s1, s2, s3]))

end Go.Dd

/- Dd, part Y1: the document's parser: its small methods. -/
set_option linter.unusedVariables false
set_option linter.unusedSimpArgs false
set_option maxRecDepth 100000
namespace Go.Dd
open Go.Proofs

/-! ### What it says -/

def takeR (st : PSt) : Option (Tok × PSt) :=
  (lookS st 0).bind fun t => if t.kind = 0 then none else if 2 ≤ st.toks.length then some (t, { st with toks := st.toks.drop 1 }) else none
def needD (st : PSt) (kind : Int) (text : List Nat) : Option (Tok × PSt) :=
  (isS st kind text).bind fun c => if c then takeR st else (lookS st 0).bind fun t => some (z4, failS st t 13)
/-- As need, but at the end, which is no token to take. -/
def endD (st : PSt) : Option PSt := (isS st 0 []).bind fun c => if c then some st else (lookS st 0).bind fun t => some (failS st t 13)
def namesD (st : PSt) (kind : Int) (l : List (List Nat)) : Option (List (List Nat) × PSt) :=
  (needD st kind []).bind fun r => some (l ++ [r.1.text], if r.2.err = 0 ∧ l.length = 4 then failS r.2 r.1 18 else r.2)
def openD (st : PSt) : Option (Bool × PSt) :=
  (takeR st).bind fun r => if r.2.deep = 20 then some (false, failS r.2 r.1 14) else some (true, { r.2 with deep := w64 (r.2.deep + 1) })
def plainD (st : PSt) : Option ((Node × Bool) × PSt) :=
  (lookS st 0).bind fun t => (isS st 3 [45]).bind fun c1 => (if c1 then (lookS st 1).bind fun u => some (decide (u.kind = 4) && decide (u.pos = w64 (t.pos + 1))) else some false).bind fun c =>
    if c then (takeR st).bind fun r => (takeR r.2).bind fun q => some ((.mk 1 [] (w64 (0 - q.1.num)) [] [] [], true), q.2)
    else (isS st 4 []).bind fun c => if c then (takeR st).bind fun r => some ((.mk 1 [] r.1.num [] [] [], true), r.2)
    else (isS st 5 []).bind fun c => if c then (takeR st).bind fun r => some ((.mk 2 r.1.text 0 [] [] [], true), r.2)
    else (isS st 6 []).bind fun c => if c then (takeR st).bind fun r => some ((.mk 3 r.1.text 0 [] [] [], true), r.2)
    else some ((zN, false), st)
def tempsLD : Nat → List (List Nat) → PSt → Option (List (List Nat) × PSt)
  | 0, _, _ => none
  | f + 1, l, st => (isS st 1 []).bind fun c => if c then (takeR st).bind fun r => tempsLD f (l ++ [r.1.text]) r.2 else (needD st 10 [124]).bind fun r => some (l, r.2)
def tempsD (f : Nat) (st : PSt) : Option (List (List Nat) × PSt) :=
  (isS st 10 [124]).bind fun c => if c then (takeR st).bind fun r => tempsLD f [] r.2 else some ([], st)

/-! ### The walks -/

def PD (p : Pos) (s : DV) (i : Nat) (st : PSt) : Pos × Option Ob := (p, some (.row .ex [s, .i .i64 (i : Int), .i .i64 st.deep, .i .i64 st.err, .i .i64 st.pos]))
def TD (I : Im) (s : DV) (i : Nat) (l : List Tok) : Prop := ∃ T, TS' I s T ∧ T.drop i = l ∧ 1 ≤ l.length
theorem TD.mono {I J : Im} (g : ILe I J) {s : DV} {i : Nat} {l : List Tok} (H : TD I s i l) : TD J s i l := by
  obtain ⟨T, a, b⟩ := H
  exact ⟨T, a.mono g, b⟩
theorem TD.one {I : Im} {s : DV} {i : Nat} {l : List Tok} (H : TD I s i l) : s.one = true := by
  obtain ⟨T, a, b⟩ := H
  exact a.2.one

theorem enter46 (n : Nat) (x y : DV) (h : Hp) : shD (n + 1) 46 [x, y] h = s46 (shD n) n x y h := by kernel_rfl
theorem enter44 (n : Nat) (x y z : DV) (h : Hp) : shD (n + 1) 44 [x, y, z] h = s44 (shD n) n x y z h := by kernel_rfl
theorem enter41 (n : Nat) (x y z : DV) (h : Hp) : shD (n + 1) 41 [x, y, z] h = s41 (shD n) n x y z h := by kernel_rfl
theorem enter42 (n : Nat) (x : DV) (h : Hp) : shD (n + 1) 42 [x] h = s42 (shD n) n x h := by kernel_rfl
theorem enter28 (n : Nat) (x y z : DV) (h : Hp) : shD (n + 1) 28 [x, y, z] h = s28 (shD n) n x y z h := by kernel_rfl
theorem enter43 (n : Nat) (x y z : DV) (h : Hp) : shD (n + 1) 43 [x, y, z] h = s43 (shD n) n x y z h := by kernel_rfl
theorem enter75 (n : Nat) (x : DV) (h : Hp) : shD (n + 1) 75 [x] h = s75 (shD n) n x h := by kernel_rfl
theorem enter73 (n : Nat) (x : DV) (h : Hp) : shD (n + 1) 73 [x] h = s73 (shD n) n x h := by kernel_rfl
theorem enter26 (n : Nat) (x : DV) (h : Hp) : shD (n + 1) 26 [x] h = s26 (shD n) n x h := by kernel_rfl

section
variable {I : Im} {A L : Ls} {h : Hp} {p : Pos} {s : DV} {i : Nat} {st : PSt}

theorem ahead_ok (S : Sy I A [PD p s i st] L h) (T : TD I s i st.toks) {k : Nat} {t : Tok} (hk : lookS st k = some t) (hk' : k ≤ 10) :
    Ev (fun n => shD n 46 [.p p 0, .i .i64 (Int.ofNat k)] h) (fun v h' => v = .a (tc t) ∧ Sy I A [PD p s i st] L h') := by
  have hs := T.one
  obtain ⟨T, T1, T2, T3⟩ := T
  have hl := T1.1
  have hlen : st.toks.length = T.length - i := by rw [← T2]; simp
  unfold lookS at hk
  rw [← T2, List.getElem?_drop] at hk
  refine Ev.enter (fun n => enter46 n _ _ h) ?_
  unfold s46
  unfold PD at S
  refine wa fun _ _ _ => ?_; refine wn ?_; refine wf ?_; refine wq ?_
  refine Ev.iadd ?_
  have e1 : IntKind.i64.wrap ((i : Int) + Int.ofNat k) = ((i + k : Nat) : Int) := by
    rw [wrap64s _ (by simp; omega) (by simp [lim] at hl ⊢; omega)]
    simp
  rw [e1]
  refine wn ?_; refine wf ?_; refine wq ?_
  refine Ev.op (T1.2.len _) (Ev.ige (fun e2 => ?_) (fun e2 => ?_))
  · refine yt ?_; refine wn ?_; refine wf ?_; refine wq ?_; refine wn ?_; refine wf ?_; refine wq ?_
    refine Ev.op (T1.2.len _) (Ev.isub ?_)
    have e3 : IntKind.i64.wrap ((T.length : Int) - Int.ofNat 1) = ((T.length - 1 : Nat) : Int) := by
      rw [wrap64s _ (by simp; omega) (by simp [lim] at hl ⊢; omega)]
      simp; omega
    rw [e3]
    have hk2 : T[T.length - 1]? = some t := by
      rw [show i + min k ((T.drop i).length - 1) = T.length - 1 by simp; omega] at hk
      exact hk
    obtain ⟨b, o, a1, a2⟩ := T1.at (by assumption) hk2
    refine Ev.op (a1 _) (Ev.op a2 ?_)
    refine wt fun _ _ => ?_; refine ws ?_
    exact Ev.ret ⟨rfl, Sy.dropL (by assumption)⟩
  · refine yj ?_; refine wn ?_; refine wf ?_; refine wq ?_; refine wn ?_; refine wf ?_; refine wq ?_
    refine Ev.iadd ?_
    rw [e1]
    have hk2 : T[i + k]? = some t := by
      rw [show i + min k ((T.drop i).length - 1) = i + k by simp; omega] at hk
      exact hk
    obtain ⟨b, o, a1, a2⟩ := T1.at (by assumption) hk2
    refine Ev.op (a1 _) (Ev.op a2 ?_)
    refine wt fun _ _ => ?_; refine ws ?_
    exact Ev.ret ⟨rfl, Sy.dropL (by assumption)⟩

theorem failD_ok (S : Sy I A [PD p s i st] L h) (hs : s.one = true) (t : Tok) (e : Int) :
    Ev (fun n => shD n 44 [.p p 0, .a (tc t), .i .i64 e] h) (fun v h' => v = .t [] ∧ Sy I A [PD p s i (failS st t e)] L h') := by
  refine Ev.enter (fun n => enter44 n _ _ _ h) ?_
  unfold s44
  refine wb fun _ _ _ => ?_; refine wn ?_; refine wf ?_; refine wq ?_
  refine Ev.ieq (fun e1 => ?_) (fun e1 => ?_)
  · refine yt ?_; refine wn ?_; refine wf ?_; refine wv fun _ _ => ?_; refine wf ?_; refine wl ?_; refine wn ?_; refine wf ?_; refine wv fun _ _ => ?_
    have : failS st t e = { st with pos := t.pos, err := e } := by simp at e1; simp [failS, e1]
    rw [this]
    exact Ev.ret ⟨rfl, dp⟩
  · refine yj ?_
    have : failS st t e = st := by simp at e1; simp [failS, e1]
    rw [this]
    exact Ev.ret ⟨rfl, dp⟩

theorem isD_ok (S : Sy I A [PD p s i st] L h) (T : TD I s i st.toks) {kind : Int} {text : List Nat} {c : Bool} (hc : isS st kind text = some c) :
    Ev (fun n => shD n 41 [.p p 0, .i .i64 kind, .s text] h) (fun v h' => v = .b c ∧ Sy I A [PD p s i st] L h') := by
  have hs := T.one
  unfold isS at hc
  obtain ⟨t, ht, hc⟩ := Option.bind_eq_some_iff.1 hc
  simp only [Option.some.injEq] at hc
  refine Ev.enter (fun n => enter41 n _ _ _ h) ?_
  unfold s41
  refine Ev.call (ahead_ok (k := 0) S T ht (by omega)) ?_
  rintro _ _ ⟨rfl, S1⟩
  refine wa fun _ _ _ => ?_; refine wt fun _ _ => ?_; refine wn ?_; refine wf ?_; refine wq ?_
  refine Ev.ieq (fun e1 => ?_) (fun e1 => ?_)
  · refine zt ?_; refine wf ?_; refine zt ?_; refine wl ?_; refine zt ?_; refine wm ?_; refine zt ?_
    refine Ev.ieq (fun e2 => ?_) (fun e2 => ?_)
    · refine ap ?_; refine zt ?_; refine wm ?_; refine zt ?_
      refine Ev.seq (fun e3 => ?_) (fun e3 => ?_)
      · refine zt ?_; refine wm ?_; refine yg ?_; refine yg ?_; refine yg ?_; refine yg ?_; refine zt ?_; refine ap ?_; refine ap ?_
        exact Ev.ret ⟨by rw [← hc]; simp at e1; simp [e1, e2, e3], dp⟩
      · refine zt ?_; refine wm ?_; refine zf ?_; refine wf ?_; refine zf ?_; refine wl ?_; refine zf ?_; refine wm ?_; refine zf ?_
        refine Ev.seq (fun e4 => ?_) (fun e4 => ?_)
        · refine zt ?_; refine aq ?_; refine ap ?_
          exact Ev.ret ⟨by rw [← hc]; simp at e1; simp [e1, e2, e4], dp⟩
        · refine zt ?_; refine aq ?_; refine ap ?_
          exact Ev.ret ⟨by rw [← hc]; simp [e3, e4], dp⟩
    · refine ap ?_; refine yf ?_; refine yf ?_; refine yf ?_; refine yu ?_; refine yu ?_; refine yu ?_; refine yu ?_; refine yf ?_; refine aq ?_
      exact Ev.ret ⟨by rw [← hc]; simp [e2], dp⟩
  · refine yf ?_; refine yf ?_; refine yf ?_; refine yf ?_; refine aq ?_; refine yf ?_; refine yf ?_; refine yf ?_; refine yu ?_; refine yu ?_; refine yu ?_; refine yu ?_; refine yf ?_; refine aq ?_
    exact Ev.ret ⟨by rw [← hc]; simp at e1; simp [e1], dp⟩

theorem takeR_ok (S : Sy I A [PD p s i st] L h) (T : TD I s i st.toks) {t : Tok} {st' : PSt} (ht : takeR st = some (t, st')) :
    Ev (fun n => shD n 42 [.p p 0] h) (fun v h' => v = .a (tc t) ∧ ∃ i', Sy I A [PD p s i' st'] L h' ∧ TD I s i' st'.toks) := by
  have hs := T.one
  unfold takeR at ht
  obtain ⟨u, hu, ht⟩ := Option.bind_eq_some_iff.1 ht
  split at ht
  · cases ht
  · split at ht
    · rename_i h2
      simp only [Option.some.injEq, Prod.mk.injEq] at ht
      obtain ⟨rfl, rfl⟩ := ht
      refine Ev.enter (fun n => enter42 n _ h) ?_
      unfold s42
      refine wa fun _ _ _ => ?_
      refine Ev.call (ahead_ok (k := 0) (by assumption) T hu (by omega)) ?_
      rintro _ _ ⟨rfl, S1⟩
      obtain ⟨T, T1, T2, T3⟩ := T
      have hl := T1.1
      have hlen : st.toks.length = T.length - i := by rw [← T2]; simp
      refine wa fun _ _ _ => ?_; refine wt fun _ _ => ?_; refine wn ?_; refine wf ?_; refine wq ?_
      refine Ev.iadd ?_
      rw [wadd1 (by simp [lim] at hl ⊢; omega)]
      refine wn ?_; refine wf ?_; refine wv fun _ _ => ?_; refine ws ?_; refine wt fun _ _ => ?_; refine ws ?_
      refine Ev.ret ⟨rfl, i + 1, dp, T, T1, ?_, ?_⟩
      · show _ = st.toks.drop 1
        rw [← T2, List.drop_drop]
      · show 1 ≤ (st.toks.drop 1).length
        simp; omega
    · cases ht

theorem needD_ok (S : Sy I A [PD p s i st] L h) (T : TD I s i st.toks) {kind : Int} {text : List Nat} {t : Tok} {st' : PSt} (ht : needD st kind text = some (t, st')) :
    Ev (fun n => shD n 28 [.p p 0, .i .i64 kind, .s text] h) (fun v h' => v = .a (tc t) ∧ ∃ i', Sy I A [PD p s i' st'] L h' ∧ TD I s i' st'.toks) := by
  unfold needD at ht
  obtain ⟨c, hc, ht⟩ := Option.bind_eq_some_iff.1 ht
  refine Ev.enter (fun n => enter28 n _ _ _ h) ?_
  unfold s28
  refine wa fun _ _ _ => ?_
  refine Ev.call (isD_ok (by assumption) T hc) ?_
  rintro _ _ ⟨rfl, S1⟩
  cases c with
  | true =>
    refine an ?_; refine yj ?_
    refine Ev.call (takeR_ok (by assumption) T ht) ?_
    rintro _ _ ⟨rfl, i', S2, T2⟩
    refine wt fun _ _ => ?_; refine ws ?_
    exact Ev.ret ⟨rfl, i', dp, T2⟩
  | false =>
    refine ao ?_; refine yt ?_
    obtain ⟨u, hu, ht⟩ := Option.bind_eq_some_iff.1 (by simpa using ht)
    simp only [Option.some.injEq, Prod.mk.injEq] at ht
    obtain ⟨rfl, rfl⟩ := ht
    refine Ev.call (ahead_ok (k := 0) (by assumption) T hu (by omega)) ?_
    rintro _ _ ⟨rfl, S2⟩
    refine Ev.call (failD_ok (by assumption) T.one u _) ?_
    rintro _ _ ⟨rfl, S3⟩
    refine wd ?_; refine wt fun _ _ => ?_; refine ws ?_
    exact Ev.ret ⟨rfl, i, dp, by rw [failS_toks]; exact T⟩

theorem app0 {sz bytes : Nat} {x : DV} {h : Hp} {c : List DV} (e : srcD sz x h = some (0, c)) : pAppend sz bytes .l0 x h = some (.l0, h) := by
  unfold pAppend
  rw [e]
  rfl

theorem namesD_ok (S : Sy I A [PD p s i st] L h) (T : TD I s i st.toks) {kind : Int} {x : DV} {l : List (List Nat)} (N : SS I x l) (hl : l.length + 1 ≤ lim) {l' : List (List Nat)} {st' : PSt} (ht : namesD st kind l = some (l', st')) :
    Ev (fun n => shD n 43 [.p p 0, .i .i64 kind, x] h) (fun v h' => ∃ J i', ILe I J ∧ Sy J A [PD p s i' st'] L h' ∧ TD J s i' st'.toks ∧ SS J v l') := by
  have hs := T.one
  unfold namesD at ht
  obtain ⟨⟨u, st1⟩, hu, ht⟩ := Option.bind_eq_some_iff.1 ht
  simp only [Option.some.injEq, Prod.mk.injEq] at ht
  obtain ⟨rfl, rfl⟩ := ht
  refine Ev.enter (fun n => enter43 n _ _ _ h) ?_
  unfold s43 s43a1
  refine Ev.call (needD_ok S T hu) ?_
  rintro _ _ ⟨rfl, i1, S1, T1⟩
  refine wa fun _ _ _ => ?_; refine wt fun _ _ => ?_
  unfold s43a2
  have fin : ∀ (st2 : PSt) (b : Pos) (h' : Hp), st2.toks = st1.toks → Sy I A [PD p s i1 st2] ((b, some (.row .ex (tc u))) :: L) h' →
      Ev (fun n => s43a3 (shD n) n x (.p b 0) h') (fun v h' => ∃ J i', ILe I J ∧ Sy J A [PD p s i' st2] L h' ∧ TD J s i' st2.toks ∧ SS J v (l ++ [u.text])) := by
    intro st2 b h' e2 S2
    unfold s43a3
    have hr : ∀ m, m ≤ lim → m * 16 ≤ roomD := by intro m hm; simp [roomD, lim] at hm ⊢; omega
    -- the copy
    obtain ⟨x1, h1, B1, q1, S3, G1⟩ : ∃ x1 h1 B1, pAppend 1 16 .l0 x h' = some (x1, h1) ∧ Sy I (B1 ++ A) [PD p s i1 st2] ((b, some (.row .ex (tc u))) :: L) h1 ∧ Gr I 1 B1 x1 l.length (l.map .s) := by
      have hsrc := N.2.src S2
      by_cases h0 : l.length = 0
      · have : l = [] := List.length_eq_zero_iff.1 h0
        subst this
        exact ⟨.l0, h', [], app0 hsrc, S2, Gr.nil I 1⟩
      · obtain ⟨s', h1, A', a1, a2, a3⟩ := (Gr.nil I 1).app (bytes := 16) (A0 := A) (h := h') (by simpa using S2) hsrc (by simp) (by intro v hv; obtain ⟨y, _, rfl⟩ := List.mem_map.1 hv; rfl) h0 (by have := hr l.length (by omega); omega)
        exact ⟨s', h1, A', a1, a2, by simpa using a3⟩
    refine Ev.op q1 ?_
    refine wf ?_; refine wl ?_
    refine Ev.bs S3 (cs := [.s u.text]) rfl ?_
    intro b3 h3 S4
    obtain ⟨x4, h4, B4, e4, S5, G4⟩ := G1.app S4 (src_own S4 (n := 1) (List.Mem.head _) rfl (ones_cons rfl ones_nil)) rfl (ones_cons rfl ones_nil) (by omega) (hr _ (by omega))
    refine Ev.op e4 ?_
    obtain ⟨J, gJ, S6, F6⟩ := G4.freeze S5
    refine Ev.ret ⟨J, i1, gJ, dp, by rw [e2]; exact T1.mono gJ, by simp; omega, ?_⟩
    simpa using F6
  refine wn ?_; refine wf ?_; refine wq ?_
  refine Ev.ieq (fun e1 => ?_) (fun e1 => ?_)
  · refine zt ?_; refine wm ?_; refine zt ?_
    refine Ev.op (N.2.len _) ?_
    refine zt ?_
    refine Ev.ieq (fun e2 => ?_) (fun e2 => ?_)
    · refine ap ?_; refine yt ?_; refine ws ?_
      refine Ev.call (failD_ok (by assumption) hs u _) ?_
      rintro _ _ ⟨rfl, S3⟩
      have : (if st1.err = 0 ∧ l.length = 4 then failS st1 u 18 else st1) = failS st1 u 18 := if_pos ⟨e1, by simp at e2; omega⟩
      simp only [this]
      exact fin _ _ _ (failS_toks _ _ _) S3
    · refine ap ?_; refine yj ?_
      have : (if st1.err = 0 ∧ l.length = 4 then failS st1 u 18 else st1) = st1 := if_neg (fun hh => e2 (by rw [hh.2]; rfl))
      simp only [this]
      exact fin _ _ _ rfl (by assumption)
  · refine yf ?_; refine yf ?_; refine yf ?_; refine aq ?_; refine yj ?_
    have : (if st1.err = 0 ∧ l.length = 4 then failS st1 u 18 else st1) = st1 := if_neg (fun hh => e1 hh.1)
    simp only [this]
    exact fin _ _ _ rfl (by assumption)

theorem openD_ok (S : Sy I A [PD p s i st] L h) (T : TD I s i st.toks) {c : Bool} {st' : PSt} (hm : openD st = some (c, st')) :
    Ev (fun n => shD n 75 [.p p 0] h) (fun v h' => v = .b c ∧ ∃ i', Sy I A [PD p s i' st'] L h' ∧ TD I s i' st'.toks) := by
  have hs := T.one
  unfold openD at hm
  obtain ⟨⟨t, st1⟩, ht, hm⟩ := Option.bind_eq_some_iff.1 hm
  refine Ev.enter (fun n => enter75 n _ h) ?_
  unfold s75
  refine Ev.call (takeR_ok S T ht) ?_
  rintro _ _ ⟨rfl, i1, S1, T1⟩
  refine wa fun _ _ _ => ?_; refine wt fun _ _ => ?_; refine wn ?_; refine wf ?_; refine wq ?_
  refine Ev.ieq (fun e1 => ?_) (fun e1 => ?_)
  · refine yt ?_; refine ws ?_
    rw [if_pos (show st1.deep = 20 from e1)] at hm
    simp only [Option.some.injEq, Prod.mk.injEq] at hm
    obtain ⟨rfl, rfl⟩ := hm
    refine Ev.call (failD_ok (by assumption) hs t _) ?_
    rintro _ _ ⟨rfl, S3⟩
    exact Ev.ret ⟨rfl, i1, dp, by rw [failS_toks]; exact T1⟩
  · refine yj ?_; refine wn ?_; refine wf ?_; refine wq ?_
    rw [if_neg (show ¬ st1.deep = 20 from e1)] at hm
    simp only [Option.some.injEq, Prod.mk.injEq] at hm
    obtain ⟨rfl, rfl⟩ := hm
    refine Ev.iadd ?_
    refine wn ?_; refine wf ?_; refine wv fun _ _ => ?_
    exact Ev.ret ⟨rfl, i1, dp, T1⟩

theorem plainD_ok (S : Sy I A [PD p s i st] L h) (T : TD I s i st.toks) {x : Node} {c : Bool} {st' : PSt} (hm : plainD st = some ((x, c), st')) :
    Ev (fun n => shD n 73 [.p p 0] h) (fun v h' => ∃ i' cs, v = .t [.a cs, .b c] ∧ Sy I A [PD p s i' st'] L h' ∧ TD I s i' st'.toks ∧ NV I x cs) := by
  have hs := T.one
  unfold plainD at hm
  obtain ⟨t, ht, hm⟩ := Option.bind_eq_some_iff.1 hm
  obtain ⟨c1, hc1, hm⟩ := Option.bind_eq_some_iff.1 hm
  obtain ⟨d, hd, hm⟩ := Option.bind_eq_some_iff.1 hm
  refine Ev.enter (fun n => enter73 n _ h) ?_
  unfold s73
  refine wa fun _ _ _ => ?_
  refine Ev.call (ahead_ok (k := 0) (by assumption) T ht (by omega)) ?_
  rintro _ _ ⟨rfl, S1⟩
  refine wa fun _ _ _ => ?_; refine wt fun _ _ => ?_
  refine Ev.call (isD_ok (by assumption) T hc1) ?_
  rintro _ _ ⟨rfl, S2⟩
  have pos : ∀ (b3 b1 : Pos) (h' : Hp), d = true → Sy I A [PD p s i st] ((b3, some (.row .ex (tc t))) :: (b1, some (.row .ex [.i .i64 (Int.ofNat 0), .s [], .i .i64 (Int.ofNat 0), .l0, .l0, .l0])) :: L) h' →
      Ev (fun n => bnd (shD n 42 [.p p 0] h') fun v19 h19 =>
    bnd (shD n 42 [.p p 0] h19) fun v20 h20 =>
    bnd (pPart1 2 v20 h20) fun v21 h21 =>
    bnd (pUn .neg v21 h21) fun v22 h22 =>
    bnd (pBuild [(.i .i64 (Int.ofNat 0)), (.s []), (.i .i64 (Int.ofNat 0)), .l0, .l0, .l0] [(0, 1, (.i .i64 (Int.ofNat 1))), (2, 1, v22)] h22) fun v23 h23 =>
    bnd (pStore 6 (.p b1 0) v23 h23) fun _ h24 =>
    bnd (pLoadA 6 (.p b1 0) h24) fun v25 _ =>
    some (.t [v25, (.b true)], h24)) (fun v h' => ∃ i' cs, v = .t [.a cs, .b c] ∧ Sy I A [PD p s i' st'] L h' ∧ TD I s i' st'.toks ∧ NV I x cs) := by
    intro b3 b1 h' hd S'
    subst hd
    rw [if_pos rfl] at hm
    obtain ⟨⟨t1, st1⟩, ht1, hm⟩ := Option.bind_eq_some_iff.1 hm
    obtain ⟨⟨t2, st2⟩, ht2, hm⟩ := Option.bind_eq_some_iff.1 hm
    simp only [Option.some.injEq, Prod.mk.injEq] at hm
    obtain ⟨⟨rfl, rfl⟩, rfl⟩ := hm
    refine Ev.call (takeR_ok S' T ht1) ?_
    rintro _ _ ⟨rfl, i3, S3, T3⟩
    refine Ev.call (takeR_ok S3 T3 ht2) ?_
    rintro _ _ ⟨rfl, i4, S4, T4⟩
    refine wp ?_
    refine Ev.neg ?_
    refine wd ?_; refine wt fun _ _ => ?_; refine ws ?_
    exact Ev.ret ⟨i4, _, rfl, dp, T4, NV.flat _ _ _⟩
  have neg : ∀ (b3 b1 : Pos) (h' : Hp), d = false → Sy I A [PD p s i st] ((b3, some (.row .ex (tc t))) :: (b1, some (.row .ex [.i .i64 (Int.ofNat 0), .s [], .i .i64 (Int.ofNat 0), .l0, .l0, .l0])) :: L) h' →
      Ev (fun n => bnd (shD n 41 [.p p 0, (.i .i64 (Int.ofNat 4)), (.s [])] h') fun v26 h26 =>
    ifD v26 (
      bnd (shD n 42 [.p p 0] h26) fun v27 h27 =>
      bnd (pPart1 2 v27 h27) fun v28 h28 =>
      bnd (pBuild [(.i .i64 (Int.ofNat 0)), (.s []), (.i .i64 (Int.ofNat 0)), .l0, .l0, .l0] [(0, 1, (.i .i64 (Int.ofNat 1))), (2, 1, v28)] h28) fun v29 h29 =>
      bnd (pStore 6 (.p b1 0) v29 h29) fun _ h30 =>
      bnd (pLoadA 6 (.p b1 0) h30) fun v31 _ =>
      some (.t [v31, (.b true)], h30)) (
      bnd (shD n 41 [.p p 0, (.i .i64 (Int.ofNat 5)), (.s [])] h26) fun v32 h32 =>
      ifD v32 (
        bnd (shD n 42 [.p p 0] h32) fun v33 h33 =>
        bnd (pPart1 1 v33 h33) fun v34 h34 =>
        bnd (pBuild [(.i .i64 (Int.ofNat 0)), (.s []), (.i .i64 (Int.ofNat 0)), .l0, .l0, .l0] [(0, 1, (.i .i64 (Int.ofNat 2))), (1, 1, v34)] h34) fun v35 h35 =>
        bnd (pStore 6 (.p b1 0) v35 h35) fun _ h36 =>
        bnd (pLoadA 6 (.p b1 0) h36) fun v37 _ =>
        some (.t [v37, (.b true)], h36)) (
        bnd (shD n 41 [.p p 0, (.i .i64 (Int.ofNat 6)), (.s [])] h32) fun v38 h38 =>
        ifD v38 (
          bnd (shD n 42 [.p p 0] h38) fun v39 h39 =>
          bnd (pPart1 1 v39 h39) fun v40 h40 =>
          bnd (pBuild [(.i .i64 (Int.ofNat 0)), (.s []), (.i .i64 (Int.ofNat 0)), .l0, .l0, .l0] [(0, 1, (.i .i64 (Int.ofNat 3))), (1, 1, v40)] h40) fun v41 h41 =>
          bnd (pStore 6 (.p b1 0) v41 h41) fun _ h42 =>
          bnd (pLoadA 6 (.p b1 0) h42) fun v43 _ =>
          some (.t [v43, (.b true)], h42)) (
          bnd (pBuild [(.i .i64 (Int.ofNat 0)), (.s []), (.i .i64 (Int.ofNat 0)), .l0, .l0, .l0] [] h38) fun v44 h44 =>
          bnd (pStore 6 (.p b1 0) v44 h44) fun _ h45 =>
          bnd (pLoadA 6 (.p b1 0) h45) fun v46 _ =>
          some (.t [v46, (.b false)], h45))))) (fun v h' => ∃ i' cs, v = .t [.a cs, .b c] ∧ Sy I A [PD p s i' st'] L h' ∧ TD I s i' st'.toks ∧ NV I x cs) := by
    intro b3 b1 h' hd S'
    subst hd
    rw [if_neg (by simp)] at hm
    obtain ⟨c4, hc4, hm⟩ := Option.bind_eq_some_iff.1 hm
    refine Ev.call (isD_ok S' T hc4) ?_
    rintro _ _ ⟨rfl, S3⟩
    cases c4 with
    | true =>
      refine yt ?_
      rw [if_pos rfl] at hm
      obtain ⟨⟨t1, st1⟩, ht1, hm⟩ := Option.bind_eq_some_iff.1 hm
      simp only [Option.some.injEq, Prod.mk.injEq] at hm
      obtain ⟨⟨rfl, rfl⟩, rfl⟩ := hm
      refine Ev.call (takeR_ok (by assumption) T ht1) ?_
      rintro _ _ ⟨rfl, i3, S3, T3⟩
      refine wp ?_; refine wd ?_; refine wt fun _ _ => ?_; refine ws ?_
      exact Ev.ret ⟨i3, _, rfl, dp, T3, NV.flat _ _ _⟩
    | false =>
      refine yj ?_
      rw [if_neg (by simp)] at hm
      obtain ⟨c5, hc5, hm⟩ := Option.bind_eq_some_iff.1 hm
      refine Ev.call (isD_ok S3 T hc5) ?_
      rintro _ _ ⟨rfl, S4⟩
      cases c5 with
      | true =>
        refine yt ?_
        rw [if_pos rfl] at hm
        obtain ⟨⟨t1, st1⟩, ht1, hm⟩ := Option.bind_eq_some_iff.1 hm
        simp only [Option.some.injEq, Prod.mk.injEq] at hm
        obtain ⟨⟨rfl, rfl⟩, rfl⟩ := hm
        refine Ev.call (takeR_ok (by assumption) T ht1) ?_
        rintro _ _ ⟨rfl, i3, S3, T3⟩
        refine wp ?_; refine wd ?_; refine wt fun _ _ => ?_; refine ws ?_
        exact Ev.ret ⟨i3, _, rfl, dp, T3, NV.flat _ _ _⟩
      | false =>
        refine yj ?_
        rw [if_neg (by simp)] at hm
        obtain ⟨c6, hc6, hm⟩ := Option.bind_eq_some_iff.1 hm
        refine Ev.call (isD_ok S4 T hc6) ?_
        rintro _ _ ⟨rfl, S5⟩
        cases c6 with
        | true =>
          refine yt ?_
          rw [if_pos rfl] at hm
          obtain ⟨⟨t1, st1⟩, ht1, hm⟩ := Option.bind_eq_some_iff.1 hm
          simp only [Option.some.injEq, Prod.mk.injEq] at hm
          obtain ⟨⟨rfl, rfl⟩, rfl⟩ := hm
          refine Ev.call (takeR_ok (by assumption) T ht1) ?_
          rintro _ _ ⟨rfl, i3, S3, T3⟩
          refine wp ?_; refine wd ?_; refine wt fun _ _ => ?_; refine ws ?_
          exact Ev.ret ⟨i3, _, rfl, dp, T3, NV.flat _ _ _⟩
        | false =>
          refine yj ?_; refine wd ?_; refine wt fun _ _ => ?_; refine ws ?_
          rw [if_neg (by simp)] at hm
          simp only [Option.some.injEq, Prod.mk.injEq] at hm
          obtain ⟨⟨rfl, rfl⟩, rfl⟩ := hm
          exact Ev.ret ⟨i, _, rfl, dp, T, NV.flat _ _ _⟩
  cases c1 with
  | false =>
    simp only [Bool.false_eq_true, if_false, Option.some.injEq] at hd
    refine yf ?_; refine yf ?_; refine yf ?_; refine yf ?_; refine aq ?_; refine yf ?_; refine yf ?_; refine yf ?_; refine yf ?_; refine yf ?_
    refine Ev.cnd rfl ?_
    refine yf ?_; refine yf ?_; refine aq ?_; refine yj ?_
    exact neg _ _ _ hd.symm S2
  | true =>
    rw [if_pos rfl] at hd
    obtain ⟨u, hu, hd⟩ := Option.bind_eq_some_iff.1 hd
    simp only [Option.some.injEq] at hd
    refine zt ?_; refine wm ?_; refine zt ?_
    refine Ev.call (ahead_ok (k := 1) S2 T hu (by omega)) ?_
    rintro _ h7 ⟨rfl, S3⟩
    refine zt ?_; refine wp ?_; refine zt ?_
    refine Ev.ieq (fun e1 => ?_) (fun e1 => ?_)
    · refine ap ?_; refine zt ?_; refine wm ?_; refine zt ?_
      refine Ev.call (ahead_ok (k := 1) S3 T hu (by omega)) ?_
      rintro _ _ ⟨rfl, S4⟩
      refine zt ?_; refine wp ?_; refine zt ?_; refine wf ?_; refine zt ?_; refine wl ?_
      refine Ev.cnd ?_ ?_
      · rw [Bool.and_true]
        exact same1 (S := S3) (List.Mem.head _) rfl rfl (by simp [DV.beq])
      refine zt ?_
      refine Ev.iadd ?_
      refine zt ?_
      refine Ev.ieq (fun e2 => ?_) (fun e2 => ?_)
      · refine ap ?_; refine yt ?_
        exact pos _ _ _ (by rw [← hd, decide_eq_true (show u.kind = 4 from e1), decide_eq_true (show u.pos = w64 (t.pos + 1) from e2)]; rfl) S4
      · refine ap ?_; refine yj ?_
        exact neg _ _ _ (by rw [← hd, decide_eq_true (show u.kind = 4 from e1), decide_eq_false (show ¬ u.pos = w64 (t.pos + 1) from e2)]; rfl) S4
    · refine ap ?_; refine yf ?_; refine yf ?_; refine yf ?_; refine yf ?_; refine yf ?_
      refine Ev.cnd rfl ?_
      refine yf ?_; refine yf ?_; refine aq ?_; refine yj ?_
      exact neg _ _ _ (by rw [← hd, decide_eq_false (show ¬ u.kind = 4 from e1)]; rfl) S3

theorem tempsD_loop : ∀ (f j : Nat) (I : Im) (B A L : Ls) (h : Hp) (p : Pos) (s x : DV) (i : Nat) (st : PSt) (l l' : List (List Nat)) (st' : PSt), Sy I (B ++ A) [PD p s i st] L h → Gr I 1 B x l.length (l.map .s) → l.length + f ≤ lim →
    TD I s i st.toks → tempsLD f l st = some (l', st') →
    Ev (fun n => s26a8l (shD n) n (n - j) (.p p 0) x h) (fun v h' => ∃ J i', ILe I J ∧ Sy J A [PD p s i' st'] L h' ∧ TD J s i' st'.toks ∧ SS J v l')
  | 0, j, I, B, A, L, h, p, s, x, i, st, l, l', st', S, G, hl, T, hm => by cases hm
  | f + 1, j, I, B, A, L, h, p, s, x, i, st, l, l', st', S, G, hl, T, hm => by
    unfold tempsLD at hm
    obtain ⟨c, hc, hm⟩ := Option.bind_eq_some_iff.1 hm
    refine Ev.loop j (ll := fun n m => s26a8l (shD n) n m (.p p 0) x h) (bb := fun n m => s26a8b (shD n) n (s26a8l (shD n) n m) (.p p 0) x h) (fun _ _ => rfl) ?_
    unfold s26a8b s26a7 s26a3
    refine Ev.call (isD_ok S T hc) ?_
    rintro _ _ ⟨rfl, S1⟩
    cases c with
    | false =>
      refine yj ?_
      rw [if_neg (by simp)] at hm
      obtain ⟨⟨t, st1⟩, ht, hm⟩ := Option.bind_eq_some_iff.1 hm
      simp only [Option.some.injEq, Prod.mk.injEq] at hm
      obtain ⟨rfl, rfl⟩ := hm
      refine Ev.call (needD_ok S1 T ht) ?_
      rintro _ _ ⟨rfl, i2, S2, T2⟩
      obtain ⟨J, gJ, S3, F3⟩ := G.freeze S2
      exact Ev.ret ⟨J, i2, gJ, S3, T2.mono gJ, by omega, F3⟩
    | true =>
      refine yt ?_
      rw [if_pos rfl] at hm
      obtain ⟨⟨t, st1⟩, ht, hm⟩ := Option.bind_eq_some_iff.1 hm
      refine Ev.call (takeR_ok S1 T ht) ?_
      rintro _ _ ⟨rfl, i2, S2, T2⟩
      refine wp ?_
      refine Ev.bs S2 (cs := [.s t.text]) rfl ?_
      intro b3 h3 S3
      have hr : (l.length + 1) * 16 ≤ roomD := by simp [roomD, lim] at hl ⊢; omega
      obtain ⟨x4, h4, B4, e4, S4, G4⟩ := G.app S3 (src_own S3 (n := 1) (List.Mem.head _) rfl (ones_cons rfl ones_nil)) rfl (ones_cons rfl ones_nil) (by omega) hr
      refine Ev.op e4 ?_
      refine tempsD_loop f (j + 1) I B4 A L h4 p s x4 i2 st1 (l ++ [t.text]) l' st' (dp) ?_ (by simp; omega) T2 hm
      simpa using G4

theorem tempsD_ok (f : Nat) (hf : f ≤ lim) (S : Sy I A [PD p s i st] L h) (T : TD I s i st.toks) {l' : List (List Nat)} {st' : PSt} (hm : tempsD f st = some (l', st')) :
    Ev (fun n => shD n 26 [.p p 0] h) (fun v h' => ∃ J i', ILe I J ∧ Sy J A [PD p s i' st'] L h' ∧ TD J s i' st'.toks ∧ SS J v l') := by
  unfold tempsD at hm
  obtain ⟨c, hc, hm⟩ := Option.bind_eq_some_iff.1 hm
  refine Ev.enter (fun n => enter26 n _ h) ?_
  unfold s26 s26a1 s26a2
  refine Ev.call (isD_ok S T hc) ?_
  rintro _ _ ⟨rfl, S1⟩
  unfold s26a4
  cases c with
  | false =>
    refine yj ?_
    rw [if_neg (by simp)] at hm
    simp only [Option.some.injEq, Prod.mk.injEq] at hm
    obtain ⟨rfl, rfl⟩ := hm
    unfold s26a3
    exact Ev.ret ⟨I, i, ILe.refl _, S1, T, SS.nil I⟩
  | true =>
    refine yt ?_
    rw [if_pos rfl] at hm
    obtain ⟨⟨t, st1⟩, ht, hm⟩ := Option.bind_eq_some_iff.1 hm
    unfold s26a5 s26a6 s26a8
    refine Ev.call (takeR_ok S1 T ht) ?_
    rintro _ _ ⟨rfl, i2, S2, T2⟩
    exact tempsD_loop f 0 I [] A L _ p s .l0 i2 st1 [] l' st' S2 (Gr.nil I 1) (by simpa using hf) T2 hm

end
end Go.Dd

/- Dd, part Y2: the document's parser: messages. -/
set_option linter.unusedVariables false
set_option linter.unusedSimpArgs false
set_option maxRecDepth 100000
namespace Go.Dd
open Go.Proofs

def unaryD : Nat → Node → PSt → Option (Node × PSt)
  | 0, _, _ => none
  | f + 1, x, st => (isS st 1 []).bind fun c => if c then (takeR st).bind fun r => unaryD f (sendN r.1.text [x]) r.2 else some (x, st)
def binaryD (P : PF) (g : Nat) : Nat → Node → PSt → Option (Node × PSt)
  | 0, _, _ => none
  | f + 1, x, st => (isS st 3 []).bind fun c => if c then (takeR st).bind fun r => (P r.2).bind fun q => (unaryD g q.1 q.2).bind fun u => binaryD P g f (sendN r.1.text [x, u.1]) u.2 else some (x, st)
def keysLD (P : PF) (g : Nat) : Nat → List Nat → List Node → PSt → Option (Node × PSt)
  | 0, _, _, _ => none
  | f + 1, t, ks, st => (isS st 2 []).bind fun c => if c then (takeR st).bind fun r => if t.length + r.1.text.length ≤ lim then
      (P r.2).bind fun q => (unaryD g q.1 q.2).bind fun u => (binaryD P g g u.1 u.2).bind fun w => keysLD P g f (t ++ r.1.text) (ks ++ [w.1]) w.2 else none
    else some (sendN t ks, st)
def msgD (P : PF) (g : Nat) : PF := fun st => (isS st 1 []).bind fun c => if c then (takeR st).bind fun r => some (sendN r.1.text [], r.2)
  else (isS st 3 []).bind fun c => if c then (takeR st).bind fun r => (P r.2).bind fun q => (unaryD g q.1 q.2).bind fun u => some (sendN r.1.text [u.1], u.2)
  else (isS st 2 []).bind fun c => (if c then some st else (lookS st 0).bind fun t => some (failS st t 13)).bind fun st1 => keysLD P g g [] [] st1
def keysD (P : PF) (g : Nat) : Node → PF := fun x st => (isS st 2 []).bind fun c => if c then (msgD P g st).bind fun m => if 1 ≤ m.1.kids.length ∧ m.1.kids.length + 1 ≤ lim then some (sendN m.1.text (x :: m.1.kids), m.2) else none else some (x, st)

/-- What a method that answers a node leaves. -/
def NPostD (I : Im) (A L : Ls) (p : Pos) (s : DV) (x : Node) (st : PSt) (v : DV) (h : Hp) : Prop := ∃ J i cs, v = .a cs ∧ ILe I J ∧ Sy J A [PD p s i st] L h ∧ TD J s i st.toks ∧ NV J x cs

theorem NPostD.le {I J : Im} {A L : Ls} {p : Pos} {s : DV} {x : Node} {st : PSt} (g : ILe I J) : ∀ v h, NPostD J A L p s x st v h → NPostD I A L p s x st v h := by
  rintro v h ⟨K, i, cs, e, g2, r⟩
  exact ⟨K, i, cs, e, g.trans g2, r⟩

def NOkD (g : FuncId) (f : PF) : Prop := ∀ (I : Im) (A L : Ls) (h : Hp) (p : Pos) (s : DV) (i : Nat) (st : PSt) (x : Node) (st' : PSt), Sy I A [PD p s i st] L h → TD I s i st.toks → f st = some (x, st') →
  Ev (fun n => shD n g [.p p 0] h) (NPostD I A L p s x st')
def NOk1D (g : FuncId) (f : Node → PF) : Prop := ∀ (I : Im) (A L : Ls) (h : Hp) (p : Pos) (s : DV) (i : Nat) (st : PSt) (x y : Node) (cs : List DV) (st' : PSt), Sy I A [PD p s i st] L h → TD I s i st.toks → NV I x cs → f x st = some (y, st') →
  Ev (fun n => shD n g [.p p 0, .a cs] h) (NPostD I A L p s y st')

theorem enter58 (n : Nat) (x y : DV) (h : Hp) : shD (n + 1) 58 [x, y] h = s58 (shD n) n x y h := by kernel_rfl
theorem enter59 (n : Nat) (x y : DV) (h : Hp) : shD (n + 1) 59 [x, y] h = s59 (shD n) n x y h := by kernel_rfl
theorem enter60 (n : Nat) (x y : DV) (h : Hp) : shD (n + 1) 60 [x, y] h = s60 (shD n) n x y h := by kernel_rfl
theorem enter61 (n : Nat) (x : DV) (h : Hp) : shD (n + 1) 61 [x] h = s61 (shD n) n x h := by kernel_rfl

theorem unaryD_loop : ∀ (f j : Nat) (I : Im) (A L : Ls) (h : Hp) (p : Pos) (s : DV) (i : Nat) (st : PSt) (x y : Node) (cs z : List DV) (st' : PSt) (b3 b4 : Pos), Sy I A [PD p s i st] ((b4, some (.row .ex z)) :: (b3, some (.row .ex cs)) :: L) h →
    z.length = 6 → (∀ v ∈ z, v.one = true) → TD I s i st.toks → NV I x cs → unaryD f x st = some (y, st') → Ev (fun n => s58a3l (shD n) n (n - j) (.p p 0) (.p b3 0) (.p b4 0) h) (NPostD I A L p s y st')
  | 0, j, I, A, L, h, p, s, i, st, x, y, cs, z, st', b3, b4, S, z1, z2, T, N, hm => by cases hm
  | f + 1, j, I, A, L, h, p, s, i, st, x, y, cs, z, st', b3, b4, S, z1, z2, T, N, hm => by
    unfold unaryD at hm
    obtain ⟨c, hc, hm⟩ := Option.bind_eq_some_iff.1 hm
    refine Ev.loop j (ll := fun n m => s58a3l (shD n) n m (.p p 0) (.p b3 0) (.p b4 0) h) (bb := fun n m => s58a3b (shD n) n (s58a3l (shD n) n m) (.p p 0) (.p b3 0) (.p b4 0) h) (fun _ _ => rfl) ?_
    unfold s58a3b s58a2
    obtain ⟨l1, o1, b1⟩ := N.shape
    refine Ev.call (isD_ok S T hc) ?_
    rintro _ _ ⟨rfl, S1⟩
    cases c with
    | false =>
      refine yj ?_; refine ws ?_; refine wt fun _ _ => ?_; refine ws ?_
      rw [if_neg (by simp)] at hm
      simp only [Option.some.injEq, Prod.mk.injEq] at hm
      obtain ⟨rfl, rfl⟩ := hm
      exact Ev.ret ⟨I, i, cs, rfl, ILe.refl _, dp, T, N⟩
    | true =>
      refine yt ?_
      rw [if_pos rfl] at hm
      obtain ⟨⟨t, st1⟩, ht, hm⟩ := Option.bind_eq_some_iff.1 hm
      have Sr := S1.res
      refine Ev.call (takeR_ok Sr T ht) ?_
      rintro _ _ ⟨rfl, i2, S2, T2⟩
      refine wp ?_; refine ws ?_
      refine Ev.cnd ?_ ?_
      · rw [Bool.and_true]; exact sameA Sr (by first | exact List.Mem.head _ | exact (List.Mem.tail _ (List.Mem.head _)) | exact (List.Mem.tail _ (List.Mem.tail _ (List.Mem.head _))) | exact (List.Mem.tail _ (List.Mem.tail _ (List.Mem.tail _ (List.Mem.head _)))) | exact (List.Mem.tail _ (List.Mem.tail _ (List.Mem.tail _ (List.Mem.tail _ (List.Mem.head _))))) | exact (List.Mem.tail _ (List.Mem.tail _ (List.Mem.tail _ (List.Mem.tail _ (List.Mem.tail _ (List.Mem.head _)))))) | exact (List.Mem.tail _ (List.Mem.tail _ (List.Mem.tail _ (List.Mem.tail _ (List.Mem.tail _ (List.Mem.tail _ (List.Mem.head _))))))) | exact (List.Mem.tail _ (List.Mem.tail _ (List.Mem.tail _ (List.Mem.tail _ (List.Mem.tail _ (List.Mem.tail _ (List.Mem.tail _ (List.Mem.head _)))))))) | exact (List.Mem.tail _ (List.Mem.tail _ (List.Mem.tail _ (List.Mem.tail _ (List.Mem.tail _ (List.Mem.tail _ (List.Mem.tail _ (List.Mem.tail _ (List.Mem.head _)))))))))) l1 o1 b1
      refine Ev.bsAt0 S2 (by first | exact Rpl.head _ | exact (Rpl.tail _ (Rpl.head _)) | exact (Rpl.tail _ (Rpl.tail _ (Rpl.head _))) | exact (Rpl.tail _ (Rpl.tail _ (Rpl.tail _ (Rpl.head _)))) | exact (Rpl.tail _ (Rpl.tail _ (Rpl.tail _ (Rpl.tail _ (Rpl.head _))))) | exact (Rpl.tail _ (Rpl.tail _ (Rpl.tail _ (Rpl.tail _ (Rpl.tail _ (Rpl.head _)))))) | exact (Rpl.tail _ (Rpl.tail _ (Rpl.tail _ (Rpl.tail _ (Rpl.tail _ (Rpl.tail _ (Rpl.head _))))))) | exact (Rpl.tail _ (Rpl.tail _ (Rpl.tail _ (Rpl.tail _ (Rpl.tail _ (Rpl.tail _ (Rpl.tail _ (Rpl.head _)))))))) | exact (Rpl.tail _ (Rpl.tail _ (Rpl.tail _ (Rpl.tail _ (Rpl.tail _ (Rpl.tail _ (Rpl.tail _ (Rpl.tail _ (Rpl.head _)))))))))) (fill6 l1) ?_
      intro h3 S3
      obtain ⟨J, gJ, S4, F4, _⟩ := Fz.built (sz := 6) (n := 1) S3 (by omega) o1
      have N4 : NS J _ [x] := ⟨by simp [lim], cs, F4, NVL.single (N.mono gJ)⟩
      have N5 := NV.of (I := J) (k := 7) (t := t.text) (m := 0) (SS.nil J) (SS.nil J) N4
      refine wd ?_; refine wt fun _ _ => ?_
      refine (unaryD_loop f (j + 1) J A L _ p s i2 st1 _ y _ z st' b3 b4 (by assumption) z1 z2 (T2.mono gJ) N5 hm).mono (NPostD.le gJ)

theorem unaryD_ok (f : Nat) : NOk1D 58 (unaryD f) := by
  intro I A L h p s i st x y cs st' S T N hm
  refine Ev.enter (fun n => enter58 n _ _ h) ?_
  unfold s58 s58a1 s58a3
  refine wb fun _ _ _ => ?_; refine wa fun _ _ _ => ?_
  exact unaryD_loop f 0 _ _ _ _ _ _ _ _ _ _ _ _ _ _ _ (by assumption) rfl (by first | assumption | exact tc_ones _ | (repeat (first | exact ones_nil | refine ones_cons (by first | rfl | assumption | exact Fz.one (by assumption)) ?_))) T N hm

theorem binaryD_loop {P : PF} (HP : NOkD 57 P) (g : Nat) : ∀ (f j : Nat) (I : Im) (A L : Ls) (h : Hp) (p : Pos) (s : DV) (i : Nat) (st : PSt) (x y : Node) (cs z : List DV) (st' : PSt) (b3 b4 : Pos), Sy I A [PD p s i st] ((b4, some (.row .ex z)) :: (b3, some (.row .ex cs)) :: L) h →
    z.length = 6 → (∀ v ∈ z, v.one = true) → TD I s i st.toks → NV I x cs → binaryD P g f x st = some (y, st') → Ev (fun n => s59a3l (shD n) n (n - j) (.p p 0) (.p b3 0) (.p b4 0) h) (NPostD I A L p s y st')
  | 0, j, I, A, L, h, p, s, i, st, x, y, cs, z, st', b3, b4, S, z1, z2, T, N, hm => by cases hm
  | f + 1, j, I, A, L, h, p, s, i, st, x, y, cs, z, st', b3, b4, S, z1, z2, T, N, hm => by
    unfold binaryD at hm
    obtain ⟨c, hc, hm⟩ := Option.bind_eq_some_iff.1 hm
    refine Ev.loop j (ll := fun n m => s59a3l (shD n) n m (.p p 0) (.p b3 0) (.p b4 0) h) (bb := fun n m => s59a3b (shD n) n (s59a3l (shD n) n m) (.p p 0) (.p b3 0) (.p b4 0) h) (fun _ _ => rfl) ?_
    unfold s59a3b s59a2
    obtain ⟨l1, o1, q1⟩ := N.shape
    refine Ev.call (isD_ok S T hc) ?_
    rintro _ _ ⟨rfl, S1⟩
    cases c with
    | false =>
      refine yj ?_; refine ws ?_; refine wt fun _ _ => ?_; refine ws ?_
      rw [if_neg (by simp)] at hm
      simp only [Option.some.injEq, Prod.mk.injEq] at hm
      obtain ⟨rfl, rfl⟩ := hm
      exact Ev.ret ⟨I, i, cs, rfl, ILe.refl _, dp, T, N⟩
    | true =>
      refine yt ?_
      rw [if_pos rfl] at hm
      obtain ⟨⟨t, st1⟩, ht, hm⟩ := Option.bind_eq_some_iff.1 hm
      obtain ⟨⟨y1, st2⟩, hy1, hm⟩ := Option.bind_eq_some_iff.1 hm
      obtain ⟨⟨y2, st3⟩, hy2, hm⟩ := Option.bind_eq_some_iff.1 hm
      refine Ev.call (takeR_ok S1 T ht) ?_
      rintro _ _ ⟨rfl, i2, S2, T2⟩
      refine wp ?_
      refine Ev.call (HP _ _ _ _ _ _ _ _ _ _ S2 T2 hy1) ?_
      rintro _ _ ⟨J, i5, ds, rfl, g5, S5, T5, N5⟩
      obtain ⟨l5, o5, q5⟩ := N5.shape
      refine wa fun _ _ _ => ?_; refine wt fun _ _ => ?_; refine ws ?_
      refine Ev.call (unaryD_ok g _ _ _ _ _ _ _ _ _ _ _ _ (by assumption) T5 N5 hy2) ?_
      rintro _ _ ⟨K, i6, es, rfl, g6, S6, T6, N6⟩
      obtain ⟨l6, o6, q6⟩ := N6.shape
      refine wt fun _ _ => ?_; refine ws ?_; refine ws ?_
      refine Ev.bs (by assumption) (fill12 l1 l6) ?_
      intro b7 h7 S7
      have NL7 : NVL K [x, y2] (cs ++ es) := (NVL.single ((N.mono g5).mono g6)).app (NVL.single N6)
      obtain ⟨c1, c2⟩ := NL7.shape
      obtain ⟨M, g8, S8, F8, _⟩ := Fz.built (sz := 6) (n := 2) S7 c1 c2
      have N8 : NS M _ [x, y2] := ⟨by simp [lim], _, F8, NL7.mono g8⟩
      have N9 := NV.of (I := M) (k := 7) (t := t.text) (m := 0) (SS.nil M) (SS.nil M) N8
      refine wd ?_; refine wt fun _ _ => ?_
      refine (binaryD_loop HP g f (j + 1) M A L _ p s i6 st3 _ y _ z st' b3 b4 ?_ z1 z2 (T6.mono g8) N9 hm).mono (NPostD.le ((g5.trans g6).trans g8))
      exact Sy.dropL (by assumption)

theorem binaryD_ok {P : PF} (HP : NOkD 57 P) (g f : Nat) : NOk1D 59 (binaryD P g f) := by
  intro I A L h p s i st x y cs st' S T N hm
  refine Ev.enter (fun n => enter59 n _ _ h) ?_
  unfold s59 s59a1 s59a3
  refine wb fun _ _ _ => ?_; refine wa fun _ _ _ => ?_
  exact binaryD_loop HP g f 0 _ _ _ _ _ _ _ _ _ _ _ _ _ _ _ (by assumption) rfl (by first | assumption | exact tc_ones _ | (repeat (first | exact ones_nil | refine ones_cons (by first | rfl | assumption | exact Fz.one (by assumption)) ?_))) T N hm

theorem keysD_loop {P : PF} (HP : NOkD 57 P) (g : Nat) : ∀ (f j : Nat) (I : Im) (B A L : Ls) (h : Hp) (p : Pos) (s x : DV) (i : Nat) (st : PSt) (t : List Nat) (xs : List Node) (y : Node) (cells z : List DV) (st' : PSt) (b4 b5 : Pos),
    Sy I (B ++ A) [PD p s i st] ((b5, some (.row .ex [.i .i64 (Int.ofNat 7), .s t, .i .i64 (Int.ofNat 0), .l0, .l0, x])) :: (b4, some (.row .ex z)) :: L) h → Gr I 6 B x xs.length cells → NVL I xs cells → z.length = 6 → (∀ v ∈ z, v.one = true) →
    xs.length + f ≤ lim → TD I s i st.toks → keysLD P g f t xs st = some (y, st') →
    Ev (fun n => s61a7l (shD n) n (n - j) (.p p 0) (.p b4 0) (.p b5 0) h) (NPostD I A L p s y st')
  | 0, j, I, B, A, L, h, p, s, x, i, st, t, xs, y, cells, z, st', b4, b5, S, G, NL, z1, z2, hl, T, hm => by cases hm
  | f + 1, j, I, B, A, L, h, p, s, x, i, st, t, xs, y, cells, z, st', b4, b5, S, G, NL, z1, z2, hl, T, hm => by
    unfold keysLD at hm
    obtain ⟨c, hc, hm⟩ := Option.bind_eq_some_iff.1 hm
    refine Ev.loop j (ll := fun n m => s61a7l (shD n) n m (.p p 0) (.p b4 0) (.p b5 0) h) (bb := fun n m => s61a7b (shD n) n (s61a7l (shD n) n m) (.p p 0) (.p b4 0) (.p b5 0) h) (fun _ _ => rfl) ?_
    have hx := G.one
    unfold s61a7b s61a6
    refine Ev.call (isD_ok S T hc) ?_
    rintro _ _ ⟨rfl, S1⟩
    cases c with
    | false =>
      rw [if_neg (by simp)] at hm
      simp only [Option.some.injEq, Prod.mk.injEq] at hm
      obtain ⟨rfl, rfl⟩ := hm
      obtain ⟨J, gJ, S3, N3⟩ := G.nodes NL S1 (by omega)
      refine yj ?_; refine ws ?_; refine wt fun _ _ => ?_; refine ws ?_
      exact Ev.ret ⟨J, i, _, rfl, gJ, dp, T.mono gJ, NV.of (SS.nil J) (SS.nil J) N3⟩
    | true =>
      rw [if_pos rfl] at hm
      obtain ⟨⟨t1, st1⟩, ht, hm⟩ := Option.bind_eq_some_iff.1 hm
      split at hm
      · rename_i hlen
        obtain ⟨⟨y1, st2⟩, hy1, hm⟩ := Option.bind_eq_some_iff.1 hm
        obtain ⟨⟨y2, st3⟩, hy2, hm⟩ := Option.bind_eq_some_iff.1 hm
        obtain ⟨⟨y3, st4⟩, hy3, hm⟩ := Option.bind_eq_some_iff.1 hm
        refine yt ?_; refine wf ?_; refine wl ?_
        refine Ev.call (takeR_ok S1 T ht) ?_
        rintro _ _ ⟨rfl, i2, S2, T2⟩
        refine Ev.cnd ?_ ?_
        · rw [Bool.and_true]; exact same1S S2 (by first | exact List.Mem.head _ | exact (List.Mem.tail _ (List.Mem.head _)) | exact (List.Mem.tail _ (List.Mem.tail _ (List.Mem.head _))) | exact (List.Mem.tail _ (List.Mem.tail _ (List.Mem.tail _ (List.Mem.head _)))) | exact (List.Mem.tail _ (List.Mem.tail _ (List.Mem.tail _ (List.Mem.tail _ (List.Mem.head _))))) | exact (List.Mem.tail _ (List.Mem.tail _ (List.Mem.tail _ (List.Mem.tail _ (List.Mem.tail _ (List.Mem.head _)))))) | exact (List.Mem.tail _ (List.Mem.tail _ (List.Mem.tail _ (List.Mem.tail _ (List.Mem.tail _ (List.Mem.tail _ (List.Mem.head _))))))) | exact (List.Mem.tail _ (List.Mem.tail _ (List.Mem.tail _ (List.Mem.tail _ (List.Mem.tail _ (List.Mem.tail _ (List.Mem.tail _ (List.Mem.head _)))))))) | exact (List.Mem.tail _ (List.Mem.tail _ (List.Mem.tail _ (List.Mem.tail _ (List.Mem.tail _ (List.Mem.tail _ (List.Mem.tail _ (List.Mem.tail _ (List.Mem.head _)))))))))) rfl rfl (beq_s _)
        refine wp ?_
        refine Ev.sadd (by simp only [lim] at hlen; omega) ?_
        refine wf ?_; refine wu fun _ _ => ?_
        refine Ev.call (HP _ _ _ _ _ _ _ _ _ _ (by assumption) T2 hy1) ?_
        rintro _ _ ⟨J, i5, ds, rfl, g5, S5, T5, N5⟩
        obtain ⟨l5, o5, q5⟩ := N5.shape
        refine wa fun _ _ _ => ?_; refine wt fun _ _ => ?_; refine ws ?_
        refine Ev.call (unaryD_ok g _ _ _ _ _ _ _ _ _ _ _ _ (by assumption) T5 N5 hy2) ?_
        rintro _ _ ⟨K, i6, es, rfl, g6, S6, T6, N6⟩
        obtain ⟨l6, o6, q6⟩ := N6.shape
        refine wt fun _ _ => ?_; refine wf ?_
        have Sr := Sy.res (by assumption)
        refine wl ?_; refine ws ?_
        refine Ev.call (binaryD_ok HP g g _ _ _ _ _ _ _ _ _ _ _ _ Sr T6 N6 hy3) ?_
        rintro _ _ ⟨M, i7, fs, rfl, g7, S7, T7, N7⟩
        obtain ⟨l7, o7, q7⟩ := N7.shape
        refine Ev.cnd ?_ ?_
        · rw [Bool.and_true]; exact same1S S7 (by first | exact List.Mem.head _ | exact (List.Mem.tail _ (List.Mem.head _)) | exact (List.Mem.tail _ (List.Mem.tail _ (List.Mem.head _))) | exact (List.Mem.tail _ (List.Mem.tail _ (List.Mem.tail _ (List.Mem.head _)))) | exact (List.Mem.tail _ (List.Mem.tail _ (List.Mem.tail _ (List.Mem.tail _ (List.Mem.head _))))) | exact (List.Mem.tail _ (List.Mem.tail _ (List.Mem.tail _ (List.Mem.tail _ (List.Mem.tail _ (List.Mem.head _)))))) | exact (List.Mem.tail _ (List.Mem.tail _ (List.Mem.tail _ (List.Mem.tail _ (List.Mem.tail _ (List.Mem.tail _ (List.Mem.head _))))))) | exact (List.Mem.tail _ (List.Mem.tail _ (List.Mem.tail _ (List.Mem.tail _ (List.Mem.tail _ (List.Mem.tail _ (List.Mem.tail _ (List.Mem.head _)))))))) | exact (List.Mem.tail _ (List.Mem.tail _ (List.Mem.tail _ (List.Mem.tail _ (List.Mem.tail _ (List.Mem.tail _ (List.Mem.tail _ (List.Mem.tail _ (List.Mem.head _)))))))))) rfl hx G.beq
        refine Ev.bsAt0 S7 (by first | exact Rpl.head _ | exact (Rpl.tail _ (Rpl.head _)) | exact (Rpl.tail _ (Rpl.tail _ (Rpl.head _))) | exact (Rpl.tail _ (Rpl.tail _ (Rpl.tail _ (Rpl.head _)))) | exact (Rpl.tail _ (Rpl.tail _ (Rpl.tail _ (Rpl.tail _ (Rpl.head _))))) | exact (Rpl.tail _ (Rpl.tail _ (Rpl.tail _ (Rpl.tail _ (Rpl.tail _ (Rpl.head _)))))) | exact (Rpl.tail _ (Rpl.tail _ (Rpl.tail _ (Rpl.tail _ (Rpl.tail _ (Rpl.tail _ (Rpl.head _))))))) | exact (Rpl.tail _ (Rpl.tail _ (Rpl.tail _ (Rpl.tail _ (Rpl.tail _ (Rpl.tail _ (Rpl.tail _ (Rpl.head _)))))))) | exact (Rpl.tail _ (Rpl.tail _ (Rpl.tail _ (Rpl.tail _ (Rpl.tail _ (Rpl.tail _ (Rpl.tail _ (Rpl.tail _ (Rpl.head _)))))))))) (fill6 l7) ?_
        intro h8 S8
        have g57 := (g5.trans g6).trans g7
        obtain ⟨x10, h10, B10, cells10, e10, S10, G10, NL10⟩ := app_node (G.mono g57) (NL.mono g57) N7 S8 (by first | exact List.Mem.head _ | exact (List.Mem.tail _ (List.Mem.head _)) | exact (List.Mem.tail _ (List.Mem.tail _ (List.Mem.head _))) | exact (List.Mem.tail _ (List.Mem.tail _ (List.Mem.tail _ (List.Mem.head _)))) | exact (List.Mem.tail _ (List.Mem.tail _ (List.Mem.tail _ (List.Mem.tail _ (List.Mem.head _))))) | exact (List.Mem.tail _ (List.Mem.tail _ (List.Mem.tail _ (List.Mem.tail _ (List.Mem.tail _ (List.Mem.head _)))))) | exact (List.Mem.tail _ (List.Mem.tail _ (List.Mem.tail _ (List.Mem.tail _ (List.Mem.tail _ (List.Mem.tail _ (List.Mem.head _))))))) | exact (List.Mem.tail _ (List.Mem.tail _ (List.Mem.tail _ (List.Mem.tail _ (List.Mem.tail _ (List.Mem.tail _ (List.Mem.tail _ (List.Mem.head _)))))))) | exact (List.Mem.tail _ (List.Mem.tail _ (List.Mem.tail _ (List.Mem.tail _ (List.Mem.tail _ (List.Mem.tail _ (List.Mem.tail _ (List.Mem.tail _ (List.Mem.head _)))))))))) (by omega)
        have hx10 := G10.one
        refine Ev.op e10 ?_
        refine wf ?_; refine wu fun _ _ => ?_
        refine (keysD_loop HP g f (j + 1) M B10 A L _ p s x10 i7 st4 (t ++ t1.text) (xs ++ [y3]) y cells10 z st' b4 b5 ?_ G10 NL10 z1 z2 (by simp; omega) T7 hm).mono (NPostD.le g57)
        exact Sy.dropL (Sy.dropL (by assumption))
      · cases hm

theorem msgD_ok {P : PF} (HP : NOkD 57 P) (g : Nat) (hg : g + 1 ≤ lim) : NOkD 61 (msgD P g) := by
  intro I A L h p s i st x st' S T hm
  have hs := T.one
  unfold msgD at hm
  obtain ⟨c1, hc1, hm⟩ := Option.bind_eq_some_iff.1 hm
  refine Ev.enter (fun n => enter61 n _ h) ?_
  unfold s61 s61a1
  refine wa fun _ _ _ => ?_; refine wd ?_; refine wa fun _ _ _ => ?_; refine wt fun _ _ => ?_
  unfold s61a2
  refine Ev.call (isD_ok (by assumption) T hc1) ?_
  rintro _ _ ⟨rfl, S1⟩
  cases c1 with
  | true =>
    refine yt ?_
    rw [if_pos rfl] at hm
    obtain ⟨⟨t, st1⟩, ht, hm⟩ := Option.bind_eq_some_iff.1 hm
    simp only [Option.some.injEq, Prod.mk.injEq] at hm
    obtain ⟨rfl, rfl⟩ := hm
    refine Ev.call (takeR_ok S1 T ht) ?_
    rintro _ _ ⟨rfl, i2, S2, T2⟩
    refine wp ?_; refine wf ?_; refine wu fun _ _ => ?_; refine ws ?_; refine wt fun _ _ => ?_; refine ws ?_
    exact Ev.ret ⟨I, i2, _, rfl, ILe.refl _, dp, T2, NV.flat _ _ _⟩
  | false =>
    refine yj ?_
    rw [if_neg (by simp)] at hm
    obtain ⟨c3, hc3, hm⟩ := Option.bind_eq_some_iff.1 hm
    unfold s61a3
    refine Ev.call (isD_ok S1 T hc3) ?_
    rintro _ _ ⟨rfl, S2⟩
    cases c3 with
    | true =>
      refine yt ?_
      rw [if_pos rfl] at hm
      obtain ⟨⟨t, st1⟩, ht, hm⟩ := Option.bind_eq_some_iff.1 hm
      obtain ⟨⟨y1, st2⟩, hy1, hm⟩ := Option.bind_eq_some_iff.1 hm
      obtain ⟨⟨y2, st3⟩, hy2, hm⟩ := Option.bind_eq_some_iff.1 hm
      simp only [Option.some.injEq, Prod.mk.injEq] at hm
      obtain ⟨rfl, rfl⟩ := hm
      refine Ev.call (takeR_ok S2 T ht) ?_
      rintro _ _ ⟨rfl, i3, S3, T3⟩
      refine wp ?_; refine wf ?_; refine wu fun _ _ => ?_
      refine Ev.call (HP _ _ _ _ _ _ _ _ _ _ (by assumption) T3 hy1) ?_
      rintro _ _ ⟨J, i5, ds, rfl, g5, S5, T5, N5⟩
      obtain ⟨l5, o5, q5⟩ := N5.shape
      refine wa fun _ _ _ => ?_; refine wt fun _ _ => ?_; refine wf ?_
      have Sr := Sy.res (by assumption)
      refine wl ?_; refine ws ?_
      refine Ev.call (unaryD_ok g _ _ _ _ _ _ _ _ _ _ _ _ Sr T5 N5 hy2) ?_
      rintro _ _ ⟨K, i6, es, rfl, g6, S6, T6, N6⟩
      obtain ⟨l6, o6, q6⟩ := N6.shape
      refine Ev.cnd ?_ ?_
      · rw [Bool.and_true]; exact same1S S6 (by first | exact List.Mem.head _ | exact (List.Mem.tail _ (List.Mem.head _)) | exact (List.Mem.tail _ (List.Mem.tail _ (List.Mem.head _))) | exact (List.Mem.tail _ (List.Mem.tail _ (List.Mem.tail _ (List.Mem.head _)))) | exact (List.Mem.tail _ (List.Mem.tail _ (List.Mem.tail _ (List.Mem.tail _ (List.Mem.head _))))) | exact (List.Mem.tail _ (List.Mem.tail _ (List.Mem.tail _ (List.Mem.tail _ (List.Mem.tail _ (List.Mem.head _)))))) | exact (List.Mem.tail _ (List.Mem.tail _ (List.Mem.tail _ (List.Mem.tail _ (List.Mem.tail _ (List.Mem.tail _ (List.Mem.head _))))))) | exact (List.Mem.tail _ (List.Mem.tail _ (List.Mem.tail _ (List.Mem.tail _ (List.Mem.tail _ (List.Mem.tail _ (List.Mem.tail _ (List.Mem.head _)))))))) | exact (List.Mem.tail _ (List.Mem.tail _ (List.Mem.tail _ (List.Mem.tail _ (List.Mem.tail _ (List.Mem.tail _ (List.Mem.tail _ (List.Mem.tail _ (List.Mem.head _)))))))))) rfl rfl rfl
      refine Ev.bsAt0 S6 (by first | exact Rpl.head _ | exact (Rpl.tail _ (Rpl.head _)) | exact (Rpl.tail _ (Rpl.tail _ (Rpl.head _))) | exact (Rpl.tail _ (Rpl.tail _ (Rpl.tail _ (Rpl.head _)))) | exact (Rpl.tail _ (Rpl.tail _ (Rpl.tail _ (Rpl.tail _ (Rpl.head _))))) | exact (Rpl.tail _ (Rpl.tail _ (Rpl.tail _ (Rpl.tail _ (Rpl.tail _ (Rpl.head _)))))) | exact (Rpl.tail _ (Rpl.tail _ (Rpl.tail _ (Rpl.tail _ (Rpl.tail _ (Rpl.tail _ (Rpl.head _))))))) | exact (Rpl.tail _ (Rpl.tail _ (Rpl.tail _ (Rpl.tail _ (Rpl.tail _ (Rpl.tail _ (Rpl.tail _ (Rpl.head _)))))))) | exact (Rpl.tail _ (Rpl.tail _ (Rpl.tail _ (Rpl.tail _ (Rpl.tail _ (Rpl.tail _ (Rpl.tail _ (Rpl.tail _ (Rpl.head _)))))))))) (fill6 l6) ?_
      intro h8 S8
      obtain ⟨x10, h10, B10, cells10, e10, S10, G10, NL10⟩ := app_node (B := []) (xs := []) (Gr.nil K 6) rfl N6 S8 (by first | exact List.Mem.head _ | exact (List.Mem.tail _ (List.Mem.head _)) | exact (List.Mem.tail _ (List.Mem.tail _ (List.Mem.head _))) | exact (List.Mem.tail _ (List.Mem.tail _ (List.Mem.tail _ (List.Mem.head _)))) | exact (List.Mem.tail _ (List.Mem.tail _ (List.Mem.tail _ (List.Mem.tail _ (List.Mem.head _))))) | exact (List.Mem.tail _ (List.Mem.tail _ (List.Mem.tail _ (List.Mem.tail _ (List.Mem.tail _ (List.Mem.head _)))))) | exact (List.Mem.tail _ (List.Mem.tail _ (List.Mem.tail _ (List.Mem.tail _ (List.Mem.tail _ (List.Mem.tail _ (List.Mem.head _))))))) | exact (List.Mem.tail _ (List.Mem.tail _ (List.Mem.tail _ (List.Mem.tail _ (List.Mem.tail _ (List.Mem.tail _ (List.Mem.tail _ (List.Mem.head _)))))))) | exact (List.Mem.tail _ (List.Mem.tail _ (List.Mem.tail _ (List.Mem.tail _ (List.Mem.tail _ (List.Mem.tail _ (List.Mem.tail _ (List.Mem.tail _ (List.Mem.head _)))))))))) (by simp [lim])
      have hx10 := G10.one
      refine Ev.op e10 ?_
      obtain ⟨M, gM, S11, N11⟩ := G10.nodes NL10 S10 (by simp [lim])
      refine wf ?_; refine wu fun _ _ => ?_; refine ws ?_; refine wt fun _ _ => ?_; refine ws ?_
      exact Ev.ret ⟨M, i6, _, rfl, (g5.trans g6).trans gM, dp, T6.mono gM, NV.of (SS.nil M) (SS.nil M) N11⟩
    | false =>
      refine yj ?_
      rw [if_neg (by simp)] at hm
      obtain ⟨c2, hc2, hm⟩ := Option.bind_eq_some_iff.1 hm
      obtain ⟨st1, hst, hm⟩ := Option.bind_eq_some_iff.1 hm
      unfold s61a4
      refine Ev.call (isD_ok S2 T hc2) ?_
      rintro _ _ ⟨rfl, S3⟩
      cases c2 with
      | true =>
        refine an ?_; refine yj ?_
        rw [if_pos rfl] at hst
        cases hst
        unfold s61a5 s61a7
        exact keysD_loop HP g g 0 I [] A L _ p s .l0 i st [] [] x [] _ st' _ _ S3 (Gr.nil I 6) rfl rfl (by first | assumption | exact tc_ones _ | (repeat (first | exact ones_nil | refine ones_cons (by first | rfl | assumption | exact Fz.one (by assumption)) ?_))) (by simp; omega) T hm
      | false =>
        refine ao ?_; refine yt ?_
        rw [if_neg (by simp)] at hst
        obtain ⟨t, ht, hst⟩ := Option.bind_eq_some_iff.1 hst
        cases hst
        refine Ev.call (ahead_ok (k := 0) S3 T ht (by omega)) ?_
        rintro _ _ ⟨rfl, S4⟩
        refine Ev.call (failD_ok S4 hs t _) ?_
        rintro _ _ ⟨rfl, S5⟩
        unfold s61a5 s61a7
        exact keysD_loop HP g g 0 I [] A L _ p s .l0 i _ [] [] x [] _ st' _ _ S5 (Gr.nil I 6) rfl rfl (by first | assumption | exact tc_ones _ | (repeat (first | exact ones_nil | refine ones_cons (by first | rfl | assumption | exact Fz.one (by assumption)) ?_))) (by simp; omega) (by rw [failS_toks]; exact T) hm

theorem NV.text_at {I : Im} {x : Node} {cs : List DV} (N : NV I x cs) : cs[1]? = some (.s x.text) ∧ ∃ v, cs[5]? = some v ∧ NS I v x.kids := by
  cases x with
  | mk k t m ns ts ks =>
    obtain ⟨s1, s2, s3, rfl, a1, a2, a3, cells, F, NL⟩ := N
    exact ⟨rfl, s3, rfl, a3, cells, F, NL⟩

theorem keysD_ok {P : PF} (HP : NOkD 57 P) (g : Nat) (hg : g + 1 ≤ lim) : NOk1D 60 (keysD P g) := by
  intro I A L h p s i st x y cs st' S T N hm
  have hs := T.one
  obtain ⟨l0, o0, q0⟩ := N.shape
  unfold keysD at hm
  obtain ⟨c, hc, hm⟩ := Option.bind_eq_some_iff.1 hm
  refine Ev.enter (fun n => enter60 n _ _ h) ?_
  unfold s60
  refine wb fun _ _ _ => ?_; refine wa fun _ _ _ => ?_
  refine Ev.call (isD_ok (by assumption) T hc) ?_
  rintro _ _ ⟨rfl, S1⟩
  cases c with
  | false =>
    refine ao ?_; refine yt ?_; refine ws ?_; refine wt fun _ _ => ?_; refine ws ?_
    rw [if_neg (by simp)] at hm
    simp only [Option.some.injEq, Prod.mk.injEq] at hm
    obtain ⟨rfl, rfl⟩ := hm
    exact Ev.ret ⟨I, i, cs, rfl, ILe.refl _, dp, T, N⟩
  | true =>
    refine an ?_; refine yj ?_
    rw [if_pos rfl] at hm
    obtain ⟨⟨m, st1⟩, hmm, hm⟩ := Option.bind_eq_some_iff.1 hm
    split at hm
    · rename_i hk
      simp only [Option.some.injEq, Prod.mk.injEq] at hm
      obtain ⟨rfl, rfl⟩ := hm
      refine Ev.call (msgD_ok HP g hg _ _ _ _ _ _ _ _ _ _ S1 T hmm) ?_
      rintro _ _ ⟨J, i5, ds, rfl, g5, S5, T5, N5⟩
      obtain ⟨l5, o5, q5⟩ := N5.shape
      obtain ⟨e1, v5, e5, NK⟩ := N5.text_at
      have ov := NK.one
      refine wa fun _ _ _ => ?_; refine wt fun _ _ => ?_; refine ws ?_
      refine Ev.bs (by assumption) (fill6 l0) ?_
      intro b6 h6 S6
      obtain ⟨K, gK, S7, F7, G7⟩ := Fz.built (sz := 6) (n := 1) S6 (by omega) o0
      refine Ev.fld (Ev.op (ld1 (S7.memL (by first | exact List.Mem.head _ | exact (List.Mem.tail _ (List.Mem.head _)) | exact (List.Mem.tail _ (List.Mem.tail _ (List.Mem.head _))) | exact (List.Mem.tail _ (List.Mem.tail _ (List.Mem.tail _ (List.Mem.head _)))) | exact (List.Mem.tail _ (List.Mem.tail _ (List.Mem.tail _ (List.Mem.tail _ (List.Mem.head _))))) | exact (List.Mem.tail _ (List.Mem.tail _ (List.Mem.tail _ (List.Mem.tail _ (List.Mem.tail _ (List.Mem.head _)))))) | exact (List.Mem.tail _ (List.Mem.tail _ (List.Mem.tail _ (List.Mem.tail _ (List.Mem.tail _ (List.Mem.tail _ (List.Mem.head _))))))) | exact (List.Mem.tail _ (List.Mem.tail _ (List.Mem.tail _ (List.Mem.tail _ (List.Mem.tail _ (List.Mem.tail _ (List.Mem.tail _ (List.Mem.head _)))))))) | exact (List.Mem.tail _ (List.Mem.tail _ (List.Mem.tail _ (List.Mem.tail _ (List.Mem.tail _ (List.Mem.tail _ (List.Mem.tail _ (List.Mem.tail _ (List.Mem.head _))))))))))) (by simpa using e5) ov) ?_)
      obtain ⟨hkl, cells, FK, NLK⟩ := NK.mono gK
      have hk1 : 1 ≤ m.kids.length := hk.1
      have hk2 : m.kids.length + 1 ≤ lim := hk.2
      obtain ⟨n1, n2⟩ := NLK.shape
      have hr : (1 + m.kids.length) * 104 ≤ roomD := by simp [roomD, lim] at hk2 ⊢; omega
      obtain ⟨x8, h8, B8, e8, S8, G8⟩ := G7.app (bytes := 104) (A0 := A) (by simpa using S7) (FK.src S7) n1 n2 (by omega) hr
      refine Ev.op e8 ?_
      have G9 : Gr K 6 B8 x8 (x :: m.kids).length (cs ++ cells) := by
        have : (x :: m.kids).length = 1 + m.kids.length := by simp; omega
        rw [this]; exact G8
      obtain ⟨M, gM, S9, N9⟩ := G9.nodes ((NVL.single (((N.mono g5).mono gK))).app NLK) S8 (by simp; omega)
      have o9 := N9.one
      refine Ev.fld (Ev.op (ld1 (S9.memL (by first | exact List.Mem.head _ | exact (List.Mem.tail _ (List.Mem.head _)) | exact (List.Mem.tail _ (List.Mem.tail _ (List.Mem.head _))) | exact (List.Mem.tail _ (List.Mem.tail _ (List.Mem.tail _ (List.Mem.head _)))) | exact (List.Mem.tail _ (List.Mem.tail _ (List.Mem.tail _ (List.Mem.tail _ (List.Mem.head _))))) | exact (List.Mem.tail _ (List.Mem.tail _ (List.Mem.tail _ (List.Mem.tail _ (List.Mem.tail _ (List.Mem.head _)))))) | exact (List.Mem.tail _ (List.Mem.tail _ (List.Mem.tail _ (List.Mem.tail _ (List.Mem.tail _ (List.Mem.tail _ (List.Mem.head _))))))) | exact (List.Mem.tail _ (List.Mem.tail _ (List.Mem.tail _ (List.Mem.tail _ (List.Mem.tail _ (List.Mem.tail _ (List.Mem.tail _ (List.Mem.head _)))))))) | exact (List.Mem.tail _ (List.Mem.tail _ (List.Mem.tail _ (List.Mem.tail _ (List.Mem.tail _ (List.Mem.tail _ (List.Mem.tail _ (List.Mem.tail _ (List.Mem.head _))))))))))) (by simpa using e1) rfl) ?_)
      refine wd ?_; refine wt fun _ _ => ?_; refine ws ?_
      exact Ev.ret ⟨M, i5, _, rfl, (g5.trans gK).trans gM, dp, (T5.mono gK).mono gM, NV.of (SS.nil M) (SS.nil M) N9⟩
    · cases hm

end Go.Dd

/- Dd, part Y3: the document's parser: literals, statements, blocks, primaries. -/
set_option linter.unusedVariables false
set_option linter.unusedSimpArgs false
set_option maxRecDepth 100000
namespace Go.Dd
open Go.Proofs

def litsLD (LI : PF) : Nat → List Node → PSt → Option (List Node × PSt)
  | 0, _, _ => none
  | f + 1, xs, st => if st.err = 0 then (isS st 10 [41]).bind fun c => if c then some (xs, st) else
      (plainD st).bind fun r => if r.1.2 then litsLD LI f (xs ++ [r.1.1]) r.2 else
        (isS r.2 7 []).bind fun c1 => (if c1 then some true else isS r.2 10 [40]).bind fun c2 =>
          if c2 then (LI r.2).bind fun q => litsLD LI f (xs ++ [q.1]) q.2 else (lookS r.2 0).bind fun t => litsLD LI f (xs ++ [r.1.1]) (failS r.2 t 13)
    else some (xs, st)
def finD (q : List Node × PSt) : Option (List Node × PSt) := if q.2.err = 0 then (takeR q.2).bind fun u => some (q.1, { u.2 with deep := w64 (u.2.deep - 1) }) else some q
def literalsD (LI : PF) (f : Nat) : PF := fun st => (openD st).bind fun r => ((if r.1 then litsLD LI f [] r.2 else some ([], r.2)).bind finD).bind fun q => some (.mk 4 [] 0 [] [] q.1, q.2)

def paramsLD : Nat → List (List Nat) → PSt → Option (List (List Nat) × PSt)
  | 0, _, _ => none
  | f + 1, l, st => (isS st 8 []).bind fun c => if c then (namesD st 8 l).bind fun r => paramsLD f r.1 r.2 else some (l, st)
def stmtsLD (E : PF) : Nat → List Node → PSt → Option (List Node × PSt)
  | 0, _, _ => none
  | f + 1, xs, st => if st.err = 0 then (isS st 0 []).bind fun c => if c then some (xs, st) else (isS st 10 [93]).bind fun c => if c then some (xs, st) else
      (isS st 10 [94]).bind fun c =>
        if c then (takeR st).bind fun r => (E r.2).bind fun q => (isS q.2 10 [46]).bind fun d => if d then (takeR q.2).bind fun u => some (xs ++ [.mk 10 [] 0 [] [] [q.1]], u.2) else some (xs ++ [.mk 10 [] 0 [] [] [q.1]], q.2)
        else (E st).bind fun q => (isS q.2 10 [46]).bind fun d => if d then (takeR q.2).bind fun u => stmtsLD E f (xs ++ [q.1]) u.2 else some (xs ++ [q.1], q.2)
    else some (xs, st)
def barD (l : List (List Nat)) (st : PSt) : Option PSt :=
  if 0 < l.length then (isS st 10 [93]).bind fun c => if c then some st else (needD st 10 [124]).bind fun r => some r.2 else some st
def blockD (E : PF) (f : Nat) : PF := fun st => (openD st).bind fun o => if o.1 then
    (paramsLD f [] o.2).bind fun r => (barD r.1 r.2).bind fun st2 => (tempsD f st2).bind fun q => (stmtsLD E f [] q.2).bind fun u => (needD u.2 10 [93]).bind fun w => some (.mk 9 [] 0 r.1 q.1 u.1, { w.2 with deep := w64 (w.2.deep - 1) })
  else some (.mk 9 [] 0 [] [] [], o.2)
def primaryD (LI E : PF) (f : Nat) : PF := fun st => if st.err = 0 then (plainD st).bind fun r => if r.1.2 then some (r.1.1, r.2) else
    (isS r.2 1 []).bind fun c => if c then (takeR r.2).bind fun q => some (.mk 5 q.1.text 0 [] [] [], q.2)
    else (isS r.2 7 []).bind fun c => if c then LI r.2
    else (isS r.2 10 [40]).bind fun c => if c then (openD r.2).bind fun o => if o.1 then (E o.2).bind fun x => (needD x.2 10 [41]).bind fun w => some (x.1, { w.2 with deep := w64 (w.2.deep - 1) }) else some (r.1.1, o.2)
    else (isS r.2 10 [91]).bind fun c => if c then blockD E f r.2
    else (lookS r.2 0).bind fun t => some (r.1.1, failS r.2 t 13)
  else some (zN, st)

theorem enter74 (n : Nat) (x : DV) (h : Hp) : shD (n + 1) 74 [x] h = s74 (shD n) n x h := by kernel_rfl
theorem enter27 (n : Nat) (x : DV) (h : Hp) : shD (n + 1) 27 [x] h = s27 (shD n) n x h := by kernel_rfl
theorem enter76 (n : Nat) (x : DV) (h : Hp) : shD (n + 1) 76 [x] h = s76 (shD n) n x h := by kernel_rfl
theorem enter57 (n : Nat) (x : DV) (h : Hp) : shD (n + 1) 57 [x] h = s57 (shD n) n x h := by kernel_rfl

theorem litsD_fin {I : Im} {B A L : Ls} {h : Hp} {p : Pos} {s x : DV} {i : Nat} {st : PSt} {xs ys : List Node} {cells z : List DV} {st' : PSt} {b2 b3 : Pos}
    (S : Sy I (B ++ A) [PD p s i st] ((b3, some (.row .ex [.i .i64 (Int.ofNat 4), .s [], .i .i64 (Int.ofNat 0), .l0, .l0, x])) :: (b2, some (.row .ex z)) :: L) h) (G : Gr I 6 B x xs.length cells) (NL : NVL I xs cells) (z1 : z.length = 6) (z2 : ∀ v ∈ z, v.one = true)
    (hl : xs.length ≤ lim) (T : TD I s i st.toks) (hm : finD (xs, st) = some (ys, st')) : Ev (fun n => s74a4 (shD n) n (.p p 0) (.p b2 0) (.p b3 0) h) (NPostD I A L p s (.mk 4 [] 0 [] [] ys) st') := by
  have hs := T.one
  have hx := G.one
  unfold finD at hm
  unfold s74a4
  refine wn ?_; refine wf ?_; refine wq ?_
  refine Ev.ieq (fun e1 => ?_) (fun e1 => ?_)
  · refine yt ?_
    rw [if_pos (show st.err = 0 from e1)] at hm
    obtain ⟨⟨t, st1⟩, ht, hm⟩ := Option.bind_eq_some_iff.1 hm
    simp only [Option.some.injEq, Prod.mk.injEq] at hm
    obtain ⟨rfl, rfl⟩ := hm
    refine Ev.call (takeR_ok (by assumption) T ht) ?_
    rintro _ _ ⟨rfl, i2, S2, T2⟩
    refine wn ?_; refine wf ?_; refine wq ?_
    refine Ev.isub ?_
    refine wn ?_; refine wf ?_; refine wv fun _ _ => ?_
    rename_i h9 S9
    obtain ⟨J, gJ, S3, N3⟩ := G.nodes NL S9 hl
    have o3 := N3.one
    unfold s74a5
    refine ws ?_; refine wt fun _ _ => ?_; refine ws ?_
    exact Ev.ret ⟨J, i2, _, rfl, gJ, dp, T2.mono gJ, NV.of (SS.nil J) (SS.nil J) N3⟩
  · refine yj ?_
    rw [if_neg (show ¬ st.err = 0 from e1)] at hm
    simp only [Option.some.injEq, Prod.mk.injEq] at hm
    obtain ⟨rfl, rfl⟩ := hm
    obtain ⟨J, gJ, S3, N3⟩ := G.nodes NL S hl
    have o3 := N3.one
    unfold s74a5
    refine ws ?_; refine wt fun _ _ => ?_; refine ws ?_
    exact Ev.ret ⟨J, i, _, rfl, gJ, dp, T.mono gJ, NV.of (SS.nil J) (SS.nil J) N3⟩

theorem litsD_loop {LI : PF} (HL : NOkD 74 LI) : ∀ (f j : Nat) (I : Im) (B A L : Ls) (h : Hp) (p : Pos) (s x : DV) (i : Nat) (st : PSt) (xs ys : List Node) (cells z : List DV) (st' : PSt) (b2 b3 : Pos),
    Sy I (B ++ A) [PD p s i st] ((b3, some (.row .ex [.i .i64 (Int.ofNat 4), .s [], .i .i64 (Int.ofNat 0), .l0, .l0, x])) :: (b2, some (.row .ex z)) :: L) h → Gr I 6 B x xs.length cells → NVL I xs cells → z.length = 6 → (∀ v ∈ z, v.one = true) →
    xs.length + f ≤ lim → TD I s i st.toks → (litsLD LI f xs st).bind finD = some (ys, st') →
    Ev (fun n => s74a6l (shD n) n (n - j) (.p p 0) (.p b2 0) (.p b3 0) (.b true) h) (NPostD I A L p s (.mk 4 [] 0 [] [] ys) st')
  | 0, j, I, B, A, L, h, p, s, x, i, st, xs, ys, cells, z, st', b2, b3, S, G, NL, z1, z2, hl, T, hm => by cases hm
  | f + 1, j, I, B, A, L, h, p, s, x, i, st, xs, ys, cells, z, st', b2, b3, S, G, NL, z1, z2, hl, T, hm => by
    unfold litsLD at hm
    refine Ev.loop j (ll := fun n m => s74a6l (shD n) n m (.p p 0) (.p b2 0) (.p b3 0) (.b true) h) (bb := fun n m => s74a6b (shD n) n (s74a6l (shD n) n m) (.p p 0) (.p b2 0) (.p b3 0) (.b true) h) (fun _ _ => rfl) ?_
    have hs := T.one
    have hx := G.one
    unfold s74a6b
    refine zt ?_; refine wm ?_; refine zt ?_; refine wn ?_; refine zt ?_; refine wf ?_; refine zt ?_; refine wq ?_; refine zt ?_
    refine Ev.ieq (fun e1 => ?_) (fun e1 => ?_)
    · rw [if_pos (show st.err = 0 from e1)] at hm
      refine ap ?_; refine zt ?_; refine wm ?_; refine zt ?_
      rw [Option.bind_assoc] at hm
      obtain ⟨c, hc, hm⟩ := Option.bind_eq_some_iff.1 hm
      refine Ev.call (isD_ok (by assumption) T hc) ?_
      rintro _ _ ⟨rfl, S1⟩
      cases c with
      | true =>
        refine zt ?_; refine an ?_; refine ap ?_; refine yj ?_
        exact litsD_fin S1 G NL z1 z2 (by omega) T (by simpa using hm)
      | false =>
        refine zt ?_; refine ao ?_; refine ap ?_; refine yt ?_
        rw [if_neg (by simp), Option.bind_assoc] at hm
        obtain ⟨⟨⟨y, d⟩, st1⟩, hy, hm⟩ := Option.bind_eq_some_iff.1 hm
        unfold s74a7
        refine Ev.call (plainD_ok S1 T hy) ?_
        rintro _ _ ⟨i2, cs, rfl, S2, T2, N2⟩
        obtain ⟨l2, o2, q2⟩ := N2.shape
        refine wx ?_; refine wx ?_; refine wa fun _ _ _ => ?_; refine wt fun _ _ => ?_
        unfold s74a8
        have body : ∀ (J : Im) (h' : Hp) (b4 : Pos) (y' : Node) (cs' : List DV) (i' : Nat) (st1' : PSt), ILe I J → Sy J (B ++ A) [PD p s i' st1'] ((b4, some (.row .ex cs')) :: (b3, some (.row .ex [.i .i64 (Int.ofNat 4), .s [], .i .i64 (Int.ofNat 0), .l0, .l0, x])) :: (b2, some (.row .ex z)) :: L) h' →
            TD J s i' st1'.toks → NV J y' cs' → (litsLD LI f (xs ++ [y']) st1').bind finD = some (ys, st') →
            Ev (fun n => s74a9 (shD n) n (s74a6l (shD n) n (n - (j + 1))) (.p p 0) (.p b2 0) (.p b3 0) (.b true) (.p b4 0) h') (NPostD I A L p s (.mk 4 [] 0 [] [] ys) st') := by
          intro J h' b4 y' cs' i' st1' gJ S' T' N' hm
          obtain ⟨l', o', q'⟩ := N'.shape
          unfold s74a9
          refine wf ?_; refine wl ?_; refine ws ?_
          refine Ev.bs S' (fill6 l') ?_
          intro b6 h6 S6
          obtain ⟨x10, h10, B10, cells10, e10, S10, G10, NL10⟩ := app_node (G.mono gJ) (NL.mono gJ) N' S6 (List.Mem.head _) (by omega)
          have hx10 := G10.one
          refine Ev.op e10 ?_
          refine wf ?_; refine wu fun _ _ => ?_
          refine (litsD_loop HL f (j + 1) J B10 A L _ p s x10 i' st1' (xs ++ [y']) ys cells10 z st' b2 b3 ?_ G10 NL10 z1 z2 (by simp; omega) T' hm).mono (NPostD.le gJ)
          exact Sy.dropL (Sy.dropL (by assumption))
        cases d with
        | true =>
          refine an ?_; refine yj ?_
          exact body I _ _ y cs i2 st1 (ILe.refl _) (by assumption) T2 N2 (by simpa using hm)
        | false =>
          refine ao ?_; refine yt ?_
          rw [if_neg (by simp), Option.bind_assoc] at hm
          obtain ⟨c1, hc1, hm⟩ := Option.bind_eq_some_iff.1 hm
          rw [Option.bind_assoc] at hm
          obtain ⟨c2, hc2, hm2⟩ := Option.bind_eq_some_iff.1 hm
          refine Ev.call (isD_ok (by assumption) T2 hc1) ?_
          rintro _ _ ⟨rfl, S3⟩
          have more : ∀ (b4 : Pos) h', Sy I (B ++ A) [PD p s i2 st1] ((b4, some (.row .ex cs)) :: (b3, some (.row .ex [.i .i64 (Int.ofNat 4), .s [], .i .i64 (Int.ofNat 0), .l0, .l0, x])) :: (b2, some (.row .ex z)) :: L) h' → (if c2 = true then (LI st1).bind fun q => litsLD LI f (xs ++ [q.1]) q.2 else (lookS st1 0).bind fun t => litsLD LI f (xs ++ [y]) (failS st1 t 13)).bind finD = some (ys, st') →
            Ev (fun n => ifD (.b c2)
              (bnd (shD n 74 [.p p 0] h') fun v41 h41 => bnd (pStore 6 (.p b4 0) v41 h41) fun _ h42 => s74a9 (shD n) n (s74a6l (shD n) n (n - (j + 1))) (.p p 0) (.p b2 0) (.p b3 0) (.b true) (.p b4 0) h42)
              (bnd (shD n 46 [.p p 0, .i .i64 (Int.ofNat 0)] h') fun v43 h43 => bnd (shD n 44 [.p p 0, v43, .i .i64 (Int.ofNat 13)] h43) fun v44 h44 => s74a9 (shD n) n (s74a6l (shD n) n (n - (j + 1))) (.p p 0) (.p b2 0) (.p b3 0) (.b true) (.p b4 0) h44))
              (NPostD I A L p s (.mk 4 [] 0 [] [] ys) st') := by
            intro b4 h' S' hm
            cases c2 with
            | true =>
              rw [if_pos rfl, Option.bind_assoc] at hm
              obtain ⟨⟨w, st2⟩, hw, hm⟩ := Option.bind_eq_some_iff.1 hm
              refine yt ?_
              refine Ev.call (HL _ _ _ _ _ _ _ _ _ _ S' T2 hw) ?_
              rintro _ _ ⟨J, i5, ds, rfl, g5, S5, T5, N5⟩
              obtain ⟨l5, o5, q5⟩ := N5.shape
              refine wt fun _ _ => ?_
              exact body J _ _ w ds i5 st2 g5 (by assumption) T5 N5 hm
            | false =>
              rw [if_neg (by simp), Option.bind_assoc] at hm
              obtain ⟨t, ht, hm⟩ := Option.bind_eq_some_iff.1 hm
              refine yj ?_
              refine Ev.call (ahead_ok (k := 0) S' T2 ht (by omega)) ?_
              rintro _ _ ⟨rfl, S5⟩
              refine Ev.call (failD_ok S5 hs t _) ?_
              rintro _ _ ⟨rfl, S6⟩
              exact body I _ _ y cs i2 _ (ILe.refl _) S6 (by rw [failS_toks]; exact T2) N2 hm
          cases c1 with
          | true =>
            rw [if_pos rfl] at hc2
            cases hc2
            refine yg ?_; refine yg ?_; refine ap ?_; refine yt ?_
            exact more _ _ S3 hm2
          | false =>
            rw [if_neg (by simp)] at hc2
            refine zf ?_; refine wm ?_; refine zf ?_
            refine Ev.call (isD_ok S3 T2 hc2) ?_
            rintro _ _ ⟨rfl, S4⟩
            refine aq ?_
            exact more _ _ S4 hm2
    · rw [if_neg (show ¬ st.err = 0 from e1)] at hm
      refine ap ?_; refine yf ?_; refine yf ?_; refine yf ?_; refine aq ?_; refine yj ?_
      exact litsD_fin S G NL z1 z2 (by omega) T (by simpa using hm)

theorem literalsD_ok {LI : PF} (HL : NOkD 74 LI) (f : Nat) (hf : f ≤ lim) : NOkD 74 (literalsD LI f) := by
  intro I A L h p s i st x st' S T hm
  unfold literalsD at hm
  obtain ⟨⟨ok, st1⟩, ho, hm⟩ := Option.bind_eq_some_iff.1 hm
  obtain ⟨⟨ys, st2⟩, hy, hm⟩ := Option.bind_eq_some_iff.1 hm
  simp only [Option.some.injEq, Prod.mk.injEq] at hm
  obtain ⟨rfl, rfl⟩ := hm
  refine Ev.enter (fun n => enter74 n _ h) ?_
  unfold s74 s74a1
  refine wa fun _ _ _ => ?_; refine wd ?_; refine wa fun _ _ _ => ?_; refine wt fun _ _ => ?_
  unfold s74a2
  refine Ev.call (openD_ok (by assumption) T ho) ?_
  rintro _ h1 ⟨rfl, i1, S1, T1⟩
  unfold s74a3 s74a6
  cases ok with
  | true =>
    rw [if_pos rfl] at hy
    exact litsD_loop HL f 0 I [] A L h1 p s .l0 i1 st1 [] ys [] _ st2 _ _ S1 (Gr.nil I 6) rfl rfl (by first | assumption | exact tc_ones _ | (repeat (first | exact ones_nil | refine ones_cons (by first | rfl | assumption | exact Fz.one (by assumption)) ?_))) (by simpa using hf) T1 hy
  | false =>
    rw [if_neg (by simp), Option.bind_some] at hy
    rename_i b2 _ _ b3 _ _ _ _
    refine Ev.loop 0 (ll := fun n m => s74a6l (shD n) n m (.p p 0) (.p _ 0) (.p _ 0) (.b false) h1) (bb := fun n m => s74a6b (shD n) n (s74a6l (shD n) n m) (.p p 0) (.p _ 0) (.p _ 0) (.b false) h1) (fun _ _ => rfl) ?_
    unfold s74a6b
    refine yf ?_; refine yf ?_; refine yf ?_; refine yf ?_; refine yf ?_; refine aq ?_; refine yf ?_; refine yf ?_; refine yf ?_; refine aq ?_; refine yj ?_
    exact litsD_fin (B := []) (xs := []) (cells := []) S1 (Gr.nil I 6) rfl rfl (by first | assumption | exact tc_ones _ | (repeat (first | exact ones_nil | refine ones_cons (by first | rfl | assumption | exact Fz.one (by assumption)) ?_))) (by simp) T1 hy

theorem stmtsD_loop {E : PF} (HE : NOkD 45 E) : ∀ (f j : Nat) (I : Im) (B A L : Ls) (h : Hp) (p : Pos) (s x : DV) (i : Nat) (st : PSt) (xs ys : List Node) (cells : List DV) (st' : PSt), Sy I (B ++ A) [PD p s i st] L h → Gr I 6 B x xs.length cells → NVL I xs cells →
    xs.length + f ≤ lim → TD I s i st.toks → stmtsLD E f xs st = some (ys, st') →
    Ev (fun n => s27a4l (shD n) n (n - j) (.p p 0) x h) (fun v h' => ∃ J i', ILe I J ∧ Sy J A [PD p s i' st'] L h' ∧ TD J s i' st'.toks ∧ NS J v ys)
  | 0, j, I, B, A, L, h, p, s, x, i, st, xs, ys, cells, st', S, G, NL, hl, T, hm => by cases hm
  | f + 1, j, I, B, A, L, h, p, s, x, i, st, xs, ys, cells, st', S, G, NL, hl, T, hm => by
    unfold stmtsLD at hm
    refine Ev.loop j (ll := fun n m => s27a4l (shD n) n m (.p p 0) x h) (bb := fun n m => s27a4b (shD n) n (s27a4l (shD n) n m) (.p p 0) x h) (fun _ _ => rfl) ?_
    have hs := T.one
    unfold s27a4b s27a3
    refine wn ?_; refine wf ?_; refine wq ?_
    have fin : ∀ h', Sy I (B ++ A) [PD p s i st] L h' → some (xs, st) = some (ys, st') → Ev (fun _ => some (x, h')) (fun v h' => ∃ J i', ILe I J ∧ Sy J A [PD p s i' st'] L h' ∧ TD J s i' st'.toks ∧ NS J v ys) := by
      intro h' S' hm
      simp only [Option.some.injEq, Prod.mk.injEq] at hm
      obtain ⟨rfl, rfl⟩ := hm
      obtain ⟨J, gJ, S3, N3⟩ := G.nodes NL S' (by omega)
      exact Ev.ret ⟨J, i, gJ, S3, T.mono gJ, N3⟩
    refine Ev.ieq (fun e1 => ?_) (fun e1 => ?_)
    · rw [if_pos (show st.err = 0 from e1)] at hm
      refine zt ?_; refine wm ?_; refine zt ?_
      obtain ⟨c, hc, hm⟩ := Option.bind_eq_some_iff.1 hm
      refine Ev.call (isD_ok (by assumption) T hc) ?_
      rintro _ _ ⟨rfl, S1⟩
      cases c with
      | true =>
        refine zt ?_; refine an ?_; refine ap ?_; refine yf ?_; refine yf ?_; refine yf ?_; refine aq ?_; refine yj ?_
        exact fin _ S1 (by simpa using hm)
      | false =>
        refine zt ?_; refine ao ?_; refine ap ?_; refine zt ?_; refine wm ?_; refine zt ?_
        rw [if_neg (by simp)] at hm
        obtain ⟨c, hc, hm⟩ := Option.bind_eq_some_iff.1 hm
        refine Ev.call (isD_ok (by assumption) T hc) ?_
        rintro _ _ ⟨rfl, S2⟩
        cases c with
        | true =>
          refine zt ?_; refine an ?_; refine ap ?_; refine yj ?_
          exact fin _ S2 (by simpa using hm)
        | false =>
          refine zt ?_; refine ao ?_; refine ap ?_; refine yt ?_
          rw [if_neg (by simp)] at hm
          obtain ⟨c, hc, hm⟩ := Option.bind_eq_some_iff.1 hm
          refine Ev.call (isD_ok (by assumption) T hc) ?_
          rintro _ _ ⟨rfl, S3⟩
          cases c with
          | true =>
            refine yt ?_
            rw [if_pos rfl] at hm
            obtain ⟨⟨t, st1⟩, ht, hm⟩ := Option.bind_eq_some_iff.1 hm
            obtain ⟨⟨y, st2⟩, hy, hm⟩ := Option.bind_eq_some_iff.1 hm
            obtain ⟨d, hd, hm⟩ := Option.bind_eq_some_iff.1 hm
            refine Ev.call (takeR_ok S3 T ht) ?_
            rintro _ _ ⟨rfl, i4, S4, T4⟩
            refine Ev.call (HE _ _ _ _ _ _ _ _ _ _ S4 T4 hy) ?_
            rintro _ _ ⟨J, i5, cs, rfl, g5, S5, T5, N5⟩
            obtain ⟨l5, o5, b5⟩ := N5.shape
            refine wa fun _ _ _ => ?_; refine wt fun _ _ => ?_; refine ws ?_
            refine Ev.bs (by assumption) (fill6 l5) ?_
            intro b6 h6 S6
            obtain ⟨K, g7, S7, F7, _⟩ := Fz.built (sz := 6) (n := 1) S6 (by omega) o5
            have N7 : NS K _ [y] := ⟨by simp [lim], cs, F7, NVL.single (N5.mono g7)⟩
            have o7 := N7.one
            refine wd ?_
            have N8 := NV.of (I := K) (k := 10) (t := []) (m := 0) (SS.nil K) (SS.nil K) N7
            obtain ⟨l8, o8, b8⟩ := N8.shape
            refine Ev.bs S7 (fill6 l8) ?_
            intro b9 h9 S9
            obtain ⟨x10, h10, B10, cells10, e10, S10, G10, NL10⟩ := app_node ((G.mono g5).mono g7) ((NL.mono g5).mono g7) N8 S9 (List.Mem.head _) (by omega)
            refine Ev.op e10 ?_
            refine Ev.call (isD_ok S10.dropL.dropL (T5.mono g7) hd) ?_
            rintro _ _ ⟨rfl, S11⟩
            have fin2 : ∀ h' i', Sy K (B10 ++ A) [PD p s i' st'] L h' → TD K s i' st'.toks → ys = xs ++ [.mk 10 [] 0 [] [] [y]] → Ev (fun _ => some (x10, h')) (fun v h' => ∃ J i', ILe I J ∧ Sy J A [PD p s i' st'] L h' ∧ TD J s i' st'.toks ∧ NS J v ys) := by
              intro h' i' S' T' e
              subst e
              obtain ⟨M, gM, S12, N12⟩ := G10.nodes NL10 S' (by simp; omega)
              exact Ev.ret ⟨M, i', (g5.trans g7).trans gM, S12, T'.mono gM, N12⟩
            cases d with
            | true =>
              refine yt ?_
              rw [if_pos rfl] at hm
              obtain ⟨⟨t2, st3⟩, ht2, hm⟩ := Option.bind_eq_some_iff.1 hm
              simp only [Option.some.injEq, Prod.mk.injEq] at hm
              obtain ⟨rfl, rfl⟩ := hm
              refine Ev.call (takeR_ok S11 (T5.mono g7) ht2) ?_
              rintro _ _ ⟨rfl, i13, S13, T13⟩
              exact fin2 _ i13 S13 T13 rfl
            | false =>
              refine yj ?_
              rw [if_neg (by simp)] at hm
              simp only [Option.some.injEq, Prod.mk.injEq] at hm
              obtain ⟨rfl, rfl⟩ := hm
              exact fin2 _ i5 S11 (T5.mono g7) rfl
          | false =>
            refine yj ?_
            rw [if_neg (by simp)] at hm
            obtain ⟨⟨y, st2⟩, hy, hm⟩ := Option.bind_eq_some_iff.1 hm
            obtain ⟨d, hd, hm⟩ := Option.bind_eq_some_iff.1 hm
            refine Ev.call (HE _ _ _ _ _ _ _ _ _ _ S3 T hy) ?_
            rintro _ _ ⟨J, i5, cs, rfl, g5, S5, T5, N5⟩
            obtain ⟨l5, o5, b5⟩ := N5.shape
            refine Ev.bs S5 (fill6 l5) ?_
            intro b6 h6 S6
            obtain ⟨x10, h10, B10, cells10, e10, S10, G10, NL10⟩ := app_node (G.mono g5) (NL.mono g5) N5 S6 (List.Mem.head _) (by omega)
            refine Ev.op e10 ?_
            refine Ev.call (isD_ok S10.dropL T5 hd) ?_
            rintro _ _ ⟨rfl, S11⟩
            cases d with
            | true =>
              refine an ?_; refine yj ?_
              rw [if_pos rfl] at hm
              obtain ⟨⟨t2, st3⟩, ht2, hm⟩ := Option.bind_eq_some_iff.1 hm
              refine Ev.call (takeR_ok S11 T5 ht2) ?_
              rintro _ _ ⟨rfl, i13, S13, T13⟩
              refine (stmtsD_loop HE f (j + 1) J B10 A L _ p s x10 i13 st3 (xs ++ [y]) ys cells10 st' S13 G10 NL10 (by simp; omega) T13 hm).mono ?_
              rintro v h' ⟨M, i', gM, r⟩
              exact ⟨M, i', g5.trans gM, r⟩
            | false =>
              refine ao ?_; refine yt ?_
              rw [if_neg (by simp)] at hm
              simp only [Option.some.injEq, Prod.mk.injEq] at hm
              obtain ⟨rfl, rfl⟩ := hm
              obtain ⟨M, gM, S12, N12⟩ := G10.nodes NL10 S11 (by simp; omega)
              exact Ev.ret ⟨M, i5, g5.trans gM, S12, T5.mono gM, N12⟩
    · rw [if_neg (show ¬ st.err = 0 from e1)] at hm
      refine yf ?_; refine yf ?_; refine yf ?_; refine aq ?_; refine yf ?_; refine yf ?_; refine yf ?_; refine aq ?_; refine yj ?_
      exact fin _ S hm

theorem stmtsD_ok {E : PF} (HE : NOkD 45 E) {I : Im} {A L : Ls} {h : Hp} {p : Pos} {s : DV} {i : Nat} {st : PSt} (f : Nat) (hf : f ≤ lim) (S : Sy I A [PD p s i st] L h) (T : TD I s i st.toks) {ys : List Node} {st' : PSt} (hm : stmtsLD E f [] st = some (ys, st')) :
    Ev (fun n => shD n 27 [.p p 0] h) (fun v h' => ∃ J i', ILe I J ∧ Sy J A [PD p s i' st'] L h' ∧ TD J s i' st'.toks ∧ NS J v ys) := by
  refine Ev.enter (fun n => enter27 n _ h) ?_
  unfold s27 s27a1 s27a2 s27a4
  exact stmtsD_loop HE f 0 I [] A L h p s .l0 i st [] ys [] st' S (Gr.nil I 6) rfl (by simpa using hf) T hm

theorem paramsD_loop {P : DV → Hp → Prop} : ∀ (f j : Nat) (I : Im) (A L : Ls) (h : Hp) (p : Pos) (s x : DV) (i : Nat) (st : PSt) (l l' : List (List Nat)) (z : List DV) (st' : PSt) (b2 b3 : Pos),
    Sy I A [PD p s i st] ((b3, some (.row .ex [.i .i64 (Int.ofNat 9), .s [], .i .i64 (Int.ofNat 0), x, .l0, .l0])) :: (b2, some (.row .ex z)) :: L) h → SS I x l → z.length = 6 → (∀ v ∈ z, v.one = true) →
    l.length + f ≤ lim → TD I s i st.toks → paramsLD f l st = some (l', st') →
    (∀ (J : Im) (h' : Hp) (i' : Nat) (x' : DV), ILe I J → Sy J A [PD p s i' st'] ((b3, some (.row .ex [.i .i64 (Int.ofNat 9), .s [], .i .i64 (Int.ofNat 0), x', .l0, .l0])) :: (b2, some (.row .ex z)) :: L) h' → SS J x' l' → TD J s i' st'.toks →
      Ev (fun n => s76a5 (shD n) n (.p p 0) (.p b2 0) (.p b3 0) h') P) →
    Ev (fun n => s76a7l (shD n) n (n - j) (.p p 0) (.p b2 0) (.p b3 0) h) P
  | 0, j, I, A, L, h, p, s, x, i, st, l, l', z, st', b2, b3, S, G, z1, z2, hl, T, hm, K => by cases hm
  | f + 1, j, I, A, L, h, p, s, x, i, st, l, l', z, st', b2, b3, S, G, z1, z2, hl, T, hm, K => by
    unfold paramsLD at hm
    obtain ⟨c, hc, hm⟩ := Option.bind_eq_some_iff.1 hm
    refine Ev.loop j (ll := fun n m => s76a7l (shD n) n m (.p p 0) (.p b2 0) (.p b3 0) h) (bb := fun n m => s76a7b (shD n) n (s76a7l (shD n) n m) (.p p 0) (.p b2 0) (.p b3 0) h) (fun _ _ => rfl) ?_
    have hx := G.2.one
    unfold s76a7b
    refine Ev.call (isD_ok S T hc) ?_
    rintro _ _ ⟨rfl, S1⟩
    cases c with
    | false =>
      refine yj ?_
      rw [if_neg (by simp)] at hm
      simp only [Option.some.injEq, Prod.mk.injEq] at hm
      obtain ⟨rfl, rfl⟩ := hm
      exact K I _ i x (ILe.refl _) S1 G T
    | true =>
      refine yt ?_; refine wf ?_; refine wl ?_
      rw [if_pos rfl] at hm
      obtain ⟨⟨l1, st1⟩, ht, hm⟩ := Option.bind_eq_some_iff.1 hm
      have hl1 : l1.length = l.length + 1 := by
        unfold namesD at ht
        obtain ⟨r, _, ht⟩ := Option.bind_eq_some_iff.1 ht
        simp only [Option.some.injEq, Prod.mk.injEq] at ht
        rw [← ht.1]; simp
      refine Ev.call (namesD_ok S1 T G (by omega) ht) ?_
      rintro x2 _ ⟨J, i2, gJ, S2, T2, G2⟩
      have hx2 := G2.2.one
      refine wf ?_; refine wu fun _ _ => ?_
      exact paramsD_loop f (j + 1) J A L _ p s x2 i2 st1 l1 l' z st' b2 b3 (dp) G2 z1 z2 (by omega) T2 hm (fun M h' i' x' g => K M h' i' x' (gJ.trans g))

theorem blockD_ok {E : PF} (HE : NOkD 45 E) (f : Nat) (hf : f ≤ lim) : NOkD 76 (blockD E f) := by
  intro I A L h p s i st x st' S T hm
  have hs := T.one
  unfold blockD at hm
  obtain ⟨⟨ok, st0⟩, ho, hm⟩ := Option.bind_eq_some_iff.1 hm
  refine Ev.enter (fun n => enter76 n _ h) ?_
  unfold s76 s76a1
  refine wa fun _ _ _ => ?_; refine wd ?_; refine wa fun _ _ _ => ?_; refine wt fun _ _ => ?_
  unfold s76a2
  refine Ev.call (openD_ok (by assumption) T ho) ?_
  rintro _ h1 ⟨rfl, i1, S1, T1⟩
  unfold s76a3
  cases ok with
  | false =>
    rw [if_neg (by simp)] at hm
    simp only [Option.some.injEq, Prod.mk.injEq] at hm
    obtain ⟨rfl, rfl⟩ := hm
    refine ao ?_; refine yt ?_; refine ws ?_; refine wt fun _ _ => ?_; refine ws ?_
    exact Ev.ret ⟨I, i1, _, rfl, ILe.refl _, dp, T1, NV.flat _ _ _⟩
  | true =>
    rw [if_pos rfl] at hm
    obtain ⟨⟨l, st1⟩, h1', hm⟩ := Option.bind_eq_some_iff.1 hm
    obtain ⟨st2, h2, hm⟩ := Option.bind_eq_some_iff.1 hm
    obtain ⟨⟨ts, st3⟩, h3, hm⟩ := Option.bind_eq_some_iff.1 hm
    obtain ⟨⟨ks, st4⟩, h4, hm⟩ := Option.bind_eq_some_iff.1 hm
    obtain ⟨⟨t, st5⟩, h5, hm⟩ := Option.bind_eq_some_iff.1 hm
    simp only [Option.some.injEq, Prod.mk.injEq] at hm
    obtain ⟨rfl, rfl⟩ := hm
    refine an ?_; refine yj ?_
    unfold s76a4 s76a7
    refine paramsD_loop f 0 I A L _ p s .l0 i1 st0 [] l _ st1 _ _ S1 (SS.nil I) rfl (by first | assumption | exact tc_ones _ | (repeat (first | exact ones_nil | refine ones_cons (by first | rfl | assumption | exact Fz.one (by assumption)) ?_))) (by simpa using hf) T1 h1' ?_
    intro J0 h' i' x' g0 S2 G2 T2
    have hx := G2.2.one
    unfold s76a5
    have rest : ∀ (h' : Hp) (i' : Nat) (b2 b3 : Pos) (z : List DV), z.length = 6 → (∀ v ∈ z, v.one = true) → Sy J0 A [PD p s i' st2] ((b3, some (.row .ex [.i .i64 (Int.ofNat 9), .s [], .i .i64 (Int.ofNat 0), x', .l0, .l0])) :: (b2, some (.row .ex z)) :: L) h' → TD J0 s i' st2.toks →
        Ev (fun n => s76a6 (shD n) n (.p p 0) (.p b2 0) (.p b3 0) h') (NPostD I A L p s (.mk 9 [] 0 l ts ks) { st5 with deep := w64 (st5.deep - 1) }) := by
      intro h' i' b2 b3 z z1 z2 S2 T2
      unfold s76a6
      refine Ev.call (tempsD_ok f hf S2 T2 h3) ?_
      rintro v4 h4' ⟨K, i4, g4, S4, T4, N4⟩
      have o4 := N4.2.one
      refine wf ?_; refine wu fun _ _ => ?_
      refine Ev.call (stmtsD_ok HE f hf (by assumption) T4 h4) ?_
      rintro v5 h5' ⟨M, i5, g5, S5, T5, N5⟩
      have o5 := N5.one
      refine wf ?_; refine wu fun _ _ => ?_
      refine Ev.call (needD_ok (by assumption) T5 h5) ?_
      rintro _ _ ⟨rfl, i6, S6, T6⟩
      refine wn ?_; refine wf ?_; refine wq ?_
      refine Ev.isub ?_
      refine wn ?_; refine wf ?_; refine wv fun _ _ => ?_; refine ws ?_; refine wt fun _ _ => ?_; refine ws ?_
      exact Ev.ret ⟨M, i6, _, rfl, (g0.trans g4).trans g5, dp, T6, NV.of ((G2.mono g4).mono g5) (N4.mono g5) N5⟩
    refine wf ?_; refine wl ?_
    refine Ev.op (G2.2.len _) ?_
    unfold barD at h2
    refine Ev.igt (fun e1 => ?_) (fun e1 => ?_)
    · have e2 : 0 < l.length := by simp at e1; exact e1
      simp only [if_pos e2] at h2
      obtain ⟨c, hc, h2⟩ := Option.bind_eq_some_iff.1 h2
      refine zt ?_; refine wm ?_; refine zt ?_
      refine Ev.call (isD_ok (by assumption) T2 hc) ?_
      rintro _ _ ⟨rfl, S3⟩
      cases c with
      | true =>
        refine zt ?_; refine an ?_; refine ap ?_; refine yj ?_
        simp only [if_true, Option.some.injEq] at h2
        subst h2
        exact rest _ i' _ _ _ rfl (by first | assumption | exact tc_ones _ | (repeat (first | exact ones_nil | refine ones_cons (by first | rfl | assumption | exact Fz.one (by assumption)) ?_))) S3 T2
      | false =>
        refine zt ?_; refine ao ?_; refine ap ?_; refine yt ?_
        obtain ⟨⟨t2, st6⟩, ht2, h2⟩ := Option.bind_eq_some_iff.1 (by simpa using h2)
        simp only [Option.some.injEq] at h2
        subst h2
        refine Ev.call (needD_ok (by assumption) T2 ht2) ?_
        rintro _ _ ⟨rfl, i3, S4, T4⟩
        exact rest _ i3 _ _ _ rfl (by first | assumption | exact tc_ones _ | (repeat (first | exact ones_nil | refine ones_cons (by first | rfl | assumption | exact Fz.one (by assumption)) ?_))) S4 T4
    · have e2 : ¬ 0 < l.length := fun e => e1 (by show (0 : Int) < _; omega)
      simp only [if_neg e2, Option.some.injEq] at h2
      subst h2
      refine yf ?_; refine yf ?_; refine yf ?_; refine aq ?_; refine yj ?_
      exact rest _ i' _ _ _ rfl (by first | assumption | exact tc_ones _ | (repeat (first | exact ones_nil | refine ones_cons (by first | rfl | assumption | exact Fz.one (by assumption)) ?_))) S2 T2

theorem primaryD_ok {LI E : PF} (HL : NOkD 74 LI) (HE : NOkD 45 E) (f : Nat) (hf : f ≤ lim) : NOkD 57 (primaryD LI E f) := by
  intro I A L h p s i st x st' S T hm
  have hs := T.one
  unfold primaryD at hm
  refine Ev.enter (fun n => enter57 n _ h) ?_
  unfold s57 s57a1
  refine wa fun _ _ _ => ?_; refine wn ?_; refine wf ?_; refine wq ?_
  refine Ev.ine (fun e1 => ?_) (fun e1 => ?_)
  · refine yt ?_; refine wd ?_; refine wt fun _ _ => ?_; refine ws ?_
    rw [if_neg (show ¬ st.err = 0 from e1)] at hm
    simp only [Option.some.injEq, Prod.mk.injEq] at hm
    obtain ⟨rfl, rfl⟩ := hm
    exact Ev.ret ⟨I, i, _, rfl, ILe.refl _, dp, T, NV.flat _ _ _⟩
  · refine yj ?_
    rw [if_pos (show st.err = 0 from e1)] at hm
    obtain ⟨⟨⟨y, d⟩, st1⟩, hy, hm⟩ := Option.bind_eq_some_iff.1 hm
    unfold s57a2
    refine Ev.call (plainD_ok (by assumption) T hy) ?_
    rintro _ _ ⟨i1, cs, rfl, S1, T1, N1⟩
    obtain ⟨l1, o1, q1⟩ := N1.shape
    refine wx ?_; refine wx ?_; refine wa fun _ _ _ => ?_; refine wt fun _ _ => ?_
    unfold s57a3
    cases d with
    | true =>
      refine yt ?_; refine ws ?_; refine wt fun _ _ => ?_; refine ws ?_
      rw [if_pos rfl] at hm
      simp only [Option.some.injEq, Prod.mk.injEq] at hm
      obtain ⟨rfl, rfl⟩ := hm
      exact Ev.ret ⟨I, i1, _, rfl, ILe.refl _, dp, T1, N1⟩
    | false =>
      refine yj ?_
      rw [if_neg (by simp)] at hm
      obtain ⟨c, hc, hm⟩ := Option.bind_eq_some_iff.1 hm
      unfold s57a4
      refine Ev.call (isD_ok (by assumption) T1 hc) ?_
      rintro _ _ ⟨rfl, S2⟩
      cases c with
      | true =>
        refine yt ?_
        rw [if_pos rfl] at hm
        obtain ⟨⟨t, st2⟩, ht, hm⟩ := Option.bind_eq_some_iff.1 hm
        simp only [Option.some.injEq, Prod.mk.injEq] at hm
        obtain ⟨rfl, rfl⟩ := hm
        refine Ev.call (takeR_ok S2 T1 ht) ?_
        rintro _ _ ⟨rfl, i3, S3, T3⟩
        refine wp ?_; refine wd ?_; refine wt fun _ _ => ?_; refine ws ?_
        exact Ev.ret ⟨I, i3, _, rfl, ILe.refl _, dp, T3, NV.flat _ _ _⟩
      | false =>
        refine yj ?_
        rw [if_neg (by simp)] at hm
        obtain ⟨c, hc, hm⟩ := Option.bind_eq_some_iff.1 hm
        unfold s57a5
        refine Ev.call (isD_ok S2 T1 hc) ?_
        rintro _ _ ⟨rfl, S3⟩
        cases c with
        | true =>
          refine yt ?_
          rw [if_pos rfl] at hm
          refine Ev.call (HL _ _ _ _ _ _ _ _ _ _ S3 T1 hm) ?_
          rintro _ _ ⟨J, i5, ds, rfl, g5, S5, T5, N5⟩
          obtain ⟨l5, o5, q5⟩ := N5.shape
          refine wt fun _ _ => ?_; refine ws ?_
          exact Ev.ret ⟨J, i5, _, rfl, g5, dp, T5, N5⟩
        | false =>
          refine yj ?_
          rw [if_neg (by simp)] at hm
          obtain ⟨c, hc, hm⟩ := Option.bind_eq_some_iff.1 hm
          unfold s57a6
          refine Ev.call (isD_ok S3 T1 hc) ?_
          rintro _ _ ⟨rfl, S4⟩
          unfold s57a8
          cases c with
          | true =>
            refine yt ?_
            rw [if_pos rfl] at hm
            obtain ⟨⟨ok, st2⟩, ho, hm⟩ := Option.bind_eq_some_iff.1 hm
            unfold s57a9
            refine Ev.call (openD_ok S4 T1 ho) ?_
            rintro _ _ ⟨rfl, i5, S5, T5⟩
            unfold s57a10
            cases ok with
            | false =>
              refine yj ?_
              rw [if_neg (by simp)] at hm
              simp only [Option.some.injEq, Prod.mk.injEq] at hm
              obtain ⟨rfl, rfl⟩ := hm
              unfold s57a11
              refine ws ?_; refine wt fun _ _ => ?_; refine ws ?_
              exact Ev.ret ⟨I, i5, _, rfl, ILe.refl _, dp, T5, N1⟩
            | true =>
              refine yt ?_
              rw [if_pos rfl] at hm
              obtain ⟨⟨w, st3⟩, hw, hm⟩ := Option.bind_eq_some_iff.1 hm
              obtain ⟨⟨u, st4⟩, hu, hm⟩ := Option.bind_eq_some_iff.1 hm
              simp only [Option.some.injEq, Prod.mk.injEq] at hm
              obtain ⟨rfl, rfl⟩ := hm
              refine Ev.call (HE _ _ _ _ _ _ _ _ _ _ S5 T5 hw) ?_
              rintro _ _ ⟨J, i6, ds, rfl, g6, S6, T6, N6⟩
              obtain ⟨l6, o6, q6⟩ := N6.shape
              refine wt fun _ _ => ?_
              refine Ev.call (needD_ok (by assumption) T6 hu) ?_
              rintro _ _ ⟨rfl, i7, S7, T7⟩
              refine wn ?_; refine wf ?_; refine wq ?_
              refine Ev.isub ?_
              refine wn ?_; refine wf ?_; refine wv fun _ _ => ?_
              unfold s57a11
              refine ws ?_; refine wt fun _ _ => ?_; refine ws ?_
              exact Ev.ret ⟨J, i7, _, rfl, g6, dp, T7, N6⟩
          | false =>
            refine yj ?_
            rw [if_neg (by simp)] at hm
            obtain ⟨c, hc, hm⟩ := Option.bind_eq_some_iff.1 hm
            unfold s57a7
            refine Ev.call (isD_ok S4 T1 hc) ?_
            rintro _ _ ⟨rfl, S5⟩
            cases c with
            | true =>
              refine yt ?_
              rw [if_pos rfl] at hm
              refine Ev.call (blockD_ok HE f hf _ _ _ _ _ _ _ _ _ _ S5 T1 hm) ?_
              rintro _ _ ⟨J, i6, ds, rfl, g6, S6, T6, N6⟩
              obtain ⟨l6, o6, q6⟩ := N6.shape
              refine wt fun _ _ => ?_; refine ws ?_
              exact Ev.ret ⟨J, i6, _, rfl, g6, dp, T6, N6⟩
            | false =>
              refine yj ?_
              rw [if_neg (by simp)] at hm
              obtain ⟨t, ht, hm⟩ := Option.bind_eq_some_iff.1 hm
              simp only [Option.some.injEq, Prod.mk.injEq] at hm
              obtain ⟨rfl, rfl⟩ := hm
              refine Ev.call (ahead_ok (k := 0) S5 T1 ht (by omega)) ?_
              rintro _ _ ⟨rfl, S6⟩
              refine Ev.call (failD_ok S6 hs t _) ?_
              rintro _ _ ⟨rfl, S7⟩
              refine ws ?_; refine wt fun _ _ => ?_; refine ws ?_
              exact Ev.ret ⟨I, i1, _, rfl, ILe.refl _, dp, by rw [failS_toks]; exact T1, N1⟩

end Go.Dd

