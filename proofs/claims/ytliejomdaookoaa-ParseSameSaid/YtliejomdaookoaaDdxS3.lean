/- Dd, part S3: the same nodes, by the program's functions. -/
import Derived.Test.YtliejomdaookoaaDdxS2
set_option linter.unusedVariables false
set_option linter.unusedSimpArgs false
set_option maxRecDepth 100000
namespace Go.Dd
open Go.Proofs

theorem call14 (rec : FuncId → List DV → Hp → Res) (x y : DV) (h : Hp) : pCall CF rec (.f 14 [] []) [x, y] h = rec 14 [x, y] h := by kernel_rfl

theorem s23_loop {rec : FuncId → List DV → Hp → Res} {n : Nat} {h : Hp} {s1 s2 : DV} {k1 k2 : List (List DV)} {rr : List DV → List DV → Bool}
    (H1 : KL h s1 k1) (H2 : KL h s2 k2) (hl : k1.length = k2.length) (O1 : ∀ x ∈ k1, x.length = 6 ∧ ∀ v ∈ x, v.one = true) (O2 : ∀ x ∈ k2, x.length = 6 ∧ ∀ v ∈ x, v.one = true)
    (Hc : ∀ (i : Nat) x y, k1[i]? = some x → k2[i]? = some y → ∀ h', Ge h h' → Wf h' → Ans (rr x y) h' (rec 14 [.a x, .a y] h')) :
    ∀ (m i : Nat) (h' : Hp), i ≤ k1.length → k1.length < m + i → Ge h h' → Wf h' → Ans (allR rr (k1.drop i) (k2.drop i)) h' (s23a5l rec n m s2 (.f 14 [] []) s1 (.i .i64 (k1.length : Int)) (.i .i64 (i : Int)) h')
  | 0, i, h', h1, h2, g, W => by omega
  | m + 1, i, h', h1, h2, g, W => by
    show Ans _ _ (s23a5b rec n (s23a5l rec n m) s2 (.f 14 [] []) s1 (.i .i64 (k1.length : Int)) (.i .i64 (i : Int)) h')
    unfold s23a5b
    simp only [bnS, int_lt]
    by_cases hi : i < k1.length
    · have hd : decide ((i : Int) < (k1.length : Int)) = true := by simp; omega
      have g1 : k1[i]? = some k1[i] := by simp [hi]
      have g2 : k2[i]? = some (k2[i]'(by omega)) := by simp [show i < k2.length by omega]
      obtain ⟨p1, a1, e1⟩ := H1.at g1
      obtain ⟨p2, a2, e2⟩ := H2.at g2
      obtain ⟨o1, o1'⟩ := O1 k1[i] (List.getElem_mem hi)
      obtain ⟨o2, o2'⟩ := O2 (k2[i]'(by omega)) (List.getElem_mem _)
      simp only [hd, ifD_t, bnS, a1, e1 _ g, new_a]
      obtain ⟨h5, r5, g5, W5, q5, n5⟩ := new_store (h := h') (x := k1[i]) W o1 o1'
      have r5' : pStore 6 (.p h'.next 0) (.a k1[i]) (nw (.row .ex [(.i .i64 (Int.ofNat 0)), (.s []), (.i .i64 (Int.ofNat 0)), .l0, .l0, .l0]) h') = some (undefD, h5) := r5
      rw [r5']
      simp only [bnS, a2, e2 _ (g.trans g5)]
      obtain ⟨h9, r9, g9, W9, q9, n9⟩ := new_store (h := h5) (x := k2[i]'(by omega)) W5 o2 o2'
      have r9' : pStore 6 (.p h5.next 0) (.a (k2[i]'(by omega))) (nw (.row .ex [(.i .i64 (Int.ofNat 0)), (.s []), (.i .i64 (Int.ofNat 0)), .l0, .l0, .l0]) h5) = some (undefD, h9) := r9
      rw [r9']
      have la : pLoadA 6 (.p h'.next 0) h9 = some (.a k1[i], h9) := ldA (g9 _ _ q5) (by have := takeD_all k1[i] o1'; rw [o1] at this; simpa using this)
      have lb : pLoadA 6 (.p h5.next 0) h9 = some (.a (k2[i]'(by omega)), h9) := ldA q9 (by have := takeD_all (k2[i]'(by omega)) o2'; rw [o2] at this; simpa using this)
      simp only [bnS, la, lb, call14]
      obtain ⟨h3, r3, g3, W3⟩ := Hc i _ _ g1 g2 h9 ((g.trans g5).trans g9) W9
      have gg : Ge h' h3 := (g5.trans g9).trans g3
      rw [r3, drop_cons g1, drop_cons g2]
      simp only [bnS, not_b, allR]
      cases hq : rr k1[i] (k2[i]'(by omega)) with
      | false =>
        simp only [Bool.not_false, ifD_t, Bool.false_and]
        exact ⟨h3, rfl, gg, W3⟩
      | true =>
        simp only [Bool.not_true, ifD_f, int_add, bnS, Bool.true_and]
        rw [wrap_succ i _ hi H1.1]
        obtain ⟨h4, r4, g4, W4⟩ := s23_loop H1 H2 hl O1 O2 Hc m (i + 1) h3 (by omega) (by omega) (g.trans gg) W3
        exact ⟨h4, r4, gg.trans g4, W4⟩
    · have hd : decide ((i : Int) < (k1.length : Int)) = false := by simp; omega
      simp only [hd, ifD_f]
      rw [List.drop_eq_nil_of_le (show k1.length ≤ i by omega), List.drop_eq_nil_of_le (show k2.length ≤ i by omega)]
      exact ⟨h', rfl, Ge.refl _, W⟩

theorem f23_ok {n : Nat} {h : Hp} {s1 s2 : DV} {k1 k2 : List (List DV)} {rr : List DV → List DV → Bool}
    (H1 : KL h s1 k1) (H2 : KL h s2 k2) (O1 : ∀ x ∈ k1, x.length = 6 ∧ ∀ v ∈ x, v.one = true) (O2 : ∀ x ∈ k2, x.length = 6 ∧ ∀ v ∈ x, v.one = true) (hn : k1.length < n) (W : Wf h)
    (Hc : ∀ (i : Nat) x y, k1[i]? = some x → k2[i]? = some y → ∀ h', Ge h h' → Wf h' → Ans (rr x y) h' (shD n 14 [.a x, .a y] h')) :
    Ans (decide (k1.length = k2.length) && allR rr k1 k2) h (shD (n + 1) 23 [s1, s2, .f 14 [] []] h) := by
  rw [enter23]
  unfold s23 s23a1
  simp only [H1.len, H2.len, bnS, int_ne]
  by_cases hl : k1.length = k2.length
  · have q : ((k1.length : Int) != (k2.length : Int)) = false := by simp [hl]
    simp only [q, ifD_f]
    unfold s23a2
    simp only [H1.len, bnS]
    obtain ⟨h4, r4, g4, W4⟩ := s23_loop H1 H2 hl O1 O2 Hc n 0 h (by omega) (by omega) (Ge.refl _) W (n := n)
    refine ⟨h4, ?_, g4, W4⟩
    rw [decide_eq_true hl]
    exact r4
  · have q : ((k1.length : Int) != (k2.length : Int)) = true := by simp; omega
    simp only [q, ifD_t]
    rw [decide_eq_false hl]
    exact ⟨h, rfl, Ge.refl _, W⟩

end Go.Dd
