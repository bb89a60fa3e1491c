/- Dd, part S5: the document's Same. -/
import Derived.Test.YtliejomdaookoaaDdxS4
set_option linter.unusedVariables false
set_option linter.unusedSimpArgs false
set_option maxRecDepth 100000
namespace Go.Dd
open Go.Proofs

theorem s11_ok {n : Nat} {h : Hp} {rr : List DV → List DV → Bool} {k k' : Int} {t t' : List Nat} {m m' : Int} {l1 l1' l2 l2' : List (List Nat)} {ks ks' : List (List DV)} {s1 s2 s3 s1' s2' s3' : DV}
    (A1 : SL h s1 l1) (A2 : SL h s2 l2) (A3 : KL h s3 ks) (B1 : SL h s1' l1') (B2 : SL h s2' l2') (B3 : KL h s3' ks') (W : Wf h)
    (hn1 : l1.length + 2 < n) (hn2 : l2.length + 2 < n) (hn3 : ks.length + 2 < n)
    (Hc : ∀ (i : Nat) x y, ks[i]? = some x → ks'[i]? = some y → ∀ h', Ge h h' → Wf h' → Ans (rr x y) h' (shD n 11 [.a x, .a y] h')) :
    Ans (sm rr k k' t t' m m' l1 l1' l2 l2' ks ks') h (s11 (shD n) n (.a [.i .i64 k, .s t, .i .i64 m, s1, s2, s3]) (.a [.i .i64 k', .s t', .i .i64 m', s1', s2', s3']) h) := by
  unfold s11
  refine step (box_a _ _) ?_
  refine step (box_a _ _) ?_
  generalize hc : [DV.i .i64 k, .s t, .i .i64 m, s1, s2, s3] = c
  generalize hc' : [DV.i .i64 k', .s t', .i .i64 m', s1', s2', s3'] = c'
  generalize hh1 : nw (.row .ex c) h = h1
  have W1 : Wf h1 := hh1 ▸ nw_wf W _
  have G1 : Ge h h1 := hh1 ▸ nw_ge W _
  have q1 : h1.bl.get h.next = some (.row .ex c) := hh1 ▸ nw_get h _
  generalize hh2 : nw (.row .ex c') h1 = h2
  have W2 : Wf h2 := hh2 ▸ nw_wf W1 _
  have G2 : Ge h1 h2 := hh2 ▸ nw_ge W1 _
  have q2 : h2.bl.get h1.next = some (.row .ex c') := hh2 ▸ nw_get h1 _
  have q1 := G2 _ _ q1
  have G := G1.trans G2
  have x0 : pLoad1 (.p h.next (0 + 0)) h2 = some (.i .i64 k, h2) := ld1 q1 (by rw [← hc]; rfl) rfl
  have x1 : pLoad1 (.p h.next (0 + 1)) h2 = some (.s t, h2) := ld1 q1 (by rw [← hc]; rfl) rfl
  have x2 : pLoad1 (.p h.next (0 + 2)) h2 = some (.i .i64 m, h2) := ld1 q1 (by rw [← hc]; rfl) rfl
  have x3 : pLoad1 (.p h.next (0 + 3)) h2 = some (s1, h2) := ld1 q1 (by rw [← hc]; rfl) A1.one
  have x4 : pLoad1 (.p h.next (0 + 4)) h2 = some (s2, h2) := ld1 q1 (by rw [← hc]; rfl) A2.one
  have x5 : pLoad1 (.p h.next (0 + 5)) h2 = some (s3, h2) := ld1 q1 (by rw [← hc]; rfl) A3.one
  have y0 : pLoad1 (.p h1.next (0 + 0)) h2 = some (.i .i64 k', h2) := ld1 q2 (by rw [← hc']; rfl) rfl
  have y1 : pLoad1 (.p h1.next (0 + 1)) h2 = some (.s t', h2) := ld1 q2 (by rw [← hc']; rfl) rfl
  have y2 : pLoad1 (.p h1.next (0 + 2)) h2 = some (.i .i64 m', h2) := ld1 q2 (by rw [← hc']; rfl) rfl
  have y3 : pLoad1 (.p h1.next (0 + 3)) h2 = some (s1', h2) := ld1 q2 (by rw [← hc']; rfl) B1.one
  have y4 : pLoad1 (.p h1.next (0 + 4)) h2 = some (s2', h2) := ld1 q2 (by rw [← hc']; rfl) B2.one
  have y5 : pLoad1 (.p h1.next (0 + 5)) h2 = some (s3', h2) := ld1 q2 (by rw [← hc']; rfl) B3.one
  have z1 : shD n 21 [s1, s1'] h2 = some (.b (decide (l1 = l1')), h2) := f21_ok (A1.mono G) (B1.mono G) (by omega)
  have z2 : shD n 21 [s2, s2'] h2 = some (.b (decide (l2 = l2')), h2) := f21_ok (A2.mono G) (B2.mono G) (by omega)
  unfold sm s11a1
  refine step (fld _ _ _ _) (step x3 (step (fld _ _ _ _) (step y3 (step z1 ?_))))
  unfold s11a2
  refine step (fld _ _ _ _) (step x4 (step (fld _ _ _ _) (step y4 (step z2 ?_))))
  unfold s11a3
  refine step (not_b _ _) ?_
  cases e4 : decide (l1 = l1') with
  | false =>
    simp only [Bool.and_false, Bool.false_and, Bool.not_false]
    iterate 29 refine step rfl ?_
    exact ⟨h2, rfl, G, W2⟩
  | true =>
  refine stepG rfl (stepG (not_b _ _) (step (pick_f _ _ _) ?_))
  cases e5 : decide (l2 = l2') with
  | false =>
    simp only [Bool.and_false, Bool.false_and, Bool.not_false]
    iterate 26 refine step rfl ?_
    exact ⟨h2, rfl, G, W2⟩
  | true =>
  refine stepG (fld _ _ _ _) (stepG x0 (stepG (fld _ _ _ _) (stepG y0 (stepG (int_ne _ _ _) (step (pick_f _ _ _) ?_)))))
  have ne1 : (k != k') = !(k == k') := rfl
  rw [ne1]
  cases e1 : (k == k') with
  | false =>
    simp only [Bool.and_false, Bool.false_and, Bool.not_false]
    iterate 20 refine step rfl ?_
    exact ⟨h2, rfl, G, W2⟩
  | true =>
  refine stepG (fld _ _ _ _) (stepG x1 (stepG (fld _ _ _ _) (stepG y1 (stepG (str_ne _ _ _) (step (pick_f _ _ _) ?_)))))
  cases e2 : eqD t t' with
  | false =>
    simp only [Bool.and_false, Bool.false_and, Bool.not_false]
    iterate 14 refine step rfl ?_
    exact ⟨h2, rfl, G, W2⟩
  | true =>
  refine stepG (fld _ _ _ _) (stepG x2 (stepG (fld _ _ _ _) (stepG y2 (stepG (int_ne _ _ _) (step (pick_f _ _ _) ?_)))))
  have ne2 : (m != m') = !(m == m') := rfl
  rw [ne2]
  cases e3 : (m == m') with
  | false =>
    simp only [Bool.and_false, Bool.false_and, Bool.not_false]
    iterate 8 refine step rfl ?_
    exact ⟨h2, rfl, G, W2⟩
  | true =>
  refine stepG (fld _ _ _ _) (stepG x5 (stepG (A3.len _) (stepG (fld _ _ _ _) (stepG y5 (stepG (B3.len _) (stepG (int_ne _ _ _) (step (pick_f _ _ _) ?_)))))))
  by_cases hl : ks.length = ks'.length
  · have q : ((ks.length : Int) != (ks'.length : Int)) = false := by simp [hl]
    rw [q, decide_eq_true hl]
    obtain ⟨h4, r4, g4, W4⟩ := s11_loop (n := n) (b1 := h.next) (b2 := h1.next) (c1 := c) (c2 := c') q1 q2 (by rw [← hc]; rfl) (by rw [← hc']; rfl) (A3.mono G) (B3.mono G) hl (fun i x y hx hy h' g' W' => Hc i x y hx hy h' (G.trans g') W') n 0 h2 (by omega) (by omega) (Ge.refl _) W2
    exact ⟨h4, r4, G.trans g4, W4⟩
  · have q : ((ks.length : Int) != (ks'.length : Int)) = true := by simp; omega
    rw [q, decide_eq_false hl]
    exact ⟨h2, rfl, G, W2⟩

end Go.Dd
