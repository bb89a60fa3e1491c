/- Dd, part S4: whether two nodes are the same: the program and the document tell one thing. -/
import Derived.Test.YtliejomdaookoaaDdxS3
set_option linter.unusedVariables false
set_option linter.unusedSimpArgs false
set_option maxRecDepth 100000
namespace Go.Dd
open Go.Proofs

/-- What both say. -/
noncomputable def sm (rr : List DV → List DV → Bool) (k k' : Int) (t t' : List Nat) (m m' : Int) (l1 l1' l2 l2' : List (List Nat)) (ks ks' : List (List DV)) : Bool :=
  (k == k') && eqD t t' && (m == m') && decide (l1 = l1') && decide (l2 = l2') && (decide (ks.length = ks'.length) && allR rr ks ks')

theorem step {a : Bool} {h h1 : Hp} {r : Res} {v : DV} {k : DV → Hp → Res} (e : r = some (v, h1)) (H : Ans a h (k v h1)) : Ans a h (bnd r k) := by
  rw [e]; exact H
theorem stepG {a g : Bool} {h h1 h2 : Hp} {r : Res} {v : DV} {k : DV → Hp → Res} (e : r = some (v, h1)) (H : Ans a h (k v h1)) : Ans a h (bnd (gD (.b g) g r h2) k) := by
  have : gD (.b g) g r h2 = r := by cases g <;> rfl
  rw [this, e]; exact H

theorem s14_ok {n : Nat} {h : Hp} {rr : List DV → List DV → Bool} {k k' : Int} {t t' : List Nat} {m m' : Int} {l1 l1' l2 l2' : List (List Nat)} {ks ks' : List (List DV)} {s1 s2 s3 s1' s2' s3' : DV}
    (A1 : SL h s1 l1) (A2 : SL h s2 l2) (A3 : KL h s3 ks) (B1 : SL h s1' l1') (B2 : SL h s2' l2') (B3 : KL h s3' ks')
    (O1 : ∀ x ∈ ks, x.length = 6 ∧ ∀ v ∈ x, v.one = true) (O2 : ∀ x ∈ ks', x.length = 6 ∧ ∀ v ∈ x, v.one = true) (W : Wf h)
    (hn1 : l1.length + 2 < n) (hn2 : l2.length + 2 < n) (hn3 : ks.length + 2 < n)
    (Hc : ∀ (i : Nat) x y, ks[i]? = some x → ks'[i]? = some y → ∀ h', Ge h h' → Wf h' → Ans (rr x y) h' (shD (n - 1) 14 [.a x, .a y] h')) :
    Ans (sm rr k k' t t' m m' l1 l1' l2 l2' ks ks') h (s14 (shD n) n (.a [.i .i64 k, .s t, .i .i64 m, s1, s2, s3]) (.a [.i .i64 k', .s t', .i .i64 m', s1', s2', s3']) h) := by
  unfold s14
  refine step (box_a _ _) ?_
  refine step (box_a _ _) ?_
  generalize hc : [DV.i .i64 k, .s t, .i .i64 m, s1, s2, s3] = c
  generalize hc' : [DV.i .i64 k', .s t', .i .i64 m', s1', s2', s3'] = c'
  generalize hh1 : nw (.row .ex c) h = h1
  have W1 : Wf h1 := hh1 ▸ nw_wf W _
  have G1 : Ge h h1 := hh1 ▸ nw_ge W _
  have q1 : h1.bl.get h.next = some (.row .ex c) := hh1 ▸ nw_get h _
  generalize hh2 : nw (.row .ex c') h1 = h2
  have W2 : Wf h2 := hh2 ▸ nw_wf W1 _
  have G2 : Ge h1 h2 := hh2 ▸ nw_ge W1 _
  have q2 : h2.bl.get h1.next = some (.row .ex c') := hh2 ▸ nw_get h1 _
  have q1 := G2 _ _ q1
  have G := G1.trans G2
  have x0 : pLoad1 (.p h.next (0 + 0)) h2 = some (.i .i64 k, h2) := ld1 q1 (by rw [← hc]; rfl) rfl
  have x1 : pLoad1 (.p h.next (0 + 1)) h2 = some (.s t, h2) := ld1 q1 (by rw [← hc]; rfl) rfl
  have x2 : pLoad1 (.p h.next (0 + 2)) h2 = some (.i .i64 m, h2) := ld1 q1 (by rw [← hc]; rfl) rfl
  have x3 : pLoad1 (.p h.next (0 + 3)) h2 = some (s1, h2) := ld1 q1 (by rw [← hc]; rfl) A1.one
  have x4 : pLoad1 (.p h.next (0 + 4)) h2 = some (s2, h2) := ld1 q1 (by rw [← hc]; rfl) A2.one
  have x5 : pLoad1 (.p h.next (0 + 5)) h2 = some (s3, h2) := ld1 q1 (by rw [← hc]; rfl) A3.one
  have y0 : pLoad1 (.p h1.next (0 + 0)) h2 = some (.i .i64 k', h2) := ld1 q2 (by rw [← hc']; rfl) rfl
  have y1 : pLoad1 (.p h1.next (0 + 1)) h2 = some (.s t', h2) := ld1 q2 (by rw [← hc']; rfl) rfl
  have y2 : pLoad1 (.p h1.next (0 + 2)) h2 = some (.i .i64 m', h2) := ld1 q2 (by rw [← hc']; rfl) rfl
  have y3 : pLoad1 (.p h1.next (0 + 3)) h2 = some (s1', h2) := ld1 q2 (by rw [← hc']; rfl) B1.one
  have y4 : pLoad1 (.p h1.next (0 + 4)) h2 = some (s2', h2) := ld1 q2 (by rw [← hc']; rfl) B2.one
  have y5 : pLoad1 (.p h1.next (0 + 5)) h2 = some (s3', h2) := ld1 q2 (by rw [← hc']; rfl) B3.one
  have z1 : shD n 22 [s1, s1'] h2 = some (.b (decide (l1 = l1')), h2) := f22_ok (A1.mono G) (B1.mono G) (by omega)
  have z2 : shD n 22 [s2, s2'] h2 = some (.b (decide (l2 = l2')), h2) := f22_ok (A2.mono G) (B2.mono G) (by omega)
  have z3 : Ans (decide (ks.length = ks'.length) && allR rr ks ks') h2 (shD n 23 [s3, s3', .f 14 [] []] h2) := by
    obtain ⟨n, rfl⟩ : ∃ m, n = m + 1 := ⟨n - 1, by omega⟩
    exact f23_ok (A3.mono G) (B3.mono G) O1 O2 (by omega) W2 (fun i x y hx hy h' g' W' => Hc i x y hx hy h' (G.trans g') W')
  obtain ⟨h3, r3, g3, W3⟩ := z3
  have GG : Ge h h3 := G.trans g3
  unfold sm
  refine step (fld _ _ _ _) (step x0 (step (fld _ _ _ _) (step y0 (step (int_eq _ _ _) ?_))))
  cases e1 : (k == k') with
  | false =>
    iterate 30 refine step rfl ?_
    exact ⟨h2, rfl, G, W2⟩
  | true =>
  refine stepG (fld _ _ _ _) (stepG x1 (stepG (fld _ _ _ _) (stepG y1 (stepG (str_eq _ _ _) (step (pick_t _ _ _) ?_)))))
  cases e2 : eqD t t' with
  | false =>
    iterate 24 refine step rfl ?_
    exact ⟨h2, rfl, G, W2⟩
  | true =>
  refine stepG (fld _ _ _ _) (stepG x2 (stepG (fld _ _ _ _) (stepG y2 (stepG (int_eq _ _ _) (step (pick_t _ _ _) ?_)))))
  cases e3 : (m == m') with
  | false =>
    iterate 18 refine step rfl ?_
    exact ⟨h2, rfl, G, W2⟩
  | true =>
  refine stepG (fld _ _ _ _) (stepG x3 (stepG (fld _ _ _ _) (stepG y3 (stepG z1 (step (pick_t _ _ _) ?_)))))
  cases e4 : decide (l1 = l1') with
  | false =>
    iterate 12 refine step rfl ?_
    exact ⟨h2, rfl, G, W2⟩
  | true =>
  refine stepG (fld _ _ _ _) (stepG x4 (stepG (fld _ _ _ _) (stepG y4 (stepG z2 (step (pick_t _ _ _) ?_)))))
  cases e5 : decide (l2 = l2') with
  | false =>
    iterate 6 refine step rfl ?_
    exact ⟨h2, rfl, G, W2⟩
  | true =>
  refine stepG (fld _ _ _ _) (stepG x5 (stepG (fld _ _ _ _) (stepG y5 (stepG r3 (step (pick_t _ _ _) ?_)))))
  exact ⟨h3, rfl, GG, W3⟩

end Go.Dd
