/- Dd, part S9: ParseSame answers true, for any two nodes in a heap of Dd. -/
import Derived.Test.YtliejomdaookoaaDdxS8
set_option linter.unusedVariables false
set_option linter.unusedSimpArgs false
set_option maxRecDepth 100000
namespace Go.Dd
open Go.Proofs

theorem eqD_self (t : List Nat) : eqD t t = true := by rw [eqD_iff]

theorem beq_slice {s : DV} (h : s = .l0 ∨ ∃ b o n c, s = .l b o n c) : DV.beq s s = true := by
  rcases h with rfl | ⟨b, o, n, c, rfl⟩
  · rfl
  · simp [DV.beq]

theorem SL.form {h : Hp} {s : DV} {l : List (List Nat)} (H : SL h s l) : s = .l0 ∨ ∃ b o n c, s = .l b o n c := by
  obtain ⟨_, ⟨rfl, _⟩ | ⟨b, cap, k, row, rfl, _⟩⟩ := H
  · exact .inl rfl
  · exact .inr ⟨_, _, _, _, rfl⟩

theorem KL.form {h : Hp} {s : DV} {l : List (List DV)} (H : KL h s l) : s = .l0 ∨ ∃ b o n c, s = .l b o n c := by
  obtain ⟨_, ⟨rfl, _⟩ | ⟨b, cap, k, row, rfl, _⟩⟩ := H
  · exact .inl rfl
  · exact .inr ⟨_, _, _, _, rfl⟩

theorem ND.beq {h : Hp} : ∀ {d : Nat} {x : List DV}, ND h d x → DV.beq (.a x) (.a x) = true
  | 0, x, H => H.elim
  | d + 1, x, ⟨k, t, m, s1, s2, s3, l1, l2, ks, e, a, b, c, f⟩ => by
    subst e
    simp [DV.beq, DV.beqs, eqD_self, beq_slice a.form, beq_slice b.form, beq_slice c.form]

theorem stepT {a : Bool} {h h1 : Hp} {r : Res} {v : DV} {k : DV → Hp → Res} (g : Ge h h1) (W : Wf h1) (e : r = some (v, h1)) (H : Ans a h1 (k v h1)) : Ans a h (bnd r k) := by
  obtain ⟨h2, q, g2, W2⟩ := H
  exact ⟨h2, by rw [e]; exact q, g.trans g2, W2⟩

theorem Ans.back {a : Bool} {h h1 : Hp} {r : Res} (g : Ge h h1) (H : Ans a h1 r) : Ans a h r := by
  obtain ⟨h2, q, g2, W2⟩ := H
  exact ⟨h2, q, g.trans g2, W2⟩

theorem stepGT {a g : Bool} {h h1 h2 : Hp} {r : Res} {v : DV} {k : DV → Hp → Res} (e : r = some (v, h1)) (H : Ans a h (k v h1)) : Ans a h (bnd (gD (.b g) g r h2) k) := stepG e H

theorem s6_ok {d : Nat} {h : Hp} {x y : List DV} (W : Wf h) (Hx : ND h d x) (Hy : ND h d y) : ∃ N, ∀ n, N ≤ n → Ans true h (s6 (recL 9 true n) n (.a x) (.a y) h) := by
  obtain ⟨N1, F1⟩ := few d h x Hx
  obtain ⟨N2, F2⟩ := few d h y Hy
  obtain ⟨r, ⟨N3, B3⟩, _⟩ := says d h x y Hx Hy
  obtain ⟨r', ⟨N4, B4⟩, er⟩ := says d h x x Hx Hx
  obtain rfl := er rfl
  refine ⟨N1 + N2 + N3 + N4, fun n hn => ?_⟩
  have e13 : recL 9 true n 13 = shD n 13 := recL_other true n rfl
  have e14 : recL 9 true n 14 = shD n 14 := recL_other true n rfl
  have e11 : recL 9 true n 11 = shD n 11 := recL_other true n rfl
  unfold s6
  rw [e13, e14, e11]
  obtain ⟨lx, ox⟩ := Hx.shape
  obtain ⟨ly, oy⟩ := Hy.shape
  have bx := Hx.beq
  have by' := Hy.beq
  refine step (box_a _ _) (step (box_a _ _) ?_)
  generalize hh1 : nw (.row .ex x) h = h1
  have W1 : Wf h1 := hh1 ▸ nw_wf W _
  have G1 : Ge h h1 := hh1 ▸ nw_ge W _
  have q1 : h1.bl.get h.next = some (.row .ex x) := hh1 ▸ nw_get h _
  generalize hh2 : nw (.row .ex y) h1 = h2
  have W2 : Wf h2 := hh2 ▸ nw_wf W1 _
  have G2 : Ge h1 h2 := hh2 ▸ nw_ge W1 _
  have q2 : h2.bl.get h1.next = some (.row .ex y) := hh2 ▸ nw_get h1 _
  have q1 := G2 _ _ q1
  have g2 := G1.trans G2
  have L1 : ∀ h', Ge h2 h' → pLoadA 6 (.p h.next 0) h' = some (.a x, h') := fun h' g => ldA (g _ _ q1) (by have := takeD_all x ox; rw [lx] at this; simpa using this)
  have L2 : ∀ h', Ge h2 h' → pLoadA 6 (.p h1.next 0) h' = some (.a y, h') := fun h' g => ldA (g _ _ q2) (by have := takeD_all y oy; rw [ly] at this; simpa using this)
  refine step (L1 _ (Ge.refl _)) ?_
  obtain ⟨q3, h4, r4, g4, W4⟩ := F1 h2 n (Int.ofNat 100) g2 W2 (by omega)
  refine step r4 (step (int_lt _ _ _) ?_)
  have live : ∀ h', Ge h h' → Wf h' → Ans true h (bnd (recL 9 true n 9 [] h') fun v10 h10 => some (v10, h10)) := fun h' g W' => step (recL_self 9 true n h') ⟨h', rfl, g, W'⟩
  cases decide (q3 < Int.ofNat 0) with
  | true => exact step (gD_tf _ _) (step (gD_tf _ _) (step (gD_tf _ _) (step (pick_t _ _ _) (live h4 (g2.trans g4) W4))))
  | false =>
  refine stepG (L2 _ g4) ?_
  obtain ⟨q5, h5, r5, g5, W5⟩ := F2 h4 n (Int.ofNat 100) (g2.trans g4) W4 (by omega)
  refine stepG r5 (stepG (int_lt _ _ _) (step (pick_f _ _ _) ?_))
  have g45 := g4.trans g5
  cases decide (q5 < Int.ofNat 0) with
  | true => exact live h5 (g2.trans g45) W5
  | false =>
  rw [ifD_f]
  refine step (L1 _ g45) (step (L2 _ g45) ?_)
  obtain ⟨⟨h6, r6, g6, W6⟩, _⟩ := B3 h5 n (g2.trans g45) W5 (by omega)
  refine step r6 (step (L1 _ (g45.trans g6)) ?_)
  rw [L1 _ g45]
  have sx : sameR (some (DV.a x, h5)) (.a x) = true := bx
  rw [sx]
  show Ans true h (bnd (pLoadA 6 (.p h1.next 0) h6) _)
  refine step (L2 _ (g45.trans g6)) ?_
  rw [L2 _ g45]
  have sy : sameR (some (DV.a y, h5)) (.a y) = true := by'
  rw [sy]
  show Ans true h (bnd (shD n 11 [.a x, .a y] h6) _)
  obtain ⟨_, ⟨h7, r7, g7, W7⟩⟩ := B3 h6 n ((g2.trans g45).trans g6) W6 (by omega)
  have g7' := (g45.trans g6).trans g7
  refine step r7 ?_
  have eb : pEq .bool true (.b r) (.b r) h7 = some (.b true, h7) := by cases r <;> rfl
  refine step eb (stepG (L1 _ g7') (stepG (L1 _ g7') ?_))
  obtain ⟨⟨h8, r8, g8, W8⟩, _⟩ := B4 h7 n (g2.trans g7') W7 (by omega)
  refine stepG r8 (step (pick_t _ _ _) (stepG (recL_self 9 true n h8) (step (pick_t _ _ _) ?_)))
  exact ⟨h8, rfl, (g2.trans g7').trans g8, W8⟩

theorem lives9 : ∃ h1, shD 900 9 [] h00 = some (.b true, h1) := val_b (by kernel_rfl)

end Go.Dd
