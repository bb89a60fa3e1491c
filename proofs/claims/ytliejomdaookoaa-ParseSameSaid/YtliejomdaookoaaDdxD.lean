/- Dd, part D: stores, appends in place, iterators. -/
import Derived.Test.YtliejomdaookoaaDdxC
set_option linter.unusedSimpArgs false
set_option linter.constructorNameAsVariable false
set_option linter.unusedVariables false
namespace Go.Dd
open Go.RowKit (Below)

theorem adr_add (L : Loc) (o i : Nat) : (adr L o).add i = adr L (o + i) := by
  unfold Addr.add adr
  split
  · rename_i h; subst h; rfl
  · rename_i h; simp [Nat.add_assoc]; intro _ h2; exact absurd h2 h

theorem run_store_one {P : Program} {w : World} {a : Addr} {v x : Value} (h : w.cell? a = some x) (hf : w.frozen? a = false) (ho : oneV v = true) :
    (store a v).run P w = .ok () (w.setCell a v) := by
  cases v <;> simp [oneV] at ho <;> simp [store, Sem.run, h, hf]

/-- Cells written one behind the other in one block. -/
structure Wrote (w w' : World) (L : Loc) (n : Nat) (vs : List Value) : Prop where
  os : w'.os = w.os
  tape : w'.tape = w.tape
  output : w'.output = w.output
  size : w'.heap.size = w.heap.size
  block : ∀ k : Nat, k ≠ L.bl → w'.heap[k]? = w.heap[k]?
  new : ∀ (j : Nat) v, vs[j]? = some v → w'.cell? (adr L (n + j)) = some v
  old : ∀ a, (∀ j, j < vs.length → a ≠ adr L (n + j)) → w'.cell? a = w.cell? a
  frozen : ∀ a, w'.frozen? a = w.frozen? a
  kept : ∀ bs pos (k : Nat), w.heap[k]? = some (Obj.stringIter bs pos) → w'.heap[k]? = some (Obj.stringIter bs pos)

theorem Wrote.nil (w : World) (L : Loc) (n : Nat) : Wrote w w L n [] :=
  ⟨rfl, rfl, rfl, rfl, fun _ _ => rfl, by simp, fun _ _ => rfl, fun _ => rfl, fun _ _ _ h => h⟩

theorem setCell_iter {w : World} {a : Addr} {v : Value} {bs : ByteArray} {pos k : Nat} (h : w.heap[k]? = some (.stringIter bs pos)) :
    (w.setCell a v).heap[k]? = some (.stringIter bs pos) := by
  simp only [World.setCell, Array.getElem?_modify]
  split
  · rename_i e; subst e; rw [h]; rfl
  · exact h

theorem Wrote.cons {w w' : World} {L : Loc} {n : Nat} {v x : Value} {vs : List Value} (hx : w.cell? (adr L n) = some x)
    (h : Wrote (w.setCell (adr L n) v) w' L (n + 1) vs) : Wrote w w' L n (v :: vs) where
  os := h.os
  tape := h.tape
  output := h.output
  size := by rw [h.size]; simp
  block := fun k hk => by rw [h.block k hk, Below.heap_setCell _ _ _ _ (by simpa [adr] using hk)]
  new := fun j u hj => by
    cases j with
    | zero =>
      simp at hj; subst hj
      rw [Nat.add_zero, h.old _ (fun j hj e => by have := adr_inj e; omega)]
      exact cell_set_same hx
    | succ j => simp at hj; have := h.new j u hj; rwa [show n + (j + 1) = n + 1 + j from by omega]
  old := fun a ha => by
    rw [h.old a (fun j hj e => ha (j + 1) (by simp; omega) (by rw [e]; congr 1; omega))]
    exact cell_set_other (fun e => ha 0 (by simp) (by rw [← e]; rfl))
  frozen := fun a => by rw [h.frozen]; simp
  kept := fun bs pos k hk => h.kept bs pos k (setCell_iter hk)

theorem run_storeCells {P : Program} {L : Loc} : ∀ (vs : List Value) (o i : Nat) (w : World),
    (∀ j, j < vs.length → (∃ x, w.cell? (adr L (o + i + j)) = some x) ∧ w.frozen? (adr L (o + i + j)) = false) → (∀ v ∈ vs, oneV v = true) →
    ∃ w', (storeCells (adr L o) vs i).run P w = .ok () w' ∧ Wrote w w' L (o + i) vs
  | [], o, i, w, _, _ => ⟨w, by simp [storeCells], Wrote.nil _ _ _⟩
  | v :: vs, o, i, w, hc, ho => by
    obtain ⟨⟨x, hx⟩, hf⟩ := hc 0 (by simp)
    rw [Nat.add_zero] at hx hf
    have hov : oneV v = true := ho v (by simp)
    have hr := run_store_one (P := P) hx hf hov
    obtain ⟨w', h1, h2⟩ := run_storeCells (P := P) (L := L) vs o (i + 1) (w.setCell (adr L (o + i)) v) (fun j hj => by
      have h0 := hc (j + 1) (by simp; omega)
      have e : o + i + (j + 1) = o + (i + 1) + j := by omega
      rw [e] at h0
      refine ⟨?_, by simp [h0.2]⟩
      obtain ⟨x', hx'⟩ := h0.1
      exact ⟨x', by rw [cell_set_other (fun e => by have := adr_inj e; omega)]; exact hx'⟩) (fun u hu => ho u (by simp [hu]))
    refine ⟨w', ?_, Wrote.cons hx h2⟩
    simp only [storeCells, Sem.run_bind, adr_add, hr, Result.andThen_ok]
    exact h1

theorem Wrote.below {G : Gd} {w w' : World} {L : Loc} {n : Nat} {vs : List Value} (h : Wrote w w' L n vs) (hB : Own G L.bl) : Kp G w w' :=
  ⟨⟨h.os, h.tape, h.output, by rw [h.size]; exact Nat.le_refl _, fun k hk => h.block k (fun e => by have := hB.1; omega)⟩, fun k hk => h.block k (fun e => hB.2 (e ▸ hk))⟩

/-! ### Putting cells -/

theorem putD_spec : ∀ (l vs l' : List DV), putD l vs = some l' → l'.length = l.length ∧ vs.length ≤ l.length ∧
    (∀ v ∈ vs, v.one = true) ∧ (∀ (j : Nat) v, vs[j]? = some v → l'[j]? = some v ∧ ∃ x, l[j]? = some x ∧ x.one = true) ∧ (∀ j, vs.length ≤ j → l'[j]? = l[j]?)
  | l, [], l', h => by
    have : l' = l := by cases l <;> simp [putD] at h <;> simp [h]
    subst this; simp
  | [], v :: vs, l', h => by simp [putD] at h
  | x :: l, v :: vs, l', h => by
    simp only [putD] at h
    split at h
    · rename_i hx
      simp only [Bool.and_eq_true] at hx
      cases hp : putD l vs with
      | none => rw [hp] at h; simp at h
      | some l1 =>
        rw [hp] at h; simp at h; subst h
        obtain ⟨h1, h2, h3, h4, h5⟩ := putD_spec l vs l1 hp
        refine ⟨by simp [h1], by simp; exact h2, ?_, ?_, ?_⟩
        · intro u hu
          simp at hu
          rcases hu with rfl | hu
          · exact hx.2
          · exact h3 u hu
        · intro j u hj
          cases j with
          | zero => simp at hj; subst hj; exact ⟨by simp, x, by simp, hx.1⟩
          | succ j => simp at hj; simpa using h4 j u hj
        · intro j hj
          cases j with
          | zero => simp at hj
          | succ j => simp at hj; simpa using h5 j hj
    · cases h

theorem putAt_spec : ∀ (n : Nat) (l vs l' : List DV), putAt n l vs = some l' → l'.length = l.length ∧ (vs ≠ [] → n + vs.length ≤ l.length) ∧
    (∀ v ∈ vs, v.one = true) ∧ (∀ (j : Nat) v, vs[j]? = some v → l'[n + j]? = some v ∧ ∃ x, l[n + j]? = some x ∧ x.one = true) ∧ (∀ j, (j < n ∨ n + vs.length ≤ j) → l'[j]? = l[j]?)
  | 0, l, vs, l', h => by
    obtain ⟨h1, h2, h3, h4, h5⟩ := putD_spec l vs l' (by simpa [putAt] using h)
    exact ⟨h1, fun _ => by omega, h3, by simpa using h4, fun j hj => h5 j (by omega)⟩
  | n + 1, [], vs, l', h => by
    simp only [putAt] at h
    split at h
    · rename_i hv
      simp at hv h
      subst hv; subst h
      simp
    · cases h
  | n + 1, x :: l, vs, l', h => by
    simp only [putAt] at h
    cases hp : putAt n l vs with
    | none => rw [hp] at h; simp at h
    | some l1 =>
      rw [hp] at h; simp at h; subst h
      obtain ⟨h1, h2, h3, h4, h5⟩ := putAt_spec n l vs l1 hp
      refine ⟨by simp [h1], fun hv => by have := h2 hv; simp; omega, h3, ?_, ?_⟩
      · intro j u hj
        have := h4 j u hj
        rw [show n + 1 + j = (n + j) + 1 from by omega]
        simpa using this
      · intro j hj
        cases j with
        | zero => simp
        | succ j => simpa using h5 j (by omega)

/-- The same row, with other cells known at the same places: the claims are the same. -/
theorem claims_set {ρ : Ren} {h : Hp} {b : Pos} {k : Kind} {l l' : List DV} (hb : h.bl.get b = some (.row k l)) (hlen : l'.length = l.length)
    (hone : ∀ (i : Nat) v', l'[i]? = some v' → v'.one = true → ∃ v, l[i]? = some v ∧ v.one = true) {x : Pos} {a : Addr}
    (hc : Claims ρ ⟨h.next, Tr.set (.row k l') b h.bl⟩ x a) : Claims ρ h x a := by
  obtain ⟨k1, l1, L, h1, h2, h3⟩ := hc
  by_cases e : x = b
  · subst e
    simp only [Tr.get_set_same, Option.some.injEq, Ob.row.injEq] at h1
    obtain ⟨rfl, rfl⟩ := h1
    refine ⟨k, l, L, hb, h2, ?_⟩
    rcases h3 with ⟨i, v, hi, hv, rfl⟩ | ⟨es, j, rfl, hj, rfl⟩
    · obtain ⟨v0, h5, h6⟩ := hone i v hi hv
      exact .inl ⟨i, v0, h5, h6, rfl⟩
    · exact .inr ⟨es, j, rfl, hj, by rw [hlen]⟩
  · simp only [Tr.get_set_other _ _ _ _ e] at h1
    exact ⟨k1, l1, L, h1, h2, h3⟩

theorem HR.put {G : Gd} {ρ : Ren} {h : Hp} {w w' : World} (H : HR G ρ h w) {b : Pos} {k : Kind} {l l' : List DV} {L : Loc} {n : Nat} {vs : List DV} {vs' : List Value}
    (hb : h.bl.get b = some (.row k l)) (hL : ρ b = some L) (hk : k.writable = true) (hp : putAt n l vs = some l') (hvs : VRs ρ vs vs') (hw : Wrote w w' L n vs') :
    HR G ρ ⟨h.next, Tr.set (.row k l') b h.bl⟩ w' := by
  obtain ⟨p1, p2, p3, p4, p5⟩ := putAt_spec n l vs l' hp
  have hlen := hvs.length
  have hone : ∀ (i : Nat) v', l'[i]? = some v' → v'.one = true → ∃ v, l[i]? = some v ∧ v.one = true := by
    intro i v' hi hv
    by_cases hin : n ≤ i ∧ i < n + vs.length
    · have hlt : i - n < vs.length := by omega
      obtain ⟨_, x, hx, ho⟩ := p4 (i - n) vs[i - n] (by simp [hlt])
      rw [show n + (i - n) = i from by omega] at hx
      exact ⟨x, hx, ho⟩
    · rw [p5 i (by omega)] at hi
      exact ⟨v', hi, hv⟩
  have hroB : ¬ isRo h b := by
    rintro ⟨l0, h0⟩
    rw [hb] at h0; simp at h0
    rw [h0.1] at hk; cases hk
  have hro : ∀ x, isRo ⟨h.next, Tr.set (.row k l') b h.bl⟩ x ↔ isRo h x := by
    intro x
    by_cases e : x = b
    · subst e
      simp only [isRo, Tr.get_set_same, hb]
      constructor
      · rintro ⟨l0, h0⟩; simp at h0; rw [h0.1] at hk; cases hk
      · rintro ⟨l0, h0⟩; simp at h0; rw [h0.1] at hk; cases hk
    · simp [isRo, Tr.get_set_other _ _ _ _ e]
  have hcl : ∀ {x a}, Claims ρ ⟨h.next, Tr.set (.row k l') b h.bl⟩ x a → Claims ρ h x a := fun hc => claims_set hb p1 hone hc
  -- an address that another row claims is not written
  have hother : ∀ x a, x ≠ b → Claims ρ h x a → ∀ j, j < vs'.length → a ≠ adr L (n + j) := by
    intro x a hx hc j hj e
    have hj' : j < vs.length := by omega
    obtain ⟨_, x0, hx0, ho⟩ := p4 j vs[j] (by simp [hj'])
    have hcb : Claims ρ h b a := ⟨k, l, L, hb, hL, .inl ⟨n + j, x0, hx0, ho, e⟩⟩
    exact hx (H.inj b x a hcb hc hroB).symm
  refine { sz := by rw [hw.size]; exact H.sz, nx := H.nx, ro := fun x a hc hr => H.ro x a (hcl hc) ((hro x).1 hr), dom := ?_, lt := H.lt, cell := ?_, spare := ?_, free := ?_, inj := ?_, ex := ?_, grone := ?_, itr := ?_, itj := ?_ }
  · intro x o hx
    by_cases e : x = b
    · subst e; exact ⟨L, hL⟩
    · simp only [Tr.get_set_other _ _ _ _ e] at hx; exact H.dom x o hx
  · intro x k1 l1 L1 i v hx hL1 hi hv
    by_cases e : x = b
    · subst e
      simp only [Tr.get_set_same, Option.some.injEq, Ob.row.injEq] at hx
      obtain ⟨rfl, rfl⟩ := hx
      rw [hL] at hL1; cases hL1
      by_cases hin : n ≤ i ∧ i < n + vs.length
      · have hlt : i - n < vs.length := by omega
        obtain ⟨h6, _⟩ := p4 (i - n) vs[i - n] (by simp [hlt])
        rw [show n + (i - n) = i from by omega, hi] at h6
        simp at h6
        obtain ⟨v', h7, h8⟩ := hvs.get (i - n) v (by simp [hlt, h6])
        have := hw.new (i - n) v' h7
        rw [show n + (i - n) = i from by omega] at this
        exact ⟨v', this, h8⟩
      · rw [p5 i (by omega)] at hi
        obtain ⟨v', h7, h8⟩ := H.cell x k l L i v hb hL hi hv
        refine ⟨v', ?_, h8⟩
        rw [hw.old _ (fun j hj e => by have := adr_inj e; omega)]
        exact h7
    · simp only [Tr.get_set_other _ _ _ _ e] at hx
      obtain ⟨v', h7, h8⟩ := H.cell x k1 l1 L1 i v hx hL1 hi hv
      refine ⟨v', ?_, h8⟩
      rw [hw.old _ (hother x _ e ⟨k1, l1, L1, hx, hL1, .inl ⟨i, v, hi, hv, rfl⟩⟩)]
      exact h7
  · intro x l1 L1 es j hx hL1 hj
    by_cases e : x = b
    · subst e
      simp only [Tr.get_set_same, Option.some.injEq, Ob.row.injEq] at hx
      obtain ⟨rfl, rfl⟩ := hx
      rw [hL] at hL1; cases hL1
      obtain ⟨v', h7⟩ := H.spare x l L es j hb hL hj
      rw [p1]
      refine ⟨v', ?_⟩
      rw [hw.old _ (fun j' hj' e => by
        have h9 := adr_inj e
        have : vs ≠ [] := by intro hv; subst hv; simp at hlen; omega
        have := p2 this
        omega)]
      exact h7
    · simp only [Tr.get_set_other _ _ _ _ e] at hx
      obtain ⟨v', h7⟩ := H.spare x l1 L1 es j hx hL1 hj
      refine ⟨v', ?_⟩
      rw [hw.old _ (hother x _ e ⟨_, l1, L1, hx, hL1, .inr ⟨es, j, rfl, hj, rfl⟩⟩)]
      exact h7
  · intro x a hc hr
    rw [hw.frozen]
    exact H.free x a (hcl hc) (fun h => hr ((hro x).2 h))
  · intro x x' a hc hc' hr
    exact H.inj x x' a (hcl hc) (hcl hc') (fun h => hr ((hro x).2 h))
  · intro x l1 L1 hx hL1
    by_cases e : x = b
    · subst e
      simp only [Tr.get_set_same, Option.some.injEq, Ob.row.injEq] at hx
      rw [hL] at hL1; cases hL1
      rcases hx with ⟨rfl, _⟩ | ⟨rfl, _⟩
      · cases hk
      · exact H.ex x l L (.inr hb) hL
    · simp only [Tr.get_set_other _ _ _ _ e] at hx
      exact H.ex x l1 L1 hx hL1
  · intro x es l1 i v hx hi
    by_cases e : x = b
    · subst e
      simp only [Tr.get_set_same, Option.some.injEq, Ob.row.injEq] at hx
      obtain ⟨rfl, rfl⟩ := hx
      by_cases hin : n ≤ i ∧ i < n + vs.length
      · have hlt : i - n < vs.length := by omega
        obtain ⟨h6, _⟩ := p4 (i - n) vs[i - n] (by simp [hlt])
        rw [show n + (i - n) = i from by omega, hi] at h6
        simp at h6
        rw [h6]
        exact p3 _ (List.getElem_mem _)
      · rw [p5 i (by omega)] at hi
        exact H.grone x es l i v hb hi
    · simp only [Tr.get_set_other _ _ _ _ e] at hx
      exact H.grone x es l1 i v hx hi
  · intro x s pos L1 hx hL1
    by_cases e : x = b
    · subst e; simp [Tr.get_set_same] at hx
    · simp only [Tr.get_set_other _ _ _ _ e] at hx
      obtain ⟨h1, h2, bs, h3, h4⟩ := H.itr x s pos L1 hx hL1
      exact ⟨h1, h2, bs, hw.kept _ _ _ h3, h4⟩
  · intro x s pos x' s' pos' L1 L2 hx hx' h1 h2 he
    by_cases e : x = b
    · subst e; simp [Tr.get_set_same] at hx
    · by_cases e' : x' = b
      · subst e'; simp [Tr.get_set_same] at hx'
      · simp only [Tr.get_set_other _ _ _ _ e] at hx
        simp only [Tr.get_set_other _ _ _ _ e'] at hx'
        exact H.itj x s pos x' s' pos' L1 L2 hx hx' h1 h2 he

theorem VRs.mem_one {ρ : Ren} : ∀ {x : List DV} {x' : List Value}, VRs ρ x x' → (∀ v ∈ x, v.one = true) → ∀ v' ∈ x', oneV v' = true
  | _, _, .nil, _, v', h => by simp at h
  | _, _, .cons x x' l l' hx hs, ho, v', h => by
    simp at h
    rcases h with rfl | h
    · exact hx.one (ho x (by simp))
    · exact VRs.mem_one hs (fun v hv => ho v (by simp [hv])) v' h

/-- A store of Dd is a store of the model. -/
theorem storeAtD_sound {P : Program} {G : Gd} {ρ : Ren} {h h' : Hp} {w : World} (H : HR G ρ h w) {b : Pos} {o : Nat} {vs : List DV} {vs' : List Value} {L : Loc}
    (hs : storeAtD b o vs h = some h') (hL : ρ b = some L) (hvs : VRs ρ vs vs') :
    ∃ w', (storeCells (adr L o) vs' 0).run P w = .ok () w' ∧ HR G ρ h' w' ∧ Kp G w w' := by
  unfold storeAtD at hs
  split at hs
  · rename_i k l hb
    split at hs
    · rename_i hk
      split at hs
      · rename_i l' hp
        simp at hs; subst hs
        obtain ⟨p1, p2, p3, p4, p5⟩ := putAt_spec o l vs l' hp
        have hlen := hvs.length
        have hro : ¬ isRo h b := by
          rintro ⟨l0, h0⟩
          rw [hb] at h0; simp at h0
          rw [h0.1] at hk; cases hk
        have hcl : ∀ j, j < vs'.length → Claims ρ h b (adr L (o + j)) := by
          intro j hj
          have hj' : j < vs.length := by omega
          obtain ⟨_, x0, hx0, ho⟩ := p4 j vs[j] (by simp [hj'])
          exact ⟨k, l, L, hb, hL, .inl ⟨o + j, x0, hx0, ho, rfl⟩⟩
        obtain ⟨w', h1, h2⟩ := run_storeCells (P := P) (L := L) vs' o 0 w (fun j hj => by
          rw [Nat.add_zero]
          exact ⟨H.lt_cell (hcl j hj), (H.free b _ (hcl j hj) hro).1⟩) (hvs.mem_one p3)
        rw [Nat.add_zero] at h2
        refine ⟨w', h1, H.put hb hL hk hp hvs h2, ?_⟩
        by_cases hv : vs' = []
        · subst hv
          have : w' = w := by simp [storeCells] at h1; exact h1.symm
          rw [this]
          exact Kp.refl G w
        · have h0 : 0 < vs'.length := List.length_pos_iff.2 hv
          have := (H.free b _ (hcl 0 h0) hro).2
          exact h2.below (by simpa [adr] using this)
      · cases hs
    · cases hs
  · cases hs

end Go.Dd
