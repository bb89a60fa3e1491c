/- Dd, part N0: names that are kept, rows that are made ahead of their turn. -/
import Derived.Test.YtliejomdaookoaaDdxM
set_option linter.unusedSimpArgs false
set_option linter.constructorNameAsVariable false
set_option linter.unusedVariables false
namespace Go.Dd
open Go.RowKit (Below)

theorem nthPos_toNat : ∀ (n : Nat) (p : Pos), (nthPos n p).toNat = p.toNat + n
  | 0, p => rfl
  | n + 1, p => by simp only [nthPos]; rw [nthPos_toNat n p.succ, Pos.toNat_succ]; omega

theorem resv_next (k : Nat) (h : Hp) : (resv k h).next = nthPos k h.next ∧ (resv k h).bl = h.bl := by
  cases k <;> exact ⟨rfl, rfl⟩

section
variable {G G' : Gd} {ρ : Ren} {h : Hp} {w : World}

theorem claims_bl {h' : Hp} (e : h'.bl = h.bl) {b : Pos} {a : Addr} : Claims ρ h' b a ↔ Claims ρ h b a := by
  unfold Claims; rw [e]
theorem isRo_bl {h' : Hp} (e : h'.bl = h.bl) {b : Pos} : isRo h' b ↔ isRo h b := by
  unfold isRo; rw [e]

theorem HR.weak (H : HR G' ρ h w) (hB : G'.B = G.B) (hX : ∀ k, G.X k → G'.X k) (hN : G.N ≤ G'.N) : HR G ρ h w where
  sz := ⟨by rw [← hB]; exact H.sz.1, fun k hk => H.sz.2 k (hX k hk)⟩
  nx := Nat.le_trans hN H.nx
  ro := fun b a h1 h2 => by rw [← hB]; exact H.ro b a h1 h2
  dom := H.dom
  lt := H.lt
  cell := H.cell
  spare := H.spare
  free := fun b a h1 h2 => by
    obtain ⟨h3, h4, h5⟩ := H.free b a h1 h2
    exact ⟨h3, by rw [← hB]; exact h4, fun hk => h5 (hX _ hk)⟩
  inj := H.inj
  ex := H.ex
  grone := H.grone
  itr := fun b s pos L h1 h2 => by
    obtain ⟨⟨h3, h4⟩, h5⟩ := H.itr b s pos L h1 h2
    exact ⟨⟨by rw [← hB]; exact h3, fun hk => h4 (hX _ hk)⟩, h5⟩
  itj := H.itj

theorem HR.reserve (H : HR G ρ h w) (k : Nat) : HR ⟨G.B, G.X, (resv k h).next.toNat⟩ ρ (resv k h) w := by
  obtain ⟨e1, e2⟩ := resv_next k h
  exact {
    sz := H.sz
    nx := Nat.le_refl _
    ro := fun b a h1 h2 => H.ro b a ((claims_bl e2).1 h1) ((isRo_bl e2).1 h2)
    dom := fun b o h1 => H.dom b o (by rwa [e2] at h1)
    lt := fun b L h1 => by rw [e1, nthPos_toNat]; have := H.lt b L h1; omega
    cell := fun b k l L i v h1 => H.cell b k l L i v (by rwa [e2] at h1)
    spare := fun b l L es j h1 => H.spare b l L es j (by rwa [e2] at h1)
    free := fun b a h1 h2 => H.free b a ((claims_bl e2).1 h1) (fun h => h2 ((isRo_bl e2).2 h))
    inj := fun b b' a h1 h2 h3 => H.inj b b' a ((claims_bl e2).1 h1) ((claims_bl e2).1 h2) (fun h => h3 ((isRo_bl e2).2 h))
    ex := fun b l L h1 => H.ex b l L (by rwa [e2] at h1)
    grone := fun b es l i v h1 => H.grone b es l i v (by rwa [e2] at h1)
    itr := fun b s pos L h1 => H.itr b s pos L (by rwa [e2] at h1)
    itj := fun b s pos b' s' pos' L L' h1 h2 => H.itj b s pos b' s' pos' L L' (by rwa [e2] at h1) (by rwa [e2] at h2) }

/-- A block is made ahead of its turn: Dd knows its name, and nothing more. -/
theorem HR.early (H : HR G ρ h w) {b : Pos} (hb : ρ b = none) (hlt : b.toNat < h.next.toNat) (arr : Array Value) (t : TypeId) :
    HR ⟨G.B, fun k => G.X k ∨ k = w.heap.size, G.N⟩ (upd ρ b ⟨w.heap.size, 0, 0, none⟩) h (w.alloc (.cells arr t)) := by
  have hext : Ext ρ (upd ρ b ⟨w.heap.size, 0, 0, none⟩) := by
    intro x L hx
    by_cases e : x = b
    · subst e; rw [hb] at hx; cases hx
    · rw [upd_other _ _ e]; exact hx
  have hrow : h.bl.get b = none := by
    cases hr : h.bl.get b with
    | none => rfl
    | some o => obtain ⟨L, hL⟩ := H.dom b o hr; rw [hb] at hL; cases hL
  have hne : ∀ x o, h.bl.get x = some o → x ≠ b := fun x o hx e => by subst e; rw [hrow] at hx; cases hx
  have hcl : ∀ {x a}, Claims (upd ρ b ⟨w.heap.size, 0, 0, none⟩) h x a → Claims ρ h x a := by
    rintro x a ⟨k, l, L, h1, h2, h3⟩
    rw [upd_other _ _ (hne x _ h1)] at h2
    exact ⟨k, l, L, h1, h2, h3⟩
  have hblt : ∀ {x a}, Claims ρ h x a → a.block < w.heap.size := fun hc => by
    obtain ⟨v, hv⟩ := H.lt_cell hc
    exact cell_lt hv
  refine { sz := ⟨by have := H.sz.1; simp; omega, fun k hk => ?_⟩, nx := H.nx, ro := fun x a h1 h2 => H.ro x a (hcl h1) h2, dom := ?_, lt := ?_, cell := ?_, spare := ?_, free := ?_, inj := ?_, ex := ?_, grone := H.grone, itr := ?_, itj := ?_ }
  · rcases hk with hk | hk
    · have := H.sz.2 k hk; simp; omega
    · simp; omega
  · intro x o hx
    obtain ⟨L, hL⟩ := H.dom x o hx
    exact ⟨L, hext _ _ hL⟩
  · intro x L hx
    by_cases e : x = b
    · subst e; exact hlt
    · rw [upd_other _ _ e] at hx; exact H.lt x L hx
  · intro x k l L i v hx hL hi hv
    rw [upd_other _ _ (hne x _ hx)] at hL
    obtain ⟨v', h5, h6⟩ := H.cell x k l L i v hx hL hi hv
    exact ⟨v', by rw [cell_alloc_lt (cell_lt h5)]; exact h5, h6.mono hext⟩
  · intro x l L es j hx hL hj
    rw [upd_other _ _ (hne x _ hx)] at hL
    obtain ⟨v', h5⟩ := H.spare x l L es j hx hL hj
    exact ⟨v', by rw [cell_alloc_lt (cell_lt h5)]; exact h5⟩
  · intro x a hc hr
    have hlt' := hblt (hcl hc)
    obtain ⟨h3, h4, h5⟩ := H.free x a (hcl hc) hr
    refine ⟨by rw [frozen_alloc_old (by omega)]; exact h3, h4, ?_⟩
    rintro (hk | hk)
    · exact h5 hk
    · omega
  · intro x x' a hc hc' hr
    exact H.inj x x' a (hcl hc) (hcl hc') hr
  · intro x l L hx hL
    have : x ≠ b := by rcases hx with hx | hx <;> exact hne x _ hx
    rw [upd_other _ _ this] at hL
    exact H.ex x l L hx hL
  · intro x s pos L hx hL
    rw [upd_other _ _ (hne x _ hx)] at hL
    obtain ⟨⟨h1, h1'⟩, h2, bs, h3, h4⟩ := H.itr x s pos L hx hL
    have hlt' : L.bl < w.heap.size := by
      rcases Nat.lt_or_ge L.bl w.heap.size with h | h
      · exact h
      · simp [Array.getElem?_eq_none h] at h3
    refine ⟨⟨h1, ?_⟩, h2, bs, by rw [Below.heap_alloc _ _ _ hlt']; exact h3, h4⟩
    rintro (hk | hk)
    · exact h1' hk
    · omega
  · intro x s pos x' s' pos' L L' hx hx' hL hL' he
    rw [upd_other _ _ (hne x _ hx)] at hL
    rw [upd_other _ _ (hne x' _ hx')] at hL'
    exact H.itj x s pos x' s' pos' L L' hx hx' hL hL' he

/-- Its turn has come: Dd takes it in. -/
theorem HR.adopt (H : HR G' ρ h w) (hB : G'.B = G.B) (hX : ∀ k, G.X k → G'.X k) (hN : G.N ≤ G'.N) {b : Pos} {r : Nat} {arr : Array Value} {t : TypeId} {cs : List DV}
    (hb : ρ b = some ⟨r, 0, 0, none⟩) (hr : w.heap[r]? = some (.cells arr t (0, 0))) (hcs : VRs ρ cs arr.toList) (hBr : G.B ≤ r) (hXr : ¬ G.X r) (hXr' : G'.X r) :
    HR G ρ ⟨h.next, Tr.set (.row .ex cs) b h.bl⟩ w := by
  have hcell : ∀ i, w.cell? (adr ⟨r, 0, 0, none⟩ i) = arr[i]? := fun i => by simp [World.cell?, adr, hr]
  have hfro : ∀ i, w.frozen? (adr ⟨r, 0, 0, none⟩ i) = false := fun i => by simp [World.frozen?, adr, hr]
  have hnew : ∀ {a}, Claims ρ ⟨h.next, Tr.set (.row .ex cs) b h.bl⟩ b a → ∃ i, a = adr ⟨r, 0, 0, none⟩ i := by
    rintro a ⟨k, l, L, h1, h2, h3⟩
    simp only [Tr.get_set_same, Option.some.injEq, Ob.row.injEq] at h1
    obtain ⟨rfl, rfl⟩ := h1
    rw [hb] at h2; cases h2
    rcases h3 with ⟨i, v, hi, hv, rfl⟩ | ⟨es, j, h4, _, _⟩
    · exact ⟨i, rfl⟩
    · cases h4
  have hold : ∀ {x a}, x ≠ b → Claims ρ ⟨h.next, Tr.set (.row .ex cs) b h.bl⟩ x a → Claims ρ h x a := by
    rintro x a hx ⟨k, l, L, h1, h2, h3⟩
    simp only [Tr.get_set_other _ _ _ _ hx] at h1
    exact ⟨k, l, L, h1, h2, h3⟩
  have hroo : ∀ x, x ≠ b → (isRo ⟨h.next, Tr.set (.row .ex cs) b h.bl⟩ x ↔ isRo h x) := fun x hx => by simp [isRo, Tr.get_set_other _ _ _ _ hx]
  have hapart : ∀ {x a}, Claims ρ h x a → a.block ≠ r := by
    intro x a hc e
    by_cases hro : isRo h x
    · have := H.ro x a hc hro
      omega
    · exact (H.free x a hc hro).2.2 (e ▸ hXr')
  refine { sz := ⟨by rw [← hB]; exact H.sz.1, fun k hk => H.sz.2 k (hX k hk)⟩, nx := Nat.le_trans hN H.nx, ro := ?_, dom := ?_, lt := H.lt, cell := ?_, spare := ?_, free := ?_, inj := ?_, ex := ?_, grone := ?_, itr := ?_, itj := ?_ }
  · intro x a hc hro
    by_cases e : x = b
    · subst e
      obtain ⟨l0, h0⟩ := hro
      simp [Tr.get_set_same] at h0
    · rw [← hB]; exact H.ro x a (hold e hc) ((hroo x e).1 hro)
  · intro x o hx
    by_cases e : x = b
    · subst e; exact ⟨_, hb⟩
    · simp only [Tr.get_set_other _ _ _ _ e] at hx; exact H.dom x o hx
  · intro x k l L i v hx hL hi hv
    by_cases e : x = b
    · subst e
      simp only [Tr.get_set_same, Option.some.injEq, Ob.row.injEq] at hx
      obtain ⟨rfl, rfl⟩ := hx
      rw [hb] at hL; cases hL
      obtain ⟨v', h5, h6⟩ := hcs.get i v hi
      exact ⟨v', by rw [hcell]; simpa using h5, h6⟩
    · simp only [Tr.get_set_other _ _ _ _ e] at hx
      exact H.cell x k l L i v hx hL hi hv
  · intro x l L es j hx hL hj
    by_cases e : x = b
    · subst e; simp [Tr.get_set_same] at hx
    · simp only [Tr.get_set_other _ _ _ _ e] at hx
      exact H.spare x l L es j hx hL hj
  · intro x a hc hro
    by_cases e : x = b
    · subst e
      obtain ⟨i, rfl⟩ := hnew hc
      exact ⟨hfro i, hBr, hXr⟩
    · obtain ⟨h3, h4, h5⟩ := H.free x a (hold e hc) (fun h => hro ((hroo x e).2 h))
      exact ⟨h3, by rw [← hB]; exact h4, fun hk => h5 (hX _ hk)⟩
  · intro x x' a hc hc' hro
    by_cases e : x = b
    · subst e
      by_cases e' : x' = x
      · exact e'.symm
      · obtain ⟨i, rfl⟩ := hnew hc
        exact absurd rfl (hapart (hold e' hc'))
    · by_cases e' : x' = b
      · subst e'
        obtain ⟨i, rfl⟩ := hnew hc'
        exact absurd rfl (hapart (hold e hc))
      · exact H.inj x x' a (hold e hc) (hold e' hc') (fun h => hro ((hroo x e).2 h))
  · intro x l L hx hL
    by_cases e : x = b
    · subst e
      rw [hb] at hL; cases hL
      rfl
    · simp only [Tr.get_set_other _ _ _ _ e] at hx
      exact H.ex x l L hx hL
  · intro x es l i v hx hi
    by_cases e : x = b
    · subst e; simp [Tr.get_set_same] at hx
    · simp only [Tr.get_set_other _ _ _ _ e] at hx
      exact H.grone x es l i v hx hi
  · intro x s pos L hx hL
    by_cases e : x = b
    · subst e; simp [Tr.get_set_same] at hx
    · simp only [Tr.get_set_other _ _ _ _ e] at hx
      obtain ⟨⟨h1, h1'⟩, h2⟩ := H.itr x s pos L hx hL
      exact ⟨⟨by rw [← hB]; exact h1, fun hk => h1' (hX _ hk)⟩, h2⟩
  · intro x s pos x' s' pos' L L' hx hx' hL hL' he
    by_cases e : x = b
    · subst e; simp [Tr.get_set_same] at hx
    · by_cases e' : x' = b
      · subst e'; simp [Tr.get_set_same] at hx'
      · simp only [Tr.get_set_other _ _ _ _ e] at hx
        simp only [Tr.get_set_other _ _ _ _ e'] at hx'
        exact H.itj x s pos x' s' pos' L L' hx hx' hL hL' he

end

/-! ### What is made -/

section
variable {C : Cfg} {ρ : Ren} {w : World} {h h1 : Hp} {v : DV} {a : Act} {env : Env}

theorem mk_run (he : EnvR ρ env a) {o : Oper} {b : Pos} (hp : opsemMk C o b env h = some (v, h1)) (hb : ρ b = none) :
    ∃ (cs : List DV) (arr : Array Value) (t : TypeId) (v' : Value), (execOp a.eval o).run C.P w = .ok (.value v') (w.alloc (.cells arr t)) ∧ VRs ρ cs arr.toList ∧
      h1 = ⟨h.next, Tr.set (.row .ex cs) b h.bl⟩ ∧ VR (upd ρ b ⟨w.heap.size, 0, 0, none⟩) v v' := by
  unfold opsemMk at hp
  split at hp <;> (try (cases hp; done))
  · rename_i t ho
    split at hp <;> (try (cases hp; done))
    rename_i i hi
    split at hp <;> (try (cases hp; done))
    rename_i z hz
    simp only [pNewAt, Option.some.injEq, Prod.mk.injEq] at hp
    obtain ⟨rfl, rfl⟩ := hp
    refine ⟨_, z.cells, t, .pointer (some ⟨w.heap.size, 0, none⟩), ?_, VR.zs ρ z, rfl, .p _ 0 ⟨w.heap.size, 0, 0, none⟩ (upd_same _ _ _)⟩
    unfold execOp
    simp only [ho, Instr.alloc, Sem.run_bind, rZ hi hz, Result.andThen_ok]
    simp [newVar, newRow]
  · rename_i t x ho
    unfold pBoxAt at hp
    split at hp <;> (try (cases hp; done))
    rename_i cs hc
    simp only [pNewAt, Option.some.injEq, Prod.mk.injEq] at hp
    obtain ⟨rfl, rfl⟩ := hp
    refine ⟨cs, (a.eval x).cells, t, .pointer (some ⟨w.heap.size, 0, none⟩), ?_, (opr_ok he x).cells hc, rfl, .p _ 0 ⟨w.heap.size, 0, 0, none⟩ (upd_same _ _ _)⟩
    unfold execOp
    simp [ho, Instr.box, newVar, newRow]
  · rename_i t n ps ho
    split at hp <;> (try (cases hp; done))
    rename_i e ht
    split at hp <;> (try (cases hp; done))
    rename_i i hi
    split at hp <;> (try (cases hp; done))
    rename_i z hz
    split at hp <;> (try (cases hp; done))
    rename_i hc
    unfold pBuildSliceAt at hp
    split at hp <;> (try (cases hp; done))
    rename_i cs hf
    simp only [Option.some.injEq, Prod.mk.injEq] at hp
    obtain ⟨rfl, rfl⟩ := hp
    obtain ⟨out', h3, h4⟩ := buildSlice_run (P := C.P) (w := w) (ρ := ρ) (opr_ok he) ht hi hz hc.1 hc.2.1 hc.2.2 hf
    refine ⟨cs, out', e, .slice (some ⟨w.heap.size, 0, none⟩) n n, ?_, h4, rfl, .l _ 0 n n ⟨w.heap.size, 0, 0, none⟩ (upd_same _ _ _)⟩
    unfold execOp
    simp only [ho, Sem.run_bind]
    rw [h3]
    simp

end
end Go.Dd
