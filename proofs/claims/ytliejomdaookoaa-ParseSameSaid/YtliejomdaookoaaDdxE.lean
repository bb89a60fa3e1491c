/- Dd, part E: an append in place; iterators. -/
import Derived.Test.YtliejomdaookoaaDdxD
set_option linter.unusedSimpArgs false
set_option linter.constructorNameAsVariable false
set_option linter.unusedVariables false
namespace Go.Dd
open Go.RowKit (Below)

theorem killFrom_spec : ∀ (o : Nat) (l : List DV), (killFrom o l).length = l.length ∧ ∀ (i : Nat) v, (killFrom o l)[i]? = some v → v.one = true → i < o ∧ l[i]? = some v
  | 0, l => by
    refine ⟨by simp [killFrom], fun i v hi ho => ?_⟩
    simp [killFrom] at hi
    obtain ⟨_, _, rfl⟩ := hi
    cases ho
  | o + 1, [] => by simp [killFrom]
  | o + 1, x :: l => by
    obtain ⟨h1, h2⟩ := killFrom_spec o l
    refine ⟨by simp [killFrom, h1], fun i v hi ho => ?_⟩
    cases i with
    | zero => simp [killFrom] at hi; subst hi; simp
    | succ i =>
      simp [killFrom] at hi
      obtain ⟨h3, h4⟩ := h2 i v hi ho
      exact ⟨by omega, by simpa using h4⟩

theorem HR.regrow {G : Gd} {ρ : Ren} {h : Hp} {w w' : World} (H : HR G ρ h w) {b : Pos} {size : Nat} {l : List DV} {L : Loc} {o len cap n : Nat} {new : List DV} {new' : List Value} {old : List DV}
    (hb : h.bl.get b = some (.row (.gr size) l)) (hL : ρ b = some L) (hsz : 0 < size) (hend : o + cap * size = l.length) (hlen : len ≤ cap) (hmore : cap < len + n) (hroom : len + n ≤ cap + L.sp)
    (hold : old = (l.drop o).take (len * size)) (hnl : new.length = n * size) (hone : ∀ v ∈ new, v.one = true) (hvs : VRs ρ new new') (hw : Wrote w w' L (o + len * size) new') :
    HR G (upd ρ h.next ⟨L.bl, L.of + o, cap + L.sp - (len + n), if o = 0 then L.spot else none⟩) ⟨h.next.succ, Tr.set (.row (.gr size) (old ++ new)) h.next (Tr.set (.row .sp (killFrom o l)) b h.bl)⟩ w' := by
  have hbn : b ≠ h.next := fun e => by subst e; rw [H.fresh_get] at hb; cases hb
  have hext := H.ext ⟨L.bl, L.of + o, cap + L.sp - (len + n), if o = 0 then L.spot else none⟩
  have hroB : ¬ isRo h b := by rintro ⟨l0, h0⟩; rw [hb] at h0; simp at h0
  obtain ⟨k1, k2⟩ := killFrom_spec o l
  have hnl' := hvs.length
  have e1 : len * size ≤ cap * size := Nat.mul_le_mul_right _ hlen
  have e2 : (len + n) * size = len * size + n * size := Nat.add_mul _ _ _
  have e3 : (cap + L.sp) * size = cap * size + L.sp * size := Nat.add_mul _ _ _
  have e4 : (len + n) * size ≤ (cap + L.sp) * size := Nat.mul_le_mul_right _ hroom
  have e5 : (cap + L.sp - (len + n)) * size = (cap + L.sp) * size - (len + n) * size := Nat.sub_mul _ _ _
  have hol : old.length = len * size := by rw [hold]; simp; omega
  have hadr : ∀ i, adr ⟨L.bl, L.of + o, cap + L.sp - (len + n), if o = 0 then L.spot else none⟩ i = adr L (o + i) := fun i => by simp [adr, Nat.add_assoc]; by_cases hi : i = 0 <;> by_cases ho : o = 0 <;> simp [hi, ho]
  -- all that b claimed
  have hOC : ∀ i, i < l.length + L.sp * size → Claims ρ h b (adr L i) := by
    intro i hi
    by_cases hlt : i < l.length
    · exact ⟨_, l, L, hb, hL, .inl ⟨i, l[i], by simp [hlt], H.grone b size l i _ hb (by simp [hlt]), rfl⟩⟩
    · exact ⟨_, l, L, hb, hL, .inr ⟨size, i - l.length, rfl, by omega, by rw [show l.length + (i - l.length) = i from by omega]⟩⟩
  -- what the new heap holds
  have g1 : ∀ x, x ≠ h.next → x ≠ b → (Tr.set (Ob.row (.gr size) (old ++ new)) h.next (Tr.set (.row .sp (killFrom o l)) b h.bl)).get x = h.bl.get x := fun x hx hx' => by
    rw [Tr.get_set_other _ _ _ _ hx, Tr.get_set_other _ _ _ _ hx']
  have g2 : (Tr.set (Ob.row (.gr size) (old ++ new)) h.next (Tr.set (.row .sp (killFrom o l)) b h.bl)).get b = some (.row .sp (killFrom o l)) := by
    rw [Tr.get_set_other _ _ _ _ hbn, Tr.get_set_same]
  have g3 : (Tr.set (Ob.row (.gr size) (old ++ new)) h.next (Tr.set (.row .sp (killFrom o l)) b h.bl)).get h.next = some (.row (.gr size) (old ++ new)) := Tr.get_set_same _ _ _
  -- the claims of the new heap
  have c1 : ∀ x a, x ≠ h.next → x ≠ b → Claims (upd ρ h.next ⟨L.bl, L.of + o, cap + L.sp - (len + n), if o = 0 then L.spot else none⟩) ⟨h.next.succ, Tr.set (.row (.gr size) (old ++ new)) h.next (Tr.set (.row .sp (killFrom o l)) b h.bl)⟩ x a → Claims ρ h x a := by
    rintro x a hx hx' ⟨k', l', L', h1, h2, h3⟩
    simp only [g1 x hx hx'] at h1
    rw [upd_other _ _ hx] at h2
    exact ⟨k', l', L', h1, h2, h3⟩
  have c2 : ∀ a, Claims (upd ρ h.next ⟨L.bl, L.of + o, cap + L.sp - (len + n), if o = 0 then L.spot else none⟩) ⟨h.next.succ, Tr.set (.row (.gr size) (old ++ new)) h.next (Tr.set (.row .sp (killFrom o l)) b h.bl)⟩ b a → ∃ i, i < o ∧ a = adr L i ∧ Claims ρ h b a := by
    rintro a ⟨k', l', L', h1, h2, h3⟩
    simp only [g2, Option.some.injEq, Ob.row.injEq] at h1
    obtain ⟨rfl, rfl⟩ := h1
    rw [upd_other _ _ hbn, hL] at h2
    cases h2
    rcases h3 with ⟨i, v, hi, hv, rfl⟩ | ⟨es, j, h4, hj, rfl⟩
    · obtain ⟨h5, h6⟩ := k2 i v hi hv
      exact ⟨i, h5, rfl, hOC i (by omega)⟩
    · cases h4
  have c3 : ∀ a, Claims (upd ρ h.next ⟨L.bl, L.of + o, cap + L.sp - (len + n), if o = 0 then L.spot else none⟩) ⟨h.next.succ, Tr.set (.row (.gr size) (old ++ new)) h.next (Tr.set (.row .sp (killFrom o l)) b h.bl)⟩ h.next a → ∃ i, o ≤ i ∧ a = adr L i ∧ Claims ρ h b a := by
    rintro a ⟨k', l', L', h1, h2, h3⟩
    simp only [g3, Option.some.injEq, Ob.row.injEq] at h1
    obtain ⟨rfl, rfl⟩ := h1
    rw [upd_same] at h2
    cases h2
    rcases h3 with ⟨i, v, hi, hv, rfl⟩ | ⟨es, j, h4, hj, rfl⟩
    · have hlt : i < (old ++ new).length := by
        rcases Nat.lt_or_ge i (old ++ new).length with h | h
        · exact h
        · simp [List.getElem?_eq_none h] at hi
      simp only [List.length_append] at hlt
      rw [hadr]
      exact ⟨o + i, by omega, rfl, hOC _ (by omega)⟩
    · cases h4
      simp only at hj
      rw [hadr]
      exact ⟨_, by omega, rfl, hOC _ (by simp only [List.length_append]; omega)⟩
  have hother : ∀ x a, x ≠ b → Claims ρ h x a → ∀ j, j < new'.length → a ≠ adr L (o + len * size + j) := by
    intro x a hx hc j hj e
    exact hx (H.inj b x a (e ▸ hOC _ (by omega)) hc hroB).symm
  have hron : ∀ x, isRo ⟨h.next.succ, Tr.set (.row (.gr size) (old ++ new)) h.next (Tr.set (.row .sp (killFrom o l)) b h.bl)⟩ x ↔ (isRo h x ∧ x ≠ h.next ∧ x ≠ b) := by
    intro x
    by_cases e : x = h.next
    · subst e; simp [isRo, g3]
    · by_cases e' : x = b
      · subst e'; simp [isRo, g2]
      · simp [isRo, g1 x e e', e, e']
  refine { sz := by rw [hw.size]; exact H.sz, nx := by have := H.nx; simp only [Pos.toNat_succ]; omega, ro := ?_, dom := ?_, lt := succ_lt H _, cell := ?_, spare := ?_, free := ?_, inj := ?_, ex := ?_, grone := ?_, itr := ?_, itj := ?_ }
  · intro x a hc hr
    obtain ⟨h1, h2, h3⟩ := (hron x).1 hr
    exact H.ro x a (c1 x a h2 h3 hc) h1
  · intro x ob hx
    by_cases e : x = h.next
    · subst e; exact ⟨_, upd_same _ _ _⟩
    · rw [upd_other _ _ e]
      by_cases e' : x = b
      · subst e'; exact ⟨L, hL⟩
      · simp only [g1 x e e'] at hx; exact H.dom x ob hx
  · intro x k' l' L' i v hx hL' hi hv
    by_cases e : x = h.next
    · subst e
      simp only [g3, Option.some.injEq, Ob.row.injEq] at hx
      obtain ⟨rfl, rfl⟩ := hx
      rw [upd_same] at hL'
      cases hL'
      rw [hadr]
      by_cases hlt : i < old.length
      · rw [List.getElem?_append_left hlt, hold, List.getElem?_take_of_lt (by omega), List.getElem?_drop] at hi
        obtain ⟨v', h5, h6⟩ := H.cell b _ l L (o + i) v hb hL hi hv
        refine ⟨v', ?_, h6.mono hext⟩
        rw [hw.old _ (fun j hj e => by have := adr_inj e; omega)]
        exact h5
      · rw [List.getElem?_append_right (by omega)] at hi
        obtain ⟨v', h5, h6⟩ := hvs.get _ v hi
        refine ⟨v', ?_, h6.mono hext⟩
        have := hw.new _ v' h5
        rwa [show o + len * size + (i - old.length) = o + i from by omega] at this
    · by_cases e' : x = b
      · subst e'
        simp only [g2, Option.some.injEq, Ob.row.injEq] at hx
        obtain ⟨rfl, rfl⟩ := hx
        rw [upd_other _ _ e, hL] at hL'
        cases hL'
        obtain ⟨h5, h6⟩ := k2 i v hi hv
        obtain ⟨v', h7, h8⟩ := H.cell x _ l L i v hb hL h6 hv
        refine ⟨v', ?_, h8.mono hext⟩
        rw [hw.old _ (fun j hj e => by have := adr_inj e; omega)]
        exact h7
      · simp only [g1 x e e'] at hx
        rw [upd_other _ _ e] at hL'
        obtain ⟨v', h5, h6⟩ := H.cell x k' l' L' i v hx hL' hi hv
        refine ⟨v', ?_, h6.mono hext⟩
        rw [hw.old _ (hother x _ e' ⟨k', l', L', hx, hL', .inl ⟨i, v, hi, hv, rfl⟩⟩)]
        exact h5
  · intro x l' L' es j hx hL' hj
    by_cases e : x = h.next
    · subst e
      simp only [g3, Option.some.injEq, Ob.row.injEq, Kind.gr.injEq] at hx
      obtain ⟨rfl, rfl⟩ := hx
      rw [upd_same] at hL'
      cases hL'
      rw [hadr]
      simp only at hj
      have hidx : o + ((old ++ new).length + j) < l.length + L.sp * size := by simp only [List.length_append]; omega
      obtain ⟨v', hv'⟩ := H.lt_cell (hOC _ hidx)
      refine ⟨v', ?_⟩
      rw [hw.old _ (fun j' hj' e => by have := adr_inj e; simp only [List.length_append] at this; omega)]
      exact hv'
    · by_cases e' : x = b
      · subst e'
        simp only [g2, Option.some.injEq, Ob.row.injEq] at hx
        cases hx.1
      · simp only [g1 x e e'] at hx
        rw [upd_other _ _ e] at hL'
        obtain ⟨v', h5⟩ := H.spare x l' L' es j hx hL' hj
        refine ⟨v', ?_⟩
        rw [hw.old _ (hother x _ e' ⟨_, l', L', hx, hL', .inr ⟨es, j, rfl, hj, rfl⟩⟩)]
        exact h5
  · intro x a hc hr
    rw [hw.frozen]
    by_cases e : x = h.next
    · subst e
      obtain ⟨i, _, _, h1⟩ := c3 a hc
      exact H.free b a h1 hroB
    · by_cases e' : x = b
      · subst e'
        obtain ⟨i, _, _, h1⟩ := c2 a hc
        exact H.free x a h1 hroB
      · exact H.free x a (c1 x a e e' hc) (fun h => hr ((hron x).2 ⟨h, e, e'⟩))
  · intro x x' a hc hc' hr
    by_cases e : x = h.next
    · subst e
      obtain ⟨i, hi, hai, h1⟩ := c3 a hc
      by_cases f : x' = h.next
      · exact f.symm
      · by_cases f' : x' = b
        · subst f'
          obtain ⟨i', hi', hai', _⟩ := c2 a hc'
          rw [hai] at hai'
          have := adr_inj hai'
          omega
        · exact absurd (H.inj b x' a h1 (c1 x' a f f' hc') hroB).symm f'
    · by_cases e' : x = b
      · subst e'
        obtain ⟨i, hi, hai, h1⟩ := c2 a hc
        by_cases f : x' = h.next
        · subst f
          obtain ⟨i', hi', hai', _⟩ := c3 a hc'
          rw [hai] at hai'
          have := adr_inj hai'
          omega
        · by_cases f' : x' = x
          · exact f'.symm
          · exact H.inj x x' a h1 (c1 x' a f f' hc') hroB
      · have hx := c1 x a e e' hc
        have hrx : ¬ isRo h x := fun h => hr ((hron x).2 ⟨h, e, e'⟩)
        by_cases f : x' = h.next
        · subst f
          obtain ⟨i', _, _, h2⟩ := c3 a hc'
          exact absurd (H.inj x b a hx h2 hrx) e'
        · by_cases f' : x' = b
          · subst f'
            obtain ⟨i', _, _, h2⟩ := c2 a hc'
            exact H.inj x x' a hx h2 hrx
          · exact H.inj x x' a hx (c1 x' a f f' hc') hrx
  · intro x l' L' hx hL'
    by_cases e : x = h.next
    · subst e; simp [g3] at hx
    · by_cases e' : x = b
      · subst e'; simp [g2] at hx
      · simp only [g1 x e e'] at hx
        rw [upd_other _ _ e] at hL'
        exact H.ex x l' L' hx hL'
  · intro x es l' i v hx hi
    by_cases e : x = h.next
    · subst e
      simp only [g3, Option.some.injEq, Ob.row.injEq, Kind.gr.injEq] at hx
      obtain ⟨rfl, rfl⟩ := hx
      by_cases hlt : i < old.length
      · rw [List.getElem?_append_left hlt, hold, List.getElem?_take_of_lt (by omega), List.getElem?_drop] at hi
        exact H.grone b size l _ v hb hi
      · rw [List.getElem?_append_right (by omega)] at hi
        exact hone v (List.mem_of_getElem? hi)
    · by_cases e' : x = b
      · subst e'; simp [g2] at hx
      · simp only [g1 x e e'] at hx
        exact H.grone x es l' i v hx hi
  · intro x s pos L' hx hL'
    by_cases e : x = h.next
    · subst e; simp [g3] at hx
    · by_cases e' : x = b
      · subst e'; simp [g2] at hx
      · simp only [g1 x e e'] at hx
        rw [upd_other _ _ e] at hL'
        obtain ⟨h1, h2, bs, h3, h4⟩ := H.itr x s pos L' hx hL'
        exact ⟨h1, h2, bs, hw.kept _ _ _ h3, h4⟩
  · intro x s pos x' s' pos' L1 L2 hx hx' h1 h2 he
    by_cases e : x = h.next
    · subst e; simp [g3] at hx
    · by_cases e' : x = b
      · subst e'; simp [g2] at hx
      · by_cases f : x' = h.next
        · subst f; simp [g3] at hx'
        · by_cases f' : x' = b
          · subst f'; simp [g2] at hx'
          · simp only [g1 x e e'] at hx
            simp only [g1 x' f f'] at hx'
            rw [upd_other _ _ e] at h1
            rw [upd_other _ _ f] at h2
            exact H.itj x s pos x' s' pos' L1 L2 hx hx' h1 h2 he

/-- A new iterator. -/
theorem HR.newIter {G : Gd} {ρ : Ren} {h : Hp} {w : World} (H : HR G ρ h w) (s : List Nat) (bs : ByteArray) (hs : bs.data.toList.map (·.toNat) = s) :
    HR G (upd ρ h.next ⟨w.heap.size, 0, 0, none⟩) ⟨h.next.succ, Tr.set (.it s 0) h.next h.bl⟩ (w.alloc (.stringIter bs 0)) := by
  have hext := H.ext ⟨w.heap.size, 0, 0, none⟩
  have hno : ∀ a, ¬ Claims (upd ρ h.next ⟨w.heap.size, 0, 0, none⟩) ⟨h.next.succ, Tr.set (.it s 0) h.next h.bl⟩ h.next a := by
    rintro a ⟨k', l', L', h1, h2, h3⟩
    simp [Tr.get_set_same] at h1
  have hold : ∀ b a, b ≠ h.next → Claims (upd ρ h.next ⟨w.heap.size, 0, 0, none⟩) ⟨h.next.succ, Tr.set (.it s 0) h.next h.bl⟩ b a → a.block < w.heap.size := by
    intro b a hb hc
    obtain ⟨v, hv⟩ := H.lt_cell (Claims.of_new hb hc)
    exact cell_lt hv
  have hblk : ∀ b s pos L, h.bl.get b = some (.it s pos) → ρ b = some L → L.bl < w.heap.size := by
    intro b s pos L hb hL
    obtain ⟨h1, h2, bs, h3, h4⟩ := H.itr b s pos L hb hL
    rcases Nat.lt_or_ge L.bl w.heap.size with h | h
    · exact h
    · simp [Array.getElem?_eq_none h] at h3
  refine { sz := ?_, nx := ?_, ro := ?_, dom := ?_, lt := succ_lt H _, cell := ?_, spare := ?_, free := ?_, inj := ?_, ex := ?_, grone := ?_, itr := ?_, itj := ?_ }
  · obtain ⟨h1, h2⟩ := H.sz
    refine ⟨by simp; omega, fun k hk => ?_⟩
    have := h2 k hk
    simp; omega
  · have := H.nx; simp only [Pos.toNat_succ]; omega
  · intro b a hc hr
    by_cases e : b = h.next
    · subst e; exact absurd hc (hno a)
    · exact H.ro b a (Claims.of_new e hc) ((isRo_new e).1 hr)
  · intro b o hb
    by_cases e : b = h.next
    · subst e; exact ⟨_, upd_same _ _ _⟩
    · rw [upd_other _ _ e]; simp only [Tr.get_set_other _ _ _ _ e] at hb; exact H.dom b o hb
  · intro b k' l' L' i v hb hL hi hv
    by_cases e : b = h.next
    · subst e; simp [Tr.get_set_same] at hb
    · simp only [Tr.get_set_other _ _ _ _ e] at hb
      rw [upd_other _ _ e] at hL
      obtain ⟨v', h5, h6⟩ := H.cell b k' l' L' i v hb hL hi hv
      exact ⟨v', by rw [cell_alloc_lt (cell_lt h5)]; exact h5, h6.mono hext⟩
  · intro b l' L' es j hb hL hj
    by_cases e : b = h.next
    · subst e; simp [Tr.get_set_same] at hb
    · simp only [Tr.get_set_other _ _ _ _ e] at hb
      rw [upd_other _ _ e] at hL
      obtain ⟨v', h5⟩ := H.spare b l' L' es j hb hL hj
      exact ⟨v', by rw [cell_alloc_lt (cell_lt h5)]; exact h5⟩
  · intro b a hc hr
    by_cases e : b = h.next
    · subst e; exact absurd hc (hno a)
    · have hlt := hold b a e hc
      have := H.free b a (Claims.of_new e hc) (fun h => hr ((isRo_new e).2 h))
      rw [frozen_alloc_old (by omega)]
      exact this
  · intro b b' a hc hc' hr
    by_cases e : b = h.next
    · subst e; exact absurd hc (hno a)
    · by_cases e' : b' = h.next
      · subst e'; exact absurd hc' (hno a)
      · exact H.inj b b' a (Claims.of_new e hc) (Claims.of_new e' hc') (fun h => hr ((isRo_new e).2 h))
  · intro b l' L' hb hL
    by_cases e : b = h.next
    · subst e; simp [Tr.get_set_same] at hb
    · simp only [Tr.get_set_other _ _ _ _ e] at hb
      rw [upd_other _ _ e] at hL
      exact H.ex b l' L' hb hL
  · intro b es l' i v hb hi
    by_cases e : b = h.next
    · subst e; simp [Tr.get_set_same] at hb
    · simp only [Tr.get_set_other _ _ _ _ e] at hb
      exact H.grone b es l' i v hb hi
  · intro b s1 pos L' hb hL
    by_cases e : b = h.next
    · subst e
      simp only [Tr.get_set_same, Option.some.injEq, Ob.it.injEq] at hb
      obtain ⟨rfl, rfl⟩ := hb
      rw [upd_same] at hL
      cases hL
      refine ⟨H.own_new, ⟨rfl, rfl⟩, bs, ?_, hs⟩
      show (w.heap.push _)[w.heap.size]? = _
      simp
    · simp only [Tr.get_set_other _ _ _ _ e] at hb
      rw [upd_other _ _ e] at hL
      obtain ⟨h1, h2, bs, h3, h4⟩ := H.itr b s1 pos L' hb hL
      refine ⟨h1, h2, bs, ?_, h4⟩
      rw [Below.heap_alloc _ _ _ (hblk b s1 pos L' hb hL)]
      exact h3
  · intro b s1 pos b' s' pos' L1 L2 hb hb' hL hL' he
    by_cases e : b = h.next
    · by_cases e' : b' = h.next
      · rw [e, e']
      · subst e
        simp only [Tr.get_set_other _ _ _ _ e'] at hb'
        rw [upd_same] at hL
        cases hL
        rw [upd_other _ _ e'] at hL'
        have := hblk b' s' pos' L2 hb' hL'
        simp at he
        omega
    · by_cases e' : b' = h.next
      · subst e'
        simp only [Tr.get_set_other _ _ _ _ e] at hb
        rw [upd_same] at hL'
        cases hL'
        rw [upd_other _ _ e] at hL
        have := hblk b s1 pos L1 hb hL
        simp at he
        omega
      · simp only [Tr.get_set_other _ _ _ _ e] at hb
        simp only [Tr.get_set_other _ _ _ _ e'] at hb'
        rw [upd_other _ _ e] at hL
        rw [upd_other _ _ e'] at hL'
        exact H.itj b s1 pos b' s' pos' L1 L2 hb hb' hL hL' he

/-- An iterator goes on. -/
theorem HR.stepIter {G : Gd} {ρ : Ren} {h : Hp} {w : World} (H : HR G ρ h w) {b : Pos} {s : List Nat} {pos pos1 : Nat} {bs : ByteArray} {L : Loc}
    (hb : h.bl.get b = some (.it s pos)) (hL : ρ b = some L) (hbs : w.heap[L.bl]? = some (.stringIter bs pos)) (hs : bs.data.toList.map (·.toNat) = s) :
    HR G ρ ⟨h.next, Tr.set (.it s pos1) b h.bl⟩ { w with heap := w.heap.setIfInBounds L.bl (.stringIter bs pos1) } ∧ Kp G w { w with heap := w.heap.setIfInBounds L.bl (.stringIter bs pos1) } := by
  obtain ⟨hB, _, _⟩ := H.itr b s pos L hb hL
  have hlt : L.bl < w.heap.size := by
    rcases Nat.lt_or_ge L.bl w.heap.size with h | h
    · exact h
    · simp [Array.getElem?_eq_none h] at hbs
  have hcell : ∀ a v, w.cell? a = some v → ({ w with heap := w.heap.setIfInBounds L.bl (.stringIter bs pos1) } : World).cell? a = some v := by
    intro a v ha
    have hne : L.bl ≠ a.block := by
      intro e
      unfold World.cell? at ha
      rw [← e, hbs] at ha
      cases ha
    unfold World.cell? at ha ⊢
    rw [Array.getElem?_setIfInBounds_ne hne]
    exact ha
  have hfro : ∀ a v, w.cell? a = some v → ({ w with heap := w.heap.setIfInBounds L.bl (.stringIter bs pos1) } : World).frozen? a = w.frozen? a := by
    intro a v ha
    have hne : L.bl ≠ a.block := by
      intro e
      unfold World.cell? at ha
      rw [← e, hbs] at ha
      cases ha
    unfold World.frozen?
    rw [Array.getElem?_setIfInBounds_ne hne]
  have hcl : ∀ {x a}, Claims ρ ⟨h.next, Tr.set (.it s pos1) b h.bl⟩ x a → Claims ρ h x a := by
    rintro x a ⟨k', l', L', h1, h2, h3⟩
    by_cases e : x = b
    · subst e; simp [Tr.get_set_same] at h1
    · simp only [Tr.get_set_other _ _ _ _ e] at h1
      exact ⟨k', l', L', h1, h2, h3⟩
  have hro : ∀ x, isRo ⟨h.next, Tr.set (.it s pos1) b h.bl⟩ x ↔ isRo h x := by
    intro x
    by_cases e : x = b
    · subst e; simp [isRo, Tr.get_set_same, hb]
    · simp [isRo, Tr.get_set_other _ _ _ _ e]
  refine ⟨{ sz := by simpa using H.sz, nx := H.nx, ro := fun x a hc hr => H.ro x a (hcl hc) ((hro x).1 hr), dom := ?_, lt := H.lt, cell := ?_, spare := ?_, free := ?_, inj := ?_, ex := ?_, grone := ?_, itr := ?_, itj := ?_ }, ?_⟩
  · intro x o hx
    by_cases e : x = b
    · subst e; exact ⟨L, hL⟩
    · simp only [Tr.get_set_other _ _ _ _ e] at hx; exact H.dom x o hx
  · intro x k1 l1 L1 i v hx hL1 hi hv
    by_cases e : x = b
    · subst e; simp [Tr.get_set_same] at hx
    · simp only [Tr.get_set_other _ _ _ _ e] at hx
      obtain ⟨v', h7, h8⟩ := H.cell x k1 l1 L1 i v hx hL1 hi hv
      exact ⟨v', hcell _ _ h7, h8⟩
  · intro x l1 L1 es j hx hL1 hj
    by_cases e : x = b
    · subst e; simp [Tr.get_set_same] at hx
    · simp only [Tr.get_set_other _ _ _ _ e] at hx
      obtain ⟨v', h7⟩ := H.spare x l1 L1 es j hx hL1 hj
      exact ⟨v', hcell _ _ h7⟩
  · intro x a hc hr
    obtain ⟨v, hv⟩ := H.lt_cell (hcl hc)
    rw [hfro a v hv]
    exact H.free x a (hcl hc) (fun h => hr ((hro x).2 h))
  · intro x x' a hc hc' hr
    exact H.inj x x' a (hcl hc) (hcl hc') (fun h => hr ((hro x).2 h))
  · intro x l1 L1 hx hL1
    by_cases e : x = b
    · subst e; simp [Tr.get_set_same] at hx
    · simp only [Tr.get_set_other _ _ _ _ e] at hx
      exact H.ex x l1 L1 hx hL1
  · intro x es l1 i v hx hi
    by_cases e : x = b
    · subst e; simp [Tr.get_set_same] at hx
    · simp only [Tr.get_set_other _ _ _ _ e] at hx
      exact H.grone x es l1 i v hx hi
  · intro x s1 pos2 L1 hx hL1
    by_cases e : x = b
    · subst e
      simp only [Tr.get_set_same, Option.some.injEq, Ob.it.injEq] at hx
      obtain ⟨rfl, rfl⟩ := hx
      rw [hL] at hL1; cases hL1
      obtain ⟨h1, h2, _⟩ := H.itr x s pos L hb hL
      exact ⟨h1, h2, bs, by simp [hlt], hs⟩
    · simp only [Tr.get_set_other _ _ _ _ e] at hx
      obtain ⟨h1, h2, bs1, h3, h4⟩ := H.itr x s1 pos2 L1 hx hL1
      have hne : L.bl ≠ L1.bl := fun he => e (H.itj b s pos x s1 pos2 L L1 hb hx hL hL1 he).symm
      exact ⟨h1, h2, bs1, by rw [Array.getElem?_setIfInBounds_ne hne]; exact h3, h4⟩
  · intro x s1 p1 x' s2 p2 L1 L2 hx hx' h1 h2 he
    have hx0 : ∃ s p, h.bl.get x = some (.it s p) := by
      by_cases e : x = b
      · subst e; exact ⟨_, _, hb⟩
      · simp only [Tr.get_set_other _ _ _ _ e] at hx; exact ⟨_, _, hx⟩
    have hx1 : ∃ s p, h.bl.get x' = some (.it s p) := by
      by_cases e : x' = b
      · subst e; exact ⟨_, _, hb⟩
      · simp only [Tr.get_set_other _ _ _ _ e] at hx'; exact ⟨_, _, hx'⟩
    obtain ⟨_, _, hx0⟩ := hx0
    obtain ⟨_, _, hx1⟩ := hx1
    exact H.itj x _ _ x' _ _ L1 L2 hx0 hx1 h1 h2 he
  · refine ⟨⟨rfl, rfl, rfl, by simp, fun k hk => ?_⟩, fun k hk => ?_⟩
    · rw [Array.getElem?_setIfInBounds_ne (by have := hB.1; omega)]
    · show (w.heap.setIfInBounds L.bl _)[k]? = _
      rw [Array.getElem?_setIfInBounds_ne (fun (e : L.bl = k) => hB.2 (by rw [e]; exact hk))]

end Go.Dd
