/- Dd, part C: what a heap of Dd stands for, and what keeps it so. -/
import Derived.Test.YtliejomdaookoaaDdxB
set_option linter.unusedSimpArgs false
set_option linter.constructorNameAsVariable false
set_option linter.unusedVariables false
namespace Go.Dd
open Go.RowKit (Below)

theorem cell_lt {w : World} {a : Addr} {v : Value} (h : w.cell? a = some v) : a.block < w.heap.size := World.block_lt_of_cell? w a h
theorem cell_alloc_lt {w : World} {o : Obj} {a : Addr} (h : a.block < w.heap.size) : (w.alloc o).cell? a = w.cell? a := World.cell?_alloc_lt w o a h
theorem frozen_alloc_old {w : World} {o : Obj} {a : Addr} (h : a.block ≠ w.heap.size) : (w.alloc o).frozen? a = w.frozen? a := World.frozen?_alloc_old w o a h
theorem cell_set_same {w : World} {a : Addr} {v u : Value} (h : w.cell? a = some u) : (w.setCell a v).cell? a = some v := World.cell?_setCell_same w a v h
theorem cell_set_other {w : World} {a b : Addr} {v : Value} (h : a ≠ b) : (w.setCell a v).cell? b = w.cell? b := World.cell?_setCell_other w a b v h

def Claims (ρ : Ren) (h : Hp) (b : Pos) (a : Addr) : Prop :=
  ∃ k l L, h.bl.get b = some (.row k l) ∧ ρ b = some L ∧
    ((∃ i v, l[i]? = some v ∧ v.one = true ∧ a = adr L i) ∨ (∃ es j, k = .gr es ∧ j < L.sp * es ∧ a = adr L (l.length + j)))

def isRo (h : Hp) (b : Pos) : Prop := ∃ l, h.bl.get b = some (.row .ro l)

/-- What a run must leave alone: all blocks below B, the blocks X; names below N that have no meaning yet get none. -/
structure Gd where
  B : Nat
  X : Nat → Prop
  N : Nat

def Own (G : Gd) (k : Nat) : Prop := G.B ≤ k ∧ ¬ G.X k

structure Kp (G : Gd) (w w' : World) : Prop where
  low : Below G.B w w'
  ex : ∀ k, G.X k → w'.heap[k]? = w.heap[k]?

theorem Kp.refl (G : Gd) (w : World) : Kp G w w := ⟨Below.refl _ w, fun _ _ => rfl⟩
theorem Kp.trans {G : Gd} {a b c : World} (h : Kp G a b) (k : Kp G b c) : Kp G a c := ⟨h.low.trans k.low, fun i hi => (k.ex i hi).trans (h.ex i hi)⟩
theorem Kp.drew {G : Gd} {a w : World} (h : Kp G a w) : Kp G a w.drew := ⟨h.low.drew, h.ex⟩

structure Ex (G : Gd) (ρ ρ' : Ren) : Prop where
  ext : Ext ρ ρ'
  new : ∀ b L, ρ' b = some L → ρ b = some L ∨ G.N ≤ b.toNat

theorem Ex.refl (G : Gd) (ρ : Ren) : Ex G ρ ρ := ⟨Ext.refl ρ, fun _ _ h => .inl h⟩
theorem Ex.trans {G : Gd} {a b c : Ren} (h : Ex G a b) (k : Ex G b c) : Ex G a c := ⟨h.ext.trans k.ext, fun x L hx => (k.new x L hx).elim (fun h1 => h.new x L h1) .inr⟩

structure HR (G : Gd) (ρ : Ren) (h : Hp) (w : World) : Prop where
  sz : G.B ≤ w.heap.size ∧ ∀ k, G.X k → k < w.heap.size
  nx : G.N ≤ h.next.toNat
  ro : ∀ b a, Claims ρ h b a → isRo h b → a.block < G.B
  dom : ∀ b o, h.bl.get b = some o → ∃ L, ρ b = some L
  lt : ∀ b L, ρ b = some L → b.toNat < h.next.toNat
  cell : ∀ b k l L i v, h.bl.get b = some (.row k l) → ρ b = some L → l[i]? = some v → v.one = true → ∃ v', w.cell? (adr L i) = some v' ∧ VR ρ v v'
  spare : ∀ b l L es j, h.bl.get b = some (.row (.gr es) l) → ρ b = some L → j < L.sp * es → ∃ v', w.cell? (adr L (l.length + j)) = some v'
  free : ∀ b a, Claims ρ h b a → ¬ isRo h b → w.frozen? a = false ∧ Own G a.block
  inj : ∀ b b' a, Claims ρ h b a → Claims ρ h b' a → ¬ isRo h b → b = b'
  ex : ∀ b l L, h.bl.get b = some (.row .ro l) ∨ h.bl.get b = some (.row .ex l) → ρ b = some L → L.sp = 0
  grone : ∀ b es l (i : Nat) v, h.bl.get b = some (.row (.gr es) l) → l[i]? = some v → v.one = true
  itr : ∀ b s pos L, h.bl.get b = some (.it s pos) → ρ b = some L → Own G L.bl ∧ (L.of = 0 ∧ L.spot = none) ∧ ∃ bs, w.heap[L.bl]? = some (.stringIter bs pos) ∧ bs.data.toList.map (·.toNat) = s
  itj : ∀ b s pos b' s' pos' L L', h.bl.get b = some (.it s pos) → h.bl.get b' = some (.it s' pos') → ρ b = some L → ρ b' = some L' → L.bl = L'.bl → b = b'

def upd (ρ : Ren) (b : Pos) (L : Loc) : Ren := fun x => if x = b then some L else ρ x

theorem HR.fresh {G : Gd} {ρ : Ren} {h : Hp} {w : World} (H : HR G ρ h w) : ρ h.next = none := by
  cases hr : ρ h.next with
  | none => rfl
  | some L => exact absurd (H.lt _ _ hr) (Nat.lt_irrefl _)

theorem HR.fresh_get {G : Gd} {ρ : Ren} {h : Hp} {w : World} (H : HR G ρ h w) : h.bl.get h.next = none := by
  cases hr : h.bl.get h.next with
  | none => rfl
  | some o => obtain ⟨L, hL⟩ := H.dom _ _ hr; rw [H.fresh] at hL; cases hL

theorem HR.ext {G : Gd} {ρ : Ren} {h : Hp} {w : World} (H : HR G ρ h w) (L : Loc) : Ext ρ (upd ρ h.next L) := by
  intro b L' hb
  unfold upd
  split
  · rename_i e; subst e; rw [H.fresh] at hb; cases hb
  · exact hb

theorem upd_same (ρ : Ren) (b : Pos) (L : Loc) : upd ρ b L b = some L := by simp [upd]
theorem upd_other (ρ : Ren) {b x : Pos} (L : Loc) (h : x ≠ b) : upd ρ b L x = ρ x := by simp [upd, h]

theorem HR.lt_cell {G : Gd} {ρ : Ren} {h : Hp} {w : World} (H : HR G ρ h w) {b : Pos} {a : Addr} (hc : Claims ρ h b a) : ∃ v, w.cell? a = some v := by
  obtain ⟨k, l, L, hb, hL, ⟨i, v, hi, hv, rfl⟩ | ⟨es, j, rfl, hj, rfl⟩⟩ := hc
  · obtain ⟨v', h1, _⟩ := H.cell b k l L i v hb hL hi hv; exact ⟨v', h1⟩
  · exact H.spare b l L es j hb hL hj

theorem HR.congr {G : Gd} {ρ : Ren} {h : Hp} {w w' : World} (H : HR G ρ h w) (e : w'.heap = w.heap) : HR G ρ h w' where
  sz := by rw [e]; exact H.sz
  nx := H.nx
  ro := H.ro
  dom := H.dom
  lt := H.lt
  cell := fun b k l L i v h1 h2 h3 h4 => by
    obtain ⟨v', h5, h6⟩ := H.cell b k l L i v h1 h2 h3 h4
    exact ⟨v', by simpa [World.cell?, e] using h5, h6⟩
  spare := fun b l L es j h1 h2 h3 => by
    obtain ⟨v', h5⟩ := H.spare b l L es j h1 h2 h3
    exact ⟨v', by simpa [World.cell?, e] using h5⟩
  free := fun b a h1 h2 => by simpa [World.frozen?, e] using H.free b a h1 h2
  inj := H.inj
  ex := H.ex
  grone := H.grone
  itr := fun b s pos L h1 h2 => by simpa [e] using H.itr b s pos L h1 h2
  itj := H.itj

theorem HR.drew {G : Gd} {ρ : Ren} {h : Hp} {w : World} (H : HR G ρ h w) : HR G ρ h w.drew := H.congr rfl

/-- The claims of a heap that has one row more. -/
theorem Claims.of_new {ρ : Ren} {h : Hp} {o : Ob} {L : Loc} {b : Pos} {a : Addr} (hb : b ≠ h.next)
    (hc : Claims (upd ρ h.next L) ⟨h.next.succ, Tr.set o h.next h.bl⟩ b a) : Claims ρ h b a := by
  obtain ⟨k, l, L', h1, h2, h3⟩ := hc
  simp only [Tr.get_set_other _ _ _ _ hb] at h1
  rw [upd_other _ _ hb] at h2
  exact ⟨k, l, L', h1, h2, h3⟩

theorem isRo_new {h : Hp} {o : Ob} {b : Pos} (hb : b ≠ h.next) : isRo ⟨h.next.succ, Tr.set o h.next h.bl⟩ b ↔ isRo h b := by
  simp [isRo, Tr.get_set_other _ _ _ _ hb]

theorem succ_lt {G : Gd} {ρ : Ren} {h : Hp} {w : World} (H : HR G ρ h w) (L : Loc) : ∀ b L', upd ρ h.next L b = some L' → b.toNat < h.next.succ.toNat := by
  intro b L' hb
  rw [Pos.toNat_succ]
  unfold upd at hb
  split at hb
  · rename_i e; subst e; omega
  · have := H.lt _ _ hb; omega

theorem HR.exx {G : Gd} {ρ : Ren} {h : Hp} {w : World} (H : HR G ρ h w) (L : Loc) : Ex G ρ (upd ρ h.next L) := ⟨H.ext L, fun b L' hb => by
  unfold upd at hb
  split at hb
  · rename_i e; subst e; exact .inr H.nx
  · exact .inl hb⟩

theorem HR.own_new {G : Gd} {ρ : Ren} {h : Hp} {w : World} (H : HR G ρ h w) : Own G w.heap.size := ⟨H.sz.1, fun hx => Nat.lt_irrefl _ (H.sz.2 _ hx)⟩

theorem below_alloc {G : Gd} {w : World} (hB : G.B ≤ w.heap.size ∧ ∀ k, G.X k → k < w.heap.size) (o : Obj) : Kp G w (w.alloc o) :=
  ⟨(Below.refl _ w).alloc hB.1 o, fun k hk => Below.heap_alloc _ _ _ (hB.2 k hk)⟩

/-- A new block, with whatever may stand behind the cells that Dd knows. -/
theorem HR.newRow {G : Gd} {ρ : Ren} {h : Hp} {w : World} (H : HR G ρ h w) (k : Kind) (cs : List DV) (vs : List Value) (arr : Array Value) (t : TypeId) (sp : Nat)
    (hcs : VRs ρ cs vs) (harr : ∀ (i : Nat) v, vs[i]? = some v → arr[i]? = some v)
    (hk : (k = .ex ∧ sp = 0) ∨ (∃ es, k = .gr es ∧ vs.length + sp * es ≤ arr.size ∧ ∀ v ∈ cs, v.one = true)) :
    HR G (upd ρ h.next ⟨w.heap.size, 0, sp, none⟩) ⟨h.next.succ, Tr.set (.row k cs) h.next h.bl⟩ (w.alloc (.cells arr t)) := by
  have hext := H.ext ⟨w.heap.size, 0, sp, none⟩
  have hro : k ≠ .ro := by rintro rfl; rcases hk with ⟨h1, _⟩ | ⟨es, h1, _, _⟩ <;> cases h1
  have hnew : ∀ a, Claims (upd ρ h.next ⟨w.heap.size, 0, sp, none⟩) ⟨h.next.succ, Tr.set (.row k cs) h.next h.bl⟩ h.next a → ∃ j, j < arr.size ∧ a = ⟨w.heap.size, j, none⟩ := by
    rintro a ⟨k', l', L', h1, h2, h3⟩
    simp only [Tr.get_set_same, Option.some.injEq, Ob.row.injEq] at h1
    obtain ⟨rfl, rfl⟩ := h1
    rw [upd_same] at h2
    cases h2
    rcases h3 with ⟨i, v, hi, hv, rfl⟩ | ⟨es, j, rfl, hj, rfl⟩
    · obtain ⟨v', hv', _⟩ := hcs.get i v hi
      have := harr i v' hv'
      refine ⟨i, ?_, by simp [adr]⟩
      rcases Nat.lt_or_ge i arr.size with h | h
      · exact h
      · simp [Array.getElem?_eq_none h] at this
    · refine ⟨cs.length + j, ?_, by simp [adr]⟩
      rcases hk with ⟨h1, _⟩ | ⟨es', h1, h2, _⟩
      · cases h1
      · cases h1
        rw [hcs.length]
        simp only at hj
        omega
  have hold : ∀ b a, b ≠ h.next → Claims (upd ρ h.next ⟨w.heap.size, 0, sp, none⟩) ⟨h.next.succ, Tr.set (.row k cs) h.next h.bl⟩ b a → a.block < w.heap.size := by
    intro b a hb hc
    obtain ⟨v, hv⟩ := H.lt_cell (Claims.of_new hb hc)
    exact cell_lt hv
  refine { sz := ?_, nx := ?_, ro := ?_, dom := ?_, lt := succ_lt H _, cell := ?_, spare := ?_, free := ?_, inj := ?_, ex := ?_, grone := ?_, itr := ?_, itj := ?_ }
  · obtain ⟨h1, h2⟩ := H.sz
    refine ⟨by simp; omega, fun k hk => ?_⟩
    have := h2 k hk
    simp; omega
  · have := H.nx; simp only [Pos.toNat_succ]; omega
  · intro b a hc hr
    by_cases e : b = h.next
    · subst e
      obtain ⟨l0, h0⟩ := hr
      simp only [Tr.get_set_same, Option.some.injEq, Ob.row.injEq] at h0
      exact absurd h0.1 hro
    · exact H.ro b a (Claims.of_new e hc) ((isRo_new e).1 hr)
  · intro b o hb
    by_cases e : b = h.next
    · subst e; exact ⟨_, upd_same _ _ _⟩
    · rw [upd_other _ _ e]; simp only [Tr.get_set_other _ _ _ _ e] at hb; exact H.dom b o hb
  · intro b k' l' L' i v hb hL hi hv
    by_cases e : b = h.next
    · subst e
      simp only [Tr.get_set_same, Option.some.injEq, Ob.row.injEq] at hb
      obtain ⟨rfl, rfl⟩ := hb
      rw [upd_same] at hL
      cases hL
      obtain ⟨v', hv', hr⟩ := hcs.get i v hi
      refine ⟨v', ?_, hr.mono hext⟩
      have := harr i v' hv'
      simpa [adr] using this
    · simp only [Tr.get_set_other _ _ _ _ e] at hb
      rw [upd_other _ _ e] at hL
      obtain ⟨v', h5, h6⟩ := H.cell b k' l' L' i v hb hL hi hv
      exact ⟨v', by rw [cell_alloc_lt (cell_lt h5)]; exact h5, h6.mono hext⟩
  · intro b l' L' es j hb hL hj
    by_cases e : b = h.next
    · subst e
      simp only [Tr.get_set_same, Option.some.injEq, Ob.row.injEq] at hb
      obtain ⟨rfl, rfl⟩ := hb
      rw [upd_same] at hL
      cases hL
      rcases hk with ⟨h1, _⟩ | ⟨es', h1, h2, _⟩
      · cases h1
      · cases h1
        simp only at hj
        have hlt : cs.length + j < arr.size := by rw [hcs.length]; omega
        exact ⟨arr[cs.length + j], by simp [adr, hlt]⟩
    · simp only [Tr.get_set_other _ _ _ _ e] at hb
      rw [upd_other _ _ e] at hL
      obtain ⟨v', h5⟩ := H.spare b l' L' es j hb hL hj
      exact ⟨v', by rw [cell_alloc_lt (cell_lt h5)]; exact h5⟩
  · intro b a hc hr
    by_cases e : b = h.next
    · subst e
      obtain ⟨j, hj, rfl⟩ := hnew a hc
      exact ⟨by simp, H.own_new⟩
    · have hlt := hold b a e hc
      have := H.free b a (Claims.of_new e hc) (fun h => hr ((isRo_new e).2 h))
      rw [frozen_alloc_old (by omega)]
      exact this
  · intro b b' a hc hc' hr
    by_cases e : b = h.next
    · subst e
      by_cases e' : b' = h.next
      · exact e'.symm
      · obtain ⟨j, hj, rfl⟩ := hnew a hc
        have := hold b' _ e' hc'
        exact absurd this (by simp)
    · by_cases e' : b' = h.next
      · subst e'
        obtain ⟨j, hj, rfl⟩ := hnew a hc'
        have := hold b _ e hc
        exact absurd this (by simp)
      · exact H.inj b b' a (Claims.of_new e hc) (Claims.of_new e' hc') (fun h => hr ((isRo_new e).2 h))
  · intro b l' L' hb hL
    by_cases e : b = h.next
    · subst e
      simp only [Tr.get_set_same, Option.some.injEq, Ob.row.injEq] at hb
      rw [upd_same] at hL
      cases hL
      rcases hk with ⟨_, h1⟩ | ⟨es, h1, _, _⟩
      · exact h1
      · rcases hb with ⟨h2, _⟩ | ⟨h2, _⟩ <;> rw [h1] at h2 <;> cases h2
    · simp only [Tr.get_set_other _ _ _ _ e] at hb
      rw [upd_other _ _ e] at hL
      exact H.ex b l' L' hb hL
  · intro b es l' i v hb hi
    by_cases e : b = h.next
    · subst e
      simp only [Tr.get_set_same, Option.some.injEq, Ob.row.injEq] at hb
      obtain ⟨h1, rfl⟩ := hb
      rcases hk with ⟨h2, _⟩ | ⟨es', h2, _, h3⟩
      · rw [h1] at h2; cases h2
      · exact h3 v (List.mem_of_getElem? hi)
    · simp only [Tr.get_set_other _ _ _ _ e] at hb
      exact H.grone b es l' i v hb hi
  · intro b s pos L' hb hL
    by_cases e : b = h.next
    · subst e; simp [Tr.get_set_same] at hb
    · simp only [Tr.get_set_other _ _ _ _ e] at hb
      rw [upd_other _ _ e] at hL
      obtain ⟨h1, h2, bs, h3, h4⟩ := H.itr b s pos L' hb hL
      refine ⟨h1, h2, bs, ?_, h4⟩
      have hlt : L'.bl < w.heap.size := by
        rcases Nat.lt_or_ge L'.bl w.heap.size with h | h
        · exact h
        · simp [Array.getElem?_eq_none h] at h3
      rw [Below.heap_alloc _ _ _ hlt]
      exact h3
  · intro b s pos b' s' pos' L1 L2 hb hb' hL hL' he
    by_cases e : b = h.next
    · subst e; simp [Tr.get_set_same] at hb
    · by_cases e' : b' = h.next
      · subst e'; simp [Tr.get_set_same] at hb'
      · simp only [Tr.get_set_other _ _ _ _ e] at hb
        simp only [Tr.get_set_other _ _ _ _ e'] at hb'
        rw [upd_other _ _ e] at hL
        rw [upd_other _ _ e'] at hL'
        exact H.itj b s pos b' s' pos' L1 L2 hb hb' hL hL' he

/-- A new name for an empty piece: the memory stays. -/
theorem HR.newEmpty {G : Gd} {ρ : Ren} {h : Hp} {w : World} (H : HR G ρ h w) (k : Kind) (L : Loc)
    (hk : (k = .ex ∧ L.sp = 0) ∨ k = .sp) :
    HR G (upd ρ h.next L) ⟨h.next.succ, Tr.set (.row k []) h.next h.bl⟩ w := by
  have hext := H.ext L
  have hnew : ∀ a, ¬ Claims (upd ρ h.next L) ⟨h.next.succ, Tr.set (.row k []) h.next h.bl⟩ h.next a := by
    rintro a ⟨k', l', L', h1, h2, h3⟩
    simp only [Tr.get_set_same, Option.some.injEq, Ob.row.injEq] at h1
    obtain ⟨rfl, rfl⟩ := h1
    rcases h3 with ⟨i, v, hi, hv, rfl⟩ | ⟨es, j, rfl, hj, rfl⟩
    · simp at hi
    · rcases hk with ⟨h1, _⟩ | h1 <;> cases h1
  refine { sz := H.sz, nx := ?_, ro := ?_, dom := ?_, lt := succ_lt H _, cell := ?_, spare := ?_, free := ?_, inj := ?_, ex := ?_, grone := ?_, itr := ?_, itj := ?_ }
  · have := H.nx; simp only [Pos.toNat_succ]; omega
  · intro b a hc hr
    by_cases e : b = h.next
    · subst e; exact absurd hc (hnew a)
    · exact H.ro b a (Claims.of_new e hc) ((isRo_new e).1 hr)
  · intro b o hb
    by_cases e : b = h.next
    · subst e; exact ⟨_, upd_same _ _ _⟩
    · rw [upd_other _ _ e]; simp only [Tr.get_set_other _ _ _ _ e] at hb; exact H.dom b o hb
  · intro b k' l' L' i v hb hL hi hv
    by_cases e : b = h.next
    · subst e
      simp only [Tr.get_set_same, Option.some.injEq, Ob.row.injEq] at hb
      obtain ⟨rfl, rfl⟩ := hb
      simp at hi
    · simp only [Tr.get_set_other _ _ _ _ e] at hb
      rw [upd_other _ _ e] at hL
      obtain ⟨v', h5, h6⟩ := H.cell b k' l' L' i v hb hL hi hv
      exact ⟨v', h5, h6.mono hext⟩
  · intro b l' L' es j hb hL hj
    by_cases e : b = h.next
    · subst e
      simp only [Tr.get_set_same, Option.some.injEq, Ob.row.injEq] at hb
      rcases hk with ⟨h1, _⟩ | h1 <;> rw [h1] at hb <;> cases hb.1
    · simp only [Tr.get_set_other _ _ _ _ e] at hb
      rw [upd_other _ _ e] at hL
      exact H.spare b l' L' es j hb hL hj
  · intro b a hc hr
    by_cases e : b = h.next
    · subst e; exact absurd hc (hnew a)
    · exact H.free b a (Claims.of_new e hc) (fun h => hr ((isRo_new e).2 h))
  · intro b b' a hc hc' hr
    by_cases e : b = h.next
    · subst e; exact absurd hc (hnew a)
    · by_cases e' : b' = h.next
      · subst e'; exact absurd hc' (hnew a)
      · exact H.inj b b' a (Claims.of_new e hc) (Claims.of_new e' hc') (fun h => hr ((isRo_new e).2 h))
  · intro b l' L' hb hL
    by_cases e : b = h.next
    · subst e
      simp only [Tr.get_set_same, Option.some.injEq, Ob.row.injEq] at hb
      rw [upd_same] at hL
      cases hL
      rcases hk with ⟨_, h1⟩ | h1
      · exact h1
      · rcases hb with ⟨h2, _⟩ | ⟨h2, _⟩ <;> rw [h1] at h2 <;> cases h2
    · simp only [Tr.get_set_other _ _ _ _ e] at hb
      rw [upd_other _ _ e] at hL
      exact H.ex b l' L' hb hL
  · intro b es l' i v hb hi
    by_cases e : b = h.next
    · subst e
      simp only [Tr.get_set_same, Option.some.injEq, Ob.row.injEq] at hb
      obtain ⟨h1, rfl⟩ := hb
      simp at hi
    · simp only [Tr.get_set_other _ _ _ _ e] at hb
      exact H.grone b es l' i v hb hi
  · intro b s pos L' hb hL
    by_cases e : b = h.next
    · subst e; simp [Tr.get_set_same] at hb
    · simp only [Tr.get_set_other _ _ _ _ e] at hb
      rw [upd_other _ _ e] at hL
      exact H.itr b s pos L' hb hL
  · intro b s pos b' s' pos' L1 L2 hb hb' hL hL' he
    by_cases e : b = h.next
    · subst e; simp [Tr.get_set_same] at hb
    · by_cases e' : b' = h.next
      · subst e'; simp [Tr.get_set_same] at hb'
      · simp only [Tr.get_set_other _ _ _ _ e] at hb
        simp only [Tr.get_set_other _ _ _ _ e'] at hb'
        rw [upd_other _ _ e] at hL
        rw [upd_other _ _ e'] at hL'
        exact H.itj b s pos b' s' pos' L1 L2 hb hb' hL hL' he

end Go.Dd
