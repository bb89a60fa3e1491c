/- Dd, part F: the operations of Dd are the model's (memory, parts, numbers, strings). -/
import Derived.Test.YtliejomdaookoaaDdxE
set_option linter.unusedSimpArgs false
set_option linter.constructorNameAsVariable false
set_option linter.unusedVariables false
namespace Go.Dd
open Go.RowKit (Below)

section
variable {P : Program} {w : World}
theorem rU {t : TypeId} {d : TypeDesc} (h : P.underlying t = some d) : (underlying t).run P w = .ok d w := by simp [underlying, h]
theorem rI {t : TypeId} {i : TypeInfo} (h : P.info? t = some i) : (typeInfo t).run P w = .ok i w := by simp [typeInfo, h]
theorem rZ {t : TypeId} {i : TypeInfo} {z : Value} (h : P.info? t = some i) (hz : i.zero = some z) : (zeroValue t).run P w = .ok z w := by simp [zeroValue, rI h, hz]
theorem rS {t : TypeId} {i : TypeInfo} (h : P.info? t = some i) : (sizeOf t).run P w = .ok i.size w := by simp [sizeOf, rI h]
theorem rA {t : TypeId} {d : TypeDesc} (h : P.underlying t = some d) : (isAgg t).run P w = .ok (isAgD d) w := by
  simp only [isAgg, Sem.run_bind, rU h, Result.andThen_ok]
  cases d <;> rfl
end

/-- A computation of the model does what Dd says. -/
def SemOk (P : Program) (G : Gd) (ρ : Ren) (w : World) (v : DV) (h1 : Hp) (s : Sem Value) : Prop :=
  ∃ ρ' w' v', s.run P w = .ok v' w' ∧ Ex G ρ ρ' ∧ VR ρ' v v' ∧ HR G ρ' h1 w' ∧ Kp G w w'

theorem SemOk.pure {P : Program} {G : Gd} {ρ : Ren} {w : World} {v : DV} {h : Hp} (H : HR G ρ h w) {v' : Value} (hv : VR ρ v v') {s : Sem Value} (hs : s.run P w = .ok v' w) : SemOk P G ρ w v h s :=
  ⟨ρ, w, v', hs, Ex.refl G ρ, hv, H, Kp.refl G w⟩

section
variable {P : Program} {G : Gd} {ρ : Ren} {w : World} {h h1 : Hp} {v : DV}

/-! ### New memory -/

theorem new_ok (H : HR G ρ h w) (cs : List DV) (arr : Array Value) (t : TypeId) (hcs : VRs ρ cs arr.toList) (hp : pNew cs h = some (v, h1)) :
    SemOk P G ρ w v h1 (do pure (.pointer (some (← newRow t arr)))) := by
  simp only [pNew, Option.some.injEq, Prod.mk.injEq] at hp
  obtain ⟨rfl, rfl⟩ := hp
  refine ⟨_, w.alloc (.cells arr t), .pointer (some ⟨w.heap.size, 0, none⟩), ?_, H.exx _, .p _ 0 ⟨w.heap.size, 0, 0, none⟩ (upd_same _ _ _), H.newRow .ex cs arr.toList arr t 0 hcs (fun i v hi => by simpa using hi) (.inl ⟨rfl, rfl⟩), below_alloc H.sz _⟩
  simp [newRow]

theorem alloc_ok (H : HR G ρ h w) {t : TypeId} {i : TypeInfo} {z : Value} (hi : P.info? t = some i) (hz : i.zero = some z) (hp : pNew (zsD z) h = some (v, h1)) :
    SemOk P G ρ w v h1 (Instr.alloc t true (.tuple #[])) := by
  obtain ⟨ρ', w', v', h1', h2, h3, h4, h5⟩ := new_ok (P := P) H (zsD z) z.cells t (VR.zs ρ z) hp
  refine ⟨ρ', w', v', ?_, h2, h3, h4, h5⟩
  simp only [Instr.alloc, Sem.run_bind, rZ hi hz, Result.andThen_ok]
  simpa [newVar] using h1'

theorem box_ok (H : HR G ρ h w) {t : TypeId} {x : DV} {x' : Value} (hx : VR ρ x x') (hp : pBox x h = some (v, h1)) : SemOk P G ρ w v h1 (Instr.box t x') := by
  unfold pBox at hp
  split at hp
  · rename_i cs hc
    obtain ⟨ρ', w', v', h1', h2, h3, h4, h5⟩ := new_ok (P := P) H cs x'.cells t (hx.cells hc) hp
    exact ⟨ρ', w', v', by simpa [Instr.box, newVar] using h1', h2, h3, h4, h5⟩
  · cases hp

/-! ### Loads and stores -/

theorem takeD_spec : ∀ (n : Nat) (l cs : List DV), takeD n l = some cs → cs.length = n ∧ n ≤ l.length ∧ cs = l.take n ∧ ∀ v ∈ cs, v.one = true
  | 0, l, cs, h => by simp [takeD] at h; subst h; simp
  | n + 1, [], cs, h => by simp [takeD] at h
  | n + 1, x :: l, cs, h => by
    simp only [takeD] at h
    split at h
    · rename_i hx
      cases ht : takeD n l with
      | none => rw [ht] at h; simp at h
      | some c =>
        rw [ht] at h; simp at h; subst h
        obtain ⟨h1, h2, h3, h4⟩ := takeD_spec n l c ht
        refine ⟨by simp [h1], by simp; exact h2, by simp [h3], ?_⟩
        intro v hv
        simp at hv
        rcases hv with rfl | hv
        · exact hx
        · exact h4 v hv
    · cases h

theorem cellsAt_spec (H : HR G ρ h w) {b : Pos} {o n : Nat} {cs : List DV} {L : Loc} (hc : cellsAt b o n h = some cs) (hL : ρ b = some L) :
    cs.length = n ∧ (∀ v ∈ cs, v.one = true) ∧ (∃ k l, h.bl.get b = some (.row k l) ∧ cs = (l.drop o).take n ∧ n ≤ (l.drop o).length) ∧
    ∃ vs : List Value, VRs ρ cs vs ∧ vs.length = n ∧ ∀ (j : Nat) v, vs[j]? = some v → w.cell? (adr L (o + j)) = some v := by
  unfold cellsAt rowOf at hc
  split at hc
  · rename_i l hl
    split at hl
    · rename_i k l0 hb
      simp at hl; subst hl
      obtain ⟨h1, h2, h3, h4⟩ := takeD_spec n _ cs hc
      refine ⟨h1, h4, ⟨k, l0, hb, h3, h2⟩, ?_⟩
      have hcell : ∀ (j : Nat) x, cs[j]? = some x → ∃ v', w.cell? (adr L (o + j)) = some v' ∧ VR ρ x v' := by
        intro j x hj
        have ho := h4 x (List.mem_of_getElem? hj)
        have hlt : j < n := by
          rcases Nat.lt_or_ge j n with h | h
          · exact h
          · rw [List.getElem?_eq_none (by omega)] at hj; cases hj
        rw [h3, List.getElem?_take_of_lt hlt, List.getElem?_drop] at hj
        exact H.cell b k l0 L (o + j) x hb hL hj ho
      clear hc h3 h2
      subst h1
      clear h4
      induction cs generalizing o with
      | nil => exact ⟨[], .nil, rfl, by simp⟩
      | cons x cs ih =>
        obtain ⟨v', h5, h6⟩ := hcell 0 x (by simp)
        obtain ⟨vs, h7, h8, h9⟩ := ih (o := o + 1) (fun j y hj => by have := hcell (j + 1) y (by simpa using hj); rwa [show o + (j + 1) = o + 1 + j from by omega] at this)
        refine ⟨v' :: vs, .cons _ _ _ _ h6 h7, by simp [h8], fun j y hj => ?_⟩
        cases j with
        | zero => simp at hj; subst hj; simpa using h5
        | succ j => simp at hj; have := h9 j y hj; rwa [show o + 1 + j = o + (j + 1) from by omega] at this
    · cases hl
  · cases hc

theorem run_loadCells_ok {a : Addr} {L : Loc} {o : Nat} (vs : List Value) (ha : a = adr L o) (hc : ∀ (j : Nat) v, vs[j]? = some v → w.cell? (adr L (o + j)) = some v) :
    (loadCells a vs.length).run P w = .ok vs.toArray w := by
  subst ha
  exact run_loadCells_list (P := P) (w := w) (adr L o) vs fun j v hj => by rw [adr_add]; exact hc j v hj

theorem load1_ok (H : HR G ρ h w) {t : TypeId} {d : TypeDesc} {x : DV} {x' : Value} (ht : P.underlying t = some d) (hd : isAgD d = false) (hx : VR ρ x x') (hp : pLoad1 x h = some (v, h1)) :
    SemOk P G ρ w v h1 (Instr.loadAt t x') := by
  unfold pLoad1 at hp
  split at hp
  · rename_i b o
    split at hp
    · rename_i u hc
      simp at hp
      obtain ⟨rfl, rfl⟩ := hp
      cases hx with
      | p _ _ L hL =>
        unfold cellD rowOf at hc
        split at hc
        · rename_i l hl
          split at hl
          · rename_i k l0 hb
            simp at hl; subst hl
            split at hc
            · rename_i u0 hu
              split at hc
              · rename_i ho
                simp at hc; subst hc
                obtain ⟨v', h5, h6⟩ := H.cell b k l0 L o u0 hb hL hu ho
                refine SemOk.pure H h6 ?_
                simp only [Instr.loadAt, Instr.sureAddr, Sem.run_bind, Sem.run_pure, Result.andThen_ok, loadVar, rA ht, hd]
                simp [h5]
              · cases hc
            · cases hc
          · cases hl
        · cases hc
    · cases hp
  · cases hp

theorem loadA_ok (H : HR G ρ h w) {t : TypeId} {d : TypeDesc} {i : TypeInfo} {x : DV} {x' : Value} (ht : P.underlying t = some d) (hi : P.info? t = some i) (hd : isAgD d = true) (hx : VR ρ x x') (hp : pLoadA i.size x h = some (v, h1)) :
    SemOk P G ρ w v h1 (Instr.loadAt t x') := by
  unfold pLoadA at hp
  split at hp
  · rename_i b o
    split at hp
    · rename_i cs hc
      simp at hp
      obtain ⟨rfl, rfl⟩ := hp
      cases hx with
      | p _ _ L hL =>
        obtain ⟨h1, h2, _, vs, h4, h5, h6⟩ := cellsAt_spec H hc hL
        refine SemOk.pure H (.a cs vs.toArray (by simpa using h4)) ?_
        have := run_loadCells_ok (P := P) vs rfl h6
        rw [h5] at this
        simp only [Instr.loadAt, Instr.sureAddr, Sem.run_bind, Sem.run_pure, Result.andThen_ok, loadVar, rA ht, hd, if_true, rS hi, this]
    · cases hp
  · cases hp

theorem store_ok (H : HR G ρ h w) {t : TypeId} {i : TypeInfo} {x y : DV} {x' y' : Value} (hi : P.info? t = some i) (hx : VR ρ x x') (hy : VR ρ y y') (hp : pStore i.size x y h = some (v, h1)) :
    v = undefD ∧ ∃ w', (Instr.storeAt t x' y').run P w = .ok () w' ∧ HR G ρ h1 w' ∧ Kp G w w' := by
  unfold pStore at hp
  split at hp
  · rename_i b o cs hc
    split at hp
    · rename_i hl
      split at hp
      · rename_i h' hs
        simp at hp
        obtain ⟨rfl, rfl⟩ := hp
        cases hx with
        | p _ _ L hL =>
          have hcs := hy.cells hc
          obtain ⟨w', h3, h4, h5⟩ := storeAtD_sound (P := P) H hs hL hcs
          refine ⟨rfl, w', ?_, h4, h5⟩
          have hlen := hcs.length
          have hne : ¬ y'.cells.size ≠ i.size := by simp at hlen; omega
          simp only [Instr.storeAt, Instr.sureAddr, Sem.run_bind, Sem.run_pure, Result.andThen_ok, storeVar, rS hi]
          rw [if_neg hne]
          simpa using h3
      · cases hp
    · cases hp
  · cases hp

/-! ### Parts -/

theorem foldl_set (off : Nat) : ∀ (l : List Value) (k : Nat) (cs : Array Value), off + k + l.length ≤ cs.size →
    ((l.zipIdx k).foldl (fun cs (c : Value × Nat) => cs.setIfInBounds (off + c.2) c.1) cs).toList = cs.toList.take (off + k) ++ l ++ cs.toList.drop (off + k + l.length)
  | [], k, cs, h => by simp
  | x :: l, k, cs, h => by
    simp only [List.zipIdx_cons, List.foldl_cons]
    simp only [List.length_cons] at h
    rw [foldl_set off l (k + 1) _ (by simp; omega)]
    simp only [Array.toList_setIfInBounds, List.length_cons]
    rw [show off + (k + 1) = (off + k) + 1 from by omega]
    have hlt : off + k < cs.toList.length := by simp; omega
    rw [List.take_succ_eq_append_getElem (by simpa using hlt)]
    simp only [List.take_set, List.getElem_set_self, List.append_assoc, List.singleton_append]
    congr 1
    · rw [List.set_eq_of_length_le (by simp; omega)]
    · rw [show off + k + 1 + l.length = off + k + (l.length + 1) from by omega]
      rw [List.drop_set_of_lt (by omega)]

theorem fill_ok {place : Nat → Option (Nat × Nat)} : ∀ (l : List (Nat × DV)) (l' : List (Nat × Value)) (cells : List DV) (cells' : Array Value) (q : List (Nat × Nat × DV)) (out : List DV),
    l.map (·.1) = l'.map (·.1) → VRs ρ (l.map (·.2)) (l'.map (·.2)) → VRs ρ cells cells'.toList →
    l.mapM (fun (x : Nat × DV) => (place x.1).map fun s => (s.1, s.2, x.2)) = some q → fillD cells q = some out →
    ∃ out', Instr.fill place cells' l' = some out' ∧ VRs ρ out out'.toList
  | [], l', cells, cells', q, out, hi, hv, hc, hq, hf => by
    cases l' with
    | cons => simp at hi
    | nil => simp at hq; subst hq; simp [fillD] at hf; subst hf; exact ⟨cells', by simp [Instr.fill], hc⟩
  | (i, x) :: l, l', cells, cells', q, out, hi, hv, hc, hq, hf => by
    cases l' with
    | nil => simp at hi
    | cons y l' =>
      obtain ⟨i', x'⟩ := y
      simp at hi
      obtain ⟨rfl, hi⟩ := hi
      simp only [List.map_cons] at hv
      cases hv with
      | cons _ _ _ _ hx hs =>
        simp only [List.mapM_cons] at hq
        cases hp : place i with
        | none => simp [hp] at hq
        | some s =>
          obtain ⟨off, size⟩ := s
          simp only [hp, Option.map_some, Option.bind_eq_bind, Option.bind_some] at hq
          cases hm : l.mapM (fun (x : Nat × DV) => (place x.1).map fun s => (s.1, s.2, x.2)) with
          | none => simp [hm] at hq
          | some q1 =>
            simp [hm] at hq
            subst hq
            simp only [fillD] at hf
            cases hcs : cellsD x with
            | none => simp [hcs] at hf
            | some cs =>
              simp only [hcs] at hf
              split at hf
              · rename_i hle
                obtain ⟨hl1, hl2⟩ := hle
                have hxc := hx.cells hcs
                have hxl := hxc.length
                have hcl := hc.length
                simp only [Array.length_toList] at hxl hcl
                have hnew : VRs ρ (cells.take off ++ cs ++ cells.drop (off + size)) (x'.cells.zipIdx.foldl (fun cs (c : Value × Nat) => cs.setIfInBounds (off + c.2) c.1) cells').toList := by
                  rw [← Array.foldl_toList, Array.toList_zipIdx, foldl_set off x'.cells.toList 0 cells' (by simp; omega)]
                  simp only [Nat.add_zero, Array.length_toList]
                  rw [show off + x'.cells.size = off + size from by omega]
                  exact ((hc.take off).append hxc).append (hc.drop (off + size))
                obtain ⟨out', h3, h4⟩ := fill_ok l l' _ _ q1 out hi hs hnew hm hf
                refine ⟨out', ?_, h4⟩
                simp only [Instr.fill, hp]
                have hne : (decide (x'.cells.size ≠ size) || decide (off + x'.cells.size > cells'.size)) = false := by
                  simp; omega
                rw [if_neg (by rw [hne]; simp)]
                exact h3
              · cases hf

end
end Go.Dd
