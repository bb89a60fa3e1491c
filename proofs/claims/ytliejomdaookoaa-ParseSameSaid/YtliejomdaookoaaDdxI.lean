/- Dd, part I: append and iterators. -/
import Derived.Test.YtliejomdaookoaaDdxH
import Derived.Laws.RangeString
set_option linter.unusedSimpArgs false
set_option linter.constructorNameAsVariable false
set_option linter.unusedVariables false
namespace Go.Dd
open Go.RowKit (Below)

section
variable {P : Program} {G : Gd} {ρ : Ren} {w : World} {h h1 : Hp} {v : DV}

/-- What is known of a row is forgotten from a place on. -/
theorem HR.kill (H : HR G ρ h w) {b : Pos} {es o : Nat} {l : List DV} (hb : h.bl.get b = some (.row (.gr es) l)) :
    HR G ρ ⟨h.next, Tr.set (.row .sp (killFrom o l)) b h.bl⟩ w := by
  obtain ⟨k1, k2⟩ := killFrom_spec o l
  have hroB : ¬ isRo h b := by rintro ⟨l0, h0⟩; rw [hb] at h0; simp at h0
  have hcl : ∀ {x a}, Claims ρ ⟨h.next, Tr.set (.row .sp (killFrom o l)) b h.bl⟩ x a → Claims ρ h x a := by
    rintro x a ⟨k', l', L', h1, h2, h3⟩
    by_cases e : x = b
    · subst e
      simp only [Tr.get_set_same, Option.some.injEq, Ob.row.injEq] at h1
      obtain ⟨rfl, rfl⟩ := h1
      rcases h3 with ⟨i, u, hi, hu, rfl⟩ | ⟨es, j, h4, _, _⟩
      · exact ⟨_, l, L', hb, h2, .inl ⟨i, u, (k2 i u hi hu).2, hu, rfl⟩⟩
      · cases h4
    · simp only [Tr.get_set_other _ _ _ _ e] at h1
      exact ⟨k', l', L', h1, h2, h3⟩
  have hro : ∀ x, isRo ⟨h.next, Tr.set (.row .sp (killFrom o l)) b h.bl⟩ x ↔ isRo h x := by
    intro x
    by_cases e : x = b
    · subst e; simp [isRo, Tr.get_set_same, hb]
    · simp [isRo, Tr.get_set_other _ _ _ _ e]
  refine { sz := H.sz, nx := H.nx, ro := fun x a hc hr => H.ro x a (hcl hc) ((hro x).1 hr), dom := ?_, lt := H.lt, cell := ?_, spare := ?_, free := ?_, inj := ?_, ex := ?_, grone := ?_, itr := ?_, itj := ?_ }
  · intro x ob hx
    by_cases e : x = b
    · subst e; exact H.dom x _ hb
    · simp only [Tr.get_set_other _ _ _ _ e] at hx; exact H.dom x ob hx
  · intro x k' l' L' i u hx hL' hi hu
    by_cases e : x = b
    · subst e
      simp only [Tr.get_set_same, Option.some.injEq, Ob.row.injEq] at hx
      obtain ⟨rfl, rfl⟩ := hx
      exact H.cell x _ l L' i u hb hL' (k2 i u hi hu).2 hu
    · simp only [Tr.get_set_other _ _ _ _ e] at hx
      exact H.cell x k' l' L' i u hx hL' hi hu
  · intro x l' L' es j hx hL' hj
    by_cases e : x = b
    · subst e; simp [Tr.get_set_same] at hx
    · simp only [Tr.get_set_other _ _ _ _ e] at hx
      exact H.spare x l' L' es j hx hL' hj
  · intro x a hc hr
    exact H.free x a (hcl hc) (fun h => hr ((hro x).2 h))
  · intro x x' a hc hc' hr
    exact H.inj x x' a (hcl hc) (hcl hc') (fun h => hr ((hro x).2 h))
  · intro x l' L' hx hL'
    by_cases e : x = b
    · subst e; simp [Tr.get_set_same] at hx
    · simp only [Tr.get_set_other _ _ _ _ e] at hx
      exact H.ex x l' L' hx hL'
  · intro x es l' i u hx hi
    by_cases e : x = b
    · subst e; simp [Tr.get_set_same] at hx
    · simp only [Tr.get_set_other _ _ _ _ e] at hx
      exact H.grone x es l' i u hx hi
  · intro x s pos L' hx hL'
    by_cases e : x = b
    · subst e; simp [Tr.get_set_same] at hx
    · simp only [Tr.get_set_other _ _ _ _ e] at hx
      exact H.itr x s pos L' hx hL'
  · intro x s pos x' s' pos' L1 L2 hx hx' h1 h2 he
    by_cases e : x = b
    · subst e; simp [Tr.get_set_same] at hx
    · by_cases e' : x' = b
      · subst e'; simp [Tr.get_set_same] at hx'
      · simp only [Tr.get_set_other _ _ _ _ e] at hx
        simp only [Tr.get_set_other _ _ _ _ e'] at hx'
        exact H.itj x s pos x' s' pos' L1 L2 hx hx' h1 h2 he

/-! ### What is appended -/

theorem src_ok (H : HR G ρ h w) {size n : Nat} {x : DV} {x' : Value} {new : List DV} (h0 : 0 < size) (hx : VR ρ x x') (hs : srcD size x h = some (n, new)) :
    ∃ new' : List Value, VRs ρ new new' ∧ new.length = n * size ∧ (∀ u ∈ new, u.one = true) ∧ (Builtin.lenOf x').run P w = .ok n w ∧
      ∀ w1 : World, w1.heap = w.heap → (Builtin.lenOf x').run P w1 = .ok n w1 ∧ (Builtin.firstCells size n x').run P w1 = .ok new'.toArray w1 := by
  unfold srcD at hs
  split at hs <;> (try (cases hs; done))
  · simp only [Option.some.injEq, Prod.mk.injEq] at hs
    obtain ⟨rfl, rfl⟩ := hs
    cases hx
    exact ⟨[], .nil, by simp, by simp, by simp [Builtin.lenOf], fun w1 _ => ⟨by simp [Builtin.lenOf], by simp [Builtin.firstCells]⟩⟩
  · rename_i b o m cap
    split at hs <;> (try (cases hs; done))
    rename_i cs hc
    simp only [Option.some.injEq, Prod.mk.injEq] at hs
    obtain ⟨rfl, rfl⟩ := hs
    cases hx with
    | l _ _ _ _ L hL =>
      obtain ⟨h1, h2, _, vs, h4, h5, h6⟩ := cellsAt_spec H hc hL
      refine ⟨vs, h4, h1, h2, by simp [Builtin.lenOf], fun w1 hw1 => ⟨by simp [Builtin.lenOf], ?_⟩⟩
      have := run_loadCells_ok (P := P) (w := w1) (a := adr L o) vs rfl (fun j u hj => by have := h6 j u hj; simpa [World.cell?, hw1] using this)
      rw [h5] at this
      simpa [Builtin.firstCells] using this
  · rename_i l
    split at hs <;> (try (cases hs; done))
    rename_i h1
    simp only [Option.some.injEq, Prod.mk.injEq] at hs
    obtain ⟨rfl, rfl⟩ := hs
    subst h1
    cases hx with
    | s _ bs hb =>
      have hlen : l.length = bs.size := by rw [← hb, List.length_map, Array.length_toList]; rfl
      refine ⟨bs.data.toList.map fun b => .int .u8 b.toNat, ?_, by simp, ?_, by simp [Builtin.lenOf, hlen], fun w1 _ => ⟨by simp [Builtin.lenOf, hlen], ?_⟩⟩
      · rw [← hb, List.map_map]
        exact VRs.map _ _ (fun c => .i _ _) _
      · intro u hu
        simp at hu
        obtain ⟨c, _, rfl⟩ := hu
        rfl
      · simp only [Builtin.firstCells, Sem.run_pure, hlen]
        congr 1
        have he : (bs.extract 0 bs.size).data = bs.data := by
          rw [ByteArray.data_extract]
          exact Array.extract_size
        rw [he]
        apply Array.toList_inj.1
        simp

theorem run_append_room {t u e : TypeId} {i : TypeInfo} {ty : TypeId} {base : Option Addr} {sLen sCap n : Nat} {x' : Value} {d : TypeDesc} {new' : Array Value}
    (ht : P.underlying t = some (.slice e)) (hu : P.underlying u = some d) (hd : ∀ k, d ≠ .int k) (hi : P.info? e = some i) (hl : (Builtin.lenOf x').run P w = .ok n w)
    (hf : (Builtin.firstCells i.size n x').run P w = .ok new' w) (hle : sLen + n ≤ sCap) :
    (Builtin.append_ #[t, u] ty #[.slice base sLen sCap, x']).run P w =
      (match base with
       | some a => (storeCells (a.add (sLen * i.size)) new'.toList).run P w
       | none => .ok () w).andThen fun _ w' => .ok (.slice base (sLen + n) sCap) w' := by
  have hz : (match d with | .int _ => true | _ => false) = false := by cases d <;> first | rfl | exact absurd rfl (hd _)
  simp only [Builtin.append_, List.getElem?_toArray, List.getElem?_cons_zero, List.getElem?_cons_succ, Sem.run_bind, rU ht, rU hu, rS hi, Result.andThen_ok, Sem.run_pure]
  simp only [hz, Bool.false_eq_true, if_false, hl, Result.andThen_ok, Bool.not_false, if_true, hle, Sem.run_bind, hf]
  cases base <;> simp

theorem run_append_more {t u e : TypeId} {i : TypeInfo} {z : Value} {ty : TypeId} {base : Option Addr} {sLen sCap n : Nat} {x' : Value} {d : TypeDesc} {old' new' : Array Value}
    (ht : P.underlying t = some (.slice e)) (hu : P.underlying u = some d) (hd : ∀ k, d ≠ .int k) (hi : P.info? e = some i) (hz : i.zero = some z) (hl : (Builtin.lenOf x').run P w = .ok n w)
    (ho : (Builtin.firstCells i.size sLen (.slice base sLen sCap)).run P w.drew = .ok old' w.drew) (hf : (Builtin.firstCells i.size n x').run P w.drew = .ok new' w.drew) (hgt : ¬ sLen + n ≤ sCap)
    (hb0 : 0 < i.bytes) (hroom : (sLen + n) * i.bytes ≤ roomD) :
    ∃ newCap, sLen + n ≤ newCap ∧ (Builtin.append_ #[t, u] ty #[.slice base sLen sCap, x']).run P w =
      .ok (.slice (some ⟨w.heap.size, 0, none⟩) (sLen + n) newCap) (w.drew.alloc (.cells (old' ++ new' ++ Builtin.zeroCells z.cells (newCap - (sLen + n))) e)) := by
  have hzd : (match d with | .int _ => true | _ => false) = false := by cases d <;> first | rfl | exact absurd rfl (hd _)
  refine ⟨(Question.appendCap (sLen + n) sCap e).cut (w.tape w.drawn (.appendCap (sLen + n) sCap e)), by simp [Question.cut], ?_⟩
  have hsmall : sLen + n ≤ roomD := Nat.le_trans (Nat.le_mul_of_pos_right _ hb0) hroom
  have hmax : ¬ ((((sLen + n : Nat) : Int) > IntKind.i64.max) ∧ (False ∨ i.bytes = 0)) := by rintro ⟨_, h | h⟩ <;> omega
  have hfit := growslice_fits (need := sLen + n) (old := sCap) (bytes := i.bytes) (by omega) (by unfold roomD at hroom; omega)
  simp only [Builtin.append_, List.getElem?_toArray, List.getElem?_cons_zero, List.getElem?_cons_succ, Sem.run_bind, rU ht, rU hu, rS hi, Result.andThen_ok, Sem.run_pure]
  simp only [hzd, Bool.false_eq_true, if_false, hl, Result.andThen_ok, Bool.not_false, if_true, hgt, Sem.run_bind, rI hi]
  rw [if_neg hmax]
  simp only [Sem.run_bind, rI hi, Result.andThen_ok, Sem.run_pure]
  rw [if_neg (by omega)]
  simp only [Sem.run_bind, run_choose, Question.forced, Bool.false_eq_true, if_false, Result.andThen_ok, rI hi, run_askRoom, World.drew_eq, ho, hf, rZ hi hz, Sem.run_pure]
  simp [newRow]
  rfl

theorem append_ok (H : HR G ρ h w) {t u e : TypeId} {i : TypeInfo} {z : Value} {ty : TypeId} {d : TypeDesc} {s x : DV} {s' x' : Value}
    (ht : P.underlying t = some (.slice e)) (hu : P.underlying u = some d) (hd : ∀ k, d ≠ .int k) (hi : P.info? e = some i) (hz : i.zero = some z) (h0 : 0 < i.size) (hb0 : 0 < i.bytes) (hzs : z.cells.size = i.size)
    (hs : VR ρ s s') (hx : VR ρ x x') (hp : pAppend i.size i.bytes s x h = some (v, h1)) :
    SemOk P G ρ w v h1 (Builtin.append_ #[t, u] ty #[s', x']) := by
  unfold pAppend at hp
  split at hp <;> (try (cases hp; done))
  rename_i n new hsrc
  obtain ⟨new', n1, n2, n3, n4, n5⟩ := src_ok (P := P) H h0 hx hsrc
  -- a new row
  have hnew : ∀ (base : Option Addr) (sLen sCap : Nat) (old : List DV) (old' : List Value) (hx : Hp) (Hx : HR G ρ hx w), hx.next = h.next → VRs ρ old old' → old.length = sLen * i.size → (∀ u ∈ old, u.one = true) →
      (Builtin.firstCells i.size sLen (.slice base sLen sCap)).run P w.drew = .ok old'.toArray w.drew → ¬ sLen + n ≤ sCap → (sLen + n) * i.bytes ≤ roomD →
      v = .l h.next 0 (sLen + n) (sLen + n) → h1 = ⟨h.next.succ, Tr.set (.row (.gr i.size) (old ++ new)) h.next hx.bl⟩ → SemOk P G ρ w v h1 (Builtin.append_ #[t, u] ty #[.slice base sLen sCap, x']) := by
    intro base sLen sCap old old' hx Hx hnx o1 o2 o3 o4 hgt hroom hv hh
    subst hv hh
    obtain ⟨newCap, c1, c2⟩ := run_append_more (P := P) (w := w) (ty := ty) ht hu hd hi hz n4 o4 (n5 w.drew rfl).2 hgt hb0 hroom
    have hrow := Hx.drew.newRow (.gr i.size) (old ++ new) (old' ++ new') (old'.toArray ++ new'.toArray ++ Builtin.zeroCells z.cells (newCap - (sLen + n))) e (newCap - (sLen + n)) (o1.append n1)
      (fun j y hj => by
        have hlt : j < (old' ++ new').length := by
          rcases Nat.lt_or_ge j (old' ++ new').length with h | h
          · exact h
          · rw [List.getElem?_eq_none h] at hj; cases hj
        rw [Array.getElem?_append_left (by simpa using hlt)]
        simpa using hj)
      (.inr ⟨i.size, rfl, by simp [Builtin.zeroCells, hzs], fun y hy => by
        simp at hy
        rcases hy with hy | hy
        · exact o3 y hy
        · exact n3 y hy⟩)
    rw [hnx] at hrow
    refine ⟨_, _, _, c2, ?_, ?_, hrow, ?_⟩
    · have := Hx.exx ⟨w.heap.size, 0, newCap - (sLen + n), none⟩
      rwa [hnx] at this
    · have hvr : VR (upd ρ h.next ⟨w.heap.size, 0, newCap - (sLen + n), none⟩) (.l h.next 0 (sLen + n) (sLen + n)) (.slice (some (adr ⟨w.heap.size, 0, newCap - (sLen + n), none⟩ 0)) (sLen + n) (sLen + n + (newCap - (sLen + n)))) := .l _ _ _ _ _ (upd_same _ _ _)
      rw [show sLen + n + (newCap - (sLen + n)) = newCap from by omega] at hvr
      exact hvr
    · exact (Kp.refl G w).drew.trans (below_alloc (by simpa using H.sz) _)
  split at hp <;> (try (cases hp; done))
  · cases hs
    split at hp
    · rename_i hn0
      subst hn0
      simp only [Option.some.injEq, Prod.mk.injEq] at hp
      obtain ⟨rfl, rfl⟩ := hp
      refine SemOk.pure H .l0 ?_
      rw [run_append_room ht hu hd hi n4 (n5 w rfl).2 (by omega)]
      simp
    · rename_i hn0
      split at hp <;> (try (cases hp; done))
      rename_i hroom
      simp only [Option.some.injEq, Prod.mk.injEq] at hp
      obtain ⟨rfl, rfl⟩ := hp
      exact hnew none 0 0 [] [] h H rfl .nil (by simp) (by simp) (by simp [Builtin.firstCells]) (by omega) (by simpa using hroom) (by simp) (by simp)
  · rename_i b o len cap
    cases hs with
    | l _ _ _ _ L hL =>
      split at hp
      · rename_i hle
        split at hp <;> (try (cases hp; done))
        rename_i h' hst
        simp only [Option.some.injEq, Prod.mk.injEq] at hp
        obtain ⟨rfl, rfl⟩ := hp
        obtain ⟨w', s1, s2, s3⟩ := storeAtD_sound (P := P) H hst hL n1
        refine ⟨ρ, w', _, ?_, Ex.refl G ρ, .l b o _ _ L hL, s2, s3⟩
        rw [run_append_room ht hu hd hi n4 (n5 w rfl).2 (by omega)]
        simp only [adr_add]
        rw [s1]
        simp
      · rename_i hgt
        split at hp <;> (try (cases hp; done))
        rename_i k l old hb hold
        split at hp <;> (try (cases hp; done))
        rename_i hroom
        obtain ⟨o1, o2, ⟨k0, l0, hb0', o3, o4⟩, old', o5, o6, o7⟩ := cellsAt_spec H hold hL
        rw [hb] at hb0'
        simp only [Option.some.injEq, Ob.row.injEq] at hb0'
        obtain ⟨rfl, rfl⟩ := hb0'
        have hfo : (Builtin.firstCells i.size len (.slice (some (adr L o)) len (cap + L.sp))).run P w.drew = .ok old'.toArray w.drew := by
          have := run_loadCells_ok (P := P) (w := w.drew) (a := adr L o) old' rfl (fun j y hj => by simpa using o7 j y hj)
          rw [o6] at this
          simpa [Builtin.firstCells] using this
        split at hp <;> (try (cases hp; done))
        · simp only [Option.some.injEq, Prod.mk.injEq] at hp
          have hsp := H.ex b l L (.inl hb) hL
          exact hnew _ _ _ old old' h H rfl o5 o1 o2 hfo (by omega) hroom hp.1.symm hp.2.symm
        · simp only [Option.some.injEq, Prod.mk.injEq] at hp
          have hsp := H.ex b l L (.inr hb) hL
          exact hnew _ _ _ old old' h H rfl o5 o1 o2 hfo (by omega) hroom hp.1.symm hp.2.symm
        · rename_i es
          split at hp <;> (try (cases hp; done))
          rename_i hes
          obtain ⟨rfl, hend⟩ := hes
          simp only [Option.some.injEq, Prod.mk.injEq] at hp
          by_cases hin : len + n ≤ cap + L.sp
          · obtain ⟨rfl, rfl⟩ := hp
            have hroB : ¬ isRo h b := by rintro ⟨l0, h0⟩; rw [hb] at h0; simp at h0
            have hlenle : len ≤ cap := by
              simp only [List.length_drop] at o4
              have : len * i.size ≤ cap * i.size := by omega
              exact Nat.le_of_mul_le_mul_right this h0
            have e1 : len * i.size ≤ cap * i.size := Nat.mul_le_mul_right _ hlenle
            have e2 : (len + n) * i.size = len * i.size + n * i.size := Nat.add_mul _ _ _
            have e3 : (cap + L.sp) * i.size = cap * i.size + L.sp * i.size := Nat.add_mul _ _ _
            have e4 : (len + n) * i.size ≤ (cap + L.sp) * i.size := Nat.mul_le_mul_right _ hin
            have e6 : 1 * i.size ≤ (cap + L.sp) * i.size := Nat.mul_le_mul_right _ (by omega)
            have hn' := n1.length
            have hOC : ∀ j, j < l.length + L.sp * i.size → Claims ρ h b (adr L j) := by
              intro j hj
              by_cases hlt : j < l.length
              · exact ⟨_, l, L, hb, hL, .inl ⟨j, l[j], by simp [hlt], H.grone b i.size l j _ hb (by simp [hlt]), rfl⟩⟩
              · exact ⟨_, l, L, hb, hL, .inr ⟨i.size, j - l.length, rfl, by omega, by rw [show l.length + (j - l.length) = j from by omega]⟩⟩
            obtain ⟨w', s1, s2⟩ := run_storeCells (P := P) (L := L) new' (o + len * i.size) 0 w (fun j hj => by
              have hc := hOC (o + len * i.size + 0 + j) (by omega)
              exact ⟨H.lt_cell hc, (H.free b _ hc hroB).1⟩) (n1.mem_one n3)
            rw [Nat.add_zero] at s2
            have hBL : Own G L.bl := by
              have hc := hOC o (by omega)
              simpa [adr] using (H.free b _ hc hroB).2
            refine ⟨_, w', .slice (some (adr L o)) (len + n) (cap + L.sp), ?_, H.exx _, ?_, H.regrow hb hL h0 hend hlenle (by omega) hin o3 n2 n3 n1 s2, s2.below hBL⟩
            · rw [run_append_room ht hu hd hi n4 (n5 w rfl).2 hin]
              simp only [adr_add]
              rw [s1]
              simp
            · have hvr : VR (upd ρ h.next ⟨L.bl, L.of + o, cap + L.sp - (len + n), if o = 0 then L.spot else none⟩) (.l h.next 0 (len + n) (len + n)) (.slice (some (adr ⟨L.bl, L.of + o, cap + L.sp - (len + n), if o = 0 then L.spot else none⟩ 0)) (len + n) (len + n + (cap + L.sp - (len + n)))) := .l _ _ _ _ _ (upd_same _ _ _)
              rw [show len + n + (cap + L.sp - (len + n)) = cap + L.sp from by omega] at hvr
              exact hvr
          · exact hnew _ _ _ old old' _ (H.kill (o := o) hb) rfl o5 o1 o2 hfo hin hroom hp.1.symm hp.2.symm

/-! ### Iterators -/

theorem range_ok (H : HR G ρ h w) {t : TypeId} {x : DV} {x' : Value} (ht : P.underlying t = some .string) (hx : VR ρ x x') (hp : pRange x h = some (v, h1)) : SemOk P G ρ w v h1 (Instr.range t x') := by
  unfold pRange at hp
  split at hp <;> (try (cases hp; done))
  simp only [Option.some.injEq, Prod.mk.injEq] at hp
  obtain ⟨rfl, rfl⟩ := hp
  cases hx with
  | s l bs hb =>
    refine ⟨_, w.alloc (.stringIter bs 0), .pointer (some ⟨w.heap.size, 0, none⟩), ?_, H.exx _, .p _ 0 ⟨w.heap.size, 0, 0, none⟩ (upd_same _ _ _), H.newIter _ bs hb, below_alloc H.sz _⟩
    simp only [Instr.range, Sem.run_bind, rU ht, Result.andThen_ok, Sem.run_pure, run_newObj]
    rfl

theorem next_ok (H : HR G ρ h w) {ty : TypeId} {x : DV} {x' : Value} (hx : VR ρ x x') (hp : pNext x h = some (v, h1)) : SemOk P G ρ w v h1 (Instr.next x' true ty) := by
  unfold pNext at hp
  split at hp <;> (try (cases hp; done))
  rename_i b
  split at hp <;> (try (cases hp; done))
  rename_i l pos hb
  cases hx with
  | p _ _ L hL =>
    obtain ⟨i1, i2, bs, i3, i4⟩ := H.itr b l pos L hb hL
    have ha : adr L 0 = ⟨L.bl, 0, none⟩ := by simp [adr, i2]
    have hlen : l.length = bs.size := by rw [← i4, List.length_map, Array.length_toList]; rfl
    have hget : (getObj L.bl).run P w = .ok (.stringIter bs pos) w := by simp [getObj, Sem.run, i3]
    rw [ha]
    split at hp
    · rename_i c hc
      split at hp <;> (try (cases hp; done))
      rename_i hc128
      simp only [Option.some.injEq, Prod.mk.injEq] at hp
      obtain ⟨rfl, rfl⟩ := hp
      have hlt : pos < bs.size := by
        rcases Nat.lt_or_ge pos l.length with h | h
        · omega
        · rw [List.getElem?_eq_none h] at hc; cases hc
      have hcb : c = (bs[pos]'hlt).toNat := by
        rw [← i4, List.getElem?_map, Array.getElem?_toList] at hc
        have hg : bs.data[pos]? = some (bs[pos]'hlt) := Array.getElem?_eq_some_iff.2 ⟨hlt, rfl⟩
        rw [hg] at hc
        simpa using hc.symm
      have hdec := decode_ascii bs pos hlt (by omega)
      obtain ⟨s1, s2⟩ := H.stepIter (pos1 := pos + 1) hb hL i3 i4
      refine ⟨ρ, _, .tuple #[.bool true, goInt pos, .int .i32 c], ?_, Ex.refl G ρ, ?_, s1, s2⟩
      · simp only [Instr.next, Sem.run_bind, hget, Result.andThen_ok]
        simp only [hlt, if_true, hdec, Sem.run_bind, Sem.run_pure]
        have hset : (setObj L.bl (.stringIter bs (pos + 1))).run P w = .ok () { w with heap := w.heap.setIfInBounds L.bl (.stringIter bs (pos + 1)) } := by simp [setObj, Sem.run, i3]
        rw [hset, hcb]
        rfl
      · exact .t _ _ (.cons _ _ _ _ (.b _) (.cons _ _ _ _ (.i _ _) (.cons _ _ _ _ (.i _ _) .nil)))
    · rename_i hc
      simp only [Option.some.injEq, Prod.mk.injEq] at hp
      obtain ⟨rfl, rfl⟩ := hp
      have hge : ¬ pos < bs.size := by
        intro hlt
        rw [List.getElem?_eq_none_iff] at hc
        omega
      refine SemOk.pure H (.t [.b false] #[.bool false] (.cons _ _ _ _ (.b _) .nil)) ?_
      simp only [Instr.next, Sem.run_bind, hget, Result.andThen_ok]
      simp [hge]

end
end Go.Dd
