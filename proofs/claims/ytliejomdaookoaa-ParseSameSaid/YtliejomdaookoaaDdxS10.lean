/- Dd, part S10: what is handed in, as rows of a heap of Dd that are only read: nodes. -/
import Derived.Test.YtliejomdaookoaaDdxS9
import Derived.ChangeArms
set_option linter.unusedVariables false
set_option linter.unusedSimpArgs false
set_option maxRecDepth 100000
namespace Go.Dd
open Go.Proofs Go.RowKit

/-- A heap of rows that are only read. -/
structure Ro (w : World) (ρ : Ren) (h : Hp) : Prop where
  dom : ∀ b o, h.bl.get b = some o → ∃ L, ρ b = some L
  lt : ∀ b L, ρ b = some L → b.toNat < h.next.toNat
  row : ∀ b o, h.bl.get b = some o → ∃ l, o = .row .ro l
  cell : ∀ b l L i v, h.bl.get b = some (.row .ro l) → ρ b = some L → l[i]? = some v → ∃ v', w.cell? (adr L i) = some v' ∧ VR ρ v v'
  sp : ∀ b o L, h.bl.get b = some o → ρ b = some L → L.sp = 0

theorem Ro.wf {w : World} {ρ : Ren} {h : Hp} (R : Ro w ρ h) : Wf h := fun b o e => by
  obtain ⟨L, hL⟩ := R.dom b o e
  exact R.lt b L hL

theorem Ro.isRo {w : World} {ρ : Ren} {h : Hp} (R : Ro w ρ h) {b : Pos} {a : Addr} (c : Claims ρ h b a) : isRo h b := by
  obtain ⟨k, l, L, h1, h2, _⟩ := c
  obtain ⟨l', e⟩ := R.row b _ h1
  exact ⟨l', by rw [h1, e]⟩

theorem Ro.hr {w : World} {ρ : Ren} {h : Hp} (R : Ro w ρ h) : HR ⟨w.heap.size, fun _ => False, 0⟩ ρ h w where
  sz := ⟨Nat.le_refl _, fun _ hh => hh.elim⟩
  nx := Nat.zero_le _
  ro := fun b a c _ => by
    obtain ⟨k, l, L, h1, h2, h3⟩ := c
    obtain ⟨l', e⟩ := R.row b _ h1
    cases e
    rcases h3 with ⟨i, v, h4, h5, rfl⟩ | ⟨es, j, h4, _⟩
    · obtain ⟨v', h6, _⟩ := R.cell b _ L i v h1 h2 h4
      exact cell_lt h6
    · cases h4
  dom := R.dom
  lt := R.lt
  cell := fun b k l L i v h1 h2 h3 h4 => by
    obtain ⟨l', e⟩ := R.row b _ h1
    cases e
    exact R.cell b _ L i v h1 h2 h3
  spare := fun b l L es j h1 => by
    obtain ⟨l', e⟩ := R.row b _ h1
    cases e
  free := fun b a c hn => absurd (R.isRo c) hn
  inj := fun b b' a c c' hn => absurd (R.isRo c) hn
  ex := fun b l L h1 h2 => by
    rcases h1 with h1 | h1
    · exact R.sp b _ L h1 h2
    · exact R.sp b _ L h1 h2
  grone := fun b es l i v h1 => by
    obtain ⟨l', e⟩ := R.row b _ h1
    cases e
  itr := fun b s pos L h1 => by
    obtain ⟨l', e⟩ := R.row b _ h1
    cases e
  itj := fun b s pos b' s' pos' L L' h1 => by
    obtain ⟨l', e⟩ := R.row b _ h1
    cases e

theorem Ro.none (w : World) : Ro w (fun _ => none) h00 where
  dom := fun b o h => by cases b <;> cases h
  lt := fun b L h => by cases h
  row := fun b o h => by cases b <;> cases h
  cell := fun b l L i v h => by cases b <;> cases h
  sp := fun b o L h => by cases b <;> cases h

theorem Ro.add {w : World} {ρ : Ren} {h : Hp} (R : Ro w ρ h) (L : Loc) (l : List DV) (hsp : L.sp = 0)
    (hc : ∀ (i : Nat) v, l[i]? = some v → ∃ v', w.cell? (adr L i) = some v' ∧ VR ρ v v') :
    Ro w (upd ρ h.next L) (nw (.row .ro l) h) ∧ Ext ρ (upd ρ h.next L) := by
  have fresh : ρ h.next = Option.none := by
    cases e : ρ h.next with
    | none => rfl
    | some L' => exact absurd (R.lt _ _ e) (Nat.lt_irrefl _)
  have ext : Ext ρ (upd ρ h.next L) := fun b L' e => by
    have hb : b ≠ h.next := fun e2 => by rw [e2, fresh] at e; cases e
    rw [upd_other _ _ hb]; exact e
  refine ⟨?_, ext⟩
  have get : ∀ b o, (nw (.row .ro l) h).bl.get b = some o → (b = h.next ∧ o = .row .ro l) ∨ (b ≠ h.next ∧ h.bl.get b = some o) := fun b o e => by
    by_cases hb : b = h.next
    · subst hb
      rw [nw_get] at e
      cases e
      exact .inl ⟨rfl, rfl⟩
    · refine .inr ⟨hb, ?_⟩
      rw [← Tr.get_set_other (.row .ro l) h.next b h.bl hb]
      exact e
  constructor
  · intro b o e
    rcases get b o e with ⟨rfl, _⟩ | ⟨hb, e2⟩
    · exact ⟨L, upd_same _ _ _⟩
    · rw [upd_other _ _ hb]; exact R.dom b o e2
  · intro b L' e
    show b.toNat < h.next.succ.toNat
    rw [Pos.toNat_succ]
    by_cases hb : b = h.next
    · rw [hb]; omega
    · rw [upd_other _ _ hb] at e
      have := R.lt b L' e
      omega
  · intro b o e
    rcases get b o e with ⟨rfl, rfl⟩ | ⟨hb, e2⟩
    · exact ⟨l, rfl⟩
    · exact R.row b o e2
  · intro b l' L' i v e e2 e3
    rcases get b _ e with ⟨rfl, e4⟩ | ⟨hb, e4⟩
    · cases e4
      rw [upd_same] at e2
      cases e2
      obtain ⟨v', h1, h2⟩ := hc i v e3
      exact ⟨v', h1, h2.mono ext⟩
    · rw [upd_other _ _ hb] at e2
      obtain ⟨v', h1, h2⟩ := R.cell b l' L' i v e4 e2 e3
      exact ⟨v', h1, h2.mono ext⟩
  · intro b o L' e e2
    rcases get b _ e with ⟨rfl, e4⟩ | ⟨hb, e4⟩
    · rw [upd_same] at e2
      cases e2
      exact hsp
    · rw [upd_other _ _ hb] at e2
      exact R.sp b o L' e4 e2

theorem cells_get {w : World} {base n : Nat} {a : Addr} {cs : List Value} (h : w.cells? base a n = some cs) : cs.length = n ∧ ∀ j, j < n → w.cell? (a.add j) = cs[j]? := by
  unfold World.cells? at h
  split at h
  · exact ⟨by simpa using mapM_some_length h, fun j hj => mapM_some_get h j j (by simp [hj])⟩
  · cases h

section
variable {H : Type} {enc : TypeId × Value → H} {w : World}

theorem one_cell {t : TypeId} {d : TypeDesc} (v : Value) : (Value.cells v).toList = [v] → True := fun _ => trivial

/-- A slice of strings. -/
theorem open_strs {n : Nat} {v : Value} {x : DataW H × List MemPlace} (hx : DataW.trod enc Try.prog w 0 (fun _ => true) true n 22 [v] = some x) {ρ : Ren} {h : Hp} (R : Ro w ρ h) :
    ∃ ρ' h' s l, Ro w ρ' h' ∧ Ge h h' ∧ Ext ρ ρ' ∧ VR ρ' s v ∧ SL h' s l := by
  rcases DataW.trod_slice Try.underlying22 hx with ⟨h1, _⟩ | ⟨a, len, cap, elems, rest, m, _, h1, _, _, h4, h5, h6, h7, _⟩
  · cases h1
    exact ⟨ρ, h, .l0, [], R, Ge.refl _, fun _ _ e => e, .l0, by simp, .inl ⟨rfl, rfl⟩⟩
  · cases h1
    have hc : Try.prog.cellsOf 9 = 1 := by kernel_rfl
    rw [hc] at h7
    let L : Loc := ⟨a.block, a.off, 0, a.spot⟩
    have ha : a = adr L 0 := rfl
    have hcell : ∀ i, i < len → ∃ bs : ByteArray, w.cell? (adr L i) = some (.string bs) := by
      intro i hi
      have e := h7 i hi
      rw [show elems[i]? = some elems[i] by simp [h6, hi]] at e
      simp only [Option.bind_eq_some_iff] at e
      obtain ⟨cs, e1, e2⟩ := e
      obtain ⟨c1, c2⟩ := cells_get e1
      obtain ⟨bs, rfl, _⟩ := DataW.trod_string Try.underlying9 e2
      have := c2 0 (by omega)
      rw [ha, adr_add, adr_add] at this
      refine ⟨bs, ?_⟩
      simpa using this
    let g : Nat → List Nat := fun i => match w.cell? (adr L i) with
      | some (.string bs) => bs.data.toList.map (·.toNat)
      | _ => []
    have hg : ∀ i, i < len → ∃ v', w.cell? (adr L i) = some v' ∧ VR ρ (.s (g i)) v' := by
      intro i hi
      obtain ⟨bs, e⟩ := hcell i hi
      refine ⟨_, e, ?_⟩
      simp only [g, e]
      exact .s _ bs rfl
    obtain ⟨R', ext⟩ := R.add L ((List.range len).map fun i => DV.s (g i)) rfl (fun i v hv => by
      simp only [List.getElem?_map, Option.map_eq_some_iff] at hv
      obtain ⟨j, hj, rfl⟩ := hv
      obtain ⟨hj1, hj2⟩ := List.getElem?_eq_some_iff.1 hj
      simp at hj1 hj2
      subst hj2
      exact hg i hj1)
    refine ⟨_, _, .l h.next 0 len cap, (List.range len).map g, R', nw_ge R.wf _, ext, ?_, ?_, .inr ⟨h.next, cap, .ro, _, ?_, nw_get h _, ?_⟩⟩
    · exact .l h.next 0 len cap L (upd_same _ _ _)
    · simp
      have : maxLen = 9223372036854775807 := by rfl
      omega
    · simp
    · intro i y hy
      simp only [List.getElem?_map, Option.map_eq_some_iff] at hy ⊢
      obtain ⟨j, hj, rfl⟩ := hy
      exact ⟨j, hj, rfl⟩

theorem flat_drop : ∀ (rows : List (List DV)) (i : Nat) (x : List DV), (∀ r ∈ rows, r.length = 6) → rows[i]? = some x → ∃ rest, rows.flatten.drop (i * 6) = x ++ rest
  | [], i, x, _, h => by simp at h
  | r :: rows, 0, x, hl, h => by
    simp at h
    subst h
    exact ⟨rows.flatten, by simp⟩
  | r :: rows, i + 1, x, hl, h => by
    simp at h
    obtain ⟨rest, e⟩ := flat_drop rows i x (fun r hr => hl r (by simp [hr])) h
    refine ⟨rest, ?_⟩
    have : (i + 1) * 6 = r.length + i * 6 := by rw [hl r (by simp)]; omega
    rw [List.flatten_cons, this, ← List.drop_drop, List.drop_left]
    exact e

theorem flat_get : ∀ (rows : List (List DV)) (q : Nat) (v : DV), (∀ r ∈ rows, r.length = 6) → rows.flatten[q]? = some v → ∃ i j x, rows[i]? = some x ∧ x[j]? = some v ∧ q = i * 6 + j
  | [], q, v, _, h => by simp at h
  | r :: rows, q, v, hl, h => by
    have h6 := hl r (by simp)
    by_cases hq : q < 6
    · rw [List.flatten_cons, List.getElem?_append_left (by omega)] at h
      exact ⟨0, q, r, rfl, h, by omega⟩
    · rw [List.flatten_cons, List.getElem?_append_right (by omega)] at h
      obtain ⟨i, j, x, h1, h2, h3⟩ := flat_get rows (q - r.length) v (fun r hr => hl r (by simp [hr])) h
      exact ⟨i + 1, j, x, by simpa using h1, h2, by omega⟩

theorem takeD_app (x rest : List DV) (ho : ∀ v ∈ x, v.one = true) : takeD x.length (x ++ rest) = some x := by
  induction x with
  | nil => simp [takeD]
  | cons y x ih => simp [takeD, ho y (by simp), ih (fun v hv => ho v (by simp [hv]))]

/-- A node that is handed in. -/
theorem open_node : ∀ (n : Nat) (cs : List Value) (x : DataW H × List MemPlace), DataW.trod enc Try.prog w 0 (fun _ => true) true n 25 cs = some x → ∀ {ρ : Ren} {h : Hp}, Ro w ρ h →
    ∃ ρ' h' ds, Ro w ρ' h' ∧ Ge h h' ∧ Ext ρ ρ' ∧ VRs ρ' ds cs ∧ ND h' n ds
  | 0, cs, x, hx, ρ, h, R => by simp [DataW.trod] at hx
  | n + 1, cs, x, hx, ρ, h, R => by
    obtain ⟨xs, m, e0, _, hl, hxl, hf⟩ := DataW.trod_struct Try.underlying25 hx
    cases e0
    have hc : Try.prog.cellsOf 25 = 6 := by kernel_rfl
    have hc3 : Try.prog.cellsOf 3 = 1 := by kernel_rfl
    have hc9 : Try.prog.cellsOf 9 = 1 := by kernel_rfl
    have hc22 : Try.prog.cellsOf 22 = 1 := by kernel_rfl
    have hc23 : Try.prog.cellsOf 23 = 1 := by kernel_rfl
    rw [hc] at hl
    obtain ⟨v0, v1, v2, v3, v4, v5, rfl⟩ : ∃ v0 v1 v2 v3 v4 v5, cs = [v0, v1, v2, v3, v4, v5] := by
      match cs, hl with
      | [v0, v1, v2, v3, v4, v5], _ => exact ⟨_, _, _, _, _, _, rfl⟩
    have some : ∀ i, i < 6 → ∃ y, xs[i]? = some y := fun i hi => ⟨xs[i]'(by rw [hxl]; exact hi), by simp⟩
    obtain ⟨y0, g0⟩ := some 0 (by omega)
    obtain ⟨y1, g1⟩ := some 1 (by omega)
    obtain ⟨y2, g2⟩ := some 2 (by omega)
    obtain ⟨y3, g3⟩ := some 3 (by omega)
    obtain ⟨y4, g4⟩ := some 4 (by omega)
    obtain ⟨y5, g5⟩ := some 5 (by omega)
    have f0 := hf 0 _ rfl
    have f1 := hf 1 _ rfl
    have f2 := hf 2 _ rfl
    have f3 := hf 3 _ rfl
    have f4 := hf 4 _ rfl
    have f5 := hf 5 _ rfl
    simp only [hc3, hc9, hc22, hc23, List.drop_zero, List.drop_succ_cons, List.take_succ_cons, List.take_zero, g0, g1, g2, g3, g4, g5] at f0 f1 f2 f3 f4 f5
    obtain ⟨k, e0, _⟩ := DataW.trod_int Try.underlying3 f0
    obtain ⟨t, e1, _⟩ := DataW.trod_string Try.underlying9 f1
    obtain ⟨mm, e2, _⟩ := DataW.trod_int Try.underlying3 f2
    cases e0; cases e1; cases e2
    obtain ⟨ρ1, h1, s1, l1, R1, G1, E1, V1, S1⟩ := open_strs f3 R
    obtain ⟨ρ2, h2, s2, l2, R2, G2, E2, V2, S2⟩ := open_strs f4 R1
    have fin : ∀ ρ3 h3 s3 ks, Ro w ρ3 h3 → Ge h2 h3 → Ext ρ2 ρ3 → VR ρ3 s3 v5 → KL h3 s3 ks → (∀ u ∈ ks, ND h3 n u) →
        ∃ ρ' h' ds, Ro w ρ' h' ∧ Ge h h' ∧ Ext ρ ρ' ∧ VRs ρ' ds [.int .i64 k, .string t, .int .i64 mm, v3, v4, v5] ∧ ND h' (n + 1) ds := by
      intro ρ3 h3 s3 ks R3 G3 E3 V3 K3 N3
      refine ⟨ρ3, h3, [.i .i64 k, .s (t.data.toList.map (·.toNat)), .i .i64 mm, s1, s2, s3], R3, (G1.trans G2).trans G3, (E1.trans E2).trans E3, ?_,
        k, _, mm, s1, s2, s3, l1, l2, ks, rfl, (S1.mono G2).mono G3, S2.mono G3, K3, N3⟩
      exact .cons _ _ _ _ (.i _ _) (.cons _ _ _ _ (.s _ t rfl) (.cons _ _ _ _ (.i _ _) (.cons _ _ _ _ ((V1.mono E2).mono E3) (.cons _ _ _ _ (V2.mono E3) (.cons _ _ _ _ V3 .nil)))))
    rcases DataW.trod_slice Try.underlying23 f5 with ⟨e5, _⟩ | ⟨a, len, cap, elems, rest, m', em, e5, _, _, q4, q5, q6, q7, _⟩
    · cases e5
      exact fin ρ2 h2 .l0 [] R2 (Ge.refl _) (fun _ _ e => e) .l0 ⟨by simp, .inl ⟨rfl, rfl⟩⟩ (fun u hu => by simp at hu)
    · cases e5
      rw [hc] at q7
      let L : Loc := ⟨a.block, a.off, 0, a.spot⟩
      have ha : a = adr L 0 := rfl
      have mono : ∀ (p q : Nat) (hp : Hp) (u : List DV), p ≤ q → ND hp p u → ND hp q u := by
        intro p
        induction p with
        | zero => intro q hp u _ hh; exact hh.elim
        | succ p ih =>
          intro q hp u hq hh
          obtain ⟨q, rfl⟩ : ∃ r, q = r + 1 := ⟨q - 1, by omega⟩
          obtain ⟨k, t, m, s1, s2, s3, l1, l2, ks, e, a, b, c, f⟩ := hh
          exact ⟨k, t, m, s1, s2, s3, l1, l2, ks, e, a, b, c, fun y hy => ih q hp y (by omega) (f y hy)⟩
      have pre : ∀ c, c ≤ len → ∃ (ρ3 : Ren) (h3 : Hp) (rows : List (List DV)), Ro w ρ3 h3 ∧ Ge h2 h3 ∧ Ext ρ2 ρ3 ∧ rows.length = c ∧ (∀ u ∈ rows, ND h3 n u) ∧
          ∀ (i j : Nat) u v, rows[i]? = Option.some u → u[j]? = Option.some v → ∃ v', w.cell? (adr L (i * 6 + j)) = Option.some v' ∧ VR ρ3 v v' := by
        intro c
        induction c with
        | zero => intro _; exact ⟨ρ2, h2, [], R2, Ge.refl _, fun _ _ e => e, rfl, fun u hu => by simp at hu, fun i j u v hu => by simp at hu⟩
        | succ c ih =>
          intro hcl
          obtain ⟨ρ3, h3, rows, R3, G3, E3, l3, N3, C3⟩ := ih (by omega)
          have e := q7 c (by omega)
          rw [show elems[c]? = Option.some (elems[c]'(by omega)) by simp] at e
          simp only [Option.bind_eq_some_iff] at e
          obtain ⟨cs, e1, e2⟩ := e
          obtain ⟨c1, c2⟩ := cells_get e1
          cases em
          obtain ⟨ρ4, h4, ds, R4, G4, E4, V4, N4⟩ := open_node m' cs _ e2 R3
          refine ⟨ρ4, h4, rows ++ [ds], R4, G3.trans G4, E3.trans E4, by simp [l3], ?_, ?_⟩
          · intro u hu
            rcases List.mem_append.1 hu with hu | hu
            · exact ND.mono G4 _ _ (N3 u hu)
            · simp at hu
              subst hu
              exact mono _ _ _ _ (by omega) N4
          · intro i j u v hu hv
            by_cases hi : i < rows.length
            · rw [List.getElem?_append_left hi] at hu
              obtain ⟨v', h5, h6⟩ := C3 i j u v hu hv
              exact ⟨v', h5, h6.mono E4⟩
            · rw [List.getElem?_append_right (by omega)] at hu
              have hi' : i - rows.length = 0 := by
                cases hk : i - rows.length with
                | zero => rfl
                | succ k => rw [hk] at hu; simp at hu
              rw [hi'] at hu
              simp at hu
              subst hu
              obtain ⟨v', h5, h6⟩ := V4.get j v hv
              refine ⟨v', ?_, h6⟩
              have hj : j < 6 := by
                have := V4.length
                have h7 := (List.getElem?_eq_some_iff.1 hv).1
                omega
              have := c2 j hj
              rw [ha, adr_add, adr_add] at this
              rw [show i * 6 + j = 0 + c * 6 + j by omega, this]
              exact h5
      obtain ⟨ρ3, h3, rows, R3, G3, E3, l3, N3, C3⟩ := pre len (Nat.le_refl _)
      have l6 : ∀ r ∈ rows, r.length = 6 := fun r hr => (N3 r hr).shape.1
      obtain ⟨R4, E4⟩ := R3.add L rows.flatten rfl (fun q v hq => by
        obtain ⟨i, j, u, g1, g2, rfl⟩ := flat_get rows q v l6 hq
        exact C3 i j u v g1 g2)
      have G4 := nw_ge R3.wf (.row .ro rows.flatten)
      refine fin _ _ (.l h3.next 0 len cap) rows R4 (G3.trans G4) (E3.trans E4) (.l h3.next 0 len cap L (upd_same _ _ _)) ⟨?_, .inr ⟨h3.next, cap, .ro, _, by rw [l3], nw_get h3 _, ?_⟩⟩ (fun u hu => ND.mono G4 _ _ (N3 u hu))
      · have : maxLen = 9223372036854775807 := by rfl
        omega
      · intro i u hu
        obtain ⟨rest, e⟩ := flat_drop rows i u l6 hu
        have hm := List.mem_of_getElem? hu
        have := takeD_app u rest (N3 u hm).shape.2
        rw [l6 u hm] at this
        rw [e]
        exact this

end
end Go.Dd
