/- Dd, part H: the operations of Dd are the model's (slices, fields, append, iterators). -/
import Derived.Test.YtliejomdaookoaaDdxG
import Derived.Laws.Slices
set_option linter.unusedSimpArgs false
set_option linter.constructorNameAsVariable false
set_option linter.unusedVariables false
namespace Go.Dd
open Go.RowKit (Below)

section
variable {P : Program} {G : Gd} {ρ : Ren} {w : World} {h h1 : Hp} {v : DV}

theorem convI_ok (H : HR G ρ h w) {src dst : TypeId} {d : TypeDesc} {k : IntKind} {x : DV} {x' : Value} (hs : P.underlying src = some d) (hd : P.underlying dst = some (.int k)) (hx : VR ρ x x') (hp : pConvI k x h = some (v, h1)) :
    SemOk P G ρ w v h1 (convert src dst x') := by
  unfold pConvI at hp
  split at hp <;> (try (cases hp; done))
  simp only [Option.some.injEq, Prod.mk.injEq] at hp
  obtain ⟨rfl, rfl⟩ := hp
  cases hx
  refine SemOk.pure H (by constructor) ?_
  simp only [convert, Sem.run_bind, rU hs, rU hd, Result.andThen_ok]
  simp [Conv.intToInt]

theorem convS_ok (H : HR G ρ h w) {src dst : TypeId} {x : DV} {x' : Value} (hs : P.underlying src = some .string) (hd : P.underlying dst = some .string) (hx : VR ρ x x') (hp : pConvS x h = some (v, h1)) :
    SemOk P G ρ w v h1 (convert src dst x') := by
  unfold pConvS at hp
  split at hp <;> (try (cases hp; done))
  simp only [Option.some.injEq, Prod.mk.injEq] at hp
  obtain ⟨rfl, rfl⟩ := hp
  cases hx with
  | s _ bs hb =>
  refine SemOk.pure H (.s _ bs hb) ?_
  simp only [convert, Sem.run_bind, rU hs, rU hd, Result.andThen_ok]
  simp

/-! ### Slices -/

theorem natIn_ok {x : DV} {x' : Value} {y n y' : Nat} {code : BoundsCode} (hx : VR ρ x x') (hn : natIn x y = some n) (hy : y ≤ y') : (Instr.sliceBound x' y' code).run P w = .ok n w ∧ n ≤ y := by
  unfold natIn at hn
  split at hn <;> (try (cases hn; done))
  split at hn <;> (try (cases hn; done))
  rename_i i hi
  simp only [Option.some.injEq] at hn
  subst hn
  cases hx
  refine ⟨?_, by omega⟩
  simp only [Instr.sliceBound, asIntOf, Sem.run_bind, Sem.run_pure, Result.andThen_ok]
  rw [if_pos (by omega)]
  simp

inductive OR (ρ : Ren) : Option DV → Option Value → Prop
  | none : OR ρ none none
  | some (x : DV) (x' : Value) (h : VR ρ x x') : OR ρ (some x) (some x')

theorem bounds_ok {isS : Bool} {len cap cap' e s : Nat} {lo hi : Option DV} {lo' hi' : Option Value} (hl : OR ρ lo lo') (hh : OR ρ hi hi') (hc : cap ≤ cap') (h1 : hiD hi len cap = some e) (h2 : loD lo e = some s) :
    (Instr.sliceBounds isS len cap' lo' hi' none).run P w = .ok (s, e, cap') w ∧ s ≤ e ∧ e ≤ cap := by
  unfold Instr.sliceBounds
  cases hh with
  | none =>
    simp only [hiD] at h1
    split at h1 <;> (try (cases h1; done))
    rename_i hle
    simp only [Option.some.injEq] at h1
    subst h1
    cases hl with
    | none => simp only [loD, Option.some.injEq] at h2; subst h2; simp [hle]
    | some x x' hx =>
      obtain ⟨h3, h4⟩ := natIn_ok (P := P) (w := w) (code := if (none : Option Value).isSome then .slice3C else .sliceB) hx h2 (Nat.le_refl _)
      refine ⟨?_, h4, hle⟩
      simp only [Sem.run_bind, Sem.run_pure, Result.andThen_ok, h3]
  | some y y' hy =>
    simp only [hiD] at h1
    obtain ⟨h5, h6⟩ := natIn_ok (P := P) (w := w) (code := if isS then .sliceAcap else .sliceAlen) hy h1 hc
    cases hl with
    | none =>
      simp only [loD, Option.some.injEq] at h2; subst h2
      refine ⟨?_, Nat.zero_le _, h6⟩
      simp only [Sem.run_bind, Sem.run_pure, Result.andThen_ok, h5]
    | some x x' hx =>
      obtain ⟨h3, h4⟩ := natIn_ok (P := P) (w := w) (code := if (none : Option Value).isSome then .slice3C else .sliceB) hx h2 (Nat.le_refl _)
      refine ⟨?_, h4, h6⟩
      simp only [Sem.run_bind, Sem.run_pure, Result.andThen_ok, h5, h3]

theorem sliceS_ok (H : HR G ρ h w) {t : TypeId} {x : DV} {x' : Value} {lo hi : Option DV} {lo' hi' : Option Value} (ht : P.underlying t = some .string) (hx : VR ρ x x') (hl : OR ρ lo lo') (hh : OR ρ hi hi') (hp : pSliceS x lo hi h = some (v, h1)) :
    SemOk P G ρ w v h1 (Instr.sliceAt t x' lo' hi' none) := by
  unfold pSliceS at hp
  split at hp <;> (try (cases hp; done))
  rename_i l
  split at hp <;> (try (cases hp; done))
  rename_i e he
  split at hp <;> (try (cases hp; done))
  rename_i s hs
  simp only [Option.some.injEq, Prod.mk.injEq] at hp
  obtain ⟨rfl, rfl⟩ := hp
  cases hx with
  | s _ bs hb =>
    have hlen : l.length = bs.size := by rw [← hb, List.length_map, Array.length_toList]; rfl
    rw [hlen] at he
    obtain ⟨h3, h4, h5⟩ := bounds_ok (P := P) (w := w) (isS := false) hl hh (Nat.le_refl _) he hs
    refine SemOk.pure H (.s _ (bs.extract s e) ?_) ?_
    · subst hb
      simp [List.map_drop, List.map_take, List.drop_take]
    · simp only [Instr.sliceAt, Sem.run_bind, rU ht, Result.andThen_ok, Instr.slice]
      simp only [Option.isSome_none, Bool.false_eq_true, if_false, Sem.run_bind, Sem.run_pure, Result.andThen_ok, h3]

theorem slice_ok (H : HR G ρ h w) {t e : TypeId} {i : TypeInfo} {x : DV} {x' : Value} {lo hi : Option DV} {lo' hi' : Option Value} (ht : P.underlying t = some (.slice e)) (hi0 : P.info? e = some i) (hx : VR ρ x x') (hl : OR ρ lo lo') (hh : OR ρ hi hi')
    (hp : pSlice i.size x lo hi h = some (v, h1)) : SemOk P G ρ w v h1 (Instr.sliceAt t x' lo' hi' none) := by
  unfold pSlice at hp
  split at hp <;> (try (cases hp; done))
  · rename_i b o len cap
    split at hp <;> (try (cases hp; done))
    rename_i en he
    split at hp <;> (try (cases hp; done))
    rename_i s hs
    cases hx with
    | l _ _ _ _ L hL =>
      obtain ⟨h3, h4, h5⟩ := bounds_ok (P := P) (w := w) (isS := true) (cap' := cap + L.sp) hl hh (Nat.le_add_right _ _) he hs
      have hrun : (Instr.sliceAt t (.slice (some (adr L o)) len (cap + L.sp)) lo' hi' none).run P w = .ok (.slice (if cap + L.sp = s then some (adr L o) else (some (adr L o)).map (·.add (s * i.size))) (en - s) (cap + L.sp - s)) w := by
        simp only [Instr.sliceAt, Sem.run_bind, rU ht, Result.andThen_ok, Instr.slice, h3, rS hi0, Sem.run_pure]
      have hold : ∀ k l0, h.bl.get b = some (.row k l0) → L.sp = 0 → (some ((DV.l b (if cap = s then o else o + s * i.size) (en - s) (cap - s)), h) = some (v, h1)) → SemOk P G ρ w v h1 (Instr.sliceAt t (.slice (some (adr L o)) len (cap + L.sp)) lo' hi' none) := by
        intro k l0 hb hsp hp
        simp only [Option.some.injEq, Prod.mk.injEq] at hp
        obtain ⟨rfl, rfl⟩ := hp
        refine SemOk.pure H (.l b _ _ _ L hL) (hrun.trans ?_)
        rw [hsp]
        simp only [Nat.add_zero]
        split <;> simp [adr_add]
      split at hp <;> (try (cases hp; done))
      · rename_i l0 hb; exact hold _ _ hb (H.ex b l0 L (.inl hb) hL) hp
      · rename_i l0 hb; exact hold _ _ hb (H.ex b l0 L (.inr hb) hL) hp
      · rename_i k l0 _ _ hb
        split at hp
        · rename_i hcs
          simp only [Option.some.injEq, Prod.mk.injEq] at hp
          obtain ⟨rfl, rfl⟩ := hp
          by_cases hsp : L.sp = 0
          · refine ⟨_, w, _, hrun, H.exx ⟨L.bl, L.of + o, 0, (adr L o).spot⟩, ?_, H.newEmpty .sp _ (.inr rfl), Kp.refl G w⟩
            rw [if_pos (by omega), show en - s = 0 from by omega, show cap + L.sp - s = 0 + 0 from by omega]
            exact .l _ 0 0 0 ⟨L.bl, L.of + o, 0, (adr L o).spot⟩ (upd_same _ _ _)
          · refine ⟨_, w, _, hrun, H.exx ⟨L.bl, L.of + (o + s * i.size), L.sp, (adr L (o + s * i.size)).spot⟩, ?_, H.newEmpty .sp _ (.inr rfl), Kp.refl G w⟩
            rw [if_neg (by omega), show en - s = 0 from by omega, show cap + L.sp - s = 0 + L.sp from by omega]
            simp only [Option.map_some, adr_add]
            exact .l _ 0 0 0 ⟨L.bl, L.of + (o + s * i.size), L.sp, (adr L (o + s * i.size)).spot⟩ (upd_same _ _ _)
        · rename_i hcs
          simp only [Option.some.injEq, Prod.mk.injEq] at hp
          obtain ⟨rfl, rfl⟩ := hp
          refine SemOk.pure H (.l b _ _ _ L hL) (hrun.trans ?_)
          rw [if_neg (by omega), show cap + L.sp - s = cap - s + L.sp from by omega]
          simp [adr_add]
  · split at hp <;> (try (cases hp; done))
    rename_i en he
    split at hp <;> (try (cases hp; done))
    rename_i s hs
    simp only [Option.some.injEq, Prod.mk.injEq] at hp
    obtain ⟨rfl, rfl⟩ := hp
    cases hx
    obtain ⟨h3, h4, h5⟩ := bounds_ok (P := P) (w := w) (isS := true) hl hh (Nat.le_refl _) he hs
    obtain rfl : en = 0 := by omega
    obtain rfl : s = 0 := by omega
    refine SemOk.pure H .l0 ?_
    simp only [Instr.sliceAt, Sem.run_bind, rU ht, Result.andThen_ok, Instr.slice, h3, rS hi0, Sem.run_pure]
    simp

theorem slice3_ok (H : HR G ρ h w) {t e : TypeId} {i : TypeInfo} {x hi mx : DV} {x' hi' mx' : Value} {lo : Option DV} {lo' : Option Value} (ht : P.underlying t = some (.slice e)) (hi0 : P.info? e = some i) (hx : VR ρ x x') (hl : OR ρ lo lo') (hh : VR ρ hi hi') (hm : VR ρ mx mx')
    (hp : pSlice3 x lo hi mx h = some (v, h1)) : SemOk P G ρ w v h1 (Instr.sliceAt t x' lo' (some hi') (some mx')) := by
  unfold pSlice3 at hp
  split at hp <;> (try (cases hp; done))
  · rename_i b o len cap n1 n2 e1 e2
    split at hp
    · rename_i k l0 hb
      simp only [Option.some.injEq, Prod.mk.injEq] at hp
      obtain ⟨rfl, rfl⟩ := hp
      cases hx with
      | l _ _ _ _ L hL =>
        cases hl
        obtain ⟨h3, h4⟩ := natIn_ok (P := P) (w := w) (y' := cap + L.sp) (code := .slice3Acap) hm e1 (Nat.zero_le _)
        obtain ⟨h5, h6⟩ := natIn_ok (P := P) (w := w) (y' := n1) (code := .slice3B) hh e2 (Nat.zero_le _)
        obtain rfl : n1 = 0 := by omega
        obtain rfl : n2 = 0 := by omega
        refine ⟨_, w, .slice (some (adr L o)) 0 0, ?_, H.exx ⟨L.bl, L.of + o, 0, (adr L o).spot⟩, .l _ 0 0 0 ⟨L.bl, L.of + o, 0, (adr L o).spot⟩ (upd_same _ _ _), H.newEmpty .ex _ (.inl ⟨rfl, rfl⟩), Kp.refl G w⟩
        simp only [Instr.sliceAt, Sem.run_bind, rU ht, Result.andThen_ok, Instr.slice, Instr.sliceBounds, h3, h5, rS hi0, Sem.run_pure, if_true]
    · split at hp <;> cases hp
  · rename_i n1 n2 e1 e2
    simp only [Option.some.injEq, Prod.mk.injEq] at hp
    obtain ⟨rfl, rfl⟩ := hp
    cases hx
    cases hl
    obtain ⟨h3, h4⟩ := natIn_ok (P := P) (w := w) (y' := 0) (code := .slice3Acap) hm e1 (Nat.zero_le _)
    obtain ⟨h5, h6⟩ := natIn_ok (P := P) (w := w) (y' := n1) (code := .slice3B) hh e2 (Nat.zero_le _)
    obtain rfl : n1 = 0 := by omega
    obtain rfl : n2 = 0 := by omega
    refine SemOk.pure H .l0 ?_
    simp only [Instr.sliceAt, Sem.run_bind, rU ht, Result.andThen_ok, Instr.slice, Instr.sliceBounds, h3, h5, rS hi0, Sem.run_pure, if_true]

/-! ### Fields and elements -/

theorem field_ok (H : HR G ρ h w) {t : TypeId} {fs : Array Field} {f : Nat} {fl : Field} {i : TypeInfo} {x : DV} {x' : Value} (ht : P.underlying t = some (.struct fs)) (hf : fs[f]? = some fl) (hi : P.info? fl.type = some i) (h0 : i.size ≠ 0) (hx : VR ρ x x')
    (hp : pField fl.offset x h = some (v, h1)) : SemOk P G ρ w v h1 (Instr.fieldAt t x' f) := by
  unfold pField at hp
  split at hp <;> (try (cases hp; done))
  simp only [Option.some.injEq, Prod.mk.injEq] at hp
  obtain ⟨rfl, rfl⟩ := hp
  cases hx with
  | p b o L hL =>
    refine SemOk.pure H (.p _ _ L hL) ?_
    simp only [Instr.fieldAt, Sem.run_bind, rU ht, Result.andThen_ok, hf, Instr.sureAddr, Sem.run_pure, fieldPlace, rS hi]
    rw [if_neg h0]
    simp [adr_add]

theorem part1_ok (H : HR G ρ h w) {t : TypeId} {fs : Array Field} {f : Nat} {fl : Field} {d : TypeDesc} {x : DV} {x' : Value} (ht : P.underlying t = some (.struct fs)) (hf : fs[f]? = some fl) (hd : P.underlying fl.type = some d) (ha : isAgD d = false) (hx : VR ρ x x')
    (hp : pPart1 fl.offset x h = some (v, h1)) : SemOk P G ρ w v h1 (Instr.field t x' f) := by
  unfold pPart1 at hp
  split at hp <;> (try (cases hp; done))
  split at hp <;> (try (cases hp; done))
  rename_i u hu
  simp only [Option.some.injEq, Prod.mk.injEq] at hp
  obtain ⟨rfl, rfl⟩ := hp
  cases hx with
  | a _ cs' hc =>
    obtain ⟨u', h3, h4⟩ := hc.get _ _ hu
    refine SemOk.pure H h4 ?_
    simp only [Instr.field, Sem.run_bind, rU ht, Result.andThen_ok, hf, asAgg, Sem.run_pure, part, rA hd, ha]
    simp only [Array.getElem?_toList] at h3
    simp [h3]

theorem partA_ok (H : HR G ρ h w) {t : TypeId} {fs : Array Field} {f : Nat} {fl : Field} {d : TypeDesc} {i : TypeInfo} {x : DV} {x' : Value} (ht : P.underlying t = some (.struct fs)) (hf : fs[f]? = some fl) (hd : P.underlying fl.type = some d) (hi : P.info? fl.type = some i) (ha : isAgD d = true) (hx : VR ρ x x')
    (hp : pPartA fl.offset i.size x h = some (v, h1)) : SemOk P G ρ w v h1 (Instr.field t x' f) := by
  unfold pPartA at hp
  split at hp <;> (try (cases hp; done))
  simp only [Option.some.injEq, Prod.mk.injEq] at hp
  obtain ⟨rfl, rfl⟩ := hp
  cases hx with
  | a _ cs' hc =>
    refine SemOk.pure H (.a _ (cs'.extract fl.offset (fl.offset + i.size)) ?_) ?_
    · have := (hc.drop fl.offset).take i.size
      simpa [List.take_drop, Nat.add_comm] using this
    · simp only [Instr.field, Sem.run_bind, rU ht, Result.andThen_ok, hf, asAgg, Sem.run_pure, part, rA hd, ha, rS hi, if_true]

theorem indexAddr_ok (H : HR G ρ h w) {t e : TypeId} {i : TypeInfo} {x ix : DV} {x' ix' : Value} (ht : P.underlying t = some (.slice e)) (hi : P.info? e = some i) (hx : VR ρ x x') (hix : VR ρ ix ix') (hp : pIndexAddr i.size x ix h = some (v, h1)) :
    SemOk P G ρ w v h1 (Instr.indexAt t x' ix') := by
  unfold pIndexAddr at hp
  split at hp <;> (try (cases hp; done))
  split at hp <;> (try (cases hp; done))
  rename_i hr
  simp only [Option.some.injEq, Prod.mk.injEq] at hp
  obtain ⟨rfl, rfl⟩ := hp
  cases hix
  cases hx with
  | l b o len cap L hL =>
    refine SemOk.pure H (.p _ _ L hL) ?_
    simp only [Instr.indexAt, asIntOf, Sem.run_bind, Sem.run_pure, Result.andThen_ok, rU ht]
    simp [hr, rS hi, adr_add]

theorem indexArr_ok (H : HR G ρ h w) {t e : TypeId} {n : Nat} {i : TypeInfo} {x ix : DV} {x' ix' : Value} (ht : P.underlying t = some (.array n e)) (hi : P.info? e = some i) (hx : VR ρ x x') (hix : VR ρ ix ix') (hp : pIndexArr n i.size x ix h = some (v, h1)) :
    SemOk P G ρ w v h1 (Instr.indexAt t x' ix') := by
  unfold pIndexArr at hp
  split at hp <;> (try (cases hp; done))
  split at hp <;> (try (cases hp; done))
  rename_i hr
  simp only [Option.some.injEq, Prod.mk.injEq] at hp
  obtain ⟨rfl, rfl⟩ := hp
  cases hix
  cases hx with
  | p b o L hL =>
    refine SemOk.pure H (.p _ _ L hL) ?_
    simp only [Instr.indexAt, asIntOf, Sem.run_bind, Sem.run_pure, Result.andThen_ok, rU ht, Instr.sureAddr]
    simp [hr, rS hi, adr_add]

theorem indexS_ok (H : HR G ρ h w) {t : TypeId} {x ix : DV} {x' ix' : Value} (ht : P.underlying t = some .string) (hx : VR ρ x x') (hix : VR ρ ix ix') (hp : pIndexS x ix h = some (v, h1)) :
    SemOk P G ρ w v h1 (Instr.index t x' ix') := by
  unfold pIndexS at hp
  split at hp <;> (try (cases hp; done))
  rename_i l k n
  split at hp <;> (try (cases hp; done))
  rename_i h0
  split at hp <;> (try (cases hp; done))
  rename_i c hc
  simp only [Option.some.injEq, Prod.mk.injEq] at hp
  obtain ⟨rfl, rfl⟩ := hp
  cases hix
  cases hx with
  | s _ bs hb =>
    subst hb
    rw [List.getElem?_map, Array.getElem?_toList] at hc
    cases hg : bs.data[n.toNat]? with
    | none => rw [hg] at hc; cases hc
    | some u =>
      rw [hg] at hc
      simp only [Option.map_some, Option.some.injEq] at hc
      subst hc
      refine SemOk.pure H (by constructor) ?_
      have hs : bs[n.toNat]? = some u := by
        have hlt : n.toNat < bs.size := (Array.getElem?_eq_some_iff.1 hg).1
        rw [ByteArray.getElem?_lt' bs _ hlt]
        congr 1
        exact (Array.getElem?_eq_some_iff.1 hg).2
      simp only [Instr.index, asIntOf, Sem.run_bind, Sem.run_pure, Result.andThen_ok, rU ht]
      simp [h0, hs]

theorem extract_ok (H : HR G ρ h w) {i : Nat} {x : DV} {x' : Value} (hx : VR ρ x x') (hp : pExtract i x h = some (v, h1)) : SemOk P G ρ w v h1 (Instr.extract x' i) := by
  unfold pExtract at hp
  split at hp <;> (try (cases hp; done))
  split at hp <;> (try (cases hp; done))
  rename_i u hu
  simp only [Option.some.injEq, Prod.mk.injEq] at hp
  obtain ⟨rfl, rfl⟩ := hp
  cases hx with
  | t _ vs' hc =>
    obtain ⟨u', h3, h4⟩ := hc.get _ _ hu
    refine SemOk.pure H h4 ?_
    simp only [Array.getElem?_toList] at h3
    simp [Instr.extract, h3]

end
end Go.Dd
