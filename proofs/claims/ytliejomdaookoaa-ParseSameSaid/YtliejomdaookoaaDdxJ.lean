/- Dd, part J: an operation of Dd is the model's. -/
import Derived.Test.YtliejomdaookoaaDdxI
set_option linter.unusedSimpArgs false
set_option linter.constructorNameAsVariable false
set_option linter.unusedVariables false
namespace Go.Dd
open Go.RowKit (Below)

def EnvR (ρ : Ren) (env : Env) (a : Act) : Prop := ∀ t, VR ρ (env t) (a.tmps.getD t undef)

theorem opr_ok {ρ : Ren} {env : Env} {a : Act} (he : EnvR ρ env a) (x : Operand) : VR ρ (opr env x) (a.eval x) := by
  cases x with
  | tmp t => exact he t
  | const v => exact VR.cv ρ v
  | global g => exact .u _
  | func f => exact .f f [] [] #[] #[] .nil .nil

/-- What a call leaves. -/
def Post (G : Gd) (ρ : Ren) (w : World) (v : DV) (h1 : Hp) : Ending → World → Prop := fun e w' =>
  ∃ ρ' v', e = .returned v' ∧ Ex G ρ ρ' ∧ VR ρ' v v' ∧ HR G ρ' h1 w' ∧ Kp G w w'

def CallFn (P : Program) (G : Gd) (ρ : Ren) (w : World) (v : DV) (h1 : Hp) (g : FuncId) (args : Array Value) : Prop :=
  ((callFunc g args).run P w = .ok (.enter g args) w ∧ Calls P g args w (Post G ρ w v h1)) ∨
  (∃ ρ' w' v', (callFunc g args).run P w = .ok (.value v') w' ∧ Ex G ρ ρ' ∧ VR ρ' v v' ∧ HR G ρ' h1 w' ∧ Kp G w w')

/-- A function of Dd does what the program's function does. -/
def FnOk (P : Program) (G : Gd) (g : FuncId) (F : List DV → Hp → Res) : Prop :=
  ∀ args h v h1, F args h = some (v, h1) → ∀ ρ w (args' : Array Value), HR G ρ h w → VRs ρ args args'.toList → CallFn P G ρ w v h1 g args'

structure OkC (C : Cfg) (rec : FuncId → List DV → Hp → Res) : Prop where
  own : ∀ G g F, C.I g = some F → FnOk C.P G g F
  fns : ∀ G g, FnOk C.P G g (rec g)

def OpOk (P : Program) (G : Gd) (ρ : Ren) (w : World) (v : DV) (h1 : Hp) (a : Act) (o : Oper) : Prop :=
  (∃ ρ' w' v', ((execOp a.eval o).run P w = .ok (.value v') w' ∨ ((execOp a.eval o).run P w = .ok .skip w' ∧ v' = undef)) ∧ Ex G ρ ρ' ∧ VR ρ' v v' ∧ HR G ρ' h1 w' ∧ Kp G w w') ∨
  (∃ g args, (execOp a.eval o).run P w = .ok (.enter g args) w ∧ Calls P g args w (Post G ρ w v h1))

theorem OpOk.of_sem {P : Program} {G : Gd} {ρ : Ren} {w : World} {v : DV} {h1 : Hp} {a : Act} {o : Oper} {s : Sem Value} (he : execOp a.eval o = (do pure (.value (← s)))) (hs : SemOk P G ρ w v h1 s) : OpOk P G ρ w v h1 a o := by
  obtain ⟨ρ', w', v', r, h2, h3, h4, h5⟩ := hs
  refine .inl ⟨ρ', w', v', .inl ?_, h2, h3, h4, h5⟩
  rw [he]
  simp [r]

theorem OR.map {ρ : Ren} {env : Env} {a : Act} (he : EnvR ρ env a) (x : Option Operand) : OR ρ (x.map (opr env)) (x.map a.eval) := by
  cases x with
  | none => exact .none
  | some y => exact .some _ _ (opr_ok he y)

theorem VRs.opr {ρ : Ren} {env : Env} {a : Act} (he : EnvR ρ env a) : ∀ l : List Operand, VRs ρ (l.map (opr env)) (l.map a.eval)
  | [] => .nil
  | x :: l => .cons _ _ _ _ (opr_ok he x) (VRs.opr he l)

section
variable {C : Cfg} {G : Gd} {rec : FuncId → List DV → Hp → Res} {ρ : Ren} {w : World} {h h1 : Hp} {v : DV} {a : Act} {env : Env}

theorem builtin_ok (H : HR G ρ h w) (he : EnvR ρ env a) {o : Oper} {c : Call} {b : Builtin} (ho : o.op = .call c) (hc : c.callee = .builtin b)
    (hp : builtinD C b c.argTypes.toList (c.args.toList.map (opr env)) h = some (v, h1)) : OpOk C.P G ρ w v h1 a o := by
  have hrun : ∀ s : Sem Value, (∀ cons : Array Bool, builtin b c.argTypes o.type cons (c.args.map a.eval) = (do pure (.value (← s)) : Sem Next)) → execOp a.eval o = (do pure (.value (← s)) : Sem Next) := by
    intro s hs
    unfold execOp
    simp only [ho, resolve, hc, pure_bind, invoke]
    exact hs _
  unfold builtinD at hp
  split at hp <;> (try (cases hp; done))
  · -- len
    split at hp <;> (try (cases hp; done))
    rename_i t x hts hxs
    have hat : c.argTypes = #[t] := Array.toList_inj.1 (by simpa using hts)
    obtain ⟨ox, hca, hox⟩ : ∃ ox, c.args = #[ox] ∧ opr env ox = x := by
      rcases c with ⟨callee, args, ats⟩
      simp only at hxs ⊢
      have := congrArg List.length hxs
      match args, this with
      | ⟨[y]⟩, _ => simp at hxs; exact ⟨y, rfl, hxs⟩
    have hx := opr_ok he ox
    rw [hox] at hx
    refine OpOk.of_sem (hrun (Builtin.len_ #[t] o.type #[a.eval ox]) (by intro cons; rw [hat, hca]; simp [builtin])) ?_
    split at hp <;> (try (cases hp; done))
    · rename_i ht
      unfold pLenS at hp
      split at hp <;> (try (cases hp; done))
      rename_i l
      simp only [Option.some.injEq, Prod.mk.injEq] at hp
      obtain ⟨rfl, rfl⟩ := hp
      generalize a.eval ox = xv at hx ⊢
      cases hx with
      | s _ bs hb =>
        have hlen : l.length = bs.size := by rw [← hb, List.length_map, Array.length_toList]; rfl
        refine SemOk.pure H (by constructor) ?_
        simp only [Builtin.len_, Sem.run_bind, List.getElem?_toArray, List.getElem?_cons_zero, rU ht, Result.andThen_ok, goInt, Sem.run_pure, hlen]
    · rename_i e ht
      unfold pLen at hp
      split at hp <;> (try (cases hp; done))
      · simp only [Option.some.injEq, Prod.mk.injEq] at hp
        obtain ⟨rfl, rfl⟩ := hp
        generalize a.eval ox = xv at hx ⊢
        cases hx with
        | l _ _ _ _ L hL =>
          refine SemOk.pure H (by constructor) ?_
          simp only [Builtin.len_, Sem.run_bind, List.getElem?_toArray, List.getElem?_cons_zero, rU ht, Result.andThen_ok, goInt, Sem.run_pure]
      · simp only [Option.some.injEq, Prod.mk.injEq] at hp
        obtain ⟨rfl, rfl⟩ := hp
        generalize a.eval ox = xv at hx ⊢
        cases hx
        refine SemOk.pure H (by constructor) ?_
        simp only [Builtin.len_, Sem.run_bind, List.getElem?_toArray, List.getElem?_cons_zero, rU ht, Result.andThen_ok, goInt, Sem.run_pure]
        simp
  · -- min
    unfold minAll at hp
    split at hp <;> (try (cases hp; done))
    rename_i x y hxs
    obtain ⟨ox, oy, hca, hox, hoy⟩ : ∃ ox oy, c.args = #[ox, oy] ∧ opr env ox = x ∧ opr env oy = y := by
      rcases c with ⟨callee, args, ats⟩
      simp only at hxs ⊢
      have := congrArg List.length hxs
      match args, this with
      | ⟨[y1, y2]⟩, _ => simp at hxs; exact ⟨y1, y2, rfl, hxs.1, hxs.2⟩
    have hx := opr_ok he ox
    have hy := opr_ok he oy
    rw [hox] at hx
    rw [hoy] at hy
    refine OpOk.of_sem (hrun (Builtin.min_ c.argTypes o.type #[a.eval ox, a.eval oy]) (by intro cons; rw [hca]; simp [builtin])) ?_
    unfold pMin at hp
    split at hp <;> (try (cases hp; done))
    simp only [Option.some.injEq, Prod.mk.injEq] at hp
    obtain ⟨rfl, rfl⟩ := hp
    generalize a.eval ox = xv at hx ⊢
    generalize a.eval oy = yv at hy ⊢
    cases hx
    cases hy
    refine SemOk.pure H (by constructor) ?_
    simp [Builtin.min_, Builtin.min2]
  · -- max
    unfold maxAll at hp
    split at hp <;> (try (cases hp; done))
    rename_i x y hxs
    obtain ⟨ox, oy, hca, hox, hoy⟩ : ∃ ox oy, c.args = #[ox, oy] ∧ opr env ox = x ∧ opr env oy = y := by
      rcases c with ⟨callee, args, ats⟩
      simp only at hxs ⊢
      have := congrArg List.length hxs
      match args, this with
      | ⟨[y1, y2]⟩, _ => simp at hxs; exact ⟨y1, y2, rfl, hxs.1, hxs.2⟩
    have hx := opr_ok he ox
    have hy := opr_ok he oy
    rw [hox] at hx
    rw [hoy] at hy
    refine OpOk.of_sem (hrun (Builtin.max_ c.argTypes o.type #[a.eval ox, a.eval oy]) (by intro cons; rw [hca]; simp [builtin])) ?_
    unfold pMax at hp
    split at hp <;> (try (cases hp; done))
    simp only [Option.some.injEq, Prod.mk.injEq] at hp
    obtain ⟨rfl, rfl⟩ := hp
    generalize a.eval ox = xv at hx ⊢
    generalize a.eval oy = yv at hy ⊢
    cases hx
    cases hy
    refine SemOk.pure H (by constructor) ?_
    simp [Builtin.max_, Builtin.max2]
  · -- append
    split at hp <;> (try (cases hp; done))
    rename_i t u s x hts hxs
    have hat : c.argTypes = #[t, u] := Array.toList_inj.1 (by simpa using hts)
    obtain ⟨ox, oy, hca, hox, hoy⟩ : ∃ ox oy, c.args = #[ox, oy] ∧ opr env ox = s ∧ opr env oy = x := by
      rcases c with ⟨callee, args, ats⟩
      simp only at hxs ⊢
      have := congrArg List.length hxs
      match args, this with
      | ⟨[y1, y2]⟩, _ => simp at hxs; exact ⟨y1, y2, rfl, hxs.1, hxs.2⟩
    have hx := opr_ok he ox
    have hy := opr_ok he oy
    rw [hox] at hx
    rw [hoy] at hy
    refine OpOk.of_sem (hrun (Builtin.append_ #[t, u] o.type #[a.eval ox, a.eval oy]) (by intro cons; rw [hat, hca]; simp [builtin])) ?_
    have hmain : ∀ e d, C.P.underlying t = some (.slice e) → C.P.underlying u = some d → (∀ k, d ≠ .int k) → (match C.P.info? e with
        | some i => match i.zero with
          | some z => if 0 < i.size ∧ 0 < i.bytes ∧ z.cells.size = i.size then pAppend i.size i.bytes s x h else none
          | none => none
        | none => none) = some (v, h1) → SemOk C.P G ρ w v h1 (Builtin.append_ #[t, u] o.type #[a.eval ox, a.eval oy]) := by
      intro e d ht hu hd hp
      split at hp <;> (try (cases hp; done))
      rename_i i hi
      split at hp <;> (try (cases hp; done))
      rename_i z hz
      split at hp <;> (try (cases hp; done))
      rename_i hc3
      exact append_ok H ht hu hd hi hz hc3.1 hc3.2.1 hc3.2.2 hx hy hp
    split at hp <;> (try (cases hp; done))
    · rename_i e u0 ht hu
      exact hmain e _ ht hu (by simp) hp
    · rename_i e ht hu
      exact hmain e _ ht hu (by simp) hp

theorem opsem_ok (K : OkC C rec) (H : HR G ρ h w) (he : EnvR ρ env a) {o : Oper} (hp : opsem C rec o env h = some (v, h1)) : OpOk C.P G ρ w v h1 a o := by
  unfold opsem at hp
  split at hp <;> (try (cases hp; done))
  · rename_i x ho
    simp only [Option.some.injEq, Prod.mk.injEq] at hp
    obtain ⟨rfl, rfl⟩ := hp
    exact .inl ⟨ρ, w, a.eval x, .inl (by unfold execOp; simp [ho]), Ex.refl G ρ, opr_ok he x, H, Kp.refl G w⟩
  · rename_i x ho
    simp only [Option.some.injEq, Prod.mk.injEq] at hp
    obtain ⟨rfl, rfl⟩ := hp
    exact .inl ⟨ρ, w, a.eval x, .inl (by unfold execOp; simp [ho]), Ex.refl G ρ, opr_ok he x, H, Kp.refl G w⟩
  · rename_i c x y ho
    have hc := opr_ok he c
    unfold pPick at hp
    split at hp <;> (try (cases hp; done))
    all_goals
      rename_i hcb
      simp only [Option.some.injEq, Prod.mk.injEq] at hp
      obtain ⟨rfl, rfl⟩ := hp
      rw [hcb] at hc
      generalize hcv : a.eval c = cv at hc
      cases hc
    · exact .inl ⟨ρ, w, a.eval x, .inl (by unfold execOp; simp [ho, hcv, asBool]), Ex.refl G ρ, opr_ok he x, H, Kp.refl G w⟩
    · exact .inl ⟨ρ, w, a.eval y, .inl (by unfold execOp; simp [ho, hcv, asBool]), Ex.refl G ρ, opr_ok he y, H, Kp.refl G w⟩
  · rename_i t ho
    split at hp <;> (try (cases hp; done))
    rename_i i hi
    split at hp <;> (try (cases hp; done))
    rename_i z hz
    exact OpOk.of_sem (by unfold execOp; simp [ho]) (alloc_ok H hi hz hp)
  · rename_i t x ho
    exact OpOk.of_sem (s := Instr.box t (a.eval x)) (by unfold execOp; simp [ho]) (box_ok H (opr_ok he x) hp)
  · rename_i t ps ho
    split at hp <;> (try (cases hp; done))
    rename_i fs i ht hi
    split at hp <;> (try (cases hp; done))
    rename_i z pl hz hpl
    split at hp <;> (try (cases hp; done))
    rename_i l hl
    exact OpOk.of_sem (by unfold execOp; simp only [ho]) (build_ok H (opr_ok he) ht hi hz hpl hl hp)
  · rename_i t n ps ho
    split at hp <;> (try (cases hp; done))
    rename_i e ht
    split at hp <;> (try (cases hp; done))
    rename_i i hi
    split at hp <;> (try (cases hp; done))
    rename_i z hz
    split at hp <;> (try (cases hp; done))
    rename_i hc
    exact OpOk.of_sem (by unfold execOp; simp only [ho]) (buildSlice_ok H (opr_ok he) ht hi hz hc.1 hc.2.1 hc.2.2 hp)
  · rename_i t x ho
    split at hp <;> (try (cases hp; done))
    rename_i d i ht hi
    cases hd : isAgD d with
    | true => rw [hd] at hp; exact OpOk.of_sem (by unfold execOp; simp [ho]) (loadA_ok H ht hi hd (opr_ok he x) hp)
    | false => rw [hd] at hp; exact OpOk.of_sem (by unfold execOp; simp [ho]) (load1_ok H ht hd (opr_ok he x) hp)
  · rename_i t x y ho
    split at hp <;> (try (cases hp; done))
    rename_i i hi
    obtain ⟨rfl, w', s1, s2, s3⟩ := store_ok (P := C.P) H hi (opr_ok he x) (opr_ok he y) hp
    refine .inl ⟨ρ, w', undef, .inr ⟨?_, rfl⟩, Ex.refl G ρ, .t [] #[] .nil, s2, s3⟩
    unfold execOp
    simp [ho, s1]
  · rename_i x ho
    obtain ⟨h2, h3, h4⟩ := nil_ok (P := C.P) H ho (opr_ok he x) hp
    subst h4
    exact .inl ⟨ρ, w, _, .inl h2, Ex.refl G ρ, h3, H, Kp.refl G w⟩
  · rename_i op t x y yt ho
    split at hp <;> (try (cases hp; done))
    rename_i d ht
    exact OpOk.of_sem (by unfold execOp; simp only [ho]) (bin_ok (ox := x) (oy := y) H ht (opr_ok he x) (opr_ok he y) hp)
  · rename_i op t x ho
    exact OpOk.of_sem (by unfold execOp; simp [ho]) (un_ok H (opr_ok he x) hp)
  · rename_i src dst x ho
    split at hp <;> (try (cases hp; done))
    · rename_i d k hs hd
      exact OpOk.of_sem (by unfold execOp; simp [ho]) (convI_ok H hs hd (opr_ok he x) hp)
    · rename_i hs hd
      exact OpOk.of_sem (by unfold execOp; simp [ho]) (convS_ok H hs hd (opr_ok he x) hp)
  · rename_i fn first captured ho
    split at hp <;> (try (cases hp; done))
    rename_i g
    simp only [Option.some.injEq, Prod.mk.injEq] at hp
    obtain ⟨rfl, rfl⟩ := hp
    refine .inl ⟨ρ, w, .func (.func g) (first.map a.eval) (captured.map a.eval), .inl ?_, Ex.refl G ρ, ?_, H, Kp.refl G w⟩
    · unfold execOp; simp [ho, Instr.makeFunc]
    · exact .f g _ _ _ _ (by simpa using VRs.opr he first.toList) (by simpa using VRs.opr he captured.toList)
  · rename_i t x lo hi mx ho
    split at hp <;> (try (cases hp; done))
    · rename_i ht
      exact OpOk.of_sem (by unfold execOp; simp [ho]) (sliceS_ok H ht (opr_ok he x) (OR.map he lo) (OR.map he hi) hp)
    · rename_i e ht
      split at hp <;> (try (cases hp; done))
      rename_i i hi0
      exact OpOk.of_sem (by unfold execOp; simp [ho]) (slice_ok H ht hi0 (opr_ok he x) (OR.map he lo) (OR.map he hi) hp)
    · rename_i e m ht
      split at hp <;> (try (cases hp; done))
      rename_i i hv hi0
      exact OpOk.of_sem (by unfold execOp; simp [ho]) (slice3_ok H ht hi0 (opr_ok he x) (OR.map he lo) (opr_ok he hv) (opr_ok he m) hp)
  · rename_i t x f ho
    split at hp <;> (try (cases hp; done))
    rename_i fs ht
    split at hp <;> (try (cases hp; done))
    rename_i fl hf
    split at hp <;> (try (cases hp; done))
    rename_i i hi
    split at hp <;> (try (cases hp; done))
    rename_i h0
    exact OpOk.of_sem (by unfold execOp; simp [ho]) (field_ok H ht hf hi h0 (opr_ok he x) hp)
  · rename_i t x f ho
    split at hp <;> (try (cases hp; done))
    rename_i fs ht
    split at hp <;> (try (cases hp; done))
    rename_i fl hf
    split at hp <;> (try (cases hp; done))
    rename_i d i hd hi
    cases ha : isAgD d with
    | true => rw [ha] at hp; exact OpOk.of_sem (by unfold execOp; simp [ho]) (partA_ok H ht hf hd hi ha (opr_ok he x) hp)
    | false => rw [ha] at hp; exact OpOk.of_sem (by unfold execOp; simp [ho]) (part1_ok H ht hf hd ha (opr_ok he x) hp)
  · rename_i t x ix ho
    split at hp <;> (try (cases hp; done))
    · rename_i e ht
      split at hp <;> (try (cases hp; done))
      rename_i i hi
      exact OpOk.of_sem (by unfold execOp; simp [ho]) (indexAddr_ok H ht hi (opr_ok he x) (opr_ok he ix) hp)
    · rename_i n e ht
      split at hp <;> (try (cases hp; done))
      rename_i i hi
      exact OpOk.of_sem (by unfold execOp; simp [ho]) (indexArr_ok H ht hi (opr_ok he x) (opr_ok he ix) hp)
  · rename_i t x ix ho
    split at hp <;> (try (cases hp; done))
    rename_i ht
    exact OpOk.of_sem (by unfold execOp; simp [ho]) (indexS_ok H ht (opr_ok he x) (opr_ok he ix) hp)
  · rename_i x i ho
    exact OpOk.of_sem (by unfold execOp; simp [ho]) (extract_ok H (opr_ok he x) hp)
  · rename_i t x ho
    split at hp <;> (try (cases hp; done))
    rename_i ht
    exact OpOk.of_sem (by unfold execOp; simp [ho]) (range_ok H ht (opr_ok he x) hp)
  · rename_i x str ho
    split at hp <;> (try (cases hp; done))
    rename_i hs
    subst hs
    exact OpOk.of_sem (by unfold execOp; simp [ho]) (next_ok (ty := o.type) H (opr_ok he x) hp)
  · rename_i c ho
    split at hp <;> (try (cases hp; done))
    · rename_i b hb
      exact builtin_ok H he ho hb hp
    · rename_i f hf
      have hfv := opr_ok he f
      unfold pCall at hp
      split at hp <;> (try (cases hp; done))
      rename_i g first cap hg
      rw [hg] at hfv
      generalize hfe : a.eval f = fv at hfv
      cases hfv with
      | f _ _ _ x' y' hx hy =>
        have hargs : VRs ρ (first ++ c.args.toList.map (opr env) ++ cap) (x' ++ c.args.map a.eval ++ y').toList := by
          simpa using (hx.append (VRs.opr he c.args.toList)).append hy
        have hex : execOp a.eval o = callFunc g (x' ++ c.args.map a.eval ++ y') := by
          unfold execOp
          simp only [ho, resolve, hf, hfe, Deferred.ofValue, pure_bind, invoke]
        have hcf : CallFn C.P G ρ w v h1 g (x' ++ c.args.map a.eval ++ y') := by
          unfold callD at hp
          split at hp
          · rename_i F hF
            exact K.own G g F hF _ _ _ _ hp ρ w _ H hargs
          · exact K.fns G g _ _ _ _ hp ρ w _ H hargs
        rcases hcf with ⟨c1, c2⟩ | ⟨ρ', w', v', c1, c2, c3, c4, c5⟩
        · exact .inr ⟨g, _, by rw [hex]; exact c1, c2⟩
        · exact .inl ⟨ρ', w', v', .inl (by rw [hex]; exact c1), c2, c3, c4, c5⟩

end
end Go.Dd
