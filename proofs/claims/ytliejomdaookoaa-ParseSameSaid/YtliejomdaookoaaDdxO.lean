/- Dd, part O: code and functions: what Dd says of a function is so. -/
import Derived.Test.YtliejomdaookoaaDdxN
import Derived.LoopN
import Derived.Scope
set_option linter.unusedSimpArgs false
set_option linter.constructorNameAsVariable false
set_option linter.unusedVariables false
namespace Go.Dd
open Go.RowKit (Below)

section
variable {C : Cfg} {G : Gd} {rec : FuncId → List DV → Hp → Res} {nt n : Nat}

/-- The run has come to a place from which Dd goes on by k to r. -/
def St (G : Gd) (nt : Nat) (ρ : Ren) (w0 : World) (k : K) (r : DV × Hp) (a : Act) (w : World) : Prop :=
  ∃ ρ' env h, Ex G ρ ρ' ∧ HR G ρ' h w ∧ EnvR ρ' env a ∧ Kp G w0 w ∧ nt ≤ a.tmps.size ∧ a.defers = [] ∧ k env h = some r

def QQ (G : Gd) (nt : Nat) (ρ : Ren) (w0 : World) (X : Nat → K) (kr k : K) (r : DV × Hp) : Exit → Act → World → Prop
  | .normal, a, w => St G nt ρ w0 k r a w
  | .exit id, a, w => St G nt ρ w0 (X id) r a w
  | .ret, a, w => St G nt ρ w0 kr r a w
  | _, _, _ => False

theorem code_wp (K : OkC C rec) (hm : C.P.follows .mixedOrders = true) {ρ : Ren} {w0 : World} {r : DV × Hp} : ∀ (c : Code) (X : Nat → Dd.K) (kr k : Dd.K) (a : Act) (w : World),
    St G nt ρ w0 (codeD C rec nt n c X kr k) r a w → c.wp C.P (QQ G nt ρ w0 X kr k r) a w := by
  intro c
  induction c with
  | skip => intro X kr k a w h; exact wp_skip h
  | region id ops dr =>
    intro X kr k a w h
    obtain ⟨ρ', env, hp, h1, h2, h3, h4, h5, h6, h7⟩ := h
    change (Bool.rec (motive := fun _ => Dd.K) (opsD C rec nt ops ops.toList k) (Bool.rec (motive := fun _ => Dd.K) failK (drawK C rec nt ops k) (drawOk C.P ops)) dr) env hp = some r at h7
    cases dr with
    | true =>
      dsimp only at h7
      cases hok : drawOk C.P ops with
      | false => rw [hok] at h7; cases h7
      | true =>
        rw [hok] at h7
        exact draw_wp K hm hok h7 h2 h3 h5 h6 fun ρ2 env2 h2' a2 w2 e1 e2 e3 e4 e5 e6 e7 => ⟨ρ2, env2, h2', h1.trans e1, e2, e3, h4.trans e4, e5, e6, e7⟩
    | false =>
      simp only [cond_false] at h7
      obtain ⟨env', h', hr, hk⟩ := opsD_run ops.toList k env hp r h7
      refine wp_region ?_
      have := ops_wp (Q := QQ G nt ρ w0 X kr k r) K ops.toList 0 ρ' env hp a w (by simp) hr h2 h3 h5 h6 fun ρ2 a2 w2 e1 e2 e3 e4 e5 e6 => ⟨ρ2, env', h', h1.trans e1, e2, e3, h4.trans e4, e5, e6, hk⟩
      rw [List.range_eq_range']
      simpa using this
  | seq x y ihx ihy =>
    intro X kr k a w h
    refine wp_seq (wp_mono (ihx X kr (codeD C rec nt n y X kr k) a w h) fun e a' w' hq => ?_)
    cases e with
    | normal => exact ihy X kr k a' w' hq
    | exit id => exact hq
    | ret => exact hq
    | goto l => exact hq
    | panic ch => exact hq
    | outgrown => exact hq
  | cond c x y ihx ihy =>
    intro X kr k a w h
    obtain ⟨ρ', env, hp, h1, h2, h3, h4, h5, h6, h7⟩ := h
    change ifD (opr env c) (codeD C rec nt n x X kr k env hp) (codeD C rec nt n y X kr k env hp) = some r at h7
    have hc := opr_ok h3 c
    unfold ifD at h7
    split at h7 <;> (try (cases h7; done))
    · rename_i hcb
      rw [hcb] at hc
      generalize hcv : a.eval c = cv at hc
      cases hc
      exact wp_cond_true hcv (ihx X kr k a w ⟨ρ', env, hp, h1, h2, h3, h4, h5, h6, h7⟩)
    · rename_i hcb
      rw [hcb] at hc
      generalize hcv : a.eval c = cv at hc
      cases hc
      exact wp_cond_false hcv (ihy X kr k a w ⟨ρ', env, hp, h1, h2, h3, h4, h5, h6, h7⟩)
  | block id x ih =>
    intro X kr k a w h
    refine wp_block (wp_mono (ih (fun j => bif Nat.beq j id then k else X j) kr k a w h) fun e a' w' hq => ?_)
    cases e with
    | normal => exact hq
    | exit id' =>
      simp only [QQ] at hq
      simp only [Exit.inBlock, QQ]
      split
      · rename_i e
        subst e
        have hb : Nat.beq id' id' = true := Nat.beq_refl id'
        rw [hb] at hq
        exact hq
      · rename_i e
        have : Nat.beq id' id = false := by
          cases hb : Nat.beq id' id with
          | false => rfl
          | true => exact absurd (Nat.eq_of_beq_eq_true hb) e
        rw [this] at hq
        exact hq
    | ret => exact hq
    | goto l => exact hq
    | panic ch => exact hq
    | outgrown => exact hq
  | loop x ih =>
    intro X kr k a w h
    have key : ∀ (m : Nat) (a : Act) (w : World), St G nt ρ w0 (loopN (fun kk => codeD C rec nt n x X kr kk) m) r a w → Code.rounds C.P x (QQ G nt ρ w0 X kr k r) m a w := by
      intro m
      induction m with
      | zero =>
        rintro a w ⟨ρ', env, hp, h1, h2, h3, h4, h5, h6, h7⟩
        cases h7
      | succ m ihm =>
        intro a w hs
        rw [rounds_succ]
        refine wp_mono (ih X kr (loopN (fun kk => codeD C rec nt n x X kr kk) m) a w hs) fun e a' w' hq => ?_
        cases e with
        | normal => exact ihm a' w' hq
        | exit id => exact hq
        | ret => exact hq
        | goto l => exact hq
        | panic ch => exact hq
        | outgrown => exact hq
    exact wp_loop_rounds n (key n a w h)
  | rangeFunc f ps x y ihx ihy =>
    rintro X kr k a w ⟨ρ', env, hp, h1, h2, h3, h4, h5, h6, h7⟩
    cases h7
  | exit id => intro X kr k a w h; exact wp_exit h
  | scope x ih =>
    intro X kr k a w h
    refine wp_scope_straight (wp_mono (ih X kr k a w h) fun e a' w' hq => ?_)
    cases e with
    | goto l => exact hq
    | normal => exact hq
    | exit id => exact hq
    | ret => exact hq
    | panic ch => exact hq
    | outgrown => exact hq
  | label l => intro X kr k a w h; exact wp_label h
  | goto l =>
    rintro X kr k a w ⟨ρ', env, hp, h1, h2, h3, h4, h5, h6, h7⟩
    cases h7
  | ret => intro X kr k a w h; exact wp_ret h
  | refuse why =>
    rintro X kr k a w ⟨ρ', env, hp, h1, h2, h3, h4, h5, h6, h7⟩
    cases h7

/-! ### Results -/

def resSem (tmps : Array Value) (rv : ResultVar) : Sem Value :=
  match rv with
  | .tmp t => pure (tmps.getD t undef)
  | .cell q t => do loadVar t (← asAddr (tmps.getD q undef))

theorem results_eq (fn : Func) (tmps : Array Value) : results fn tmps = (do
    let vs ← fn.results.mapM (resSem tmps)
    pure (if h : vs.size = 1 then vs[0] else .tuple vs)) := by
  unfold results
  congr 2

theorem loadK_ok {ρ : Ren} {w : World} {h : Hp} {x : DV} {x' : Value} {t : TypeId} {k : DV → Res} {r : DV × Hp} (H : HR G ρ h w) (hx : VR ρ x x') (hr : loadK C t x h k = some r) :
    ∃ v v', (do loadVar t (← asAddr x') : Sem Value).run C.P w = .ok v' w ∧ VR ρ v v' ∧ k v = some r := by
  unfold loadK at hr
  split at hr <;> (try (cases hr; done))
  rename_i d i ht hi
  obtain ⟨v, h', hl, hk⟩ := bnd_some hr
  have hconv : ∀ b o, x = .p b o → (Instr.loadAt t x') = (do loadVar t (← asAddr x')) := by
    rintro b o rfl
    cases hx
    simp [Instr.loadAt, Instr.sureAddr, asAddr]
  cases hd : isAgD d with
  | true =>
    rw [hd] at hl
    simp only [cond_true] at hl
    unfold pLoadA at hl
    split at hl <;> (try (cases hl; done))
    rename_i b o
    split at hl <;> (try (cases hl; done))
    rename_i cs hc
    simp only [Option.some.injEq, Prod.mk.injEq] at hl
    obtain ⟨rfl, _⟩ := hl
    cases hx with
    | p _ _ L hL =>
      obtain ⟨c1, c2, _, vs, c4, c5, c6⟩ := cellsAt_spec H hc hL
      have hrun := run_loadCells_ok (P := C.P) vs rfl c6
      rw [c5] at hrun
      refine ⟨_, .agg vs.toArray, ?_, .a cs vs.toArray (by simpa using c4), hk⟩
      simp only [asAddr, Sem.run_bind, Sem.run_pure, Result.andThen_ok, loadVar, rA ht, hd, if_true, rS hi, hrun]
  | false =>
    rw [hd] at hl
    simp only [cond_false] at hl
    unfold pLoad1 at hl
    split at hl <;> (try (cases hl; done))
    rename_i b o
    split at hl <;> (try (cases hl; done))
    rename_i u' hc
    simp only [Option.some.injEq, Prod.mk.injEq] at hl
    obtain ⟨rfl, _⟩ := hl
    cases hx with
    | p _ _ L hL =>
      unfold cellD rowOf at hc
      split at hc <;> (try (cases hc; done))
      rename_i l hl
      split at hl <;> (try (cases hl; done))
      rename_i kd l0 hb
      simp only [Option.some.injEq] at hl
      subst hl
      split at hc <;> (try (cases hc; done))
      rename_i u0 hu
      split at hc <;> (try (cases hc; done))
      rename_i ho
      simp only [Option.some.injEq] at hc
      subst hc
      obtain ⟨v', h5, h6⟩ := H.cell b kd l0 L o u0 hb hL hu ho
      refine ⟨_, v', ?_, h6, hk⟩
      simp only [asAddr, Sem.run_bind, Sem.run_pure, Result.andThen_ok, loadVar, rA ht, hd, Bool.false_eq_true, if_false, run_load, h5]

theorem retGo_ok {ρ : Ren} {w : World} {h : Hp} {env : Env} {a : Act} (H : HR G ρ h w) (he : EnvR ρ env a) {r : DV × Hp} : ∀ (l : List ResultVar) (k : List DV → Res), retGo C env h l k = some r →
    ∃ vs vs', (l.mapM (resSem a.tmps)).run C.P w = .ok vs' w ∧ VRs ρ vs vs' ∧ k vs = some r
  | [], k, hr => ⟨[], [], by simp, .nil, hr⟩
  | .tmp t :: l, k, hr => by
    obtain ⟨vs, vs', h1, h2, h3⟩ := retGo_ok H he l (fun vs => k (env t :: vs)) hr
    refine ⟨env t :: vs, a.tmps.getD t undef :: vs', ?_, .cons _ _ _ _ (he t) h2, h3⟩
    simp only [List.mapM_cons, Sem.run_bind, resSem, Result.andThen_ok, h1, Sem.run_pure]
  | .cell q t :: l, k, hr => by
    obtain ⟨v, v', h1, h2, h3⟩ := loadK_ok (x' := a.tmps.getD q undef) H (he q) hr
    obtain ⟨vs, vs', h4, h5, h6⟩ := retGo_ok H he l (fun vs => k (v :: vs)) h3
    refine ⟨v :: vs, v' :: vs', ?_, .cons _ _ _ _ h2 h5, h6⟩
    simp only [List.mapM_cons, Sem.run_bind, resSem] at h1 ⊢
    simp only [h1, Result.andThen_ok, h4, Sem.run_pure]

theorem retK_ok {ρ : Ren} {w : World} {h h1 : Hp} {env : Env} {a : Act} (H : HR G ρ h w) (he : EnvR ρ env a) {fn : Func} {v : DV} (hr : retK C fn env h = some (v, h1)) :
    h1 = h ∧ ∃ v', (results fn a.tmps).run C.P w = .ok v' w ∧ VR ρ v v' := by
  obtain ⟨us, vs', h2, h3, hk⟩ := retGo_ok H he _ _ hr
  unfold doneK at hk
  split at hk
  · rename_i u
    simp only [Option.some.injEq, Prod.mk.injEq] at hk
    obtain ⟨rfl, rfl⟩ := hk
    cases h3 with
    | cons _ v' _ l' hv hn =>
      cases hn
      refine ⟨rfl, v', ?_, hv⟩
      rw [results_eq, Array.mapM_eq_mapM_toList]
      simp only [Sem.run_bind, Sem.run_map, h2, Result.andThen_ok, Sem.run_pure]
      simp
  · rename_i hne
    simp only [Option.some.injEq, Prod.mk.injEq] at hk
    obtain ⟨rfl, rfl⟩ := hk
    have hl := h3.length
    have hne1 : vs'.length ≠ 1 := by
      intro e
      rw [e] at hl
      match us, hl with
      | [x], _ => exact hne x rfl
    refine ⟨rfl, .tuple vs'.toArray, ?_, .t _ _ (by simpa using h3)⟩
    rw [results_eq, Array.mapM_eq_mapM_toList]
    simp only [Sem.run_bind, Sem.run_map, h2, Result.andThen_ok, Sem.run_pure]
    rw [dif_neg (by simpa using hne1)]

/-- What is asked of a program. -/
structure POk (P : Program) : Prop where
  mixed : P.follows .mixedOrders = true
  names : ∀ (f : Nat) (fn : Func), P.funcs[f]? = some fn → (fn.name == "runtime.NumGoroutine") = false

theorem body_ok (K : OkC C rec) (hP : POk C.P) (n : Nat) (f : FuncId) : FnOk C.P G f (bodyD C rec n f) := by
  intro args h v h1 hr ρ w args' H hargs
  unfold bodyD at hr
  split at hr <;> (try (cases hr; done))
  rename_i fn hf
  split at hr <;> (try (cases hr; done))
  rename_i c hb
  refine .inl ⟨?_, ?_⟩
  · unfold callFunc
    have hn : ¬ fn.name = "runtime.NumGoroutine" := by simpa using hP.names f fn hf
    simp [hf, hn, hb]
  · refine calls_of_wp hf hb ?_
    have he : EnvR ρ (argsE args) { tmps := args' ++ Array.replicate (fn.ntmps - args'.size) undef, defers := [] } := by
      intro t
      unfold argsE
      have hlen := hargs.length
      simp only [Array.length_toList] at hlen
      by_cases ht : t < args.length
      · have hg : args[t]? = some args[t] := by simp [ht]
        obtain ⟨v', h2, h3⟩ := hargs.get t _ hg
        simp only [Array.getElem?_toList] at h2
        rw [show args.getD t undefD = args[t] by simp [List.getD, hg]]
        have : (args' ++ Array.replicate (fn.ntmps - args'.size) undef).getD t undef = v' := by
          simp [Array.getElem?_append_left (show t < args'.size by omega), h2]
        rw [this]
        exact h3
      · have hg : args.getD t undefD = undefD := by simp [List.getD, List.getElem?_eq_none (Nat.le_of_not_lt ht)]
        rw [hg]
        have : (args' ++ Array.replicate (fn.ntmps - args'.size) undef).getD t undef = undef := by
          rw [Array.getD_eq_getD_getElem?, Array.getElem?_append_right (by omega)]
          simp only [Array.getElem?_replicate]
          split <;> rfl
        rw [this]
        exact .t [] #[] .nil
    have hst : St G fn.ntmps ρ w (codeD C rec fn.ntmps n c (fun _ => failK) (retK C fn) (retK C fn)) (v, h1) { tmps := args' ++ Array.replicate (fn.ntmps - args'.size) undef, defers := [] } w :=
      ⟨ρ, argsE args, h, Ex.refl G ρ, H, he, Kp.refl G w, by simp; omega, rfl, hr⟩
    refine wp_mono (code_wp K hP.mixed c _ _ _ _ _ hst) fun e a' w' hq => ?_
    have hfin : St G fn.ntmps ρ w (retK C fn) (v, h1) a' w' → a'.defers = [] ∧ ∃ v', (results fn a'.tmps).run C.P w' = .ok v' w' ∧ Post G ρ w v h1 (.returned v') w' := by
      rintro ⟨ρ', env, h', e1, e2, e3, e4, e5, e6, e7⟩
      obtain ⟨rfl, v', r1, r2⟩ := retK_ok e2 e3 e7
      exact ⟨e6, v', r1, ρ', v', rfl, e1, r2, e2, e4⟩
    cases e with
    | normal => exact hfin hq
    | ret => exact hfin hq
    | exit id =>
      obtain ⟨ρ', env, h', e1, e2, e3, e4, e5, e6, e7⟩ := hq
      cases e7
    | goto l => exact hq.elim
    | panic ch => exact hq.elim
    | outgrown => exact hq.elim

theorem fnD_ok (hP : POk C.P) (hI : ∀ G g F, C.I g = some F → FnOk C.P G g F) : ∀ (n : Nat) (G : Gd) (f : FuncId), FnOk C.P G f (fnD C n f)
  | 0, G, f => fun args h v h1 hr => by cases hr
  | n + 1, G, f => body_ok (rec := fnD C n) ⟨hI, fun G g => fnD_ok hP hI n G g⟩ hP n f

end
end Go.Dd
