/- A part of the proof: O Qh Q0 Q1 Q2 Q3: each text has a comment of its own. -/
import Derived.Test.YtliejomdaookoaaPb0
import Derived.LoopN
import Derived.Scope
import Derived.Test.YtliejomdaookoaaProg
import Derived.KernelRfl
/- Dd, part O: code and functions: what Dd says of a function is so. -/
set_option linter.unusedSimpArgs false
set_option linter.constructorNameAsVariable false
set_option linter.unusedVariables false
namespace Go.Dd
open Go.RowKit (Below)

section
variable {C : Cfg} {G : Gd} {rec : FuncId → List DV → Hp → Res} {nt n : Nat}

/-- The run has come to a place from which Dd goes on by k to r. -/
def St (G : Gd) (nt : Nat) (ρ : Ren) (w0 : World) (k : K) (r : DV × Hp) (a : Act) (w : World) : Prop :=
  ∃ ρ' env h, Ex G ρ ρ' ∧ HR G ρ' h w ∧ EnvR ρ' env a ∧ Kp G w0 w ∧ nt ≤ a.tmps.size ∧ a.defers = [] ∧ k env h = some r

def QQ (G : Gd) (nt : Nat) (ρ : Ren) (w0 : World) (X : Nat → K) (kr k : K) (r : DV × Hp) : Exit → Act → World → Prop
  | .normal, a, w => St G nt ρ w0 k r a w
  | .exit id, a, w => St G nt ρ w0 (X id) r a w
  | .ret, a, w => St G nt ρ w0 kr r a w
  | _, _, _ => False

theorem code_wp (K : OkC C rec) (hm : C.P.follows .mixedOrders = true) {ρ : Ren} {w0 : World} {r : DV × Hp} : ∀ (c : Code) (X : Nat → Dd.K) (kr k : Dd.K) (a : Act) (w : World),
    St G nt ρ w0 (codeD C rec nt n c X kr k) r a w → c.wp C.P (QQ G nt ρ w0 X kr k r) a w := by
  intro c
  induction c with
  | skip => intro X kr k a w h; exact wp_skip h
  | region id ops dr =>
    intro X kr k a w h
    obtain ⟨ρ', env, hp, h1, h2, h3, h4, h5, h6, h7⟩ := h
    change (Bool.rec (motive := fun _ => Dd.K) (opsD C rec nt ops ops.toList k) (Bool.rec (motive := fun _ => Dd.K) failK (drawK C rec nt ops k) (drawOk C.P ops)) dr) env hp = some r at h7
    cases dr with
    | true =>
      dsimp only at h7
      cases hok : drawOk C.P ops with
      | false => rw [hok] at h7; cases h7
      | true =>
        rw [hok] at h7
        exact draw_wp K hm hok h7 h2 h3 h5 h6 fun ρ2 env2 h2' a2 w2 e1 e2 e3 e4 e5 e6 e7 => ⟨ρ2, env2, h2', h1.trans e1, e2, e3, h4.trans e4, e5, e6, e7⟩
    | false =>
      simp only [cond_false] at h7
      obtain ⟨env', h', hr, hk⟩ := opsD_run ops.toList k env hp r h7
      refine wp_region ?_
      have := ops_wp (Q := QQ G nt ρ w0 X kr k r) K ops.toList 0 ρ' env hp a w (by simp) hr h2 h3 h5 h6 fun ρ2 a2 w2 e1 e2 e3 e4 e5 e6 => ⟨ρ2, env', h', h1.trans e1, e2, e3, h4.trans e4, e5, e6, hk⟩
      rw [List.range_eq_range']
      simpa using this
  | seq x y ihx ihy =>
    intro X kr k a w h
    refine wp_seq (wp_mono (ihx X kr (codeD C rec nt n y X kr k) a w h) fun e a' w' hq => ?_)
    cases e with
    | normal => exact ihy X kr k a' w' hq
    | exit id => exact hq
    | ret => exact hq
    | goto l => exact hq
    | panic ch => exact hq
    | outgrown => exact hq
  | cond c x y ihx ihy =>
    intro X kr k a w h
    obtain ⟨ρ', env, hp, h1, h2, h3, h4, h5, h6, h7⟩ := h
    change ifD (opr env c) (codeD C rec nt n x X kr k env hp) (codeD C rec nt n y X kr k env hp) = some r at h7
    have hc := opr_ok h3 c
    unfold ifD at h7
    split at h7 <;> (try (cases h7; done))
    · rename_i hcb
      rw [hcb] at hc
      generalize hcv : a.eval c = cv at hc
      cases hc
      exact wp_cond_true hcv (ihx X kr k a w ⟨ρ', env, hp, h1, h2, h3, h4, h5, h6, h7⟩)
    · rename_i hcb
      rw [hcb] at hc
      generalize hcv : a.eval c = cv at hc
      cases hc
      exact wp_cond_false hcv (ihy X kr k a w ⟨ρ', env, hp, h1, h2, h3, h4, h5, h6, h7⟩)
  | block id x ih =>
    intro X kr k a w h
    refine wp_block (wp_mono (ih (fun j => bif Nat.beq j id then k else X j) kr k a w h) fun e a' w' hq => ?_)
    cases e with
    | normal => exact hq
    | exit id' =>
      simp only [QQ] at hq
      simp only [Exit.inBlock, QQ]
      split
      · rename_i e
        subst e
        have hb : Nat.beq id' id' = true := Nat.beq_refl id'
        rw [hb] at hq
        exact hq
      · rename_i e
        have : Nat.beq id' id = false := by
          cases hb : Nat.beq id' id with
          | false => rfl
          | true => exact absurd (Nat.eq_of_beq_eq_true hb) e
        rw [this] at hq
        exact hq
    | ret => exact hq
    | goto l => exact hq
    | panic ch => exact hq
    | outgrown => exact hq
  | loop x ih =>
    intro X kr k a w h
    have key : ∀ (m : Nat) (a : Act) (w : World), St G nt ρ w0 (loopN (fun kk => codeD C rec nt n x X kr kk) m) r a w → Code.rounds C.P x (QQ G nt ρ w0 X kr k r) m a w := by
      intro m
      induction m with
      | zero =>
        rintro a w ⟨ρ', env, hp, h1, h2, h3, h4, h5, h6, h7⟩
        cases h7
      | succ m ihm =>
        intro a w hs
        rw [rounds_succ]
        refine wp_mono (ih X kr (loopN (fun kk => codeD C rec nt n x X kr kk) m) a w hs) fun e a' w' hq => ?_
        cases e with
        | normal => exact ihm a' w' hq
        | exit id => exact hq
        | ret => exact hq
        | goto l => exact hq
        | panic ch => exact hq
        | outgrown => exact hq
    exact wp_loop_rounds n (key n a w h)
  | rangeFunc f ps x y ihx ihy =>
    rintro X kr k a w ⟨ρ', env, hp, h1, h2, h3, h4, h5, h6, h7⟩
    cases h7
  | exit id => intro X kr k a w h; exact wp_exit h
  | scope x ih =>
    intro X kr k a w h
    refine wp_scope_straight (wp_mono (ih X kr k a w h) fun e a' w' hq => ?_)
    cases e with
    | goto l => exact hq
    | normal => exact hq
    | exit id => exact hq
    | ret => exact hq
    | panic ch => exact hq
    | outgrown => exact hq
  | label l => intro X kr k a w h; exact wp_label h
  | goto l =>
    rintro X kr k a w ⟨ρ', env, hp, h1, h2, h3, h4, h5, h6, h7⟩
    cases h7
  | ret => intro X kr k a w h; exact wp_ret h
  | refuse why =>
    rintro X kr k a w ⟨ρ', env, hp, h1, h2, h3, h4, h5, h6, h7⟩
    cases h7

/-! ### Results -/

def resSem (tmps : Array Value) (rv : ResultVar) : Sem Value :=
  match rv with
  | .tmp t => pure (tmps.getD t undef)
  | .cell q t => do loadVar t (← asAddr (tmps.getD q undef))

theorem results_eq (fn : Func) (tmps : Array Value) : results fn tmps = (do
    let vs ← fn.results.mapM (resSem tmps)
    pure (if h : vs.size = 1 then vs[0] else .tuple vs)) := by
  unfold results
  congr 2

theorem loadK_ok {ρ : Ren} {w : World} {h : Hp} {x : DV} {x' : Value} {t : TypeId} {k : DV → Res} {r : DV × Hp} (H : HR G ρ h w) (hx : VR ρ x x') (hr : loadK C t x h k = some r) :
    ∃ v v', (do loadVar t (← asAddr x') : Sem Value).run C.P w = .ok v' w ∧ VR ρ v v' ∧ k v = some r := by
  unfold loadK at hr
  split at hr <;> (try (cases hr; done))
  rename_i d i ht hi
  obtain ⟨v, h', hl, hk⟩ := bnd_some hr
  have hconv : ∀ b o, x = .p b o → (Instr.loadAt t x') = (do loadVar t (← asAddr x')) := by
    rintro b o rfl
    cases hx
    simp [Instr.loadAt, Instr.sureAddr, asAddr]
  cases hd : isAgD d with
  | true =>
    rw [hd] at hl
    simp only [cond_true] at hl
    unfold pLoadA at hl
    split at hl <;> (try (cases hl; done))
    rename_i b o
    split at hl <;> (try (cases hl; done))
    rename_i cs hc
    simp only [Option.some.injEq, Prod.mk.injEq] at hl
    obtain ⟨rfl, _⟩ := hl
    cases hx with
    | p _ _ L hL =>
      obtain ⟨c1, c2, _, vs, c4, c5, c6⟩ := cellsAt_spec H hc hL
      have hrun := run_loadCells_ok (P := C.P) vs rfl c6
      rw [c5] at hrun
      refine ⟨_, .agg vs.toArray, ?_, .a cs vs.toArray (by simpa using c4), hk⟩
      simp only [asAddr, Sem.run_bind, Sem.run_pure, Result.andThen_ok, loadVar, rA ht, hd, if_true, rS hi, hrun]
  | false =>
    rw [hd] at hl
    simp only [cond_false] at hl
    unfold pLoad1 at hl
    split at hl <;> (try (cases hl; done))
    rename_i b o
    split at hl <;> (try (cases hl; done))
    rename_i u' hc
    simp only [Option.some.injEq, Prod.mk.injEq] at hl
    obtain ⟨rfl, _⟩ := hl
    cases hx with
    | p _ _ L hL =>
      unfold cellD rowOf at hc
      split at hc <;> (try (cases hc; done))
      rename_i l hl
      split at hl <;> (try (cases hl; done))
      rename_i kd l0 hb
      simp only [Option.some.injEq] at hl
      subst hl
      split at hc <;> (try (cases hc; done))
      rename_i u0 hu
      split at hc <;> (try (cases hc; done))
      rename_i ho
      simp only [Option.some.injEq] at hc
      subst hc
      obtain ⟨v', h5, h6⟩ := H.cell b kd l0 L o u0 hb hL hu ho
      refine ⟨_, v', ?_, h6, hk⟩
      simp only [asAddr, Sem.run_bind, Sem.run_pure, Result.andThen_ok, loadVar, rA ht, hd, Bool.false_eq_true, if_false, run_load, h5]

theorem retGo_ok {ρ : Ren} {w : World} {h : Hp} {env : Env} {a : Act} (H : HR G ρ h w) (he : EnvR ρ env a) {r : DV × Hp} : ∀ (l : List ResultVar) (k : List DV → Res), retGo C env h l k = some r →
    ∃ vs vs', (l.mapM (resSem a.tmps)).run C.P w = .ok vs' w ∧ VRs ρ vs vs' ∧ k vs = some r
  | [], k, hr => ⟨[], [], by simp, .nil, hr⟩
  | .tmp t :: l, k, hr => by
    obtain ⟨vs, vs', h1, h2, h3⟩ := retGo_ok H he l (fun vs => k (env t :: vs)) hr
    refine ⟨env t :: vs, a.tmps.getD t undef :: vs', ?_, .cons _ _ _ _ (he t) h2, h3⟩
    simp only [List.mapM_cons, Sem.run_bind, resSem, Result.andThen_ok, h1, Sem.run_pure]
  | .cell q t :: l, k, hr => by
    obtain ⟨v, v', h1, h2, h3⟩ := loadK_ok (x' := a.tmps.getD q undef) H (he q) hr
    obtain ⟨vs, vs', h4, h5, h6⟩ := retGo_ok H he l (fun vs => k (v :: vs)) h3
    refine ⟨v :: vs, v' :: vs', ?_, .cons _ _ _ _ h2 h5, h6⟩
    simp only [List.mapM_cons, Sem.run_bind, resSem] at h1 ⊢
    simp only [h1, Result.andThen_ok, h4, Sem.run_pure]

theorem retK_ok {ρ : Ren} {w : World} {h h1 : Hp} {env : Env} {a : Act} (H : HR G ρ h w) (he : EnvR ρ env a) {fn : Func} {v : DV} (hr : retK C fn env h = some (v, h1)) :
    h1 = h ∧ ∃ v', (results fn a.tmps).run C.P w = .ok v' w ∧ VR ρ v v' := by
  obtain ⟨us, vs', h2, h3, hk⟩ := retGo_ok H he _ _ hr
  unfold doneK at hk
  split at hk
  · rename_i u
    simp only [Option.some.injEq, Prod.mk.injEq] at hk
    obtain ⟨rfl, rfl⟩ := hk
    cases h3 with
    | cons _ v' _ l' hv hn =>
      cases hn
      refine ⟨rfl, v', ?_, hv⟩
      rw [results_eq, Array.mapM_eq_mapM_toList]
      simp only [Sem.run_bind, Sem.run_map, h2, Result.andThen_ok, Sem.run_pure]
      simp
  · rename_i hne
    simp only [Option.some.injEq, Prod.mk.injEq] at hk
    obtain ⟨rfl, rfl⟩ := hk
    have hl := h3.length
    have hne1 : vs'.length ≠ 1 := by
      intro e
      rw [e] at hl
      match us, hl with
      | [x], _ => exact hne x rfl
    refine ⟨rfl, .tuple vs'.toArray, ?_, .t _ _ (by simpa using h3)⟩
    rw [results_eq, Array.mapM_eq_mapM_toList]
    simp only [Sem.run_bind, Sem.run_map, h2, Result.andThen_ok, Sem.run_pure]
    rw [dif_neg (by simpa using hne1)]

/-- What is asked of a program. -/
structure POk (P : Program) : Prop where
  mixed : P.follows .mixedOrders = true
  names : ∀ (f : Nat) (fn : Func), P.funcs[f]? = some fn → (fn.name == "runtime.NumGoroutine") = false

theorem body_ok (K : OkC C rec) (hP : POk C.P) (n : Nat) (f : FuncId) : FnOk C.P G f (bodyD C rec n f) := by
  intro args h v h1 hr ρ w args' H hargs
  unfold bodyD at hr
  split at hr <;> (try (cases hr; done))
  rename_i fn hf
  split at hr <;> (try (cases hr; done))
  rename_i c hb
  refine .inl ⟨?_, ?_⟩
  · unfold callFunc
    have hn : ¬ fn.name = "runtime.NumGoroutine" := by simpa using hP.names f fn hf
    simp [hf, hn, hb]
  · refine calls_of_wp hf hb ?_
    have he : EnvR ρ (argsE args) { tmps := args' ++ Array.replicate (fn.ntmps - args'.size) undef, defers := [] } := by
      intro t
      unfold argsE
      have hlen := hargs.length
      simp only [Array.length_toList] at hlen
      by_cases ht : t < args.length
      · have hg : args[t]? = some args[t] := by simp [ht]
        obtain ⟨v', h2, h3⟩ := hargs.get t _ hg
        simp only [Array.getElem?_toList] at h2
        rw [show args.getD t undefD = args[t] by simp [List.getD, hg]]
        have : (args' ++ Array.replicate (fn.ntmps - args'.size) undef).getD t undef = v' := by
          simp [Array.getElem?_append_left (show t < args'.size by omega), h2]
        rw [this]
        exact h3
      · have hg : args.getD t undefD = undefD := by simp [List.getD, List.getElem?_eq_none (Nat.le_of_not_lt ht)]
        rw [hg]
        have : (args' ++ Array.replicate (fn.ntmps - args'.size) undef).getD t undef = undef := by
          rw [Array.getD_eq_getD_getElem?, Array.getElem?_append_right (by omega)]
          simp only [Array.getElem?_replicate]
          split <;> rfl
        rw [this]
        exact .t [] #[] .nil
    have hst : St G fn.ntmps ρ w (codeD C rec fn.ntmps n c (fun _ => failK) (retK C fn) (retK C fn)) (v, h1) { tmps := args' ++ Array.replicate (fn.ntmps - args'.size) undef, defers := [] } w :=
      ⟨ρ, argsE args, h, Ex.refl G ρ, H, he, Kp.refl G w, by simp; omega, rfl, hr⟩
    refine wp_mono (code_wp K hP.mixed c _ _ _ _ _ hst) fun e a' w' hq => ?_
    have hfin : St G fn.ntmps ρ w (retK C fn) (v, h1) a' w' → a'.defers = [] ∧ ∃ v', (results fn a'.tmps).run C.P w' = .ok v' w' ∧ Post G ρ w v h1 (.returned v') w' := by
      rintro ⟨ρ', env, h', e1, e2, e3, e4, e5, e6, e7⟩
      obtain ⟨rfl, v', r1, r2⟩ := retK_ok e2 e3 e7
      exact ⟨e6, v', r1, ρ', v', rfl, e1, r2, e2, e4⟩
    cases e with
    | normal => exact hfin hq
    | ret => exact hfin hq
    | exit id =>
      obtain ⟨ρ', env, h', e1, e2, e3, e4, e5, e6, e7⟩ := hq
      cases e7
    | goto l => exact hq.elim
    | panic ch => exact hq.elim
    | outgrown => exact hq.elim

theorem fnD_ok (hP : POk C.P) (hI : ∀ G g F, C.I g = some F → FnOk C.P G g F) : ∀ (n : Nat) (G : Gd) (f : FuncId), FnOk C.P G f (fnD C n f)
  | 0, G, f => fun args h v h1 hr => by cases hr
  | n + 1, G, f => body_ok (rec := fnD C n) ⟨hI, fun G g => fnD_ok hP hI n G g⟩ hP n f

end
end Go.Dd

/- Dd, part Q (printed by gen.py): the functions of the seat's program as Lean functions, linked to Dd. -/
set_option linter.unusedVariables false
set_option maxRecDepth 100000
namespace Go.Dd
open Go.Proofs

def cf (f : Func) : Code := match f.body with
  | some c => c
  | none => .skip
def cL : Code → Code
  | .seq a _ => a
  | .cond _ a _ => a
  | .block _ a => a
  | .loop a => a
  | .scope a => a
  | c => c
def cR : Code → Code
  | .seq _ b => b
  | .cond _ _ b => b
  | c => c
def cC : Code → Operand
  | .cond c _ _ => c
  | _ => .const .nilFunc

def x0 : Nat → K := fun _ => failK
def xs (X : Nat → K) (i : Nat) (k : K) : Nat → K := fun j => bif Nat.beq j i then k else X j

def idxGo (c : Nat) : List Nat → Nat → Int
  | [], _ => .negSucc 0
  | x :: l, i => bif Nat.beq x c then .ofNat i else idxGo c l (i + 1)

def idxF (args : List DV) (h : Hp) : Res :=
  match args with
  | [.s l, .i .u8 (.ofNat c)] => bif Nat.blt c 256 then some (.i .i64 (idxGo c l 0), h) else none
  | _ => none

noncomputable def CF : Cfg := ⟨Try.prog, fun g => bif Nat.beq g 77 then some idxF else none⟩

abbrev RT := FuncId → List DV → Hp → Res
abbrev TT0 := Hp → Res
abbrev TT1 := DV → Hp → Res
abbrev TT2 := DV → DV → Hp → Res
abbrev TT3 := DV → DV → DV → Hp → Res
abbrev TT4 := DV → DV → DV → DV → Hp → Res
abbrev TT5 := DV → DV → DV → DV → DV → Hp → Res
abbrev TT6 := DV → DV → DV → DV → DV → DV → Hp → Res
abbrev TT7 := DV → DV → DV → DV → DV → DV → DV → Hp → Res
abbrev TT8 := DV → DV → DV → DV → DV → DV → DV → DV → Hp → Res
abbrev TT9 := DV → DV → DV → DV → DV → DV → DV → DV → DV → Hp → Res
abbrev TT10 := DV → DV → DV → DV → DV → DV → DV → DV → DV → DV → Hp → Res
abbrev TT11 := DV → DV → DV → DV → DV → DV → DV → DV → DV → DV → DV → Hp → Res
abbrev TT12 := DV → DV → DV → DV → DV → DV → DV → DV → DV → DV → DV → DV → Hp → Res
abbrev TT13 := DV → DV → DV → DV → DV → DV → DV → DV → DV → DV → DV → DV → DV → Hp → Res
abbrev TT14 := DV → DV → DV → DV → DV → DV → DV → DV → DV → DV → DV → DV → DV → DV → Hp → Res
abbrev TT15 := DV → DV → DV → DV → DV → DV → DV → DV → DV → DV → DV → DV → DV → DV → DV → Hp → Res
abbrev TT16 := DV → DV → DV → DV → DV → DV → DV → DV → DV → DV → DV → DV → DV → DV → DV → DV → Hp → Res
abbrev TT17 := DV → DV → DV → DV → DV → DV → DV → DV → DV → DV → DV → DV → DV → DV → DV → DV → DV → Hp → Res
abbrev TT18 := DV → DV → DV → DV → DV → DV → DV → DV → DV → DV → DV → DV → DV → DV → DV → DV → DV → DV → Hp → Res
abbrev TT19 := DV → DV → DV → DV → DV → DV → DV → DV → DV → DV → DV → DV → DV → DV → DV → DV → DV → DV → DV → Hp → Res
abbrev TT20 := DV → DV → DV → DV → DV → DV → DV → DV → DV → DV → DV → DV → DV → DV → DV → DV → DV → DV → DV → DV → Hp → Res
abbrev K0 (f : TT0) : K := fun env h => f h
abbrev K1 (f : TT1) (a0 : Nat) : K := fun env h => f (env a0) h
abbrev K2 (f : TT2) (a0 a1 : Nat) : K := fun env h => f (env a0) (env a1) h
abbrev K3 (f : TT3) (a0 a1 a2 : Nat) : K := fun env h => f (env a0) (env a1) (env a2) h
abbrev K4 (f : TT4) (a0 a1 a2 a3 : Nat) : K := fun env h => f (env a0) (env a1) (env a2) (env a3) h
abbrev K5 (f : TT5) (a0 a1 a2 a3 a4 : Nat) : K := fun env h => f (env a0) (env a1) (env a2) (env a3) (env a4) h
abbrev K6 (f : TT6) (a0 a1 a2 a3 a4 a5 : Nat) : K := fun env h => f (env a0) (env a1) (env a2) (env a3) (env a4) (env a5) h
abbrev K7 (f : TT7) (a0 a1 a2 a3 a4 a5 a6 : Nat) : K := fun env h => f (env a0) (env a1) (env a2) (env a3) (env a4) (env a5) (env a6) h
abbrev K8 (f : TT8) (a0 a1 a2 a3 a4 a5 a6 a7 : Nat) : K := fun env h => f (env a0) (env a1) (env a2) (env a3) (env a4) (env a5) (env a6) (env a7) h
abbrev K9 (f : TT9) (a0 a1 a2 a3 a4 a5 a6 a7 a8 : Nat) : K := fun env h => f (env a0) (env a1) (env a2) (env a3) (env a4) (env a5) (env a6) (env a7) (env a8) h
abbrev K10 (f : TT10) (a0 a1 a2 a3 a4 a5 a6 a7 a8 a9 : Nat) : K := fun env h => f (env a0) (env a1) (env a2) (env a3) (env a4) (env a5) (env a6) (env a7) (env a8) (env a9) h
abbrev K11 (f : TT11) (a0 a1 a2 a3 a4 a5 a6 a7 a8 a9 a10 : Nat) : K := fun env h => f (env a0) (env a1) (env a2) (env a3) (env a4) (env a5) (env a6) (env a7) (env a8) (env a9) (env a10) h
abbrev K12 (f : TT12) (a0 a1 a2 a3 a4 a5 a6 a7 a8 a9 a10 a11 : Nat) : K := fun env h => f (env a0) (env a1) (env a2) (env a3) (env a4) (env a5) (env a6) (env a7) (env a8) (env a9) (env a10) (env a11) h
abbrev K13 (f : TT13) (a0 a1 a2 a3 a4 a5 a6 a7 a8 a9 a10 a11 a12 : Nat) : K := fun env h => f (env a0) (env a1) (env a2) (env a3) (env a4) (env a5) (env a6) (env a7) (env a8) (env a9) (env a10) (env a11) (env a12) h
abbrev K14 (f : TT14) (a0 a1 a2 a3 a4 a5 a6 a7 a8 a9 a10 a11 a12 a13 : Nat) : K := fun env h => f (env a0) (env a1) (env a2) (env a3) (env a4) (env a5) (env a6) (env a7) (env a8) (env a9) (env a10) (env a11) (env a12) (env a13) h
abbrev K15 (f : TT15) (a0 a1 a2 a3 a4 a5 a6 a7 a8 a9 a10 a11 a12 a13 a14 : Nat) : K := fun env h => f (env a0) (env a1) (env a2) (env a3) (env a4) (env a5) (env a6) (env a7) (env a8) (env a9) (env a10) (env a11) (env a12) (env a13) (env a14) h
abbrev K16 (f : TT16) (a0 a1 a2 a3 a4 a5 a6 a7 a8 a9 a10 a11 a12 a13 a14 a15 : Nat) : K := fun env h => f (env a0) (env a1) (env a2) (env a3) (env a4) (env a5) (env a6) (env a7) (env a8) (env a9) (env a10) (env a11) (env a12) (env a13) (env a14) (env a15) h
abbrev K17 (f : TT17) (a0 a1 a2 a3 a4 a5 a6 a7 a8 a9 a10 a11 a12 a13 a14 a15 a16 : Nat) : K := fun env h => f (env a0) (env a1) (env a2) (env a3) (env a4) (env a5) (env a6) (env a7) (env a8) (env a9) (env a10) (env a11) (env a12) (env a13) (env a14) (env a15) (env a16) h
abbrev K18 (f : TT18) (a0 a1 a2 a3 a4 a5 a6 a7 a8 a9 a10 a11 a12 a13 a14 a15 a16 a17 : Nat) : K := fun env h => f (env a0) (env a1) (env a2) (env a3) (env a4) (env a5) (env a6) (env a7) (env a8) (env a9) (env a10) (env a11) (env a12) (env a13) (env a14) (env a15) (env a16) (env a17) h
abbrev K19 (f : TT19) (a0 a1 a2 a3 a4 a5 a6 a7 a8 a9 a10 a11 a12 a13 a14 a15 a16 a17 a18 : Nat) : K := fun env h => f (env a0) (env a1) (env a2) (env a3) (env a4) (env a5) (env a6) (env a7) (env a8) (env a9) (env a10) (env a11) (env a12) (env a13) (env a14) (env a15) (env a16) (env a17) (env a18) h
abbrev K20 (f : TT20) (a0 a1 a2 a3 a4 a5 a6 a7 a8 a9 a10 a11 a12 a13 a14 a15 a16 a17 a18 a19 : Nat) : K := fun env h => f (env a0) (env a1) (env a2) (env a3) (env a4) (env a5) (env a6) (env a7) (env a8) (env a9) (env a10) (env a11) (env a12) (env a13) (env a14) (env a15) (env a16) (env a17) (env a18) (env a19) h

end Go.Dd

/- Dd, part Q0 (printed by gen.py): functions of the seat's program as Lean functions, linked to Dd. -/
set_option linter.unusedVariables false
set_option maxRecDepth 100000
namespace Go.Dd
open Go.Proofs

variable (rec : RT) (n : Nat)

noncomputable def s4a8 (rec : RT) (n : Nat) (x3 x9 : DV) (h0 : Hp) : Res :=
  bnd (pLenS x9 h0) fun v1 h1 =>
  bnd (pInt .gtr v1 (.i .i64 (Int.ofNat 2000)) h1) fun v2 h2 =>
  ifD v2 (
    bnd (rec 9 [] h2) fun v3 h3 =>
    some (v3, h3)) (
    bnd (rec 8 [x9] h2) fun v4 h4 =>
    bnd (pExtract 0 v4 h4) fun v5 h5 =>
    bnd (pExtract 1 v4 h5) fun v6 h6 =>
    bnd (pExtract 2 v4 h6) fun v7 h7 =>
    bnd (pNew [(.i .i64 (Int.ofNat 0)), (.s []), (.i .i64 (Int.ofNat 0)), .l0, .l0, .l0] h7) fun v8 h8 =>
    bnd (pStore 6 v8 v5 h8) fun _ h9 =>
    bnd (pInt .eql v7 (.i .i64 (Int.ofNat 0)) h9) fun v10 h10 =>
    bnd (gD v10 true (pLoadA 6 x3 h10) h10) fun v11 h11 =>
    bnd (gD v10 true (pLoadA 6 v8 h11) h11) fun v12 h12 =>
    bnd (gD v10 true (rec 11 [v11, v12] h12) h12) fun v13 h13 =>
    bnd (pPick v10 v13 (.b false) h13) fun v14 h14 =>
    bnd (gD v14 true (rec 9 [] h14) h14) fun v15 h15 =>
    bnd (pPick v14 v15 (.b false) h15) fun v16 h16 =>
    some (v16, h16))

noncomputable def s4a12 (rec : RT) (n : Nat) (kk10 : TT5) (x0 x3 x6 x9 x10 : DV) (h0 : Hp) : Res :=
  bnd (pInt .add x10 (.i .i64 (Int.ofNat 1)) h0) fun v33 h33 =>
  kk10 x0 x3 x6 x9 v33 h33

noncomputable def s4a11 (rec : RT) (n : Nat) (kk10 : TT5) (x0 x3 x6 x9 x10 : DV) (h0 : Hp) : Res :=
  bnd (pIndexAddr 4 x6 x10 h0) fun v35 h35 =>
  bnd (pField 3 v35 h35) fun v36 h36 =>
  bnd (pLoad1 v36 h36) fun v37 h37 =>
  bnd (pInt .add x10 (.i .i64 (Int.ofNat 1)) h37) fun v38 h38 =>
  bnd (pIndexAddr 4 x6 v38 h38) fun v39 h39 =>
  bnd (pField 3 v39 h39) fun v40 h40 =>
  bnd (pLoad1 v40 h40) fun v41 h41 =>
  bnd (pSliceS x0 (some v37) (some v41) h41) fun v42 h42 =>
  bnd (pStr .add x9 v42 h42) fun v43 h43 =>
  bnd (pIndexAddr 4 x6 x10 h43) fun v44 h44 =>
  bnd (pField 0 v44 h44) fun v45 h45 =>
  bnd (pLoad1 v45 h45) fun v46 h46 =>
  bnd (pInt .neq v46 (.i .i64 (Int.ofNat 3)) h46) fun v47 h47 =>
  bnd (gD v47 false (some (x6, h47)) h47) fun v48 h48 =>
  bnd (gD v47 false (some (x10, h48)) h48) fun v49 h49 =>
  bnd (gD v47 false (pInt .add v49 (.i .i64 (Int.ofNat 1)) h49) h49) fun v50 h50 =>
  bnd (gD v47 false (pIndexAddr 4 v48 v50 h50) h50) fun v51 h51 =>
  bnd (gD v47 false (pField 0 v51 h51) h51) fun v52 h52 =>
  bnd (gD v47 false (pLoad1 v52 h52) h52) fun v53 h53 =>
  bnd (gD v47 false (pInt .neq v53 (.i .i64 (Int.ofNat 4)) h53) h53) fun v54 h54 =>
  bnd (pPick v47 (.b true) v54 h54) fun v55 h55 =>
  ifD v55 (
    bnd (pStr .add v43 (.s [32, 34, 114, 34, 32]) h55) fun v56 h56 =>
    s4a12 rec n kk10 x0 x3 x6 v56 x10 h56) (
    s4a12 rec n kk10 x0 x3 x6 v43 x10 h55)

noncomputable def s4a10b (rec : RT) (n : Nat) (kk10 : TT5) (x0 x3 x6 x9 x10 : DV) (h0 : Hp) : Res :=
    bnd (pInt .add x10 (.i .i64 (Int.ofNat 1)) h0) fun v79 h79 =>
    bnd (pLen x6 h79) fun v80 h80 =>
    bnd (pInt .lss v79 v80 h80) fun v81 h81 =>
    ifD v81 (
      s4a11 rec n kk10 x0 x3 x6 x9 x10 h81) (
      s4a8 rec n x3 x9 h81)

noncomputable def s4a10l (rec : RT) (n : Nat) (m : Nat) : TT5 :=
  Nat.rec (motive := fun _ => TT5) (fun _ _ _ _ _ _ => none) (fun _ ih => s4a10b rec n ih) m

noncomputable def s4a10 (rec : RT) (n : Nat) : TT5 := s4a10l rec n n

noncomputable def s4a9 (rec : RT) (n : Nat) (x0 x3 x6 x9 x10 : DV) (h0 : Hp) : Res :=
  s4a10 rec n x0 x3 x6 x9 x10 h0

noncomputable def s4a7 (rec : RT) (n : Nat) (x0 x3 x6 x9 : DV) (h0 : Hp) : Res :=
  s4a9 rec n x0 x3 x6 x9 (.i .i64 (Int.ofNat 0)) h0

noncomputable def s4a6 (rec : RT) (n : Nat) (x0 x3 x6 : DV) (h0 : Hp) : Res :=
  s4a7 rec n x0 x3 x6 (.s []) h0

noncomputable def s4a5 (rec : RT) (n : Nat) (x0 x3 x6 x8 : DV) (h0 : Hp) : Res :=
  bnd (pInt .neq x8 (.i .i64 (Int.ofNat 0)) h0) fun v85 h85 =>
  ifD v85 (
    some ((.b false), h85)) (
    s4a6 rec n x0 x3 x6 h85)

noncomputable def s4a4 (rec : RT) (n : Nat) (x0 x3 : DV) (h0 : Hp) : Res :=
  bnd (rec 10 [x0] h0) fun v87 h87 =>
  bnd (pExtract 0 v87 h87) fun v88 h88 =>
  bnd (pExtract 1 v87 h88) fun v89 h89 =>
  bnd (pExtract 2 v87 h89) fun v90 h90 =>
  s4a5 rec n x0 x3 v88 v90 h90

noncomputable def s4a3 (rec : RT) (n : Nat) (x0 x3 x5 : DV) (h0 : Hp) : Res :=
  bnd (pInt .neq x5 (.i .i64 (Int.ofNat 0)) h0) fun v95 h95 =>
  ifD v95 (
    bnd (rec 9 [] h95) fun v96 h96 =>
    some (v96, h96)) (
    s4a4 rec n x0 x3 h95)

noncomputable def s4a2 (rec : RT) (n : Nat) (x0 : DV) (h0 : Hp) : Res :=
  bnd (rec 8 [x0] h0) fun v99 h99 =>
  bnd (pExtract 0 v99 h99) fun v100 h100 =>
  bnd (pExtract 1 v99 h100) fun v101 h101 =>
  bnd (pExtract 2 v99 h101) fun v102 h102 =>
  bnd (pNew [(.i .i64 (Int.ofNat 0)), (.s []), (.i .i64 (Int.ofNat 0)), .l0, .l0, .l0] h102) fun v103 h103 =>
  bnd (pStore 6 v103 v100 h103) fun _ h104 =>
  s4a3 rec n x0 v103 v102 h104

noncomputable def s4a1 (rec : RT) (n : Nat) (x0 : DV) (h0 : Hp) : Res :=
  bnd (pLenS x0 h0) fun v123 h123 =>
  bnd (pInt .gtr v123 (.i .i64 (Int.ofNat 300)) h123) fun v124 h124 =>
  ifD v124 (
    bnd (pSliceS x0 none (some (.i .i64 (Int.ofNat 300))) h124) fun v125 h125 =>
    s4a2 rec n v125 h125) (
    s4a2 rec n x0 h124)

/-- vivariumlaw07.ParseBlanks -/
noncomputable def s4 (rec : RT) (n : Nat) (x0 : DV) (h0 : Hp) : Res :=
  s4a1 rec n x0 h0

noncomputable abbrev c4 : Code := cf Try.f4
noncomputable abbrev c4x1 : Code := cR c4
noncomputable abbrev c4x2 : Code := cR c4x1
noncomputable abbrev c4x3 : Code := cR c4x2
noncomputable abbrev c4x4 : Code := cR c4x3
noncomputable abbrev c4x5 : Code := cR c4x4
noncomputable abbrev c4x6 : Code := cR c4x5
noncomputable abbrev c4x7 : Code := cR c4x6
noncomputable abbrev c4x8 : Code := cR c4x7
noncomputable abbrev c4x9 : Code := cL c4x7
noncomputable abbrev c4x10 : Code := cR c4x9
noncomputable abbrev c4x11 : Code := cL c4x10
noncomputable abbrev c4x12 : Code := cL c4x11
noncomputable abbrev c4x13 : Code := cR c4x12
noncomputable abbrev c4x14 : Code := cR c4x13
noncomputable abbrev c4x15 : Code := cL c4x13
noncomputable abbrev c4x16 : Code := cL c4x12
noncomputable abbrev c4x17 : Code := cL c4x9
noncomputable abbrev c4x18 : Code := cL c4x6
noncomputable abbrev c4x19 : Code := cL c4x5
noncomputable abbrev c4x20 : Code := cL c4x4
noncomputable abbrev c4x21 : Code := cL c4x3
noncomputable abbrev c4x22 : Code := cL c4x2
noncomputable abbrev c4x23 : Code := cL c4x1
noncomputable abbrev c4x24 : Code := cL c4

noncomputable def D4 (rec : RT) (n : Nat) (c : Code) (X : Nat → K) (k : K) : K := codeD CF rec 95 n c X (retK CF Try.f4) k

theorem s4a8e : D4 rec n c4x8 x0 (retK CF Try.f4) = (K2 (s4a8 rec n) 3 9) :=
  (by kernel_rfl)

theorem s4a12e (kk10 : TT5) : D4 rec n c4x14 (xs x0 0 (K2 (s4a8 rec n) 3 9)) (K5 kk10 0 3 6 9 10) = (K5 (s4a12 rec n kk10) 0 3 6 9 10) :=
  (by kernel_rfl)

theorem s4a11p1 (kk10 : TT5) : D4 rec n c4x13 (xs x0 0 (K2 (s4a8 rec n) 3 9)) (K5 kk10 0 3 6 9 10) = D4 rec n c4x15 (xs x0 0 (K2 (s4a8 rec n) 3 9)) (K5 (s4a12 rec n kk10) 0 3 6 9 10) :=
  congrArg (fun k => D4 rec n c4x15 (xs x0 0 (K2 (s4a8 rec n) 3 9)) k) (s4a12e rec n kk10)

theorem s4a11e (kk10 : TT5) : D4 rec n c4x13 (xs x0 0 (K2 (s4a8 rec n) 3 9)) (K5 kk10 0 3 6 9 10) = (K5 (s4a11 rec n kk10) 0 3 6 9 10) :=
  (s4a11p1 rec n kk10).trans
  ((by kernel_rfl))

theorem s4a10p2 (kk10 : TT5) : D4 rec n c4x12 (xs x0 0 (K2 (s4a8 rec n) 3 9)) (K5 kk10 0 3 6 9 10) = D4 rec n c4x16 (xs x0 0 (K2 (s4a8 rec n) 3 9)) (K5 (s4a11 rec n kk10) 0 3 6 9 10) :=
  congrArg (fun k => D4 rec n c4x16 (xs x0 0 (K2 (s4a8 rec n) 3 9)) k) (s4a11e rec n kk10)

theorem s4a10be (kk10 : TT5) : D4 rec n c4x12 (xs x0 0 (K2 (s4a8 rec n) 3 9)) (K5 kk10 0 3 6 9 10) = (K5 (s4a10b rec n kk10) 0 3 6 9 10) :=
  (s4a10p2 rec n kk10).trans
  ((by kernel_rfl))

theorem s4a10le (m : Nat) : loopN (fun kk => D4 rec n c4x12 (xs x0 0 (K2 (s4a8 rec n) 3 9)) kk) m = (K5 (s4a10l rec n m) 0 3 6 9 10) := by
  induction m with
  | zero => exact (by kernel_rfl : loopN (fun kk => D4 rec n c4x12 (xs x0 0 (K2 (s4a8 rec n) 3 9)) kk) 0 = (K5 (s4a10l rec n 0) 0 3 6 9 10))
  | succ m ih =>
    refine (by kernel_rfl : loopN (fun kk => D4 rec n c4x12 (xs x0 0 (K2 (s4a8 rec n) 3 9)) kk) (m + 1) = D4 rec n c4x12 (xs x0 0 (K2 (s4a8 rec n) 3 9)) (loopN (fun kk => D4 rec n c4x12 (xs x0 0 (K2 (s4a8 rec n) 3 9)) kk) m)).trans ?_
    rw [ih]
    exact (s4a10be rec n (s4a10l rec n m)).trans (by kernel_rfl)

theorem s4a10e : D4 rec n c4x11 (xs x0 0 (K2 (s4a8 rec n) 3 9)) (K2 (s4a8 rec n) 3 9) = (K5 (s4a10 rec n) 0 3 6 9 10) :=
  (by kernel_rfl : D4 rec n c4x11 (xs x0 0 (K2 (s4a8 rec n) 3 9)) (K2 (s4a8 rec n) 3 9) = loopN (fun kk => D4 rec n c4x12 (xs x0 0 (K2 (s4a8 rec n) 3 9)) kk) n).trans ((s4a10le rec n n).trans (by kernel_rfl))

theorem s4a9e : D4 rec n c4x10 x0 (K2 (s4a8 rec n) 3 9) = (K5 (s4a9 rec n) 0 3 6 9 10) :=
  (by kernel_rfl : D4 rec n c4x10 x0 (K2 (s4a8 rec n) 3 9) = D4 rec n c4x11 (xs x0 0 (K2 (s4a8 rec n) 3 9)) (K2 (s4a8 rec n) 3 9)).trans
  ((s4a10e rec n).trans (by kernel_rfl))

theorem s4a7p3 : D4 rec n c4x7 x0 (retK CF Try.f4) = D4 rec n c4x9 x0 (K2 (s4a8 rec n) 3 9) :=
  congrArg (fun k => D4 rec n c4x9 x0 k) (s4a8e rec n)

theorem s4a7p4 : D4 rec n c4x9 x0 (K2 (s4a8 rec n) 3 9) = D4 rec n c4x17 x0 (K5 (s4a9 rec n) 0 3 6 9 10) :=
  congrArg (fun k => D4 rec n c4x17 x0 k) (s4a9e rec n)

theorem s4a7e : D4 rec n c4x7 x0 (retK CF Try.f4) = (K4 (s4a7 rec n) 0 3 6 9) :=
  (s4a7p3 rec n).trans
  ((s4a7p4 rec n).trans
  ((by kernel_rfl)))

theorem s4a6p5 : D4 rec n c4x6 x0 (retK CF Try.f4) = D4 rec n c4x18 x0 (K4 (s4a7 rec n) 0 3 6 9) :=
  congrArg (fun k => D4 rec n c4x18 x0 k) (s4a7e rec n)

theorem s4a6e : D4 rec n c4x6 x0 (retK CF Try.f4) = (K3 (s4a6 rec n) 0 3 6) :=
  (s4a6p5 rec n).trans
  ((by kernel_rfl))

theorem s4a5p6 : D4 rec n c4x5 x0 (retK CF Try.f4) = D4 rec n c4x19 x0 (K3 (s4a6 rec n) 0 3 6) :=
  congrArg (fun k => D4 rec n c4x19 x0 k) (s4a6e rec n)

theorem s4a5e : D4 rec n c4x5 x0 (retK CF Try.f4) = (K4 (s4a5 rec n) 0 3 6 8) :=
  (s4a5p6 rec n).trans
  ((by kernel_rfl))

theorem s4a4p7 : D4 rec n c4x4 x0 (retK CF Try.f4) = D4 rec n c4x20 x0 (K4 (s4a5 rec n) 0 3 6 8) :=
  congrArg (fun k => D4 rec n c4x20 x0 k) (s4a5e rec n)

theorem s4a4e : D4 rec n c4x4 x0 (retK CF Try.f4) = (K2 (s4a4 rec n) 0 3) :=
  (s4a4p7 rec n).trans
  ((by kernel_rfl))

theorem s4a3p8 : D4 rec n c4x3 x0 (retK CF Try.f4) = D4 rec n c4x21 x0 (K2 (s4a4 rec n) 0 3) :=
  congrArg (fun k => D4 rec n c4x21 x0 k) (s4a4e rec n)

theorem s4a3e : D4 rec n c4x3 x0 (retK CF Try.f4) = (K3 (s4a3 rec n) 0 3 5) :=
  (s4a3p8 rec n).trans
  ((by kernel_rfl))

theorem s4a2p9 : D4 rec n c4x2 x0 (retK CF Try.f4) = D4 rec n c4x22 x0 (K3 (s4a3 rec n) 0 3 5) :=
  congrArg (fun k => D4 rec n c4x22 x0 k) (s4a3e rec n)

theorem s4a2q10 (q0 : TT3) : D4 rec n c4x22 x0 (K3 q0 0 3 5) = fun (env : Env) (h : Hp) =>
    bnd (rec 8 [(env 0)] h) fun v111 h111 =>
    bnd (pExtract 0 v111 h111) fun v112 h112 =>
    bnd (pExtract 1 v111 h112) fun v113 h113 =>
    bnd (pExtract 2 v111 h113) fun v114 h114 =>
    bnd (pNew [(.i .i64 (Int.ofNat 0)), (.s []), (.i .i64 (Int.ofNat 0)), .l0, .l0, .l0] h114) fun v115 h115 =>
    bnd (pStore 6 v115 v112 h115) fun _ h116 =>
    q0 (env 0) v115 v114 h116 := by kernel_rfl

theorem s4a2q10u : (fun (env : Env) (h : Hp) =>
    bnd (rec 8 [(env 0)] h) fun v117 h117 =>
    bnd (pExtract 0 v117 h117) fun v118 h118 =>
    bnd (pExtract 1 v117 h118) fun v119 h119 =>
    bnd (pExtract 2 v117 h119) fun v120 h120 =>
    bnd (pNew [(.i .i64 (Int.ofNat 0)), (.s []), (.i .i64 (Int.ofNat 0)), .l0, .l0, .l0] h120) fun v121 h121 =>
    bnd (pStore 6 v121 v118 h121) fun _ h122 =>
    s4a3 rec n (env 0) v121 v120 h122) = (K1 (s4a2 rec n) 0) := by kernel_rfl

theorem s4a2e : D4 rec n c4x2 x0 (retK CF Try.f4) = (K1 (s4a2 rec n) 0) :=
  (s4a2p9 rec n).trans
  ((s4a2q10 rec n (s4a3 rec n)).trans (s4a2q10u rec n))

theorem s4a1p11 : D4 rec n c4x1 x0 (retK CF Try.f4) = D4 rec n c4x23 x0 (K1 (s4a2 rec n) 0) :=
  congrArg (fun k => D4 rec n c4x23 x0 k) (s4a2e rec n)

theorem s4a1e : D4 rec n c4x1 x0 (retK CF Try.f4) = (K1 (s4a1 rec n) 0) :=
  (s4a1p11 rec n).trans
  ((by kernel_rfl))

theorem s4p12 : D4 rec n c4 x0 (retK CF Try.f4) = D4 rec n c4x24 x0 (K1 (s4a1 rec n) 0) :=
  congrArg (fun k => D4 rec n c4x24 x0 k) (s4a1e rec n)

theorem s4m : D4 rec n c4 x0 (retK CF Try.f4) = (K1 (s4 rec n) 0) :=
  (s4p12 rec n).trans
  ((by kernel_rfl))

theorem s4ok (args : List DV) (h : Hp) : bodyD CF rec n 4 args h = s4 rec n (args.getD 0 undefD) h :=
  (by kernel_rfl : bodyD CF rec n 4 args h = D4 rec n c4 x0 (retK CF Try.f4) (argsE args) h).trans ((congrFun (congrFun (s4m rec n) (argsE args)) h).trans (by kernel_rfl))

noncomputable def s5a9 (rec : RT) (n : Nat) (x3 x9 x10 : DV) (h0 : Hp) : Res :=
  bnd (pLoadA 6 x3 h0) fun v1 h1 =>
  bnd (rec 12 [v1] h1) fun v2 h2 =>
  bnd (pInt .geq v2 x9 h2) fun v3 h3 =>
  bnd (gD v3 true (some (v2, h3)) h3) fun v4 h4 =>
  bnd (gD v3 true (some (x10, h4)) h4) fun v5 h5 =>
  bnd (gD v3 true (pInt .leq v4 v5 h5) h5) fun v6 h6 =>
  bnd (pPick v3 v6 (.b false) h6) fun v7 h7 =>
  bnd (gD v7 true (rec 9 [] h7) h7) fun v8 h8 =>
  bnd (pPick v7 v8 (.b false) h8) fun v9 h9 =>
  some (v9, h9)

noncomputable def s5a13 (rec : RT) (n : Nat) (kk11 : TT5) (x3 x6 x9 x10 x11 : DV) (h0 : Hp) : Res :=
  bnd (pInt .add x11 (.i .i64 (Int.ofNat 1)) h0) fun v19 h19 =>
  kk11 x3 x6 x9 x10 v19 h19

noncomputable def s5a15 (rec : RT) (n : Nat) (kk11 : TT5) (x3 x6 x9 x10 x11 x12 : DV) (h0 : Hp) : Res :=
  bnd (pInt .eql x12 (.i .i64 (Int.ofNat 2)) h0) fun v21 h21 =>
  bnd (gD v21 false (some (x12, h21)) h21) fun v22 h22 =>
  bnd (gD v21 false (pInt .eql v22 (.i .i64 (Int.ofNat 3)) h22) h22) fun v23 h23 =>
  bnd (pPick v21 (.b true) v23 h23) fun v24 h24 =>
  ifD v24 (
    bnd (pInt .add x10 (.i .i64 (Int.ofNat 1)) h24) fun v25 h25 =>
    s5a13 rec n kk11 x3 x6 x9 v25 x11 h25) (
    s5a13 rec n kk11 x3 x6 x9 x10 x11 h24)

noncomputable def s5a14 (rec : RT) (n : Nat) (kk11 : TT5) (x3 x6 x9 x10 x11 x12 : DV) (h0 : Hp) : Res :=
  bnd (pInt .eql x12 (.i .i64 (Int.ofNat 1)) h0) fun v31 h31 =>
  bnd (gD v31 false (some (x12, h31)) h31) fun v32 h32 =>
  bnd (gD v31 false (pInt .eql v32 (.i .i64 (Int.ofNat 4)) h32) h32) fun v33 h33 =>
  bnd (pPick v31 (.b true) v33 h33) fun v34 h34 =>
  bnd (gD v34 false (some (x12, h34)) h34) fun v35 h35 =>
  bnd (gD v34 false (pInt .eql v35 (.i .i64 (Int.ofNat 5)) h35) h35) fun v36 h36 =>
  bnd (pPick v34 (.b true) v36 h36) fun v37 h37 =>
  bnd (gD v37 false (some (x12, h37)) h37) fun v38 h38 =>
  bnd (gD v37 false (pInt .eql v38 (.i .i64 (Int.ofNat 6)) h38) h38) fun v39 h39 =>
  bnd (pPick v37 (.b true) v39 h39) fun v40 h40 =>
  bnd (gD v40 false (some (x12, h40)) h40) fun v41 h41 =>
  bnd (gD v40 false (pInt .eql v41 (.i .i64 (Int.ofNat 8)) h41) h41) fun v42 h42 =>
  bnd (pPick v40 (.b true) v42 h42) fun v43 h43 =>
  ifD v43 (
    bnd (pInt .add x9 (.i .i64 (Int.ofNat 1)) h43) fun v44 h44 =>
    bnd (pInt .add x10 (.i .i64 (Int.ofNat 1)) h44) fun v45 h45 =>
    s5a15 rec n kk11 x3 x6 v44 v45 x11 x12 h45) (
    s5a15 rec n kk11 x3 x6 x9 x10 x11 x12 h43)

noncomputable def s5a12 (rec : RT) (n : Nat) (kk11 : TT5) (x3 x6 x9 x10 x11 : DV) (h0 : Hp) : Res :=
  bnd (pIndexAddr 4 x6 x11 h0) fun v61 h61 =>
  bnd (pField 0 v61 h61) fun v62 h62 =>
  bnd (pLoad1 v62 h62) fun v63 h63 =>
  s5a14 rec n kk11 x3 x6 x9 x10 x11 v63 h63

noncomputable def s5a11b (rec : RT) (n : Nat) (kk11 : TT5) (x3 x6 x9 x10 x11 : DV) (h0 : Hp) : Res :=
    bnd (pLen x6 h0) fun v67 h67 =>
    bnd (pInt .lss x11 v67 h67) fun v68 h68 =>
    ifD v68 (
      s5a12 rec n kk11 x3 x6 x9 x10 x11 h68) (
      s5a9 rec n x3 x9 x10 h68)

noncomputable def s5a11l (rec : RT) (n : Nat) (m : Nat) : TT5 :=
  Nat.rec (motive := fun _ => TT5) (fun _ _ _ _ _ _ => none) (fun _ ih => s5a11b rec n ih) m

noncomputable def s5a11 (rec : RT) (n : Nat) : TT5 := s5a11l rec n n

noncomputable def s5a10 (rec : RT) (n : Nat) (x3 x6 x9 x10 x11 : DV) (h0 : Hp) : Res :=
  s5a11 rec n x3 x6 x9 x10 x11 h0

noncomputable def s5a8 (rec : RT) (n : Nat) (x3 x6 x9 x10 : DV) (h0 : Hp) : Res :=
  s5a10 rec n x3 x6 x9 x10 (.i .i64 (Int.ofNat 0)) h0

noncomputable def s5a7 (rec : RT) (n : Nat) (x3 x6 x9 : DV) (h0 : Hp) : Res :=
  s5a8 rec n x3 x6 x9 (.i .i64 (Int.ofNat 0)) h0

noncomputable def s5a6 (rec : RT) (n : Nat) (x3 x6 : DV) (h0 : Hp) : Res :=
  s5a7 rec n x3 x6 (.i .i64 (Int.ofNat 0)) h0

noncomputable def s5a5 (rec : RT) (n : Nat) (x3 x6 x8 : DV) (h0 : Hp) : Res :=
  bnd (pInt .neq x8 (.i .i64 (Int.ofNat 0)) h0) fun v71 h71 =>
  ifD v71 (
    some ((.b false), h71)) (
    s5a6 rec n x3 x6 h71)

noncomputable def s5a4 (rec : RT) (n : Nat) (x0 x3 : DV) (h0 : Hp) : Res :=
  bnd (rec 10 [x0] h0) fun v73 h73 =>
  bnd (pExtract 0 v73 h73) fun v74 h74 =>
  bnd (pExtract 1 v73 h74) fun v75 h75 =>
  bnd (pExtract 2 v73 h75) fun v76 h76 =>
  s5a5 rec n x3 v74 v76 h76

noncomputable def s5a3 (rec : RT) (n : Nat) (x0 x3 x5 : DV) (h0 : Hp) : Res :=
  bnd (pInt .neq x5 (.i .i64 (Int.ofNat 0)) h0) fun v81 h81 =>
  ifD v81 (
    bnd (rec 9 [] h81) fun v82 h82 =>
    some (v82, h82)) (
    s5a4 rec n x0 x3 h81)

noncomputable def s5a2 (rec : RT) (n : Nat) (x0 : DV) (h0 : Hp) : Res :=
  bnd (rec 8 [x0] h0) fun v85 h85 =>
  bnd (pExtract 0 v85 h85) fun v86 h86 =>
  bnd (pExtract 1 v85 h86) fun v87 h87 =>
  bnd (pExtract 2 v85 h87) fun v88 h88 =>
  bnd (pNew [(.i .i64 (Int.ofNat 0)), (.s []), (.i .i64 (Int.ofNat 0)), .l0, .l0, .l0] h88) fun v89 h89 =>
  bnd (pStore 6 v89 v86 h89) fun _ h90 =>
  s5a3 rec n x0 v89 v88 h90

noncomputable def s5a1 (rec : RT) (n : Nat) (x0 : DV) (h0 : Hp) : Res :=
  bnd (pLenS x0 h0) fun v109 h109 =>
  bnd (pInt .gtr v109 (.i .i64 (Int.ofNat 300)) h109) fun v110 h110 =>
  ifD v110 (
    bnd (pSliceS x0 none (some (.i .i64 (Int.ofNat 300))) h110) fun v111 h111 =>
    s5a2 rec n v111 h111) (
    s5a2 rec n x0 h110)

/-- vivariumlaw07.ParseWhole -/
noncomputable def s5 (rec : RT) (n : Nat) (x0 : DV) (h0 : Hp) : Res :=
  s5a1 rec n x0 h0

noncomputable abbrev c5 : Code := cf Try.f5
noncomputable abbrev c5x1 : Code := cR c5
noncomputable abbrev c5x2 : Code := cR c5x1
noncomputable abbrev c5x3 : Code := cR c5x2
noncomputable abbrev c5x4 : Code := cR c5x3
noncomputable abbrev c5x5 : Code := cR c5x4
noncomputable abbrev c5x6 : Code := cR c5x5
noncomputable abbrev c5x7 : Code := cR c5x6
noncomputable abbrev c5x8 : Code := cR c5x7
noncomputable abbrev c5x9 : Code := cR c5x8
noncomputable abbrev c5x10 : Code := cL c5x8
noncomputable abbrev c5x11 : Code := cR c5x10
noncomputable abbrev c5x12 : Code := cL c5x11
noncomputable abbrev c5x13 : Code := cL c5x12
noncomputable abbrev c5x14 : Code := cR c5x13
noncomputable abbrev c5x15 : Code := cR c5x14
noncomputable abbrev c5x16 : Code := cL c5x14
noncomputable abbrev c5x17 : Code := cL c5x16
noncomputable abbrev c5x18 : Code := cR c5x17
noncomputable abbrev c5x19 : Code := cR c5x18
noncomputable abbrev c5x20 : Code := cL c5x18
noncomputable abbrev c5x21 : Code := cL c5x17
noncomputable abbrev c5x22 : Code := cL c5x13
noncomputable abbrev c5x23 : Code := cL c5x10
noncomputable abbrev c5x24 : Code := cL c5x7
noncomputable abbrev c5x25 : Code := cL c5x6
noncomputable abbrev c5x26 : Code := cL c5x5
noncomputable abbrev c5x27 : Code := cL c5x4
noncomputable abbrev c5x28 : Code := cL c5x3
noncomputable abbrev c5x29 : Code := cL c5x2
noncomputable abbrev c5x30 : Code := cL c5x1
noncomputable abbrev c5x31 : Code := cL c5

noncomputable def D5 (rec : RT) (n : Nat) (c : Code) (X : Nat → K) (k : K) : K := codeD CF rec 90 n c X (retK CF Try.f5) k

theorem s5a9e : D5 rec n c5x9 x0 (retK CF Try.f5) = (K3 (s5a9 rec n) 3 9 10) :=
  (by kernel_rfl)

theorem s5a13e (kk11 : TT5) : D5 rec n c5x15 (xs x0 0 (K3 (s5a9 rec n) 3 9 10)) (K5 kk11 3 6 9 10 11) = (K5 (s5a13 rec n kk11) 3 6 9 10 11) :=
  (by kernel_rfl)

theorem s5a15e (kk11 : TT5) : D5 rec n c5x19 (xs (xs x0 0 (K3 (s5a9 rec n) 3 9 10)) 1 (K5 (s5a13 rec n kk11) 3 6 9 10 11)) (K5 (s5a13 rec n kk11) 3 6 9 10 11) = (K6 (s5a15 rec n kk11) 3 6 9 10 11 12) :=
  (by kernel_rfl)

theorem s5a14p1 (kk11 : TT5) : D5 rec n c5x18 (xs (xs x0 0 (K3 (s5a9 rec n) 3 9 10)) 1 (K5 (s5a13 rec n kk11) 3 6 9 10 11)) (K5 (s5a13 rec n kk11) 3 6 9 10 11) = D5 rec n c5x20 (xs (xs x0 0 (K3 (s5a9 rec n) 3 9 10)) 1 (K5 (s5a13 rec n kk11) 3 6 9 10 11)) (K6 (s5a15 rec n kk11) 3 6 9 10 11 12) :=
  congrArg (fun k => D5 rec n c5x20 (xs (xs x0 0 (K3 (s5a9 rec n) 3 9 10)) 1 (K5 (s5a13 rec n kk11) 3 6 9 10 11)) k) (s5a15e rec n kk11)

theorem s5a14e (kk11 : TT5) : D5 rec n c5x18 (xs (xs x0 0 (K3 (s5a9 rec n) 3 9 10)) 1 (K5 (s5a13 rec n kk11) 3 6 9 10 11)) (K5 (s5a13 rec n kk11) 3 6 9 10 11) = (K6 (s5a14 rec n kk11) 3 6 9 10 11 12) :=
  (s5a14p1 rec n kk11).trans
  ((by kernel_rfl))

theorem s5a12p2 (kk11 : TT5) : D5 rec n c5x14 (xs x0 0 (K3 (s5a9 rec n) 3 9 10)) (K5 kk11 3 6 9 10 11) = D5 rec n c5x16 (xs x0 0 (K3 (s5a9 rec n) 3 9 10)) (K5 (s5a13 rec n kk11) 3 6 9 10 11) :=
  congrArg (fun k => D5 rec n c5x16 (xs x0 0 (K3 (s5a9 rec n) 3 9 10)) k) (s5a13e rec n kk11)

theorem s5a12p3 (kk11 : TT5) : D5 rec n c5x17 (xs (xs x0 0 (K3 (s5a9 rec n) 3 9 10)) 1 (K5 (s5a13 rec n kk11) 3 6 9 10 11)) (K5 (s5a13 rec n kk11) 3 6 9 10 11) = D5 rec n c5x21 (xs (xs x0 0 (K3 (s5a9 rec n) 3 9 10)) 1 (K5 (s5a13 rec n kk11) 3 6 9 10 11)) (K6 (s5a14 rec n kk11) 3 6 9 10 11 12) :=
  congrArg (fun k => D5 rec n c5x21 (xs (xs x0 0 (K3 (s5a9 rec n) 3 9 10)) 1 (K5 (s5a13 rec n kk11) 3 6 9 10 11)) k) (s5a14e rec n kk11)

theorem s5a12e (kk11 : TT5) : D5 rec n c5x14 (xs x0 0 (K3 (s5a9 rec n) 3 9 10)) (K5 kk11 3 6 9 10 11) = (K5 (s5a12 rec n kk11) 3 6 9 10 11) :=
  (s5a12p2 rec n kk11).trans
  ((by kernel_rfl : D5 rec n c5x16 (xs x0 0 (K3 (s5a9 rec n) 3 9 10)) (K5 (s5a13 rec n kk11) 3 6 9 10 11) = D5 rec n c5x17 (xs (xs x0 0 (K3 (s5a9 rec n) 3 9 10)) 1 (K5 (s5a13 rec n kk11) 3 6 9 10 11)) (K5 (s5a13 rec n kk11) 3 6 9 10 11)).trans
  ((s5a12p3 rec n kk11).trans
  ((by kernel_rfl))))

theorem s5a11p4 (kk11 : TT5) : D5 rec n c5x13 (xs x0 0 (K3 (s5a9 rec n) 3 9 10)) (K5 kk11 3 6 9 10 11) = D5 rec n c5x22 (xs x0 0 (K3 (s5a9 rec n) 3 9 10)) (K5 (s5a12 rec n kk11) 3 6 9 10 11) :=
  congrArg (fun k => D5 rec n c5x22 (xs x0 0 (K3 (s5a9 rec n) 3 9 10)) k) (s5a12e rec n kk11)

theorem s5a11be (kk11 : TT5) : D5 rec n c5x13 (xs x0 0 (K3 (s5a9 rec n) 3 9 10)) (K5 kk11 3 6 9 10 11) = (K5 (s5a11b rec n kk11) 3 6 9 10 11) :=
  (s5a11p4 rec n kk11).trans
  ((by kernel_rfl))

theorem s5a11le (m : Nat) : loopN (fun kk => D5 rec n c5x13 (xs x0 0 (K3 (s5a9 rec n) 3 9 10)) kk) m = (K5 (s5a11l rec n m) 3 6 9 10 11) := by
  induction m with
  | zero => exact (by kernel_rfl : loopN (fun kk => D5 rec n c5x13 (xs x0 0 (K3 (s5a9 rec n) 3 9 10)) kk) 0 = (K5 (s5a11l rec n 0) 3 6 9 10 11))
  | succ m ih =>
    refine (by kernel_rfl : loopN (fun kk => D5 rec n c5x13 (xs x0 0 (K3 (s5a9 rec n) 3 9 10)) kk) (m + 1) = D5 rec n c5x13 (xs x0 0 (K3 (s5a9 rec n) 3 9 10)) (loopN (fun kk => D5 rec n c5x13 (xs x0 0 (K3 (s5a9 rec n) 3 9 10)) kk) m)).trans ?_
    rw [ih]
    exact (s5a11be rec n (s5a11l rec n m)).trans (by kernel_rfl)

theorem s5a11e : D5 rec n c5x12 (xs x0 0 (K3 (s5a9 rec n) 3 9 10)) (K3 (s5a9 rec n) 3 9 10) = (K5 (s5a11 rec n) 3 6 9 10 11) :=
  (by kernel_rfl : D5 rec n c5x12 (xs x0 0 (K3 (s5a9 rec n) 3 9 10)) (K3 (s5a9 rec n) 3 9 10) = loopN (fun kk => D5 rec n c5x13 (xs x0 0 (K3 (s5a9 rec n) 3 9 10)) kk) n).trans ((s5a11le rec n n).trans (by kernel_rfl))

theorem s5a10e : D5 rec n c5x11 x0 (K3 (s5a9 rec n) 3 9 10) = (K5 (s5a10 rec n) 3 6 9 10 11) :=
  (by kernel_rfl : D5 rec n c5x11 x0 (K3 (s5a9 rec n) 3 9 10) = D5 rec n c5x12 (xs x0 0 (K3 (s5a9 rec n) 3 9 10)) (K3 (s5a9 rec n) 3 9 10)).trans
  ((s5a11e rec n).trans (by kernel_rfl))

theorem s5a8p5 : D5 rec n c5x8 x0 (retK CF Try.f5) = D5 rec n c5x10 x0 (K3 (s5a9 rec n) 3 9 10) :=
  congrArg (fun k => D5 rec n c5x10 x0 k) (s5a9e rec n)

theorem s5a8p6 : D5 rec n c5x10 x0 (K3 (s5a9 rec n) 3 9 10) = D5 rec n c5x23 x0 (K5 (s5a10 rec n) 3 6 9 10 11) :=
  congrArg (fun k => D5 rec n c5x23 x0 k) (s5a10e rec n)

theorem s5a8e : D5 rec n c5x8 x0 (retK CF Try.f5) = (K4 (s5a8 rec n) 3 6 9 10) :=
  (s5a8p5 rec n).trans
  ((s5a8p6 rec n).trans
  ((by kernel_rfl)))

theorem s5a7p7 : D5 rec n c5x7 x0 (retK CF Try.f5) = D5 rec n c5x24 x0 (K4 (s5a8 rec n) 3 6 9 10) :=
  congrArg (fun k => D5 rec n c5x24 x0 k) (s5a8e rec n)

theorem s5a7e : D5 rec n c5x7 x0 (retK CF Try.f5) = (K3 (s5a7 rec n) 3 6 9) :=
  (s5a7p7 rec n).trans
  ((by kernel_rfl))

theorem s5a6p8 : D5 rec n c5x6 x0 (retK CF Try.f5) = D5 rec n c5x25 x0 (K3 (s5a7 rec n) 3 6 9) :=
  congrArg (fun k => D5 rec n c5x25 x0 k) (s5a7e rec n)

theorem s5a6e : D5 rec n c5x6 x0 (retK CF Try.f5) = (K2 (s5a6 rec n) 3 6) :=
  (s5a6p8 rec n).trans
  ((by kernel_rfl))

theorem s5a5p9 : D5 rec n c5x5 x0 (retK CF Try.f5) = D5 rec n c5x26 x0 (K2 (s5a6 rec n) 3 6) :=
  congrArg (fun k => D5 rec n c5x26 x0 k) (s5a6e rec n)

theorem s5a5e : D5 rec n c5x5 x0 (retK CF Try.f5) = (K3 (s5a5 rec n) 3 6 8) :=
  (s5a5p9 rec n).trans
  ((by kernel_rfl))

theorem s5a4p10 : D5 rec n c5x4 x0 (retK CF Try.f5) = D5 rec n c5x27 x0 (K3 (s5a5 rec n) 3 6 8) :=
  congrArg (fun k => D5 rec n c5x27 x0 k) (s5a5e rec n)

theorem s5a4e : D5 rec n c5x4 x0 (retK CF Try.f5) = (K2 (s5a4 rec n) 0 3) :=
  (s5a4p10 rec n).trans
  ((by kernel_rfl))

theorem s5a3p11 : D5 rec n c5x3 x0 (retK CF Try.f5) = D5 rec n c5x28 x0 (K2 (s5a4 rec n) 0 3) :=
  congrArg (fun k => D5 rec n c5x28 x0 k) (s5a4e rec n)

theorem s5a3e : D5 rec n c5x3 x0 (retK CF Try.f5) = (K3 (s5a3 rec n) 0 3 5) :=
  (s5a3p11 rec n).trans
  ((by kernel_rfl))

theorem s5a2p12 : D5 rec n c5x2 x0 (retK CF Try.f5) = D5 rec n c5x29 x0 (K3 (s5a3 rec n) 0 3 5) :=
  congrArg (fun k => D5 rec n c5x29 x0 k) (s5a3e rec n)

theorem s5a2q13 (q0 : TT3) : D5 rec n c5x29 x0 (K3 q0 0 3 5) = fun (env : Env) (h : Hp) =>
    bnd (rec 8 [(env 0)] h) fun v97 h97 =>
    bnd (pExtract 0 v97 h97) fun v98 h98 =>
    bnd (pExtract 1 v97 h98) fun v99 h99 =>
    bnd (pExtract 2 v97 h99) fun v100 h100 =>
    bnd (pNew [(.i .i64 (Int.ofNat 0)), (.s []), (.i .i64 (Int.ofNat 0)), .l0, .l0, .l0] h100) fun v101 h101 =>
    bnd (pStore 6 v101 v98 h101) fun _ h102 =>
    q0 (env 0) v101 v100 h102 := by kernel_rfl

theorem s5a2q13u : (fun (env : Env) (h : Hp) =>
    bnd (rec 8 [(env 0)] h) fun v103 h103 =>
    bnd (pExtract 0 v103 h103) fun v104 h104 =>
    bnd (pExtract 1 v103 h104) fun v105 h105 =>
    bnd (pExtract 2 v103 h105) fun v106 h106 =>
    bnd (pNew [(.i .i64 (Int.ofNat 0)), (.s []), (.i .i64 (Int.ofNat 0)), .l0, .l0, .l0] h106) fun v107 h107 =>
    bnd (pStore 6 v107 v104 h107) fun _ h108 =>
    s5a3 rec n (env 0) v107 v106 h108) = (K1 (s5a2 rec n) 0) := by kernel_rfl

theorem s5a2e : D5 rec n c5x2 x0 (retK CF Try.f5) = (K1 (s5a2 rec n) 0) :=
  (s5a2p12 rec n).trans
  ((s5a2q13 rec n (s5a3 rec n)).trans (s5a2q13u rec n))

theorem s5a1p14 : D5 rec n c5x1 x0 (retK CF Try.f5) = D5 rec n c5x30 x0 (K1 (s5a2 rec n) 0) :=
  congrArg (fun k => D5 rec n c5x30 x0 k) (s5a2e rec n)

theorem s5a1e : D5 rec n c5x1 x0 (retK CF Try.f5) = (K1 (s5a1 rec n) 0) :=
  (s5a1p14 rec n).trans
  ((by kernel_rfl))

theorem s5p15 : D5 rec n c5 x0 (retK CF Try.f5) = D5 rec n c5x31 x0 (K1 (s5a1 rec n) 0) :=
  congrArg (fun k => D5 rec n c5x31 x0 k) (s5a1e rec n)

theorem s5m : D5 rec n c5 x0 (retK CF Try.f5) = (K1 (s5 rec n) 0) :=
  (s5p15 rec n).trans
  ((by kernel_rfl))

theorem s5ok (args : List DV) (h : Hp) : bodyD CF rec n 5 args h = s5 rec n (args.getD 0 undefD) h :=
  (by kernel_rfl : bodyD CF rec n 5 args h = D5 rec n c5 x0 (retK CF Try.f5) (argsE args) h).trans ((congrFun (congrFun (s5m rec n) (argsE args)) h).trans (by kernel_rfl))

/-- vivariumlaw07.ParseSame -/
noncomputable def s6 (rec : RT) (n : Nat) (x0 x1 : DV) (h0 : Hp) : Res :=
  bnd (pBox x0 h0) fun v1 h1 =>
  bnd (pBox x1 h1) fun v2 h2 =>
  bnd (pLoadA 6 v1 h2) fun v3 h3 =>
  bnd (rec 13 [v3, (.i .i64 (Int.ofNat 100))] h3) fun v4 h4 =>
  bnd (pInt .lss v4 (.i .i64 (Int.ofNat 0)) h4) fun v5 h5 =>
  bnd (gD v5 false (pLoadA 6 v2 h5) h5) fun v6 h6 =>
  bnd (gD v5 false (rec 13 [v6, (.i .i64 (Int.ofNat 100))] h6) h6) fun v7 h7 =>
  bnd (gD v5 false (pInt .lss v7 (.i .i64 (Int.ofNat 0)) h7) h7) fun v8 h8 =>
  bnd (pPick v5 (.b true) v8 h8) fun v9 h9 =>
  ifD v9 (
    bnd (rec 9 [] h9) fun v10 h10 =>
    some (v10, h10)) (
    bnd (pLoadA 6 v1 h9) fun v11 h11 =>
    bnd (pLoadA 6 v2 h11) fun v12 h12 =>
    bnd (rec 14 [v11, v12] h12) fun v13 h13 =>
    bnd (pLoadA 6 v1 h13) fun v14 h14 =>
    cnd (sameR (pLoadA 6 v1 h9) v14 && true) (
    bnd (pLoadA 6 v2 h14) fun v15 h15 =>
    cnd (sameR (pLoadA 6 v2 h9) v15 && true) (
    bnd (rec 11 [v14, v15] h15) fun v16 h16 =>
    bnd (pEq .bool true v13 v16 h16) fun v17 h17 =>
    bnd (gD v17 true (pLoadA 6 v1 h17) h17) fun v18 h18 =>
    bnd (gD v17 true (pLoadA 6 v1 h18) h18) fun v19 h19 =>
    bnd (gD v17 true (rec 14 [v18, v19] h19) h19) fun v20 h20 =>
    bnd (pPick v17 v20 (.b false) h20) fun v21 h21 =>
    bnd (gD v21 true (rec 9 [] h21) h21) fun v22 h22 =>
    bnd (pPick v21 v22 (.b false) h22) fun v23 h23 =>
    some (v23, h23))))

noncomputable abbrev c6 : Code := cf Try.f6

noncomputable def D6 (rec : RT) (n : Nat) (c : Code) (X : Nat → K) (k : K) : K := codeD CF rec 29 n c X (retK CF Try.f6) k

theorem s6m : D6 rec n c6 x0 (retK CF Try.f6) = (K2 (s6 rec n) 0 1) :=
  (by kernel_rfl)

theorem s6ok (args : List DV) (h : Hp) : bodyD CF rec n 6 args h = s6 rec n (args.getD 0 undefD) (args.getD 1 undefD) h :=
  (by kernel_rfl : bodyD CF rec n 6 args h = D6 rec n c6 x0 (retK CF Try.f6) (argsE args) h).trans ((congrFun (congrFun (s6m rec n) (argsE args)) h).trans (by kernel_rfl))

/-- parse.Doit -/
noncomputable def s8 (rec : RT) (n : Nat) (x0 : DV) (h0 : Hp) : Res :=
  bnd (pNew [(.i .i64 (Int.ofNat 0)), (.s []), (.i .i64 (Int.ofNat 0)), .l0, .l0, .l0] h0) fun v1 h1 =>
  bnd (rec 17 [x0, (.f 18 [] [])] h1) fun v2 h2 =>
  bnd (pExtract 0 v2 h2) fun v3 h3 =>
  bnd (pExtract 1 v2 h3) fun v4 h4 =>
  bnd (pExtract 2 v2 h4) fun v5 h5 =>
  bnd (pStore 6 v1 v3 h5) fun _ h6 =>
  bnd (pLoadA 6 v1 h6) fun v7 _ =>
  some (.t [v7, v4, v5], h6)

noncomputable abbrev c8 : Code := cf Try.f8

noncomputable def D8 (rec : RT) (n : Nat) (c : Code) (X : Nat → K) (k : K) : K := codeD CF rec 10 n c X (retK CF Try.f8) k

theorem s8m : D8 rec n c8 x0 (retK CF Try.f8) = (K1 (s8 rec n) 0) :=
  (by kernel_rfl)

theorem s8ok (args : List DV) (h : Hp) : bodyD CF rec n 8 args h = s8 rec n (args.getD 0 undefD) h :=
  (by kernel_rfl : bodyD CF rec n 8 args h = D8 rec n c8 x0 (retK CF Try.f8) (argsE args) h).trans ((congrFun (congrFun (s8m rec n) (argsE args)) h).trans (by kernel_rfl))

/-- vivariumlaw07.lives -/
noncomputable def s9 (rec : RT) (n : Nat) (h0 : Hp) : Res :=
  bnd (rec 8 [(.s [94, 51, 32, 43, 32, 52, 32, 102, 111, 111, 58, 32, 53, 59, 32, 98, 97, 114])] h0) fun v1 h1 =>
  bnd (pExtract 0 v1 h1) fun v2 h2 =>
  bnd (pExtract 1 v1 h2) fun v3 h3 =>
  bnd (pExtract 2 v1 h3) fun v4 h4 =>
  bnd (pNew [(.i .i64 (Int.ofNat 0)), (.s []), (.i .i64 (Int.ofNat 0)), .l0, .l0, .l0] h4) fun v5 h5 =>
  bnd (pStore 6 v5 v2 h5) fun _ h6 =>
  bnd (rec 8 [(.s [120, 32, 58, 61, 32, 91, 58, 97, 32, 124, 32, 97, 93])] h6) fun v7 h7 =>
  bnd (pExtract 0 v7 h7) fun v8 h8 =>
  bnd (pExtract 1 v7 h8) fun v9 h9 =>
  bnd (pExtract 2 v7 h9) fun v10 h10 =>
  bnd (pNew [(.i .i64 (Int.ofNat 0)), (.s []), (.i .i64 (Int.ofNat 0)), .l0, .l0, .l0] h10) fun v11 h11 =>
  bnd (pStore 6 v11 v8 h11) fun _ h12 =>
  bnd (rec 8 [(.s [40])] h12) fun v13 h13 =>
  bnd (pExtract 0 v13 h13) fun v14 h14 =>
  bnd (pExtract 1 v13 h14) fun v15 h15 =>
  bnd (pExtract 2 v13 h15) fun v16 h16 =>
  bnd (pNew [(.i .i64 (Int.ofNat 0)), (.s []), (.i .i64 (Int.ofNat 0)), .l0, .l0, .l0] h16) fun v17 h17 =>
  bnd (pStore 6 v17 v14 h17) fun _ h18 =>
  bnd (pField 5 v5 h18) fun v19 h19 =>
  bnd (pLoad1 v19 h19) fun v20 h20 =>
  bnd (pLen v20 h20) fun v21 h21 =>
  bnd (pInt .neq v21 (.i .i64 (Int.ofNat 1)) h21) fun v22 h22 =>
  bnd (gD v22 false (pField 5 v5 h22) h22) fun v23 h23 =>
  bnd (gD v22 false (pLoad1 v23 h23) h23) fun v24 h24 =>
  bnd (gD v22 false (pIndexAddr 6 v24 (.i .i64 (Int.ofNat 0)) h24) h24) fun v25 h25 =>
  bnd (gD v22 false (pField 5 v25 h25) h25) fun v26 h26 =>
  bnd (gD v22 false (pLoad1 v26 h26) h26) fun v27 h27 =>
  bnd (gD v22 false (pLen v27 h27) h27) fun v28 h28 =>
  bnd (gD v22 false (pInt .neq v28 (.i .i64 (Int.ofNat 1)) h28) h28) fun v29 h29 =>
  bnd (pPick v22 (.b true) v29 h29) fun v30 h30 =>
  bnd (gD v30 false (pField 5 v11 h30) h30) fun v31 h31 =>
  bnd (gD v30 false (pLoad1 v31 h31) h31) fun v32 h32 =>
  bnd (gD v30 false (pLen v32 h32) h32) fun v33 h33 =>
  bnd (gD v30 false (pInt .neq v33 (.i .i64 (Int.ofNat 1)) h33) h33) fun v34 h34 =>
  bnd (pPick v30 (.b true) v34 h34) fun v35 h35 =>
  ifD v35 (
    some ((.b false), h35)) (
    bnd (pField 5 v5 h35) fun v36 h36 =>
    bnd (pLoad1 v36 h36) fun v37 h37 =>
    bnd (pIndexAddr 6 v37 (.i .i64 (Int.ofNat 0)) h37) fun v38 h38 =>
    bnd (pField 5 v38 h38) fun v39 h39 =>
    bnd (pLoad1 v39 h39) fun v40 h40 =>
    bnd (pIndexAddr 6 v40 (.i .i64 (Int.ofNat 0)) h40) fun v41 h41 =>
    bnd (pLoadA 6 v41 h41) fun v42 h42 =>
    bnd (pNew [(.i .i64 (Int.ofNat 0)), (.s []), (.i .i64 (Int.ofNat 0)), .l0, .l0, .l0] h42) fun v43 h43 =>
    bnd (pStore 6 v43 v42 h43) fun _ h44 =>
    bnd (pInt .eql v4 (.i .i64 (Int.ofNat 0)) h44) fun v45 h45 =>
    bnd (gD v45 true (pField 0 v43 h45) h45) fun v46 h46 =>
    bnd (gD v45 true (pLoad1 v46 h46) h46) fun v47 h47 =>
    bnd (gD v45 true (pInt .eql v47 (.i .i64 (Int.ofNat 8)) h47) h47) fun v48 h48 =>
    bnd (pPick v45 v48 (.b false) h48) fun v49 h49 =>
    bnd (gD v49 true (pField 5 v43 h49) h49) fun v50 h50 =>
    bnd (gD v49 true (pLoad1 v50 h50) h50) fun v51 h51 =>
    bnd (gD v49 true (pLen v51 h51) h51) fun v52 h52 =>
    bnd (gD v49 true (pInt .eql v52 (.i .i64 (Int.ofNat 3)) h52) h52) fun v53 h53 =>
    bnd (pPick v49 v53 (.b false) h53) fun v54 h54 =>
    bnd (gD v54 true (pField 5 v43 h54) h54) fun v55 h55 =>
    bnd (gD v54 true (pLoad1 v55 h55) h55) fun v56 h56 =>
    bnd (gD v54 true (pIndexAddr 6 v56 (.i .i64 (Int.ofNat 0)) h56) h56) fun v57 h57 =>
    bnd (gD v54 true (pField 1 v57 h57) h57) fun v58 h58 =>
    bnd (gD v54 true (pLoad1 v58 h58) h58) fun v59 h59 =>
    bnd (gD v54 true (pStr .eql v59 (.s [43]) h59) h59) fun v60 h60 =>
    bnd (pPick v54 v60 (.b false) h60) fun v61 h61 =>
    bnd (gD v61 true (pField 5 v43 h61) h61) fun v62 h62 =>
    bnd (gD v61 true (pLoad1 v62 h62) h62) fun v63 h63 =>
    bnd (gD v61 true (pIndexAddr 6 v63 (.i .i64 (Int.ofNat 1)) h63) h63) fun v64 h64 =>
    bnd (gD v61 true (pField 1 v64 h64) h64) fun v65 h65 =>
    bnd (gD v61 true (pLoad1 v65 h65) h65) fun v66 h66 =>
    bnd (gD v61 true (pStr .eql v66 (.s [102, 111, 111, 58]) h66) h66) fun v67 h67 =>
    bnd (pPick v61 v67 (.b false) h67) fun v68 h68 =>
    bnd (gD v68 true (pField 5 v43 h68) h68) fun v69 h69 =>
    bnd (gD v68 true (pLoad1 v69 h69) h69) fun v70 h70 =>
    bnd (gD v68 true (pIndexAddr 6 v70 (.i .i64 (Int.ofNat 2)) h70) h70) fun v71 h71 =>
    bnd (gD v68 true (pField 1 v71 h71) h71) fun v72 h72 =>
    bnd (gD v68 true (pLoad1 v72 h72) h72) fun v73 h73 =>
    bnd (gD v68 true (pStr .eql v73 (.s [98, 97, 114]) h73) h73) fun v74 h74 =>
    bnd (pPick v68 v74 (.b false) h74) fun v75 h75 =>
    bnd (gD v75 true (some (v10, h75)) h75) fun v76 h76 =>
    bnd (gD v75 true (pInt .eql v76 (.i .i64 (Int.ofNat 0)) h76) h76) fun v77 h77 =>
    bnd (pPick v75 v77 (.b false) h77) fun v78 h78 =>
    bnd (gD v78 true (pField 5 v11 h78) h78) fun v79 h79 =>
    bnd (gD v78 true (pLoad1 v79 h79) h79) fun v80 h80 =>
    bnd (gD v78 true (pIndexAddr 6 v80 (.i .i64 (Int.ofNat 0)) h80) h80) fun v81 h81 =>
    bnd (gD v78 true (pField 1 v81 h81) h81) fun v82 h82 =>
    bnd (gD v78 true (pLoad1 v82 h82) h82) fun v83 h83 =>
    bnd (gD v78 true (pStr .eql v83 (.s [120]) h83) h83) fun v84 h84 =>
    bnd (pPick v78 v84 (.b false) h84) fun v85 h85 =>
    bnd (gD v85 true (some (v15, h85)) h85) fun v86 h86 =>
    bnd (gD v85 true (pInt .eql v86 (.i .i64 (Int.ofNat 1)) h86) h86) fun v87 h87 =>
    bnd (pPick v85 v87 (.b false) h87) fun v88 h88 =>
    bnd (gD v88 true (some (v16, h88)) h88) fun v89 h89 =>
    bnd (gD v88 true (pInt .eql v89 (.i .i64 (Int.ofNat 13)) h89) h89) fun v90 h90 =>
    bnd (pPick v88 v90 (.b false) h90) fun v91 h91 =>
    some (v91, h91))

noncomputable abbrev c9 : Code := cf Try.f9

noncomputable def D9 (rec : RT) (n : Nat) (c : Code) (X : Nat → K) (k : K) : K := codeD CF rec 109 n c X (retK CF Try.f9) k

theorem s9m : D9 rec n c9 x0 (retK CF Try.f9) = (K0 (s9 rec n)) :=
  (by kernel_rfl)

theorem s9ok (args : List DV) (h : Hp) : bodyD CF rec n 9 args h = s9 rec n h :=
  (by kernel_rfl : bodyD CF rec n 9 args h = D9 rec n c9 x0 (retK CF Try.f9) (argsE args) h).trans ((congrFun (congrFun (s9m rec n) (argsE args)) h).trans (by kernel_rfl))

noncomputable def s10a5b (rec : RT) (n : Nat) (kk5 : TT3) (x0 x5 x6 : DV) (h0 : Hp) : Res :=
    bnd (rec 19 [x0, x6] h0) fun v1 h1 =>
    bnd (pExtract 0 v1 h1) fun v2 h2 =>
    bnd (pExtract 1 v1 h2) fun v3 h3 =>
    ifD v3 (
      some (.t [.l0, v2, (.i .i64 (Int.ofNat 11))], h3)) (
      bnd (pLenS x0 h3) fun v4 h4 =>
      bnd (pInt .eql v2 v4 h4) fun v5 h5 =>
      ifD v5 (
        bnd (pBuild [(.i .i64 (Int.ofNat 0)), (.s []), (.i .i64 (Int.ofNat 0)), (.i .i64 (Int.ofNat 0))] [(3, 1, v2)] h5) fun v6 h6 =>
        bnd (pBuildSlice [(.i .i64 (Int.ofNat 0)), (.s []), (.i .i64 (Int.ofNat 0)), (.i .i64 (Int.ofNat 0))] 1 [(0, 4, v6)] h6) fun v7 h7 =>
        bnd (pAppend 4 40 x5 v7 h7) fun v8 h8 =>
        some (.t [v8, (.i .i64 (Int.ofNat 0)), (.i .i64 (Int.ofNat 0))], h8)) (
        bnd (rec 20 [x0, v2] h5) fun v9 h9 =>
        bnd (pExtract 0 v9 h9) fun v10 h10 =>
        bnd (pExtract 1 v9 h10) fun v11 h11 =>
        bnd (pExtract 2 v9 h11) fun v12 h12 =>
        bnd (pNew [(.i .i64 (Int.ofNat 0)), (.s []), (.i .i64 (Int.ofNat 0)), (.i .i64 (Int.ofNat 0))] h12) fun v13 h13 =>
        bnd (pStore 4 v13 v10 h13) fun _ h14 =>
        bnd (pInt .neq v12 (.i .i64 (Int.ofNat 0)) h14) fun v15 h15 =>
        ifD v15 (
          some (.t [.l0, v2, v12], h15)) (
          bnd (pLoadA 4 v13 h15) fun v16 h16 =>
          bnd (pBuildSlice [(.i .i64 (Int.ofNat 0)), (.s []), (.i .i64 (Int.ofNat 0)), (.i .i64 (Int.ofNat 0))] 1 [(0, 4, v16)] h16) fun v17 h17 =>
          bnd (pAppend 4 40 x5 v17 h17) fun v18 h18 =>
          kk5 x0 v18 v11 h18)))

noncomputable def s10a5l (rec : RT) (n : Nat) (m : Nat) : TT3 :=
  Nat.rec (motive := fun _ => TT3) (fun _ _ _ _ => none) (fun _ ih => s10a5b rec n ih) m

noncomputable def s10a5 (rec : RT) (n : Nat) : TT3 := s10a5l rec n n

noncomputable def s10a4 (rec : RT) (n : Nat) (x0 x5 x6 : DV) (h0 : Hp) : Res :=
  s10a5 rec n x0 x5 x6 h0

noncomputable def s10a3 (rec : RT) (n : Nat) (x0 x5 : DV) (h0 : Hp) : Res :=
  s10a4 rec n x0 x5 (.i .i64 (Int.ofNat 0)) h0

noncomputable def s10a2 (rec : RT) (n : Nat) (x0 : DV) (h0 : Hp) : Res :=
  s10a3 rec n x0 .l0 h0

noncomputable def s10a1 (rec : RT) (n : Nat) (x0 : DV) (h0 : Hp) : Res :=
  bnd (pLenS x0 h0) fun v37 h37 =>
  bnd (pInt .gtr v37 (.i .i64 (Int.ofNat 2000)) h37) fun v38 h38 =>
  ifD v38 (
    some (.t [.l0, (.i .i64 (Int.ofNat 0)), (.i .i64 (Int.ofNat 12))], h38)) (
    s10a2 rec n x0 h38)

/-- vivariumref06.Tokens -/
noncomputable def s10 (rec : RT) (n : Nat) (x0 : DV) (h0 : Hp) : Res :=
  s10a1 rec n x0 h0

noncomputable abbrev c10 : Code := cf Try.f10
noncomputable abbrev c10x1 : Code := cR c10
noncomputable abbrev c10x2 : Code := cR c10x1
noncomputable abbrev c10x3 : Code := cR c10x2
noncomputable abbrev c10x4 : Code := cR c10x3
noncomputable abbrev c10x5 : Code := cL c10x4
noncomputable abbrev c10x6 : Code := cL c10x5
noncomputable abbrev c10x7 : Code := cL c10x3
noncomputable abbrev c10x8 : Code := cL c10x2
noncomputable abbrev c10x9 : Code := cL c10x1
noncomputable abbrev c10x10 : Code := cL c10

noncomputable def D10 (rec : RT) (n : Nat) (c : Code) (X : Nat → K) (k : K) : K := codeD CF rec 48 n c X (retK CF Try.f10) k

theorem s10a5be (kk5 : TT3) : D10 rec n c10x6 (xs x0 0 (retK CF Try.f10)) (K3 kk5 0 5 6) = (K3 (s10a5b rec n kk5) 0 5 6) :=
  (by kernel_rfl)

theorem s10a5le (m : Nat) : loopN (fun kk => D10 rec n c10x6 (xs x0 0 (retK CF Try.f10)) kk) m = (K3 (s10a5l rec n m) 0 5 6) := by
  induction m with
  | zero => exact (by kernel_rfl : loopN (fun kk => D10 rec n c10x6 (xs x0 0 (retK CF Try.f10)) kk) 0 = (K3 (s10a5l rec n 0) 0 5 6))
  | succ m ih =>
    refine (by kernel_rfl : loopN (fun kk => D10 rec n c10x6 (xs x0 0 (retK CF Try.f10)) kk) (m + 1) = D10 rec n c10x6 (xs x0 0 (retK CF Try.f10)) (loopN (fun kk => D10 rec n c10x6 (xs x0 0 (retK CF Try.f10)) kk) m)).trans ?_
    rw [ih]
    exact (s10a5be rec n (s10a5l rec n m)).trans (by kernel_rfl)

theorem s10a5e : D10 rec n c10x5 (xs x0 0 (retK CF Try.f10)) (retK CF Try.f10) = (K3 (s10a5 rec n) 0 5 6) :=
  (by kernel_rfl : D10 rec n c10x5 (xs x0 0 (retK CF Try.f10)) (retK CF Try.f10) = loopN (fun kk => D10 rec n c10x6 (xs x0 0 (retK CF Try.f10)) kk) n).trans ((s10a5le rec n n).trans (by kernel_rfl))

theorem s10a4e : D10 rec n c10x4 x0 (retK CF Try.f10) = (K3 (s10a4 rec n) 0 5 6) :=
  (by kernel_rfl : D10 rec n c10x4 x0 (retK CF Try.f10) = D10 rec n c10x5 (xs x0 0 (retK CF Try.f10)) (retK CF Try.f10)).trans
  ((s10a5e rec n).trans (by kernel_rfl))

theorem s10a3p1 : D10 rec n c10x3 x0 (retK CF Try.f10) = D10 rec n c10x7 x0 (K3 (s10a4 rec n) 0 5 6) :=
  congrArg (fun k => D10 rec n c10x7 x0 k) (s10a4e rec n)

theorem s10a3e : D10 rec n c10x3 x0 (retK CF Try.f10) = (K2 (s10a3 rec n) 0 5) :=
  (s10a3p1 rec n).trans
  ((by kernel_rfl))

theorem s10a2p2 : D10 rec n c10x2 x0 (retK CF Try.f10) = D10 rec n c10x8 x0 (K2 (s10a3 rec n) 0 5) :=
  congrArg (fun k => D10 rec n c10x8 x0 k) (s10a3e rec n)

theorem s10a2e : D10 rec n c10x2 x0 (retK CF Try.f10) = (K1 (s10a2 rec n) 0) :=
  (s10a2p2 rec n).trans
  ((by kernel_rfl))

theorem s10a1p3 : D10 rec n c10x1 x0 (retK CF Try.f10) = D10 rec n c10x9 x0 (K1 (s10a2 rec n) 0) :=
  congrArg (fun k => D10 rec n c10x9 x0 k) (s10a2e rec n)

theorem s10a1e : D10 rec n c10x1 x0 (retK CF Try.f10) = (K1 (s10a1 rec n) 0) :=
  (s10a1p3 rec n).trans
  ((by kernel_rfl))

theorem s10p4 : D10 rec n c10 x0 (retK CF Try.f10) = D10 rec n c10x10 x0 (K1 (s10a1 rec n) 0) :=
  congrArg (fun k => D10 rec n c10x10 x0 k) (s10a1e rec n)

theorem s10m : D10 rec n c10 x0 (retK CF Try.f10) = (K1 (s10 rec n) 0) :=
  (s10p4 rec n).trans
  ((by kernel_rfl))

theorem s10ok (args : List DV) (h : Hp) : bodyD CF rec n 10 args h = s10 rec n (args.getD 0 undefD) h :=
  (by kernel_rfl : bodyD CF rec n 10 args h = D10 rec n c10 x0 (retK CF Try.f10) (argsE args) h).trans ((congrFun (congrFun (s10m rec n) (argsE args)) h).trans (by kernel_rfl))

noncomputable def s11a5 (rec : RT) (n : Nat) (h0 : Hp) : Res :=
  some ((.b true), h0)

noncomputable def s11a7b (rec : RT) (n : Nat) (kk7 : TT3) (x2 x3 x7 : DV) (h0 : Hp) : Res :=
    bnd (pField 5 x2 h0) fun v1 h1 =>
    bnd (pLoad1 v1 h1) fun v2 h2 =>
    bnd (pLen v2 h2) fun v3 h3 =>
    bnd (pInt .lss x7 v3 h3) fun v4 h4 =>
    ifD v4 (
      bnd (pField 5 x2 h4) fun v5 h5 =>
      bnd (pLoad1 v5 h5) fun v6 h6 =>
      bnd (pIndexAddr 6 v6 x7 h6) fun v7 h7 =>
      bnd (pLoadA 6 v7 h7) fun v8 h8 =>
      bnd (pField 5 x3 h8) fun v9 h9 =>
      bnd (pLoad1 v9 h9) fun v10 h10 =>
      bnd (pIndexAddr 6 v10 x7 h10) fun v11 h11 =>
      bnd (pLoadA 6 v11 h11) fun v12 h12 =>
      bnd (rec 11 [v8, v12] h12) fun v13 h13 =>
      bnd (pUn .not v13 h13) fun v14 h14 =>
      ifD v14 (
        some ((.b false), h14)) (
        bnd (pInt .add x7 (.i .i64 (Int.ofNat 1)) h14) fun v15 h15 =>
        kk7 x2 x3 v15 h15)) (
      s11a5 rec n h4)

noncomputable def s11a7l (rec : RT) (n : Nat) (m : Nat) : TT3 :=
  Nat.rec (motive := fun _ => TT3) (fun _ _ _ _ => none) (fun _ ih => s11a7b rec n ih) m

noncomputable def s11a7 (rec : RT) (n : Nat) : TT3 := s11a7l rec n n

noncomputable def s11a6 (rec : RT) (n : Nat) (x2 x3 x7 : DV) (h0 : Hp) : Res :=
  s11a7 rec n x2 x3 x7 h0

noncomputable def s11a4 (rec : RT) (n : Nat) (x2 x3 : DV) (h0 : Hp) : Res :=
  s11a6 rec n x2 x3 (.i .i64 (Int.ofNat 0)) h0

noncomputable def s11a3 (rec : RT) (n : Nat) (x2 x3 x5 x6 : DV) (h0 : Hp) : Res :=
  bnd (pUn .not x5 h0) fun v31 h31 =>
  bnd (gD v31 false (some (x6, h31)) h31) fun v32 h32 =>
  bnd (gD v31 false (pUn .not v32 h32) h32) fun v33 h33 =>
  bnd (pPick v31 (.b true) v33 h33) fun v34 h34 =>
  bnd (gD v34 false (pField 0 x2 h34) h34) fun v35 h35 =>
  bnd (gD v34 false (pLoad1 v35 h35) h35) fun v36 h36 =>
  bnd (gD v34 false (pField 0 x3 h36) h36) fun v37 h37 =>
  bnd (gD v34 false (pLoad1 v37 h37) h37) fun v38 h38 =>
  bnd (gD v34 false (pInt .neq v36 v38 h38) h38) fun v39 h39 =>
  bnd (pPick v34 (.b true) v39 h39) fun v40 h40 =>
  bnd (gD v40 false (pField 1 x2 h40) h40) fun v41 h41 =>
  bnd (gD v40 false (pLoad1 v41 h41) h41) fun v42 h42 =>
  bnd (gD v40 false (pField 1 x3 h42) h42) fun v43 h43 =>
  bnd (gD v40 false (pLoad1 v43 h43) h43) fun v44 h44 =>
  bnd (gD v40 false (pStr .neq v42 v44 h44) h44) fun v45 h45 =>
  bnd (pPick v40 (.b true) v45 h45) fun v46 h46 =>
  bnd (gD v46 false (pField 2 x2 h46) h46) fun v47 h47 =>
  bnd (gD v46 false (pLoad1 v47 h47) h47) fun v48 h48 =>
  bnd (gD v46 false (pField 2 x3 h48) h48) fun v49 h49 =>
  bnd (gD v46 false (pLoad1 v49 h49) h49) fun v50 h50 =>
  bnd (gD v46 false (pInt .neq v48 v50 h50) h50) fun v51 h51 =>
  bnd (pPick v46 (.b true) v51 h51) fun v52 h52 =>
  bnd (gD v52 false (pField 5 x2 h52) h52) fun v53 h53 =>
  bnd (gD v52 false (pLoad1 v53 h53) h53) fun v54 h54 =>
  bnd (gD v52 false (pLen v54 h54) h54) fun v55 h55 =>
  bnd (gD v52 false (pField 5 x3 h55) h55) fun v56 h56 =>
  bnd (gD v52 false (pLoad1 v56 h56) h56) fun v57 h57 =>
  bnd (gD v52 false (pLen v57 h57) h57) fun v58 h58 =>
  bnd (gD v52 false (pInt .neq v55 v58 h58) h58) fun v59 h59 =>
  bnd (pPick v52 (.b true) v59 h59) fun v60 h60 =>
  ifD v60 (
    some ((.b false), h60)) (
    s11a4 rec n x2 x3 h60)

noncomputable def s11a2 (rec : RT) (n : Nat) (x2 x3 x5 : DV) (h0 : Hp) : Res :=
  bnd (pField 4 x2 h0) fun v91 h91 =>
  bnd (pLoad1 v91 h91) fun v92 h92 =>
  bnd (pField 4 x3 h92) fun v93 h93 =>
  bnd (pLoad1 v93 h93) fun v94 h94 =>
  bnd (rec 21 [v92, v94] h94) fun v95 h95 =>
  s11a3 rec n x2 x3 x5 v95 h95

noncomputable def s11a1 (rec : RT) (n : Nat) (x2 x3 : DV) (h0 : Hp) : Res :=
  bnd (pField 3 x2 h0) fun v101 h101 =>
  bnd (pLoad1 v101 h101) fun v102 h102 =>
  bnd (pField 3 x3 h102) fun v103 h103 =>
  bnd (pLoad1 v103 h103) fun v104 h104 =>
  bnd (rec 21 [v102, v104] h104) fun v105 h105 =>
  s11a2 rec n x2 x3 v105 h105

/-- vivariumref07.Same -/
noncomputable def s11 (rec : RT) (n : Nat) (x0 x1 : DV) (h0 : Hp) : Res :=
  bnd (pBox x0 h0) fun v111 h111 =>
  bnd (pBox x1 h111) fun v112 h112 =>
  s11a1 rec n v111 v112 h112

noncomputable abbrev c11 : Code := cf Try.f11
noncomputable abbrev c11x1 : Code := cR c11
noncomputable abbrev c11x2 : Code := cR c11x1
noncomputable abbrev c11x3 : Code := cR c11x2
noncomputable abbrev c11x4 : Code := cR c11x3
noncomputable abbrev c11x5 : Code := cR c11x4
noncomputable abbrev c11x6 : Code := cL c11x4
noncomputable abbrev c11x7 : Code := cR c11x6
noncomputable abbrev c11x8 : Code := cL c11x7
noncomputable abbrev c11x9 : Code := cL c11x8
noncomputable abbrev c11x10 : Code := cL c11x6
noncomputable abbrev c11x11 : Code := cL c11x3
noncomputable abbrev c11x12 : Code := cL c11x2
noncomputable abbrev c11x13 : Code := cL c11x1
noncomputable abbrev c11x14 : Code := cL c11

noncomputable def D11 (rec : RT) (n : Nat) (c : Code) (X : Nat → K) (k : K) : K := codeD CF rec 75 n c X (retK CF Try.f11) k

theorem s11a5e : D11 rec n c11x5 x0 (retK CF Try.f11) = (K0 (s11a5 rec n)) :=
  (by kernel_rfl)

theorem s11a7be (kk7 : TT3) : D11 rec n c11x9 (xs x0 0 (K0 (s11a5 rec n))) (K3 kk7 2 3 7) = (K3 (s11a7b rec n kk7) 2 3 7) :=
  (by kernel_rfl)

theorem s11a7le (m : Nat) : loopN (fun kk => D11 rec n c11x9 (xs x0 0 (K0 (s11a5 rec n))) kk) m = (K3 (s11a7l rec n m) 2 3 7) := by
  induction m with
  | zero => exact (by kernel_rfl : loopN (fun kk => D11 rec n c11x9 (xs x0 0 (K0 (s11a5 rec n))) kk) 0 = (K3 (s11a7l rec n 0) 2 3 7))
  | succ m ih =>
    refine (by kernel_rfl : loopN (fun kk => D11 rec n c11x9 (xs x0 0 (K0 (s11a5 rec n))) kk) (m + 1) = D11 rec n c11x9 (xs x0 0 (K0 (s11a5 rec n))) (loopN (fun kk => D11 rec n c11x9 (xs x0 0 (K0 (s11a5 rec n))) kk) m)).trans ?_
    rw [ih]
    exact (s11a7be rec n (s11a7l rec n m)).trans (by kernel_rfl)

theorem s11a7e : D11 rec n c11x8 (xs x0 0 (K0 (s11a5 rec n))) (K0 (s11a5 rec n)) = (K3 (s11a7 rec n) 2 3 7) :=
  (by kernel_rfl : D11 rec n c11x8 (xs x0 0 (K0 (s11a5 rec n))) (K0 (s11a5 rec n)) = loopN (fun kk => D11 rec n c11x9 (xs x0 0 (K0 (s11a5 rec n))) kk) n).trans ((s11a7le rec n n).trans (by kernel_rfl))

theorem s11a6e : D11 rec n c11x7 x0 (K0 (s11a5 rec n)) = (K3 (s11a6 rec n) 2 3 7) :=
  (by kernel_rfl : D11 rec n c11x7 x0 (K0 (s11a5 rec n)) = D11 rec n c11x8 (xs x0 0 (K0 (s11a5 rec n))) (K0 (s11a5 rec n))).trans
  ((s11a7e rec n).trans (by kernel_rfl))

theorem s11a4p1 : D11 rec n c11x4 x0 (retK CF Try.f11) = D11 rec n c11x6 x0 (K0 (s11a5 rec n)) :=
  congrArg (fun k => D11 rec n c11x6 x0 k) (s11a5e rec n)

theorem s11a4p2 : D11 rec n c11x6 x0 (K0 (s11a5 rec n)) = D11 rec n c11x10 x0 (K3 (s11a6 rec n) 2 3 7) :=
  congrArg (fun k => D11 rec n c11x10 x0 k) (s11a6e rec n)

theorem s11a4e : D11 rec n c11x4 x0 (retK CF Try.f11) = (K2 (s11a4 rec n) 2 3) :=
  (s11a4p1 rec n).trans
  ((s11a4p2 rec n).trans
  ((by kernel_rfl)))

theorem s11a3p3 : D11 rec n c11x3 x0 (retK CF Try.f11) = D11 rec n c11x11 x0 (K2 (s11a4 rec n) 2 3) :=
  congrArg (fun k => D11 rec n c11x11 x0 k) (s11a4e rec n)

theorem s11a3e : D11 rec n c11x3 x0 (retK CF Try.f11) = (K4 (s11a3 rec n) 2 3 5 6) :=
  (s11a3p3 rec n).trans
  ((by kernel_rfl))

theorem s11a2p4 : D11 rec n c11x2 x0 (retK CF Try.f11) = D11 rec n c11x12 x0 (K4 (s11a3 rec n) 2 3 5 6) :=
  congrArg (fun k => D11 rec n c11x12 x0 k) (s11a3e rec n)

theorem s11a2e : D11 rec n c11x2 x0 (retK CF Try.f11) = (K3 (s11a2 rec n) 2 3 5) :=
  (s11a2p4 rec n).trans
  ((by kernel_rfl))

theorem s11a1p5 : D11 rec n c11x1 x0 (retK CF Try.f11) = D11 rec n c11x13 x0 (K3 (s11a2 rec n) 2 3 5) :=
  congrArg (fun k => D11 rec n c11x13 x0 k) (s11a2e rec n)

theorem s11a1e : D11 rec n c11x1 x0 (retK CF Try.f11) = (K2 (s11a1 rec n) 2 3) :=
  (s11a1p5 rec n).trans
  ((by kernel_rfl))

theorem s11p6 : D11 rec n c11 x0 (retK CF Try.f11) = D11 rec n c11x14 x0 (K2 (s11a1 rec n) 2 3) :=
  congrArg (fun k => D11 rec n c11x14 x0 k) (s11a1e rec n)

theorem s11q7 (q0 : TT2) : D11 rec n c11x14 x0 (K2 q0 2 3) = fun (env : Env) (h : Hp) =>
    bnd (pBox (env 0) h) fun v115 h115 =>
    bnd (pBox (env 1) h115) fun v116 h116 =>
    q0 v115 v116 h116 := by kernel_rfl

theorem s11q7u : (fun (env : Env) (h : Hp) =>
    bnd (pBox (env 0) h) fun v117 h117 =>
    bnd (pBox (env 1) h117) fun v118 h118 =>
    s11a1 rec n v117 v118 h118) = (K2 (s11 rec n) 0 1) := by kernel_rfl

theorem s11m : D11 rec n c11 x0 (retK CF Try.f11) = (K2 (s11 rec n) 0 1) :=
  (s11p6 rec n).trans
  ((s11q7 rec n (s11a1 rec n)).trans (s11q7u rec n))

theorem s11ok (args : List DV) (h : Hp) : bodyD CF rec n 11 args h = s11 rec n (args.getD 0 undefD) (args.getD 1 undefD) h :=
  (by kernel_rfl : bodyD CF rec n 11 args h = D11 rec n c11 x0 (retK CF Try.f11) (argsE args) h).trans ((congrFun (congrFun (s11m rec n) (argsE args)) h).trans (by kernel_rfl))

noncomputable def s12a5 (rec : RT) (n : Nat) (x3 : DV) (h0 : Hp) : Res :=
  some (x3, h0)

noncomputable def s12a7b (rec : RT) (n : Nat) (kk7 : TT3) (x1 x3 x4 : DV) (h0 : Hp) : Res :=
    bnd (pField 5 x1 h0) fun v1 h1 =>
    bnd (pLoad1 v1 h1) fun v2 h2 =>
    bnd (pLen v2 h2) fun v3 h3 =>
    bnd (pInt .lss x4 v3 h3) fun v4 h4 =>
    ifD v4 (
      bnd (pField 5 x1 h4) fun v5 h5 =>
      bnd (pLoad1 v5 h5) fun v6 h6 =>
      bnd (pIndexAddr 6 v6 x4 h6) fun v7 h7 =>
      bnd (pLoadA 6 v7 h7) fun v8 h8 =>
      bnd (rec 12 [v8] h8) fun v9 h9 =>
      bnd (pInt .add x3 v9 h9) fun v10 h10 =>
      bnd (pInt .add x4 (.i .i64 (Int.ofNat 1)) h10) fun v11 h11 =>
      kk7 x1 v10 v11 h11) (
      s12a5 rec n x3 h4)

noncomputable def s12a7l (rec : RT) (n : Nat) (m : Nat) : TT3 :=
  Nat.rec (motive := fun _ => TT3) (fun _ _ _ _ => none) (fun _ ih => s12a7b rec n ih) m

noncomputable def s12a7 (rec : RT) (n : Nat) : TT3 := s12a7l rec n n

noncomputable def s12a6 (rec : RT) (n : Nat) (x1 x3 x4 : DV) (h0 : Hp) : Res :=
  s12a7 rec n x1 x3 x4 h0

noncomputable def s12a4 (rec : RT) (n : Nat) (x1 x3 : DV) (h0 : Hp) : Res :=
  s12a6 rec n x1 x3 (.i .i64 (Int.ofNat 0)) h0

noncomputable def s12a3 (rec : RT) (n : Nat) (x1 x3 : DV) (h0 : Hp) : Res :=
  bnd (pField 3 x1 h0) fun v23 h23 =>
  bnd (pLoad1 v23 h23) fun v24 h24 =>
  bnd (pLen v24 h24) fun v25 h25 =>
  bnd (pInt .add x3 v25 h25) fun v26 h26 =>
  bnd (pField 4 x1 h26) fun v27 h27 =>
  bnd (pLoad1 v27 h27) fun v28 h28 =>
  bnd (pLen v28 h28) fun v29 h29 =>
  bnd (pInt .add v26 v29 h29) fun v30 h30 =>
  s12a4 rec n x1 v30 h30

noncomputable def s12a2 (rec : RT) (n : Nat) (x1 x3 : DV) (h0 : Hp) : Res :=
  bnd (pField 0 x1 h0) fun v39 h39 =>
  bnd (pLoad1 v39 h39) fun v40 h40 =>
  bnd (pInt .neq v40 (.i .i64 (Int.ofNat 9)) h40) fun v41 h41 =>
  bnd (gD v41 true (pField 0 x1 h41) h41) fun v42 h42 =>
  bnd (gD v41 true (pLoad1 v42 h42) h42) fun v43 h43 =>
  bnd (gD v41 true (pInt .neq v43 (.i .i64 (Int.ofNat 8)) h43) h43) fun v44 h44 =>
  bnd (pPick v41 v44 (.b false) h44) fun v45 h45 =>
  bnd (gD v45 true (pField 0 x1 h45) h45) fun v46 h46 =>
  bnd (gD v45 true (pLoad1 v46 h46) h46) fun v47 h47 =>
  bnd (gD v45 true (pInt .neq v47 (.i .i64 (Int.ofNat 10)) h47) h47) fun v48 h48 =>
  bnd (pPick v45 v48 (.b false) h48) fun v49 h49 =>
  bnd (gD v49 true (pField 0 x1 h49) h49) fun v50 h50 =>
  bnd (gD v49 true (pLoad1 v50 h50) h50) fun v51 h51 =>
  bnd (gD v49 true (pInt .neq v51 (.i .i64 (Int.ofNat 11)) h51) h51) fun v52 h52 =>
  bnd (pPick v49 v52 (.b false) h52) fun v53 h53 =>
  bnd (gD v53 true (pField 0 x1 h53) h53) fun v54 h54 =>
  bnd (gD v53 true (pLoad1 v54 h54) h54) fun v55 h55 =>
  bnd (gD v53 true (pInt .neq v55 (.i .i64 (Int.ofNat 4)) h55) h55) fun v56 h56 =>
  bnd (pPick v53 v56 (.b false) h56) fun v57 h57 =>
  ifD v57 (
    s12a3 rec n x1 (.i .i64 (Int.ofNat 1)) h57) (
    s12a3 rec n x1 x3 h57)

noncomputable def s12a1 (rec : RT) (n : Nat) (x1 : DV) (h0 : Hp) : Res :=
  s12a2 rec n x1 (.i .i64 (Int.ofNat 0)) h0

/-- vivariumlaw07.count -/
noncomputable def s12 (rec : RT) (n : Nat) (x0 : DV) (h0 : Hp) : Res :=
  bnd (pBox x0 h0) fun v77 h77 =>
  s12a1 rec n v77 h77

noncomputable abbrev c12 : Code := cf Try.f12
noncomputable abbrev c12x1 : Code := cR c12
noncomputable abbrev c12x2 : Code := cR c12x1
noncomputable abbrev c12x3 : Code := cR c12x2
noncomputable abbrev c12x4 : Code := cR c12x3
noncomputable abbrev c12x5 : Code := cR c12x4
noncomputable abbrev c12x6 : Code := cL c12x4
noncomputable abbrev c12x7 : Code := cR c12x6
noncomputable abbrev c12x8 : Code := cL c12x7
noncomputable abbrev c12x9 : Code := cL c12x8
noncomputable abbrev c12x10 : Code := cL c12x6
noncomputable abbrev c12x11 : Code := cL c12x3
noncomputable abbrev c12x12 : Code := cL c12x2
noncomputable abbrev c12x13 : Code := cL c12x1
noncomputable abbrev c12x14 : Code := cL c12

noncomputable def D12 (rec : RT) (n : Nat) (c : Code) (X : Nat → K) (k : K) : K := codeD CF rec 53 n c X (retK CF Try.f12) k

theorem s12a5e : D12 rec n c12x5 x0 (retK CF Try.f12) = (K1 (s12a5 rec n) 3) :=
  (by kernel_rfl)

theorem s12a7be (kk7 : TT3) : D12 rec n c12x9 (xs x0 0 (K1 (s12a5 rec n) 3)) (K3 kk7 1 3 4) = (K3 (s12a7b rec n kk7) 1 3 4) :=
  (by kernel_rfl)

theorem s12a7le (m : Nat) : loopN (fun kk => D12 rec n c12x9 (xs x0 0 (K1 (s12a5 rec n) 3)) kk) m = (K3 (s12a7l rec n m) 1 3 4) := by
  induction m with
  | zero => exact (by kernel_rfl : loopN (fun kk => D12 rec n c12x9 (xs x0 0 (K1 (s12a5 rec n) 3)) kk) 0 = (K3 (s12a7l rec n 0) 1 3 4))
  | succ m ih =>
    refine (by kernel_rfl : loopN (fun kk => D12 rec n c12x9 (xs x0 0 (K1 (s12a5 rec n) 3)) kk) (m + 1) = D12 rec n c12x9 (xs x0 0 (K1 (s12a5 rec n) 3)) (loopN (fun kk => D12 rec n c12x9 (xs x0 0 (K1 (s12a5 rec n) 3)) kk) m)).trans ?_
    rw [ih]
    exact (s12a7be rec n (s12a7l rec n m)).trans (by kernel_rfl)

theorem s12a7e : D12 rec n c12x8 (xs x0 0 (K1 (s12a5 rec n) 3)) (K1 (s12a5 rec n) 3) = (K3 (s12a7 rec n) 1 3 4) :=
  (by kernel_rfl : D12 rec n c12x8 (xs x0 0 (K1 (s12a5 rec n) 3)) (K1 (s12a5 rec n) 3) = loopN (fun kk => D12 rec n c12x9 (xs x0 0 (K1 (s12a5 rec n) 3)) kk) n).trans ((s12a7le rec n n).trans (by kernel_rfl))

theorem s12a6e : D12 rec n c12x7 x0 (K1 (s12a5 rec n) 3) = (K3 (s12a6 rec n) 1 3 4) :=
  (by kernel_rfl : D12 rec n c12x7 x0 (K1 (s12a5 rec n) 3) = D12 rec n c12x8 (xs x0 0 (K1 (s12a5 rec n) 3)) (K1 (s12a5 rec n) 3)).trans
  ((s12a7e rec n).trans (by kernel_rfl))

theorem s12a4p1 : D12 rec n c12x4 x0 (retK CF Try.f12) = D12 rec n c12x6 x0 (K1 (s12a5 rec n) 3) :=
  congrArg (fun k => D12 rec n c12x6 x0 k) (s12a5e rec n)

theorem s12a4p2 : D12 rec n c12x6 x0 (K1 (s12a5 rec n) 3) = D12 rec n c12x10 x0 (K3 (s12a6 rec n) 1 3 4) :=
  congrArg (fun k => D12 rec n c12x10 x0 k) (s12a6e rec n)

theorem s12a4e : D12 rec n c12x4 x0 (retK CF Try.f12) = (K2 (s12a4 rec n) 1 3) :=
  (s12a4p1 rec n).trans
  ((s12a4p2 rec n).trans
  ((by kernel_rfl)))

theorem s12a3p3 : D12 rec n c12x3 x0 (retK CF Try.f12) = D12 rec n c12x11 x0 (K2 (s12a4 rec n) 1 3) :=
  congrArg (fun k => D12 rec n c12x11 x0 k) (s12a4e rec n)

theorem s12a3e : D12 rec n c12x3 x0 (retK CF Try.f12) = (K2 (s12a3 rec n) 1 3) :=
  (s12a3p3 rec n).trans
  ((by kernel_rfl))

theorem s12a2p4 : D12 rec n c12x2 x0 (retK CF Try.f12) = D12 rec n c12x12 x0 (K2 (s12a3 rec n) 1 3) :=
  congrArg (fun k => D12 rec n c12x12 x0 k) (s12a3e rec n)

theorem s12a2e : D12 rec n c12x2 x0 (retK CF Try.f12) = (K2 (s12a2 rec n) 1 3) :=
  (s12a2p4 rec n).trans
  ((by kernel_rfl))

theorem s12a1p5 : D12 rec n c12x1 x0 (retK CF Try.f12) = D12 rec n c12x13 x0 (K2 (s12a2 rec n) 1 3) :=
  congrArg (fun k => D12 rec n c12x13 x0 k) (s12a2e rec n)

theorem s12a1e : D12 rec n c12x1 x0 (retK CF Try.f12) = (K1 (s12a1 rec n) 1) :=
  (s12a1p5 rec n).trans
  ((by kernel_rfl))

theorem s12p6 : D12 rec n c12 x0 (retK CF Try.f12) = D12 rec n c12x14 x0 (K1 (s12a1 rec n) 1) :=
  congrArg (fun k => D12 rec n c12x14 x0 k) (s12a1e rec n)

theorem s12q7 (q0 : TT1) : D12 rec n c12x14 x0 (K1 q0 1) = fun (env : Env) (h : Hp) =>
    bnd (pBox (env 0) h) fun v79 h79 =>
    q0 v79 h79 := by kernel_rfl

theorem s12q7u : (fun (env : Env) (h : Hp) =>
    bnd (pBox (env 0) h) fun v80 h80 =>
    s12a1 rec n v80 h80) = (K1 (s12 rec n) 0) := by kernel_rfl

theorem s12m : D12 rec n c12 x0 (retK CF Try.f12) = (K1 (s12 rec n) 0) :=
  (s12p6 rec n).trans
  ((s12q7 rec n (s12a1 rec n)).trans (s12q7u rec n))

theorem s12ok (args : List DV) (h : Hp) : bodyD CF rec n 12 args h = s12 rec n (args.getD 0 undefD) h :=
  (by kernel_rfl : bodyD CF rec n 12 args h = D12 rec n c12 x0 (retK CF Try.f12) (argsE args) h).trans ((congrFun (congrFun (s12m rec n) (argsE args)) h).trans (by kernel_rfl))

noncomputable def s13a3 (rec : RT) (n : Nat) (x1 x5 : DV) (h0 : Hp) : Res :=
  bnd (pInt .gtr x5 x1 h0) fun v1 h1 =>
  ifD v1 (
    some ((.i .i64 (Int.negSucc 0)), h1)) (
    some (x5, h1))

noncomputable def s13a5b (rec : RT) (n : Nat) (kk5 : TT4) (x1 x2 x5 x6 : DV) (h0 : Hp) : Res :=
    bnd (pField 5 x2 h0) fun v3 h3 =>
    bnd (pLoad1 v3 h3) fun v4 h4 =>
    bnd (pLen v4 h4) fun v5 h5 =>
    bnd (pInt .lss x6 v5 h5) fun v6 h6 =>
    ifD v6 (
      bnd (pInt .geq x5 x1 h6) fun v7 h7 =>
      ifD v7 (
        some ((.i .i64 (Int.negSucc 0)), h7)) (
        bnd (pField 5 x2 h7) fun v8 h8 =>
        bnd (pLoad1 v8 h8) fun v9 h9 =>
        bnd (pIndexAddr 6 v9 x6 h9) fun v10 h10 =>
        bnd (pLoadA 6 v10 h10) fun v11 h11 =>
        bnd (pInt .sub x1 x5 h11) fun v12 h12 =>
        bnd (rec 13 [v11, v12] h12) fun v13 h13 =>
        bnd (pInt .lss v13 (.i .i64 (Int.ofNat 0)) h13) fun v14 h14 =>
        ifD v14 (
          some ((.i .i64 (Int.negSucc 0)), h14)) (
          bnd (pInt .add x5 v13 h14) fun v15 h15 =>
          bnd (pInt .add x6 (.i .i64 (Int.ofNat 1)) h15) fun v16 h16 =>
          kk5 x1 x2 v15 v16 h16))) (
      s13a3 rec n x1 x5 h6)

noncomputable def s13a5l (rec : RT) (n : Nat) (m : Nat) : TT4 :=
  Nat.rec (motive := fun _ => TT4) (fun _ _ _ _ _ => none) (fun _ ih => s13a5b rec n ih) m

noncomputable def s13a5 (rec : RT) (n : Nat) : TT4 := s13a5l rec n n

noncomputable def s13a4 (rec : RT) (n : Nat) (x1 x2 x5 x6 : DV) (h0 : Hp) : Res :=
  s13a5 rec n x1 x2 x5 x6 h0

noncomputable def s13a2 (rec : RT) (n : Nat) (x1 x2 x5 : DV) (h0 : Hp) : Res :=
  s13a4 rec n x1 x2 x5 (.i .i64 (Int.ofNat 0)) h0

noncomputable def s13a1 (rec : RT) (n : Nat) (x1 x2 : DV) (h0 : Hp) : Res :=
  s13a2 rec n x1 x2 (.i .i64 (Int.ofNat 1)) h0

/-- vivariumref07.Few -/
noncomputable def s13 (rec : RT) (n : Nat) (x0 x1 : DV) (h0 : Hp) : Res :=
  bnd (pBox x0 h0) fun v31 h31 =>
  s13a1 rec n x1 v31 h31

noncomputable abbrev c13 : Code := cf Try.f13
noncomputable abbrev c13x1 : Code := cR c13
noncomputable abbrev c13x2 : Code := cR c13x1
noncomputable abbrev c13x3 : Code := cR c13x2
noncomputable abbrev c13x4 : Code := cL c13x2
noncomputable abbrev c13x5 : Code := cR c13x4
noncomputable abbrev c13x6 : Code := cL c13x5
noncomputable abbrev c13x7 : Code := cL c13x6
noncomputable abbrev c13x8 : Code := cL c13x4
noncomputable abbrev c13x9 : Code := cL c13x1
noncomputable abbrev c13x10 : Code := cL c13

noncomputable def D13 (rec : RT) (n : Nat) (c : Code) (X : Nat → K) (k : K) : K := codeD CF rec 36 n c X (retK CF Try.f13) k

theorem s13a3e : D13 rec n c13x3 x0 (retK CF Try.f13) = (K2 (s13a3 rec n) 1 5) :=
  (by kernel_rfl)

theorem s13a5be (kk5 : TT4) : D13 rec n c13x7 (xs x0 0 (K2 (s13a3 rec n) 1 5)) (K4 kk5 1 2 5 6) = (K4 (s13a5b rec n kk5) 1 2 5 6) :=
  (by kernel_rfl)

theorem s13a5le (m : Nat) : loopN (fun kk => D13 rec n c13x7 (xs x0 0 (K2 (s13a3 rec n) 1 5)) kk) m = (K4 (s13a5l rec n m) 1 2 5 6) := by
  induction m with
  | zero => exact (by kernel_rfl : loopN (fun kk => D13 rec n c13x7 (xs x0 0 (K2 (s13a3 rec n) 1 5)) kk) 0 = (K4 (s13a5l rec n 0) 1 2 5 6))
  | succ m ih =>
    refine (by kernel_rfl : loopN (fun kk => D13 rec n c13x7 (xs x0 0 (K2 (s13a3 rec n) 1 5)) kk) (m + 1) = D13 rec n c13x7 (xs x0 0 (K2 (s13a3 rec n) 1 5)) (loopN (fun kk => D13 rec n c13x7 (xs x0 0 (K2 (s13a3 rec n) 1 5)) kk) m)).trans ?_
    rw [ih]
    exact (s13a5be rec n (s13a5l rec n m)).trans (by kernel_rfl)

theorem s13a5e : D13 rec n c13x6 (xs x0 0 (K2 (s13a3 rec n) 1 5)) (K2 (s13a3 rec n) 1 5) = (K4 (s13a5 rec n) 1 2 5 6) :=
  (by kernel_rfl : D13 rec n c13x6 (xs x0 0 (K2 (s13a3 rec n) 1 5)) (K2 (s13a3 rec n) 1 5) = loopN (fun kk => D13 rec n c13x7 (xs x0 0 (K2 (s13a3 rec n) 1 5)) kk) n).trans ((s13a5le rec n n).trans (by kernel_rfl))

theorem s13a4e : D13 rec n c13x5 x0 (K2 (s13a3 rec n) 1 5) = (K4 (s13a4 rec n) 1 2 5 6) :=
  (by kernel_rfl : D13 rec n c13x5 x0 (K2 (s13a3 rec n) 1 5) = D13 rec n c13x6 (xs x0 0 (K2 (s13a3 rec n) 1 5)) (K2 (s13a3 rec n) 1 5)).trans
  ((s13a5e rec n).trans (by kernel_rfl))

theorem s13a2p1 : D13 rec n c13x2 x0 (retK CF Try.f13) = D13 rec n c13x4 x0 (K2 (s13a3 rec n) 1 5) :=
  congrArg (fun k => D13 rec n c13x4 x0 k) (s13a3e rec n)

theorem s13a2p2 : D13 rec n c13x4 x0 (K2 (s13a3 rec n) 1 5) = D13 rec n c13x8 x0 (K4 (s13a4 rec n) 1 2 5 6) :=
  congrArg (fun k => D13 rec n c13x8 x0 k) (s13a4e rec n)

theorem s13a2e : D13 rec n c13x2 x0 (retK CF Try.f13) = (K3 (s13a2 rec n) 1 2 5) :=
  (s13a2p1 rec n).trans
  ((s13a2p2 rec n).trans
  ((by kernel_rfl)))

theorem s13a1p3 : D13 rec n c13x1 x0 (retK CF Try.f13) = D13 rec n c13x9 x0 (K3 (s13a2 rec n) 1 2 5) :=
  congrArg (fun k => D13 rec n c13x9 x0 k) (s13a2e rec n)

theorem s13a1e : D13 rec n c13x1 x0 (retK CF Try.f13) = (K2 (s13a1 rec n) 1 2) :=
  (s13a1p3 rec n).trans
  ((by kernel_rfl))

theorem s13p4 : D13 rec n c13 x0 (retK CF Try.f13) = D13 rec n c13x10 x0 (K2 (s13a1 rec n) 1 2) :=
  congrArg (fun k => D13 rec n c13x10 x0 k) (s13a1e rec n)

theorem s13q5 (q0 : TT2) : D13 rec n c13x10 x0 (K2 q0 1 2) = fun (env : Env) (h : Hp) =>
    bnd (pBox (env 0) h) fun v33 h33 =>
    q0 (env 1) v33 h33 := by kernel_rfl

theorem s13q5u : (fun (env : Env) (h : Hp) =>
    bnd (pBox (env 0) h) fun v34 h34 =>
    s13a1 rec n (env 1) v34 h34) = (K2 (s13 rec n) 0 1) := by kernel_rfl

theorem s13m : D13 rec n c13 x0 (retK CF Try.f13) = (K2 (s13 rec n) 0 1) :=
  (s13p4 rec n).trans
  ((s13q5 rec n (s13a1 rec n)).trans (s13q5u rec n))

theorem s13ok (args : List DV) (h : Hp) : bodyD CF rec n 13 args h = s13 rec n (args.getD 0 undefD) (args.getD 1 undefD) h :=
  (by kernel_rfl : bodyD CF rec n 13 args h = D13 rec n c13 x0 (retK CF Try.f13) (argsE args) h).trans ((congrFun (congrFun (s13m rec n) (argsE args)) h).trans (by kernel_rfl))

/-- parse.Same -/
noncomputable def s14 (rec : RT) (n : Nat) (x0 x1 : DV) (h0 : Hp) : Res :=
  bnd (pBox x0 h0) fun v1 h1 =>
  bnd (pBox x1 h1) fun v2 h2 =>
  bnd (pField 0 v1 h2) fun v3 h3 =>
  bnd (pLoad1 v3 h3) fun v4 h4 =>
  bnd (pField 0 v2 h4) fun v5 h5 =>
  bnd (pLoad1 v5 h5) fun v6 h6 =>
  bnd (pInt .eql v4 v6 h6) fun v7 h7 =>
  bnd (gD v7 true (pField 1 v1 h7) h7) fun v8 h8 =>
  bnd (gD v7 true (pLoad1 v8 h8) h8) fun v9 h9 =>
  bnd (gD v7 true (pField 1 v2 h9) h9) fun v10 h10 =>
  bnd (gD v7 true (pLoad1 v10 h10) h10) fun v11 h11 =>
  bnd (gD v7 true (pStr .eql v9 v11 h11) h11) fun v12 h12 =>
  bnd (pPick v7 v12 (.b false) h12) fun v13 h13 =>
  bnd (gD v13 true (pField 2 v1 h13) h13) fun v14 h14 =>
  bnd (gD v13 true (pLoad1 v14 h14) h14) fun v15 h15 =>
  bnd (gD v13 true (pField 2 v2 h15) h15) fun v16 h16 =>
  bnd (gD v13 true (pLoad1 v16 h16) h16) fun v17 h17 =>
  bnd (gD v13 true (pInt .eql v15 v17 h17) h17) fun v18 h18 =>
  bnd (pPick v13 v18 (.b false) h18) fun v19 h19 =>
  bnd (gD v19 true (pField 3 v1 h19) h19) fun v20 h20 =>
  bnd (gD v19 true (pLoad1 v20 h20) h20) fun v21 h21 =>
  bnd (gD v19 true (pField 3 v2 h21) h21) fun v22 h22 =>
  bnd (gD v19 true (pLoad1 v22 h22) h22) fun v23 h23 =>
  bnd (gD v19 true (rec 22 [v21, v23] h23) h23) fun v24 h24 =>
  bnd (pPick v19 v24 (.b false) h24) fun v25 h25 =>
  bnd (gD v25 true (pField 4 v1 h25) h25) fun v26 h26 =>
  bnd (gD v25 true (pLoad1 v26 h26) h26) fun v27 h27 =>
  bnd (gD v25 true (pField 4 v2 h27) h27) fun v28 h28 =>
  bnd (gD v25 true (pLoad1 v28 h28) h28) fun v29 h29 =>
  bnd (gD v25 true (rec 22 [v27, v29] h29) h29) fun v30 h30 =>
  bnd (pPick v25 v30 (.b false) h30) fun v31 h31 =>
  bnd (gD v31 true (pField 5 v1 h31) h31) fun v32 h32 =>
  bnd (gD v31 true (pLoad1 v32 h32) h32) fun v33 h33 =>
  bnd (gD v31 true (pField 5 v2 h33) h33) fun v34 h34 =>
  bnd (gD v31 true (pLoad1 v34 h34) h34) fun v35 h35 =>
  bnd (gD v31 true (rec 23 [v33, v35, (.f 14 [] [])] h35) h35) fun v36 h36 =>
  bnd (pPick v31 v36 (.b false) h36) fun v37 h37 =>
  some (v37, h37)

noncomputable abbrev c14 : Code := cf Try.f14

noncomputable def D14 (rec : RT) (n : Nat) (c : Code) (X : Nat → K) (k : K) : K := codeD CF rec 47 n c X (retK CF Try.f14) k

theorem s14m : D14 rec n c14 x0 (retK CF Try.f14) = (K2 (s14 rec n) 0 1) :=
  (by kernel_rfl)

theorem s14ok (args : List DV) (h : Hp) : bodyD CF rec n 14 args h = s14 rec n (args.getD 0 undefD) (args.getD 1 undefD) h :=
  (by kernel_rfl : bodyD CF rec n 14 args h = D14 rec n c14 x0 (retK CF Try.f14) (argsE args) h).trans ((congrFun (congrFun (s14m rec n) (argsE args)) h).trans (by kernel_rfl))

/-- parse.Method -/
noncomputable def s15 (rec : RT) (n : Nat) (x0 : DV) (h0 : Hp) : Res :=
  bnd (pNew [(.i .i64 (Int.ofNat 0)), (.s []), (.i .i64 (Int.ofNat 0)), .l0, .l0, .l0] h0) fun v1 h1 =>
  bnd (rec 17 [x0, (.f 24 [] [])] h1) fun v2 h2 =>
  bnd (pExtract 0 v2 h2) fun v3 h3 =>
  bnd (pExtract 1 v2 h3) fun v4 h4 =>
  bnd (pExtract 2 v2 h4) fun v5 h5 =>
  bnd (pStore 6 v1 v3 h5) fun _ h6 =>
  bnd (pLoadA 6 v1 h6) fun v7 _ =>
  some (.t [v7, v4, v5], h6)

noncomputable abbrev c15 : Code := cf Try.f15

noncomputable def D15 (rec : RT) (n : Nat) (c : Code) (X : Nat → K) (k : K) : K := codeD CF rec 10 n c X (retK CF Try.f15) k

theorem s15m : D15 rec n c15 x0 (retK CF Try.f15) = (K1 (s15 rec n) 0) :=
  (by kernel_rfl)

theorem s15ok (args : List DV) (h : Hp) : bodyD CF rec n 15 args h = s15 rec n (args.getD 0 undefD) h :=
  (by kernel_rfl : bodyD CF rec n 15 args h = D15 rec n c15 x0 (retK CF Try.f15) (argsE args) h).trans ((congrFun (congrFun (s15m rec n) (argsE args)) h).trans (by kernel_rfl))

end Go.Dd

/- Dd, part Q1 (printed by gen.py): functions of the seat's program as Lean functions, linked to Dd. -/
set_option linter.unusedVariables false
set_option maxRecDepth 100000
namespace Go.Dd
open Go.Proofs

variable (rec : RT) (n : Nat)

/-- parse.read -/
noncomputable def s17 (rec : RT) (n : Nat) (x0 x1 : DV) (h0 : Hp) : Res :=
  bnd (pNew [(.i .i64 (Int.ofNat 0)), (.s []), (.i .i64 (Int.ofNat 0)), .l0, .l0, .l0] h0) fun v1 h1 =>
  bnd (rec 29 [x0] h1) fun v2 h2 =>
  bnd (pExtract 0 v2 h2) fun v3 h3 =>
  bnd (pExtract 1 v2 h3) fun v4 h4 =>
  bnd (pExtract 2 v2 h4) fun v5 h5 =>
  bnd (pInt .neq v5 (.i .i64 (Int.ofNat 0)) h5) fun v6 h6 =>
  ifD v6 (
    bnd (pBuild [(.i .i64 (Int.ofNat 0)), (.s []), (.i .i64 (Int.ofNat 0)), .l0, .l0, .l0] [] h6) fun v7 h7 =>
    bnd (pStore 6 v1 v7 h7) fun _ h8 =>
    bnd (pLoadA 6 v1 h8) fun v9 _ =>
    some (.t [v9, v4, v5], h8)) (
    bnd (pBuild [.l0, (.i .i64 (Int.ofNat 0)), (.i .i64 (Int.ofNat 0)), (.i .i64 (Int.ofNat 0))] [(0, 1, v3)] h6) fun v10 h10 =>
    bnd (pBox v10 h10) fun v11 h11 =>
    bnd (pCall CF rec x1 [v11] h11) fun v12 h12 =>
    bnd (pNew [(.i .i64 (Int.ofNat 0)), (.s []), (.i .i64 (Int.ofNat 0)), .l0, .l0, .l0] h12) fun v13 h13 =>
    bnd (pStore 6 v13 v12 h13) fun _ h14 =>
    bnd (rec 30 [v11] h14) fun v15 h15 =>
    bnd (pField 4 v13 h15) fun v16 h16 =>
    bnd (pStore 1 v16 v15 h16) fun _ h17 =>
    bnd (rec 31 [v11] h17) fun v18 h18 =>
    bnd (pField 5 v13 h18) fun v19 h19 =>
    bnd (pStore 1 v19 v18 h19) fun _ h20 =>
    bnd (rec 32 [v11, (.i .i64 (Int.ofNat 0)), (.s [])] h20) fun v21 h21 =>
    bnd (pNil v11 h21) fun v22 h22 =>
    bnd (pField 3 v22 h22) fun v23 h23 =>
    bnd (pLoad1 v23 h23) fun v24 h24 =>
    bnd (pInt .neq v24 (.i .i64 (Int.ofNat 0)) h24) fun v25 h25 =>
    ifD v25 (
      bnd (pBuild [(.i .i64 (Int.ofNat 0)), (.s []), (.i .i64 (Int.ofNat 0)), .l0, .l0, .l0] [] h25) fun v26 h26 =>
      bnd (pNil v11 h26) fun v27 h27 =>
      bnd (pField 2 v27 h27) fun v28 h28 =>
      bnd (pLoad1 v28 h28) fun v29 h29 =>
      bnd (pNil v11 h29) fun v30 h30 =>
      bnd (pField 3 v30 h30) fun v31 h31 =>
      bnd (pLoad1 v31 h31) fun v32 h32 =>
      bnd (pStore 6 v1 v26 h32) fun v33 h33 =>
      cnd (sameR (pLoad1 v31 h33) v32 && (sameR (pLoad1 v28 h33) v29 && true)) (
      bnd (pLoadA 6 v1 h33) fun v34 _ =>
      some (.t [v34, v29, v32], h33))) (
      bnd (pLoadA 6 v13 h25) fun v35 h35 =>
      bnd (pStore 6 v1 v35 h35) fun _ h36 =>
      bnd (pLoadA 6 v1 h36) fun v37 _ =>
      some (.t [v37, (.i .i64 (Int.ofNat 0)), (.i .i64 (Int.ofNat 0))], h36)))

noncomputable abbrev c17 : Code := cf Try.f17

noncomputable def D17 (rec : RT) (n : Nat) (c : Code) (X : Nat → K) (k : K) : K := codeD CF rec 52 n c X (retK CF Try.f17) k

theorem s17m : D17 rec n c17 x0 (retK CF Try.f17) = (K2 (s17 rec n) 0 1) :=
  (by kernel_rfl)

theorem s17ok (args : List DV) (h : Hp) : bodyD CF rec n 17 args h = s17 rec n (args.getD 0 undefD) (args.getD 1 undefD) h :=
  (by kernel_rfl : bodyD CF rec n 17 args h = D17 rec n c17 x0 (retK CF Try.f17) (argsE args) h).trans ((congrFun (congrFun (s17m rec n) (argsE args)) h).trans (by kernel_rfl))

/-- parse.parser).doit -/
noncomputable def s18 (rec : RT) (n : Nat) (x0 : DV) (h0 : Hp) : Res :=
  bnd (pNew [(.i .i64 (Int.ofNat 0)), (.s []), (.i .i64 (Int.ofNat 0)), .l0, .l0, .l0] h0) fun v1 h1 =>
  bnd (pBuild [(.i .i64 (Int.ofNat 0)), (.s []), (.i .i64 (Int.ofNat 0)), .l0, .l0, .l0] [(0, 1, (.i .i64 (Int.ofNat 11))), (1, 1, (.s [100, 111, 73, 116]))] h1) fun v2 h2 =>
  bnd (pStore 6 v1 v2 h2) fun _ h3 =>
  bnd (pLoadA 6 v1 h3) fun v4 _ =>
  some (v4, h3)

noncomputable abbrev c18 : Code := cf Try.f18

noncomputable def D18 (rec : RT) (n : Nat) (c : Code) (X : Nat → K) (k : K) : K := codeD CF rec 4 n c X (retK CF Try.f18) k

theorem s18m : D18 rec n c18 x0 (retK CF Try.f18) = (K1 (s18 rec n) 0) :=
  (by kernel_rfl)

theorem s18ok (args : List DV) (h : Hp) : bodyD CF rec n 18 args h = s18 rec n (args.getD 0 undefD) h :=
  (by kernel_rfl : bodyD CF rec n 18 args h = D18 rec n c18 x0 (retK CF Try.f18) (argsE args) h).trans ((congrFun (congrFun (s18m rec n) (argsE args)) h).trans (by kernel_rfl))

noncomputable def s19a2 (rec : RT) (n : Nat) (x1 : DV) (h0 : Hp) : Res :=
  some (.t [x1, (.b false)], h0)

noncomputable def s19a8 (rec : RT) (n : Nat) (kk3 : TT2) (x0 x1 x6 : DV) (h0 : Hp) : Res :=
  bnd (pLenS x0 h0) fun v1 h1 =>
  bnd (pInt .eql x6 v1 h1) fun v2 h2 =>
  ifD v2 (
    some (.t [x1, (.b true)], h2)) (
    bnd (pInt .add x6 (.i .i64 (Int.ofNat 1)) h2) fun v3 h3 =>
    kk3 x0 v3 h3)

noncomputable def s19a9b (rec : RT) (n : Nat) (kk3 : TT2) (kk9 : TT3) (x0 x1 x6 : DV) (h0 : Hp) : Res :=
    bnd (pLenS x0 h0) fun v7 h7 =>
    bnd (pInt .lss x6 v7 h7) fun v8 h8 =>
    bnd (gD v8 true (some (x0, h8)) h8) fun v9 h9 =>
    bnd (gD v8 true (some (x6, h9)) h9) fun v10 h10 =>
    bnd (gD v8 true (pIndexS v9 v10 h10) h10) fun v11 h11 =>
    bnd (gD v8 true (pInt .neq v11 (.i .u8 (Int.ofNat 34)) h11) h11) fun v12 h12 =>
    bnd (pPick v8 v12 (.b false) h12) fun v13 h13 =>
    ifD v13 (
      bnd (pInt .add x6 (.i .i64 (Int.ofNat 1)) h13) fun v14 h14 =>
      kk9 x0 x1 v14 h14) (
      s19a8 rec n kk3 x0 x1 x6 h13)

noncomputable def s19a9l (rec : RT) (n : Nat) (kk3 : TT2) (m : Nat) : TT3 :=
  Nat.rec (motive := fun _ => TT3) (fun _ _ _ _ => none) (fun _ ih => s19a9b rec n kk3 ih) m

noncomputable def s19a9 (rec : RT) (n : Nat) (kk3 : TT2) : TT3 := s19a9l rec n kk3 n

noncomputable def s19a7 (rec : RT) (n : Nat) (kk3 : TT2) (x0 x1 x6 : DV) (h0 : Hp) : Res :=
  s19a9 rec n kk3 x0 x1 x6 h0

noncomputable def s19a6 (rec : RT) (n : Nat) (kk3 : TT2) (x0 x1 : DV) (h0 : Hp) : Res :=
  bnd (pInt .add x1 (.i .i64 (Int.ofNat 1)) h0) fun v23 h23 =>
  s19a7 rec n kk3 x0 x1 v23 h23

noncomputable def s19a5 (rec : RT) (n : Nat) (kk3 : TT2) (x0 x1 : DV) (h0 : Hp) : Res :=
  bnd (pIndexS x0 x1 h0) fun v25 h25 =>
  bnd (pInt .neq v25 (.i .u8 (Int.ofNat 34)) h25) fun v26 h26 =>
  ifD v26 (
    s19a2 rec n x1 h26) (
    s19a6 rec n kk3 x0 x1 h26)

noncomputable def s19a4 (rec : RT) (n : Nat) (kk3 : TT2) (x0 x1 : DV) (h0 : Hp) : Res :=
  bnd (pIndexS x0 x1 h0) fun v29 h29 =>
  bnd (rec 33 [v29] h29) fun v30 h30 =>
  bnd (pInt .eql v30 (.i .i64 (Int.ofNat 5)) h30) fun v31 h31 =>
  ifD v31 (
    bnd (pInt .add x1 (.i .i64 (Int.ofNat 1)) h31) fun v32 h32 =>
    kk3 x0 v32 h32) (
    s19a5 rec n kk3 x0 x1 h31)

noncomputable def s19a3b (rec : RT) (n : Nat) (kk3 : TT2) (x0 x1 : DV) (h0 : Hp) : Res :=
    bnd (pLenS x0 h0) fun v37 h37 =>
    bnd (pInt .lss x1 v37 h37) fun v38 h38 =>
    ifD v38 (
      s19a4 rec n kk3 x0 x1 h38) (
      s19a2 rec n x1 h38)

noncomputable def s19a3l (rec : RT) (n : Nat) (m : Nat) : TT2 :=
  Nat.rec (motive := fun _ => TT2) (fun _ _ _ => none) (fun _ ih => s19a3b rec n ih) m

noncomputable def s19a3 (rec : RT) (n : Nat) : TT2 := s19a3l rec n n

noncomputable def s19a1 (rec : RT) (n : Nat) (x0 x1 : DV) (h0 : Hp) : Res :=
  s19a3 rec n x0 x1 h0

/-- vivariumref06.Skip -/
noncomputable def s19 (rec : RT) (n : Nat) (x0 x1 : DV) (h0 : Hp) : Res :=
  s19a1 rec n x0 x1 h0

noncomputable abbrev c19 : Code := cf Try.f19
noncomputable abbrev c19x1 : Code := cR c19
noncomputable abbrev c19x2 : Code := cR c19x1
noncomputable abbrev c19x3 : Code := cL c19x1
noncomputable abbrev c19x4 : Code := cL c19x3
noncomputable abbrev c19x5 : Code := cL c19x4
noncomputable abbrev c19x6 : Code := cR c19x5
noncomputable abbrev c19x7 : Code := cL c19x6
noncomputable abbrev c19x8 : Code := cR c19x7
noncomputable abbrev c19x9 : Code := cR c19x8
noncomputable abbrev c19x10 : Code := cR c19x9
noncomputable abbrev c19x11 : Code := cR c19x10
noncomputable abbrev c19x12 : Code := cL c19x10
noncomputable abbrev c19x13 : Code := cL c19x12
noncomputable abbrev c19x14 : Code := cL c19x13
noncomputable abbrev c19x15 : Code := cL c19x9
noncomputable abbrev c19x16 : Code := cL c19x8
noncomputable abbrev c19x17 : Code := cL c19x7
noncomputable abbrev c19x18 : Code := cL c19x5
noncomputable abbrev c19x19 : Code := cL c19

noncomputable def D19 (rec : RT) (n : Nat) (c : Code) (X : Nat → K) (k : K) : K := codeD CF rec 44 n c X (retK CF Try.f19) k

theorem s19a2e : D19 rec n c19x2 x0 (retK CF Try.f19) = (K1 (s19a2 rec n) 1) :=
  (by kernel_rfl)

theorem s19a8e (kk3 : TT2) : D19 rec n c19x11 (xs (xs x0 0 (K1 (s19a2 rec n) 1)) 1 (K2 kk3 0 1)) (K2 kk3 0 1) = (K3 (s19a8 rec n kk3) 0 1 6) :=
  (by kernel_rfl)

theorem s19a9be (kk3 : TT2) (kk9 : TT3) : D19 rec n c19x14 (xs (xs (xs x0 0 (K1 (s19a2 rec n) 1)) 1 (K2 kk3 0 1)) 2 (K3 (s19a8 rec n kk3) 0 1 6)) (K3 kk9 0 1 6) = (K3 (s19a9b rec n kk3 kk9) 0 1 6) :=
  (by kernel_rfl)

theorem s19a9le (kk3 : TT2) (m : Nat) : loopN (fun kk => D19 rec n c19x14 (xs (xs (xs x0 0 (K1 (s19a2 rec n) 1)) 1 (K2 kk3 0 1)) 2 (K3 (s19a8 rec n kk3) 0 1 6)) kk) m = (K3 (s19a9l rec n kk3 m) 0 1 6) := by
  induction m with
  | zero => exact (by kernel_rfl : loopN (fun kk => D19 rec n c19x14 (xs (xs (xs x0 0 (K1 (s19a2 rec n) 1)) 1 (K2 kk3 0 1)) 2 (K3 (s19a8 rec n kk3) 0 1 6)) kk) 0 = (K3 (s19a9l rec n kk3 0) 0 1 6))
  | succ m ih =>
    refine (by kernel_rfl : loopN (fun kk => D19 rec n c19x14 (xs (xs (xs x0 0 (K1 (s19a2 rec n) 1)) 1 (K2 kk3 0 1)) 2 (K3 (s19a8 rec n kk3) 0 1 6)) kk) (m + 1) = D19 rec n c19x14 (xs (xs (xs x0 0 (K1 (s19a2 rec n) 1)) 1 (K2 kk3 0 1)) 2 (K3 (s19a8 rec n kk3) 0 1 6)) (loopN (fun kk => D19 rec n c19x14 (xs (xs (xs x0 0 (K1 (s19a2 rec n) 1)) 1 (K2 kk3 0 1)) 2 (K3 (s19a8 rec n kk3) 0 1 6)) kk) m)).trans ?_
    rw [ih]
    exact (s19a9be rec n kk3 (s19a9l rec n kk3 m)).trans (by kernel_rfl)

theorem s19a9e (kk3 : TT2) : D19 rec n c19x13 (xs (xs (xs x0 0 (K1 (s19a2 rec n) 1)) 1 (K2 kk3 0 1)) 2 (K3 (s19a8 rec n kk3) 0 1 6)) (K3 (s19a8 rec n kk3) 0 1 6) = (K3 (s19a9 rec n kk3) 0 1 6) :=
  (by kernel_rfl : D19 rec n c19x13 (xs (xs (xs x0 0 (K1 (s19a2 rec n) 1)) 1 (K2 kk3 0 1)) 2 (K3 (s19a8 rec n kk3) 0 1 6)) (K3 (s19a8 rec n kk3) 0 1 6) = loopN (fun kk => D19 rec n c19x14 (xs (xs (xs x0 0 (K1 (s19a2 rec n) 1)) 1 (K2 kk3 0 1)) 2 (K3 (s19a8 rec n kk3) 0 1 6)) kk) n).trans ((s19a9le rec n kk3 n).trans (by kernel_rfl))

theorem s19a7p1 (kk3 : TT2) : D19 rec n c19x10 (xs (xs x0 0 (K1 (s19a2 rec n) 1)) 1 (K2 kk3 0 1)) (K2 kk3 0 1) = D19 rec n c19x12 (xs (xs x0 0 (K1 (s19a2 rec n) 1)) 1 (K2 kk3 0 1)) (K3 (s19a8 rec n kk3) 0 1 6) :=
  congrArg (fun k => D19 rec n c19x12 (xs (xs x0 0 (K1 (s19a2 rec n) 1)) 1 (K2 kk3 0 1)) k) (s19a8e rec n kk3)

theorem s19a7e (kk3 : TT2) : D19 rec n c19x10 (xs (xs x0 0 (K1 (s19a2 rec n) 1)) 1 (K2 kk3 0 1)) (K2 kk3 0 1) = (K3 (s19a7 rec n kk3) 0 1 6) :=
  (s19a7p1 rec n kk3).trans
  ((by kernel_rfl : D19 rec n c19x12 (xs (xs x0 0 (K1 (s19a2 rec n) 1)) 1 (K2 kk3 0 1)) (K3 (s19a8 rec n kk3) 0 1 6) = D19 rec n c19x13 (xs (xs (xs x0 0 (K1 (s19a2 rec n) 1)) 1 (K2 kk3 0 1)) 2 (K3 (s19a8 rec n kk3) 0 1 6)) (K3 (s19a8 rec n kk3) 0 1 6)).trans
  ((s19a9e rec n kk3).trans (by kernel_rfl)))

theorem s19a6p2 (kk3 : TT2) : D19 rec n c19x9 (xs (xs x0 0 (K1 (s19a2 rec n) 1)) 1 (K2 kk3 0 1)) (K2 kk3 0 1) = D19 rec n c19x15 (xs (xs x0 0 (K1 (s19a2 rec n) 1)) 1 (K2 kk3 0 1)) (K3 (s19a7 rec n kk3) 0 1 6) :=
  congrArg (fun k => D19 rec n c19x15 (xs (xs x0 0 (K1 (s19a2 rec n) 1)) 1 (K2 kk3 0 1)) k) (s19a7e rec n kk3)

theorem s19a6e (kk3 : TT2) : D19 rec n c19x9 (xs (xs x0 0 (K1 (s19a2 rec n) 1)) 1 (K2 kk3 0 1)) (K2 kk3 0 1) = (K2 (s19a6 rec n kk3) 0 1) :=
  (s19a6p2 rec n kk3).trans
  ((by kernel_rfl))

theorem s19a5p3 (kk3 : TT2) : D19 rec n c19x8 (xs (xs x0 0 (K1 (s19a2 rec n) 1)) 1 (K2 kk3 0 1)) (K2 kk3 0 1) = D19 rec n c19x16 (xs (xs x0 0 (K1 (s19a2 rec n) 1)) 1 (K2 kk3 0 1)) (K2 (s19a6 rec n kk3) 0 1) :=
  congrArg (fun k => D19 rec n c19x16 (xs (xs x0 0 (K1 (s19a2 rec n) 1)) 1 (K2 kk3 0 1)) k) (s19a6e rec n kk3)

theorem s19a5e (kk3 : TT2) : D19 rec n c19x8 (xs (xs x0 0 (K1 (s19a2 rec n) 1)) 1 (K2 kk3 0 1)) (K2 kk3 0 1) = (K2 (s19a5 rec n kk3) 0 1) :=
  (s19a5p3 rec n kk3).trans
  ((by kernel_rfl))

theorem s19a4p4 (kk3 : TT2) : D19 rec n c19x7 (xs (xs x0 0 (K1 (s19a2 rec n) 1)) 1 (K2 kk3 0 1)) (K2 kk3 0 1) = D19 rec n c19x17 (xs (xs x0 0 (K1 (s19a2 rec n) 1)) 1 (K2 kk3 0 1)) (K2 (s19a5 rec n kk3) 0 1) :=
  congrArg (fun k => D19 rec n c19x17 (xs (xs x0 0 (K1 (s19a2 rec n) 1)) 1 (K2 kk3 0 1)) k) (s19a5e rec n kk3)

theorem s19a4e (kk3 : TT2) : D19 rec n c19x6 (xs x0 0 (K1 (s19a2 rec n) 1)) (K2 kk3 0 1) = (K2 (s19a4 rec n kk3) 0 1) :=
  (by kernel_rfl : D19 rec n c19x6 (xs x0 0 (K1 (s19a2 rec n) 1)) (K2 kk3 0 1) = D19 rec n c19x7 (xs (xs x0 0 (K1 (s19a2 rec n) 1)) 1 (K2 kk3 0 1)) (K2 kk3 0 1)).trans
  ((s19a4p4 rec n kk3).trans
  ((by kernel_rfl)))

theorem s19a3p5 (kk3 : TT2) : D19 rec n c19x5 (xs x0 0 (K1 (s19a2 rec n) 1)) (K2 kk3 0 1) = D19 rec n c19x18 (xs x0 0 (K1 (s19a2 rec n) 1)) (K2 (s19a4 rec n kk3) 0 1) :=
  congrArg (fun k => D19 rec n c19x18 (xs x0 0 (K1 (s19a2 rec n) 1)) k) (s19a4e rec n kk3)

theorem s19a3be (kk3 : TT2) : D19 rec n c19x5 (xs x0 0 (K1 (s19a2 rec n) 1)) (K2 kk3 0 1) = (K2 (s19a3b rec n kk3) 0 1) :=
  (s19a3p5 rec n kk3).trans
  ((by kernel_rfl))

theorem s19a3le (m : Nat) : loopN (fun kk => D19 rec n c19x5 (xs x0 0 (K1 (s19a2 rec n) 1)) kk) m = (K2 (s19a3l rec n m) 0 1) := by
  induction m with
  | zero => exact (by kernel_rfl : loopN (fun kk => D19 rec n c19x5 (xs x0 0 (K1 (s19a2 rec n) 1)) kk) 0 = (K2 (s19a3l rec n 0) 0 1))
  | succ m ih =>
    refine (by kernel_rfl : loopN (fun kk => D19 rec n c19x5 (xs x0 0 (K1 (s19a2 rec n) 1)) kk) (m + 1) = D19 rec n c19x5 (xs x0 0 (K1 (s19a2 rec n) 1)) (loopN (fun kk => D19 rec n c19x5 (xs x0 0 (K1 (s19a2 rec n) 1)) kk) m)).trans ?_
    rw [ih]
    exact (s19a3be rec n (s19a3l rec n m)).trans (by kernel_rfl)

theorem s19a3e : D19 rec n c19x4 (xs x0 0 (K1 (s19a2 rec n) 1)) (K1 (s19a2 rec n) 1) = (K2 (s19a3 rec n) 0 1) :=
  (by kernel_rfl : D19 rec n c19x4 (xs x0 0 (K1 (s19a2 rec n) 1)) (K1 (s19a2 rec n) 1) = loopN (fun kk => D19 rec n c19x5 (xs x0 0 (K1 (s19a2 rec n) 1)) kk) n).trans ((s19a3le rec n n).trans (by kernel_rfl))

theorem s19a1p6 : D19 rec n c19x1 x0 (retK CF Try.f19) = D19 rec n c19x3 x0 (K1 (s19a2 rec n) 1) :=
  congrArg (fun k => D19 rec n c19x3 x0 k) (s19a2e rec n)

theorem s19a1e : D19 rec n c19x1 x0 (retK CF Try.f19) = (K2 (s19a1 rec n) 0 1) :=
  (s19a1p6 rec n).trans
  ((by kernel_rfl : D19 rec n c19x3 x0 (K1 (s19a2 rec n) 1) = D19 rec n c19x4 (xs x0 0 (K1 (s19a2 rec n) 1)) (K1 (s19a2 rec n) 1)).trans
  ((s19a3e rec n).trans (by kernel_rfl)))

theorem s19p7 : D19 rec n c19 x0 (retK CF Try.f19) = D19 rec n c19x19 x0 (K2 (s19a1 rec n) 0 1) :=
  congrArg (fun k => D19 rec n c19x19 x0 k) (s19a1e rec n)

theorem s19m : D19 rec n c19 x0 (retK CF Try.f19) = (K2 (s19 rec n) 0 1) :=
  (s19p7 rec n).trans
  ((by kernel_rfl))

theorem s19ok (args : List DV) (h : Hp) : bodyD CF rec n 19 args h = s19 rec n (args.getD 0 undefD) (args.getD 1 undefD) h :=
  (by kernel_rfl : bodyD CF rec n 19 args h = D19 rec n c19 x0 (retK CF Try.f19) (argsE args) h).trans ((congrFun (congrFun (s19m rec n) (argsE args)) h).trans (by kernel_rfl))

noncomputable def s20a6 (rec : RT) (n : Nat) (x0 x1 x4 x7 x8 : DV) (h0 : Hp) : Res :=
  bnd (pInt .eql x8 (.i .i64 (Int.ofNat 4)) h0) fun v1 h1 =>
  ifD v1 (
    bnd (pField 0 x7 h1) fun v2 h2 =>
    bnd (pStore 1 v2 (.i .i64 (Int.ofNat 10)) h2) fun _ h3 =>
    bnd (pInt .add x1 (.i .i64 (Int.ofNat 1)) h3) fun v4 h4 =>
    bnd (pSliceS x0 (some x1) (some v4) h4) fun v5 h5 =>
    bnd (pField 1 x7 h5) fun v6 h6 =>
    bnd (pStore 1 v6 v5 h6) fun _ h7 =>
    bnd (pLoadA 4 x7 h7) fun v8 h8 =>
    bnd (pInt .add x1 (.i .i64 (Int.ofNat 1)) h8) fun v9 h9 =>
    bnd (pStore 4 x4 v8 h9) fun _ h10 =>
    bnd (pLoadA 4 x4 h10) fun v11 _ =>
    some (.t [v11, v9, (.i .i64 (Int.ofNat 0))], h10)) (
    bnd (pIndexS x0 x1 h1) fun v12 h12 =>
    bnd (pInt .eql v12 (.i .u8 (Int.ofNat 39)) h12) fun v13 h13 =>
    ifD v13 (
      bnd (pField 0 x7 h13) fun v14 h14 =>
      bnd (pStore 1 v14 (.i .i64 (Int.ofNat 5)) h14) fun _ h15 =>
      bnd (pLoadA 4 x7 h15) fun v16 h16 =>
      bnd (rec 37 [x0, v16] h16) fun v17 h17 =>
      bnd (pExtract 0 v17 h17) fun v18 h18 =>
      bnd (pExtract 1 v17 h18) fun v19 h19 =>
      bnd (pExtract 2 v17 h19) fun v20 h20 =>
      bnd (pStore 4 x4 v18 h20) fun _ h21 =>
      bnd (pLoadA 4 x4 h21) fun v22 _ =>
      some (.t [v22, v19, v20], h21)) (
      bnd (pIndexS x0 x1 h13) fun v23 h23 =>
      bnd (pInt .eql v23 (.i .u8 (Int.ofNat 35)) h23) fun v24 h24 =>
      ifD v24 (
        bnd (pLoadA 4 x7 h24) fun v25 h25 =>
        bnd (rec 38 [x0, v25] h25) fun v26 h26 =>
        bnd (pExtract 0 v26 h26) fun v27 h27 =>
        bnd (pExtract 1 v26 h27) fun v28 h28 =>
        bnd (pExtract 2 v26 h28) fun v29 h29 =>
        bnd (pStore 4 x4 v27 h29) fun _ h30 =>
        bnd (pLoadA 4 x4 h30) fun v31 _ =>
        some (.t [v31, v28, v29], h30)) (
        bnd (pIndexS x0 x1 h24) fun v32 h32 =>
        bnd (pInt .eql v32 (.i .u8 (Int.ofNat 58)) h32) fun v33 h33 =>
        bnd (gD v33 true (some (x1, h33)) h33) fun v34 h34 =>
        bnd (gD v33 true (pInt .add v34 (.i .i64 (Int.ofNat 1)) h34) h34) fun v35 h35 =>
        bnd (gD v33 true (some (x0, h35)) h35) fun v36 h36 =>
        bnd (gD v33 true (pLenS v36 h36) h36) fun v37 h37 =>
        bnd (gD v33 true (pInt .lss v35 v37 h37) h37) fun v38 h38 =>
        bnd (pPick v33 v38 (.b false) h38) fun v39 h39 =>
        bnd (gD v39 true (some (x0, h39)) h39) fun v40 h40 =>
        bnd (gD v39 true (some (x1, h40)) h40) fun v41 h41 =>
        bnd (gD v39 true (pInt .add v41 (.i .i64 (Int.ofNat 1)) h41) h41) fun v42 h42 =>
        bnd (gD v39 true (pIndexS v40 v42 h42) h42) fun v43 h43 =>
        bnd (gD v39 true (pInt .eql v43 (.i .u8 (Int.ofNat 61)) h43) h43) fun v44 h44 =>
        bnd (pPick v39 v44 (.b false) h44) fun v45 h45 =>
        ifD v45 (
          bnd (pField 0 x7 h45) fun v46 h46 =>
          bnd (pStore 1 v46 (.i .i64 (Int.ofNat 9)) h46) fun _ h47 =>
          bnd (pLoadA 4 x7 h47) fun v48 h48 =>
          bnd (pInt .add x1 (.i .i64 (Int.ofNat 2)) h48) fun v49 h49 =>
          bnd (pStore 4 x4 v48 h49) fun _ h50 =>
          bnd (pLoadA 4 x4 h50) fun v51 _ =>
          some (.t [v51, v49, (.i .i64 (Int.ofNat 0))], h50)) (
          bnd (pIndexS x0 x1 h45) fun v52 h52 =>
          bnd (pInt .eql v52 (.i .u8 (Int.ofNat 58)) h52) fun v53 h53 =>
          bnd (gD v53 true (some (x0, h53)) h53) fun v54 h54 =>
          bnd (gD v53 true (some (x1, h54)) h54) fun v55 h55 =>
          bnd (gD v53 true (pInt .add v55 (.i .i64 (Int.ofNat 1)) h55) h55) fun v56 h56 =>
          bnd (gD v53 true (rec 34 [v54, v56] h56) h56) fun v57 h57 =>
          bnd (gD v53 true (pInt .eql v57 (.i .i64 (Int.ofNat 1)) h57) h57) fun v58 h58 =>
          bnd (pPick v53 v58 (.b false) h58) fun v59 h59 =>
          ifD v59 (
            bnd (pInt .add x1 (.i .i64 (Int.ofNat 1)) h59) fun v60 h60 =>
            bnd (rec 35 [x0, v60] h60) fun v61 h61 =>
            bnd (pInt .sub v61 x1 h61) fun v62 h62 =>
            bnd (pInt .sub v62 (.i .i64 (Int.ofNat 1)) h62) fun v63 h63 =>
            bnd (pInt .gtr v63 (.i .i64 (Int.ofNat 24)) h63) fun v64 h64 =>
            ifD v64 (
              bnd (pLoadA 4 x7 h64) fun v65 h65 =>
              bnd (pStore 4 x4 v65 h65) fun _ h66 =>
              bnd (pLoadA 4 x4 h66) fun v67 _ =>
              some (.t [v67, (.i .i64 (Int.ofNat 0)), (.i .i64 (Int.ofNat 12))], h66)) (
              bnd (pField 0 x7 h64) fun v68 h68 =>
              bnd (pStore 1 v68 (.i .i64 (Int.ofNat 8)) h68) fun _ h69 =>
              bnd (pInt .add x1 (.i .i64 (Int.ofNat 1)) h69) fun v70 h70 =>
              bnd (pSliceS x0 (some v70) (some v61) h70) fun v71 h71 =>
              bnd (pField 1 x7 h71) fun v72 h72 =>
              bnd (pStore 1 v72 v71 h72) fun _ h73 =>
              bnd (pLoadA 4 x7 h73) fun v74 h74 =>
              bnd (pStore 4 x4 v74 h74) fun _ h75 =>
              bnd (pLoadA 4 x4 h75) fun v76 _ =>
              some (.t [v76, v61, (.i .i64 (Int.ofNat 0))], h75))) (
            bnd (pLoadA 4 x7 h59) fun v77 h77 =>
            bnd (pStore 4 x4 v77 h77) fun _ h78 =>
            bnd (pLoadA 4 x4 h78) fun v79 _ =>
            some (.t [v79, (.i .i64 (Int.ofNat 0)), (.i .i64 (Int.ofNat 10))], h78))))))

noncomputable def s20a11 (rec : RT) (n : Nat) (x0 x1 x4 x7 x11 : DV) (h0 : Hp) : Res :=
  bnd (pSliceS x0 (some x1) (some x11) h0) fun v159 h159 =>
  bnd (pField 1 x7 h159) fun v160 h160 =>
  bnd (pStore 1 v160 v159 h160) fun _ h161 =>
  bnd (pLoadA 4 x7 h161) fun v162 h162 =>
  bnd (pStore 4 x4 v162 h162) fun _ h163 =>
  bnd (pLoadA 4 x4 h163) fun v164 _ =>
  some (.t [v164, x11, (.i .i64 (Int.ofNat 0))], h163)

noncomputable def s20a10 (rec : RT) (n : Nat) (x0 x1 x4 x7 x11 : DV) (h0 : Hp) : Res :=
  bnd (rec 34 [x0, x11] h0) fun v171 h171 =>
  bnd (pInt .eql v171 (.i .i64 (Int.ofNat 3)) h171) fun v172 h172 =>
  ifD v172 (
    bnd (pInt .add x11 (.i .i64 (Int.ofNat 1)) h172) fun v173 h173 =>
    s20a11 rec n x0 x1 x4 x7 v173 h173) (
    s20a11 rec n x0 x1 x4 x7 x11 h172)

noncomputable def s20a9 (rec : RT) (n : Nat) (x0 x1 x4 x7 : DV) (h0 : Hp) : Res :=
  bnd (pInt .add x1 (.i .i64 (Int.ofNat 1)) h0) fun v177 h177 =>
  s20a10 rec n x0 x1 x4 x7 v177 h177

noncomputable def s20a8 (rec : RT) (n : Nat) (x0 x1 x4 x7 : DV) (h0 : Hp) : Res :=
  bnd (pField 0 x7 h0) fun v179 h179 =>
  bnd (pStore 1 v179 (.i .i64 (Int.ofNat 3)) h179) fun _ h180 =>
  s20a9 rec n x0 x1 x4 x7 h180

noncomputable def s20a7 (rec : RT) (n : Nat) (x0 x1 x4 x7 x8 x72 : DV) (h0 : Hp) : Res :=
  ifD x72 (
    s20a8 rec n x0 x1 x4 x7 h0) (
    s20a6 rec n x0 x1 x4 x7 x8 h0)

noncomputable def s20a5 (rec : RT) (n : Nat) (x0 x1 x4 x7 x8 : DV) (h0 : Hp) : Res :=
  bnd (pInt .eql x8 (.i .i64 (Int.ofNat 3)) h0) fun v183 h183 =>
  s20a7 rec n x0 x1 x4 x7 x8 v183 h183

noncomputable def s20a15 (rec : RT) (n : Nat) (x1 x4 x7 : DV) (h0 : Hp) : Res :=
  bnd (pLoadA 4 x7 h0) fun v185 h185 =>
  bnd (pStore 4 x4 v185 h185) fun _ h186 =>
  bnd (pLoadA 4 x4 h186) fun v187 _ =>
  some (.t [v187, x1, (.i .i64 (Int.ofNat 0))], h186)

noncomputable def s20a16b (rec : RT) (n : Nat) (kk16 : TT4) (x0 x1 x4 x7 : DV) (h0 : Hp) : Res :=
    bnd (rec 34 [x0, x1] h0) fun v191 h191 =>
    bnd (pInt .eql v191 (.i .i64 (Int.ofNat 2)) h191) fun v192 h192 =>
    ifD v192 (
      bnd (pIndexS x0 x1 h192) fun v193 h193 =>
      bnd (pInt .sub v193 (.i .u8 (Int.ofNat 48)) h193) fun v194 h194 =>
      bnd (pConvI .i64 v194 h194) fun v195 h195 =>
      bnd (pField 2 x7 h195) fun v196 h196 =>
      bnd (pLoad1 v196 h196) fun v197 h197 =>
      bnd (pInt .sub (.i .i64 (Int.ofNat 1152921504606846976)) v195 h197) fun v198 h198 =>
      bnd (pInt .quo v198 (.i .i64 (Int.ofNat 10)) h198) fun v199 h199 =>
      bnd (pInt .gtr v197 v199 h199) fun v200 h200 =>
      ifD v200 (
        bnd (pLoadA 4 x7 h200) fun v201 h201 =>
        bnd (pStore 4 x4 v201 h201) fun _ h202 =>
        bnd (pLoadA 4 x4 h202) fun v203 _ =>
        some (.t [v203, (.i .i64 (Int.ofNat 0)), (.i .i64 (Int.ofNat 2))], h202)) (
        bnd (pField 2 x7 h200) fun v204 h204 =>
        bnd (pLoad1 v204 h204) fun v205 h205 =>
        bnd (pInt .mul (.i .i64 (Int.ofNat 10)) v205 h205) fun v206 h206 =>
        bnd (pInt .add v206 v195 h206) fun v207 h207 =>
        bnd (pField 2 x7 h207) fun v208 h208 =>
        bnd (pStore 1 v208 v207 h208) fun _ h209 =>
        bnd (pInt .add x1 (.i .i64 (Int.ofNat 1)) h209) fun v210 h210 =>
        kk16 x0 v210 x4 x7 h210)) (
      s20a15 rec n x1 x4 x7 h192)

noncomputable def s20a16l (rec : RT) (n : Nat) (m : Nat) : TT4 :=
  Nat.rec (motive := fun _ => TT4) (fun _ _ _ _ _ => none) (fun _ ih => s20a16b rec n ih) m

noncomputable def s20a16 (rec : RT) (n : Nat) : TT4 := s20a16l rec n n

noncomputable def s20a14 (rec : RT) (n : Nat) (x0 x1 x4 x7 : DV) (h0 : Hp) : Res :=
  s20a16 rec n x0 x1 x4 x7 h0

noncomputable def s20a13 (rec : RT) (n : Nat) (x0 x1 x4 x7 : DV) (h0 : Hp) : Res :=
  bnd (pField 0 x7 h0) fun v231 h231 =>
  bnd (pStore 1 v231 (.i .i64 (Int.ofNat 4)) h231) fun _ h232 =>
  s20a14 rec n x0 x1 x4 x7 h232

noncomputable def s20a12 (rec : RT) (n : Nat) (x0 x1 x4 x7 x8 x43 : DV) (h0 : Hp) : Res :=
  ifD x43 (
    s20a13 rec n x0 x1 x4 x7 h0) (
    s20a5 rec n x0 x1 x4 x7 x8 h0)

noncomputable def s20a4 (rec : RT) (n : Nat) (x0 x1 x4 x7 x8 : DV) (h0 : Hp) : Res :=
  bnd (pInt .eql x8 (.i .i64 (Int.ofNat 2)) h0) fun v235 h235 =>
  s20a12 rec n x0 x1 x4 x7 x8 v235 h235

noncomputable def s20a22 (rec : RT) (n : Nat) (x0 x1 x4 x7 x9 : DV) (h0 : Hp) : Res :=
  bnd (pSliceS x0 (some x1) (some x9) h0) fun v237 h237 =>
  bnd (pField 1 x7 h237) fun v238 h238 =>
  bnd (pStore 1 v238 v237 h238) fun _ h239 =>
  bnd (pLoadA 4 x7 h239) fun v240 h240 =>
  bnd (pStore 4 x4 v240 h240) fun _ h241 =>
  bnd (pLoadA 4 x4 h241) fun v242 _ =>
  some (.t [v242, x9, (.i .i64 (Int.ofNat 0))], h241)

noncomputable def s20a21 (rec : RT) (n : Nat) (x0 x1 x4 x7 x9 : DV) (h0 : Hp) : Res :=
  bnd (rec 36 [x0, x9] h0) fun v249 h249 =>
  ifD v249 (
    bnd (pField 0 x7 h249) fun v250 h250 =>
    bnd (pStore 1 v250 (.i .i64 (Int.ofNat 2)) h250) fun _ h251 =>
    bnd (pInt .add x9 (.i .i64 (Int.ofNat 1)) h251) fun v252 h252 =>
    s20a22 rec n x0 x1 x4 x7 v252 h252) (
    s20a22 rec n x0 x1 x4 x7 x9 h249)

noncomputable def s20a20 (rec : RT) (n : Nat) (x0 x1 x4 x7 x9 : DV) (h0 : Hp) : Res :=
  bnd (pField 0 x7 h0) fun v257 h257 =>
  bnd (pStore 1 v257 (.i .i64 (Int.ofNat 1)) h257) fun _ h258 =>
  s20a21 rec n x0 x1 x4 x7 x9 h258

noncomputable def s20a19 (rec : RT) (n : Nat) (x0 x1 x4 x7 x9 : DV) (h0 : Hp) : Res :=
  bnd (pInt .sub x9 x1 h0) fun v261 h261 =>
  bnd (pInt .gtr v261 (.i .i64 (Int.ofNat 24)) h261) fun v262 h262 =>
  ifD v262 (
    bnd (pLoadA 4 x7 h262) fun v263 h263 =>
    bnd (pStore 4 x4 v263 h263) fun _ h264 =>
    bnd (pLoadA 4 x4 h264) fun v265 _ =>
    some (.t [v265, (.i .i64 (Int.ofNat 0)), (.i .i64 (Int.ofNat 12))], h264)) (
    s20a20 rec n x0 x1 x4 x7 x9 h262)

noncomputable def s20a18 (rec : RT) (n : Nat) (x0 x1 x4 x7 : DV) (h0 : Hp) : Res :=
  bnd (rec 35 [x0, x1] h0) fun v271 h271 =>
  s20a19 rec n x0 x1 x4 x7 v271 h271

noncomputable def s20a17 (rec : RT) (n : Nat) (x0 x1 x4 x7 x8 x19 : DV) (h0 : Hp) : Res :=
  ifD x19 (
    s20a18 rec n x0 x1 x4 x7 h0) (
    s20a4 rec n x0 x1 x4 x7 x8 h0)

noncomputable def s20a3 (rec : RT) (n : Nat) (x0 x1 x4 x7 x8 : DV) (h0 : Hp) : Res :=
  bnd (pInt .eql x8 (.i .i64 (Int.ofNat 1)) h0) fun v273 h273 =>
  s20a17 rec n x0 x1 x4 x7 x8 v273 h273

noncomputable def s20a2 (rec : RT) (n : Nat) (x0 x1 x4 x7 : DV) (h0 : Hp) : Res :=
  bnd (rec 34 [x0, x1] h0) fun v275 h275 =>
  s20a3 rec n x0 x1 x4 x7 v275 h275

noncomputable def s20a1 (rec : RT) (n : Nat) (x0 x1 x4 : DV) (h0 : Hp) : Res :=
  bnd (pBuild [(.i .i64 (Int.ofNat 0)), (.s []), (.i .i64 (Int.ofNat 0)), (.i .i64 (Int.ofNat 0))] [(3, 1, x1)] h0) fun v277 h277 =>
  bnd (pNew [(.i .i64 (Int.ofNat 0)), (.s []), (.i .i64 (Int.ofNat 0)), (.i .i64 (Int.ofNat 0))] h277) fun v278 h278 =>
  bnd (pStore 4 v278 v277 h278) fun _ h279 =>
  s20a2 rec n x0 x1 x4 v278 h279

/-- vivariumref06.token -/
noncomputable def s20 (rec : RT) (n : Nat) (x0 x1 : DV) (h0 : Hp) : Res :=
  bnd (pNew [(.i .i64 (Int.ofNat 0)), (.s []), (.i .i64 (Int.ofNat 0)), (.i .i64 (Int.ofNat 0))] h0) fun v289 h289 =>
  s20a1 rec n x0 x1 v289 h289

noncomputable abbrev c20 : Code := cf Try.f20
noncomputable abbrev c20x1 : Code := cR c20
noncomputable abbrev c20x2 : Code := cR c20x1
noncomputable abbrev c20x3 : Code := cR c20x2
noncomputable abbrev c20x4 : Code := cR c20x3
noncomputable abbrev c20x5 : Code := cR c20x4
noncomputable abbrev c20x6 : Code := cR c20x5
noncomputable abbrev c20x7 : Code := cL c20x5
noncomputable abbrev c20x8 : Code := cR c20x7
noncomputable abbrev c20x9 : Code := cL c20x8
noncomputable abbrev c20x10 : Code := cR c20x9
noncomputable abbrev c20x11 : Code := cR c20x10
noncomputable abbrev c20x12 : Code := cR c20x11
noncomputable abbrev c20x13 : Code := cL c20x11
noncomputable abbrev c20x14 : Code := cL c20x10
noncomputable abbrev c20x15 : Code := cL c20x9
noncomputable abbrev c20x16 : Code := cR c20x8
noncomputable abbrev c20x17 : Code := cL c20x7
noncomputable abbrev c20x18 : Code := cL c20x4
noncomputable abbrev c20x19 : Code := cR c20x18
noncomputable abbrev c20x20 : Code := cL c20x19
noncomputable abbrev c20x21 : Code := cR c20x20
noncomputable abbrev c20x22 : Code := cR c20x21
noncomputable abbrev c20x23 : Code := cL c20x21
noncomputable abbrev c20x24 : Code := cL c20x23
noncomputable abbrev c20x25 : Code := cL c20x24
noncomputable abbrev c20x26 : Code := cL c20x20
noncomputable abbrev c20x27 : Code := cR c20x19
noncomputable abbrev c20x28 : Code := cL c20x18
noncomputable abbrev c20x29 : Code := cL c20x3
noncomputable abbrev c20x30 : Code := cR c20x29
noncomputable abbrev c20x31 : Code := cL c20x30
noncomputable abbrev c20x32 : Code := cR c20x31
noncomputable abbrev c20x33 : Code := cR c20x32
noncomputable abbrev c20x34 : Code := cR c20x33
noncomputable abbrev c20x35 : Code := cR c20x34
noncomputable abbrev c20x36 : Code := cL c20x34
noncomputable abbrev c20x37 : Code := cL c20x33
noncomputable abbrev c20x38 : Code := cL c20x32
noncomputable abbrev c20x39 : Code := cL c20x31
noncomputable abbrev c20x40 : Code := cR c20x30
noncomputable abbrev c20x41 : Code := cL c20x29
noncomputable abbrev c20x42 : Code := cL c20x2
noncomputable abbrev c20x43 : Code := cL c20x1
noncomputable abbrev c20x44 : Code := cL c20

noncomputable def D20 (rec : RT) (n : Nat) (c : Code) (X : Nat → K) (k : K) : K := codeD CF rec 175 n c X (retK CF Try.f20) k

theorem s20a6e : D20 rec n c20x6 x0 (retK CF Try.f20) = (K5 (s20a6 rec n) 0 1 4 7 8) :=
  (by kernel_rfl)

theorem s20a11e : D20 rec n c20x12 x0 (K5 (s20a6 rec n) 0 1 4 7 8) = (K5 (s20a11 rec n) 0 1 4 7 11) :=
  (by kernel_rfl)

theorem s20a10p1 : D20 rec n c20x11 x0 (K5 (s20a6 rec n) 0 1 4 7 8) = D20 rec n c20x13 x0 (K5 (s20a11 rec n) 0 1 4 7 11) :=
  congrArg (fun k => D20 rec n c20x13 x0 k) (s20a11e rec n)

theorem s20a10e : D20 rec n c20x11 x0 (K5 (s20a6 rec n) 0 1 4 7 8) = (K5 (s20a10 rec n) 0 1 4 7 11) :=
  (s20a10p1 rec n).trans
  ((by kernel_rfl))

theorem s20a9p2 : D20 rec n c20x10 x0 (K5 (s20a6 rec n) 0 1 4 7 8) = D20 rec n c20x14 x0 (K5 (s20a10 rec n) 0 1 4 7 11) :=
  congrArg (fun k => D20 rec n c20x14 x0 k) (s20a10e rec n)

theorem s20a9e : D20 rec n c20x10 x0 (K5 (s20a6 rec n) 0 1 4 7 8) = (K4 (s20a9 rec n) 0 1 4 7) :=
  (s20a9p2 rec n).trans
  ((by kernel_rfl))

theorem s20a8p3 : D20 rec n c20x9 x0 (K5 (s20a6 rec n) 0 1 4 7 8) = D20 rec n c20x15 x0 (K4 (s20a9 rec n) 0 1 4 7) :=
  congrArg (fun k => D20 rec n c20x15 x0 k) (s20a9e rec n)

theorem s20a8e : D20 rec n c20x9 x0 (K5 (s20a6 rec n) 0 1 4 7 8) = (K4 (s20a8 rec n) 0 1 4 7) :=
  (s20a8p3 rec n).trans
  ((by kernel_rfl))

theorem s20a7e : D20 rec n c20x8 x0 (K5 (s20a6 rec n) 0 1 4 7 8) = (K6 (s20a7 rec n) 0 1 4 7 8 72) :=
  (by kernel_rfl : D20 rec n c20x8 x0 (K5 (s20a6 rec n) 0 1 4 7 8) = (fun (env : Env) (h : Hp) => ifD (opr env (cC c20x8)) (D20 rec n c20x9 x0 (K5 (s20a6 rec n) 0 1 4 7 8) env h) (D20 rec n c20x16 x0 (K5 (s20a6 rec n) 0 1 4 7 8) env h))).trans (by rw [s20a8e rec n]; kernel_rfl)

theorem s20a5p4 : D20 rec n c20x5 x0 (retK CF Try.f20) = D20 rec n c20x7 x0 (K5 (s20a6 rec n) 0 1 4 7 8) :=
  congrArg (fun k => D20 rec n c20x7 x0 k) (s20a6e rec n)

theorem s20a5p5 : D20 rec n c20x7 x0 (K5 (s20a6 rec n) 0 1 4 7 8) = D20 rec n c20x17 x0 (K6 (s20a7 rec n) 0 1 4 7 8 72) :=
  congrArg (fun k => D20 rec n c20x17 x0 k) (s20a7e rec n)

theorem s20a5e : D20 rec n c20x5 x0 (retK CF Try.f20) = (K5 (s20a5 rec n) 0 1 4 7 8) :=
  (s20a5p4 rec n).trans
  ((s20a5p5 rec n).trans
  ((by kernel_rfl)))

theorem s20a15e : D20 rec n c20x22 x0 (K5 (s20a5 rec n) 0 1 4 7 8) = (K3 (s20a15 rec n) 1 4 7) :=
  (by kernel_rfl)

theorem s20a16be (kk16 : TT4) : D20 rec n c20x25 (xs x0 0 (K3 (s20a15 rec n) 1 4 7)) (K4 kk16 0 1 4 7) = (K4 (s20a16b rec n kk16) 0 1 4 7) :=
  (by kernel_rfl)

theorem s20a16le (m : Nat) : loopN (fun kk => D20 rec n c20x25 (xs x0 0 (K3 (s20a15 rec n) 1 4 7)) kk) m = (K4 (s20a16l rec n m) 0 1 4 7) := by
  induction m with
  | zero => exact (by kernel_rfl : loopN (fun kk => D20 rec n c20x25 (xs x0 0 (K3 (s20a15 rec n) 1 4 7)) kk) 0 = (K4 (s20a16l rec n 0) 0 1 4 7))
  | succ m ih =>
    refine (by kernel_rfl : loopN (fun kk => D20 rec n c20x25 (xs x0 0 (K3 (s20a15 rec n) 1 4 7)) kk) (m + 1) = D20 rec n c20x25 (xs x0 0 (K3 (s20a15 rec n) 1 4 7)) (loopN (fun kk => D20 rec n c20x25 (xs x0 0 (K3 (s20a15 rec n) 1 4 7)) kk) m)).trans ?_
    rw [ih]
    exact (s20a16be rec n (s20a16l rec n m)).trans (by kernel_rfl)

theorem s20a16e : D20 rec n c20x24 (xs x0 0 (K3 (s20a15 rec n) 1 4 7)) (K3 (s20a15 rec n) 1 4 7) = (K4 (s20a16 rec n) 0 1 4 7) :=
  (by kernel_rfl : D20 rec n c20x24 (xs x0 0 (K3 (s20a15 rec n) 1 4 7)) (K3 (s20a15 rec n) 1 4 7) = loopN (fun kk => D20 rec n c20x25 (xs x0 0 (K3 (s20a15 rec n) 1 4 7)) kk) n).trans ((s20a16le rec n n).trans (by kernel_rfl))

theorem s20a14p6 : D20 rec n c20x21 x0 (K5 (s20a5 rec n) 0 1 4 7 8) = D20 rec n c20x23 x0 (K3 (s20a15 rec n) 1 4 7) :=
  congrArg (fun k => D20 rec n c20x23 x0 k) (s20a15e rec n)

theorem s20a14e : D20 rec n c20x21 x0 (K5 (s20a5 rec n) 0 1 4 7 8) = (K4 (s20a14 rec n) 0 1 4 7) :=
  (s20a14p6 rec n).trans
  ((by kernel_rfl : D20 rec n c20x23 x0 (K3 (s20a15 rec n) 1 4 7) = D20 rec n c20x24 (xs x0 0 (K3 (s20a15 rec n) 1 4 7)) (K3 (s20a15 rec n) 1 4 7)).trans
  ((s20a16e rec n).trans (by kernel_rfl)))

theorem s20a13p7 : D20 rec n c20x20 x0 (K5 (s20a5 rec n) 0 1 4 7 8) = D20 rec n c20x26 x0 (K4 (s20a14 rec n) 0 1 4 7) :=
  congrArg (fun k => D20 rec n c20x26 x0 k) (s20a14e rec n)

theorem s20a13e : D20 rec n c20x20 x0 (K5 (s20a5 rec n) 0 1 4 7 8) = (K4 (s20a13 rec n) 0 1 4 7) :=
  (s20a13p7 rec n).trans
  ((by kernel_rfl))

theorem s20a12e : D20 rec n c20x19 x0 (K5 (s20a5 rec n) 0 1 4 7 8) = (K6 (s20a12 rec n) 0 1 4 7 8 43) :=
  (by kernel_rfl : D20 rec n c20x19 x0 (K5 (s20a5 rec n) 0 1 4 7 8) = (fun (env : Env) (h : Hp) => ifD (opr env (cC c20x19)) (D20 rec n c20x20 x0 (K5 (s20a5 rec n) 0 1 4 7 8) env h) (D20 rec n c20x27 x0 (K5 (s20a5 rec n) 0 1 4 7 8) env h))).trans (by rw [s20a13e rec n]; kernel_rfl)

theorem s20a4p8 : D20 rec n c20x4 x0 (retK CF Try.f20) = D20 rec n c20x18 x0 (K5 (s20a5 rec n) 0 1 4 7 8) :=
  congrArg (fun k => D20 rec n c20x18 x0 k) (s20a5e rec n)

theorem s20a4p9 : D20 rec n c20x18 x0 (K5 (s20a5 rec n) 0 1 4 7 8) = D20 rec n c20x28 x0 (K6 (s20a12 rec n) 0 1 4 7 8 43) :=
  congrArg (fun k => D20 rec n c20x28 x0 k) (s20a12e rec n)

theorem s20a4e : D20 rec n c20x4 x0 (retK CF Try.f20) = (K5 (s20a4 rec n) 0 1 4 7 8) :=
  (s20a4p8 rec n).trans
  ((s20a4p9 rec n).trans
  ((by kernel_rfl)))

theorem s20a22e : D20 rec n c20x35 x0 (K5 (s20a4 rec n) 0 1 4 7 8) = (K5 (s20a22 rec n) 0 1 4 7 9) :=
  (by kernel_rfl)

theorem s20a21p10 : D20 rec n c20x34 x0 (K5 (s20a4 rec n) 0 1 4 7 8) = D20 rec n c20x36 x0 (K5 (s20a22 rec n) 0 1 4 7 9) :=
  congrArg (fun k => D20 rec n c20x36 x0 k) (s20a22e rec n)

theorem s20a21e : D20 rec n c20x34 x0 (K5 (s20a4 rec n) 0 1 4 7 8) = (K5 (s20a21 rec n) 0 1 4 7 9) :=
  (s20a21p10 rec n).trans
  ((by kernel_rfl))

theorem s20a20p11 : D20 rec n c20x33 x0 (K5 (s20a4 rec n) 0 1 4 7 8) = D20 rec n c20x37 x0 (K5 (s20a21 rec n) 0 1 4 7 9) :=
  congrArg (fun k => D20 rec n c20x37 x0 k) (s20a21e rec n)

theorem s20a20e : D20 rec n c20x33 x0 (K5 (s20a4 rec n) 0 1 4 7 8) = (K5 (s20a20 rec n) 0 1 4 7 9) :=
  (s20a20p11 rec n).trans
  ((by kernel_rfl))

theorem s20a19p12 : D20 rec n c20x32 x0 (K5 (s20a4 rec n) 0 1 4 7 8) = D20 rec n c20x38 x0 (K5 (s20a20 rec n) 0 1 4 7 9) :=
  congrArg (fun k => D20 rec n c20x38 x0 k) (s20a20e rec n)

theorem s20a19e : D20 rec n c20x32 x0 (K5 (s20a4 rec n) 0 1 4 7 8) = (K5 (s20a19 rec n) 0 1 4 7 9) :=
  (s20a19p12 rec n).trans
  ((by kernel_rfl))

theorem s20a18p13 : D20 rec n c20x31 x0 (K5 (s20a4 rec n) 0 1 4 7 8) = D20 rec n c20x39 x0 (K5 (s20a19 rec n) 0 1 4 7 9) :=
  congrArg (fun k => D20 rec n c20x39 x0 k) (s20a19e rec n)

theorem s20a18e : D20 rec n c20x31 x0 (K5 (s20a4 rec n) 0 1 4 7 8) = (K4 (s20a18 rec n) 0 1 4 7) :=
  (s20a18p13 rec n).trans
  ((by kernel_rfl))

theorem s20a17e : D20 rec n c20x30 x0 (K5 (s20a4 rec n) 0 1 4 7 8) = (K6 (s20a17 rec n) 0 1 4 7 8 19) :=
  (by kernel_rfl : D20 rec n c20x30 x0 (K5 (s20a4 rec n) 0 1 4 7 8) = (fun (env : Env) (h : Hp) => ifD (opr env (cC c20x30)) (D20 rec n c20x31 x0 (K5 (s20a4 rec n) 0 1 4 7 8) env h) (D20 rec n c20x40 x0 (K5 (s20a4 rec n) 0 1 4 7 8) env h))).trans (by rw [s20a18e rec n]; kernel_rfl)

theorem s20a3p14 : D20 rec n c20x3 x0 (retK CF Try.f20) = D20 rec n c20x29 x0 (K5 (s20a4 rec n) 0 1 4 7 8) :=
  congrArg (fun k => D20 rec n c20x29 x0 k) (s20a4e rec n)

theorem s20a3p15 : D20 rec n c20x29 x0 (K5 (s20a4 rec n) 0 1 4 7 8) = D20 rec n c20x41 x0 (K6 (s20a17 rec n) 0 1 4 7 8 19) :=
  congrArg (fun k => D20 rec n c20x41 x0 k) (s20a17e rec n)

theorem s20a3e : D20 rec n c20x3 x0 (retK CF Try.f20) = (K5 (s20a3 rec n) 0 1 4 7 8) :=
  (s20a3p14 rec n).trans
  ((s20a3p15 rec n).trans
  ((by kernel_rfl)))

theorem s20a2p16 : D20 rec n c20x2 x0 (retK CF Try.f20) = D20 rec n c20x42 x0 (K5 (s20a3 rec n) 0 1 4 7 8) :=
  congrArg (fun k => D20 rec n c20x42 x0 k) (s20a3e rec n)

theorem s20a2e : D20 rec n c20x2 x0 (retK CF Try.f20) = (K4 (s20a2 rec n) 0 1 4 7) :=
  (s20a2p16 rec n).trans
  ((by kernel_rfl))

theorem s20a1p17 : D20 rec n c20x1 x0 (retK CF Try.f20) = D20 rec n c20x43 x0 (K4 (s20a2 rec n) 0 1 4 7) :=
  congrArg (fun k => D20 rec n c20x43 x0 k) (s20a2e rec n)

theorem s20a1q18 (q0 : TT4) : D20 rec n c20x43 x0 (K4 q0 0 1 4 7) = fun (env : Env) (h : Hp) =>
    bnd (pBuild [(.i .i64 (Int.ofNat 0)), (.s []), (.i .i64 (Int.ofNat 0)), (.i .i64 (Int.ofNat 0))] [(3, 1, (env 1))] h) fun v283 h283 =>
    bnd (pNew [(.i .i64 (Int.ofNat 0)), (.s []), (.i .i64 (Int.ofNat 0)), (.i .i64 (Int.ofNat 0))] h283) fun v284 h284 =>
    bnd (pStore 4 v284 v283 h284) fun _ h285 =>
    q0 (env 0) (env 1) (env 4) v284 h285 := by kernel_rfl

theorem s20a1q18u : (fun (env : Env) (h : Hp) =>
    bnd (pBuild [(.i .i64 (Int.ofNat 0)), (.s []), (.i .i64 (Int.ofNat 0)), (.i .i64 (Int.ofNat 0))] [(3, 1, (env 1))] h) fun v286 h286 =>
    bnd (pNew [(.i .i64 (Int.ofNat 0)), (.s []), (.i .i64 (Int.ofNat 0)), (.i .i64 (Int.ofNat 0))] h286) fun v287 h287 =>
    bnd (pStore 4 v287 v286 h287) fun _ h288 =>
    s20a2 rec n (env 0) (env 1) (env 4) v287 h288) = (K3 (s20a1 rec n) 0 1 4) := by kernel_rfl

theorem s20a1e : D20 rec n c20x1 x0 (retK CF Try.f20) = (K3 (s20a1 rec n) 0 1 4) :=
  (s20a1p17 rec n).trans
  ((s20a1q18 rec n (s20a2 rec n)).trans (s20a1q18u rec n))

theorem s20p19 : D20 rec n c20 x0 (retK CF Try.f20) = D20 rec n c20x44 x0 (K3 (s20a1 rec n) 0 1 4) :=
  congrArg (fun k => D20 rec n c20x44 x0 k) (s20a1e rec n)

theorem s20q20 (q0 : TT3) : D20 rec n c20x44 x0 (K3 q0 0 1 4) = fun (env : Env) (h : Hp) =>
    bnd (pNew [(.i .i64 (Int.ofNat 0)), (.s []), (.i .i64 (Int.ofNat 0)), (.i .i64 (Int.ofNat 0))] h) fun v291 h291 =>
    q0 (env 0) (env 1) v291 h291 := by kernel_rfl

theorem s20q20u : (fun (env : Env) (h : Hp) =>
    bnd (pNew [(.i .i64 (Int.ofNat 0)), (.s []), (.i .i64 (Int.ofNat 0)), (.i .i64 (Int.ofNat 0))] h) fun v292 h292 =>
    s20a1 rec n (env 0) (env 1) v292 h292) = (K2 (s20 rec n) 0 1) := by kernel_rfl

theorem s20m : D20 rec n c20 x0 (retK CF Try.f20) = (K2 (s20 rec n) 0 1) :=
  (s20p19 rec n).trans
  ((s20q20 rec n (s20a1 rec n)).trans (s20q20u rec n))

theorem s20ok (args : List DV) (h : Hp) : bodyD CF rec n 20 args h = s20 rec n (args.getD 0 undefD) (args.getD 1 undefD) h :=
  (by kernel_rfl : bodyD CF rec n 20 args h = D20 rec n c20 x0 (retK CF Try.f20) (argsE args) h).trans ((congrFun (congrFun (s20m rec n) (argsE args)) h).trans (by kernel_rfl))

noncomputable def s21a3 (rec : RT) (n : Nat) (h0 : Hp) : Res :=
  some ((.b true), h0)

noncomputable def s21a5b (rec : RT) (n : Nat) (kk5 : TT3) (x0 x1 x5 : DV) (h0 : Hp) : Res :=
    bnd (pLen x0 h0) fun v1 h1 =>
    bnd (pInt .lss x5 v1 h1) fun v2 h2 =>
    ifD v2 (
      bnd (pIndexAddr 1 x0 x5 h2) fun v3 h3 =>
      bnd (pLoad1 v3 h3) fun v4 h4 =>
      bnd (pIndexAddr 1 x1 x5 h4) fun v5 h5 =>
      bnd (pLoad1 v5 h5) fun v6 h6 =>
      bnd (pStr .neq v4 v6 h6) fun v7 h7 =>
      ifD v7 (
        some ((.b false), h7)) (
        bnd (pInt .add x5 (.i .i64 (Int.ofNat 1)) h7) fun v8 h8 =>
        kk5 x0 x1 v8 h8)) (
      s21a3 rec n h2)

noncomputable def s21a5l (rec : RT) (n : Nat) (m : Nat) : TT3 :=
  Nat.rec (motive := fun _ => TT3) (fun _ _ _ _ => none) (fun _ ih => s21a5b rec n ih) m

noncomputable def s21a5 (rec : RT) (n : Nat) : TT3 := s21a5l rec n n

noncomputable def s21a4 (rec : RT) (n : Nat) (x0 x1 x5 : DV) (h0 : Hp) : Res :=
  s21a5 rec n x0 x1 x5 h0

noncomputable def s21a2 (rec : RT) (n : Nat) (x0 x1 : DV) (h0 : Hp) : Res :=
  s21a4 rec n x0 x1 (.i .i64 (Int.ofNat 0)) h0

noncomputable def s21a1 (rec : RT) (n : Nat) (x0 x1 : DV) (h0 : Hp) : Res :=
  bnd (pLen x0 h0) fun v17 h17 =>
  bnd (pLen x1 h17) fun v18 h18 =>
  bnd (pInt .neq v17 v18 h18) fun v19 h19 =>
  ifD v19 (
    some ((.b false), h19)) (
    s21a2 rec n x0 x1 h19)

/-- vivariumref07.names -/
noncomputable def s21 (rec : RT) (n : Nat) (x0 x1 : DV) (h0 : Hp) : Res :=
  s21a1 rec n x0 x1 h0

noncomputable abbrev c21 : Code := cf Try.f21
noncomputable abbrev c21x1 : Code := cR c21
noncomputable abbrev c21x2 : Code := cR c21x1
noncomputable abbrev c21x3 : Code := cR c21x2
noncomputable abbrev c21x4 : Code := cL c21x2
noncomputable abbrev c21x5 : Code := cR c21x4
noncomputable abbrev c21x6 : Code := cL c21x5
noncomputable abbrev c21x7 : Code := cL c21x6
noncomputable abbrev c21x8 : Code := cL c21x4
noncomputable abbrev c21x9 : Code := cL c21x1
noncomputable abbrev c21x10 : Code := cL c21

noncomputable def D21 (rec : RT) (n : Nat) (c : Code) (X : Nat → K) (k : K) : K := codeD CF rec 26 n c X (retK CF Try.f21) k

theorem s21a3e : D21 rec n c21x3 x0 (retK CF Try.f21) = (K0 (s21a3 rec n)) :=
  (by kernel_rfl)

theorem s21a5be (kk5 : TT3) : D21 rec n c21x7 (xs x0 0 (K0 (s21a3 rec n))) (K3 kk5 0 1 5) = (K3 (s21a5b rec n kk5) 0 1 5) :=
  (by kernel_rfl)

theorem s21a5le (m : Nat) : loopN (fun kk => D21 rec n c21x7 (xs x0 0 (K0 (s21a3 rec n))) kk) m = (K3 (s21a5l rec n m) 0 1 5) := by
  induction m with
  | zero => exact (by kernel_rfl : loopN (fun kk => D21 rec n c21x7 (xs x0 0 (K0 (s21a3 rec n))) kk) 0 = (K3 (s21a5l rec n 0) 0 1 5))
  | succ m ih =>
    refine (by kernel_rfl : loopN (fun kk => D21 rec n c21x7 (xs x0 0 (K0 (s21a3 rec n))) kk) (m + 1) = D21 rec n c21x7 (xs x0 0 (K0 (s21a3 rec n))) (loopN (fun kk => D21 rec n c21x7 (xs x0 0 (K0 (s21a3 rec n))) kk) m)).trans ?_
    rw [ih]
    exact (s21a5be rec n (s21a5l rec n m)).trans (by kernel_rfl)

theorem s21a5e : D21 rec n c21x6 (xs x0 0 (K0 (s21a3 rec n))) (K0 (s21a3 rec n)) = (K3 (s21a5 rec n) 0 1 5) :=
  (by kernel_rfl : D21 rec n c21x6 (xs x0 0 (K0 (s21a3 rec n))) (K0 (s21a3 rec n)) = loopN (fun kk => D21 rec n c21x7 (xs x0 0 (K0 (s21a3 rec n))) kk) n).trans ((s21a5le rec n n).trans (by kernel_rfl))

theorem s21a4e : D21 rec n c21x5 x0 (K0 (s21a3 rec n)) = (K3 (s21a4 rec n) 0 1 5) :=
  (by kernel_rfl : D21 rec n c21x5 x0 (K0 (s21a3 rec n)) = D21 rec n c21x6 (xs x0 0 (K0 (s21a3 rec n))) (K0 (s21a3 rec n))).trans
  ((s21a5e rec n).trans (by kernel_rfl))

theorem s21a2p1 : D21 rec n c21x2 x0 (retK CF Try.f21) = D21 rec n c21x4 x0 (K0 (s21a3 rec n)) :=
  congrArg (fun k => D21 rec n c21x4 x0 k) (s21a3e rec n)

theorem s21a2p2 : D21 rec n c21x4 x0 (K0 (s21a3 rec n)) = D21 rec n c21x8 x0 (K3 (s21a4 rec n) 0 1 5) :=
  congrArg (fun k => D21 rec n c21x8 x0 k) (s21a4e rec n)

theorem s21a2e : D21 rec n c21x2 x0 (retK CF Try.f21) = (K2 (s21a2 rec n) 0 1) :=
  (s21a2p1 rec n).trans
  ((s21a2p2 rec n).trans
  ((by kernel_rfl)))

theorem s21a1p3 : D21 rec n c21x1 x0 (retK CF Try.f21) = D21 rec n c21x9 x0 (K2 (s21a2 rec n) 0 1) :=
  congrArg (fun k => D21 rec n c21x9 x0 k) (s21a2e rec n)

theorem s21a1e : D21 rec n c21x1 x0 (retK CF Try.f21) = (K2 (s21a1 rec n) 0 1) :=
  (s21a1p3 rec n).trans
  ((by kernel_rfl))

theorem s21p4 : D21 rec n c21 x0 (retK CF Try.f21) = D21 rec n c21x10 x0 (K2 (s21a1 rec n) 0 1) :=
  congrArg (fun k => D21 rec n c21x10 x0 k) (s21a1e rec n)

theorem s21m : D21 rec n c21 x0 (retK CF Try.f21) = (K2 (s21 rec n) 0 1) :=
  (s21p4 rec n).trans
  ((by kernel_rfl))

theorem s21ok (args : List DV) (h : Hp) : bodyD CF rec n 21 args h = s21 rec n (args.getD 0 undefD) (args.getD 1 undefD) h :=
  (by kernel_rfl : bodyD CF rec n 21 args h = D21 rec n c21 x0 (retK CF Try.f21) (argsE args) h).trans ((congrFun (congrFun (s21m rec n) (argsE args)) h).trans (by kernel_rfl))

noncomputable def s22a3 (rec : RT) (n : Nat) (h0 : Hp) : Res :=
  some ((.b true), h0)

noncomputable def s22a5b (rec : RT) (n : Nat) (kk5 : TT4) (x0 x1 x12 x13 : DV) (h0 : Hp) : Res :=
    bnd (pInt .lss x13 x12 h0) fun v1 h1 =>
    ifD v1 (
      bnd (pIndexAddr 1 x0 x13 h1) fun v2 h2 =>
      bnd (pLoad1 v2 h2) fun v3 h3 =>
      bnd (pIndexAddr 1 x1 x13 h3) fun v4 h4 =>
      bnd (pLoad1 v4 h4) fun v5 h5 =>
      bnd (pStr .neq v3 v5 h5) fun v6 h6 =>
      ifD v6 (
        some ((.b false), h6)) (
        bnd (pInt .add x13 (.i .i64 (Int.ofNat 1)) h6) fun v7 h7 =>
        kk5 x0 x1 x12 v7 h7)) (
      s22a3 rec n h1)

noncomputable def s22a5l (rec : RT) (n : Nat) (m : Nat) : TT4 :=
  Nat.rec (motive := fun _ => TT4) (fun _ _ _ _ _ => none) (fun _ ih => s22a5b rec n ih) m

noncomputable def s22a5 (rec : RT) (n : Nat) : TT4 := s22a5l rec n n

noncomputable def s22a4 (rec : RT) (n : Nat) (x0 x1 x12 x13 : DV) (h0 : Hp) : Res :=
  s22a5 rec n x0 x1 x12 x13 h0

noncomputable def s22a2 (rec : RT) (n : Nat) (x0 x1 : DV) (h0 : Hp) : Res :=
  bnd (pLen x0 h0) fun v15 h15 =>
  s22a4 rec n x0 x1 v15 (.i .i64 (Int.ofNat 0)) h15

noncomputable def s22a1 (rec : RT) (n : Nat) (x0 x1 : DV) (h0 : Hp) : Res :=
  bnd (pLen x0 h0) fun v17 h17 =>
  bnd (pLen x1 h17) fun v18 h18 =>
  bnd (pInt .neq v17 v18 h18) fun v19 h19 =>
  ifD v19 (
    some ((.b false), h19)) (
    s22a2 rec n x0 x1 h19)

/-- slices.Equal[[]string,string] -/
noncomputable def s22 (rec : RT) (n : Nat) (x0 x1 : DV) (h0 : Hp) : Res :=
  s22a1 rec n x0 x1 h0

noncomputable abbrev c22 : Code := cf Try.f22
noncomputable abbrev c22x1 : Code := cR c22
noncomputable abbrev c22x2 : Code := cR c22x1
noncomputable abbrev c22x3 : Code := cR c22x2
noncomputable abbrev c22x4 : Code := cL c22x2
noncomputable abbrev c22x5 : Code := cR c22x4
noncomputable abbrev c22x6 : Code := cL c22x5
noncomputable abbrev c22x7 : Code := cL c22x6
noncomputable abbrev c22x8 : Code := cL c22x4
noncomputable abbrev c22x9 : Code := cL c22x1
noncomputable abbrev c22x10 : Code := cL c22

noncomputable def D22 (rec : RT) (n : Nat) (c : Code) (X : Nat → K) (k : K) : K := codeD CF rec 26 n c X (retK CF Try.f22) k

theorem s22a3e : D22 rec n c22x3 x0 (retK CF Try.f22) = (K0 (s22a3 rec n)) :=
  (by kernel_rfl)

theorem s22a5be (kk5 : TT4) : D22 rec n c22x7 (xs x0 0 (K0 (s22a3 rec n))) (K4 kk5 0 1 12 13) = (K4 (s22a5b rec n kk5) 0 1 12 13) :=
  (by kernel_rfl)

theorem s22a5le (m : Nat) : loopN (fun kk => D22 rec n c22x7 (xs x0 0 (K0 (s22a3 rec n))) kk) m = (K4 (s22a5l rec n m) 0 1 12 13) := by
  induction m with
  | zero => exact (by kernel_rfl : loopN (fun kk => D22 rec n c22x7 (xs x0 0 (K0 (s22a3 rec n))) kk) 0 = (K4 (s22a5l rec n 0) 0 1 12 13))
  | succ m ih =>
    refine (by kernel_rfl : loopN (fun kk => D22 rec n c22x7 (xs x0 0 (K0 (s22a3 rec n))) kk) (m + 1) = D22 rec n c22x7 (xs x0 0 (K0 (s22a3 rec n))) (loopN (fun kk => D22 rec n c22x7 (xs x0 0 (K0 (s22a3 rec n))) kk) m)).trans ?_
    rw [ih]
    exact (s22a5be rec n (s22a5l rec n m)).trans (by kernel_rfl)

theorem s22a5e : D22 rec n c22x6 (xs x0 0 (K0 (s22a3 rec n))) (K0 (s22a3 rec n)) = (K4 (s22a5 rec n) 0 1 12 13) :=
  (by kernel_rfl : D22 rec n c22x6 (xs x0 0 (K0 (s22a3 rec n))) (K0 (s22a3 rec n)) = loopN (fun kk => D22 rec n c22x7 (xs x0 0 (K0 (s22a3 rec n))) kk) n).trans ((s22a5le rec n n).trans (by kernel_rfl))

theorem s22a4e : D22 rec n c22x5 x0 (K0 (s22a3 rec n)) = (K4 (s22a4 rec n) 0 1 12 13) :=
  (by kernel_rfl : D22 rec n c22x5 x0 (K0 (s22a3 rec n)) = D22 rec n c22x6 (xs x0 0 (K0 (s22a3 rec n))) (K0 (s22a3 rec n))).trans
  ((s22a5e rec n).trans (by kernel_rfl))

theorem s22a2p1 : D22 rec n c22x2 x0 (retK CF Try.f22) = D22 rec n c22x4 x0 (K0 (s22a3 rec n)) :=
  congrArg (fun k => D22 rec n c22x4 x0 k) (s22a3e rec n)

theorem s22a2p2 : D22 rec n c22x4 x0 (K0 (s22a3 rec n)) = D22 rec n c22x8 x0 (K4 (s22a4 rec n) 0 1 12 13) :=
  congrArg (fun k => D22 rec n c22x8 x0 k) (s22a4e rec n)

theorem s22a2e : D22 rec n c22x2 x0 (retK CF Try.f22) = (K2 (s22a2 rec n) 0 1) :=
  (s22a2p1 rec n).trans
  ((s22a2p2 rec n).trans
  ((by kernel_rfl)))

theorem s22a1p3 : D22 rec n c22x1 x0 (retK CF Try.f22) = D22 rec n c22x9 x0 (K2 (s22a2 rec n) 0 1) :=
  congrArg (fun k => D22 rec n c22x9 x0 k) (s22a2e rec n)

theorem s22a1e : D22 rec n c22x1 x0 (retK CF Try.f22) = (K2 (s22a1 rec n) 0 1) :=
  (s22a1p3 rec n).trans
  ((by kernel_rfl))

theorem s22p4 : D22 rec n c22 x0 (retK CF Try.f22) = D22 rec n c22x10 x0 (K2 (s22a1 rec n) 0 1) :=
  congrArg (fun k => D22 rec n c22x10 x0 k) (s22a1e rec n)

theorem s22m : D22 rec n c22 x0 (retK CF Try.f22) = (K2 (s22 rec n) 0 1) :=
  (s22p4 rec n).trans
  ((by kernel_rfl))

theorem s22ok (args : List DV) (h : Hp) : bodyD CF rec n 22 args h = s22 rec n (args.getD 0 undefD) (args.getD 1 undefD) h :=
  (by kernel_rfl : bodyD CF rec n 22 args h = D22 rec n c22 x0 (retK CF Try.f22) (argsE args) h).trans ((congrFun (congrFun (s22m rec n) (argsE args)) h).trans (by kernel_rfl))

noncomputable def s23a3 (rec : RT) (n : Nat) (h0 : Hp) : Res :=
  some ((.b true), h0)

noncomputable def s23a5b (rec : RT) (n : Nat) (kk5 : TT5) (x1 x2 x15 x16 x17 : DV) (h0 : Hp) : Res :=
    bnd (pInt .lss x17 x16 h0) fun v1 h1 =>
    ifD v1 (
      bnd (pIndexAddr 6 x15 x17 h1) fun v2 h2 =>
      bnd (pLoadA 6 v2 h2) fun v3 h3 =>
      bnd (pNew [(.i .i64 (Int.ofNat 0)), (.s []), (.i .i64 (Int.ofNat 0)), .l0, .l0, .l0] h3) fun v4 h4 =>
      bnd (pStore 6 v4 v3 h4) fun _ h5 =>
      bnd (pIndexAddr 6 x1 x17 h5) fun v6 h6 =>
      bnd (pLoadA 6 v6 h6) fun v7 h7 =>
      bnd (pNew [(.i .i64 (Int.ofNat 0)), (.s []), (.i .i64 (Int.ofNat 0)), .l0, .l0, .l0] h7) fun v8 h8 =>
      bnd (pStore 6 v8 v7 h8) fun _ h9 =>
      bnd (pLoadA 6 v4 h9) fun v10 h10 =>
      bnd (pLoadA 6 v8 h10) fun v11 h11 =>
      bnd (pCall CF rec x2 [v10, v11] h11) fun v12 h12 =>
      bnd (pUn .not v12 h12) fun v13 h13 =>
      ifD v13 (
        some ((.b false), h13)) (
        bnd (pInt .add x17 (.i .i64 (Int.ofNat 1)) h13) fun v14 h14 =>
        kk5 x1 x2 x15 x16 v14 h14)) (
      s23a3 rec n h1)

noncomputable def s23a5l (rec : RT) (n : Nat) (m : Nat) : TT5 :=
  Nat.rec (motive := fun _ => TT5) (fun _ _ _ _ _ _ => none) (fun _ ih => s23a5b rec n ih) m

noncomputable def s23a5 (rec : RT) (n : Nat) : TT5 := s23a5l rec n n

noncomputable def s23a4 (rec : RT) (n : Nat) (x1 x2 x15 x16 x17 : DV) (h0 : Hp) : Res :=
  s23a5 rec n x1 x2 x15 x16 x17 h0

noncomputable def s23a2 (rec : RT) (n : Nat) (x0 x1 x2 : DV) (h0 : Hp) : Res :=
  bnd (pLen x0 h0) fun v57 h57 =>
  s23a4 rec n x1 x2 x0 v57 (.i .i64 (Int.ofNat 0)) h57

noncomputable def s23a1 (rec : RT) (n : Nat) (x0 x1 x2 : DV) (h0 : Hp) : Res :=
  bnd (pLen x0 h0) fun v59 h59 =>
  bnd (pLen x1 h59) fun v60 h60 =>
  bnd (pInt .neq v59 v60 h60) fun v61 h61 =>
  ifD v61 (
    some ((.b false), h61)) (
    s23a2 rec n x0 x1 x2 h61)

/-- api.Node] -/
noncomputable def s23 (rec : RT) (n : Nat) (x0 x1 x2 : DV) (h0 : Hp) : Res :=
  s23a1 rec n x0 x1 x2 h0

noncomputable abbrev c23 : Code := cf Try.f23
noncomputable abbrev c23x1 : Code := cR c23
noncomputable abbrev c23x2 : Code := cR c23x1
noncomputable abbrev c23x3 : Code := cR c23x2
noncomputable abbrev c23x4 : Code := cL c23x2
noncomputable abbrev c23x5 : Code := cR c23x4
noncomputable abbrev c23x6 : Code := cL c23x5
noncomputable abbrev c23x7 : Code := cL c23x6
noncomputable abbrev c23x8 : Code := cL c23x4
noncomputable abbrev c23x9 : Code := cL c23x1
noncomputable abbrev c23x10 : Code := cL c23

noncomputable def D23 (rec : RT) (n : Nat) (c : Code) (X : Nat → K) (k : K) : K := codeD CF rec 32 n c X (retK CF Try.f23) k

theorem s23a3e : D23 rec n c23x3 x0 (retK CF Try.f23) = (K0 (s23a3 rec n)) :=
  (by kernel_rfl)

theorem s23a5q1 (kk5 : TT5) (q0 : Hp → Res) : D23 rec n c23x7 (xs x0 0 (K0 q0)) (K5 kk5 1 2 15 16 17) = fun (env : Env) (h : Hp) =>
    bnd (pInt .lss (env 17) (env 16) h) fun v29 h29 =>
    ifD v29 (
      bnd (pIndexAddr 6 (env 15) (env 17) h29) fun v30 h30 =>
      bnd (pLoadA 6 v30 h30) fun v31 h31 =>
      bnd (pNew [(.i .i64 (Int.ofNat 0)), (.s []), (.i .i64 (Int.ofNat 0)), .l0, .l0, .l0] h31) fun v32 h32 =>
      bnd (pStore 6 v32 v31 h32) fun _ h33 =>
      bnd (pIndexAddr 6 (env 1) (env 17) h33) fun v34 h34 =>
      bnd (pLoadA 6 v34 h34) fun v35 h35 =>
      bnd (pNew [(.i .i64 (Int.ofNat 0)), (.s []), (.i .i64 (Int.ofNat 0)), .l0, .l0, .l0] h35) fun v36 h36 =>
      bnd (pStore 6 v36 v35 h36) fun _ h37 =>
      bnd (pLoadA 6 v32 h37) fun v38 h38 =>
      bnd (pLoadA 6 v36 h38) fun v39 h39 =>
      bnd (pCall CF rec (env 2) [v38, v39] h39) fun v40 h40 =>
      bnd (pUn .not v40 h40) fun v41 h41 =>
      ifD v41 (
        some ((.b false), h41)) (
        bnd (pInt .add (env 17) (.i .i64 (Int.ofNat 1)) h41) fun v42 h42 =>
        kk5 (env 1) (env 2) (env 15) (env 16) v42 h42)) (
      q0 h29) := by kernel_rfl

theorem s23a5q1u (kk5 : TT5) : (fun (env : Env) (h : Hp) =>
    bnd (pInt .lss (env 17) (env 16) h) fun v43 h43 =>
    ifD v43 (
      bnd (pIndexAddr 6 (env 15) (env 17) h43) fun v44 h44 =>
      bnd (pLoadA 6 v44 h44) fun v45 h45 =>
      bnd (pNew [(.i .i64 (Int.ofNat 0)), (.s []), (.i .i64 (Int.ofNat 0)), .l0, .l0, .l0] h45) fun v46 h46 =>
      bnd (pStore 6 v46 v45 h46) fun _ h47 =>
      bnd (pIndexAddr 6 (env 1) (env 17) h47) fun v48 h48 =>
      bnd (pLoadA 6 v48 h48) fun v49 h49 =>
      bnd (pNew [(.i .i64 (Int.ofNat 0)), (.s []), (.i .i64 (Int.ofNat 0)), .l0, .l0, .l0] h49) fun v50 h50 =>
      bnd (pStore 6 v50 v49 h50) fun _ h51 =>
      bnd (pLoadA 6 v46 h51) fun v52 h52 =>
      bnd (pLoadA 6 v50 h52) fun v53 h53 =>
      bnd (pCall CF rec (env 2) [v52, v53] h53) fun v54 h54 =>
      bnd (pUn .not v54 h54) fun v55 h55 =>
      ifD v55 (
        some ((.b false), h55)) (
        bnd (pInt .add (env 17) (.i .i64 (Int.ofNat 1)) h55) fun v56 h56 =>
        kk5 (env 1) (env 2) (env 15) (env 16) v56 h56)) (
      s23a3 rec n h43)) = (K5 (s23a5b rec n kk5) 1 2 15 16 17) := by kernel_rfl

theorem s23a5be (kk5 : TT5) : D23 rec n c23x7 (xs x0 0 (K0 (s23a3 rec n))) (K5 kk5 1 2 15 16 17) = (K5 (s23a5b rec n kk5) 1 2 15 16 17) :=
  (s23a5q1 rec n kk5 (s23a3 rec n)).trans (s23a5q1u rec n kk5)

theorem s23a5le (m : Nat) : loopN (fun kk => D23 rec n c23x7 (xs x0 0 (K0 (s23a3 rec n))) kk) m = (K5 (s23a5l rec n m) 1 2 15 16 17) := by
  induction m with
  | zero => exact (by kernel_rfl : loopN (fun kk => D23 rec n c23x7 (xs x0 0 (K0 (s23a3 rec n))) kk) 0 = (K5 (s23a5l rec n 0) 1 2 15 16 17))
  | succ m ih =>
    refine (by kernel_rfl : loopN (fun kk => D23 rec n c23x7 (xs x0 0 (K0 (s23a3 rec n))) kk) (m + 1) = D23 rec n c23x7 (xs x0 0 (K0 (s23a3 rec n))) (loopN (fun kk => D23 rec n c23x7 (xs x0 0 (K0 (s23a3 rec n))) kk) m)).trans ?_
    rw [ih]
    exact (s23a5be rec n (s23a5l rec n m)).trans (by kernel_rfl)

theorem s23a5e : D23 rec n c23x6 (xs x0 0 (K0 (s23a3 rec n))) (K0 (s23a3 rec n)) = (K5 (s23a5 rec n) 1 2 15 16 17) :=
  (by kernel_rfl : D23 rec n c23x6 (xs x0 0 (K0 (s23a3 rec n))) (K0 (s23a3 rec n)) = loopN (fun kk => D23 rec n c23x7 (xs x0 0 (K0 (s23a3 rec n))) kk) n).trans ((s23a5le rec n n).trans (by kernel_rfl))

theorem s23a4e : D23 rec n c23x5 x0 (K0 (s23a3 rec n)) = (K5 (s23a4 rec n) 1 2 15 16 17) :=
  (by kernel_rfl : D23 rec n c23x5 x0 (K0 (s23a3 rec n)) = D23 rec n c23x6 (xs x0 0 (K0 (s23a3 rec n))) (K0 (s23a3 rec n))).trans
  ((s23a5e rec n).trans (by kernel_rfl))

theorem s23a2p2 : D23 rec n c23x2 x0 (retK CF Try.f23) = D23 rec n c23x4 x0 (K0 (s23a3 rec n)) :=
  congrArg (fun k => D23 rec n c23x4 x0 k) (s23a3e rec n)

theorem s23a2p3 : D23 rec n c23x4 x0 (K0 (s23a3 rec n)) = D23 rec n c23x8 x0 (K5 (s23a4 rec n) 1 2 15 16 17) :=
  congrArg (fun k => D23 rec n c23x8 x0 k) (s23a4e rec n)

theorem s23a2e : D23 rec n c23x2 x0 (retK CF Try.f23) = (K3 (s23a2 rec n) 0 1 2) :=
  (s23a2p2 rec n).trans
  ((s23a2p3 rec n).trans
  ((by kernel_rfl)))

theorem s23a1p4 : D23 rec n c23x1 x0 (retK CF Try.f23) = D23 rec n c23x9 x0 (K3 (s23a2 rec n) 0 1 2) :=
  congrArg (fun k => D23 rec n c23x9 x0 k) (s23a2e rec n)

theorem s23a1e : D23 rec n c23x1 x0 (retK CF Try.f23) = (K3 (s23a1 rec n) 0 1 2) :=
  (s23a1p4 rec n).trans
  ((by kernel_rfl))

theorem s23p5 : D23 rec n c23 x0 (retK CF Try.f23) = D23 rec n c23x10 x0 (K3 (s23a1 rec n) 0 1 2) :=
  congrArg (fun k => D23 rec n c23x10 x0 k) (s23a1e rec n)

theorem s23m : D23 rec n c23 x0 (retK CF Try.f23) = (K3 (s23 rec n) 0 1 2) :=
  (s23p5 rec n).trans
  ((by kernel_rfl))

theorem s23ok (args : List DV) (h : Hp) : bodyD CF rec n 23 args h = s23 rec n (args.getD 0 undefD) (args.getD 1 undefD) (args.getD 2 undefD) h :=
  (by kernel_rfl : bodyD CF rec n 23 args h = D23 rec n c23 x0 (retK CF Try.f23) (argsE args) h).trans ((congrFun (congrFun (s23m rec n) (argsE args)) h).trans (by kernel_rfl))

/-- parse.parser).head -/
noncomputable def s24 (rec : RT) (n : Nat) (x0 : DV) (h0 : Hp) : Res :=
  bnd (pNew [(.i .i64 (Int.ofNat 0)), (.s []), (.i .i64 (Int.ofNat 0)), .l0, .l0, .l0] h0) fun v1 h1 =>
  bnd (pBuild [(.i .i64 (Int.ofNat 0)), (.s []), (.i .i64 (Int.ofNat 0)), .l0, .l0, .l0] [(0, 1, (.i .i64 (Int.ofNat 11)))] h1) fun v2 h2 =>
  bnd (pNew [(.i .i64 (Int.ofNat 0)), (.s []), (.i .i64 (Int.ofNat 0)), .l0, .l0, .l0] h2) fun v3 h3 =>
  bnd (pStore 6 v3 v2 h3) fun _ h4 =>
  bnd (rec 39 [x0, v3] h4) fun v5 h5 =>
  bnd (rec 40 [x0] h5) fun v6 h6 =>
  bnd (pField 2 v3 h6) fun v7 h7 =>
  bnd (pStore 1 v7 v6 h7) fun _ h8 =>
  bnd (pLoadA 6 v3 h8) fun v9 h9 =>
  bnd (pStore 6 v1 v9 h9) fun _ h10 =>
  bnd (pLoadA 6 v1 h10) fun v11 _ =>
  some (v11, h10)

noncomputable abbrev c24 : Code := cf Try.f24

noncomputable def D24 (rec : RT) (n : Nat) (c : Code) (X : Nat → K) (k : K) : K := codeD CF rec 11 n c X (retK CF Try.f24) k

theorem s24m : D24 rec n c24 x0 (retK CF Try.f24) = (K1 (s24 rec n) 0) :=
  (by kernel_rfl)

theorem s24ok (args : List DV) (h : Hp) : bodyD CF rec n 24 args h = s24 rec n (args.getD 0 undefD) h :=
  (by kernel_rfl : bodyD CF rec n 24 args h = D24 rec n c24 x0 (retK CF Try.f24) (argsE args) h).trans ((congrFun (congrFun (s24m rec n) (argsE args)) h).trans (by kernel_rfl))

end Go.Dd

/- Dd, part Q2 (printed by gen.py): functions of the seat's program as Lean functions, linked to Dd. -/
set_option linter.unusedVariables false
set_option maxRecDepth 100000
namespace Go.Dd
open Go.Proofs

variable (rec : RT) (n : Nat)

noncomputable def s29a6 (rec : RT) (n : Nat) (x0 x6 : DV) (h0 : Hp) : Res :=
  bnd (pLenS x0 h0) fun v1 h1 =>
  bnd (pBuild [(.i .i64 (Int.ofNat 0)), (.s []), (.i .i64 (Int.ofNat 0)), (.i .i64 (Int.ofNat 0))] [(3, 1, v1)] h1) fun v2 h2 =>
  bnd (pBuildSlice [(.i .i64 (Int.ofNat 0)), (.s []), (.i .i64 (Int.ofNat 0)), (.i .i64 (Int.ofNat 0))] 1 [(0, 4, v2)] h2) fun v3 h3 =>
  bnd (pAppend 4 40 x6 v3 h3) fun v4 h4 =>
  some (.t [v4, (.i .i64 (Int.ofNat 0)), (.i .i64 (Int.ofNat 0))], h4)

noncomputable def s29a7b (rec : RT) (n : Nat) (kk7 : TT3) (x0 x5 x6 : DV) (h0 : Hp) : Res :=
    bnd (rec 48 [(.s [9, 10, 13, 32])] h0) fun v9 h9 =>
    bnd (pLenS x0 h9) fun v10 h10 =>
    bnd (rec 47 [x5, v9, v10] h10) fun v11 h11 =>
    bnd (pNil x5 h11) fun v12 h12 =>
    bnd (pField 1 v12 h12) fun v13 h13 =>
    bnd (pLoad1 v13 h13) fun v14 h14 =>
    bnd (pLenS x0 h14) fun v15 h15 =>
    bnd (pInt .geq v14 v15 h15) fun v16 h16 =>
    ifD v16 (
      s29a6 rec n x0 x6 h16) (
      bnd (pNil x5 h16) fun v17 h17 =>
      bnd (pField 1 v17 h17) fun v18 h18 =>
      bnd (pLoad1 v18 h18) fun v19 h19 =>
      bnd (pIndexS x0 v19 h19) fun v20 h20 =>
      bnd (pInt .eql v20 (.i .u8 (Int.ofNat 34)) h20) fun v21 h21 =>
      ifD v21 (
        bnd (pNil x5 h21) fun v22 h22 =>
        bnd (pField 1 v22 h22) fun v23 h23 =>
        bnd (pLoad1 v23 h23) fun v24 h24 =>
        bnd (pInt .add v24 (.i .i64 (Int.ofNat 1)) h24) fun v25 h25 =>
        bnd (pSliceS x0 (some v25) none h25) fun v26 h26 =>
        bnd (rec 49 [v26, (.i .u8 (Int.ofNat 34))] h26) fun v27 h27 =>
        bnd (pInt .lss v27 (.i .i64 (Int.ofNat 0)) h27) fun v28 h28 =>
        ifD v28 (
          bnd (pNil x5 h28) fun v29 h29 =>
          bnd (pField 1 v29 h29) fun v30 h30 =>
          bnd (pLoad1 v30 h30) fun v31 h31 =>
          some (.t [.l0, v31, (.i .i64 (Int.ofNat 11))], h31)) (
          bnd (pNil x5 h28) fun v32 h32 =>
          bnd (pField 1 v32 h32) fun v33 h33 =>
          bnd (pLoad1 v33 h33) fun v34 h34 =>
          bnd (pInt .add v27 (.i .i64 (Int.ofNat 2)) h34) fun v35 h35 =>
          bnd (pInt .add v34 v35 h35) fun v36 h36 =>
          bnd (pNil x5 h36) fun v37 h37 =>
          bnd (pField 1 v37 h37) fun v38 h38 =>
          bnd (pStore 1 v38 v36 h38) fun _ h39 =>
          kk7 x0 x5 x6 h39)) (
        bnd (rec 50 [x5] h21) fun v40 h40 =>
        bnd (pExtract 0 v40 h40) fun v41 h41 =>
        bnd (pExtract 1 v40 h41) fun v42 h42 =>
        bnd (pNew [(.i .i64 (Int.ofNat 0)), (.s []), (.i .i64 (Int.ofNat 0)), (.i .i64 (Int.ofNat 0))] h42) fun v43 h43 =>
        bnd (pStore 4 v43 v41 h43) fun _ h44 =>
        bnd (pInt .neq v42 (.i .i64 (Int.ofNat 0)) h44) fun v45 h45 =>
        ifD v45 (
          bnd (pField 3 v43 h45) fun v46 h46 =>
          bnd (pLoad1 v46 h46) fun v47 h47 =>
          some (.t [.l0, v47, v42], h47)) (
          bnd (pLoadA 4 v43 h45) fun v48 h48 =>
          bnd (pBuildSlice [(.i .i64 (Int.ofNat 0)), (.s []), (.i .i64 (Int.ofNat 0)), (.i .i64 (Int.ofNat 0))] 1 [(0, 4, v48)] h48) fun v49 h49 =>
          bnd (pAppend 4 40 x6 v49 h49) fun v50 h50 =>
          kk7 x0 x5 v50 h50)))

noncomputable def s29a7l (rec : RT) (n : Nat) (m : Nat) : TT3 :=
  Nat.rec (motive := fun _ => TT3) (fun _ _ _ _ => none) (fun _ ih => s29a7b rec n ih) m

noncomputable def s29a7 (rec : RT) (n : Nat) : TT3 := s29a7l rec n n

noncomputable def s29a5 (rec : RT) (n : Nat) (x0 x5 x6 : DV) (h0 : Hp) : Res :=
  s29a7 rec n x0 x5 x6 h0

noncomputable def s29a4 (rec : RT) (n : Nat) (x0 x5 x6 : DV) (h0 : Hp) : Res :=
  s29a5 rec n x0 x5 x6 h0

noncomputable def s29a3 (rec : RT) (n : Nat) (x0 x5 : DV) (h0 : Hp) : Res :=
  s29a4 rec n x0 x5 .l0 h0

noncomputable def s29a2 (rec : RT) (n : Nat) (x0 : DV) (h0 : Hp) : Res :=
  bnd (pBuild [(.s []), (.i .i64 (Int.ofNat 0))] [(0, 1, x0)] h0) fun v177 h177 =>
  bnd (pBox v177 h177) fun v178 h178 =>
  s29a3 rec n x0 v178 h178

noncomputable def s29a1 (rec : RT) (n : Nat) (x0 : DV) (h0 : Hp) : Res :=
  bnd (pLenS x0 h0) fun v185 h185 =>
  bnd (pInt .gtr v185 (.i .i64 (Int.ofNat 2000)) h185) fun v186 h186 =>
  ifD v186 (
    some (.t [.l0, (.i .i64 (Int.ofNat 0)), (.i .i64 (Int.ofNat 12))], h186)) (
    s29a2 rec n x0 h186)

/-- lex.Tokens -/
noncomputable def s29 (rec : RT) (n : Nat) (x0 : DV) (h0 : Hp) : Res :=
  s29a1 rec n x0 h0

noncomputable abbrev c29 : Code := cf Try.f29
noncomputable abbrev c29x1 : Code := cR c29
noncomputable abbrev c29x2 : Code := cL c29x1
noncomputable abbrev c29x3 : Code := cR c29x2
noncomputable abbrev c29x4 : Code := cR c29x3
noncomputable abbrev c29x5 : Code := cR c29x4
noncomputable abbrev c29x6 : Code := cR c29x5
noncomputable abbrev c29x7 : Code := cR c29x6
noncomputable abbrev c29x8 : Code := cL c29x6
noncomputable abbrev c29x9 : Code := cL c29x8
noncomputable abbrev c29x10 : Code := cL c29x9
noncomputable abbrev c29x11 : Code := cL c29x5
noncomputable abbrev c29x12 : Code := cL c29x4
noncomputable abbrev c29x13 : Code := cL c29x3
noncomputable abbrev c29x14 : Code := cL c29x2
noncomputable abbrev c29x15 : Code := cL c29

noncomputable def D29 (rec : RT) (n : Nat) (c : Code) (X : Nat → K) (k : K) : K := codeD CF rec 80 n c X (retK CF Try.f29) k

theorem s29a6e : D29 rec n c29x7 x0 (retK CF Try.f29) = (K2 (s29a6 rec n) 0 6) :=
  (by kernel_rfl)

theorem s29a7q1 (kk7 : TT3) (q0 : TT2) : D29 rec n c29x10 (xs x0 0 (K2 q0 0 6)) (K3 kk7 0 5 6) = fun (env : Env) (h : Hp) =>
    bnd (rec 48 [(.s [9, 10, 13, 32])] h) fun v93 h93 =>
    bnd (pLenS (env 0) h93) fun v94 h94 =>
    bnd (rec 47 [(env 5), v93, v94] h94) fun v95 h95 =>
    bnd (pNil (env 5) h95) fun v96 h96 =>
    bnd (pField 1 v96 h96) fun v97 h97 =>
    bnd (pLoad1 v97 h97) fun v98 h98 =>
    bnd (pLenS (env 0) h98) fun v99 h99 =>
    bnd (pInt .geq v98 v99 h99) fun v100 h100 =>
    ifD v100 (
      q0 (env 0) (env 6) h100) (
      bnd (pNil (env 5) h100) fun v101 h101 =>
      bnd (pField 1 v101 h101) fun v102 h102 =>
      bnd (pLoad1 v102 h102) fun v103 h103 =>
      bnd (pIndexS (env 0) v103 h103) fun v104 h104 =>
      bnd (pInt .eql v104 (.i .u8 (Int.ofNat 34)) h104) fun v105 h105 =>
      ifD v105 (
        bnd (pNil (env 5) h105) fun v106 h106 =>
        bnd (pField 1 v106 h106) fun v107 h107 =>
        bnd (pLoad1 v107 h107) fun v108 h108 =>
        bnd (pInt .add v108 (.i .i64 (Int.ofNat 1)) h108) fun v109 h109 =>
        bnd (pSliceS (env 0) (some v109) none h109) fun v110 h110 =>
        bnd (rec 49 [v110, (.i .u8 (Int.ofNat 34))] h110) fun v111 h111 =>
        bnd (pInt .lss v111 (.i .i64 (Int.ofNat 0)) h111) fun v112 h112 =>
        ifD v112 (
          bnd (pNil (env 5) h112) fun v113 h113 =>
          bnd (pField 1 v113 h113) fun v114 h114 =>
          bnd (pLoad1 v114 h114) fun v115 h115 =>
          some (.t [.l0, v115, (.i .i64 (Int.ofNat 11))], h115)) (
          bnd (pNil (env 5) h112) fun v116 h116 =>
          bnd (pField 1 v116 h116) fun v117 h117 =>
          bnd (pLoad1 v117 h117) fun v118 h118 =>
          bnd (pInt .add v111 (.i .i64 (Int.ofNat 2)) h118) fun v119 h119 =>
          bnd (pInt .add v118 v119 h119) fun v120 h120 =>
          bnd (pNil (env 5) h120) fun v121 h121 =>
          bnd (pField 1 v121 h121) fun v122 h122 =>
          bnd (pStore 1 v122 v120 h122) fun _ h123 =>
          kk7 (env 0) (env 5) (env 6) h123)) (
        bnd (rec 50 [(env 5)] h105) fun v124 h124 =>
        bnd (pExtract 0 v124 h124) fun v125 h125 =>
        bnd (pExtract 1 v124 h125) fun v126 h126 =>
        bnd (pNew [(.i .i64 (Int.ofNat 0)), (.s []), (.i .i64 (Int.ofNat 0)), (.i .i64 (Int.ofNat 0))] h126) fun v127 h127 =>
        bnd (pStore 4 v127 v125 h127) fun _ h128 =>
        bnd (pInt .neq v126 (.i .i64 (Int.ofNat 0)) h128) fun v129 h129 =>
        ifD v129 (
          bnd (pField 3 v127 h129) fun v130 h130 =>
          bnd (pLoad1 v130 h130) fun v131 h131 =>
          some (.t [.l0, v131, v126], h131)) (
          bnd (pLoadA 4 v127 h129) fun v132 h132 =>
          bnd (pBuildSlice [(.i .i64 (Int.ofNat 0)), (.s []), (.i .i64 (Int.ofNat 0)), (.i .i64 (Int.ofNat 0))] 1 [(0, 4, v132)] h132) fun v133 h133 =>
          bnd (pAppend 4 40 (env 6) v133 h133) fun v134 h134 =>
          kk7 (env 0) (env 5) v134 h134))) := by kernel_rfl

theorem s29a7q1u (kk7 : TT3) : (fun (env : Env) (h : Hp) =>
    bnd (rec 48 [(.s [9, 10, 13, 32])] h) fun v135 h135 =>
    bnd (pLenS (env 0) h135) fun v136 h136 =>
    bnd (rec 47 [(env 5), v135, v136] h136) fun v137 h137 =>
    bnd (pNil (env 5) h137) fun v138 h138 =>
    bnd (pField 1 v138 h138) fun v139 h139 =>
    bnd (pLoad1 v139 h139) fun v140 h140 =>
    bnd (pLenS (env 0) h140) fun v141 h141 =>
    bnd (pInt .geq v140 v141 h141) fun v142 h142 =>
    ifD v142 (
      s29a6 rec n (env 0) (env 6) h142) (
      bnd (pNil (env 5) h142) fun v143 h143 =>
      bnd (pField 1 v143 h143) fun v144 h144 =>
      bnd (pLoad1 v144 h144) fun v145 h145 =>
      bnd (pIndexS (env 0) v145 h145) fun v146 h146 =>
      bnd (pInt .eql v146 (.i .u8 (Int.ofNat 34)) h146) fun v147 h147 =>
      ifD v147 (
        bnd (pNil (env 5) h147) fun v148 h148 =>
        bnd (pField 1 v148 h148) fun v149 h149 =>
        bnd (pLoad1 v149 h149) fun v150 h150 =>
        bnd (pInt .add v150 (.i .i64 (Int.ofNat 1)) h150) fun v151 h151 =>
        bnd (pSliceS (env 0) (some v151) none h151) fun v152 h152 =>
        bnd (rec 49 [v152, (.i .u8 (Int.ofNat 34))] h152) fun v153 h153 =>
        bnd (pInt .lss v153 (.i .i64 (Int.ofNat 0)) h153) fun v154 h154 =>
        ifD v154 (
          bnd (pNil (env 5) h154) fun v155 h155 =>
          bnd (pField 1 v155 h155) fun v156 h156 =>
          bnd (pLoad1 v156 h156) fun v157 h157 =>
          some (.t [.l0, v157, (.i .i64 (Int.ofNat 11))], h157)) (
          bnd (pNil (env 5) h154) fun v158 h158 =>
          bnd (pField 1 v158 h158) fun v159 h159 =>
          bnd (pLoad1 v159 h159) fun v160 h160 =>
          bnd (pInt .add v153 (.i .i64 (Int.ofNat 2)) h160) fun v161 h161 =>
          bnd (pInt .add v160 v161 h161) fun v162 h162 =>
          bnd (pNil (env 5) h162) fun v163 h163 =>
          bnd (pField 1 v163 h163) fun v164 h164 =>
          bnd (pStore 1 v164 v162 h164) fun _ h165 =>
          kk7 (env 0) (env 5) (env 6) h165)) (
        bnd (rec 50 [(env 5)] h147) fun v166 h166 =>
        bnd (pExtract 0 v166 h166) fun v167 h167 =>
        bnd (pExtract 1 v166 h167) fun v168 h168 =>
        bnd (pNew [(.i .i64 (Int.ofNat 0)), (.s []), (.i .i64 (Int.ofNat 0)), (.i .i64 (Int.ofNat 0))] h168) fun v169 h169 =>
        bnd (pStore 4 v169 v167 h169) fun _ h170 =>
        bnd (pInt .neq v168 (.i .i64 (Int.ofNat 0)) h170) fun v171 h171 =>
        ifD v171 (
          bnd (pField 3 v169 h171) fun v172 h172 =>
          bnd (pLoad1 v172 h172) fun v173 h173 =>
          some (.t [.l0, v173, v168], h173)) (
          bnd (pLoadA 4 v169 h171) fun v174 h174 =>
          bnd (pBuildSlice [(.i .i64 (Int.ofNat 0)), (.s []), (.i .i64 (Int.ofNat 0)), (.i .i64 (Int.ofNat 0))] 1 [(0, 4, v174)] h174) fun v175 h175 =>
          bnd (pAppend 4 40 (env 6) v175 h175) fun v176 h176 =>
          kk7 (env 0) (env 5) v176 h176)))) = (K3 (s29a7b rec n kk7) 0 5 6) := by kernel_rfl

theorem s29a7be (kk7 : TT3) : D29 rec n c29x10 (xs x0 0 (K2 (s29a6 rec n) 0 6)) (K3 kk7 0 5 6) = (K3 (s29a7b rec n kk7) 0 5 6) :=
  (s29a7q1 rec n kk7 (s29a6 rec n)).trans (s29a7q1u rec n kk7)

theorem s29a7le (m : Nat) : loopN (fun kk => D29 rec n c29x10 (xs x0 0 (K2 (s29a6 rec n) 0 6)) kk) m = (K3 (s29a7l rec n m) 0 5 6) := by
  induction m with
  | zero => exact (by kernel_rfl : loopN (fun kk => D29 rec n c29x10 (xs x0 0 (K2 (s29a6 rec n) 0 6)) kk) 0 = (K3 (s29a7l rec n 0) 0 5 6))
  | succ m ih =>
    refine (by kernel_rfl : loopN (fun kk => D29 rec n c29x10 (xs x0 0 (K2 (s29a6 rec n) 0 6)) kk) (m + 1) = D29 rec n c29x10 (xs x0 0 (K2 (s29a6 rec n) 0 6)) (loopN (fun kk => D29 rec n c29x10 (xs x0 0 (K2 (s29a6 rec n) 0 6)) kk) m)).trans ?_
    rw [ih]
    exact (s29a7be rec n (s29a7l rec n m)).trans (by kernel_rfl)

theorem s29a7e : D29 rec n c29x9 (xs x0 0 (K2 (s29a6 rec n) 0 6)) (K2 (s29a6 rec n) 0 6) = (K3 (s29a7 rec n) 0 5 6) :=
  (by kernel_rfl : D29 rec n c29x9 (xs x0 0 (K2 (s29a6 rec n) 0 6)) (K2 (s29a6 rec n) 0 6) = loopN (fun kk => D29 rec n c29x10 (xs x0 0 (K2 (s29a6 rec n) 0 6)) kk) n).trans ((s29a7le rec n n).trans (by kernel_rfl))

theorem s29a5p2 : D29 rec n c29x6 x0 (retK CF Try.f29) = D29 rec n c29x8 x0 (K2 (s29a6 rec n) 0 6) :=
  congrArg (fun k => D29 rec n c29x8 x0 k) (s29a6e rec n)

theorem s29a5e : D29 rec n c29x6 x0 (retK CF Try.f29) = (K3 (s29a5 rec n) 0 5 6) :=
  (s29a5p2 rec n).trans
  ((by kernel_rfl : D29 rec n c29x8 x0 (K2 (s29a6 rec n) 0 6) = D29 rec n c29x9 (xs x0 0 (K2 (s29a6 rec n) 0 6)) (K2 (s29a6 rec n) 0 6)).trans
  ((s29a7e rec n).trans (by kernel_rfl)))

theorem s29a4p3 : D29 rec n c29x5 x0 (retK CF Try.f29) = D29 rec n c29x11 x0 (K3 (s29a5 rec n) 0 5 6) :=
  congrArg (fun k => D29 rec n c29x11 x0 k) (s29a5e rec n)

theorem s29a4e : D29 rec n c29x5 x0 (retK CF Try.f29) = (K3 (s29a4 rec n) 0 5 6) :=
  (s29a4p3 rec n).trans
  ((by kernel_rfl))

theorem s29a3p4 : D29 rec n c29x4 x0 (retK CF Try.f29) = D29 rec n c29x12 x0 (K3 (s29a4 rec n) 0 5 6) :=
  congrArg (fun k => D29 rec n c29x12 x0 k) (s29a4e rec n)

theorem s29a3e : D29 rec n c29x4 x0 (retK CF Try.f29) = (K2 (s29a3 rec n) 0 5) :=
  (s29a3p4 rec n).trans
  ((by kernel_rfl))

theorem s29a2p5 : D29 rec n c29x3 x0 (retK CF Try.f29) = D29 rec n c29x13 x0 (K2 (s29a3 rec n) 0 5) :=
  congrArg (fun k => D29 rec n c29x13 x0 k) (s29a3e rec n)

theorem s29a2q6 (q0 : TT2) : D29 rec n c29x13 x0 (K2 q0 0 5) = fun (env : Env) (h : Hp) =>
    bnd (pBuild [(.s []), (.i .i64 (Int.ofNat 0))] [(0, 1, (env 0))] h) fun v181 h181 =>
    bnd (pBox v181 h181) fun v182 h182 =>
    q0 (env 0) v182 h182 := by kernel_rfl

theorem s29a2q6u : (fun (env : Env) (h : Hp) =>
    bnd (pBuild [(.s []), (.i .i64 (Int.ofNat 0))] [(0, 1, (env 0))] h) fun v183 h183 =>
    bnd (pBox v183 h183) fun v184 h184 =>
    s29a3 rec n (env 0) v184 h184) = (K1 (s29a2 rec n) 0) := by kernel_rfl

theorem s29a2e : D29 rec n c29x3 x0 (retK CF Try.f29) = (K1 (s29a2 rec n) 0) :=
  (s29a2p5 rec n).trans
  ((s29a2q6 rec n (s29a3 rec n)).trans (s29a2q6u rec n))

theorem s29a1p7 : D29 rec n c29x2 x0 (retK CF Try.f29) = D29 rec n c29x14 x0 (K1 (s29a2 rec n) 0) :=
  congrArg (fun k => D29 rec n c29x14 x0 k) (s29a2e rec n)

theorem s29a1e : D29 rec n c29x1 x0 (retK CF Try.f29) = (K1 (s29a1 rec n) 0) :=
  (by kernel_rfl : D29 rec n c29x1 x0 (retK CF Try.f29) = D29 rec n c29x2 x0 (retK CF Try.f29)).trans
  ((s29a1p7 rec n).trans
  ((by kernel_rfl)))

theorem s29p8 : D29 rec n c29 x0 (retK CF Try.f29) = D29 rec n c29x15 x0 (K1 (s29a1 rec n) 0) :=
  congrArg (fun k => D29 rec n c29x15 x0 k) (s29a1e rec n)

theorem s29m : D29 rec n c29 x0 (retK CF Try.f29) = (K1 (s29 rec n) 0) :=
  (s29p8 rec n).trans
  ((by kernel_rfl))

theorem s29ok (args : List DV) (h : Hp) : bodyD CF rec n 29 args h = s29 rec n (args.getD 0 undefD) h :=
  (by kernel_rfl : bodyD CF rec n 29 args h = D29 rec n c29 x0 (retK CF Try.f29) (argsE args) h).trans ((congrFun (congrFun (s29m rec n) (argsE args)) h).trans (by kernel_rfl))

noncomputable def s30a5 (rec : RT) (n : Nat) (x0 x3 : DV) (h0 : Hp) : Res :=
  bnd (rec 32 [x0, (.i .i64 (Int.ofNat 10)), (.s [124])] h0) fun v1 h1 =>
  some (x3, h1)

noncomputable def s30a6b (rec : RT) (n : Nat) (kk6 : TT2) (x0 x3 : DV) (h0 : Hp) : Res :=
    bnd (rec 51 [x0, (.i .i64 (Int.ofNat 1)), (.s [])] h0) fun v3 h3 =>
    ifD v3 (
      bnd (rec 52 [x0] h3) fun v4 h4 =>
      bnd (pPart1 1 v4 h4) fun v5 h5 =>
      bnd (pBuildSlice [(.s [])] 1 [(0, 1, v5)] h5) fun v6 h6 =>
      bnd (pAppend 1 16 x3 v6 h6) fun v7 h7 =>
      kk6 x0 v7 h7) (
      s30a5 rec n x0 x3 h3)

noncomputable def s30a6l (rec : RT) (n : Nat) (m : Nat) : TT2 :=
  Nat.rec (motive := fun _ => TT2) (fun _ _ _ => none) (fun _ ih => s30a6b rec n ih) m

noncomputable def s30a6 (rec : RT) (n : Nat) : TT2 := s30a6l rec n n

noncomputable def s30a4 (rec : RT) (n : Nat) (x0 x3 : DV) (h0 : Hp) : Res :=
  s30a6 rec n x0 x3 h0

noncomputable def s30a3 (rec : RT) (n : Nat) (x0 x3 : DV) (h0 : Hp) : Res :=
  bnd (rec 52 [x0] h0) fun v23 h23 =>
  s30a4 rec n x0 x3 h23

noncomputable def s30a2 (rec : RT) (n : Nat) (x0 x3 : DV) (h0 : Hp) : Res :=
  bnd (rec 51 [x0, (.i .i64 (Int.ofNat 10)), (.s [124])] h0) fun v25 h25 =>
  bnd (pUn .not v25 h25) fun v26 h26 =>
  ifD v26 (
    some (.l0, h26)) (
    s30a3 rec n x0 x3 h26)

noncomputable def s30a1 (rec : RT) (n : Nat) (x0 : DV) (h0 : Hp) : Res :=
  s30a2 rec n x0 .l0 h0

/-- parse.parser).temps -/
noncomputable def s30 (rec : RT) (n : Nat) (x0 : DV) (h0 : Hp) : Res :=
  s30a1 rec n x0 h0

noncomputable abbrev c30 : Code := cf Try.f30
noncomputable abbrev c30x1 : Code := cR c30
noncomputable abbrev c30x2 : Code := cR c30x1
noncomputable abbrev c30x3 : Code := cR c30x2
noncomputable abbrev c30x4 : Code := cR c30x3
noncomputable abbrev c30x5 : Code := cR c30x4
noncomputable abbrev c30x6 : Code := cL c30x4
noncomputable abbrev c30x7 : Code := cL c30x6
noncomputable abbrev c30x8 : Code := cL c30x7
noncomputable abbrev c30x9 : Code := cL c30x3
noncomputable abbrev c30x10 : Code := cL c30x2
noncomputable abbrev c30x11 : Code := cL c30x1
noncomputable abbrev c30x12 : Code := cL c30

noncomputable def D30 (rec : RT) (n : Nat) (c : Code) (X : Nat → K) (k : K) : K := codeD CF rec 20 n c X (retK CF Try.f30) k

theorem s30a5e : D30 rec n c30x5 x0 (retK CF Try.f30) = (K2 (s30a5 rec n) 0 3) :=
  (by kernel_rfl)

theorem s30a6q1 (kk6 : TT2) (q0 : TT2) : D30 rec n c30x8 (xs x0 0 (K2 q0 0 3)) (K2 kk6 0 3) = fun (env : Env) (h : Hp) =>
    bnd (rec 51 [(env 0), (.i .i64 (Int.ofNat 1)), (.s [])] h) fun v13 h13 =>
    ifD v13 (
      bnd (rec 52 [(env 0)] h13) fun v14 h14 =>
      bnd (pPart1 1 v14 h14) fun v15 h15 =>
      bnd (pBuildSlice [(.s [])] 1 [(0, 1, v15)] h15) fun v16 h16 =>
      bnd (pAppend 1 16 (env 3) v16 h16) fun v17 h17 =>
      kk6 (env 0) v17 h17) (
      q0 (env 0) (env 3) h13) := by kernel_rfl

theorem s30a6q1u (kk6 : TT2) : (fun (env : Env) (h : Hp) =>
    bnd (rec 51 [(env 0), (.i .i64 (Int.ofNat 1)), (.s [])] h) fun v18 h18 =>
    ifD v18 (
      bnd (rec 52 [(env 0)] h18) fun v19 h19 =>
      bnd (pPart1 1 v19 h19) fun v20 h20 =>
      bnd (pBuildSlice [(.s [])] 1 [(0, 1, v20)] h20) fun v21 h21 =>
      bnd (pAppend 1 16 (env 3) v21 h21) fun v22 h22 =>
      kk6 (env 0) v22 h22) (
      s30a5 rec n (env 0) (env 3) h18)) = (K2 (s30a6b rec n kk6) 0 3) := by kernel_rfl

theorem s30a6be (kk6 : TT2) : D30 rec n c30x8 (xs x0 0 (K2 (s30a5 rec n) 0 3)) (K2 kk6 0 3) = (K2 (s30a6b rec n kk6) 0 3) :=
  (s30a6q1 rec n kk6 (s30a5 rec n)).trans (s30a6q1u rec n kk6)

theorem s30a6le (m : Nat) : loopN (fun kk => D30 rec n c30x8 (xs x0 0 (K2 (s30a5 rec n) 0 3)) kk) m = (K2 (s30a6l rec n m) 0 3) := by
  induction m with
  | zero => exact (by kernel_rfl : loopN (fun kk => D30 rec n c30x8 (xs x0 0 (K2 (s30a5 rec n) 0 3)) kk) 0 = (K2 (s30a6l rec n 0) 0 3))
  | succ m ih =>
    refine (by kernel_rfl : loopN (fun kk => D30 rec n c30x8 (xs x0 0 (K2 (s30a5 rec n) 0 3)) kk) (m + 1) = D30 rec n c30x8 (xs x0 0 (K2 (s30a5 rec n) 0 3)) (loopN (fun kk => D30 rec n c30x8 (xs x0 0 (K2 (s30a5 rec n) 0 3)) kk) m)).trans ?_
    rw [ih]
    exact (s30a6be rec n (s30a6l rec n m)).trans (by kernel_rfl)

theorem s30a6e : D30 rec n c30x7 (xs x0 0 (K2 (s30a5 rec n) 0 3)) (K2 (s30a5 rec n) 0 3) = (K2 (s30a6 rec n) 0 3) :=
  (by kernel_rfl : D30 rec n c30x7 (xs x0 0 (K2 (s30a5 rec n) 0 3)) (K2 (s30a5 rec n) 0 3) = loopN (fun kk => D30 rec n c30x8 (xs x0 0 (K2 (s30a5 rec n) 0 3)) kk) n).trans ((s30a6le rec n n).trans (by kernel_rfl))

theorem s30a4p2 : D30 rec n c30x4 x0 (retK CF Try.f30) = D30 rec n c30x6 x0 (K2 (s30a5 rec n) 0 3) :=
  congrArg (fun k => D30 rec n c30x6 x0 k) (s30a5e rec n)

theorem s30a4e : D30 rec n c30x4 x0 (retK CF Try.f30) = (K2 (s30a4 rec n) 0 3) :=
  (s30a4p2 rec n).trans
  ((by kernel_rfl : D30 rec n c30x6 x0 (K2 (s30a5 rec n) 0 3) = D30 rec n c30x7 (xs x0 0 (K2 (s30a5 rec n) 0 3)) (K2 (s30a5 rec n) 0 3)).trans
  ((s30a6e rec n).trans (by kernel_rfl)))

theorem s30a3p3 : D30 rec n c30x3 x0 (retK CF Try.f30) = D30 rec n c30x9 x0 (K2 (s30a4 rec n) 0 3) :=
  congrArg (fun k => D30 rec n c30x9 x0 k) (s30a4e rec n)

theorem s30a3e : D30 rec n c30x3 x0 (retK CF Try.f30) = (K2 (s30a3 rec n) 0 3) :=
  (s30a3p3 rec n).trans
  ((by kernel_rfl))

theorem s30a2p4 : D30 rec n c30x2 x0 (retK CF Try.f30) = D30 rec n c30x10 x0 (K2 (s30a3 rec n) 0 3) :=
  congrArg (fun k => D30 rec n c30x10 x0 k) (s30a3e rec n)

theorem s30a2e : D30 rec n c30x2 x0 (retK CF Try.f30) = (K2 (s30a2 rec n) 0 3) :=
  (s30a2p4 rec n).trans
  ((by kernel_rfl))

theorem s30a1p5 : D30 rec n c30x1 x0 (retK CF Try.f30) = D30 rec n c30x11 x0 (K2 (s30a2 rec n) 0 3) :=
  congrArg (fun k => D30 rec n c30x11 x0 k) (s30a2e rec n)

theorem s30a1e : D30 rec n c30x1 x0 (retK CF Try.f30) = (K1 (s30a1 rec n) 0) :=
  (s30a1p5 rec n).trans
  ((by kernel_rfl))

theorem s30p6 : D30 rec n c30 x0 (retK CF Try.f30) = D30 rec n c30x12 x0 (K1 (s30a1 rec n) 0) :=
  congrArg (fun k => D30 rec n c30x12 x0 k) (s30a1e rec n)

theorem s30m : D30 rec n c30 x0 (retK CF Try.f30) = (K1 (s30 rec n) 0) :=
  (s30p6 rec n).trans
  ((by kernel_rfl))

theorem s30ok (args : List DV) (h : Hp) : bodyD CF rec n 30 args h = s30 rec n (args.getD 0 undefD) h :=
  (by kernel_rfl : bodyD CF rec n 30 args h = D30 rec n c30 x0 (retK CF Try.f30) (argsE args) h).trans ((congrFun (congrFun (s30m rec n) (argsE args)) h).trans (by kernel_rfl))

noncomputable def s31a3 (rec : RT) (n : Nat) (x3 : DV) (h0 : Hp) : Res :=
  some (x3, h0)

noncomputable def s31a6 (rec : RT) (n : Nat) (kk4 : TT2) (x0 x3 : DV) (h0 : Hp) : Res :=
  bnd (rec 53 [x0] h0) fun v1 h1 =>
  bnd (pBuildSlice [(.i .i64 (Int.ofNat 0)), (.s []), (.i .i64 (Int.ofNat 0)), .l0, .l0, .l0] 1 [(0, 6, v1)] h1) fun v2 h2 =>
  bnd (pAppend 6 104 x3 v2 h2) fun v3 h3 =>
  bnd (rec 51 [x0, (.i .i64 (Int.ofNat 10)), (.s [46])] h3) fun v4 h4 =>
  bnd (pUn .not v4 h4) fun v5 h5 =>
  ifD v5 (
    some (v3, h5)) (
    bnd (rec 52 [x0] h5) fun v6 h6 =>
    kk4 x0 v3 h6)

noncomputable def s31a11 (rec : RT) (n : Nat) (kk4 : TT2) (x3 : DV) (h0 : Hp) : Res :=
  some (x3, h0)

noncomputable def s31a10 (rec : RT) (n : Nat) (kk4 : TT2) (x0 x3 : DV) (h0 : Hp) : Res :=
  bnd (rec 51 [x0, (.i .i64 (Int.ofNat 10)), (.s [46])] h0) fun v25 h25 =>
  ifD v25 (
    bnd (rec 52 [x0] h25) fun v26 h26 =>
    s31a11 rec n kk4 x3 h26) (
    s31a11 rec n kk4 x3 h25)

noncomputable def s31a9 (rec : RT) (n : Nat) (kk4 : TT2) (x0 x3 : DV) (h0 : Hp) : Res :=
  bnd (rec 53 [x0] h0) fun v29 h29 =>
  bnd (pBuildSlice [(.i .i64 (Int.ofNat 0)), (.s []), (.i .i64 (Int.ofNat 0)), .l0, .l0, .l0] 1 [(0, 6, v29)] h29) fun v30 h30 =>
  bnd (pBuild [(.i .i64 (Int.ofNat 0)), (.s []), (.i .i64 (Int.ofNat 0)), .l0, .l0, .l0] [(0, 1, (.i .i64 (Int.ofNat 10))), (5, 1, v30)] h30) fun v31 h31 =>
  bnd (pBuildSlice [(.i .i64 (Int.ofNat 0)), (.s []), (.i .i64 (Int.ofNat 0)), .l0, .l0, .l0] 1 [(0, 6, v31)] h31) fun v32 h32 =>
  bnd (pAppend 6 104 x3 v32 h32) fun v33 h33 =>
  s31a10 rec n kk4 x0 v33 h33

noncomputable def s31a8 (rec : RT) (n : Nat) (kk4 : TT2) (x0 x3 : DV) (h0 : Hp) : Res :=
  bnd (rec 52 [x0] h0) fun v49 h49 =>
  s31a9 rec n kk4 x0 x3 h49

noncomputable def s31a7 (rec : RT) (n : Nat) (kk4 : TT2) (x0 x3 x20 : DV) (h0 : Hp) : Res :=
  ifD x20 (
    s31a8 rec n kk4 x0 x3 h0) (
    s31a6 rec n kk4 x0 x3 h0)

noncomputable def s31a5 (rec : RT) (n : Nat) (kk4 : TT2) (x0 x3 : DV) (h0 : Hp) : Res :=
  bnd (rec 51 [x0, (.i .i64 (Int.ofNat 10)), (.s [94])] h0) fun v51 h51 =>
  s31a7 rec n kk4 x0 x3 v51 h51

noncomputable def s31a4b (rec : RT) (n : Nat) (kk4 : TT2) (x0 x3 : DV) (h0 : Hp) : Res :=
    bnd (pNil x0 h0) fun v53 h53 =>
    bnd (pField 3 v53 h53) fun v54 h54 =>
    bnd (pLoad1 v54 h54) fun v55 h55 =>
    bnd (pInt .eql v55 (.i .i64 (Int.ofNat 0)) h55) fun v56 h56 =>
    bnd (gD v56 true (some (x0, h56)) h56) fun v57 h57 =>
    bnd (gD v56 true (rec 51 [v57, (.i .i64 (Int.ofNat 0)), (.s [])] h57) h57) fun v58 h58 =>
    bnd (gD v56 true (pUn .not v58 h58) h58) fun v59 h59 =>
    bnd (pPick v56 v59 (.b false) h59) fun v60 h60 =>
    bnd (gD v60 true (some (x0, h60)) h60) fun v61 h61 =>
    bnd (gD v60 true (rec 51 [v61, (.i .i64 (Int.ofNat 10)), (.s [93])] h61) h61) fun v62 h62 =>
    bnd (gD v60 true (pUn .not v62 h62) h62) fun v63 h63 =>
    bnd (pPick v60 v63 (.b false) h63) fun v64 h64 =>
    ifD v64 (
      s31a5 rec n kk4 x0 x3 h64) (
      s31a3 rec n x3 h64)

noncomputable def s31a4l (rec : RT) (n : Nat) (m : Nat) : TT2 :=
  Nat.rec (motive := fun _ => TT2) (fun _ _ _ => none) (fun _ ih => s31a4b rec n ih) m

noncomputable def s31a4 (rec : RT) (n : Nat) : TT2 := s31a4l rec n n

noncomputable def s31a2 (rec : RT) (n : Nat) (x0 x3 : DV) (h0 : Hp) : Res :=
  s31a4 rec n x0 x3 h0

noncomputable def s31a1 (rec : RT) (n : Nat) (x0 : DV) (h0 : Hp) : Res :=
  s31a2 rec n x0 .l0 h0

/-- parse.parser).statements -/
noncomputable def s31 (rec : RT) (n : Nat) (x0 : DV) (h0 : Hp) : Res :=
  s31a1 rec n x0 h0

noncomputable abbrev c31 : Code := cf Try.f31
noncomputable abbrev c31x1 : Code := cR c31
noncomputable abbrev c31x2 : Code := cR c31x1
noncomputable abbrev c31x3 : Code := cR c31x2
noncomputable abbrev c31x4 : Code := cL c31x2
noncomputable abbrev c31x5 : Code := cL c31x4
noncomputable abbrev c31x6 : Code := cL c31x5
noncomputable abbrev c31x7 : Code := cR c31x6
noncomputable abbrev c31x8 : Code := cL c31x7
noncomputable abbrev c31x9 : Code := cR c31x8
noncomputable abbrev c31x10 : Code := cL c31x8
noncomputable abbrev c31x11 : Code := cR c31x10
noncomputable abbrev c31x12 : Code := cL c31x11
noncomputable abbrev c31x13 : Code := cR c31x12
noncomputable abbrev c31x14 : Code := cR c31x13
noncomputable abbrev c31x15 : Code := cR c31x14
noncomputable abbrev c31x16 : Code := cL c31x14
noncomputable abbrev c31x17 : Code := cL c31x13
noncomputable abbrev c31x18 : Code := cL c31x12
noncomputable abbrev c31x19 : Code := cR c31x11
noncomputable abbrev c31x20 : Code := cL c31x10
noncomputable abbrev c31x21 : Code := cL c31x6
noncomputable abbrev c31x22 : Code := cL c31x1
noncomputable abbrev c31x23 : Code := cL c31

noncomputable def D31 (rec : RT) (n : Nat) (c : Code) (X : Nat → K) (k : K) : K := codeD CF rec 47 n c X (retK CF Try.f31) k

theorem s31a3e : D31 rec n c31x3 x0 (retK CF Try.f31) = (K1 (s31a3 rec n) 3) :=
  (by kernel_rfl)

theorem s31a6q1 (kk4 : TT2) (q0 : TT1) : D31 rec n c31x9 (xs (xs x0 0 (K1 q0 3)) 1 (K2 kk4 0 3)) (K2 kk4 0 3) = fun (env : Env) (h : Hp) =>
    bnd (rec 53 [(env 0)] h) fun v13 h13 =>
    bnd (pBuildSlice [(.i .i64 (Int.ofNat 0)), (.s []), (.i .i64 (Int.ofNat 0)), .l0, .l0, .l0] 1 [(0, 6, v13)] h13) fun v14 h14 =>
    bnd (pAppend 6 104 (env 3) v14 h14) fun v15 h15 =>
    bnd (rec 51 [(env 0), (.i .i64 (Int.ofNat 10)), (.s [46])] h15) fun v16 h16 =>
    bnd (pUn .not v16 h16) fun v17 h17 =>
    ifD v17 (
      some (v15, h17)) (
      bnd (rec 52 [(env 0)] h17) fun v18 h18 =>
      kk4 (env 0) v15 h18) := by kernel_rfl

theorem s31a6q1u (kk4 : TT2) : (fun (env : Env) (h : Hp) =>
    bnd (rec 53 [(env 0)] h) fun v19 h19 =>
    bnd (pBuildSlice [(.i .i64 (Int.ofNat 0)), (.s []), (.i .i64 (Int.ofNat 0)), .l0, .l0, .l0] 1 [(0, 6, v19)] h19) fun v20 h20 =>
    bnd (pAppend 6 104 (env 3) v20 h20) fun v21 h21 =>
    bnd (rec 51 [(env 0), (.i .i64 (Int.ofNat 10)), (.s [46])] h21) fun v22 h22 =>
    bnd (pUn .not v22 h22) fun v23 h23 =>
    ifD v23 (
      some (v21, h23)) (
      bnd (rec 52 [(env 0)] h23) fun v24 h24 =>
      kk4 (env 0) v21 h24)) = (K2 (s31a6 rec n kk4) 0 3) := by kernel_rfl

theorem s31a6e (kk4 : TT2) : D31 rec n c31x9 (xs (xs x0 0 (K1 (s31a3 rec n) 3)) 1 (K2 kk4 0 3)) (K2 kk4 0 3) = (K2 (s31a6 rec n kk4) 0 3) :=
  (s31a6q1 rec n kk4 (s31a3 rec n)).trans (s31a6q1u rec n kk4)

theorem s31a11e (kk4 : TT2) : D31 rec n c31x15 (xs (xs x0 0 (K1 (s31a3 rec n) 3)) 1 (K2 kk4 0 3)) (K2 (s31a6 rec n kk4) 0 3) = (K1 (s31a11 rec n kk4) 3) :=
  (by kernel_rfl)

theorem s31a10p2 (kk4 : TT2) : D31 rec n c31x14 (xs (xs x0 0 (K1 (s31a3 rec n) 3)) 1 (K2 kk4 0 3)) (K2 (s31a6 rec n kk4) 0 3) = D31 rec n c31x16 (xs (xs x0 0 (K1 (s31a3 rec n) 3)) 1 (K2 kk4 0 3)) (K1 (s31a11 rec n kk4) 3) :=
  congrArg (fun k => D31 rec n c31x16 (xs (xs x0 0 (K1 (s31a3 rec n) 3)) 1 (K2 kk4 0 3)) k) (s31a11e rec n kk4)

theorem s31a10e (kk4 : TT2) : D31 rec n c31x14 (xs (xs x0 0 (K1 (s31a3 rec n) 3)) 1 (K2 kk4 0 3)) (K2 (s31a6 rec n kk4) 0 3) = (K2 (s31a10 rec n kk4) 0 3) :=
  (s31a10p2 rec n kk4).trans
  ((by kernel_rfl))

theorem s31a9p3 (kk4 : TT2) : D31 rec n c31x13 (xs (xs x0 0 (K1 (s31a3 rec n) 3)) 1 (K2 kk4 0 3)) (K2 (s31a6 rec n kk4) 0 3) = D31 rec n c31x17 (xs (xs x0 0 (K1 (s31a3 rec n) 3)) 1 (K2 kk4 0 3)) (K2 (s31a10 rec n kk4) 0 3) :=
  congrArg (fun k => D31 rec n c31x17 (xs (xs x0 0 (K1 (s31a3 rec n) 3)) 1 (K2 kk4 0 3)) k) (s31a10e rec n kk4)

theorem s31a9q4 (kk4 : TT2) (q0 : TT2) (q1 : TT1) : D31 rec n c31x17 (xs (xs x0 0 (K1 q1 3)) 1 (K2 kk4 0 3)) (K2 q0 0 3) = fun (env : Env) (h : Hp) =>
    bnd (rec 53 [(env 0)] h) fun v39 h39 =>
    bnd (pBuildSlice [(.i .i64 (Int.ofNat 0)), (.s []), (.i .i64 (Int.ofNat 0)), .l0, .l0, .l0] 1 [(0, 6, v39)] h39) fun v40 h40 =>
    bnd (pBuild [(.i .i64 (Int.ofNat 0)), (.s []), (.i .i64 (Int.ofNat 0)), .l0, .l0, .l0] [(0, 1, (.i .i64 (Int.ofNat 10))), (5, 1, v40)] h40) fun v41 h41 =>
    bnd (pBuildSlice [(.i .i64 (Int.ofNat 0)), (.s []), (.i .i64 (Int.ofNat 0)), .l0, .l0, .l0] 1 [(0, 6, v41)] h41) fun v42 h42 =>
    bnd (pAppend 6 104 (env 3) v42 h42) fun v43 h43 =>
    q0 (env 0) v43 h43 := by kernel_rfl

theorem s31a9q4u (kk4 : TT2) : (fun (env : Env) (h : Hp) =>
    bnd (rec 53 [(env 0)] h) fun v44 h44 =>
    bnd (pBuildSlice [(.i .i64 (Int.ofNat 0)), (.s []), (.i .i64 (Int.ofNat 0)), .l0, .l0, .l0] 1 [(0, 6, v44)] h44) fun v45 h45 =>
    bnd (pBuild [(.i .i64 (Int.ofNat 0)), (.s []), (.i .i64 (Int.ofNat 0)), .l0, .l0, .l0] [(0, 1, (.i .i64 (Int.ofNat 10))), (5, 1, v45)] h45) fun v46 h46 =>
    bnd (pBuildSlice [(.i .i64 (Int.ofNat 0)), (.s []), (.i .i64 (Int.ofNat 0)), .l0, .l0, .l0] 1 [(0, 6, v46)] h46) fun v47 h47 =>
    bnd (pAppend 6 104 (env 3) v47 h47) fun v48 h48 =>
    s31a10 rec n kk4 (env 0) v48 h48) = (K2 (s31a9 rec n kk4) 0 3) := by kernel_rfl

theorem s31a9e (kk4 : TT2) : D31 rec n c31x13 (xs (xs x0 0 (K1 (s31a3 rec n) 3)) 1 (K2 kk4 0 3)) (K2 (s31a6 rec n kk4) 0 3) = (K2 (s31a9 rec n kk4) 0 3) :=
  (s31a9p3 rec n kk4).trans
  ((s31a9q4 rec n kk4 (s31a10 rec n kk4) (s31a3 rec n)).trans (s31a9q4u rec n kk4))

theorem s31a8p5 (kk4 : TT2) : D31 rec n c31x12 (xs (xs x0 0 (K1 (s31a3 rec n) 3)) 1 (K2 kk4 0 3)) (K2 (s31a6 rec n kk4) 0 3) = D31 rec n c31x18 (xs (xs x0 0 (K1 (s31a3 rec n) 3)) 1 (K2 kk4 0 3)) (K2 (s31a9 rec n kk4) 0 3) :=
  congrArg (fun k => D31 rec n c31x18 (xs (xs x0 0 (K1 (s31a3 rec n) 3)) 1 (K2 kk4 0 3)) k) (s31a9e rec n kk4)

theorem s31a8e (kk4 : TT2) : D31 rec n c31x12 (xs (xs x0 0 (K1 (s31a3 rec n) 3)) 1 (K2 kk4 0 3)) (K2 (s31a6 rec n kk4) 0 3) = (K2 (s31a8 rec n kk4) 0 3) :=
  (s31a8p5 rec n kk4).trans
  ((by kernel_rfl))

theorem s31a7e (kk4 : TT2) : D31 rec n c31x11 (xs (xs x0 0 (K1 (s31a3 rec n) 3)) 1 (K2 kk4 0 3)) (K2 (s31a6 rec n kk4) 0 3) = (K3 (s31a7 rec n kk4) 0 3 20) :=
  (by kernel_rfl : D31 rec n c31x11 (xs (xs x0 0 (K1 (s31a3 rec n) 3)) 1 (K2 kk4 0 3)) (K2 (s31a6 rec n kk4) 0 3) = (fun (env : Env) (h : Hp) => ifD (opr env (cC c31x11)) (D31 rec n c31x12 (xs (xs x0 0 (K1 (s31a3 rec n) 3)) 1 (K2 kk4 0 3)) (K2 (s31a6 rec n kk4) 0 3) env h) (D31 rec n c31x19 (xs (xs x0 0 (K1 (s31a3 rec n) 3)) 1 (K2 kk4 0 3)) (K2 (s31a6 rec n kk4) 0 3) env h))).trans (by rw [s31a8e rec n kk4]; kernel_rfl)

theorem s31a5p6 (kk4 : TT2) : D31 rec n c31x8 (xs (xs x0 0 (K1 (s31a3 rec n) 3)) 1 (K2 kk4 0 3)) (K2 kk4 0 3) = D31 rec n c31x10 (xs (xs x0 0 (K1 (s31a3 rec n) 3)) 1 (K2 kk4 0 3)) (K2 (s31a6 rec n kk4) 0 3) :=
  congrArg (fun k => D31 rec n c31x10 (xs (xs x0 0 (K1 (s31a3 rec n) 3)) 1 (K2 kk4 0 3)) k) (s31a6e rec n kk4)

theorem s31a5p7 (kk4 : TT2) : D31 rec n c31x10 (xs (xs x0 0 (K1 (s31a3 rec n) 3)) 1 (K2 kk4 0 3)) (K2 (s31a6 rec n kk4) 0 3) = D31 rec n c31x20 (xs (xs x0 0 (K1 (s31a3 rec n) 3)) 1 (K2 kk4 0 3)) (K3 (s31a7 rec n kk4) 0 3 20) :=
  congrArg (fun k => D31 rec n c31x20 (xs (xs x0 0 (K1 (s31a3 rec n) 3)) 1 (K2 kk4 0 3)) k) (s31a7e rec n kk4)

theorem s31a5e (kk4 : TT2) : D31 rec n c31x7 (xs x0 0 (K1 (s31a3 rec n) 3)) (K2 kk4 0 3) = (K2 (s31a5 rec n kk4) 0 3) :=
  (by kernel_rfl : D31 rec n c31x7 (xs x0 0 (K1 (s31a3 rec n) 3)) (K2 kk4 0 3) = D31 rec n c31x8 (xs (xs x0 0 (K1 (s31a3 rec n) 3)) 1 (K2 kk4 0 3)) (K2 kk4 0 3)).trans
  ((s31a5p6 rec n kk4).trans
  ((s31a5p7 rec n kk4).trans
  ((by kernel_rfl))))

theorem s31a4p8 (kk4 : TT2) : D31 rec n c31x6 (xs x0 0 (K1 (s31a3 rec n) 3)) (K2 kk4 0 3) = D31 rec n c31x21 (xs x0 0 (K1 (s31a3 rec n) 3)) (K2 (s31a5 rec n kk4) 0 3) :=
  congrArg (fun k => D31 rec n c31x21 (xs x0 0 (K1 (s31a3 rec n) 3)) k) (s31a5e rec n kk4)

theorem s31a4be (kk4 : TT2) : D31 rec n c31x6 (xs x0 0 (K1 (s31a3 rec n) 3)) (K2 kk4 0 3) = (K2 (s31a4b rec n kk4) 0 3) :=
  (s31a4p8 rec n kk4).trans
  ((by kernel_rfl))

theorem s31a4le (m : Nat) : loopN (fun kk => D31 rec n c31x6 (xs x0 0 (K1 (s31a3 rec n) 3)) kk) m = (K2 (s31a4l rec n m) 0 3) := by
  induction m with
  | zero => exact (by kernel_rfl : loopN (fun kk => D31 rec n c31x6 (xs x0 0 (K1 (s31a3 rec n) 3)) kk) 0 = (K2 (s31a4l rec n 0) 0 3))
  | succ m ih =>
    refine (by kernel_rfl : loopN (fun kk => D31 rec n c31x6 (xs x0 0 (K1 (s31a3 rec n) 3)) kk) (m + 1) = D31 rec n c31x6 (xs x0 0 (K1 (s31a3 rec n) 3)) (loopN (fun kk => D31 rec n c31x6 (xs x0 0 (K1 (s31a3 rec n) 3)) kk) m)).trans ?_
    rw [ih]
    exact (s31a4be rec n (s31a4l rec n m)).trans (by kernel_rfl)

theorem s31a4e : D31 rec n c31x5 (xs x0 0 (K1 (s31a3 rec n) 3)) (K1 (s31a3 rec n) 3) = (K2 (s31a4 rec n) 0 3) :=
  (by kernel_rfl : D31 rec n c31x5 (xs x0 0 (K1 (s31a3 rec n) 3)) (K1 (s31a3 rec n) 3) = loopN (fun kk => D31 rec n c31x6 (xs x0 0 (K1 (s31a3 rec n) 3)) kk) n).trans ((s31a4le rec n n).trans (by kernel_rfl))

theorem s31a2p9 : D31 rec n c31x2 x0 (retK CF Try.f31) = D31 rec n c31x4 x0 (K1 (s31a3 rec n) 3) :=
  congrArg (fun k => D31 rec n c31x4 x0 k) (s31a3e rec n)

theorem s31a2e : D31 rec n c31x2 x0 (retK CF Try.f31) = (K2 (s31a2 rec n) 0 3) :=
  (s31a2p9 rec n).trans
  ((by kernel_rfl : D31 rec n c31x4 x0 (K1 (s31a3 rec n) 3) = D31 rec n c31x5 (xs x0 0 (K1 (s31a3 rec n) 3)) (K1 (s31a3 rec n) 3)).trans
  ((s31a4e rec n).trans (by kernel_rfl)))

theorem s31a1p10 : D31 rec n c31x1 x0 (retK CF Try.f31) = D31 rec n c31x22 x0 (K2 (s31a2 rec n) 0 3) :=
  congrArg (fun k => D31 rec n c31x22 x0 k) (s31a2e rec n)

theorem s31a1e : D31 rec n c31x1 x0 (retK CF Try.f31) = (K1 (s31a1 rec n) 0) :=
  (s31a1p10 rec n).trans
  ((by kernel_rfl))

theorem s31p11 : D31 rec n c31 x0 (retK CF Try.f31) = D31 rec n c31x23 x0 (K1 (s31a1 rec n) 0) :=
  congrArg (fun k => D31 rec n c31x23 x0 k) (s31a1e rec n)

theorem s31m : D31 rec n c31 x0 (retK CF Try.f31) = (K1 (s31 rec n) 0) :=
  (s31p11 rec n).trans
  ((by kernel_rfl))

theorem s31ok (args : List DV) (h : Hp) : bodyD CF rec n 31 args h = s31 rec n (args.getD 0 undefD) h :=
  (by kernel_rfl : bodyD CF rec n 31 args h = D31 rec n c31 x0 (retK CF Try.f31) (argsE args) h).trans ((congrFun (congrFun (s31m rec n) (argsE args)) h).trans (by kernel_rfl))

/-- parse.parser).need -/
noncomputable def s32 (rec : RT) (n : Nat) (x0 x1 x2 : DV) (h0 : Hp) : Res :=
  bnd (pNew [(.i .i64 (Int.ofNat 0)), (.s []), (.i .i64 (Int.ofNat 0)), (.i .i64 (Int.ofNat 0))] h0) fun v1 h1 =>
  bnd (rec 51 [x0, x1, x2] h1) fun v2 h2 =>
  bnd (pUn .not v2 h2) fun v3 h3 =>
  ifD v3 (
    bnd (rec 55 [x0, (.i .i64 (Int.ofNat 0))] h3) fun v4 h4 =>
    bnd (rec 54 [x0, v4, (.i .i64 (Int.ofNat 13))] h4) fun v5 h5 =>
    bnd (pBuild [(.i .i64 (Int.ofNat 0)), (.s []), (.i .i64 (Int.ofNat 0)), (.i .i64 (Int.ofNat 0))] [] h5) fun v6 h6 =>
    bnd (pStore 4 v1 v6 h6) fun _ h7 =>
    bnd (pLoadA 4 v1 h7) fun v8 _ =>
    some (v8, h7)) (
    bnd (rec 52 [x0] h3) fun v9 h9 =>
    bnd (pStore 4 v1 v9 h9) fun _ h10 =>
    bnd (pLoadA 4 v1 h10) fun v11 _ =>
    some (v11, h10))

noncomputable abbrev c32 : Code := cf Try.f32

noncomputable def D32 (rec : RT) (n : Nat) (c : Code) (X : Nat → K) (k : K) : K := codeD CF rec 19 n c X (retK CF Try.f32) k

theorem s32m : D32 rec n c32 x0 (retK CF Try.f32) = (K3 (s32 rec n) 0 1 2) :=
  (by kernel_rfl)

theorem s32ok (args : List DV) (h : Hp) : bodyD CF rec n 32 args h = s32 rec n (args.getD 0 undefD) (args.getD 1 undefD) (args.getD 2 undefD) h :=
  (by kernel_rfl : bodyD CF rec n 32 args h = D32 rec n c32 x0 (retK CF Try.f32) (argsE args) h).trans ((congrFun (congrFun (s32m rec n) (argsE args)) h).trans (by kernel_rfl))

noncomputable def s33a8 (rec : RT) (n : Nat) (h0 : Hp) : Res :=
  some ((.i .i64 (Int.ofNat 0)), h0)

noncomputable def s33a10b (rec : RT) (n : Nat) (kk10 : TT3) (x0 x5 x6 : DV) (h0 : Hp) : Res :=
    bnd (pLenS x5 h0) fun v1 h1 =>
    bnd (pInt .lss x6 v1 h1) fun v2 h2 =>
    ifD v2 (
      bnd (pIndexS x5 x6 h2) fun v3 h3 =>
      bnd (pInt .eql v3 x0 h3) fun v4 h4 =>
      ifD v4 (
        some ((.i .i64 (Int.ofNat 4)), h4)) (
        bnd (pInt .add x6 (.i .i64 (Int.ofNat 1)) h4) fun v5 h5 =>
        kk10 x0 x5 v5 h5)) (
      s33a8 rec n h2)

noncomputable def s33a10l (rec : RT) (n : Nat) (m : Nat) : TT3 :=
  Nat.rec (motive := fun _ => TT3) (fun _ _ _ _ => none) (fun _ ih => s33a10b rec n ih) m

noncomputable def s33a10 (rec : RT) (n : Nat) : TT3 := s33a10l rec n n

noncomputable def s33a9 (rec : RT) (n : Nat) (x0 x5 x6 : DV) (h0 : Hp) : Res :=
  s33a10 rec n x0 x5 x6 h0

noncomputable def s33a7 (rec : RT) (n : Nat) (x0 x5 : DV) (h0 : Hp) : Res :=
  s33a9 rec n x0 x5 (.i .i64 (Int.ofNat 0)) h0

noncomputable def s33a6 (rec : RT) (n : Nat) (x0 : DV) (h0 : Hp) : Res :=
  s33a7 rec n x0 (.s [94, 46, 59, 40, 41, 91, 93, 124]) h0

noncomputable def s33a12b (rec : RT) (n : Nat) (kk12 : TT3) (x0 x3 x4 : DV) (h0 : Hp) : Res :=
    bnd (pLenS x3 h0) fun v11 h11 =>
    bnd (pInt .lss x4 v11 h11) fun v12 h12 =>
    ifD v12 (
      bnd (pIndexS x3 x4 h12) fun v13 h13 =>
      bnd (pInt .eql v13 x0 h13) fun v14 h14 =>
      ifD v14 (
        some ((.i .i64 (Int.ofNat 3)), h14)) (
        bnd (pInt .add x4 (.i .i64 (Int.ofNat 1)) h14) fun v15 h15 =>
        kk12 x0 x3 v15 h15)) (
      s33a6 rec n x0 h12)

noncomputable def s33a12l (rec : RT) (n : Nat) (m : Nat) : TT3 :=
  Nat.rec (motive := fun _ => TT3) (fun _ _ _ _ => none) (fun _ ih => s33a12b rec n ih) m

noncomputable def s33a12 (rec : RT) (n : Nat) : TT3 := s33a12l rec n n

noncomputable def s33a11 (rec : RT) (n : Nat) (x0 x3 x4 : DV) (h0 : Hp) : Res :=
  s33a12 rec n x0 x3 x4 h0

noncomputable def s33a5 (rec : RT) (n : Nat) (x0 x3 : DV) (h0 : Hp) : Res :=
  s33a11 rec n x0 x3 (.i .i64 (Int.ofNat 0)) h0

noncomputable def s33a4 (rec : RT) (n : Nat) (x0 : DV) (h0 : Hp) : Res :=
  s33a5 rec n x0 (.s [43, 45, 42, 47, 60, 62, 61, 126, 44, 64, 38, 37]) h0

noncomputable def s33a3 (rec : RT) (n : Nat) (x0 : DV) (h0 : Hp) : Res :=
  bnd (pInt .eql x0 (.i .u8 (Int.ofNat 9)) h0) fun v21 h21 =>
  bnd (gD v21 false (some (x0, h21)) h21) fun v22 h22 =>
  bnd (gD v21 false (pInt .eql v22 (.i .u8 (Int.ofNat 10)) h22) h22) fun v23 h23 =>
  bnd (pPick v21 (.b true) v23 h23) fun v24 h24 =>
  bnd (gD v24 false (some (x0, h24)) h24) fun v25 h25 =>
  bnd (gD v24 false (pInt .eql v25 (.i .u8 (Int.ofNat 13)) h25) h25) fun v26 h26 =>
  bnd (pPick v24 (.b true) v26 h26) fun v27 h27 =>
  bnd (gD v27 false (some (x0, h27)) h27) fun v28 h28 =>
  bnd (gD v27 false (pInt .eql v28 (.i .u8 (Int.ofNat 32)) h28) h28) fun v29 h29 =>
  bnd (pPick v27 (.b true) v29 h29) fun v30 h30 =>
  ifD v30 (
    some ((.i .i64 (Int.ofNat 5)), h30)) (
    s33a4 rec n x0 h30)

noncomputable def s33a2 (rec : RT) (n : Nat) (x0 : DV) (h0 : Hp) : Res :=
  bnd (pInt .geq x0 (.i .u8 (Int.ofNat 48)) h0) fun v41 h41 =>
  bnd (gD v41 true (some (x0, h41)) h41) fun v42 h42 =>
  bnd (gD v41 true (pInt .leq v42 (.i .u8 (Int.ofNat 57)) h42) h42) fun v43 h43 =>
  bnd (pPick v41 v43 (.b false) h43) fun v44 h44 =>
  ifD v44 (
    some ((.i .i64 (Int.ofNat 2)), h44)) (
    s33a3 rec n x0 h44)

noncomputable def s33a1 (rec : RT) (n : Nat) (x0 : DV) (h0 : Hp) : Res :=
  bnd (pInt .geq x0 (.i .u8 (Int.ofNat 97)) h0) fun v49 h49 =>
  bnd (gD v49 true (some (x0, h49)) h49) fun v50 h50 =>
  bnd (gD v49 true (pInt .leq v50 (.i .u8 (Int.ofNat 122)) h50) h50) fun v51 h51 =>
  bnd (pPick v49 v51 (.b false) h51) fun v52 h52 =>
  bnd (gD v52 false (some (x0, h52)) h52) fun v53 h53 =>
  bnd (gD v52 false (pInt .geq v53 (.i .u8 (Int.ofNat 65)) h53) h53) fun v54 h54 =>
  bnd (gD v52 false (some (v54, h54)) h54) fun v55 h55 =>
  bnd (gD v55 true (some (x0, h55)) h55) fun v56 h56 =>
  bnd (gD v55 true (pInt .leq v56 (.i .u8 (Int.ofNat 90)) h56) h56) fun v57 h57 =>
  bnd (gD v52 false (pPick v55 v57 (.b false) h57) h57) fun v58 h58 =>
  bnd (pPick v52 (.b true) v58 h58) fun v59 h59 =>
  ifD v59 (
    some ((.i .i64 (Int.ofNat 1)), h59)) (
    s33a2 rec n x0 h59)

/-- vivariumref06.kind -/
noncomputable def s33 (rec : RT) (n : Nat) (x0 : DV) (h0 : Hp) : Res :=
  s33a1 rec n x0 h0

noncomputable abbrev c33 : Code := cf Try.f33
noncomputable abbrev c33x1 : Code := cR c33
noncomputable abbrev c33x2 : Code := cR c33x1
noncomputable abbrev c33x3 : Code := cR c33x2
noncomputable abbrev c33x4 : Code := cR c33x3
noncomputable abbrev c33x5 : Code := cR c33x4
noncomputable abbrev c33x6 : Code := cR c33x5
noncomputable abbrev c33x7 : Code := cR c33x6
noncomputable abbrev c33x8 : Code := cR c33x7
noncomputable abbrev c33x9 : Code := cL c33x7
noncomputable abbrev c33x10 : Code := cR c33x9
noncomputable abbrev c33x11 : Code := cL c33x10
noncomputable abbrev c33x12 : Code := cL c33x11
noncomputable abbrev c33x13 : Code := cL c33x9
noncomputable abbrev c33x14 : Code := cL c33x6
noncomputable abbrev c33x15 : Code := cL c33x5
noncomputable abbrev c33x16 : Code := cR c33x15
noncomputable abbrev c33x17 : Code := cL c33x16
noncomputable abbrev c33x18 : Code := cL c33x17
noncomputable abbrev c33x19 : Code := cL c33x15
noncomputable abbrev c33x20 : Code := cL c33x4
noncomputable abbrev c33x21 : Code := cL c33x3
noncomputable abbrev c33x22 : Code := cL c33x2
noncomputable abbrev c33x23 : Code := cL c33x1
noncomputable abbrev c33x24 : Code := cL c33

noncomputable def D33 (rec : RT) (n : Nat) (c : Code) (X : Nat → K) (k : K) : K := codeD CF rec 63 n c X (retK CF Try.f33) k

theorem s33a8e : D33 rec n c33x8 x0 (retK CF Try.f33) = (K0 (s33a8 rec n)) :=
  (by kernel_rfl)

theorem s33a10be (kk10 : TT3) : D33 rec n c33x12 (xs x0 2 (K0 (s33a8 rec n))) (K3 kk10 0 5 6) = (K3 (s33a10b rec n kk10) 0 5 6) :=
  (by kernel_rfl)

theorem s33a10le (m : Nat) : loopN (fun kk => D33 rec n c33x12 (xs x0 2 (K0 (s33a8 rec n))) kk) m = (K3 (s33a10l rec n m) 0 5 6) := by
  induction m with
  | zero => exact (by kernel_rfl : loopN (fun kk => D33 rec n c33x12 (xs x0 2 (K0 (s33a8 rec n))) kk) 0 = (K3 (s33a10l rec n 0) 0 5 6))
  | succ m ih =>
    refine (by kernel_rfl : loopN (fun kk => D33 rec n c33x12 (xs x0 2 (K0 (s33a8 rec n))) kk) (m + 1) = D33 rec n c33x12 (xs x0 2 (K0 (s33a8 rec n))) (loopN (fun kk => D33 rec n c33x12 (xs x0 2 (K0 (s33a8 rec n))) kk) m)).trans ?_
    rw [ih]
    exact (s33a10be rec n (s33a10l rec n m)).trans (by kernel_rfl)

theorem s33a10e : D33 rec n c33x11 (xs x0 2 (K0 (s33a8 rec n))) (K0 (s33a8 rec n)) = (K3 (s33a10 rec n) 0 5 6) :=
  (by kernel_rfl : D33 rec n c33x11 (xs x0 2 (K0 (s33a8 rec n))) (K0 (s33a8 rec n)) = loopN (fun kk => D33 rec n c33x12 (xs x0 2 (K0 (s33a8 rec n))) kk) n).trans ((s33a10le rec n n).trans (by kernel_rfl))

theorem s33a9e : D33 rec n c33x10 x0 (K0 (s33a8 rec n)) = (K3 (s33a9 rec n) 0 5 6) :=
  (by kernel_rfl : D33 rec n c33x10 x0 (K0 (s33a8 rec n)) = D33 rec n c33x11 (xs x0 2 (K0 (s33a8 rec n))) (K0 (s33a8 rec n))).trans
  ((s33a10e rec n).trans (by kernel_rfl))

theorem s33a7p1 : D33 rec n c33x7 x0 (retK CF Try.f33) = D33 rec n c33x9 x0 (K0 (s33a8 rec n)) :=
  congrArg (fun k => D33 rec n c33x9 x0 k) (s33a8e rec n)

theorem s33a7p2 : D33 rec n c33x9 x0 (K0 (s33a8 rec n)) = D33 rec n c33x13 x0 (K3 (s33a9 rec n) 0 5 6) :=
  congrArg (fun k => D33 rec n c33x13 x0 k) (s33a9e rec n)

theorem s33a7e : D33 rec n c33x7 x0 (retK CF Try.f33) = (K2 (s33a7 rec n) 0 5) :=
  (s33a7p1 rec n).trans
  ((s33a7p2 rec n).trans
  ((by kernel_rfl)))

theorem s33a6p3 : D33 rec n c33x6 x0 (retK CF Try.f33) = D33 rec n c33x14 x0 (K2 (s33a7 rec n) 0 5) :=
  congrArg (fun k => D33 rec n c33x14 x0 k) (s33a7e rec n)

theorem s33a6e : D33 rec n c33x6 x0 (retK CF Try.f33) = (K1 (s33a6 rec n) 0) :=
  (s33a6p3 rec n).trans
  ((by kernel_rfl))

theorem s33a12be (kk12 : TT3) : D33 rec n c33x18 (xs x0 0 (K1 (s33a6 rec n) 0)) (K3 kk12 0 3 4) = (K3 (s33a12b rec n kk12) 0 3 4) :=
  (by kernel_rfl)

theorem s33a12le (m : Nat) : loopN (fun kk => D33 rec n c33x18 (xs x0 0 (K1 (s33a6 rec n) 0)) kk) m = (K3 (s33a12l rec n m) 0 3 4) := by
  induction m with
  | zero => exact (by kernel_rfl : loopN (fun kk => D33 rec n c33x18 (xs x0 0 (K1 (s33a6 rec n) 0)) kk) 0 = (K3 (s33a12l rec n 0) 0 3 4))
  | succ m ih =>
    refine (by kernel_rfl : loopN (fun kk => D33 rec n c33x18 (xs x0 0 (K1 (s33a6 rec n) 0)) kk) (m + 1) = D33 rec n c33x18 (xs x0 0 (K1 (s33a6 rec n) 0)) (loopN (fun kk => D33 rec n c33x18 (xs x0 0 (K1 (s33a6 rec n) 0)) kk) m)).trans ?_
    rw [ih]
    exact (s33a12be rec n (s33a12l rec n m)).trans (by kernel_rfl)

theorem s33a12e : D33 rec n c33x17 (xs x0 0 (K1 (s33a6 rec n) 0)) (K1 (s33a6 rec n) 0) = (K3 (s33a12 rec n) 0 3 4) :=
  (by kernel_rfl : D33 rec n c33x17 (xs x0 0 (K1 (s33a6 rec n) 0)) (K1 (s33a6 rec n) 0) = loopN (fun kk => D33 rec n c33x18 (xs x0 0 (K1 (s33a6 rec n) 0)) kk) n).trans ((s33a12le rec n n).trans (by kernel_rfl))

theorem s33a11e : D33 rec n c33x16 x0 (K1 (s33a6 rec n) 0) = (K3 (s33a11 rec n) 0 3 4) :=
  (by kernel_rfl : D33 rec n c33x16 x0 (K1 (s33a6 rec n) 0) = D33 rec n c33x17 (xs x0 0 (K1 (s33a6 rec n) 0)) (K1 (s33a6 rec n) 0)).trans
  ((s33a12e rec n).trans (by kernel_rfl))

theorem s33a5p4 : D33 rec n c33x5 x0 (retK CF Try.f33) = D33 rec n c33x15 x0 (K1 (s33a6 rec n) 0) :=
  congrArg (fun k => D33 rec n c33x15 x0 k) (s33a6e rec n)

theorem s33a5p5 : D33 rec n c33x15 x0 (K1 (s33a6 rec n) 0) = D33 rec n c33x19 x0 (K3 (s33a11 rec n) 0 3 4) :=
  congrArg (fun k => D33 rec n c33x19 x0 k) (s33a11e rec n)

theorem s33a5e : D33 rec n c33x5 x0 (retK CF Try.f33) = (K2 (s33a5 rec n) 0 3) :=
  (s33a5p4 rec n).trans
  ((s33a5p5 rec n).trans
  ((by kernel_rfl)))

theorem s33a4p6 : D33 rec n c33x4 x0 (retK CF Try.f33) = D33 rec n c33x20 x0 (K2 (s33a5 rec n) 0 3) :=
  congrArg (fun k => D33 rec n c33x20 x0 k) (s33a5e rec n)

theorem s33a4e : D33 rec n c33x4 x0 (retK CF Try.f33) = (K1 (s33a4 rec n) 0) :=
  (s33a4p6 rec n).trans
  ((by kernel_rfl))

theorem s33a3p7 : D33 rec n c33x3 x0 (retK CF Try.f33) = D33 rec n c33x21 x0 (K1 (s33a4 rec n) 0) :=
  congrArg (fun k => D33 rec n c33x21 x0 k) (s33a4e rec n)

theorem s33a3e : D33 rec n c33x3 x0 (retK CF Try.f33) = (K1 (s33a3 rec n) 0) :=
  (s33a3p7 rec n).trans
  ((by kernel_rfl))

theorem s33a2p8 : D33 rec n c33x2 x0 (retK CF Try.f33) = D33 rec n c33x22 x0 (K1 (s33a3 rec n) 0) :=
  congrArg (fun k => D33 rec n c33x22 x0 k) (s33a3e rec n)

theorem s33a2e : D33 rec n c33x2 x0 (retK CF Try.f33) = (K1 (s33a2 rec n) 0) :=
  (s33a2p8 rec n).trans
  ((by kernel_rfl))

theorem s33a1p9 : D33 rec n c33x1 x0 (retK CF Try.f33) = D33 rec n c33x23 x0 (K1 (s33a2 rec n) 0) :=
  congrArg (fun k => D33 rec n c33x23 x0 k) (s33a2e rec n)

theorem s33a1e : D33 rec n c33x1 x0 (retK CF Try.f33) = (K1 (s33a1 rec n) 0) :=
  (s33a1p9 rec n).trans
  ((by kernel_rfl))

theorem s33p10 : D33 rec n c33 x0 (retK CF Try.f33) = D33 rec n c33x24 x0 (K1 (s33a1 rec n) 0) :=
  congrArg (fun k => D33 rec n c33x24 x0 k) (s33a1e rec n)

theorem s33m : D33 rec n c33 x0 (retK CF Try.f33) = (K1 (s33 rec n) 0) :=
  (s33p10 rec n).trans
  ((by kernel_rfl))

theorem s33ok (args : List DV) (h : Hp) : bodyD CF rec n 33 args h = s33 rec n (args.getD 0 undefD) h :=
  (by kernel_rfl : bodyD CF rec n 33 args h = D33 rec n c33 x0 (retK CF Try.f33) (argsE args) h).trans ((congrFun (congrFun (s33m rec n) (argsE args)) h).trans (by kernel_rfl))

/-- vivariumref06.at -/
noncomputable def s34 (rec : RT) (n : Nat) (x0 x1 : DV) (h0 : Hp) : Res :=
  bnd (pLenS x0 h0) fun v1 h1 =>
  bnd (pInt .geq x1 v1 h1) fun v2 h2 =>
  ifD v2 (
    some ((.i .i64 (Int.negSucc 0)), h2)) (
    bnd (pIndexS x0 x1 h2) fun v3 h3 =>
    bnd (rec 33 [v3] h3) fun v4 h4 =>
    some (v4, h4))

noncomputable abbrev c34 : Code := cf Try.f34

noncomputable def D34 (rec : RT) (n : Nat) (c : Code) (X : Nat → K) (k : K) : K := codeD CF rec 13 n c X (retK CF Try.f34) k

theorem s34m : D34 rec n c34 x0 (retK CF Try.f34) = (K2 (s34 rec n) 0 1) :=
  (by kernel_rfl)

theorem s34ok (args : List DV) (h : Hp) : bodyD CF rec n 34 args h = s34 rec n (args.getD 0 undefD) (args.getD 1 undefD) h :=
  (by kernel_rfl : bodyD CF rec n 34 args h = D34 rec n c34 x0 (retK CF Try.f34) (argsE args) h).trans ((congrFun (congrFun (s34m rec n) (argsE args)) h).trans (by kernel_rfl))

noncomputable def s35a2 (rec : RT) (n : Nat) (x1 : DV) (h0 : Hp) : Res :=
  some (x1, h0)

noncomputable def s35a3b (rec : RT) (n : Nat) (kk3 : TT2) (x0 x1 : DV) (h0 : Hp) : Res :=
    bnd (rec 34 [x0, x1] h0) fun v1 h1 =>
    bnd (pInt .eql v1 (.i .i64 (Int.ofNat 1)) h1) fun v2 h2 =>
    bnd (gD v2 false (some (x0, h2)) h2) fun v3 h3 =>
    bnd (gD v2 false (some (x1, h3)) h3) fun v4 h4 =>
    bnd (gD v2 false (rec 34 [v3, v4] h4) h4) fun v5 h5 =>
    bnd (gD v2 false (pInt .eql v5 (.i .i64 (Int.ofNat 2)) h5) h5) fun v6 h6 =>
    bnd (pPick v2 (.b true) v6 h6) fun v7 h7 =>
    ifD v7 (
      bnd (pInt .add x1 (.i .i64 (Int.ofNat 1)) h7) fun v8 h8 =>
      kk3 x0 v8 h8) (
      s35a2 rec n x1 h7)

noncomputable def s35a3l (rec : RT) (n : Nat) (m : Nat) : TT2 :=
  Nat.rec (motive := fun _ => TT2) (fun _ _ _ => none) (fun _ ih => s35a3b rec n ih) m

noncomputable def s35a3 (rec : RT) (n : Nat) : TT2 := s35a3l rec n n

noncomputable def s35a1 (rec : RT) (n : Nat) (x0 x1 : DV) (h0 : Hp) : Res :=
  s35a3 rec n x0 x1 h0

/-- vivariumref06.nameEnd -/
noncomputable def s35 (rec : RT) (n : Nat) (x0 x1 : DV) (h0 : Hp) : Res :=
  s35a1 rec n x0 x1 h0

noncomputable abbrev c35 : Code := cf Try.f35
noncomputable abbrev c35x1 : Code := cR c35
noncomputable abbrev c35x2 : Code := cR c35x1
noncomputable abbrev c35x3 : Code := cL c35x1
noncomputable abbrev c35x4 : Code := cL c35x3
noncomputable abbrev c35x5 : Code := cL c35x4
noncomputable abbrev c35x6 : Code := cL c35

noncomputable def D35 (rec : RT) (n : Nat) (c : Code) (X : Nat → K) (k : K) : K := codeD CF rec 18 n c X (retK CF Try.f35) k

theorem s35a2e : D35 rec n c35x2 x0 (retK CF Try.f35) = (K1 (s35a2 rec n) 1) :=
  (by kernel_rfl)

theorem s35a3be (kk3 : TT2) : D35 rec n c35x5 (xs x0 0 (K1 (s35a2 rec n) 1)) (K2 kk3 0 1) = (K2 (s35a3b rec n kk3) 0 1) :=
  (by kernel_rfl)

theorem s35a3le (m : Nat) : loopN (fun kk => D35 rec n c35x5 (xs x0 0 (K1 (s35a2 rec n) 1)) kk) m = (K2 (s35a3l rec n m) 0 1) := by
  induction m with
  | zero => exact (by kernel_rfl : loopN (fun kk => D35 rec n c35x5 (xs x0 0 (K1 (s35a2 rec n) 1)) kk) 0 = (K2 (s35a3l rec n 0) 0 1))
  | succ m ih =>
    refine (by kernel_rfl : loopN (fun kk => D35 rec n c35x5 (xs x0 0 (K1 (s35a2 rec n) 1)) kk) (m + 1) = D35 rec n c35x5 (xs x0 0 (K1 (s35a2 rec n) 1)) (loopN (fun kk => D35 rec n c35x5 (xs x0 0 (K1 (s35a2 rec n) 1)) kk) m)).trans ?_
    rw [ih]
    exact (s35a3be rec n (s35a3l rec n m)).trans (by kernel_rfl)

theorem s35a3e : D35 rec n c35x4 (xs x0 0 (K1 (s35a2 rec n) 1)) (K1 (s35a2 rec n) 1) = (K2 (s35a3 rec n) 0 1) :=
  (by kernel_rfl : D35 rec n c35x4 (xs x0 0 (K1 (s35a2 rec n) 1)) (K1 (s35a2 rec n) 1) = loopN (fun kk => D35 rec n c35x5 (xs x0 0 (K1 (s35a2 rec n) 1)) kk) n).trans ((s35a3le rec n n).trans (by kernel_rfl))

theorem s35a1p1 : D35 rec n c35x1 x0 (retK CF Try.f35) = D35 rec n c35x3 x0 (K1 (s35a2 rec n) 1) :=
  congrArg (fun k => D35 rec n c35x3 x0 k) (s35a2e rec n)

theorem s35a1e : D35 rec n c35x1 x0 (retK CF Try.f35) = (K2 (s35a1 rec n) 0 1) :=
  (s35a1p1 rec n).trans
  ((by kernel_rfl : D35 rec n c35x3 x0 (K1 (s35a2 rec n) 1) = D35 rec n c35x4 (xs x0 0 (K1 (s35a2 rec n) 1)) (K1 (s35a2 rec n) 1)).trans
  ((s35a3e rec n).trans (by kernel_rfl)))

theorem s35p2 : D35 rec n c35 x0 (retK CF Try.f35) = D35 rec n c35x6 x0 (K2 (s35a1 rec n) 0 1) :=
  congrArg (fun k => D35 rec n c35x6 x0 k) (s35a1e rec n)

theorem s35m : D35 rec n c35 x0 (retK CF Try.f35) = (K2 (s35 rec n) 0 1) :=
  (s35p2 rec n).trans
  ((by kernel_rfl))

theorem s35ok (args : List DV) (h : Hp) : bodyD CF rec n 35 args h = s35 rec n (args.getD 0 undefD) (args.getD 1 undefD) h :=
  (by kernel_rfl : bodyD CF rec n 35 args h = D35 rec n c35 x0 (retK CF Try.f35) (argsE args) h).trans ((congrFun (congrFun (s35m rec n) (argsE args)) h).trans (by kernel_rfl))

/-- vivariumref06.colon -/
noncomputable def s36 (rec : RT) (n : Nat) (x0 x1 : DV) (h0 : Hp) : Res :=
  bnd (pLenS x0 h0) fun v1 h1 =>
  bnd (pInt .lss x1 v1 h1) fun v2 h2 =>
  bnd (gD v2 true (some (x0, h2)) h2) fun v3 h3 =>
  bnd (gD v2 true (some (x1, h3)) h3) fun v4 h4 =>
  bnd (gD v2 true (pIndexS v3 v4 h4) h4) fun v5 h5 =>
  bnd (gD v2 true (pInt .eql v5 (.i .u8 (Int.ofNat 58)) h5) h5) fun v6 h6 =>
  bnd (pPick v2 v6 (.b false) h6) fun v7 h7 =>
  bnd (gD v7 true (some (x1, h7)) h7) fun v8 h8 =>
  bnd (gD v7 true (pInt .add v8 (.i .i64 (Int.ofNat 1)) h8) h8) fun v9 h9 =>
  bnd (gD v7 true (some (x0, h9)) h9) fun v10 h10 =>
  bnd (gD v7 true (pLenS v10 h10) h10) fun v11 h11 =>
  bnd (gD v7 true (pInt .lss v9 v11 h11) h11) fun v12 h12 =>
  bnd (gD v7 true (some (v12, h12)) h12) fun v13 h13 =>
  bnd (gD v13 true (some (x0, h13)) h13) fun v14 h14 =>
  bnd (gD v13 true (some (x1, h14)) h14) fun v15 h15 =>
  bnd (gD v13 true (pInt .add v15 (.i .i64 (Int.ofNat 1)) h15) h15) fun v16 h16 =>
  bnd (gD v13 true (pIndexS v14 v16 h16) h16) fun v17 h17 =>
  bnd (gD v13 true (pInt .eql v17 (.i .u8 (Int.ofNat 61)) h17) h17) fun v18 h18 =>
  bnd (gD v7 true (pPick v13 v18 (.b false) h18) h18) fun v19 h19 =>
  bnd (gD v7 true (pUn .not v19 h19) h19) fun v20 h20 =>
  bnd (pPick v7 v20 (.b false) h20) fun v21 h21 =>
  some (v21, h21)

noncomputable abbrev c36 : Code := cf Try.f36

noncomputable def D36 (rec : RT) (n : Nat) (c : Code) (X : Nat → K) (k : K) : K := codeD CF rec 30 n c X (retK CF Try.f36) k

theorem s36m : D36 rec n c36 x0 (retK CF Try.f36) = (K2 (s36 rec n) 0 1) :=
  (by kernel_rfl)

theorem s36ok (args : List DV) (h : Hp) : bodyD CF rec n 36 args h = s36 rec n (args.getD 0 undefD) (args.getD 1 undefD) h :=
  (by kernel_rfl : bodyD CF rec n 36 args h = D36 rec n c36 x0 (retK CF Try.f36) (argsE args) h).trans ((congrFun (congrFun (s36m rec n) (argsE args)) h).trans (by kernel_rfl))

noncomputable def s37a3 (rec : RT) (n : Nat) (x3 x4 : DV) (h0 : Hp) : Res :=
  bnd (pLoadA 4 x3 h0) fun v1 h1 =>
  bnd (pStore 4 x4 v1 h1) fun _ h2 =>
  bnd (pLoadA 4 x4 h2) fun v3 _ =>
  some (.t [v3, (.i .i64 (Int.ofNat 0)), (.i .i64 (Int.ofNat 11))], h2)

noncomputable def s37a4b (rec : RT) (n : Nat) (kk4 : TT4) (x0 x3 x4 x7 : DV) (h0 : Hp) : Res :=
    bnd (pLenS x0 h0) fun v7 h7 =>
    bnd (pInt .lss x7 v7 h7) fun v8 h8 =>
    ifD v8 (
      bnd (pIndexS x0 x7 h8) fun v9 h9 =>
      bnd (pInt .neq v9 (.i .u8 (Int.ofNat 39)) h9) fun v10 h10 =>
      ifD v10 (
        bnd (pField 1 x3 h10) fun v11 h11 =>
        bnd (pLoad1 v11 h11) fun v12 h12 =>
        bnd (pInt .add x7 (.i .i64 (Int.ofNat 1)) h12) fun v13 h13 =>
        bnd (pSliceS x0 (some x7) (some v13) h13) fun v14 h14 =>
        bnd (pStr .add v12 v14 h14) fun v15 h15 =>
        bnd (pField 1 x3 h15) fun v16 h16 =>
        bnd (pStore 1 v16 v15 h16) fun v17 h17 =>
        bnd (pInt .add x7 (.i .i64 (Int.ofNat 1)) h17) fun v18 h18 =>
        kk4 x0 x3 x4 v18 h18) (
        bnd (pInt .add x7 (.i .i64 (Int.ofNat 1)) h10) fun v19 h19 =>
        bnd (pLenS x0 h19) fun v20 h20 =>
        bnd (pInt .lss v19 v20 h20) fun v21 h21 =>
        bnd (gD v21 true (some (x0, h21)) h21) fun v22 h22 =>
        bnd (gD v21 true (some (x7, h22)) h22) fun v23 h23 =>
        bnd (gD v21 true (pInt .add v23 (.i .i64 (Int.ofNat 1)) h23) h23) fun v24 h24 =>
        bnd (gD v21 true (pIndexS v22 v24 h24) h24) fun v25 h25 =>
        bnd (gD v21 true (pInt .eql v25 (.i .u8 (Int.ofNat 39)) h25) h25) fun v26 h26 =>
        bnd (pPick v21 v26 (.b false) h26) fun v27 h27 =>
        ifD v27 (
          bnd (pField 1 x3 h27) fun v28 h28 =>
          bnd (pLoad1 v28 h28) fun v29 h29 =>
          bnd (pStr .add v29 (.s [39]) h29) fun v30 h30 =>
          bnd (pField 1 x3 h30) fun v31 h31 =>
          bnd (pStore 1 v31 v30 h31) fun _ h32 =>
          bnd (pInt .add x7 (.i .i64 (Int.ofNat 2)) h32) fun v33 h33 =>
          kk4 x0 x3 x4 v33 h33) (
          bnd (pLoadA 4 x3 h27) fun v34 h34 =>
          bnd (pInt .add x7 (.i .i64 (Int.ofNat 1)) h34) fun v35 h35 =>
          bnd (pStore 4 x4 v34 h35) fun _ h36 =>
          bnd (pLoadA 4 x4 h36) fun v37 _ =>
          some (.t [v37, v35, (.i .i64 (Int.ofNat 0))], h36)))) (
      s37a3 rec n x3 x4 h8)

noncomputable def s37a4l (rec : RT) (n : Nat) (m : Nat) : TT4 :=
  Nat.rec (motive := fun _ => TT4) (fun _ _ _ _ _ => none) (fun _ ih => s37a4b rec n ih) m

noncomputable def s37a4 (rec : RT) (n : Nat) : TT4 := s37a4l rec n n

noncomputable def s37a2 (rec : RT) (n : Nat) (x0 x3 x4 x7 : DV) (h0 : Hp) : Res :=
  s37a4 rec n x0 x3 x4 x7 h0

noncomputable def s37a1 (rec : RT) (n : Nat) (x0 x3 x4 : DV) (h0 : Hp) : Res :=
  bnd (pField 3 x3 h0) fun v69 h69 =>
  bnd (pLoad1 v69 h69) fun v70 h70 =>
  bnd (pInt .add v70 (.i .i64 (Int.ofNat 1)) h70) fun v71 h71 =>
  s37a2 rec n x0 x3 x4 v71 h71

/-- vivariumref06.text -/
noncomputable def s37 (rec : RT) (n : Nat) (x0 x1 : DV) (h0 : Hp) : Res :=
  bnd (pBox x1 h0) fun v75 h75 =>
  bnd (pNew [(.i .i64 (Int.ofNat 0)), (.s []), (.i .i64 (Int.ofNat 0)), (.i .i64 (Int.ofNat 0))] h75) fun v76 h76 =>
  s37a1 rec n x0 v75 v76 h76

noncomputable abbrev c37 : Code := cf Try.f37
noncomputable abbrev c37x1 : Code := cR c37
noncomputable abbrev c37x2 : Code := cR c37x1
noncomputable abbrev c37x3 : Code := cR c37x2
noncomputable abbrev c37x4 : Code := cL c37x2
noncomputable abbrev c37x5 : Code := cL c37x4
noncomputable abbrev c37x6 : Code := cL c37x5
noncomputable abbrev c37x7 : Code := cL c37x1
noncomputable abbrev c37x8 : Code := cL c37

noncomputable def D37 (rec : RT) (n : Nat) (c : Code) (X : Nat → K) (k : K) : K := codeD CF rec 52 n c X (retK CF Try.f37) k

theorem s37a3e : D37 rec n c37x3 x0 (retK CF Try.f37) = (K2 (s37a3 rec n) 3 4) :=
  (by kernel_rfl)

theorem s37a4be (kk4 : TT4) : D37 rec n c37x6 (xs x0 0 (K2 (s37a3 rec n) 3 4)) (K4 kk4 0 3 4 7) = (K4 (s37a4b rec n kk4) 0 3 4 7) :=
  (by kernel_rfl)

theorem s37a4le (m : Nat) : loopN (fun kk => D37 rec n c37x6 (xs x0 0 (K2 (s37a3 rec n) 3 4)) kk) m = (K4 (s37a4l rec n m) 0 3 4 7) := by
  induction m with
  | zero => exact (by kernel_rfl : loopN (fun kk => D37 rec n c37x6 (xs x0 0 (K2 (s37a3 rec n) 3 4)) kk) 0 = (K4 (s37a4l rec n 0) 0 3 4 7))
  | succ m ih =>
    refine (by kernel_rfl : loopN (fun kk => D37 rec n c37x6 (xs x0 0 (K2 (s37a3 rec n) 3 4)) kk) (m + 1) = D37 rec n c37x6 (xs x0 0 (K2 (s37a3 rec n) 3 4)) (loopN (fun kk => D37 rec n c37x6 (xs x0 0 (K2 (s37a3 rec n) 3 4)) kk) m)).trans ?_
    rw [ih]
    exact (s37a4be rec n (s37a4l rec n m)).trans (by kernel_rfl)

theorem s37a4e : D37 rec n c37x5 (xs x0 0 (K2 (s37a3 rec n) 3 4)) (K2 (s37a3 rec n) 3 4) = (K4 (s37a4 rec n) 0 3 4 7) :=
  (by kernel_rfl : D37 rec n c37x5 (xs x0 0 (K2 (s37a3 rec n) 3 4)) (K2 (s37a3 rec n) 3 4) = loopN (fun kk => D37 rec n c37x6 (xs x0 0 (K2 (s37a3 rec n) 3 4)) kk) n).trans ((s37a4le rec n n).trans (by kernel_rfl))

theorem s37a2p1 : D37 rec n c37x2 x0 (retK CF Try.f37) = D37 rec n c37x4 x0 (K2 (s37a3 rec n) 3 4) :=
  congrArg (fun k => D37 rec n c37x4 x0 k) (s37a3e rec n)

theorem s37a2e : D37 rec n c37x2 x0 (retK CF Try.f37) = (K4 (s37a2 rec n) 0 3 4 7) :=
  (s37a2p1 rec n).trans
  ((by kernel_rfl : D37 rec n c37x4 x0 (K2 (s37a3 rec n) 3 4) = D37 rec n c37x5 (xs x0 0 (K2 (s37a3 rec n) 3 4)) (K2 (s37a3 rec n) 3 4)).trans
  ((s37a4e rec n).trans (by kernel_rfl)))

theorem s37a1p2 : D37 rec n c37x1 x0 (retK CF Try.f37) = D37 rec n c37x7 x0 (K4 (s37a2 rec n) 0 3 4 7) :=
  congrArg (fun k => D37 rec n c37x7 x0 k) (s37a2e rec n)

theorem s37a1e : D37 rec n c37x1 x0 (retK CF Try.f37) = (K3 (s37a1 rec n) 0 3 4) :=
  (s37a1p2 rec n).trans
  ((by kernel_rfl))

theorem s37p3 : D37 rec n c37 x0 (retK CF Try.f37) = D37 rec n c37x8 x0 (K3 (s37a1 rec n) 0 3 4) :=
  congrArg (fun k => D37 rec n c37x8 x0 k) (s37a1e rec n)

theorem s37q4 (q0 : TT3) : D37 rec n c37x8 x0 (K3 q0 0 3 4) = fun (env : Env) (h : Hp) =>
    bnd (pBox (env 1) h) fun v79 h79 =>
    bnd (pNew [(.i .i64 (Int.ofNat 0)), (.s []), (.i .i64 (Int.ofNat 0)), (.i .i64 (Int.ofNat 0))] h79) fun v80 h80 =>
    q0 (env 0) v79 v80 h80 := by kernel_rfl

theorem s37q4u : (fun (env : Env) (h : Hp) =>
    bnd (pBox (env 1) h) fun v81 h81 =>
    bnd (pNew [(.i .i64 (Int.ofNat 0)), (.s []), (.i .i64 (Int.ofNat 0)), (.i .i64 (Int.ofNat 0))] h81) fun v82 h82 =>
    s37a1 rec n (env 0) v81 v82 h82) = (K2 (s37 rec n) 0 1) := by kernel_rfl

theorem s37m : D37 rec n c37 x0 (retK CF Try.f37) = (K2 (s37 rec n) 0 1) :=
  (s37p3 rec n).trans
  ((s37q4 rec n (s37a1 rec n)).trans (s37q4u rec n))

theorem s37ok (args : List DV) (h : Hp) : bodyD CF rec n 37 args h = s37 rec n (args.getD 0 undefD) (args.getD 1 undefD) h :=
  (by kernel_rfl : bodyD CF rec n 37 args h = D37 rec n c37 x0 (retK CF Try.f37) (argsE args) h).trans ((congrFun (congrFun (s37m rec n) (argsE args)) h).trans (by kernel_rfl))

end Go.Dd

/- Dd, part Q3 (printed by gen.py): functions of the seat's program as Lean functions, linked to Dd. -/
set_option linter.unusedVariables false
set_option maxRecDepth 100000
namespace Go.Dd
open Go.Proofs

variable (rec : RT) (n : Nat)

noncomputable def s38a9 (rec : RT) (n : Nat) (x0 x3 x4 x7 x9 : DV) (h0 : Hp) : Res :=
  bnd (pSliceS x0 (some x7) (some x9) h0) fun v1 h1 =>
  bnd (pField 1 x3 h1) fun v2 h2 =>
  bnd (pStore 1 v2 v1 h2) fun _ h3 =>
  bnd (pLoadA 4 x3 h3) fun v4 h4 =>
  bnd (pStore 4 x4 v4 h4) fun _ h5 =>
  bnd (pLoadA 4 x4 h5) fun v6 _ =>
  some (.t [v6, x9, (.i .i64 (Int.ofNat 0))], h5)

noncomputable def s38a10b (rec : RT) (n : Nat) (kk10 : TT5) (x0 x3 x4 x7 x9 : DV) (h0 : Hp) : Res :=
    bnd (rec 36 [x0, x9] h0) fun v13 h13 =>
    ifD v13 (
      bnd (pInt .add x9 (.i .i64 (Int.ofNat 1)) h13) fun v14 h14 =>
      bnd (rec 34 [x0, v14] h14) fun v15 h15 =>
      bnd (pInt .neq v15 (.i .i64 (Int.ofNat 1)) h15) fun v16 h16 =>
      ifD v16 (
        s38a9 rec n x0 x3 x4 x7 v14 h16) (
        bnd (rec 35 [x0, v14] h16) fun v17 h17 =>
        bnd (rec 36 [x0, v17] h17) fun v18 h18 =>
        bnd (pUn .not v18 h18) fun v19 h19 =>
        ifD v19 (
          s38a9 rec n x0 x3 x4 x7 v14 h19) (
          bnd (pInt .sub v17 v14 h19) fun v20 h20 =>
          bnd (pInt .gtr v20 (.i .i64 (Int.ofNat 24)) h20) fun v21 h21 =>
          ifD v21 (
            bnd (pLoadA 4 x3 h21) fun v22 h22 =>
            bnd (pStore 4 x4 v22 h22) fun _ h23 =>
            bnd (pLoadA 4 x4 h23) fun v24 _ =>
            some (.t [v24, (.i .i64 (Int.ofNat 0)), (.i .i64 (Int.ofNat 12))], h23)) (
            kk10 x0 x3 x4 x7 v17 h21)))) (
      s38a9 rec n x0 x3 x4 x7 x9 h13)

noncomputable def s38a10l (rec : RT) (n : Nat) (m : Nat) : TT5 :=
  Nat.rec (motive := fun _ => TT5) (fun _ _ _ _ _ _ => none) (fun _ ih => s38a10b rec n ih) m

noncomputable def s38a10 (rec : RT) (n : Nat) : TT5 := s38a10l rec n n

noncomputable def s38a8 (rec : RT) (n : Nat) (x0 x3 x4 x7 x9 : DV) (h0 : Hp) : Res :=
  s38a10 rec n x0 x3 x4 x7 x9 h0

noncomputable def s38a7 (rec : RT) (n : Nat) (x0 x3 x4 x7 x9 : DV) (h0 : Hp) : Res :=
  bnd (pInt .sub x9 x7 h0) fun v37 h37 =>
  bnd (pInt .gtr v37 (.i .i64 (Int.ofNat 24)) h37) fun v38 h38 =>
  ifD v38 (
    bnd (pLoadA 4 x3 h38) fun v39 h39 =>
    bnd (pStore 4 x4 v39 h39) fun _ h40 =>
    bnd (pLoadA 4 x4 h40) fun v41 _ =>
    some (.t [v41, (.i .i64 (Int.ofNat 0)), (.i .i64 (Int.ofNat 12))], h40)) (
    s38a8 rec n x0 x3 x4 x7 x9 h38)

noncomputable def s38a6 (rec : RT) (n : Nat) (x0 x3 x4 x7 : DV) (h0 : Hp) : Res :=
  bnd (rec 35 [x0, x7] h0) fun v47 h47 =>
  s38a7 rec n x0 x3 x4 x7 v47 h47

noncomputable def s38a5 (rec : RT) (n : Nat) (x0 x3 x4 x7 : DV) (h0 : Hp) : Res :=
  bnd (rec 34 [x0, x7] h0) fun v49 h49 =>
  bnd (pInt .neq v49 (.i .i64 (Int.ofNat 1)) h49) fun v50 h50 =>
  ifD v50 (
    bnd (pLoadA 4 x3 h50) fun v51 h51 =>
    bnd (pStore 4 x4 v51 h51) fun _ h52 =>
    bnd (pLoadA 4 x4 h52) fun v53 _ =>
    some (.t [v53, (.i .i64 (Int.ofNat 0)), (.i .i64 (Int.ofNat 10))], h52)) (
    s38a6 rec n x0 x3 x4 x7 h50)

noncomputable def s38a14 (rec : RT) (n : Nat) (x0 x3 x4 x7 x8 : DV) (h0 : Hp) : Res :=
  bnd (pSliceS x0 (some x7) (some x8) h0) fun v59 h59 =>
  bnd (pField 1 x3 h59) fun v60 h60 =>
  bnd (pStore 1 v60 v59 h60) fun _ h61 =>
  bnd (pLoadA 4 x3 h61) fun v62 h62 =>
  bnd (pStore 4 x4 v62 h62) fun _ h63 =>
  bnd (pLoadA 4 x4 h63) fun v64 _ =>
  some (.t [v64, x8, (.i .i64 (Int.ofNat 0))], h63)

noncomputable def s38a13 (rec : RT) (n : Nat) (x0 x3 x4 x7 x8 : DV) (h0 : Hp) : Res :=
  bnd (rec 34 [x0, x8] h0) fun v71 h71 =>
  bnd (pInt .eql v71 (.i .i64 (Int.ofNat 3)) h71) fun v72 h72 =>
  ifD v72 (
    bnd (pInt .add x8 (.i .i64 (Int.ofNat 1)) h72) fun v73 h73 =>
    s38a14 rec n x0 x3 x4 x7 v73 h73) (
    s38a14 rec n x0 x3 x4 x7 x8 h72)

noncomputable def s38a12 (rec : RT) (n : Nat) (x0 x3 x4 x7 : DV) (h0 : Hp) : Res :=
  bnd (pInt .add x7 (.i .i64 (Int.ofNat 1)) h0) fun v77 h77 =>
  s38a13 rec n x0 x3 x4 x7 v77 h77

noncomputable def s38a11 (rec : RT) (n : Nat) (x0 x3 x4 x7 x32 : DV) (h0 : Hp) : Res :=
  ifD x32 (
    s38a12 rec n x0 x3 x4 x7 h0) (
    s38a5 rec n x0 x3 x4 x7 h0)

noncomputable def s38a4 (rec : RT) (n : Nat) (x0 x3 x4 x7 : DV) (h0 : Hp) : Res :=
  bnd (rec 34 [x0, x7] h0) fun v79 h79 =>
  bnd (pInt .eql v79 (.i .i64 (Int.ofNat 3)) h79) fun v80 h80 =>
  s38a11 rec n x0 x3 x4 x7 v80 h80

noncomputable def s38a3 (rec : RT) (n : Nat) (x0 x3 x4 x7 : DV) (h0 : Hp) : Res :=
  bnd (pField 0 x3 h0) fun v83 h83 =>
  bnd (pStore 1 v83 (.i .i64 (Int.ofNat 6)) h83) fun _ h84 =>
  s38a4 rec n x0 x3 x4 x7 h84

noncomputable def s38a2 (rec : RT) (n : Nat) (x0 x3 x4 x7 : DV) (h0 : Hp) : Res :=
  bnd (pLenS x0 h0) fun v87 h87 =>
  bnd (pInt .lss x7 v87 h87) fun v88 h88 =>
  bnd (gD v88 true (some (x0, h88)) h88) fun v89 h89 =>
  bnd (gD v88 true (some (x7, h89)) h89) fun v90 h90 =>
  bnd (gD v88 true (pIndexS v89 v90 h90) h90) fun v91 h91 =>
  bnd (gD v88 true (pInt .eql v91 (.i .u8 (Int.ofNat 40)) h91) h91) fun v92 h92 =>
  bnd (pPick v88 v92 (.b false) h92) fun v93 h93 =>
  ifD v93 (
    bnd (pField 0 x3 h93) fun v94 h94 =>
    bnd (pStore 1 v94 (.i .i64 (Int.ofNat 7)) h94) fun _ h95 =>
    bnd (pLoadA 4 x3 h95) fun v96 h96 =>
    bnd (pInt .add x7 (.i .i64 (Int.ofNat 1)) h96) fun v97 h97 =>
    bnd (pStore 4 x4 v96 h97) fun _ h98 =>
    bnd (pLoadA 4 x4 h98) fun v99 _ =>
    some (.t [v99, v97, (.i .i64 (Int.ofNat 0))], h98)) (
    s38a3 rec n x0 x3 x4 x7 h93)

noncomputable def s38a1 (rec : RT) (n : Nat) (x0 x3 x4 : DV) (h0 : Hp) : Res :=
  bnd (pField 3 x3 h0) fun v113 h113 =>
  bnd (pLoad1 v113 h113) fun v114 h114 =>
  bnd (pInt .add v114 (.i .i64 (Int.ofNat 1)) h114) fun v115 h115 =>
  s38a2 rec n x0 x3 x4 v115 h115

/-- vivariumref06.symbol -/
noncomputable def s38 (rec : RT) (n : Nat) (x0 x1 : DV) (h0 : Hp) : Res :=
  bnd (pBox x1 h0) fun v119 h119 =>
  bnd (pNew [(.i .i64 (Int.ofNat 0)), (.s []), (.i .i64 (Int.ofNat 0)), (.i .i64 (Int.ofNat 0))] h119) fun v120 h120 =>
  s38a1 rec n x0 v119 v120 h120

noncomputable abbrev c38 : Code := cf Try.f38
noncomputable abbrev c38x1 : Code := cR c38
noncomputable abbrev c38x2 : Code := cR c38x1
noncomputable abbrev c38x3 : Code := cR c38x2
noncomputable abbrev c38x4 : Code := cR c38x3
noncomputable abbrev c38x5 : Code := cR c38x4
noncomputable abbrev c38x6 : Code := cR c38x5
noncomputable abbrev c38x7 : Code := cR c38x6
noncomputable abbrev c38x8 : Code := cR c38x7
noncomputable abbrev c38x9 : Code := cR c38x8
noncomputable abbrev c38x10 : Code := cL c38x8
noncomputable abbrev c38x11 : Code := cL c38x10
noncomputable abbrev c38x12 : Code := cL c38x11
noncomputable abbrev c38x13 : Code := cL c38x7
noncomputable abbrev c38x14 : Code := cL c38x6
noncomputable abbrev c38x15 : Code := cL c38x5
noncomputable abbrev c38x16 : Code := cL c38x4
noncomputable abbrev c38x17 : Code := cR c38x16
noncomputable abbrev c38x18 : Code := cL c38x17
noncomputable abbrev c38x19 : Code := cR c38x18
noncomputable abbrev c38x20 : Code := cR c38x19
noncomputable abbrev c38x21 : Code := cL c38x19
noncomputable abbrev c38x22 : Code := cL c38x18
noncomputable abbrev c38x23 : Code := cR c38x17
noncomputable abbrev c38x24 : Code := cL c38x16
noncomputable abbrev c38x25 : Code := cL c38x3
noncomputable abbrev c38x26 : Code := cL c38x2
noncomputable abbrev c38x27 : Code := cL c38x1
noncomputable abbrev c38x28 : Code := cL c38

noncomputable def D38 (rec : RT) (n : Nat) (c : Code) (X : Nat → K) (k : K) : K := codeD CF rec 90 n c X (retK CF Try.f38) k

theorem s38a9e : D38 rec n c38x9 x0 (retK CF Try.f38) = (K5 (s38a9 rec n) 0 3 4 7 9) :=
  (by kernel_rfl)

theorem s38a10be (kk10 : TT5) : D38 rec n c38x12 (xs x0 0 (K5 (s38a9 rec n) 0 3 4 7 9)) (K5 kk10 0 3 4 7 9) = (K5 (s38a10b rec n kk10) 0 3 4 7 9) :=
  (by kernel_rfl)

theorem s38a10le (m : Nat) : loopN (fun kk => D38 rec n c38x12 (xs x0 0 (K5 (s38a9 rec n) 0 3 4 7 9)) kk) m = (K5 (s38a10l rec n m) 0 3 4 7 9) := by
  induction m with
  | zero => exact (by kernel_rfl : loopN (fun kk => D38 rec n c38x12 (xs x0 0 (K5 (s38a9 rec n) 0 3 4 7 9)) kk) 0 = (K5 (s38a10l rec n 0) 0 3 4 7 9))
  | succ m ih =>
    refine (by kernel_rfl : loopN (fun kk => D38 rec n c38x12 (xs x0 0 (K5 (s38a9 rec n) 0 3 4 7 9)) kk) (m + 1) = D38 rec n c38x12 (xs x0 0 (K5 (s38a9 rec n) 0 3 4 7 9)) (loopN (fun kk => D38 rec n c38x12 (xs x0 0 (K5 (s38a9 rec n) 0 3 4 7 9)) kk) m)).trans ?_
    rw [ih]
    exact (s38a10be rec n (s38a10l rec n m)).trans (by kernel_rfl)

theorem s38a10e : D38 rec n c38x11 (xs x0 0 (K5 (s38a9 rec n) 0 3 4 7 9)) (K5 (s38a9 rec n) 0 3 4 7 9) = (K5 (s38a10 rec n) 0 3 4 7 9) :=
  (by kernel_rfl : D38 rec n c38x11 (xs x0 0 (K5 (s38a9 rec n) 0 3 4 7 9)) (K5 (s38a9 rec n) 0 3 4 7 9) = loopN (fun kk => D38 rec n c38x12 (xs x0 0 (K5 (s38a9 rec n) 0 3 4 7 9)) kk) n).trans ((s38a10le rec n n).trans (by kernel_rfl))

theorem s38a8p1 : D38 rec n c38x8 x0 (retK CF Try.f38) = D38 rec n c38x10 x0 (K5 (s38a9 rec n) 0 3 4 7 9) :=
  congrArg (fun k => D38 rec n c38x10 x0 k) (s38a9e rec n)

theorem s38a8e : D38 rec n c38x8 x0 (retK CF Try.f38) = (K5 (s38a8 rec n) 0 3 4 7 9) :=
  (s38a8p1 rec n).trans
  ((by kernel_rfl : D38 rec n c38x10 x0 (K5 (s38a9 rec n) 0 3 4 7 9) = D38 rec n c38x11 (xs x0 0 (K5 (s38a9 rec n) 0 3 4 7 9)) (K5 (s38a9 rec n) 0 3 4 7 9)).trans
  ((s38a10e rec n).trans (by kernel_rfl)))

theorem s38a7p2 : D38 rec n c38x7 x0 (retK CF Try.f38) = D38 rec n c38x13 x0 (K5 (s38a8 rec n) 0 3 4 7 9) :=
  congrArg (fun k => D38 rec n c38x13 x0 k) (s38a8e rec n)

theorem s38a7e : D38 rec n c38x7 x0 (retK CF Try.f38) = (K5 (s38a7 rec n) 0 3 4 7 9) :=
  (s38a7p2 rec n).trans
  ((by kernel_rfl))

theorem s38a6p3 : D38 rec n c38x6 x0 (retK CF Try.f38) = D38 rec n c38x14 x0 (K5 (s38a7 rec n) 0 3 4 7 9) :=
  congrArg (fun k => D38 rec n c38x14 x0 k) (s38a7e rec n)

theorem s38a6e : D38 rec n c38x6 x0 (retK CF Try.f38) = (K4 (s38a6 rec n) 0 3 4 7) :=
  (s38a6p3 rec n).trans
  ((by kernel_rfl))

theorem s38a5p4 : D38 rec n c38x5 x0 (retK CF Try.f38) = D38 rec n c38x15 x0 (K4 (s38a6 rec n) 0 3 4 7) :=
  congrArg (fun k => D38 rec n c38x15 x0 k) (s38a6e rec n)

theorem s38a5e : D38 rec n c38x5 x0 (retK CF Try.f38) = (K4 (s38a5 rec n) 0 3 4 7) :=
  (s38a5p4 rec n).trans
  ((by kernel_rfl))

theorem s38a14e : D38 rec n c38x20 x0 (K4 (s38a5 rec n) 0 3 4 7) = (K5 (s38a14 rec n) 0 3 4 7 8) :=
  (by kernel_rfl)

theorem s38a13p5 : D38 rec n c38x19 x0 (K4 (s38a5 rec n) 0 3 4 7) = D38 rec n c38x21 x0 (K5 (s38a14 rec n) 0 3 4 7 8) :=
  congrArg (fun k => D38 rec n c38x21 x0 k) (s38a14e rec n)

theorem s38a13e : D38 rec n c38x19 x0 (K4 (s38a5 rec n) 0 3 4 7) = (K5 (s38a13 rec n) 0 3 4 7 8) :=
  (s38a13p5 rec n).trans
  ((by kernel_rfl))

theorem s38a12p6 : D38 rec n c38x18 x0 (K4 (s38a5 rec n) 0 3 4 7) = D38 rec n c38x22 x0 (K5 (s38a13 rec n) 0 3 4 7 8) :=
  congrArg (fun k => D38 rec n c38x22 x0 k) (s38a13e rec n)

theorem s38a12e : D38 rec n c38x18 x0 (K4 (s38a5 rec n) 0 3 4 7) = (K4 (s38a12 rec n) 0 3 4 7) :=
  (s38a12p6 rec n).trans
  ((by kernel_rfl))

theorem s38a11e : D38 rec n c38x17 x0 (K4 (s38a5 rec n) 0 3 4 7) = (K5 (s38a11 rec n) 0 3 4 7 32) :=
  (by kernel_rfl : D38 rec n c38x17 x0 (K4 (s38a5 rec n) 0 3 4 7) = (fun (env : Env) (h : Hp) => ifD (opr env (cC c38x17)) (D38 rec n c38x18 x0 (K4 (s38a5 rec n) 0 3 4 7) env h) (D38 rec n c38x23 x0 (K4 (s38a5 rec n) 0 3 4 7) env h))).trans (by rw [s38a12e rec n]; kernel_rfl)

theorem s38a4p7 : D38 rec n c38x4 x0 (retK CF Try.f38) = D38 rec n c38x16 x0 (K4 (s38a5 rec n) 0 3 4 7) :=
  congrArg (fun k => D38 rec n c38x16 x0 k) (s38a5e rec n)

theorem s38a4p8 : D38 rec n c38x16 x0 (K4 (s38a5 rec n) 0 3 4 7) = D38 rec n c38x24 x0 (K5 (s38a11 rec n) 0 3 4 7 32) :=
  congrArg (fun k => D38 rec n c38x24 x0 k) (s38a11e rec n)

theorem s38a4e : D38 rec n c38x4 x0 (retK CF Try.f38) = (K4 (s38a4 rec n) 0 3 4 7) :=
  (s38a4p7 rec n).trans
  ((s38a4p8 rec n).trans
  ((by kernel_rfl)))

theorem s38a3p9 : D38 rec n c38x3 x0 (retK CF Try.f38) = D38 rec n c38x25 x0 (K4 (s38a4 rec n) 0 3 4 7) :=
  congrArg (fun k => D38 rec n c38x25 x0 k) (s38a4e rec n)

theorem s38a3e : D38 rec n c38x3 x0 (retK CF Try.f38) = (K4 (s38a3 rec n) 0 3 4 7) :=
  (s38a3p9 rec n).trans
  ((by kernel_rfl))

theorem s38a2p10 : D38 rec n c38x2 x0 (retK CF Try.f38) = D38 rec n c38x26 x0 (K4 (s38a3 rec n) 0 3 4 7) :=
  congrArg (fun k => D38 rec n c38x26 x0 k) (s38a3e rec n)

theorem s38a2e : D38 rec n c38x2 x0 (retK CF Try.f38) = (K4 (s38a2 rec n) 0 3 4 7) :=
  (s38a2p10 rec n).trans
  ((by kernel_rfl))

theorem s38a1p11 : D38 rec n c38x1 x0 (retK CF Try.f38) = D38 rec n c38x27 x0 (K4 (s38a2 rec n) 0 3 4 7) :=
  congrArg (fun k => D38 rec n c38x27 x0 k) (s38a2e rec n)

theorem s38a1e : D38 rec n c38x1 x0 (retK CF Try.f38) = (K3 (s38a1 rec n) 0 3 4) :=
  (s38a1p11 rec n).trans
  ((by kernel_rfl))

theorem s38p12 : D38 rec n c38 x0 (retK CF Try.f38) = D38 rec n c38x28 x0 (K3 (s38a1 rec n) 0 3 4) :=
  congrArg (fun k => D38 rec n c38x28 x0 k) (s38a1e rec n)

theorem s38q13 (q0 : TT3) : D38 rec n c38x28 x0 (K3 q0 0 3 4) = fun (env : Env) (h : Hp) =>
    bnd (pBox (env 1) h) fun v123 h123 =>
    bnd (pNew [(.i .i64 (Int.ofNat 0)), (.s []), (.i .i64 (Int.ofNat 0)), (.i .i64 (Int.ofNat 0))] h123) fun v124 h124 =>
    q0 (env 0) v123 v124 h124 := by kernel_rfl

theorem s38q13u : (fun (env : Env) (h : Hp) =>
    bnd (pBox (env 1) h) fun v125 h125 =>
    bnd (pNew [(.i .i64 (Int.ofNat 0)), (.s []), (.i .i64 (Int.ofNat 0)), (.i .i64 (Int.ofNat 0))] h125) fun v126 h126 =>
    s38a1 rec n (env 0) v125 v126 h126) = (K2 (s38 rec n) 0 1) := by kernel_rfl

theorem s38m : D38 rec n c38 x0 (retK CF Try.f38) = (K2 (s38 rec n) 0 1) :=
  (s38p12 rec n).trans
  ((s38q13 rec n (s38a1 rec n)).trans (s38q13u rec n))

theorem s38ok (args : List DV) (h : Hp) : bodyD CF rec n 38 args h = s38 rec n (args.getD 0 undefD) (args.getD 1 undefD) h :=
  (by kernel_rfl : bodyD CF rec n 38 args h = D38 rec n c38 x0 (retK CF Try.f38) (argsE args) h).trans ((congrFun (congrFun (s38m rec n) (argsE args)) h).trans (by kernel_rfl))

noncomputable def s39a6b (rec : RT) (n : Nat) (kk6 : TT3) (x0 x1 x4 : DV) (h0 : Hp) : Res :=
    bnd (gD x4 false (some (x0, h0)) h0) fun v23 h23 =>
    bnd (gD x4 false (rec 51 [v23, (.i .i64 (Int.ofNat 2)), (.s [])] h23) h23) fun v24 h24 =>
    bnd (pPick x4 (.b true) v24 h24) fun v25 h25 =>
    ifD v25 (
      bnd (pNil x1 h25) fun v26 h26 =>
      bnd (pField 1 v26 h26) fun v27 h27 =>
      bnd (pLoad1 v27 h27) fun v28 h28 =>
      bnd (rec 32 [x0, (.i .i64 (Int.ofNat 2)), (.s [])] h28) fun v29 h29 =>
      cnd (sameR (pLoad1 v27 h29) v28 && true) (
      bnd (pPart1 1 v29 h29) fun v30 h30 =>
      bnd (pStr .add v28 v30 h30) fun v31 h31 =>
      bnd (pNil x1 h31) fun v32 h32 =>
      bnd (pField 1 v32 h32) fun v33 h33 =>
      bnd (pStore 1 v33 v31 h33) fun v34 h34 =>
      bnd (pNil x1 (resv 1 h34)) fun v35 h35 =>
      bnd (pField 3 v35 h35) fun v36 h36 =>
      bnd (pLoad1 v36 h36) fun v37 h37 =>
      bnd (pNil x1 h37) fun v38 h38 =>
      bnd (pField 3 v38 h38) fun v39 h39 =>
      bnd (pLoad1 v39 h39) fun v40 h40 =>
      bnd (rec 56 [x0, (.i .i64 (Int.ofNat 1)), v40] h40) fun v41 h41 =>
      cnd (sameR (pLoad1 v36 h41) v37 && true) (
      bnd (pBuildSliceAt (nthPos 0 h34.next) [(.s [])] 1 [(0, 1, v41)] h41) fun v42 h42 =>
      bnd (pAppend 1 16 v37 v42 h42) fun v43 h43 =>
      bnd (pNil x1 h43) fun v44 h44 =>
      bnd (pField 3 v44 h44) fun v45 h45 =>
      bnd (pStore 1 v45 v43 h45) fun v46 h46 =>
      kk6 x0 x1 (.b false) h46))) (
      some (.t [], h25))

noncomputable def s39a6l (rec : RT) (n : Nat) (m : Nat) : TT3 :=
  Nat.rec (motive := fun _ => TT3) (fun _ _ _ _ => none) (fun _ ih => s39a6b rec n ih) m

noncomputable def s39a6 (rec : RT) (n : Nat) : TT3 := s39a6l rec n n

noncomputable def s39a5 (rec : RT) (n : Nat) (x0 x1 x4 : DV) (h0 : Hp) : Res :=
  s39a6 rec n x0 x1 x4 h0

noncomputable def s39a4 (rec : RT) (n : Nat) (x0 x1 : DV) (h0 : Hp) : Res :=
  s39a5 rec n x0 x1 (.b true) h0

noncomputable def s39a3 (rec : RT) (n : Nat) (x0 x1 x44 : DV) (h0 : Hp) : Res :=
  ifD x44 (
    bnd (rec 52 [x0] h0) fun v6 h6 =>
    bnd (pPart1 1 v6 h6) fun v7 h7 =>
    bnd (pNil x1 h7) fun v8 h8 =>
    bnd (pField 1 v8 h8) fun v9 h9 =>
    bnd (pStore 1 v9 v7 h9) fun _ h10 =>
    bnd (pNil x1 (resv 1 h10)) fun v11 h11 =>
    bnd (pField 3 v11 h11) fun v12 h12 =>
    bnd (pLoad1 v12 h12) fun v13 h13 =>
    bnd (pNil x1 h13) fun v14 h14 =>
    bnd (pField 3 v14 h14) fun v15 h15 =>
    bnd (pLoad1 v15 h15) fun v16 h16 =>
    bnd (rec 56 [x0, (.i .i64 (Int.ofNat 1)), v16] h16) fun v17 h17 =>
    cnd (sameR (pLoad1 v12 h17) v13 && true) (
    bnd (pBuildSliceAt (nthPos 0 h10.next) [(.s [])] 1 [(0, 1, v17)] h17) fun v18 h18 =>
    bnd (pAppend 1 16 v13 v18 h18) fun v19 h19 =>
    bnd (pNil x1 h19) fun v20 h20 =>
    bnd (pField 3 v20 h20) fun v21 h21 =>
    bnd (pStore 1 v21 v19 h21) fun v22 h22 =>
    some (.t [], h22))) (
    s39a4 rec n x0 x1 h0)

noncomputable def s39a2 (rec : RT) (n : Nat) (x0 x1 : DV) (h0 : Hp) : Res :=
  bnd (rec 51 [x0, (.i .i64 (Int.ofNat 3)), (.s [])] h0) fun v71 h71 =>
  s39a3 rec n x0 x1 v71 h71

noncomputable def s39a1 (rec : RT) (n : Nat) (x0 x1 x35 : DV) (h0 : Hp) : Res :=
  ifD x35 (
    bnd (rec 52 [x0] h0) fun v1 h1 =>
    bnd (pPart1 1 v1 h1) fun v2 h2 =>
    bnd (pNil x1 h2) fun v3 h3 =>
    bnd (pField 1 v3 h3) fun v4 h4 =>
    bnd (pStore 1 v4 v2 h4) fun _ h5 =>
    some (.t [], h5)) (
    s39a2 rec n x0 x1 h0)

/-- parse.parser).pattern -/
noncomputable def s39 (rec : RT) (n : Nat) (x0 x1 : DV) (h0 : Hp) : Res :=
  bnd (rec 51 [x0, (.i .i64 (Int.ofNat 1)), (.s [])] h0) fun v73 h73 =>
  s39a1 rec n x0 x1 v73 h73

noncomputable abbrev c39 : Code := cf Try.f39
noncomputable abbrev c39x1 : Code := cL c39
noncomputable abbrev c39x2 : Code := cR c39x1
noncomputable abbrev c39x3 : Code := cR c39x2
noncomputable abbrev c39x4 : Code := cR c39x3
noncomputable abbrev c39x5 : Code := cR c39x4
noncomputable abbrev c39x6 : Code := cR c39x5
noncomputable abbrev c39x7 : Code := cL c39x6
noncomputable abbrev c39x8 : Code := cL c39x7
noncomputable abbrev c39x9 : Code := cL c39x5
noncomputable abbrev c39x10 : Code := cL c39x4
noncomputable abbrev c39x11 : Code := cL c39x3
noncomputable abbrev c39x12 : Code := cL c39x2
noncomputable abbrev c39x13 : Code := cL c39x1

noncomputable def D39 (rec : RT) (n : Nat) (c : Code) (X : Nat → K) (k : K) : K := codeD CF rec 68 n c X (retK CF Try.f39) k

theorem s39a6be (kk6 : TT3) : D39 rec n c39x8 (xs (xs x0 0 (retK CF Try.f39)) 1 (retK CF Try.f39)) (K3 kk6 0 1 4) = (K3 (s39a6b rec n kk6) 0 1 4) :=
  (by kernel_rfl)

theorem s39a6le (m : Nat) : loopN (fun kk => D39 rec n c39x8 (xs (xs x0 0 (retK CF Try.f39)) 1 (retK CF Try.f39)) kk) m = (K3 (s39a6l rec n m) 0 1 4) := by
  induction m with
  | zero => exact (by kernel_rfl : loopN (fun kk => D39 rec n c39x8 (xs (xs x0 0 (retK CF Try.f39)) 1 (retK CF Try.f39)) kk) 0 = (K3 (s39a6l rec n 0) 0 1 4))
  | succ m ih =>
    refine (by kernel_rfl : loopN (fun kk => D39 rec n c39x8 (xs (xs x0 0 (retK CF Try.f39)) 1 (retK CF Try.f39)) kk) (m + 1) = D39 rec n c39x8 (xs (xs x0 0 (retK CF Try.f39)) 1 (retK CF Try.f39)) (loopN (fun kk => D39 rec n c39x8 (xs (xs x0 0 (retK CF Try.f39)) 1 (retK CF Try.f39)) kk) m)).trans ?_
    rw [ih]
    exact (s39a6be rec n (s39a6l rec n m)).trans (by kernel_rfl)

theorem s39a6e : D39 rec n c39x7 (xs (xs x0 0 (retK CF Try.f39)) 1 (retK CF Try.f39)) (retK CF Try.f39) = (K3 (s39a6 rec n) 0 1 4) :=
  (by kernel_rfl : D39 rec n c39x7 (xs (xs x0 0 (retK CF Try.f39)) 1 (retK CF Try.f39)) (retK CF Try.f39) = loopN (fun kk => D39 rec n c39x8 (xs (xs x0 0 (retK CF Try.f39)) 1 (retK CF Try.f39)) kk) n).trans ((s39a6le rec n n).trans (by kernel_rfl))

theorem s39a5e : D39 rec n c39x6 (xs x0 0 (retK CF Try.f39)) (retK CF Try.f39) = (K3 (s39a5 rec n) 0 1 4) :=
  (by kernel_rfl : D39 rec n c39x6 (xs x0 0 (retK CF Try.f39)) (retK CF Try.f39) = D39 rec n c39x7 (xs (xs x0 0 (retK CF Try.f39)) 1 (retK CF Try.f39)) (retK CF Try.f39)).trans
  ((s39a6e rec n).trans (by kernel_rfl))

theorem s39a4p1 : D39 rec n c39x5 (xs x0 0 (retK CF Try.f39)) (retK CF Try.f39) = D39 rec n c39x9 (xs x0 0 (retK CF Try.f39)) (K3 (s39a5 rec n) 0 1 4) :=
  congrArg (fun k => D39 rec n c39x9 (xs x0 0 (retK CF Try.f39)) k) (s39a5e rec n)

theorem s39a4e : D39 rec n c39x5 (xs x0 0 (retK CF Try.f39)) (retK CF Try.f39) = (K2 (s39a4 rec n) 0 1) :=
  (s39a4p1 rec n).trans
  ((by kernel_rfl))

theorem s39a3e : D39 rec n c39x4 (xs x0 0 (retK CF Try.f39)) (retK CF Try.f39) = (K3 (s39a3 rec n) 0 1 44) :=
  (by kernel_rfl : D39 rec n c39x4 (xs x0 0 (retK CF Try.f39)) (retK CF Try.f39) = (fun (env : Env) (h : Hp) => ifD (opr env (cC c39x4)) (D39 rec n c39x10 (xs x0 0 (retK CF Try.f39)) (retK CF Try.f39) env h) (D39 rec n c39x5 (xs x0 0 (retK CF Try.f39)) (retK CF Try.f39) env h))).trans (by rw [s39a4e rec n]; kernel_rfl)

theorem s39a2p2 : D39 rec n c39x3 (xs x0 0 (retK CF Try.f39)) (retK CF Try.f39) = D39 rec n c39x11 (xs x0 0 (retK CF Try.f39)) (K3 (s39a3 rec n) 0 1 44) :=
  congrArg (fun k => D39 rec n c39x11 (xs x0 0 (retK CF Try.f39)) k) (s39a3e rec n)

theorem s39a2e : D39 rec n c39x3 (xs x0 0 (retK CF Try.f39)) (retK CF Try.f39) = (K2 (s39a2 rec n) 0 1) :=
  (s39a2p2 rec n).trans
  ((by kernel_rfl))

theorem s39a1e : D39 rec n c39x2 (xs x0 0 (retK CF Try.f39)) (retK CF Try.f39) = (K3 (s39a1 rec n) 0 1 35) :=
  (by kernel_rfl : D39 rec n c39x2 (xs x0 0 (retK CF Try.f39)) (retK CF Try.f39) = (fun (env : Env) (h : Hp) => ifD (opr env (cC c39x2)) (D39 rec n c39x12 (xs x0 0 (retK CF Try.f39)) (retK CF Try.f39) env h) (D39 rec n c39x3 (xs x0 0 (retK CF Try.f39)) (retK CF Try.f39) env h))).trans (by rw [s39a2e rec n]; kernel_rfl)

theorem s39p3 : D39 rec n c39x1 (xs x0 0 (retK CF Try.f39)) (retK CF Try.f39) = D39 rec n c39x13 (xs x0 0 (retK CF Try.f39)) (K3 (s39a1 rec n) 0 1 35) :=
  congrArg (fun k => D39 rec n c39x13 (xs x0 0 (retK CF Try.f39)) k) (s39a1e rec n)

theorem s39m : D39 rec n c39 x0 (retK CF Try.f39) = (K2 (s39 rec n) 0 1) :=
  (by kernel_rfl : D39 rec n c39 x0 (retK CF Try.f39) = D39 rec n c39x1 (xs x0 0 (retK CF Try.f39)) (retK CF Try.f39)).trans
  ((s39p3 rec n).trans
  ((by kernel_rfl)))

theorem s39ok (args : List DV) (h : Hp) : bodyD CF rec n 39 args h = s39 rec n (args.getD 0 undefD) (args.getD 1 undefD) h :=
  (by kernel_rfl : bodyD CF rec n 39 args h = D39 rec n c39 x0 (retK CF Try.f39) (argsE args) h).trans ((congrFun (congrFun (s39m rec n) (argsE args)) h).trans (by kernel_rfl))

noncomputable def s40a6 (rec : RT) (n : Nat) (x0 x3 : DV) (h0 : Hp) : Res :=
  bnd (rec 32 [x0, (.i .i64 (Int.ofNat 3)), (.s [62])] h0) fun v1 h1 =>
  bnd (pField 2 x3 h1) fun v2 h2 =>
  bnd (pLoad1 v2 h2) fun v3 h3 =>
  some (v3, h3)

noncomputable def s40a5 (rec : RT) (n : Nat) (x0 x3 : DV) (h0 : Hp) : Res :=
  bnd (pField 2 x3 h0) fun v7 h7 =>
  bnd (pLoad1 v7 h7) fun v8 h8 =>
  bnd (pInt .gtr v8 (.i .i64 (Int.ofNat 255)) h8) fun v9 h9 =>
  ifD v9 (
    bnd (pLoadA 4 x3 h9) fun v10 h10 =>
    bnd (rec 54 [x0, v10, (.i .i64 (Int.ofNat 2))] h10) fun v11 h11 =>
    s40a6 rec n x0 x3 h11) (
    s40a6 rec n x0 x3 h9)

noncomputable def s40a4 (rec : RT) (n : Nat) (x0 : DV) (h0 : Hp) : Res :=
  bnd (rec 32 [x0, (.i .i64 (Int.ofNat 4)), (.s [])] h0) fun v17 h17 =>
  bnd (pNew [(.i .i64 (Int.ofNat 0)), (.s []), (.i .i64 (Int.ofNat 0)), (.i .i64 (Int.ofNat 0))] h17) fun v18 h18 =>
  bnd (pStore 4 v18 v17 h18) fun _ h19 =>
  s40a5 rec n x0 v18 h19

noncomputable def s40a3 (rec : RT) (n : Nat) (x0 : DV) (h0 : Hp) : Res :=
  bnd (rec 32 [x0, (.i .i64 (Int.ofNat 2)), (.s [112, 114, 105, 109, 105, 116, 105, 118, 101, 58])] h0) fun v29 h29 =>
  s40a4 rec n x0 h29

noncomputable def s40a2 (rec : RT) (n : Nat) (x0 : DV) (h0 : Hp) : Res :=
  bnd (rec 52 [x0] h0) fun v31 h31 =>
  s40a3 rec n x0 h31

noncomputable def s40a1 (rec : RT) (n : Nat) (x0 : DV) (h0 : Hp) : Res :=
  bnd (rec 51 [x0, (.i .i64 (Int.ofNat 3)), (.s [60])] h0) fun v33 h33 =>
  bnd (pUn .not v33 h33) fun v34 h34 =>
  ifD v34 (
    some ((.i .i64 (Int.ofNat 0)), h34)) (
    s40a2 rec n x0 h34)

/-- parse.parser).primitive -/
noncomputable def s40 (rec : RT) (n : Nat) (x0 : DV) (h0 : Hp) : Res :=
  s40a1 rec n x0 h0

noncomputable abbrev c40 : Code := cf Try.f40
noncomputable abbrev c40x1 : Code := cR c40
noncomputable abbrev c40x2 : Code := cR c40x1
noncomputable abbrev c40x3 : Code := cR c40x2
noncomputable abbrev c40x4 : Code := cR c40x3
noncomputable abbrev c40x5 : Code := cR c40x4
noncomputable abbrev c40x6 : Code := cR c40x5
noncomputable abbrev c40x7 : Code := cL c40x5
noncomputable abbrev c40x8 : Code := cL c40x4
noncomputable abbrev c40x9 : Code := cL c40x3
noncomputable abbrev c40x10 : Code := cL c40x2
noncomputable abbrev c40x11 : Code := cL c40x1
noncomputable abbrev c40x12 : Code := cL c40

noncomputable def D40 (rec : RT) (n : Nat) (c : Code) (X : Nat → K) (k : K) : K := codeD CF rec 23 n c X (retK CF Try.f40) k

theorem s40a6e : D40 rec n c40x6 x0 (retK CF Try.f40) = (K2 (s40a6 rec n) 0 3) :=
  (by kernel_rfl)

theorem s40a5p1 : D40 rec n c40x5 x0 (retK CF Try.f40) = D40 rec n c40x7 x0 (K2 (s40a6 rec n) 0 3) :=
  congrArg (fun k => D40 rec n c40x7 x0 k) (s40a6e rec n)

theorem s40a5e : D40 rec n c40x5 x0 (retK CF Try.f40) = (K2 (s40a5 rec n) 0 3) :=
  (s40a5p1 rec n).trans
  ((by kernel_rfl))

theorem s40a4p2 : D40 rec n c40x4 x0 (retK CF Try.f40) = D40 rec n c40x8 x0 (K2 (s40a5 rec n) 0 3) :=
  congrArg (fun k => D40 rec n c40x8 x0 k) (s40a5e rec n)

theorem s40a4q3 (q0 : TT2) : D40 rec n c40x8 x0 (K2 q0 0 3) = fun (env : Env) (h : Hp) =>
    bnd (rec 32 [(env 0), (.i .i64 (Int.ofNat 4)), (.s [])] h) fun v23 h23 =>
    bnd (pNew [(.i .i64 (Int.ofNat 0)), (.s []), (.i .i64 (Int.ofNat 0)), (.i .i64 (Int.ofNat 0))] h23) fun v24 h24 =>
    bnd (pStore 4 v24 v23 h24) fun _ h25 =>
    q0 (env 0) v24 h25 := by kernel_rfl

theorem s40a4q3u : (fun (env : Env) (h : Hp) =>
    bnd (rec 32 [(env 0), (.i .i64 (Int.ofNat 4)), (.s [])] h) fun v26 h26 =>
    bnd (pNew [(.i .i64 (Int.ofNat 0)), (.s []), (.i .i64 (Int.ofNat 0)), (.i .i64 (Int.ofNat 0))] h26) fun v27 h27 =>
    bnd (pStore 4 v27 v26 h27) fun _ h28 =>
    s40a5 rec n (env 0) v27 h28) = (K1 (s40a4 rec n) 0) := by kernel_rfl

theorem s40a4e : D40 rec n c40x4 x0 (retK CF Try.f40) = (K1 (s40a4 rec n) 0) :=
  (s40a4p2 rec n).trans
  ((s40a4q3 rec n (s40a5 rec n)).trans (s40a4q3u rec n))

theorem s40a3p4 : D40 rec n c40x3 x0 (retK CF Try.f40) = D40 rec n c40x9 x0 (K1 (s40a4 rec n) 0) :=
  congrArg (fun k => D40 rec n c40x9 x0 k) (s40a4e rec n)

theorem s40a3e : D40 rec n c40x3 x0 (retK CF Try.f40) = (K1 (s40a3 rec n) 0) :=
  (s40a3p4 rec n).trans
  ((by kernel_rfl))

theorem s40a2p5 : D40 rec n c40x2 x0 (retK CF Try.f40) = D40 rec n c40x10 x0 (K1 (s40a3 rec n) 0) :=
  congrArg (fun k => D40 rec n c40x10 x0 k) (s40a3e rec n)

theorem s40a2e : D40 rec n c40x2 x0 (retK CF Try.f40) = (K1 (s40a2 rec n) 0) :=
  (s40a2p5 rec n).trans
  ((by kernel_rfl))

theorem s40a1p6 : D40 rec n c40x1 x0 (retK CF Try.f40) = D40 rec n c40x11 x0 (K1 (s40a2 rec n) 0) :=
  congrArg (fun k => D40 rec n c40x11 x0 k) (s40a2e rec n)

theorem s40a1e : D40 rec n c40x1 x0 (retK CF Try.f40) = (K1 (s40a1 rec n) 0) :=
  (s40a1p6 rec n).trans
  ((by kernel_rfl))

theorem s40p7 : D40 rec n c40 x0 (retK CF Try.f40) = D40 rec n c40x12 x0 (K1 (s40a1 rec n) 0) :=
  congrArg (fun k => D40 rec n c40x12 x0 k) (s40a1e rec n)

theorem s40m : D40 rec n c40 x0 (retK CF Try.f40) = (K1 (s40 rec n) 0) :=
  (s40p7 rec n).trans
  ((by kernel_rfl))

theorem s40ok (args : List DV) (h : Hp) : bodyD CF rec n 40 args h = s40 rec n (args.getD 0 undefD) h :=
  (by kernel_rfl : bodyD CF rec n 40 args h = D40 rec n c40 x0 (retK CF Try.f40) (argsE args) h).trans ((congrFun (congrFun (s40m rec n) (argsE args)) h).trans (by kernel_rfl))

noncomputable def s47a3 (rec : RT) (n : Nat) (x0 x7 : DV) (h0 : Hp) : Res :=
  bnd (pNil x0 h0) fun v1 h1 =>
  bnd (pField 0 v1 h1) fun v2 h2 =>
  bnd (pLoad1 v2 h2) fun v3 h3 =>
  bnd (pNil x0 h3) fun v4 h4 =>
  bnd (pField 1 v4 h4) fun v5 h5 =>
  bnd (pLoad1 v5 h5) fun v6 h6 =>
  bnd (pSliceS v3 (some x7) (some v6) h6) fun v7 h7 =>
  some (v7, h7)

noncomputable def s47a4b (rec : RT) (n : Nat) (kk4 : TT4) (x0 x1 x2 x7 : DV) (h0 : Hp) : Res :=
    bnd (pNil x0 h0) fun v15 h15 =>
    bnd (pField 1 v15 h15) fun v16 h16 =>
    bnd (pLoad1 v16 h16) fun v17 h17 =>
    bnd (pNil x0 h17) fun v18 h18 =>
    bnd (pField 0 v18 h18) fun v19 h19 =>
    bnd (pLoad1 v19 h19) fun v20 h20 =>
    bnd (pLenS v20 h20) fun v21 h21 =>
    bnd (pInt .lss v17 v21 h21) fun v22 h22 =>
    bnd (gD v22 true (some (x0, h22)) h22) fun v23 h23 =>
    bnd (gD v22 true (pNil v23 h23) h23) fun v24 h24 =>
    bnd (gD v22 true (pField 1 v24 h24) h24) fun v25 h25 =>
    bnd (gD v22 true (pLoad1 v25 h25) h25) fun v26 h26 =>
    bnd (gD v22 true (some (x7, h26)) h26) fun v27 h27 =>
    bnd (gD v22 true (pInt .sub v26 v27 h27) h27) fun v28 h28 =>
    bnd (gD v22 true (some (x2, h28)) h28) fun v29 h29 =>
    bnd (gD v22 true (pInt .lss v28 v29 h29) h29) fun v30 h30 =>
    bnd (pPick v22 v30 (.b false) h30) fun v31 h31 =>
    bnd (gD v31 true (some (x1, h31)) h31) fun v32 h32 =>
    bnd (gD v31 true (some (x0, h32)) h32) fun v33 h33 =>
    bnd (gD v31 true (pNil v33 h33) h33) fun v34 h34 =>
    bnd (gD v31 true (pField 0 v34 h34) h34) fun v35 h35 =>
    bnd (gD v31 true (pLoad1 v35 h35) h35) fun v36 h36 =>
    bnd (gD v31 true (some (x0, h36)) h36) fun v37 h37 =>
    bnd (gD v31 true (pNil v37 h37) h37) fun v38 h38 =>
    bnd (gD v31 true (pField 1 v38 h38) h38) fun v39 h39 =>
    bnd (gD v31 true (pLoad1 v39 h39) h39) fun v40 h40 =>
    bnd (gD v31 true (pIndexS v36 v40 h40) h40) fun v41 h41 =>
    bnd (gD v31 true (pCall CF rec v32 [v41] h41) h41) fun v42 h42 =>
    bnd (pPick v31 v42 (.b false) h42) fun v43 h43 =>
    ifD v43 (
      bnd (pNil x0 h43) fun v44 h44 =>
      bnd (pField 1 v44 h44) fun v45 h45 =>
      bnd (pLoad1 v45 h45) fun v46 h46 =>
      bnd (pInt .add v46 (.i .i64 (Int.ofNat 1)) h46) fun v47 h47 =>
      bnd (pNil x0 h47) fun v48 h48 =>
      bnd (pField 1 v48 h48) fun v49 h49 =>
      bnd (pStore 1 v49 v47 h49) fun _ h50 =>
      kk4 x0 x1 x2 x7 h50) (
      s47a3 rec n x0 x7 h43)

noncomputable def s47a4l (rec : RT) (n : Nat) (m : Nat) : TT4 :=
  Nat.rec (motive := fun _ => TT4) (fun _ _ _ _ _ => none) (fun _ ih => s47a4b rec n ih) m

noncomputable def s47a4 (rec : RT) (n : Nat) : TT4 := s47a4l rec n n

noncomputable def s47a2 (rec : RT) (n : Nat) (x0 x1 x2 x7 : DV) (h0 : Hp) : Res :=
  s47a4 rec n x0 x1 x2 x7 h0

noncomputable def s47a1 (rec : RT) (n : Nat) (x0 x1 x2 : DV) (h0 : Hp) : Res :=
  bnd (pNil x0 h0) fun v87 h87 =>
  bnd (pField 1 v87 h87) fun v88 h88 =>
  bnd (pLoad1 v88 h88) fun v89 h89 =>
  s47a2 rec n x0 x1 x2 v89 h89

/-- lex.reader).run -/
noncomputable def s47 (rec : RT) (n : Nat) (x0 x1 x2 : DV) (h0 : Hp) : Res :=
  s47a1 rec n x0 x1 x2 h0

noncomputable abbrev c47 : Code := cf Try.f47
noncomputable abbrev c47x1 : Code := cR c47
noncomputable abbrev c47x2 : Code := cR c47x1
noncomputable abbrev c47x3 : Code := cR c47x2
noncomputable abbrev c47x4 : Code := cL c47x2
noncomputable abbrev c47x5 : Code := cL c47x4
noncomputable abbrev c47x6 : Code := cL c47x5
noncomputable abbrev c47x7 : Code := cL c47x1
noncomputable abbrev c47x8 : Code := cL c47

noncomputable def D47 (rec : RT) (n : Nat) (c : Code) (X : Nat → K) (k : K) : K := codeD CF rec 62 n c X (retK CF Try.f47) k

theorem s47a3e : D47 rec n c47x3 x0 (retK CF Try.f47) = (K2 (s47a3 rec n) 0 7) :=
  (by kernel_rfl)

theorem s47a4be (kk4 : TT4) : D47 rec n c47x6 (xs x0 0 (K2 (s47a3 rec n) 0 7)) (K4 kk4 0 1 2 7) = (K4 (s47a4b rec n kk4) 0 1 2 7) :=
  (by kernel_rfl)

theorem s47a4le (m : Nat) : loopN (fun kk => D47 rec n c47x6 (xs x0 0 (K2 (s47a3 rec n) 0 7)) kk) m = (K4 (s47a4l rec n m) 0 1 2 7) := by
  induction m with
  | zero => exact (by kernel_rfl : loopN (fun kk => D47 rec n c47x6 (xs x0 0 (K2 (s47a3 rec n) 0 7)) kk) 0 = (K4 (s47a4l rec n 0) 0 1 2 7))
  | succ m ih =>
    refine (by kernel_rfl : loopN (fun kk => D47 rec n c47x6 (xs x0 0 (K2 (s47a3 rec n) 0 7)) kk) (m + 1) = D47 rec n c47x6 (xs x0 0 (K2 (s47a3 rec n) 0 7)) (loopN (fun kk => D47 rec n c47x6 (xs x0 0 (K2 (s47a3 rec n) 0 7)) kk) m)).trans ?_
    rw [ih]
    exact (s47a4be rec n (s47a4l rec n m)).trans (by kernel_rfl)

theorem s47a4e : D47 rec n c47x5 (xs x0 0 (K2 (s47a3 rec n) 0 7)) (K2 (s47a3 rec n) 0 7) = (K4 (s47a4 rec n) 0 1 2 7) :=
  (by kernel_rfl : D47 rec n c47x5 (xs x0 0 (K2 (s47a3 rec n) 0 7)) (K2 (s47a3 rec n) 0 7) = loopN (fun kk => D47 rec n c47x6 (xs x0 0 (K2 (s47a3 rec n) 0 7)) kk) n).trans ((s47a4le rec n n).trans (by kernel_rfl))

theorem s47a2p1 : D47 rec n c47x2 x0 (retK CF Try.f47) = D47 rec n c47x4 x0 (K2 (s47a3 rec n) 0 7) :=
  congrArg (fun k => D47 rec n c47x4 x0 k) (s47a3e rec n)

theorem s47a2e : D47 rec n c47x2 x0 (retK CF Try.f47) = (K4 (s47a2 rec n) 0 1 2 7) :=
  (s47a2p1 rec n).trans
  ((by kernel_rfl : D47 rec n c47x4 x0 (K2 (s47a3 rec n) 0 7) = D47 rec n c47x5 (xs x0 0 (K2 (s47a3 rec n) 0 7)) (K2 (s47a3 rec n) 0 7)).trans
  ((s47a4e rec n).trans (by kernel_rfl)))

theorem s47a1p2 : D47 rec n c47x1 x0 (retK CF Try.f47) = D47 rec n c47x7 x0 (K4 (s47a2 rec n) 0 1 2 7) :=
  congrArg (fun k => D47 rec n c47x7 x0 k) (s47a2e rec n)

theorem s47a1e : D47 rec n c47x1 x0 (retK CF Try.f47) = (K3 (s47a1 rec n) 0 1 2) :=
  (s47a1p2 rec n).trans
  ((by kernel_rfl))

theorem s47p3 : D47 rec n c47 x0 (retK CF Try.f47) = D47 rec n c47x8 x0 (K3 (s47a1 rec n) 0 1 2) :=
  congrArg (fun k => D47 rec n c47x8 x0 k) (s47a1e rec n)

theorem s47m : D47 rec n c47 x0 (retK CF Try.f47) = (K3 (s47 rec n) 0 1 2) :=
  (s47p3 rec n).trans
  ((by kernel_rfl))

theorem s47ok (args : List DV) (h : Hp) : bodyD CF rec n 47 args h = s47 rec n (args.getD 0 undefD) (args.getD 1 undefD) (args.getD 2 undefD) h :=
  (by kernel_rfl : bodyD CF rec n 47 args h = D47 rec n c47 x0 (retK CF Try.f47) (argsE args) h).trans ((congrFun (congrFun (s47m rec n) (argsE args)) h).trans (by kernel_rfl))

/-- lex.in -/
noncomputable def s48 (rec : RT) (n : Nat) (x0 : DV) (h0 : Hp) : Res :=
  bnd (pBox x0 h0) fun v1 h1 =>
  some ((.f 62 [] [v1]), h1)

noncomputable abbrev c48 : Code := cf Try.f48

noncomputable def D48 (rec : RT) (n : Nat) (c : Code) (X : Nat → K) (k : K) : K := codeD CF rec 4 n c X (retK CF Try.f48) k

theorem s48m : D48 rec n c48 x0 (retK CF Try.f48) = (K1 (s48 rec n) 0) :=
  (by kernel_rfl)

theorem s48ok (args : List DV) (h : Hp) : bodyD CF rec n 48 args h = s48 rec n (args.getD 0 undefD) h :=
  (by kernel_rfl : bodyD CF rec n 48 args h = D48 rec n c48 x0 (retK CF Try.f48) (argsE args) h).trans ((congrFun (congrFun (s48m rec n) (argsE args)) h).trans (by kernel_rfl))

/-- strings.IndexByte -/
noncomputable def s49 (rec : RT) (n : Nat) (x0 x1 : DV) (h0 : Hp) : Res :=
  bnd (rec 63 [x0, x1] h0) fun v1 h1 =>
  some (v1, h1)

noncomputable abbrev c49 : Code := cf Try.f49

noncomputable def D49 (rec : RT) (n : Nat) (c : Code) (X : Nat → K) (k : K) : K := codeD CF rec 8 n c X (retK CF Try.f49) k

theorem s49m : D49 rec n c49 x0 (retK CF Try.f49) = (K2 (s49 rec n) 0 1) :=
  (by kernel_rfl)

theorem s49ok (args : List DV) (h : Hp) : bodyD CF rec n 49 args h = s49 rec n (args.getD 0 undefD) (args.getD 1 undefD) h :=
  (by kernel_rfl : bodyD CF rec n 49 args h = D49 rec n c49 x0 (retK CF Try.f49) (argsE args) h).trans ((congrFun (congrFun (s49m rec n) (argsE args)) h).trans (by kernel_rfl))

noncomputable def s50a5 (rec : RT) (n : Nat) (x2 x4 x5 : DV) (h0 : Hp) : Res :=
  bnd (pLoadA 4 x4 h0) fun v1 h1 =>
  bnd (pStore 4 x2 v1 h1) fun _ h2 =>
  bnd (pLoadA 4 x2 h2) fun v3 _ =>
  some (.t [v3, x5], h2)

noncomputable def s50a4 (rec : RT) (n : Nat) (x0 x2 x4 x5 x6 : DV) (h0 : Hp) : Res :=
  bnd (rec 65 [x6] h0) fun v7 h7 =>
  ifD v7 (
    bnd (pField 0 x4 h7) fun v8 h8 =>
    bnd (pStore 1 v8 (.i .i64 (Int.ofNat 1)) h8) fun _ h9 =>
    bnd (rec 66 [x0] h9) fun v10 h10 =>
    bnd (pExtract 0 v10 h10) fun v11 h11 =>
    bnd (pExtract 1 v10 h11) fun v12 h12 =>
    bnd (pField 1 x4 h12) fun v13 h13 =>
    bnd (pStore 1 v13 v11 h13) fun _ h14 =>
    bnd (pInt .eql v12 (.i .i64 (Int.ofNat 0)) h14) fun v15 h15 =>
    bnd (gD v15 true (some (x0, h15)) h15) fun v16 h16 =>
    bnd (gD v15 true (rec 67 [v16] h16) h16) fun v17 h17 =>
    bnd (pPick v15 v17 (.b false) h17) fun v18 h18 =>
    ifD v18 (
      bnd (pField 1 x4 h18) fun v19 h19 =>
      bnd (pLoad1 v19 h19) fun v20 h20 =>
      bnd (pStr .add v20 (.s [58]) h20) fun v21 h21 =>
      bnd (pField 0 x4 h21) fun v22 h22 =>
      bnd (pStore 1 v22 (.i .i64 (Int.ofNat 2)) h22) fun _ h23 =>
      bnd (pField 1 x4 h23) fun v24 h24 =>
      bnd (pStore 1 v24 v21 h24) fun _ h25 =>
      s50a5 rec n x2 x4 v12 h25) (
      s50a5 rec n x2 x4 v12 h18)) (
    bnd (rec 68 [x6] h7) fun v26 h26 =>
    ifD v26 (
      bnd (pField 0 x4 h26) fun v27 h27 =>
      bnd (pStore 1 v27 (.i .i64 (Int.ofNat 4)) h27) fun _ h28 =>
      bnd (rec 69 [x0] h28) fun v29 h29 =>
      bnd (pExtract 0 v29 h29) fun v30 h30 =>
      bnd (pExtract 1 v29 h30) fun v31 h31 =>
      bnd (pField 2 x4 h31) fun v32 h32 =>
      bnd (pStore 1 v32 v30 h32) fun _ h33 =>
      s50a5 rec n x2 x4 v31 h33) (
      bnd (pInt .eql x6 (.i .u8 (Int.ofNat 39)) h26) fun v34 h34 =>
      ifD v34 (
        bnd (pNil x0 h34) fun v35 h35 =>
        bnd (pField 1 v35 h35) fun v36 h36 =>
        bnd (pLoad1 v36 h36) fun v37 h37 =>
        bnd (pInt .add v37 (.i .i64 (Int.ofNat 1)) h37) fun v38 h38 =>
        bnd (pNil x0 h38) fun v39 h39 =>
        bnd (pField 1 v39 h39) fun v40 h40 =>
        bnd (pStore 1 v40 v38 h40) fun _ h41 =>
        bnd (pField 0 x4 h41) fun v42 h42 =>
        bnd (pStore 1 v42 (.i .i64 (Int.ofNat 5)) h42) fun _ h43 =>
        bnd (rec 70 [x0] h43) fun v44 h44 =>
        bnd (pExtract 0 v44 h44) fun v45 h45 =>
        bnd (pExtract 1 v44 h45) fun v46 h46 =>
        bnd (pField 1 x4 h46) fun v47 h47 =>
        bnd (pStore 1 v47 v45 h47) fun _ h48 =>
        s50a5 rec n x2 x4 v46 h48) (
        bnd (pInt .eql x6 (.i .u8 (Int.ofNat 35)) h34) fun v49 h49 =>
        bnd (gD v49 true (some (x0, h49)) h49) fun v50 h50 =>
        bnd (gD v49 true (rec 64 [v50, (.i .i64 (Int.ofNat 1))] h50) h50) fun v51 h51 =>
        bnd (gD v49 true (pInt .eql v51 (.i .u8 (Int.ofNat 40)) h51) h51) fun v52 h52 =>
        bnd (pPick v49 v52 (.b false) h52) fun v53 h53 =>
        ifD v53 (
          bnd (pNil x0 h53) fun v54 h54 =>
          bnd (pField 1 v54 h54) fun v55 h55 =>
          bnd (pLoad1 v55 h55) fun v56 h56 =>
          bnd (pInt .add v56 (.i .i64 (Int.ofNat 2)) h56) fun v57 h57 =>
          bnd (pNil x0 h57) fun v58 h58 =>
          bnd (pField 1 v58 h58) fun v59 h59 =>
          bnd (pStore 1 v59 v57 h59) fun _ h60 =>
          bnd (pField 0 x4 h60) fun v61 h61 =>
          bnd (pStore 1 v61 (.i .i64 (Int.ofNat 7)) h61) fun _ h62 =>
          s50a5 rec n x2 x4 x5 h62) (
          bnd (pInt .eql x6 (.i .u8 (Int.ofNat 35)) h53) fun v63 h63 =>
          ifD v63 (
            bnd (pNil x0 h63) fun v64 h64 =>
            bnd (pField 1 v64 h64) fun v65 h65 =>
            bnd (pLoad1 v65 h65) fun v66 h66 =>
            bnd (pInt .add v66 (.i .i64 (Int.ofNat 1)) h66) fun v67 h67 =>
            bnd (pNil x0 h67) fun v68 h68 =>
            bnd (pField 1 v68 h68) fun v69 h69 =>
            bnd (pStore 1 v69 v67 h69) fun _ h70 =>
            bnd (pField 0 x4 h70) fun v71 h71 =>
            bnd (pStore 1 v71 (.i .i64 (Int.ofNat 6)) h71) fun _ h72 =>
            bnd (rec 71 [x0] h72) fun v73 h73 =>
            bnd (pExtract 0 v73 h73) fun v74 h74 =>
            bnd (pExtract 1 v73 h74) fun v75 h75 =>
            bnd (pField 1 x4 h75) fun v76 h76 =>
            bnd (pStore 1 v76 v74 h76) fun _ h77 =>
            s50a5 rec n x2 x4 v75 h77) (
            bnd (pInt .eql x6 (.i .u8 (Int.ofNat 58)) h63) fun v78 h78 =>
            bnd (gD v78 true (some (x0, h78)) h78) fun v79 h79 =>
            bnd (gD v78 true (rec 64 [v79, (.i .i64 (Int.ofNat 1))] h79) h79) fun v80 h80 =>
            bnd (gD v78 true (pInt .eql v80 (.i .u8 (Int.ofNat 61)) h80) h80) fun v81 h81 =>
            bnd (pPick v78 v81 (.b false) h81) fun v82 h82 =>
            ifD v82 (
              bnd (pNil x0 h82) fun v83 h83 =>
              bnd (pField 1 v83 h83) fun v84 h84 =>
              bnd (pLoad1 v84 h84) fun v85 h85 =>
              bnd (pInt .add v85 (.i .i64 (Int.ofNat 2)) h85) fun v86 h86 =>
              bnd (pNil x0 h86) fun v87 h87 =>
              bnd (pField 1 v87 h87) fun v88 h88 =>
              bnd (pStore 1 v88 v86 h88) fun _ h89 =>
              bnd (pField 0 x4 h89) fun v90 h90 =>
              bnd (pStore 1 v90 (.i .i64 (Int.ofNat 9)) h90) fun _ h91 =>
              s50a5 rec n x2 x4 x5 h91) (
              bnd (pInt .eql x6 (.i .u8 (Int.ofNat 58)) h82) fun v92 h92 =>
              bnd (gD v92 true (some (x0, h92)) h92) fun v93 h93 =>
              bnd (gD v92 true (rec 64 [v93, (.i .i64 (Int.ofNat 1))] h93) h93) fun v94 h94 =>
              bnd (gD v92 true (rec 65 [v94] h94) h94) fun v95 h95 =>
              bnd (pPick v92 v95 (.b false) h95) fun v96 h96 =>
              ifD v96 (
                bnd (pNil x0 h96) fun v97 h97 =>
                bnd (pField 1 v97 h97) fun v98 h98 =>
                bnd (pLoad1 v98 h98) fun v99 h99 =>
                bnd (pInt .add v99 (.i .i64 (Int.ofNat 1)) h99) fun v100 h100 =>
                bnd (pNil x0 h100) fun v101 h101 =>
                bnd (pField 1 v101 h101) fun v102 h102 =>
                bnd (pStore 1 v102 v100 h102) fun _ h103 =>
                bnd (pField 0 x4 h103) fun v104 h104 =>
                bnd (pStore 1 v104 (.i .i64 (Int.ofNat 8)) h104) fun _ h105 =>
                bnd (rec 66 [x0] h105) fun v106 h106 =>
                bnd (pExtract 0 v106 h106) fun v107 h107 =>
                bnd (pExtract 1 v106 h107) fun v108 h108 =>
                bnd (pField 1 x4 h108) fun v109 h109 =>
                bnd (pStore 1 v109 v107 h109) fun _ h110 =>
                s50a5 rec n x2 x4 v108 h110) (
                bnd (rec 48 [(.s [43, 45, 42, 47, 60, 62, 61, 126, 44, 64, 38, 37])] h96) fun v111 h111 =>
                bnd (pCall CF rec v111 [x6] h111) fun v112 h112 =>
                ifD v112 (
                  bnd (rec 48 [(.s [43, 45, 42, 47, 60, 62, 61, 126, 44, 64, 38, 37])] h112) fun v113 h113 =>
                  bnd (rec 47 [x0, v113, (.i .i64 (Int.ofNat 2))] h113) fun v114 h114 =>
                  bnd (pField 0 x4 h114) fun v115 h115 =>
                  bnd (pStore 1 v115 (.i .i64 (Int.ofNat 3)) h115) fun _ h116 =>
                  bnd (pField 1 x4 h116) fun v117 h117 =>
                  bnd (pStore 1 v117 v114 h117) fun _ h118 =>
                  s50a5 rec n x2 x4 x5 h118) (
                  bnd (rec 48 [(.s [94, 46, 59, 40, 41, 91, 93, 124])] h112) fun v119 h119 =>
                  bnd (pCall CF rec v119 [x6] h119) fun v120 h120 =>
                  ifD v120 (
                    bnd (rec 48 [(.s [94, 46, 59, 40, 41, 91, 93, 124])] h120) fun v121 h121 =>
                    bnd (rec 47 [x0, v121, (.i .i64 (Int.ofNat 1))] h121) fun v122 h122 =>
                    bnd (pField 0 x4 h122) fun v123 h123 =>
                    bnd (pStore 1 v123 (.i .i64 (Int.ofNat 10)) h123) fun _ h124 =>
                    bnd (pField 1 x4 h124) fun v125 h125 =>
                    bnd (pStore 1 v125 v122 h125) fun _ h126 =>
                    s50a5 rec n x2 x4 x5 h126) (
                    s50a5 rec n x2 x4 (.i .i64 (Int.ofNat 10)) h120)))))))))

noncomputable def s50a3 (rec : RT) (n : Nat) (x0 x2 x4 x5 : DV) (h0 : Hp) : Res :=
  bnd (rec 64 [x0, (.i .i64 (Int.ofNat 0))] h0) fun v247 h247 =>
  s50a4 rec n x0 x2 x4 x5 v247 h247

noncomputable def s50a2 (rec : RT) (n : Nat) (x0 x2 x4 : DV) (h0 : Hp) : Res :=
  s50a3 rec n x0 x2 x4 (.i .i64 (Int.ofNat 0)) h0

noncomputable def s50a1 (rec : RT) (n : Nat) (x0 x2 : DV) (h0 : Hp) : Res :=
  bnd (pNil x0 h0) fun v249 h249 =>
  bnd (pField 1 v249 h249) fun v250 h250 =>
  bnd (pLoad1 v250 h250) fun v251 h251 =>
  bnd (pBuild [(.i .i64 (Int.ofNat 0)), (.s []), (.i .i64 (Int.ofNat 0)), (.i .i64 (Int.ofNat 0))] [(3, 1, v251)] h251) fun v252 h252 =>
  bnd (pNew [(.i .i64 (Int.ofNat 0)), (.s []), (.i .i64 (Int.ofNat 0)), (.i .i64 (Int.ofNat 0))] h252) fun v253 h253 =>
  bnd (pStore 4 v253 v252 h253) fun _ h254 =>
  s50a2 rec n x0 x2 v253 h254

/-- lex.reader).token -/
noncomputable def s50 (rec : RT) (n : Nat) (x0 : DV) (h0 : Hp) : Res :=
  bnd (pNew [(.i .i64 (Int.ofNat 0)), (.s []), (.i .i64 (Int.ofNat 0)), (.i .i64 (Int.ofNat 0))] h0) fun v273 h273 =>
  s50a1 rec n x0 v273 h273

noncomputable abbrev c50 : Code := cf Try.f50
noncomputable abbrev c50x1 : Code := cR c50
noncomputable abbrev c50x2 : Code := cR c50x1
noncomputable abbrev c50x3 : Code := cR c50x2
noncomputable abbrev c50x4 : Code := cR c50x3
noncomputable abbrev c50x5 : Code := cR c50x4
noncomputable abbrev c50x6 : Code := cL c50x4
noncomputable abbrev c50x7 : Code := cL c50x3
noncomputable abbrev c50x8 : Code := cL c50x2
noncomputable abbrev c50x9 : Code := cL c50x1
noncomputable abbrev c50x10 : Code := cL c50

noncomputable def D50 (rec : RT) (n : Nat) (c : Code) (X : Nat → K) (k : K) : K := codeD CF rec 153 n c X (retK CF Try.f50) k

theorem s50a5e : D50 rec n c50x5 x0 (retK CF Try.f50) = (K3 (s50a5 rec n) 2 4 5) :=
  (by kernel_rfl)

theorem s50a4p1 : D50 rec n c50x4 x0 (retK CF Try.f50) = D50 rec n c50x6 x0 (K3 (s50a5 rec n) 2 4 5) :=
  congrArg (fun k => D50 rec n c50x6 x0 k) (s50a5e rec n)

theorem s50a4e : D50 rec n c50x4 x0 (retK CF Try.f50) = (K5 (s50a4 rec n) 0 2 4 5 6) :=
  (s50a4p1 rec n).trans
  ((by kernel_rfl))

theorem s50a3p2 : D50 rec n c50x3 x0 (retK CF Try.f50) = D50 rec n c50x7 x0 (K5 (s50a4 rec n) 0 2 4 5 6) :=
  congrArg (fun k => D50 rec n c50x7 x0 k) (s50a4e rec n)

theorem s50a3e : D50 rec n c50x3 x0 (retK CF Try.f50) = (K4 (s50a3 rec n) 0 2 4 5) :=
  (s50a3p2 rec n).trans
  ((by kernel_rfl))

theorem s50a2p3 : D50 rec n c50x2 x0 (retK CF Try.f50) = D50 rec n c50x8 x0 (K4 (s50a3 rec n) 0 2 4 5) :=
  congrArg (fun k => D50 rec n c50x8 x0 k) (s50a3e rec n)

theorem s50a2e : D50 rec n c50x2 x0 (retK CF Try.f50) = (K3 (s50a2 rec n) 0 2 4) :=
  (s50a2p3 rec n).trans
  ((by kernel_rfl))

theorem s50a1p4 : D50 rec n c50x1 x0 (retK CF Try.f50) = D50 rec n c50x9 x0 (K3 (s50a2 rec n) 0 2 4) :=
  congrArg (fun k => D50 rec n c50x9 x0 k) (s50a2e rec n)

theorem s50a1q5 (q0 : TT3) : D50 rec n c50x9 x0 (K3 q0 0 2 4) = fun (env : Env) (h : Hp) =>
    bnd (pNil (env 0) h) fun v261 h261 =>
    bnd (pField 1 v261 h261) fun v262 h262 =>
    bnd (pLoad1 v262 h262) fun v263 h263 =>
    bnd (pBuild [(.i .i64 (Int.ofNat 0)), (.s []), (.i .i64 (Int.ofNat 0)), (.i .i64 (Int.ofNat 0))] [(3, 1, v263)] h263) fun v264 h264 =>
    bnd (pNew [(.i .i64 (Int.ofNat 0)), (.s []), (.i .i64 (Int.ofNat 0)), (.i .i64 (Int.ofNat 0))] h264) fun v265 h265 =>
    bnd (pStore 4 v265 v264 h265) fun _ h266 =>
    q0 (env 0) (env 2) v265 h266 := by kernel_rfl

theorem s50a1q5u : (fun (env : Env) (h : Hp) =>
    bnd (pNil (env 0) h) fun v267 h267 =>
    bnd (pField 1 v267 h267) fun v268 h268 =>
    bnd (pLoad1 v268 h268) fun v269 h269 =>
    bnd (pBuild [(.i .i64 (Int.ofNat 0)), (.s []), (.i .i64 (Int.ofNat 0)), (.i .i64 (Int.ofNat 0))] [(3, 1, v269)] h269) fun v270 h270 =>
    bnd (pNew [(.i .i64 (Int.ofNat 0)), (.s []), (.i .i64 (Int.ofNat 0)), (.i .i64 (Int.ofNat 0))] h270) fun v271 h271 =>
    bnd (pStore 4 v271 v270 h271) fun _ h272 =>
    s50a2 rec n (env 0) (env 2) v271 h272) = (K2 (s50a1 rec n) 0 2) := by kernel_rfl

theorem s50a1e : D50 rec n c50x1 x0 (retK CF Try.f50) = (K2 (s50a1 rec n) 0 2) :=
  (s50a1p4 rec n).trans
  ((s50a1q5 rec n (s50a2 rec n)).trans (s50a1q5u rec n))

theorem s50p6 : D50 rec n c50 x0 (retK CF Try.f50) = D50 rec n c50x10 x0 (K2 (s50a1 rec n) 0 2) :=
  congrArg (fun k => D50 rec n c50x10 x0 k) (s50a1e rec n)

theorem s50q7 (q0 : TT2) : D50 rec n c50x10 x0 (K2 q0 0 2) = fun (env : Env) (h : Hp) =>
    bnd (pNew [(.i .i64 (Int.ofNat 0)), (.s []), (.i .i64 (Int.ofNat 0)), (.i .i64 (Int.ofNat 0))] h) fun v275 h275 =>
    q0 (env 0) v275 h275 := by kernel_rfl

theorem s50q7u : (fun (env : Env) (h : Hp) =>
    bnd (pNew [(.i .i64 (Int.ofNat 0)), (.s []), (.i .i64 (Int.ofNat 0)), (.i .i64 (Int.ofNat 0))] h) fun v276 h276 =>
    s50a1 rec n (env 0) v276 h276) = (K1 (s50 rec n) 0) := by kernel_rfl

theorem s50m : D50 rec n c50 x0 (retK CF Try.f50) = (K1 (s50 rec n) 0) :=
  (s50p6 rec n).trans
  ((s50q7 rec n (s50a1 rec n)).trans (s50q7u rec n))

theorem s50ok (args : List DV) (h : Hp) : bodyD CF rec n 50 args h = s50 rec n (args.getD 0 undefD) h :=
  (by kernel_rfl : bodyD CF rec n 50 args h = D50 rec n c50 x0 (retK CF Try.f50) (argsE args) h).trans ((congrFun (congrFun (s50m rec n) (argsE args)) h).trans (by kernel_rfl))

/-- parse.parser).is -/
noncomputable def s51 (rec : RT) (n : Nat) (x0 x1 x2 : DV) (h0 : Hp) : Res :=
  bnd (rec 55 [x0, (.i .i64 (Int.ofNat 0))] h0) fun v1 h1 =>
  bnd (pNew [(.i .i64 (Int.ofNat 0)), (.s []), (.i .i64 (Int.ofNat 0)), (.i .i64 (Int.ofNat 0))] h1) fun v2 h2 =>
  bnd (pStore 4 v2 v1 h2) fun _ h3 =>
  bnd (pNil x0 h3) fun v4 h4 =>
  bnd (pField 3 v4 h4) fun v5 h5 =>
  bnd (pLoad1 v5 h5) fun v6 h6 =>
  bnd (pInt .eql v6 (.i .i64 (Int.ofNat 0)) h6) fun v7 h7 =>
  bnd (gD v7 true (pField 0 v2 h7) h7) fun v8 h8 =>
  bnd (gD v7 true (pLoad1 v8 h8) h8) fun v9 h9 =>
  bnd (gD v7 true (some (x1, h9)) h9) fun v10 h10 =>
  bnd (gD v7 true (pInt .eql v9 v10 h10) h10) fun v11 h11 =>
  bnd (pPick v7 v11 (.b false) h11) fun v12 h12 =>
  bnd (gD v12 true (some (x2, h12)) h12) fun v13 h13 =>
  bnd (gD v12 true (pStr .eql v13 (.s []) h13) h13) fun v14 h14 =>
  bnd (gD v12 true (some (v14, h14)) h14) fun v15 h15 =>
  bnd (gD v15 false (pField 1 v2 h15) h15) fun v16 h16 =>
  bnd (gD v15 false (pLoad1 v16 h16) h16) fun v17 h17 =>
  bnd (gD v15 false (some (x2, h17)) h17) fun v18 h18 =>
  bnd (gD v15 false (pStr .eql v17 v18 h18) h18) fun v19 h19 =>
  bnd (gD v12 true (pPick v15 (.b true) v19 h19) h19) fun v20 h20 =>
  bnd (pPick v12 v20 (.b false) h20) fun v21 h21 =>
  some (v21, h21)

noncomputable abbrev c51 : Code := cf Try.f51

noncomputable def D51 (rec : RT) (n : Nat) (c : Code) (X : Nat → K) (k : K) : K := codeD CF rec 31 n c X (retK CF Try.f51) k

theorem s51m : D51 rec n c51 x0 (retK CF Try.f51) = (K3 (s51 rec n) 0 1 2) :=
  (by kernel_rfl)

theorem s51ok (args : List DV) (h : Hp) : bodyD CF rec n 51 args h = s51 rec n (args.getD 0 undefD) (args.getD 1 undefD) (args.getD 2 undefD) h :=
  (by kernel_rfl : bodyD CF rec n 51 args h = D51 rec n c51 x0 (retK CF Try.f51) (argsE args) h).trans ((congrFun (congrFun (s51m rec n) (argsE args)) h).trans (by kernel_rfl))

noncomputable def s52a3 (rec : RT) (n : Nat) (x2 x3 : DV) (h0 : Hp) : Res :=
  bnd (pLoadA 4 x3 h0) fun v1 h1 =>
  bnd (pStore 4 x2 v1 h1) fun _ h2 =>
  bnd (pLoadA 4 x2 h2) fun v3 _ =>
  some (v3, h2)

noncomputable def s52a2 (rec : RT) (n : Nat) (x0 x2 x3 : DV) (h0 : Hp) : Res :=
  bnd (pField 0 x3 h0) fun v7 h7 =>
  bnd (pLoad1 v7 h7) fun v8 h8 =>
  bnd (pInt .neq v8 (.i .i64 (Int.ofNat 0)) h8) fun v9 h9 =>
  ifD v9 (
    bnd (pNil x0 h9) fun v10 h10 =>
    bnd (pField 0 v10 h10) fun v11 h11 =>
    bnd (pLoad1 v11 h11) fun v12 h12 =>
    bnd (pSlice 4 v12 (some (.i .i64 (Int.ofNat 1))) none h12) fun v13 h13 =>
    bnd (pNil x0 h13) fun v14 h14 =>
    bnd (pField 0 v14 h14) fun v15 h15 =>
    bnd (pStore 1 v15 v13 h15) fun _ h16 =>
    s52a3 rec n x2 x3 h16) (
    s52a3 rec n x2 x3 h9)

noncomputable def s52a1 (rec : RT) (n : Nat) (x0 x2 : DV) (h0 : Hp) : Res :=
  bnd (rec 55 [x0, (.i .i64 (Int.ofNat 0))] h0) fun v27 h27 =>
  bnd (pNew [(.i .i64 (Int.ofNat 0)), (.s []), (.i .i64 (Int.ofNat 0)), (.i .i64 (Int.ofNat 0))] h27) fun v28 h28 =>
  bnd (pStore 4 v28 v27 h28) fun _ h29 =>
  s52a2 rec n x0 x2 v28 h29

/-- parse.parser).take -/
noncomputable def s52 (rec : RT) (n : Nat) (x0 : DV) (h0 : Hp) : Res :=
  bnd (pNew [(.i .i64 (Int.ofNat 0)), (.s []), (.i .i64 (Int.ofNat 0)), (.i .i64 (Int.ofNat 0))] h0) fun v39 h39 =>
  s52a1 rec n x0 v39 h39

noncomputable abbrev c52 : Code := cf Try.f52
noncomputable abbrev c52x1 : Code := cR c52
noncomputable abbrev c52x2 : Code := cR c52x1
noncomputable abbrev c52x3 : Code := cR c52x2
noncomputable abbrev c52x4 : Code := cL c52x2
noncomputable abbrev c52x5 : Code := cL c52x1
noncomputable abbrev c52x6 : Code := cL c52

noncomputable def D52 (rec : RT) (n : Nat) (c : Code) (X : Nat → K) (k : K) : K := codeD CF rec 18 n c X (retK CF Try.f52) k

theorem s52a3e : D52 rec n c52x3 x0 (retK CF Try.f52) = (K2 (s52a3 rec n) 2 3) :=
  (by kernel_rfl)

theorem s52a2p1 : D52 rec n c52x2 x0 (retK CF Try.f52) = D52 rec n c52x4 x0 (K2 (s52a3 rec n) 2 3) :=
  congrArg (fun k => D52 rec n c52x4 x0 k) (s52a3e rec n)

theorem s52a2e : D52 rec n c52x2 x0 (retK CF Try.f52) = (K3 (s52a2 rec n) 0 2 3) :=
  (s52a2p1 rec n).trans
  ((by kernel_rfl))

theorem s52a1p2 : D52 rec n c52x1 x0 (retK CF Try.f52) = D52 rec n c52x5 x0 (K3 (s52a2 rec n) 0 2 3) :=
  congrArg (fun k => D52 rec n c52x5 x0 k) (s52a2e rec n)

theorem s52a1q3 (q0 : TT3) : D52 rec n c52x5 x0 (K3 q0 0 2 3) = fun (env : Env) (h : Hp) =>
    bnd (rec 55 [(env 0), (.i .i64 (Int.ofNat 0))] h) fun v33 h33 =>
    bnd (pNew [(.i .i64 (Int.ofNat 0)), (.s []), (.i .i64 (Int.ofNat 0)), (.i .i64 (Int.ofNat 0))] h33) fun v34 h34 =>
    bnd (pStore 4 v34 v33 h34) fun _ h35 =>
    q0 (env 0) (env 2) v34 h35 := by kernel_rfl

theorem s52a1q3u : (fun (env : Env) (h : Hp) =>
    bnd (rec 55 [(env 0), (.i .i64 (Int.ofNat 0))] h) fun v36 h36 =>
    bnd (pNew [(.i .i64 (Int.ofNat 0)), (.s []), (.i .i64 (Int.ofNat 0)), (.i .i64 (Int.ofNat 0))] h36) fun v37 h37 =>
    bnd (pStore 4 v37 v36 h37) fun _ h38 =>
    s52a2 rec n (env 0) (env 2) v37 h38) = (K2 (s52a1 rec n) 0 2) := by kernel_rfl

theorem s52a1e : D52 rec n c52x1 x0 (retK CF Try.f52) = (K2 (s52a1 rec n) 0 2) :=
  (s52a1p2 rec n).trans
  ((s52a1q3 rec n (s52a2 rec n)).trans (s52a1q3u rec n))

theorem s52p4 : D52 rec n c52 x0 (retK CF Try.f52) = D52 rec n c52x6 x0 (K2 (s52a1 rec n) 0 2) :=
  congrArg (fun k => D52 rec n c52x6 x0 k) (s52a1e rec n)

theorem s52q5 (q0 : TT2) : D52 rec n c52x6 x0 (K2 q0 0 2) = fun (env : Env) (h : Hp) =>
    bnd (pNew [(.i .i64 (Int.ofNat 0)), (.s []), (.i .i64 (Int.ofNat 0)), (.i .i64 (Int.ofNat 0))] h) fun v41 h41 =>
    q0 (env 0) v41 h41 := by kernel_rfl

theorem s52q5u : (fun (env : Env) (h : Hp) =>
    bnd (pNew [(.i .i64 (Int.ofNat 0)), (.s []), (.i .i64 (Int.ofNat 0)), (.i .i64 (Int.ofNat 0))] h) fun v42 h42 =>
    s52a1 rec n (env 0) v42 h42) = (K1 (s52 rec n) 0) := by kernel_rfl

theorem s52m : D52 rec n c52 x0 (retK CF Try.f52) = (K1 (s52 rec n) 0) :=
  (s52p4 rec n).trans
  ((s52q5 rec n (s52a1 rec n)).trans (s52q5u rec n))

theorem s52ok (args : List DV) (h : Hp) : bodyD CF rec n 52 args h = s52 rec n (args.getD 0 undefD) h :=
  (by kernel_rfl : bodyD CF rec n 52 args h = D52 rec n c52 x0 (retK CF Try.f52) (argsE args) h).trans ((congrFun (congrFun (s52m rec n) (argsE args)) h).trans (by kernel_rfl))

/-- parse.parser).expression -/
noncomputable def s53 (rec : RT) (n : Nat) (x0 : DV) (h0 : Hp) : Res :=
  bnd (pNew [(.i .i64 (Int.ofNat 0)), (.s []), (.i .i64 (Int.ofNat 0)), .l0, .l0, .l0] h0) fun v1 h1 =>
  bnd (rec 51 [x0, (.i .i64 (Int.ofNat 1)), (.s [])] h1) fun v2 h2 =>
  bnd (gD v2 true (some (x0, h2)) h2) fun v3 h3 =>
  bnd (gD v2 true (rec 55 [v3, (.i .i64 (Int.ofNat 1))] h3) h3) fun v4 h4 =>
  bnd (gD v2 true (pPart1 0 v4 h4) h4) fun v5 h5 =>
  bnd (gD v2 true (pInt .eql v5 (.i .i64 (Int.ofNat 9)) h5) h5) fun v6 h6 =>
  bnd (pPick v2 v6 (.b false) h6) fun v7 h7 =>
  ifD v7 (
    bnd (rec 52 [x0] h7) fun v8 h8 =>
    bnd (pPart1 1 v8 h8) fun v9 h9 =>
    bnd (pBuild [(.i .i64 (Int.ofNat 0)), (.s []), (.i .i64 (Int.ofNat 0)), .l0, .l0, .l0] [(0, 1, (.i .i64 (Int.ofNat 6))), (1, 1, v9)] h9) fun v10 h10 =>
    bnd (pNew [(.i .i64 (Int.ofNat 0)), (.s []), (.i .i64 (Int.ofNat 0)), .l0, .l0, .l0] h10) fun v11 h11 =>
    bnd (pStore 6 v11 v10 h11) fun _ h12 =>
    bnd (rec 52 [x0] h12) fun v13 h13 =>
    bnd (rec 53 [x0] h13) fun v14 h14 =>
    bnd (pBuildSlice [(.i .i64 (Int.ofNat 0)), (.s []), (.i .i64 (Int.ofNat 0)), .l0, .l0, .l0] 1 [(0, 6, v14)] h14) fun v15 h15 =>
    bnd (pField 5 v11 h15) fun v16 h16 =>
    bnd (pStore 1 v16 v15 h16) fun _ h17 =>
    bnd (pLoadA 6 v11 h17) fun v18 h18 =>
    bnd (pStore 6 v1 v18 h18) fun _ h19 =>
    bnd (pLoadA 6 v1 h19) fun v20 _ =>
    some (v20, h19)) (
    bnd (rec 72 [x0] h7) fun v21 h21 =>
    bnd (pStore 6 v1 v21 h21) fun _ h22 =>
    bnd (pLoadA 6 v1 h22) fun v23 _ =>
    some (v23, h22))

noncomputable abbrev c53 : Code := cf Try.f53

noncomputable def D53 (rec : RT) (n : Nat) (c : Code) (X : Nat → K) (k : K) : K := codeD CF rec 25 n c X (retK CF Try.f53) k

theorem s53m : D53 rec n c53 x0 (retK CF Try.f53) = (K1 (s53 rec n) 0) :=
  (by kernel_rfl)

theorem s53ok (args : List DV) (h : Hp) : bodyD CF rec n 53 args h = s53 rec n (args.getD 0 undefD) h :=
  (by kernel_rfl : bodyD CF rec n 53 args h = D53 rec n c53 x0 (retK CF Try.f53) (argsE args) h).trans ((congrFun (congrFun (s53m rec n) (argsE args)) h).trans (by kernel_rfl))

/-- parse.parser).fail -/
noncomputable def s54 (rec : RT) (n : Nat) (x0 x1 x2 : DV) (h0 : Hp) : Res :=
  bnd (pBox x1 h0) fun v1 h1 =>
  bnd (pNil x0 h1) fun v2 h2 =>
  bnd (pField 3 v2 h2) fun v3 h3 =>
  bnd (pLoad1 v3 h3) fun v4 h4 =>
  bnd (pInt .eql v4 (.i .i64 (Int.ofNat 0)) h4) fun v5 h5 =>
  ifD v5 (
    bnd (pField 3 v1 h5) fun v6 h6 =>
    bnd (pLoad1 v6 h6) fun v7 h7 =>
    bnd (pNil x0 h7) fun v8 h8 =>
    bnd (pField 2 v8 h8) fun v9 h9 =>
    bnd (pStore 1 v9 v7 h9) fun _ h10 =>
    bnd (pNil x0 h10) fun v11 h11 =>
    bnd (pField 3 v11 h11) fun v12 h12 =>
    bnd (pStore 1 v12 x2 h12) fun _ h13 =>
    some (.t [], h13)) (
    some (.t [], h5))

noncomputable abbrev c54 : Code := cf Try.f54

noncomputable def D54 (rec : RT) (n : Nat) (c : Code) (X : Nat → K) (k : K) : K := codeD CF rec 20 n c X (retK CF Try.f54) k

theorem s54m : D54 rec n c54 x0 (retK CF Try.f54) = (K3 (s54 rec n) 0 1 2) :=
  (by kernel_rfl)

theorem s54ok (args : List DV) (h : Hp) : bodyD CF rec n 54 args h = s54 rec n (args.getD 0 undefD) (args.getD 1 undefD) (args.getD 2 undefD) h :=
  (by kernel_rfl : bodyD CF rec n 54 args h = D54 rec n c54 x0 (retK CF Try.f54) (argsE args) h).trans ((congrFun (congrFun (s54m rec n) (argsE args)) h).trans (by kernel_rfl))

/-- parse.parser).look -/
noncomputable def s55 (rec : RT) (n : Nat) (x0 x1 : DV) (h0 : Hp) : Res :=
  bnd (pNew [(.i .i64 (Int.ofNat 0)), (.s []), (.i .i64 (Int.ofNat 0)), (.i .i64 (Int.ofNat 0))] h0) fun v1 h1 =>
  bnd (pNil x0 h1) fun v2 h2 =>
  bnd (pField 0 v2 h2) fun v3 h3 =>
  bnd (pLoad1 v3 h3) fun v4 h4 =>
  bnd (pNil x0 h4) fun v5 h5 =>
  bnd (pField 0 v5 h5) fun v6 h6 =>
  bnd (pLoad1 v6 h6) fun v7 h7 =>
  bnd (pLen v7 h7) fun v8 h8 =>
  bnd (pInt .sub v8 (.i .i64 (Int.ofNat 1)) h8) fun v9 h9 =>
  bnd (pMin x1 v9 h9) fun v10 h10 =>
  bnd (pIndexAddr 4 v4 v10 h10) fun v11 h11 =>
  bnd (pLoadA 4 v11 h11) fun v12 h12 =>
  bnd (pStore 4 v1 v12 h12) fun v13 h13 =>
  bnd (pLoadA 4 v1 h13) fun v14 _ =>
  some (v14, h13)

noncomputable abbrev c55 : Code := cf Try.f55

noncomputable def D55 (rec : RT) (n : Nat) (c : Code) (X : Nat → K) (k : K) : K := codeD CF rec 19 n c X (retK CF Try.f55) k

theorem s55m : D55 rec n c55 x0 (retK CF Try.f55) = (K2 (s55 rec n) 0 1) :=
  (by kernel_rfl)

theorem s55ok (args : List DV) (h : Hp) : bodyD CF rec n 55 args h = s55 rec n (args.getD 0 undefD) (args.getD 1 undefD) h :=
  (by kernel_rfl : bodyD CF rec n 55 args h = D55 rec n c55 x0 (retK CF Try.f55) (argsE args) h).trans ((congrFun (congrFun (s55m rec n) (argsE args)) h).trans (by kernel_rfl))

end Go.Dd

