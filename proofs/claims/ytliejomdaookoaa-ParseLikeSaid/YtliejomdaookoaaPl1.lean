/- A part of the proof: O Qh Q0 Q1 Q2 Q3: each text has a comment of its own. -/
import Derived.Test.YtliejomdaookoaaPl0
import Derived.LoopN
import Derived.Scope
import Derived.Test.YtliejomdaookoaaProg
import Derived.KernelRfl
/- Dd, part O: code and functions: what Dd says of a function is so. -/
set_option linter.unusedSimpArgs false
set_option linter.constructorNameAsVariable false
set_option linter.unusedVariables false
namespace Go.Dd
open Go.RowKit (Below)

section
variable {C : Cfg} {G : Gd} {rec : FuncId → List DV → Hp → Res} {nt n : Nat}

/-- The run has come to a place from which Dd goes on by k to r. -/
def St (G : Gd) (nt : Nat) (ρ : Ren) (w0 : World) (k : K) (r : DV × Hp) (a : Act) (w : World) : Prop :=
  ∃ ρ' env h, Ex G ρ ρ' ∧ HR G ρ' h w ∧ EnvR ρ' env a ∧ Kp G w0 w ∧ nt ≤ a.tmps.size ∧ a.defers = [] ∧ k env h = some r

def QQ (G : Gd) (nt : Nat) (ρ : Ren) (w0 : World) (X : Nat → K) (kr k : K) (r : DV × Hp) : Exit → Act → World → Prop
  | .normal, a, w => St G nt ρ w0 k r a w
  | .exit id, a, w => St G nt ρ w0 (X id) r a w
  | .ret, a, w => St G nt ρ w0 kr r a w
  | _, _, _ => False

theorem code_wp (K : OkC C rec) (hm : C.P.follows .mixedOrders = true) {ρ : Ren} {w0 : World} {r : DV × Hp} : ∀ (c : Code) (X : Nat → Dd.K) (kr k : Dd.K) (a : Act) (w : World),
    St G nt ρ w0 (codeD C rec nt n c X kr k) r a w → c.wp C.P (QQ G nt ρ w0 X kr k r) a w := by
  intro c
  induction c with
  | skip => intro X kr k a w h; exact wp_skip h
  | region id ops dr =>
    intro X kr k a w h
    obtain ⟨ρ', env, hp, h1, h2, h3, h4, h5, h6, h7⟩ := h
    change (Bool.rec (motive := fun _ => Dd.K) (opsD C rec nt ops ops.toList k) (Bool.rec (motive := fun _ => Dd.K) failK (drawK C rec nt ops k) (drawOk C.P ops)) dr) env hp = some r at h7
    cases dr with
    | true =>
      dsimp only at h7
      cases hok : drawOk C.P ops with
      | false => rw [hok] at h7; cases h7
      | true =>
        rw [hok] at h7
        exact draw_wp K hm hok h7 h2 h3 h5 h6 fun ρ2 env2 h2' a2 w2 e1 e2 e3 e4 e5 e6 e7 => ⟨ρ2, env2, h2', h1.trans e1, e2, e3, h4.trans e4, e5, e6, e7⟩
    | false =>
      simp only [cond_false] at h7
      obtain ⟨env', h', hr, hk⟩ := opsD_run ops.toList k env hp r h7
      refine wp_region ?_
      have := ops_wp (Q := QQ G nt ρ w0 X kr k r) K ops.toList 0 ρ' env hp a w (by simp) hr h2 h3 h5 h6 fun ρ2 a2 w2 e1 e2 e3 e4 e5 e6 => ⟨ρ2, env', h', h1.trans e1, e2, e3, h4.trans e4, e5, e6, hk⟩
      rw [List.range_eq_range']
      simpa using this
  | seq x y ihx ihy =>
    intro X kr k a w h
    refine wp_seq (wp_mono (ihx X kr (codeD C rec nt n y X kr k) a w h) fun e a' w' hq => ?_)
    cases e with
    | normal => exact ihy X kr k a' w' hq
    | exit id => exact hq
    | ret => exact hq
    | goto l => exact hq
    | panic ch => exact hq
    | outgrown => exact hq
  | cond c x y ihx ihy =>
    intro X kr k a w h
    obtain ⟨ρ', env, hp, h1, h2, h3, h4, h5, h6, h7⟩ := h
    change ifD (opr env c) (codeD C rec nt n x X kr k env hp) (codeD C rec nt n y X kr k env hp) = some r at h7
    have hc := opr_ok h3 c
    unfold ifD at h7
    split at h7 <;> (try (cases h7; done))
    · rename_i hcb
      rw [hcb] at hc
      generalize hcv : a.eval c = cv at hc
      cases hc
      exact wp_cond_true hcv (ihx X kr k a w ⟨ρ', env, hp, h1, h2, h3, h4, h5, h6, h7⟩)
    · rename_i hcb
      rw [hcb] at hc
      generalize hcv : a.eval c = cv at hc
      cases hc
      exact wp_cond_false hcv (ihy X kr k a w ⟨ρ', env, hp, h1, h2, h3, h4, h5, h6, h7⟩)
  | block id x ih =>
    intro X kr k a w h
    refine wp_block (wp_mono (ih (fun j => bif Nat.beq j id then k else X j) kr k a w h) fun e a' w' hq => ?_)
    cases e with
    | normal => exact hq
    | exit id' =>
      simp only [QQ] at hq
      simp only [Exit.inBlock, QQ]
      split
      · rename_i e
        subst e
        have hb : Nat.beq id' id' = true := Nat.beq_refl id'
        rw [hb] at hq
        exact hq
      · rename_i e
        have : Nat.beq id' id = false := by
          cases hb : Nat.beq id' id with
          | false => rfl
          | true => exact absurd (Nat.eq_of_beq_eq_true hb) e
        rw [this] at hq
        exact hq
    | ret => exact hq
    | goto l => exact hq
    | panic ch => exact hq
    | outgrown => exact hq
  | loop x ih =>
    intro X kr k a w h
    have key : ∀ (m : Nat) (a : Act) (w : World), St G nt ρ w0 (loopN (fun kk => codeD C rec nt n x X kr kk) m) r a w → Code.rounds C.P x (QQ G nt ρ w0 X kr k r) m a w := by
      intro m
      induction m with
      | zero =>
        rintro a w ⟨ρ', env, hp, h1, h2, h3, h4, h5, h6, h7⟩
        cases h7
      | succ m ihm =>
        intro a w hs
        rw [rounds_succ]
        refine wp_mono (ih X kr (loopN (fun kk => codeD C rec nt n x X kr kk) m) a w hs) fun e a' w' hq => ?_
        cases e with
        | normal => exact ihm a' w' hq
        | exit id => exact hq
        | ret => exact hq
        | goto l => exact hq
        | panic ch => exact hq
        | outgrown => exact hq
    exact wp_loop_rounds n (key n a w h)
  | rangeFunc f ps x y ihx ihy =>
    rintro X kr k a w ⟨ρ', env, hp, h1, h2, h3, h4, h5, h6, h7⟩
    cases h7
  | exit id => intro X kr k a w h; exact wp_exit h
  | scope x ih =>
    intro X kr k a w h
    refine wp_scope_straight (wp_mono (ih X kr k a w h) fun e a' w' hq => ?_)
    cases e with
    | goto l => exact hq
    | normal => exact hq
    | exit id => exact hq
    | ret => exact hq
    | panic ch => exact hq
    | outgrown => exact hq
  | label l => intro X kr k a w h; exact wp_label h
  | goto l =>
    rintro X kr k a w ⟨ρ', env, hp, h1, h2, h3, h4, h5, h6, h7⟩
    cases h7
  | ret => intro X kr k a w h; exact wp_ret h
  | refuse why =>
    rintro X kr k a w ⟨ρ', env, hp, h1, h2, h3, h4, h5, h6, h7⟩
    cases h7

/-! ### Results -/

def resSem (tmps : Array Value) (rv : ResultVar) : Sem Value :=
  match rv with
  | .tmp t => pure (tmps.getD t undef)
  | .cell q t => do loadVar t (← asAddr (tmps.getD q undef))

theorem results_eq (fn : Func) (tmps : Array Value) : results fn tmps = (do
    let vs ← fn.results.mapM (resSem tmps)
    pure (if h : vs.size = 1 then vs[0] else .tuple vs)) := by
  unfold results
  congr 2

theorem loadK_ok {ρ : Ren} {w : World} {h : Hp} {x : DV} {x' : Value} {t : TypeId} {k : DV → Res} {r : DV × Hp} (H : HR G ρ h w) (hx : VR ρ x x') (hr : loadK C t x h k = some r) :
    ∃ v v', (do loadVar t (← asAddr x') : Sem Value).run C.P w = .ok v' w ∧ VR ρ v v' ∧ k v = some r := by
  unfold loadK at hr
  split at hr <;> (try (cases hr; done))
  rename_i d i ht hi
  obtain ⟨v, h', hl, hk⟩ := bnd_some hr
  have hconv : ∀ b o, x = .p b o → (Instr.loadAt t x') = (do loadVar t (← asAddr x')) := by
    rintro b o rfl
    cases hx
    simp [Instr.loadAt, Instr.sureAddr, asAddr]
  cases hd : isAgD d with
  | true =>
    rw [hd] at hl
    simp only [cond_true] at hl
    unfold pLoadA at hl
    split at hl <;> (try (cases hl; done))
    rename_i b o
    split at hl <;> (try (cases hl; done))
    rename_i cs hc
    simp only [Option.some.injEq, Prod.mk.injEq] at hl
    obtain ⟨rfl, _⟩ := hl
    cases hx with
    | p _ _ L hL =>
      obtain ⟨c1, c2, _, vs, c4, c5, c6⟩ := cellsAt_spec H hc hL
      have hrun := run_loadCells_ok (P := C.P) vs rfl c6
      rw [c5] at hrun
      refine ⟨_, .agg vs.toArray, ?_, .a cs vs.toArray (by simpa using c4), hk⟩
      simp only [asAddr, Sem.run_bind, Sem.run_pure, Result.andThen_ok, loadVar, rA ht, hd, if_true, rS hi, hrun]
  | false =>
    rw [hd] at hl
    simp only [cond_false] at hl
    unfold pLoad1 at hl
    split at hl <;> (try (cases hl; done))
    rename_i b o
    split at hl <;> (try (cases hl; done))
    rename_i u' hc
    simp only [Option.some.injEq, Prod.mk.injEq] at hl
    obtain ⟨rfl, _⟩ := hl
    cases hx with
    | p _ _ L hL =>
      unfold cellD rowOf at hc
      split at hc <;> (try (cases hc; done))
      rename_i l hl
      split at hl <;> (try (cases hl; done))
      rename_i kd l0 hb
      simp only [Option.some.injEq] at hl
      subst hl
      split at hc <;> (try (cases hc; done))
      rename_i u0 hu
      split at hc <;> (try (cases hc; done))
      rename_i ho
      simp only [Option.some.injEq] at hc
      subst hc
      obtain ⟨v', h5, h6⟩ := H.cell b kd l0 L o u0 hb hL hu ho
      refine ⟨_, v', ?_, h6, hk⟩
      simp only [asAddr, Sem.run_bind, Sem.run_pure, Result.andThen_ok, loadVar, rA ht, hd, Bool.false_eq_true, if_false, run_load, h5]

theorem retGo_ok {ρ : Ren} {w : World} {h : Hp} {env : Env} {a : Act} (H : HR G ρ h w) (he : EnvR ρ env a) {r : DV × Hp} : ∀ (l : List ResultVar) (k : List DV → Res), retGo C env h l k = some r →
    ∃ vs vs', (l.mapM (resSem a.tmps)).run C.P w = .ok vs' w ∧ VRs ρ vs vs' ∧ k vs = some r
  | [], k, hr => ⟨[], [], by simp, .nil, hr⟩
  | .tmp t :: l, k, hr => by
    obtain ⟨vs, vs', h1, h2, h3⟩ := retGo_ok H he l (fun vs => k (env t :: vs)) hr
    refine ⟨env t :: vs, a.tmps.getD t undef :: vs', ?_, .cons _ _ _ _ (he t) h2, h3⟩
    simp only [List.mapM_cons, Sem.run_bind, resSem, Result.andThen_ok, h1, Sem.run_pure]
  | .cell q t :: l, k, hr => by
    obtain ⟨v, v', h1, h2, h3⟩ := loadK_ok (x' := a.tmps.getD q undef) H (he q) hr
    obtain ⟨vs, vs', h4, h5, h6⟩ := retGo_ok H he l (fun vs => k (v :: vs)) h3
    refine ⟨v :: vs, v' :: vs', ?_, .cons _ _ _ _ h2 h5, h6⟩
    simp only [List.mapM_cons, Sem.run_bind, resSem] at h1 ⊢
    simp only [h1, Result.andThen_ok, h4, Sem.run_pure]

theorem retK_ok {ρ : Ren} {w : World} {h h1 : Hp} {env : Env} {a : Act} (H : HR G ρ h w) (he : EnvR ρ env a) {fn : Func} {v : DV} (hr : retK C fn env h = some (v, h1)) :
    h1 = h ∧ ∃ v', (results fn a.tmps).run C.P w = .ok v' w ∧ VR ρ v v' := by
  obtain ⟨us, vs', h2, h3, hk⟩ := retGo_ok H he _ _ hr
  unfold doneK at hk
  split at hk
  · rename_i u
    simp only [Option.some.injEq, Prod.mk.injEq] at hk
    obtain ⟨rfl, rfl⟩ := hk
    cases h3 with
    | cons _ v' _ l' hv hn =>
      cases hn
      refine ⟨rfl, v', ?_, hv⟩
      rw [results_eq, Array.mapM_eq_mapM_toList]
      simp only [Sem.run_bind, Sem.run_map, h2, Result.andThen_ok, Sem.run_pure]
      simp
  · rename_i hne
    simp only [Option.some.injEq, Prod.mk.injEq] at hk
    obtain ⟨rfl, rfl⟩ := hk
    have hl := h3.length
    have hne1 : vs'.length ≠ 1 := by
      intro e
      rw [e] at hl
      match us, hl with
      | [x], _ => exact hne x rfl
    refine ⟨rfl, .tuple vs'.toArray, ?_, .t _ _ (by simpa using h3)⟩
    rw [results_eq, Array.mapM_eq_mapM_toList]
    simp only [Sem.run_bind, Sem.run_map, h2, Result.andThen_ok, Sem.run_pure]
    rw [dif_neg (by simpa using hne1)]

/-- What is asked of a program. -/
structure POk (P : Program) : Prop where
  mixed : P.follows .mixedOrders = true
  names : ∀ (f : Nat) (fn : Func), P.funcs[f]? = some fn → (fn.name == "runtime.NumGoroutine") = false

theorem body_ok (K : OkC C rec) (hP : POk C.P) (n : Nat) (f : FuncId) : FnOk C.P G f (bodyD C rec n f) := by
  intro args h v h1 hr ρ w args' H hargs
  unfold bodyD at hr
  split at hr <;> (try (cases hr; done))
  rename_i fn hf
  split at hr <;> (try (cases hr; done))
  rename_i c hb
  refine .inl ⟨?_, ?_⟩
  · unfold callFunc
    have hn : ¬ fn.name = "runtime.NumGoroutine" := by simpa using hP.names f fn hf
    simp [hf, hn, hb]
  · refine calls_of_wp hf hb ?_
    have he : EnvR ρ (argsE args) { tmps := args' ++ Array.replicate (fn.ntmps - args'.size) undef, defers := [] } := by
      intro t
      unfold argsE
      have hlen := hargs.length
      simp only [Array.length_toList] at hlen
      by_cases ht : t < args.length
      · have hg : args[t]? = some args[t] := by simp [ht]
        obtain ⟨v', h2, h3⟩ := hargs.get t _ hg
        simp only [Array.getElem?_toList] at h2
        rw [show args.getD t undefD = args[t] by simp [List.getD, hg]]
        have : (args' ++ Array.replicate (fn.ntmps - args'.size) undef).getD t undef = v' := by
          simp [Array.getElem?_append_left (show t < args'.size by omega), h2]
        rw [this]
        exact h3
      · have hg : args.getD t undefD = undefD := by simp [List.getD, List.getElem?_eq_none (Nat.le_of_not_lt ht)]
        rw [hg]
        have : (args' ++ Array.replicate (fn.ntmps - args'.size) undef).getD t undef = undef := by
          rw [Array.getD_eq_getD_getElem?, Array.getElem?_append_right (by omega)]
          simp only [Array.getElem?_replicate]
          split <;> rfl
        rw [this]
        exact .t [] #[] .nil
    have hst : St G fn.ntmps ρ w (codeD C rec fn.ntmps n c (fun _ => failK) (retK C fn) (retK C fn)) (v, h1) { tmps := args' ++ Array.replicate (fn.ntmps - args'.size) undef, defers := [] } w :=
      ⟨ρ, argsE args, h, Ex.refl G ρ, H, he, Kp.refl G w, by simp; omega, rfl, hr⟩
    refine wp_mono (code_wp K hP.mixed c _ _ _ _ _ hst) fun e a' w' hq => ?_
    have hfin : St G fn.ntmps ρ w (retK C fn) (v, h1) a' w' → a'.defers = [] ∧ ∃ v', (results fn a'.tmps).run C.P w' = .ok v' w' ∧ Post G ρ w v h1 (.returned v') w' := by
      rintro ⟨ρ', env, h', e1, e2, e3, e4, e5, e6, e7⟩
      obtain ⟨rfl, v', r1, r2⟩ := retK_ok e2 e3 e7
      exact ⟨e6, v', r1, ρ', v', rfl, e1, r2, e2, e4⟩
    cases e with
    | normal => exact hfin hq
    | ret => exact hfin hq
    | exit id =>
      obtain ⟨ρ', env, h', e1, e2, e3, e4, e5, e6, e7⟩ := hq
      cases e7
    | goto l => exact hq.elim
    | panic ch => exact hq.elim
    | outgrown => exact hq.elim

theorem fnD_ok (hP : POk C.P) (hI : ∀ G g F, C.I g = some F → FnOk C.P G g F) : ∀ (n : Nat) (G : Gd) (f : FuncId), FnOk C.P G f (fnD C n f)
  | 0, G, f => fun args h v h1 hr => by cases hr
  | n + 1, G, f => body_ok (rec := fnD C n) ⟨hI, fun G g => fnD_ok hP hI n G g⟩ hP n f

end
end Go.Dd

/- Dd, part Q (printed by gen.py): the functions of the seat's program as Lean functions, linked to Dd. -/
set_option linter.unusedVariables false
set_option maxRecDepth 100000
namespace Go.Dd
open Go.Proofs

def cf (f : Func) : Code := match f.body with
  | some c => c
  | none => .skip
def cL : Code → Code
  | .seq a _ => a
  | .cond _ a _ => a
  | .block _ a => a
  | .loop a => a
  | .scope a => a
  | c => c
def cR : Code → Code
  | .seq _ b => b
  | .cond _ _ b => b
  | c => c
def cC : Code → Operand
  | .cond c _ _ => c
  | _ => .const .nilFunc

def x0 : Nat → K := fun _ => failK
def xs (X : Nat → K) (i : Nat) (k : K) : Nat → K := fun j => bif Nat.beq j i then k else X j

def idxGo (c : Nat) : List Nat → Nat → Int
  | [], _ => .negSucc 0
  | x :: l, i => bif Nat.beq x c then .ofNat i else idxGo c l (i + 1)

def idxF (args : List DV) (h : Hp) : Res :=
  match args with
  | [.s l, .i .u8 (.ofNat c)] => bif Nat.blt c 256 then some (.i .i64 (idxGo c l 0), h) else none
  | _ => none

noncomputable def CF : Cfg := ⟨Try.prog, fun g => bif Nat.beq g 77 then some idxF else none⟩

abbrev RT := FuncId → List DV → Hp → Res
abbrev TT0 := Hp → Res
abbrev TT1 := DV → Hp → Res
abbrev TT2 := DV → DV → Hp → Res
abbrev TT3 := DV → DV → DV → Hp → Res
abbrev TT4 := DV → DV → DV → DV → Hp → Res
abbrev TT5 := DV → DV → DV → DV → DV → Hp → Res
abbrev TT6 := DV → DV → DV → DV → DV → DV → Hp → Res
abbrev TT7 := DV → DV → DV → DV → DV → DV → DV → Hp → Res
abbrev TT8 := DV → DV → DV → DV → DV → DV → DV → DV → Hp → Res
abbrev TT9 := DV → DV → DV → DV → DV → DV → DV → DV → DV → Hp → Res
abbrev TT10 := DV → DV → DV → DV → DV → DV → DV → DV → DV → DV → Hp → Res
abbrev TT11 := DV → DV → DV → DV → DV → DV → DV → DV → DV → DV → DV → Hp → Res
abbrev TT12 := DV → DV → DV → DV → DV → DV → DV → DV → DV → DV → DV → DV → Hp → Res
abbrev TT13 := DV → DV → DV → DV → DV → DV → DV → DV → DV → DV → DV → DV → DV → Hp → Res
abbrev TT14 := DV → DV → DV → DV → DV → DV → DV → DV → DV → DV → DV → DV → DV → DV → Hp → Res
abbrev TT15 := DV → DV → DV → DV → DV → DV → DV → DV → DV → DV → DV → DV → DV → DV → DV → Hp → Res
abbrev TT16 := DV → DV → DV → DV → DV → DV → DV → DV → DV → DV → DV → DV → DV → DV → DV → DV → Hp → Res
abbrev TT17 := DV → DV → DV → DV → DV → DV → DV → DV → DV → DV → DV → DV → DV → DV → DV → DV → DV → Hp → Res
abbrev TT18 := DV → DV → DV → DV → DV → DV → DV → DV → DV → DV → DV → DV → DV → DV → DV → DV → DV → DV → Hp → Res
abbrev TT19 := DV → DV → DV → DV → DV → DV → DV → DV → DV → DV → DV → DV → DV → DV → DV → DV → DV → DV → DV → Hp → Res
abbrev TT20 := DV → DV → DV → DV → DV → DV → DV → DV → DV → DV → DV → DV → DV → DV → DV → DV → DV → DV → DV → DV → Hp → Res
abbrev K0 (f : TT0) : K := fun env h => f h
abbrev K1 (f : TT1) (a0 : Nat) : K := fun env h => f (env a0) h
abbrev K2 (f : TT2) (a0 a1 : Nat) : K := fun env h => f (env a0) (env a1) h
abbrev K3 (f : TT3) (a0 a1 a2 : Nat) : K := fun env h => f (env a0) (env a1) (env a2) h
abbrev K4 (f : TT4) (a0 a1 a2 a3 : Nat) : K := fun env h => f (env a0) (env a1) (env a2) (env a3) h
abbrev K5 (f : TT5) (a0 a1 a2 a3 a4 : Nat) : K := fun env h => f (env a0) (env a1) (env a2) (env a3) (env a4) h
abbrev K6 (f : TT6) (a0 a1 a2 a3 a4 a5 : Nat) : K := fun env h => f (env a0) (env a1) (env a2) (env a3) (env a4) (env a5) h
abbrev K7 (f : TT7) (a0 a1 a2 a3 a4 a5 a6 : Nat) : K := fun env h => f (env a0) (env a1) (env a2) (env a3) (env a4) (env a5) (env a6) h
abbrev K8 (f : TT8) (a0 a1 a2 a3 a4 a5 a6 a7 : Nat) : K := fun env h => f (env a0) (env a1) (env a2) (env a3) (env a4) (env a5) (env a6) (env a7) h
abbrev K9 (f : TT9) (a0 a1 a2 a3 a4 a5 a6 a7 a8 : Nat) : K := fun env h => f (env a0) (env a1) (env a2) (env a3) (env a4) (env a5) (env a6) (env a7) (env a8) h
abbrev K10 (f : TT10) (a0 a1 a2 a3 a4 a5 a6 a7 a8 a9 : Nat) : K := fun env h => f (env a0) (env a1) (env a2) (env a3) (env a4) (env a5) (env a6) (env a7) (env a8) (env a9) h
abbrev K11 (f : TT11) (a0 a1 a2 a3 a4 a5 a6 a7 a8 a9 a10 : Nat) : K := fun env h => f (env a0) (env a1) (env a2) (env a3) (env a4) (env a5) (env a6) (env a7) (env a8) (env a9) (env a10) h
abbrev K12 (f : TT12) (a0 a1 a2 a3 a4 a5 a6 a7 a8 a9 a10 a11 : Nat) : K := fun env h => f (env a0) (env a1) (env a2) (env a3) (env a4) (env a5) (env a6) (env a7) (env a8) (env a9) (env a10) (env a11) h
abbrev K13 (f : TT13) (a0 a1 a2 a3 a4 a5 a6 a7 a8 a9 a10 a11 a12 : Nat) : K := fun env h => f (env a0) (env a1) (env a2) (env a3) (env a4) (env a5) (env a6) (env a7) (env a8) (env a9) (env a10) (env a11) (env a12) h
abbrev K14 (f : TT14) (a0 a1 a2 a3 a4 a5 a6 a7 a8 a9 a10 a11 a12 a13 : Nat) : K := fun env h => f (env a0) (env a1) (env a2) (env a3) (env a4) (env a5) (env a6) (env a7) (env a8) (env a9) (env a10) (env a11) (env a12) (env a13) h
abbrev K15 (f : TT15) (a0 a1 a2 a3 a4 a5 a6 a7 a8 a9 a10 a11 a12 a13 a14 : Nat) : K := fun env h => f (env a0) (env a1) (env a2) (env a3) (env a4) (env a5) (env a6) (env a7) (env a8) (env a9) (env a10) (env a11) (env a12) (env a13) (env a14) h
abbrev K16 (f : TT16) (a0 a1 a2 a3 a4 a5 a6 a7 a8 a9 a10 a11 a12 a13 a14 a15 : Nat) : K := fun env h => f (env a0) (env a1) (env a2) (env a3) (env a4) (env a5) (env a6) (env a7) (env a8) (env a9) (env a10) (env a11) (env a12) (env a13) (env a14) (env a15) h
abbrev K17 (f : TT17) (a0 a1 a2 a3 a4 a5 a6 a7 a8 a9 a10 a11 a12 a13 a14 a15 a16 : Nat) : K := fun env h => f (env a0) (env a1) (env a2) (env a3) (env a4) (env a5) (env a6) (env a7) (env a8) (env a9) (env a10) (env a11) (env a12) (env a13) (env a14) (env a15) (env a16) h
abbrev K18 (f : TT18) (a0 a1 a2 a3 a4 a5 a6 a7 a8 a9 a10 a11 a12 a13 a14 a15 a16 a17 : Nat) : K := fun env h => f (env a0) (env a1) (env a2) (env a3) (env a4) (env a5) (env a6) (env a7) (env a8) (env a9) (env a10) (env a11) (env a12) (env a13) (env a14) (env a15) (env a16) (env a17) h
abbrev K19 (f : TT19) (a0 a1 a2 a3 a4 a5 a6 a7 a8 a9 a10 a11 a12 a13 a14 a15 a16 a17 a18 : Nat) : K := fun env h => f (env a0) (env a1) (env a2) (env a3) (env a4) (env a5) (env a6) (env a7) (env a8) (env a9) (env a10) (env a11) (env a12) (env a13) (env a14) (env a15) (env a16) (env a17) (env a18) h
abbrev K20 (f : TT20) (a0 a1 a2 a3 a4 a5 a6 a7 a8 a9 a10 a11 a12 a13 a14 a15 a16 a17 a18 a19 : Nat) : K := fun env h => f (env a0) (env a1) (env a2) (env a3) (env a4) (env a5) (env a6) (env a7) (env a8) (env a9) (env a10) (env a11) (env a12) (env a13) (env a14) (env a15) (env a16) (env a17) (env a18) (env a19) h

end Go.Dd

/- Dd, part Q0 (printed by gen.py): functions of the seat's program as Lean functions, linked to Dd. -/
set_option linter.unusedVariables false
set_option maxRecDepth 100000
namespace Go.Dd
open Go.Proofs
noncomputable section

variable (rec : RT) (n : Nat)
def s7a2 (rec : RT) (n : Nat) (x0 : DV) (h0 : Hp) : Res :=
 bnd (rec 8 [x0] h0) fun v1 h1 =>
 bnd (pExtract 0 v1 h1) fun v2 h2 =>
 bnd (pExtract 1 v1 h2) fun v3 h3 =>
 bnd (pExtract 2 v1 h3) fun v4 h4 =>
 bnd (pNew [(.i .i64 (Int.ofNat 0)), (.s []), (.i .i64 (Int.ofNat 0)), .l0, .l0, .l0] h4) fun v5 h5 =>
 bnd (pStore 6 v5 v2 h5) fun _ h6 =>
 bnd (pStr .add (.s [102, 111, 111, 32]) x0 h6) fun v7 h7 =>
 bnd (rec 15 [v7] h7) fun v8 h8 =>
 bnd (pExtract 0 v8 h8) fun v9 h9 =>
 bnd (pExtract 1 v8 h9) fun v10 h10 =>
 bnd (pExtract 2 v8 h10) fun v11 h11 =>
 bnd (pNew [(.i .i64 (Int.ofNat 0)), (.s []), (.i .i64 (Int.ofNat 0)), .l0, .l0, .l0] h11) fun v12 h12 =>
 bnd (pStore 6 v12 v9 h12) fun _ h13 =>
 bnd (pLenS x0 h13) fun v14 h14 =>
 bnd (pInt .gtr v14 (.i .i64 (Int.ofNat 0)) h14) fun v15 h15 =>
 bnd (gD v15 true (some (v4, h15)) h15) fun v16 h16 =>
 bnd (gD v15 true (pInt .eql v16 (.i .i64 (Int.ofNat 0)) h16) h16) fun v17 h17 =>
 bnd (pPick v15 v17 (.b false) h17) fun v18 h18 =>
 bnd (gD v18 true (some (v11, h18)) h18) fun v19 h19 =>
 bnd (gD v18 true (pInt .eql v19 (.i .i64 (Int.ofNat 0)) h19) h19) fun v20 h20 =>
 bnd (pPick v18 v20 (.b false) h20) fun v21 h21 =>
 ifD v21 (
 bnd (pField 1 v5 h21) fun v22 h22 =>
 bnd (pStore 1 v22 (.s [102, 111, 111]) h22) fun _ h23 =>
 bnd (pField 2 v12 h23) fun v24 h24 =>
 bnd (pLoad1 v24 h24) fun v25 h25 =>
 bnd (pField 2 v5 h25) fun v26 h26 =>
 bnd (pStore 1 v26 v25 h26) fun _ h27 =>
 bnd (pLoadA 6 v5 h27) fun v28 h28 =>
 bnd (pLoadA 6 v12 h28) fun v29 h29 =>
 bnd (rec 11 [v28, v29] h29) fun v30 h30 =>
 bnd (gD v30 true (rec 9 [] h30) h30) fun v31 h31 =>
 bnd (pPick v30 v31 (.b false) h31) fun v32 h32 =>
 some (v32, h32)) (
 bnd (rec 16 [x0, (.b false)] h21) fun v33 h33 =>
 bnd (pExtract 0 v33 h33) fun v34 h34 =>
 bnd (pExtract 1 v33 h34) fun v35 h35 =>
 bnd (pExtract 2 v33 h35) fun v36 h36 =>
 bnd (pNew [(.i .i64 (Int.ofNat 0)), (.s []), (.i .i64 (Int.ofNat 0)), .l0, .l0, .l0] h36) fun v37 h37 =>
 bnd (pStore 6 v37 v34 h37) fun _ h38 =>
 bnd (pLoadA 6 v5 h38) fun v39 h39 =>
 bnd (pLoadA 6 v37 h39) fun v40 h40 =>
 bnd (rec 11 [v39, v40] h40) fun v41 h41 =>
 bnd (gD v41 true (some (v3, h41)) h41) fun v42 h42 =>
 bnd (gD v41 true (some (v35, h42)) h42) fun v43 h43 =>
 bnd (gD v41 true (pInt .eql v42 v43 h43) h43) fun v44 h44 =>
 bnd (pPick v41 v44 (.b false) h44) fun v45 h45 =>
 bnd (gD v45 true (some (v4, h45)) h45) fun v46 h46 =>
 bnd (gD v45 true (some (v36, h46)) h46) fun v47 h47 =>
 bnd (gD v45 true (pInt .eql v46 v47 h47) h47) fun v48 h48 =>
 bnd (pPick v45 v48 (.b false) h48) fun v49 h49 =>
 bnd (gD v49 true (some (v11, h49)) h49) fun v50 h50 =>
 bnd (gD v49 true (pInt .neq v50 (.i .i64 (Int.ofNat 0)) h50) h50) fun v51 h51 =>
 bnd (gD v49 true (some (v51, h51)) h51) fun v52 h52 =>
 bnd (gD v52 false (some (v10, h52)) h52) fun v53 h53 =>
 bnd (gD v52 false (pInt .eql v53 (.i .i64 (Int.ofNat 0)) h53) h53) fun v54 h54 =>
 bnd (gD v49 true (pPick v52 (.b true) v54 h54) h54) fun v55 h55 =>
 bnd (pPick v49 v55 (.b false) h55) fun v56 h56 =>
 bnd (gD v56 true (rec 9 [] h56) h56) fun v57 h57 =>
 bnd (pPick v56 v57 (.b false) h57) fun v58 h58 =>
 some (v58, h58))
def s7a1 (rec : RT) (n : Nat) (x0 : DV) (h0 : Hp) : Res :=
 bnd (pLenS x0 h0) fun v1 h1 =>
 bnd (pInt .gtr v1 (.i .i64 (Int.ofNat 300)) h1) fun v2 h2 =>
 ifD v2 (
 bnd (pSliceS x0 none (some (.i .i64 (Int.ofNat 300))) h2) fun v3 h3 =>
    s7a2 rec n v3 h3) (
    s7a2 rec n x0 h2)
/-- vivariumlaw07.ParseLike -/
def s7 (rec : RT) (n : Nat) (x0 : DV) (h0 : Hp) : Res :=
  s7a1 rec n x0 h0
abbrev c7 : Code := cf Try.f7
abbrev c7x1 : Code := cR c7
abbrev c7x2 : Code := cR c7x1
abbrev c7x3 : Code := cL c7x1
abbrev c7x4 : Code := cL c7
abbrev r7 : K := retK CF Try.f7
def D7 (rec : RT) (n : Nat) (c : Code) (X : Nat → K) (k : K) : K := codeD CF rec 81 n c X r7 k
theorem s7a2e : D7 rec n c7x2 x0 r7 = (K1 (s7a2 rec n) 0) :=
  (by kernel_rfl)
theorem s7a1p1 : D7 rec n c7x1 x0 r7 = D7 rec n c7x3 x0 (K1 (s7a2 rec n) 0) :=
  congrArg (fun k => D7 rec n c7x3 x0 k) (s7a2e rec n)
theorem s7a1e : D7 rec n c7x1 x0 r7 = (K1 (s7a1 rec n) 0) :=
  (s7a1p1 rec n).trans
  ((by kernel_rfl))
theorem s7p2 : D7 rec n c7 x0 r7 = D7 rec n c7x4 x0 (K1 (s7a1 rec n) 0) :=
  congrArg (fun k => D7 rec n c7x4 x0 k) (s7a1e rec n)
theorem s7m : D7 rec n c7 x0 r7 = (K1 (s7 rec n) 0) :=
  (s7p2 rec n).trans
  ((by kernel_rfl))
theorem s7ok (args : List DV) (h : Hp) : bodyD CF rec n 7 args h = s7 rec n (args.getD 0 undefD) h :=
  (by kernel_rfl : bodyD CF rec n 7 args h = D7 rec n c7 x0 r7 (argsE args) h).trans ((congrFun (congrFun (s7m rec n) (argsE args)) h).trans (by kernel_rfl))
/-- parse.Doit -/
def s8 (rec : RT) (n : Nat) (x0 : DV) (h0 : Hp) : Res :=
 bnd (pNew [(.i .i64 (Int.ofNat 0)), (.s []), (.i .i64 (Int.ofNat 0)), .l0, .l0, .l0] h0) fun v1 h1 =>
 bnd (rec 17 [x0, (.f 18 [] [])] h1) fun v2 h2 =>
 bnd (pExtract 0 v2 h2) fun v3 h3 =>
 bnd (pExtract 1 v2 h3) fun v4 h4 =>
 bnd (pExtract 2 v2 h4) fun v5 h5 =>
 bnd (pStore 6 v1 v3 h5) fun _ h6 =>
 bnd (pLoadA 6 v1 h6) fun v7 _ =>
 some (.t [v7, v4, v5], h6)
abbrev c8 : Code := cf Try.f8
abbrev r8 : K := retK CF Try.f8
def D8 (rec : RT) (n : Nat) (c : Code) (X : Nat → K) (k : K) : K := codeD CF rec 10 n c X r8 k
theorem s8m : D8 rec n c8 x0 r8 = (K1 (s8 rec n) 0) :=
  (by kernel_rfl)
theorem s8ok (args : List DV) (h : Hp) : bodyD CF rec n 8 args h = s8 rec n (args.getD 0 undefD) h :=
  (by kernel_rfl : bodyD CF rec n 8 args h = D8 rec n c8 x0 r8 (argsE args) h).trans ((congrFun (congrFun (s8m rec n) (argsE args)) h).trans (by kernel_rfl))
/-- vivariumlaw07.lives -/
def s9 (rec : RT) (n : Nat) (h0 : Hp) : Res :=
 bnd (rec 8 [(.s [94, 51, 32, 43, 32, 52, 32, 102, 111, 111, 58, 32, 53, 59, 32, 98, 97, 114])] h0) fun v1 h1 =>
 bnd (pExtract 0 v1 h1) fun v2 h2 =>
 bnd (pExtract 1 v1 h2) fun v3 h3 =>
 bnd (pExtract 2 v1 h3) fun v4 h4 =>
 bnd (pNew [(.i .i64 (Int.ofNat 0)), (.s []), (.i .i64 (Int.ofNat 0)), .l0, .l0, .l0] h4) fun v5 h5 =>
 bnd (pStore 6 v5 v2 h5) fun _ h6 =>
 bnd (rec 8 [(.s [120, 32, 58, 61, 32, 91, 58, 97, 32, 124, 32, 97, 93])] h6) fun v7 h7 =>
 bnd (pExtract 0 v7 h7) fun v8 h8 =>
 bnd (pExtract 1 v7 h8) fun v9 h9 =>
 bnd (pExtract 2 v7 h9) fun v10 h10 =>
 bnd (pNew [(.i .i64 (Int.ofNat 0)), (.s []), (.i .i64 (Int.ofNat 0)), .l0, .l0, .l0] h10) fun v11 h11 =>
 bnd (pStore 6 v11 v8 h11) fun _ h12 =>
 bnd (rec 8 [(.s [40])] h12) fun v13 h13 =>
 bnd (pExtract 0 v13 h13) fun v14 h14 =>
 bnd (pExtract 1 v13 h14) fun v15 h15 =>
 bnd (pExtract 2 v13 h15) fun v16 h16 =>
 bnd (pNew [(.i .i64 (Int.ofNat 0)), (.s []), (.i .i64 (Int.ofNat 0)), .l0, .l0, .l0] h16) fun v17 h17 =>
 bnd (pStore 6 v17 v14 h17) fun _ h18 =>
 bnd (pField 5 v5 h18) fun v19 h19 =>
 bnd (pLoad1 v19 h19) fun v20 h20 =>
 bnd (pLen v20 h20) fun v21 h21 =>
 bnd (pInt .neq v21 (.i .i64 (Int.ofNat 1)) h21) fun v22 h22 =>
 bnd (gD v22 false (pField 5 v5 h22) h22) fun v23 h23 =>
 bnd (gD v22 false (pLoad1 v23 h23) h23) fun v24 h24 =>
 bnd (gD v22 false (pIndexAddr 6 v24 (.i .i64 (Int.ofNat 0)) h24) h24) fun v25 h25 =>
 bnd (gD v22 false (pField 5 v25 h25) h25) fun v26 h26 =>
 bnd (gD v22 false (pLoad1 v26 h26) h26) fun v27 h27 =>
 bnd (gD v22 false (pLen v27 h27) h27) fun v28 h28 =>
 bnd (gD v22 false (pInt .neq v28 (.i .i64 (Int.ofNat 1)) h28) h28) fun v29 h29 =>
 bnd (pPick v22 (.b true) v29 h29) fun v30 h30 =>
 bnd (gD v30 false (pField 5 v11 h30) h30) fun v31 h31 =>
 bnd (gD v30 false (pLoad1 v31 h31) h31) fun v32 h32 =>
 bnd (gD v30 false (pLen v32 h32) h32) fun v33 h33 =>
 bnd (gD v30 false (pInt .neq v33 (.i .i64 (Int.ofNat 1)) h33) h33) fun v34 h34 =>
 bnd (pPick v30 (.b true) v34 h34) fun v35 h35 =>
 ifD v35 (
 some ((.b false), h35)) (
 bnd (pField 5 v5 h35) fun v36 h36 =>
 bnd (pLoad1 v36 h36) fun v37 h37 =>
 bnd (pIndexAddr 6 v37 (.i .i64 (Int.ofNat 0)) h37) fun v38 h38 =>
 bnd (pField 5 v38 h38) fun v39 h39 =>
 bnd (pLoad1 v39 h39) fun v40 h40 =>
 bnd (pIndexAddr 6 v40 (.i .i64 (Int.ofNat 0)) h40) fun v41 h41 =>
 bnd (pLoadA 6 v41 h41) fun v42 h42 =>
 bnd (pNew [(.i .i64 (Int.ofNat 0)), (.s []), (.i .i64 (Int.ofNat 0)), .l0, .l0, .l0] h42) fun v43 h43 =>
 bnd (pStore 6 v43 v42 h43) fun _ h44 =>
 bnd (pInt .eql v4 (.i .i64 (Int.ofNat 0)) h44) fun v45 h45 =>
 bnd (gD v45 true (pField 0 v43 h45) h45) fun v46 h46 =>
 bnd (gD v45 true (pLoad1 v46 h46) h46) fun v47 h47 =>
 bnd (gD v45 true (pInt .eql v47 (.i .i64 (Int.ofNat 8)) h47) h47) fun v48 h48 =>
 bnd (pPick v45 v48 (.b false) h48) fun v49 h49 =>
 bnd (gD v49 true (pField 5 v43 h49) h49) fun v50 h50 =>
 bnd (gD v49 true (pLoad1 v50 h50) h50) fun v51 h51 =>
 bnd (gD v49 true (pLen v51 h51) h51) fun v52 h52 =>
 bnd (gD v49 true (pInt .eql v52 (.i .i64 (Int.ofNat 3)) h52) h52) fun v53 h53 =>
 bnd (pPick v49 v53 (.b false) h53) fun v54 h54 =>
 bnd (gD v54 true (pField 5 v43 h54) h54) fun v55 h55 =>
 bnd (gD v54 true (pLoad1 v55 h55) h55) fun v56 h56 =>
 bnd (gD v54 true (pIndexAddr 6 v56 (.i .i64 (Int.ofNat 0)) h56) h56) fun v57 h57 =>
 bnd (gD v54 true (pField 1 v57 h57) h57) fun v58 h58 =>
 bnd (gD v54 true (pLoad1 v58 h58) h58) fun v59 h59 =>
 bnd (gD v54 true (pStr .eql v59 (.s [43]) h59) h59) fun v60 h60 =>
 bnd (pPick v54 v60 (.b false) h60) fun v61 h61 =>
 bnd (gD v61 true (pField 5 v43 h61) h61) fun v62 h62 =>
 bnd (gD v61 true (pLoad1 v62 h62) h62) fun v63 h63 =>
 bnd (gD v61 true (pIndexAddr 6 v63 (.i .i64 (Int.ofNat 1)) h63) h63) fun v64 h64 =>
 bnd (gD v61 true (pField 1 v64 h64) h64) fun v65 h65 =>
 bnd (gD v61 true (pLoad1 v65 h65) h65) fun v66 h66 =>
 bnd (gD v61 true (pStr .eql v66 (.s [102, 111, 111, 58]) h66) h66) fun v67 h67 =>
 bnd (pPick v61 v67 (.b false) h67) fun v68 h68 =>
 bnd (gD v68 true (pField 5 v43 h68) h68) fun v69 h69 =>
 bnd (gD v68 true (pLoad1 v69 h69) h69) fun v70 h70 =>
 bnd (gD v68 true (pIndexAddr 6 v70 (.i .i64 (Int.ofNat 2)) h70) h70) fun v71 h71 =>
 bnd (gD v68 true (pField 1 v71 h71) h71) fun v72 h72 =>
 bnd (gD v68 true (pLoad1 v72 h72) h72) fun v73 h73 =>
 bnd (gD v68 true (pStr .eql v73 (.s [98, 97, 114]) h73) h73) fun v74 h74 =>
 bnd (pPick v68 v74 (.b false) h74) fun v75 h75 =>
 bnd (gD v75 true (some (v10, h75)) h75) fun v76 h76 =>
 bnd (gD v75 true (pInt .eql v76 (.i .i64 (Int.ofNat 0)) h76) h76) fun v77 h77 =>
 bnd (pPick v75 v77 (.b false) h77) fun v78 h78 =>
 bnd (gD v78 true (pField 5 v11 h78) h78) fun v79 h79 =>
 bnd (gD v78 true (pLoad1 v79 h79) h79) fun v80 h80 =>
 bnd (gD v78 true (pIndexAddr 6 v80 (.i .i64 (Int.ofNat 0)) h80) h80) fun v81 h81 =>
 bnd (gD v78 true (pField 1 v81 h81) h81) fun v82 h82 =>
 bnd (gD v78 true (pLoad1 v82 h82) h82) fun v83 h83 =>
 bnd (gD v78 true (pStr .eql v83 (.s [120]) h83) h83) fun v84 h84 =>
 bnd (pPick v78 v84 (.b false) h84) fun v85 h85 =>
 bnd (gD v85 true (some (v15, h85)) h85) fun v86 h86 =>
 bnd (gD v85 true (pInt .eql v86 (.i .i64 (Int.ofNat 1)) h86) h86) fun v87 h87 =>
 bnd (pPick v85 v87 (.b false) h87) fun v88 h88 =>
 bnd (gD v88 true (some (v16, h88)) h88) fun v89 h89 =>
 bnd (gD v88 true (pInt .eql v89 (.i .i64 (Int.ofNat 13)) h89) h89) fun v90 h90 =>
 bnd (pPick v88 v90 (.b false) h90) fun v91 h91 =>
 some (v91, h91))
abbrev c9 : Code := cf Try.f9
abbrev r9 : K := retK CF Try.f9
def D9 (rec : RT) (n : Nat) (c : Code) (X : Nat → K) (k : K) : K := codeD CF rec 109 n c X r9 k
theorem s9m : D9 rec n c9 x0 r9 = (K0 (s9 rec n)) :=
  (by kernel_rfl)
theorem s9ok (args : List DV) (h : Hp) : bodyD CF rec n 9 args h = s9 rec n h :=
  (by kernel_rfl : bodyD CF rec n 9 args h = D9 rec n c9 x0 r9 (argsE args) h).trans ((congrFun (congrFun (s9m rec n) (argsE args)) h).trans (by kernel_rfl))
def s10a5b (rec : RT) (n : Nat) (kk5 : TT3) (x0 x5 x6 : DV) (h0 : Hp) : Res :=
 bnd (rec 19 [x0, x6] h0) fun v1 h1 =>
 bnd (pExtract 0 v1 h1) fun v2 h2 =>
 bnd (pExtract 1 v1 h2) fun v3 h3 =>
 ifD v3 (
 some (.t [.l0, v2, (.i .i64 (Int.ofNat 11))], h3)) (
 bnd (pLenS x0 h3) fun v4 h4 =>
 bnd (pInt .eql v2 v4 h4) fun v5 h5 =>
 ifD v5 (
 bnd (pBuild [(.i .i64 (Int.ofNat 0)), (.s []), (.i .i64 (Int.ofNat 0)), (.i .i64 (Int.ofNat 0))] [(3, 1, v2)] h5) fun v6 h6 =>
 bnd (pBuildSlice [(.i .i64 (Int.ofNat 0)), (.s []), (.i .i64 (Int.ofNat 0)), (.i .i64 (Int.ofNat 0))] 1 [(0, 4, v6)] h6) fun v7 h7 =>
 bnd (pAppend 4 40 x5 v7 h7) fun v8 h8 =>
 some (.t [v8, (.i .i64 (Int.ofNat 0)), (.i .i64 (Int.ofNat 0))], h8)) (
 bnd (rec 20 [x0, v2] h5) fun v9 h9 =>
 bnd (pExtract 0 v9 h9) fun v10 h10 =>
 bnd (pExtract 1 v9 h10) fun v11 h11 =>
 bnd (pExtract 2 v9 h11) fun v12 h12 =>
 bnd (pNew [(.i .i64 (Int.ofNat 0)), (.s []), (.i .i64 (Int.ofNat 0)), (.i .i64 (Int.ofNat 0))] h12) fun v13 h13 =>
 bnd (pStore 4 v13 v10 h13) fun _ h14 =>
 bnd (pInt .neq v12 (.i .i64 (Int.ofNat 0)) h14) fun v15 h15 =>
 ifD v15 (
 some (.t [.l0, v2, v12], h15)) (
 bnd (pLoadA 4 v13 h15) fun v16 h16 =>
 bnd (pBuildSlice [(.i .i64 (Int.ofNat 0)), (.s []), (.i .i64 (Int.ofNat 0)), (.i .i64 (Int.ofNat 0))] 1 [(0, 4, v16)] h16) fun v17 h17 =>
 bnd (pAppend 4 40 x5 v17 h17) fun v18 h18 =>
          kk5 x0 v18 v11 h18)))
def s10a5l (rec : RT) (n : Nat) (m : Nat) : TT3 :=
  Nat.rec (motive := fun _ => TT3) (fun _ _ _ _ => none) (fun _ ih => s10a5b rec n ih) m
def s10a5 (rec : RT) (n : Nat) : TT3 := s10a5l rec n n
def s10a4 (rec : RT) (n : Nat) (x0 x5 x6 : DV) (h0 : Hp) : Res :=
  s10a5 rec n x0 x5 x6 h0
def s10a3 (rec : RT) (n : Nat) (x0 x5 : DV) (h0 : Hp) : Res :=
  s10a4 rec n x0 x5 (.i .i64 (Int.ofNat 0)) h0
def s10a2 (rec : RT) (n : Nat) (x0 : DV) (h0 : Hp) : Res :=
  s10a3 rec n x0 .l0 h0
def s10a1 (rec : RT) (n : Nat) (x0 : DV) (h0 : Hp) : Res :=
 bnd (pLenS x0 h0) fun v1 h1 =>
 bnd (pInt .gtr v1 (.i .i64 (Int.ofNat 2000)) h1) fun v2 h2 =>
 ifD v2 (
 some (.t [.l0, (.i .i64 (Int.ofNat 0)), (.i .i64 (Int.ofNat 12))], h2)) (
    s10a2 rec n x0 h2)
/-- vivariumref06.Tokens -/
def s10 (rec : RT) (n : Nat) (x0 : DV) (h0 : Hp) : Res :=
  s10a1 rec n x0 h0
abbrev c10 : Code := cf Try.f10
abbrev c10x1 : Code := cR c10
abbrev c10x2 : Code := cR c10x1
abbrev c10x3 : Code := cR c10x2
abbrev c10x4 : Code := cR c10x3
abbrev c10x5 : Code := cL c10x4
abbrev c10x6 : Code := cL c10x5
abbrev c10x7 : Code := cL c10x3
abbrev c10x8 : Code := cL c10x2
abbrev c10x9 : Code := cL c10x1
abbrev c10x10 : Code := cL c10
abbrev r10 : K := retK CF Try.f10
def D10 (rec : RT) (n : Nat) (c : Code) (X : Nat → K) (k : K) : K := codeD CF rec 48 n c X r10 k
theorem s10a5be (kk5 : TT3) : D10 rec n c10x6 (xs x0 0 r10) (K3 kk5 0 5 6) = (K3 (s10a5b rec n kk5) 0 5 6) :=
  (by kernel_rfl)
theorem s10a5le (m : Nat) : loopN (fun kk => D10 rec n c10x6 (xs x0 0 r10) kk) m = (K3 (s10a5l rec n m) 0 5 6) := by
  induction m with
  | zero => exact (by kernel_rfl : loopN (fun kk => D10 rec n c10x6 (xs x0 0 r10) kk) 0 = (K3 (s10a5l rec n 0) 0 5 6))
  | succ m ih =>
    refine (by kernel_rfl : loopN (fun kk => D10 rec n c10x6 (xs x0 0 r10) kk) (m + 1) = D10 rec n c10x6 (xs x0 0 r10) (loopN (fun kk => D10 rec n c10x6 (xs x0 0 r10) kk) m)).trans ?_
    rw [ih]
    exact (s10a5be rec n (s10a5l rec n m)).trans (by kernel_rfl)
theorem s10a5e : D10 rec n c10x5 (xs x0 0 r10) r10 = (K3 (s10a5 rec n) 0 5 6) :=
  (by kernel_rfl : D10 rec n c10x5 (xs x0 0 r10) r10 = loopN (fun kk => D10 rec n c10x6 (xs x0 0 r10) kk) n).trans ((s10a5le rec n n).trans (by kernel_rfl))
theorem s10a4e : D10 rec n c10x4 x0 r10 = (K3 (s10a4 rec n) 0 5 6) :=
  (by kernel_rfl : D10 rec n c10x4 x0 r10 = D10 rec n c10x5 (xs x0 0 r10) r10).trans
  ((s10a5e rec n).trans (by kernel_rfl))
theorem s10a3p1 : D10 rec n c10x3 x0 r10 = D10 rec n c10x7 x0 (K3 (s10a4 rec n) 0 5 6) :=
  congrArg (fun k => D10 rec n c10x7 x0 k) (s10a4e rec n)
theorem s10a3e : D10 rec n c10x3 x0 r10 = (K2 (s10a3 rec n) 0 5) :=
  (s10a3p1 rec n).trans
  ((by kernel_rfl))
theorem s10a2p2 : D10 rec n c10x2 x0 r10 = D10 rec n c10x8 x0 (K2 (s10a3 rec n) 0 5) :=
  congrArg (fun k => D10 rec n c10x8 x0 k) (s10a3e rec n)
theorem s10a2e : D10 rec n c10x2 x0 r10 = (K1 (s10a2 rec n) 0) :=
  (s10a2p2 rec n).trans
  ((by kernel_rfl))
theorem s10a1p3 : D10 rec n c10x1 x0 r10 = D10 rec n c10x9 x0 (K1 (s10a2 rec n) 0) :=
  congrArg (fun k => D10 rec n c10x9 x0 k) (s10a2e rec n)
theorem s10a1e : D10 rec n c10x1 x0 r10 = (K1 (s10a1 rec n) 0) :=
  (s10a1p3 rec n).trans
  ((by kernel_rfl))
theorem s10p4 : D10 rec n c10 x0 r10 = D10 rec n c10x10 x0 (K1 (s10a1 rec n) 0) :=
  congrArg (fun k => D10 rec n c10x10 x0 k) (s10a1e rec n)
theorem s10m : D10 rec n c10 x0 r10 = (K1 (s10 rec n) 0) :=
  (s10p4 rec n).trans
  ((by kernel_rfl))
theorem s10ok (args : List DV) (h : Hp) : bodyD CF rec n 10 args h = s10 rec n (args.getD 0 undefD) h :=
  (by kernel_rfl : bodyD CF rec n 10 args h = D10 rec n c10 x0 r10 (argsE args) h).trans ((congrFun (congrFun (s10m rec n) (argsE args)) h).trans (by kernel_rfl))
def s11a5 (rec : RT) (n : Nat) (h0 : Hp) : Res :=
 some ((.b true), h0)
def s11a7b (rec : RT) (n : Nat) (kk7 : TT3) (x2 x3 x7 : DV) (h0 : Hp) : Res :=
 bnd (pField 5 x2 h0) fun v1 h1 =>
 bnd (pLoad1 v1 h1) fun v2 h2 =>
 bnd (pLen v2 h2) fun v3 h3 =>
 bnd (pInt .lss x7 v3 h3) fun v4 h4 =>
 ifD v4 (
 bnd (pField 5 x2 h4) fun v5 h5 =>
 bnd (pLoad1 v5 h5) fun v6 h6 =>
 bnd (pIndexAddr 6 v6 x7 h6) fun v7 h7 =>
 bnd (pLoadA 6 v7 h7) fun v8 h8 =>
 bnd (pField 5 x3 h8) fun v9 h9 =>
 bnd (pLoad1 v9 h9) fun v10 h10 =>
 bnd (pIndexAddr 6 v10 x7 h10) fun v11 h11 =>
 bnd (pLoadA 6 v11 h11) fun v12 h12 =>
 bnd (rec 11 [v8, v12] h12) fun v13 h13 =>
 bnd (pUn .not v13 h13) fun v14 h14 =>
 ifD v14 (
 some ((.b false), h14)) (
 bnd (pInt .add x7 (.i .i64 (Int.ofNat 1)) h14) fun v15 h15 =>
        kk7 x2 x3 v15 h15)) (
      s11a5 rec n h4)
def s11a7l (rec : RT) (n : Nat) (m : Nat) : TT3 :=
  Nat.rec (motive := fun _ => TT3) (fun _ _ _ _ => none) (fun _ ih => s11a7b rec n ih) m
def s11a7 (rec : RT) (n : Nat) : TT3 := s11a7l rec n n
def s11a6 (rec : RT) (n : Nat) (x2 x3 x7 : DV) (h0 : Hp) : Res :=
  s11a7 rec n x2 x3 x7 h0
def s11a4 (rec : RT) (n : Nat) (x2 x3 : DV) (h0 : Hp) : Res :=
  s11a6 rec n x2 x3 (.i .i64 (Int.ofNat 0)) h0
def s11a3 (rec : RT) (n : Nat) (x2 x3 x5 x6 : DV) (h0 : Hp) : Res :=
 bnd (pUn .not x5 h0) fun v1 h1 =>
 bnd (gD v1 false (some (x6, h1)) h1) fun v2 h2 =>
 bnd (gD v1 false (pUn .not v2 h2) h2) fun v3 h3 =>
 bnd (pPick v1 (.b true) v3 h3) fun v4 h4 =>
 bnd (gD v4 false (pField 0 x2 h4) h4) fun v5 h5 =>
 bnd (gD v4 false (pLoad1 v5 h5) h5) fun v6 h6 =>
 bnd (gD v4 false (pField 0 x3 h6) h6) fun v7 h7 =>
 bnd (gD v4 false (pLoad1 v7 h7) h7) fun v8 h8 =>
 bnd (gD v4 false (pInt .neq v6 v8 h8) h8) fun v9 h9 =>
 bnd (pPick v4 (.b true) v9 h9) fun v10 h10 =>
 bnd (gD v10 false (pField 1 x2 h10) h10) fun v11 h11 =>
 bnd (gD v10 false (pLoad1 v11 h11) h11) fun v12 h12 =>
 bnd (gD v10 false (pField 1 x3 h12) h12) fun v13 h13 =>
 bnd (gD v10 false (pLoad1 v13 h13) h13) fun v14 h14 =>
 bnd (gD v10 false (pStr .neq v12 v14 h14) h14) fun v15 h15 =>
 bnd (pPick v10 (.b true) v15 h15) fun v16 h16 =>
 bnd (gD v16 false (pField 2 x2 h16) h16) fun v17 h17 =>
 bnd (gD v16 false (pLoad1 v17 h17) h17) fun v18 h18 =>
 bnd (gD v16 false (pField 2 x3 h18) h18) fun v19 h19 =>
 bnd (gD v16 false (pLoad1 v19 h19) h19) fun v20 h20 =>
 bnd (gD v16 false (pInt .neq v18 v20 h20) h20) fun v21 h21 =>
 bnd (pPick v16 (.b true) v21 h21) fun v22 h22 =>
 bnd (gD v22 false (pField 5 x2 h22) h22) fun v23 h23 =>
 bnd (gD v22 false (pLoad1 v23 h23) h23) fun v24 h24 =>
 bnd (gD v22 false (pLen v24 h24) h24) fun v25 h25 =>
 bnd (gD v22 false (pField 5 x3 h25) h25) fun v26 h26 =>
 bnd (gD v22 false (pLoad1 v26 h26) h26) fun v27 h27 =>
 bnd (gD v22 false (pLen v27 h27) h27) fun v28 h28 =>
 bnd (gD v22 false (pInt .neq v25 v28 h28) h28) fun v29 h29 =>
 bnd (pPick v22 (.b true) v29 h29) fun v30 h30 =>
 ifD v30 (
 some ((.b false), h30)) (
    s11a4 rec n x2 x3 h30)
def s11a2 (rec : RT) (n : Nat) (x2 x3 x5 : DV) (h0 : Hp) : Res :=
 bnd (pField 4 x2 h0) fun v1 h1 =>
 bnd (pLoad1 v1 h1) fun v2 h2 =>
 bnd (pField 4 x3 h2) fun v3 h3 =>
 bnd (pLoad1 v3 h3) fun v4 h4 =>
 bnd (rec 21 [v2, v4] h4) fun v5 h5 =>
  s11a3 rec n x2 x3 x5 v5 h5
def s11a1 (rec : RT) (n : Nat) (x2 x3 : DV) (h0 : Hp) : Res :=
 bnd (pField 3 x2 h0) fun v1 h1 =>
 bnd (pLoad1 v1 h1) fun v2 h2 =>
 bnd (pField 3 x3 h2) fun v3 h3 =>
 bnd (pLoad1 v3 h3) fun v4 h4 =>
 bnd (rec 21 [v2, v4] h4) fun v5 h5 =>
  s11a2 rec n x2 x3 v5 h5
/-- vivariumref07.Same -/
def s11 (rec : RT) (n : Nat) (x0 x1 : DV) (h0 : Hp) : Res :=
 bnd (pBox x0 h0) fun v1 h1 =>
 bnd (pBox x1 h1) fun v2 h2 =>
  s11a1 rec n v1 v2 h2
abbrev c11 : Code := cf Try.f11
abbrev c11x1 : Code := cR c11
abbrev c11x2 : Code := cR c11x1
abbrev c11x3 : Code := cR c11x2
abbrev c11x4 : Code := cR c11x3
abbrev c11x5 : Code := cR c11x4
abbrev c11x6 : Code := cL c11x4
abbrev c11x7 : Code := cR c11x6
abbrev c11x8 : Code := cL c11x7
abbrev c11x9 : Code := cL c11x8
abbrev c11x10 : Code := cL c11x6
abbrev c11x11 : Code := cL c11x3
abbrev c11x12 : Code := cL c11x2
abbrev c11x13 : Code := cL c11x1
abbrev c11x14 : Code := cL c11
abbrev r11 : K := retK CF Try.f11
def D11 (rec : RT) (n : Nat) (c : Code) (X : Nat → K) (k : K) : K := codeD CF rec 75 n c X r11 k
theorem s11a5e : D11 rec n c11x5 x0 r11 = (K0 (s11a5 rec n)) :=
  (by kernel_rfl)
theorem s11a7be (kk7 : TT3) : D11 rec n c11x9 (xs x0 0 (K0 (s11a5 rec n))) (K3 kk7 2 3 7) = (K3 (s11a7b rec n kk7) 2 3 7) :=
  (by kernel_rfl)
theorem s11a7le (m : Nat) : loopN (fun kk => D11 rec n c11x9 (xs x0 0 (K0 (s11a5 rec n))) kk) m = (K3 (s11a7l rec n m) 2 3 7) := by
  induction m with
  | zero => exact (by kernel_rfl : loopN (fun kk => D11 rec n c11x9 (xs x0 0 (K0 (s11a5 rec n))) kk) 0 = (K3 (s11a7l rec n 0) 2 3 7))
  | succ m ih =>
    refine (by kernel_rfl : loopN (fun kk => D11 rec n c11x9 (xs x0 0 (K0 (s11a5 rec n))) kk) (m + 1) = D11 rec n c11x9 (xs x0 0 (K0 (s11a5 rec n))) (loopN (fun kk => D11 rec n c11x9 (xs x0 0 (K0 (s11a5 rec n))) kk) m)).trans ?_
    rw [ih]
    exact (s11a7be rec n (s11a7l rec n m)).trans (by kernel_rfl)
theorem s11a7e : D11 rec n c11x8 (xs x0 0 (K0 (s11a5 rec n))) (K0 (s11a5 rec n)) = (K3 (s11a7 rec n) 2 3 7) :=
  (by kernel_rfl : D11 rec n c11x8 (xs x0 0 (K0 (s11a5 rec n))) (K0 (s11a5 rec n)) = loopN (fun kk => D11 rec n c11x9 (xs x0 0 (K0 (s11a5 rec n))) kk) n).trans ((s11a7le rec n n).trans (by kernel_rfl))
theorem s11a6e : D11 rec n c11x7 x0 (K0 (s11a5 rec n)) = (K3 (s11a6 rec n) 2 3 7) :=
  (by kernel_rfl : D11 rec n c11x7 x0 (K0 (s11a5 rec n)) = D11 rec n c11x8 (xs x0 0 (K0 (s11a5 rec n))) (K0 (s11a5 rec n))).trans
  ((s11a7e rec n).trans (by kernel_rfl))
theorem s11a4p1 : D11 rec n c11x4 x0 r11 = D11 rec n c11x6 x0 (K0 (s11a5 rec n)) :=
  congrArg (fun k => D11 rec n c11x6 x0 k) (s11a5e rec n)
theorem s11a4p2 : D11 rec n c11x6 x0 (K0 (s11a5 rec n)) = D11 rec n c11x10 x0 (K3 (s11a6 rec n) 2 3 7) :=
  congrArg (fun k => D11 rec n c11x10 x0 k) (s11a6e rec n)
theorem s11a4e : D11 rec n c11x4 x0 r11 = (K2 (s11a4 rec n) 2 3) :=
  (s11a4p1 rec n).trans
  ((s11a4p2 rec n).trans
  ((by kernel_rfl)))
theorem s11a3p3 : D11 rec n c11x3 x0 r11 = D11 rec n c11x11 x0 (K2 (s11a4 rec n) 2 3) :=
  congrArg (fun k => D11 rec n c11x11 x0 k) (s11a4e rec n)
theorem s11a3e : D11 rec n c11x3 x0 r11 = (K4 (s11a3 rec n) 2 3 5 6) :=
  (s11a3p3 rec n).trans
  ((by kernel_rfl))
theorem s11a2p4 : D11 rec n c11x2 x0 r11 = D11 rec n c11x12 x0 (K4 (s11a3 rec n) 2 3 5 6) :=
  congrArg (fun k => D11 rec n c11x12 x0 k) (s11a3e rec n)
theorem s11a2e : D11 rec n c11x2 x0 r11 = (K3 (s11a2 rec n) 2 3 5) :=
  (s11a2p4 rec n).trans
  ((by kernel_rfl))
theorem s11a1p5 : D11 rec n c11x1 x0 r11 = D11 rec n c11x13 x0 (K3 (s11a2 rec n) 2 3 5) :=
  congrArg (fun k => D11 rec n c11x13 x0 k) (s11a2e rec n)
theorem s11a1e : D11 rec n c11x1 x0 r11 = (K2 (s11a1 rec n) 2 3) :=
  (s11a1p5 rec n).trans
  ((by kernel_rfl))
theorem s11p6 : D11 rec n c11 x0 r11 = D11 rec n c11x14 x0 (K2 (s11a1 rec n) 2 3) :=
  congrArg (fun k => D11 rec n c11x14 x0 k) (s11a1e rec n)
theorem s11q7 (q0 : TT2) : D11 rec n c11x14 x0 (K2 q0 2 3) = fun (env : Env) (h : Hp) =>
 bnd (pBox (env 0) h) fun v1 h1 =>
 bnd (pBox (env 1) h1) fun v2 h2 =>
    q0 v1 v2 h2 := by kernel_rfl
theorem s11q7u : (fun (env : Env) (h : Hp) =>
 bnd (pBox (env 0) h) fun v1 h1 =>
 bnd (pBox (env 1) h1) fun v2 h2 =>
    s11a1 rec n v1 v2 h2) = (K2 (s11 rec n) 0 1) := by kernel_rfl
theorem s11m : D11 rec n c11 x0 r11 = (K2 (s11 rec n) 0 1) :=
  (s11p6 rec n).trans
  ((s11q7 rec n (s11a1 rec n)).trans (s11q7u rec n))
theorem s11ok (args : List DV) (h : Hp) : bodyD CF rec n 11 args h = s11 rec n (args.getD 0 undefD) (args.getD 1 undefD) h :=
  (by kernel_rfl : bodyD CF rec n 11 args h = D11 rec n c11 x0 r11 (argsE args) h).trans ((congrFun (congrFun (s11m rec n) (argsE args)) h).trans (by kernel_rfl))
/-- parse.Method -/
def s15 (rec : RT) (n : Nat) (x0 : DV) (h0 : Hp) : Res :=
 bnd (pNew [(.i .i64 (Int.ofNat 0)), (.s []), (.i .i64 (Int.ofNat 0)), .l0, .l0, .l0] h0) fun v1 h1 =>
 bnd (rec 17 [x0, (.f 24 [] [])] h1) fun v2 h2 =>
 bnd (pExtract 0 v2 h2) fun v3 h3 =>
 bnd (pExtract 1 v2 h3) fun v4 h4 =>
 bnd (pExtract 2 v2 h4) fun v5 h5 =>
 bnd (pStore 6 v1 v3 h5) fun _ h6 =>
 bnd (pLoadA 6 v1 h6) fun v7 _ =>
 some (.t [v7, v4, v5], h6)
abbrev c15 : Code := cf Try.f15
abbrev r15 : K := retK CF Try.f15
def D15 (rec : RT) (n : Nat) (c : Code) (X : Nat → K) (k : K) : K := codeD CF rec 10 n c X r15 k
theorem s15m : D15 rec n c15 x0 r15 = (K1 (s15 rec n) 0) :=
  (by kernel_rfl)
theorem s15ok (args : List DV) (h : Hp) : bodyD CF rec n 15 args h = s15 rec n (args.getD 0 undefD) h :=
  (by kernel_rfl : bodyD CF rec n 15 args h = D15 rec n c15 x0 r15 (argsE args) h).trans ((congrFun (congrFun (s15m rec n) (argsE args)) h).trans (by kernel_rfl))

end
end Go.Dd

/- Dd, part Q1 (printed by gen.py): functions of the seat's program as Lean functions, linked to Dd. -/
set_option linter.unusedVariables false
set_option maxRecDepth 100000
namespace Go.Dd
open Go.Proofs
noncomputable section

variable (rec : RT) (n : Nat)
def s16a6 (rec : RT) (n : Nat) (x4 x10 x11 : DV) (h0 : Hp) : Res :=
 bnd (rec 26 [x10] h0) fun v1 h1 =>
 bnd (pField 4 x11 h1) fun v2 h2 =>
 bnd (pStore 1 v2 v1 h2) fun _ h3 =>
 bnd (rec 27 [x10] h3) fun v4 h4 =>
 bnd (pField 5 x11 h4) fun v5 h5 =>
 bnd (pStore 1 v5 v4 h5) fun _ h6 =>
 bnd (rec 28 [x10, (.i .i64 (Int.ofNat 0)), (.s [])] h6) fun v7 h7 =>
 bnd (pNil x10 h7) fun v8 h8 =>
 bnd (pField 3 v8 h8) fun v9 h9 =>
 bnd (pLoad1 v9 h9) fun v10 h10 =>
 bnd (pInt .neq v10 (.i .i64 (Int.ofNat 0)) h10) fun v11 h11 =>
 ifD v11 (
 bnd (pBuild [(.i .i64 (Int.ofNat 0)), (.s []), (.i .i64 (Int.ofNat 0)), .l0, .l0, .l0] [] h11) fun v12 h12 =>
 bnd (pNil x10 h12) fun v13 h13 =>
 bnd (pField 4 v13 h13) fun v14 h14 =>
 bnd (pLoad1 v14 h14) fun v15 h15 =>
 bnd (pNil x10 h15) fun v16 h16 =>
 bnd (pField 3 v16 h16) fun v17 h17 =>
 bnd (pLoad1 v17 h17) fun v18 h18 =>
 bnd (pStore 6 x4 v12 h18) fun v19 h19 =>
 cnd (sameR (pLoad1 v17 h19) v18 && (sameR (pLoad1 v14 h19) v15 && true)) (
 bnd (pLoadA 6 x4 h19) fun v20 _ =>
 some (.t [v20, v15, v18], h19))) (
 bnd (pLoadA 6 x11 h11) fun v21 h21 =>
 bnd (pStore 6 x4 v21 h21) fun _ h22 =>
 bnd (pLoadA 6 x4 h22) fun v23 _ =>
 some (.t [v23, (.i .i64 (Int.ofNat 0)), (.i .i64 (Int.ofNat 0))], h22))
def s16a5 (rec : RT) (n : Nat) (x1 x4 x10 x11 : DV) (h0 : Hp) : Res :=
 ifD x1 (
 bnd (rec 25 [x10] h0) fun v1 h1 =>
 bnd (pStore 6 x11 v1 h1) fun _ h2 =>
    s16a6 rec n x4 x10 x11 h2) (
    s16a6 rec n x4 x10 x11 h0)
def s16a4 (rec : RT) (n : Nat) (x1 x4 x10 : DV) (h0 : Hp) : Res :=
 bnd (pBuild [(.i .i64 (Int.ofNat 0)), (.s []), (.i .i64 (Int.ofNat 0)), .l0, .l0, .l0] [(0, 1, (.i .i64 (Int.ofNat 11))), (1, 1, (.s [100, 111, 73, 116]))] h0) fun v1 h1 =>
 bnd (pNew [(.i .i64 (Int.ofNat 0)), (.s []), (.i .i64 (Int.ofNat 0)), .l0, .l0, .l0] h1) fun v2 h2 =>
 bnd (pStore 6 v2 v1 h2) fun _ h3 =>
  s16a5 rec n x1 x4 x10 v2 h3
def s16a3 (rec : RT) (n : Nat) (x1 x4 x7 : DV) (h0 : Hp) : Res :=
 bnd (pBuild [.l0, (.i .i64 (Int.ofNat 0)), (.i .i64 (Int.ofNat 0)), (.i .i64 (Int.ofNat 0)), (.i .i64 (Int.ofNat 0))] [(0, 1, x7)] h0) fun v1 h1 =>
 bnd (pBox v1 h1) fun v2 h2 =>
  s16a4 rec n x1 x4 v2 h2
def s16a2 (rec : RT) (n : Nat) (x1 x4 x7 x8 x9 : DV) (h0 : Hp) : Res :=
 bnd (pInt .neq x9 (.i .i64 (Int.ofNat 0)) h0) fun v1 h1 =>
 ifD v1 (
 bnd (pBuild [(.i .i64 (Int.ofNat 0)), (.s []), (.i .i64 (Int.ofNat 0)), .l0, .l0, .l0] [] h1) fun v2 h2 =>
 bnd (pStore 6 x4 v2 h2) fun _ h3 =>
 bnd (pLoadA 6 x4 h3) fun v4 _ =>
 some (.t [v4, x8, x9], h3)) (
    s16a3 rec n x1 x4 x7 h1)
def s16a1 (rec : RT) (n : Nat) (x0 x1 x4 : DV) (h0 : Hp) : Res :=
 bnd (rec 10 [x0] h0) fun v1 h1 =>
 bnd (pExtract 0 v1 h1) fun v2 h2 =>
 bnd (pExtract 1 v1 h2) fun v3 h3 =>
 bnd (pExtract 2 v1 h3) fun v4 h4 =>
  s16a2 rec n x1 x4 v2 v3 v4 h4
/-- vivariumref07.Read -/
def s16 (rec : RT) (n : Nat) (x0 x1 : DV) (h0 : Hp) : Res :=
 bnd (pNew [(.i .i64 (Int.ofNat 0)), (.s []), (.i .i64 (Int.ofNat 0)), .l0, .l0, .l0] h0) fun v1 h1 =>
  s16a1 rec n x0 x1 v1 h1
abbrev c16 : Code := cf Try.f16
abbrev c16x1 : Code := cR c16
abbrev c16x2 : Code := cR c16x1
abbrev c16x3 : Code := cR c16x2
abbrev c16x4 : Code := cR c16x3
abbrev c16x5 : Code := cR c16x4
abbrev c16x6 : Code := cR c16x5
abbrev c16x7 : Code := cL c16x5
abbrev c16x8 : Code := cL c16x4
abbrev c16x9 : Code := cL c16x3
abbrev c16x10 : Code := cL c16x2
abbrev c16x11 : Code := cL c16x1
abbrev c16x12 : Code := cL c16
abbrev r16 : K := retK CF Try.f16
def D16 (rec : RT) (n : Nat) (c : Code) (X : Nat → K) (k : K) : K := codeD CF rec 53 n c X r16 k
theorem s16a6e : D16 rec n c16x6 x0 r16 = (K3 (s16a6 rec n) 4 10 11) :=
  (by kernel_rfl)
theorem s16a5p1 : D16 rec n c16x5 x0 r16 = D16 rec n c16x7 x0 (K3 (s16a6 rec n) 4 10 11) :=
  congrArg (fun k => D16 rec n c16x7 x0 k) (s16a6e rec n)
theorem s16a5e : D16 rec n c16x5 x0 r16 = (K4 (s16a5 rec n) 1 4 10 11) :=
  (s16a5p1 rec n).trans
  ((by kernel_rfl))
theorem s16a4p2 : D16 rec n c16x4 x0 r16 = D16 rec n c16x8 x0 (K4 (s16a5 rec n) 1 4 10 11) :=
  congrArg (fun k => D16 rec n c16x8 x0 k) (s16a5e rec n)
theorem s16a4q3 (q0 : TT4) : D16 rec n c16x8 x0 (K4 q0 1 4 10 11) = fun (env : Env) (h : Hp) =>
 bnd (pBuild [(.i .i64 (Int.ofNat 0)), (.s []), (.i .i64 (Int.ofNat 0)), .l0, .l0, .l0] [(0, 1, (.i .i64 (Int.ofNat 11))), (1, 1, (.s [100, 111, 73, 116]))] h) fun v1 h1 =>
 bnd (pNew [(.i .i64 (Int.ofNat 0)), (.s []), (.i .i64 (Int.ofNat 0)), .l0, .l0, .l0] h1) fun v2 h2 =>
 bnd (pStore 6 v2 v1 h2) fun _ h3 =>
    q0 (env 1) (env 4) (env 10) v2 h3 := by kernel_rfl
theorem s16a4q3u : (fun (env : Env) (h : Hp) =>
 bnd (pBuild [(.i .i64 (Int.ofNat 0)), (.s []), (.i .i64 (Int.ofNat 0)), .l0, .l0, .l0] [(0, 1, (.i .i64 (Int.ofNat 11))), (1, 1, (.s [100, 111, 73, 116]))] h) fun v1 h1 =>
 bnd (pNew [(.i .i64 (Int.ofNat 0)), (.s []), (.i .i64 (Int.ofNat 0)), .l0, .l0, .l0] h1) fun v2 h2 =>
 bnd (pStore 6 v2 v1 h2) fun _ h3 =>
    s16a5 rec n (env 1) (env 4) (env 10) v2 h3) = (K3 (s16a4 rec n) 1 4 10) := by kernel_rfl
theorem s16a4e : D16 rec n c16x4 x0 r16 = (K3 (s16a4 rec n) 1 4 10) :=
  (s16a4p2 rec n).trans
  ((s16a4q3 rec n (s16a5 rec n)).trans (s16a4q3u rec n))
theorem s16a3p4 : D16 rec n c16x3 x0 r16 = D16 rec n c16x9 x0 (K3 (s16a4 rec n) 1 4 10) :=
  congrArg (fun k => D16 rec n c16x9 x0 k) (s16a4e rec n)
theorem s16a3q5 (q0 : TT3) : D16 rec n c16x9 x0 (K3 q0 1 4 10) = fun (env : Env) (h : Hp) =>
 bnd (pBuild [.l0, (.i .i64 (Int.ofNat 0)), (.i .i64 (Int.ofNat 0)), (.i .i64 (Int.ofNat 0)), (.i .i64 (Int.ofNat 0))] [(0, 1, (env 7))] h) fun v1 h1 =>
 bnd (pBox v1 h1) fun v2 h2 =>
    q0 (env 1) (env 4) v2 h2 := by kernel_rfl
theorem s16a3q5u : (fun (env : Env) (h : Hp) =>
 bnd (pBuild [.l0, (.i .i64 (Int.ofNat 0)), (.i .i64 (Int.ofNat 0)), (.i .i64 (Int.ofNat 0)), (.i .i64 (Int.ofNat 0))] [(0, 1, (env 7))] h) fun v1 h1 =>
 bnd (pBox v1 h1) fun v2 h2 =>
    s16a4 rec n (env 1) (env 4) v2 h2) = (K3 (s16a3 rec n) 1 4 7) := by kernel_rfl
theorem s16a3e : D16 rec n c16x3 x0 r16 = (K3 (s16a3 rec n) 1 4 7) :=
  (s16a3p4 rec n).trans
  ((s16a3q5 rec n (s16a4 rec n)).trans (s16a3q5u rec n))
theorem s16a2p6 : D16 rec n c16x2 x0 r16 = D16 rec n c16x10 x0 (K3 (s16a3 rec n) 1 4 7) :=
  congrArg (fun k => D16 rec n c16x10 x0 k) (s16a3e rec n)
theorem s16a2q7 (q0 : TT3) : D16 rec n c16x10 x0 (K3 q0 1 4 7) = fun (env : Env) (h : Hp) =>
 bnd (pInt .neq (env 9) (.i .i64 (Int.ofNat 0)) h) fun v1 h1 =>
 ifD v1 (
 bnd (pBuild [(.i .i64 (Int.ofNat 0)), (.s []), (.i .i64 (Int.ofNat 0)), .l0, .l0, .l0] [] h1) fun v2 h2 =>
 bnd (pStore 6 (env 4) v2 h2) fun _ h3 =>
 bnd (pLoadA 6 (env 4) h3) fun v4 _ =>
 some (.t [v4, (env 8), (env 9)], h3)) (
      q0 (env 1) (env 4) (env 7) h1) := by kernel_rfl
theorem s16a2q7u : (fun (env : Env) (h : Hp) =>
 bnd (pInt .neq (env 9) (.i .i64 (Int.ofNat 0)) h) fun v1 h1 =>
 ifD v1 (
 bnd (pBuild [(.i .i64 (Int.ofNat 0)), (.s []), (.i .i64 (Int.ofNat 0)), .l0, .l0, .l0] [] h1) fun v2 h2 =>
 bnd (pStore 6 (env 4) v2 h2) fun _ h3 =>
 bnd (pLoadA 6 (env 4) h3) fun v4 _ =>
 some (.t [v4, (env 8), (env 9)], h3)) (
      s16a3 rec n (env 1) (env 4) (env 7) h1)) = (K5 (s16a2 rec n) 1 4 7 8 9) := by kernel_rfl
theorem s16a2e : D16 rec n c16x2 x0 r16 = (K5 (s16a2 rec n) 1 4 7 8 9) :=
  (s16a2p6 rec n).trans
  ((s16a2q7 rec n (s16a3 rec n)).trans (s16a2q7u rec n))
theorem s16a1p8 : D16 rec n c16x1 x0 r16 = D16 rec n c16x11 x0 (K5 (s16a2 rec n) 1 4 7 8 9) :=
  congrArg (fun k => D16 rec n c16x11 x0 k) (s16a2e rec n)
theorem s16a1e : D16 rec n c16x1 x0 r16 = (K3 (s16a1 rec n) 0 1 4) :=
  (s16a1p8 rec n).trans
  ((by kernel_rfl))
theorem s16p9 : D16 rec n c16 x0 r16 = D16 rec n c16x12 x0 (K3 (s16a1 rec n) 0 1 4) :=
  congrArg (fun k => D16 rec n c16x12 x0 k) (s16a1e rec n)
theorem s16q10 (q0 : TT3) : D16 rec n c16x12 x0 (K3 q0 0 1 4) = fun (env : Env) (h : Hp) =>
 bnd (pNew [(.i .i64 (Int.ofNat 0)), (.s []), (.i .i64 (Int.ofNat 0)), .l0, .l0, .l0] h) fun v1 h1 =>
    q0 (env 0) (env 1) v1 h1 := by kernel_rfl
theorem s16q10u : (fun (env : Env) (h : Hp) =>
 bnd (pNew [(.i .i64 (Int.ofNat 0)), (.s []), (.i .i64 (Int.ofNat 0)), .l0, .l0, .l0] h) fun v1 h1 =>
    s16a1 rec n (env 0) (env 1) v1 h1) = (K2 (s16 rec n) 0 1) := by kernel_rfl
theorem s16m : D16 rec n c16 x0 r16 = (K2 (s16 rec n) 0 1) :=
  (s16p9 rec n).trans
  ((s16q10 rec n (s16a1 rec n)).trans (s16q10u rec n))
theorem s16ok (args : List DV) (h : Hp) : bodyD CF rec n 16 args h = s16 rec n (args.getD 0 undefD) (args.getD 1 undefD) h :=
  (by kernel_rfl : bodyD CF rec n 16 args h = D16 rec n c16 x0 r16 (argsE args) h).trans ((congrFun (congrFun (s16m rec n) (argsE args)) h).trans (by kernel_rfl))
/-- parse.read -/
def s17 (rec : RT) (n : Nat) (x0 x1 : DV) (h0 : Hp) : Res :=
 bnd (pNew [(.i .i64 (Int.ofNat 0)), (.s []), (.i .i64 (Int.ofNat 0)), .l0, .l0, .l0] h0) fun v1 h1 =>
 bnd (rec 29 [x0] h1) fun v2 h2 =>
 bnd (pExtract 0 v2 h2) fun v3 h3 =>
 bnd (pExtract 1 v2 h3) fun v4 h4 =>
 bnd (pExtract 2 v2 h4) fun v5 h5 =>
 bnd (pInt .neq v5 (.i .i64 (Int.ofNat 0)) h5) fun v6 h6 =>
 ifD v6 (
 bnd (pBuild [(.i .i64 (Int.ofNat 0)), (.s []), (.i .i64 (Int.ofNat 0)), .l0, .l0, .l0] [] h6) fun v7 h7 =>
 bnd (pStore 6 v1 v7 h7) fun _ h8 =>
 bnd (pLoadA 6 v1 h8) fun v9 _ =>
 some (.t [v9, v4, v5], h8)) (
 bnd (pBuild [.l0, (.i .i64 (Int.ofNat 0)), (.i .i64 (Int.ofNat 0)), (.i .i64 (Int.ofNat 0))] [(0, 1, v3)] h6) fun v10 h10 =>
 bnd (pBox v10 h10) fun v11 h11 =>
 bnd (pCall CF rec x1 [v11] h11) fun v12 h12 =>
 bnd (pNew [(.i .i64 (Int.ofNat 0)), (.s []), (.i .i64 (Int.ofNat 0)), .l0, .l0, .l0] h12) fun v13 h13 =>
 bnd (pStore 6 v13 v12 h13) fun _ h14 =>
 bnd (rec 30 [v11] h14) fun v15 h15 =>
 bnd (pField 4 v13 h15) fun v16 h16 =>
 bnd (pStore 1 v16 v15 h16) fun _ h17 =>
 bnd (rec 31 [v11] h17) fun v18 h18 =>
 bnd (pField 5 v13 h18) fun v19 h19 =>
 bnd (pStore 1 v19 v18 h19) fun _ h20 =>
 bnd (rec 32 [v11, (.i .i64 (Int.ofNat 0)), (.s [])] h20) fun v21 h21 =>
 bnd (pNil v11 h21) fun v22 h22 =>
 bnd (pField 3 v22 h22) fun v23 h23 =>
 bnd (pLoad1 v23 h23) fun v24 h24 =>
 bnd (pInt .neq v24 (.i .i64 (Int.ofNat 0)) h24) fun v25 h25 =>
 ifD v25 (
 bnd (pBuild [(.i .i64 (Int.ofNat 0)), (.s []), (.i .i64 (Int.ofNat 0)), .l0, .l0, .l0] [] h25) fun v26 h26 =>
 bnd (pNil v11 h26) fun v27 h27 =>
 bnd (pField 2 v27 h27) fun v28 h28 =>
 bnd (pLoad1 v28 h28) fun v29 h29 =>
 bnd (pNil v11 h29) fun v30 h30 =>
 bnd (pField 3 v30 h30) fun v31 h31 =>
 bnd (pLoad1 v31 h31) fun v32 h32 =>
 bnd (pStore 6 v1 v26 h32) fun v33 h33 =>
 cnd (sameR (pLoad1 v31 h33) v32 && (sameR (pLoad1 v28 h33) v29 && true)) (
 bnd (pLoadA 6 v1 h33) fun v34 _ =>
 some (.t [v34, v29, v32], h33))) (
 bnd (pLoadA 6 v13 h25) fun v35 h35 =>
 bnd (pStore 6 v1 v35 h35) fun _ h36 =>
 bnd (pLoadA 6 v1 h36) fun v37 _ =>
 some (.t [v37, (.i .i64 (Int.ofNat 0)), (.i .i64 (Int.ofNat 0))], h36)))
abbrev c17 : Code := cf Try.f17
abbrev r17 : K := retK CF Try.f17
def D17 (rec : RT) (n : Nat) (c : Code) (X : Nat → K) (k : K) : K := codeD CF rec 52 n c X r17 k
theorem s17m : D17 rec n c17 x0 r17 = (K2 (s17 rec n) 0 1) :=
  (by kernel_rfl)
theorem s17ok (args : List DV) (h : Hp) : bodyD CF rec n 17 args h = s17 rec n (args.getD 0 undefD) (args.getD 1 undefD) h :=
  (by kernel_rfl : bodyD CF rec n 17 args h = D17 rec n c17 x0 r17 (argsE args) h).trans ((congrFun (congrFun (s17m rec n) (argsE args)) h).trans (by kernel_rfl))
/-- parse.parser).doit -/
def s18 (rec : RT) (n : Nat) (x0 : DV) (h0 : Hp) : Res :=
 bnd (pNew [(.i .i64 (Int.ofNat 0)), (.s []), (.i .i64 (Int.ofNat 0)), .l0, .l0, .l0] h0) fun v1 h1 =>
 bnd (pBuild [(.i .i64 (Int.ofNat 0)), (.s []), (.i .i64 (Int.ofNat 0)), .l0, .l0, .l0] [(0, 1, (.i .i64 (Int.ofNat 11))), (1, 1, (.s [100, 111, 73, 116]))] h1) fun v2 h2 =>
 bnd (pStore 6 v1 v2 h2) fun _ h3 =>
 bnd (pLoadA 6 v1 h3) fun v4 _ =>
 some (v4, h3)
abbrev c18 : Code := cf Try.f18
abbrev r18 : K := retK CF Try.f18
def D18 (rec : RT) (n : Nat) (c : Code) (X : Nat → K) (k : K) : K := codeD CF rec 4 n c X r18 k
theorem s18m : D18 rec n c18 x0 r18 = (K1 (s18 rec n) 0) :=
  (by kernel_rfl)
theorem s18ok (args : List DV) (h : Hp) : bodyD CF rec n 18 args h = s18 rec n (args.getD 0 undefD) h :=
  (by kernel_rfl : bodyD CF rec n 18 args h = D18 rec n c18 x0 r18 (argsE args) h).trans ((congrFun (congrFun (s18m rec n) (argsE args)) h).trans (by kernel_rfl))
def s19a2 (rec : RT) (n : Nat) (x1 : DV) (h0 : Hp) : Res :=
 some (.t [x1, (.b false)], h0)
def s19a8 (rec : RT) (n : Nat) (kk3 : TT2) (x0 x1 x6 : DV) (h0 : Hp) : Res :=
 bnd (pLenS x0 h0) fun v1 h1 =>
 bnd (pInt .eql x6 v1 h1) fun v2 h2 =>
 ifD v2 (
 some (.t [x1, (.b true)], h2)) (
 bnd (pInt .add x6 (.i .i64 (Int.ofNat 1)) h2) fun v3 h3 =>
    kk3 x0 v3 h3)
def s19a9b (rec : RT) (n : Nat) (kk3 : TT2) (kk9 : TT3) (x0 x1 x6 : DV) (h0 : Hp) : Res :=
 bnd (pLenS x0 h0) fun v1 h1 =>
 bnd (pInt .lss x6 v1 h1) fun v2 h2 =>
 bnd (gD v2 true (some (x0, h2)) h2) fun v3 h3 =>
 bnd (gD v2 true (some (x6, h3)) h3) fun v4 h4 =>
 bnd (gD v2 true (pIndexS v3 v4 h4) h4) fun v5 h5 =>
 bnd (gD v2 true (pInt .neq v5 (.i .u8 (Int.ofNat 34)) h5) h5) fun v6 h6 =>
 bnd (pPick v2 v6 (.b false) h6) fun v7 h7 =>
 ifD v7 (
 bnd (pInt .add x6 (.i .i64 (Int.ofNat 1)) h7) fun v8 h8 =>
      kk9 x0 x1 v8 h8) (
      s19a8 rec n kk3 x0 x1 x6 h7)
def s19a9l (rec : RT) (n : Nat) (kk3 : TT2) (m : Nat) : TT3 :=
  Nat.rec (motive := fun _ => TT3) (fun _ _ _ _ => none) (fun _ ih => s19a9b rec n kk3 ih) m
def s19a9 (rec : RT) (n : Nat) (kk3 : TT2) : TT3 := s19a9l rec n kk3 n
def s19a7 (rec : RT) (n : Nat) (kk3 : TT2) (x0 x1 x6 : DV) (h0 : Hp) : Res :=
  s19a9 rec n kk3 x0 x1 x6 h0
def s19a6 (rec : RT) (n : Nat) (kk3 : TT2) (x0 x1 : DV) (h0 : Hp) : Res :=
 bnd (pInt .add x1 (.i .i64 (Int.ofNat 1)) h0) fun v1 h1 =>
  s19a7 rec n kk3 x0 x1 v1 h1
def s19a5 (rec : RT) (n : Nat) (kk3 : TT2) (x0 x1 : DV) (h0 : Hp) : Res :=
 bnd (pIndexS x0 x1 h0) fun v1 h1 =>
 bnd (pInt .neq v1 (.i .u8 (Int.ofNat 34)) h1) fun v2 h2 =>
 ifD v2 (
    s19a2 rec n x1 h2) (
    s19a6 rec n kk3 x0 x1 h2)
def s19a4 (rec : RT) (n : Nat) (kk3 : TT2) (x0 x1 : DV) (h0 : Hp) : Res :=
 bnd (pIndexS x0 x1 h0) fun v1 h1 =>
 bnd (rec 33 [v1] h1) fun v2 h2 =>
 bnd (pInt .eql v2 (.i .i64 (Int.ofNat 5)) h2) fun v3 h3 =>
 ifD v3 (
 bnd (pInt .add x1 (.i .i64 (Int.ofNat 1)) h3) fun v4 h4 =>
    kk3 x0 v4 h4) (
    s19a5 rec n kk3 x0 x1 h3)
def s19a3b (rec : RT) (n : Nat) (kk3 : TT2) (x0 x1 : DV) (h0 : Hp) : Res :=
 bnd (pLenS x0 h0) fun v1 h1 =>
 bnd (pInt .lss x1 v1 h1) fun v2 h2 =>
 ifD v2 (
      s19a4 rec n kk3 x0 x1 h2) (
      s19a2 rec n x1 h2)
def s19a3l (rec : RT) (n : Nat) (m : Nat) : TT2 :=
  Nat.rec (motive := fun _ => TT2) (fun _ _ _ => none) (fun _ ih => s19a3b rec n ih) m
def s19a3 (rec : RT) (n : Nat) : TT2 := s19a3l rec n n
def s19a1 (rec : RT) (n : Nat) (x0 x1 : DV) (h0 : Hp) : Res :=
  s19a3 rec n x0 x1 h0
/-- vivariumref06.Skip -/
def s19 (rec : RT) (n : Nat) (x0 x1 : DV) (h0 : Hp) : Res :=
  s19a1 rec n x0 x1 h0
abbrev c19 : Code := cf Try.f19
abbrev c19x1 : Code := cR c19
abbrev c19x2 : Code := cR c19x1
abbrev c19x3 : Code := cL c19x1
abbrev c19x4 : Code := cL c19x3
abbrev c19x5 : Code := cL c19x4
abbrev c19x6 : Code := cR c19x5
abbrev c19x7 : Code := cL c19x6
abbrev c19x8 : Code := cR c19x7
abbrev c19x9 : Code := cR c19x8
abbrev c19x10 : Code := cR c19x9
abbrev c19x11 : Code := cR c19x10
abbrev c19x12 : Code := cL c19x10
abbrev c19x13 : Code := cL c19x12
abbrev c19x14 : Code := cL c19x13
abbrev c19x15 : Code := cL c19x9
abbrev c19x16 : Code := cL c19x8
abbrev c19x17 : Code := cL c19x7
abbrev c19x18 : Code := cL c19x5
abbrev c19x19 : Code := cL c19
abbrev r19 : K := retK CF Try.f19
def D19 (rec : RT) (n : Nat) (c : Code) (X : Nat → K) (k : K) : K := codeD CF rec 44 n c X r19 k
theorem s19a2e : D19 rec n c19x2 x0 r19 = (K1 (s19a2 rec n) 1) :=
  (by kernel_rfl)
theorem s19a8e (kk3 : TT2) : D19 rec n c19x11 (xs (xs x0 0 (K1 (s19a2 rec n) 1)) 1 (K2 kk3 0 1)) (K2 kk3 0 1) = (K3 (s19a8 rec n kk3) 0 1 6) :=
  (by kernel_rfl)
theorem s19a9be (kk3 : TT2) (kk9 : TT3) : D19 rec n c19x14 (xs (xs (xs x0 0 (K1 (s19a2 rec n) 1)) 1 (K2 kk3 0 1)) 2 (K3 (s19a8 rec n kk3) 0 1 6)) (K3 kk9 0 1 6) = (K3 (s19a9b rec n kk3 kk9) 0 1 6) :=
  (by kernel_rfl)
theorem s19a9le (kk3 : TT2) (m : Nat) : loopN (fun kk => D19 rec n c19x14 (xs (xs (xs x0 0 (K1 (s19a2 rec n) 1)) 1 (K2 kk3 0 1)) 2 (K3 (s19a8 rec n kk3) 0 1 6)) kk) m = (K3 (s19a9l rec n kk3 m) 0 1 6) := by
  induction m with
  | zero => exact (by kernel_rfl : loopN (fun kk => D19 rec n c19x14 (xs (xs (xs x0 0 (K1 (s19a2 rec n) 1)) 1 (K2 kk3 0 1)) 2 (K3 (s19a8 rec n kk3) 0 1 6)) kk) 0 = (K3 (s19a9l rec n kk3 0) 0 1 6))
  | succ m ih =>
    refine (by kernel_rfl : loopN (fun kk => D19 rec n c19x14 (xs (xs (xs x0 0 (K1 (s19a2 rec n) 1)) 1 (K2 kk3 0 1)) 2 (K3 (s19a8 rec n kk3) 0 1 6)) kk) (m + 1) = D19 rec n c19x14 (xs (xs (xs x0 0 (K1 (s19a2 rec n) 1)) 1 (K2 kk3 0 1)) 2 (K3 (s19a8 rec n kk3) 0 1 6)) (loopN (fun kk => D19 rec n c19x14 (xs (xs (xs x0 0 (K1 (s19a2 rec n) 1)) 1 (K2 kk3 0 1)) 2 (K3 (s19a8 rec n kk3) 0 1 6)) kk) m)).trans ?_
    rw [ih]
    exact (s19a9be rec n kk3 (s19a9l rec n kk3 m)).trans (by kernel_rfl)
theorem s19a9e (kk3 : TT2) : D19 rec n c19x13 (xs (xs (xs x0 0 (K1 (s19a2 rec n) 1)) 1 (K2 kk3 0 1)) 2 (K3 (s19a8 rec n kk3) 0 1 6)) (K3 (s19a8 rec n kk3) 0 1 6) = (K3 (s19a9 rec n kk3) 0 1 6) :=
  (by kernel_rfl : D19 rec n c19x13 (xs (xs (xs x0 0 (K1 (s19a2 rec n) 1)) 1 (K2 kk3 0 1)) 2 (K3 (s19a8 rec n kk3) 0 1 6)) (K3 (s19a8 rec n kk3) 0 1 6) = loopN (fun kk => D19 rec n c19x14 (xs (xs (xs x0 0 (K1 (s19a2 rec n) 1)) 1 (K2 kk3 0 1)) 2 (K3 (s19a8 rec n kk3) 0 1 6)) kk) n).trans ((s19a9le rec n kk3 n).trans (by kernel_rfl))
theorem s19a7p1 (kk3 : TT2) : D19 rec n c19x10 (xs (xs x0 0 (K1 (s19a2 rec n) 1)) 1 (K2 kk3 0 1)) (K2 kk3 0 1) = D19 rec n c19x12 (xs (xs x0 0 (K1 (s19a2 rec n) 1)) 1 (K2 kk3 0 1)) (K3 (s19a8 rec n kk3) 0 1 6) :=
  congrArg (fun k => D19 rec n c19x12 (xs (xs x0 0 (K1 (s19a2 rec n) 1)) 1 (K2 kk3 0 1)) k) (s19a8e rec n kk3)
theorem s19a7e (kk3 : TT2) : D19 rec n c19x10 (xs (xs x0 0 (K1 (s19a2 rec n) 1)) 1 (K2 kk3 0 1)) (K2 kk3 0 1) = (K3 (s19a7 rec n kk3) 0 1 6) :=
  (s19a7p1 rec n kk3).trans
  ((by kernel_rfl : D19 rec n c19x12 (xs (xs x0 0 (K1 (s19a2 rec n) 1)) 1 (K2 kk3 0 1)) (K3 (s19a8 rec n kk3) 0 1 6) = D19 rec n c19x13 (xs (xs (xs x0 0 (K1 (s19a2 rec n) 1)) 1 (K2 kk3 0 1)) 2 (K3 (s19a8 rec n kk3) 0 1 6)) (K3 (s19a8 rec n kk3) 0 1 6)).trans
  ((s19a9e rec n kk3).trans (by kernel_rfl)))
theorem s19a6p2 (kk3 : TT2) : D19 rec n c19x9 (xs (xs x0 0 (K1 (s19a2 rec n) 1)) 1 (K2 kk3 0 1)) (K2 kk3 0 1) = D19 rec n c19x15 (xs (xs x0 0 (K1 (s19a2 rec n) 1)) 1 (K2 kk3 0 1)) (K3 (s19a7 rec n kk3) 0 1 6) :=
  congrArg (fun k => D19 rec n c19x15 (xs (xs x0 0 (K1 (s19a2 rec n) 1)) 1 (K2 kk3 0 1)) k) (s19a7e rec n kk3)
theorem s19a6e (kk3 : TT2) : D19 rec n c19x9 (xs (xs x0 0 (K1 (s19a2 rec n) 1)) 1 (K2 kk3 0 1)) (K2 kk3 0 1) = (K2 (s19a6 rec n kk3) 0 1) :=
  (s19a6p2 rec n kk3).trans
  ((by kernel_rfl))
theorem s19a5p3 (kk3 : TT2) : D19 rec n c19x8 (xs (xs x0 0 (K1 (s19a2 rec n) 1)) 1 (K2 kk3 0 1)) (K2 kk3 0 1) = D19 rec n c19x16 (xs (xs x0 0 (K1 (s19a2 rec n) 1)) 1 (K2 kk3 0 1)) (K2 (s19a6 rec n kk3) 0 1) :=
  congrArg (fun k => D19 rec n c19x16 (xs (xs x0 0 (K1 (s19a2 rec n) 1)) 1 (K2 kk3 0 1)) k) (s19a6e rec n kk3)
theorem s19a5e (kk3 : TT2) : D19 rec n c19x8 (xs (xs x0 0 (K1 (s19a2 rec n) 1)) 1 (K2 kk3 0 1)) (K2 kk3 0 1) = (K2 (s19a5 rec n kk3) 0 1) :=
  (s19a5p3 rec n kk3).trans
  ((by kernel_rfl))
theorem s19a4p4 (kk3 : TT2) : D19 rec n c19x7 (xs (xs x0 0 (K1 (s19a2 rec n) 1)) 1 (K2 kk3 0 1)) (K2 kk3 0 1) = D19 rec n c19x17 (xs (xs x0 0 (K1 (s19a2 rec n) 1)) 1 (K2 kk3 0 1)) (K2 (s19a5 rec n kk3) 0 1) :=
  congrArg (fun k => D19 rec n c19x17 (xs (xs x0 0 (K1 (s19a2 rec n) 1)) 1 (K2 kk3 0 1)) k) (s19a5e rec n kk3)
theorem s19a4e (kk3 : TT2) : D19 rec n c19x6 (xs x0 0 (K1 (s19a2 rec n) 1)) (K2 kk3 0 1) = (K2 (s19a4 rec n kk3) 0 1) :=
  (by kernel_rfl : D19 rec n c19x6 (xs x0 0 (K1 (s19a2 rec n) 1)) (K2 kk3 0 1) = D19 rec n c19x7 (xs (xs x0 0 (K1 (s19a2 rec n) 1)) 1 (K2 kk3 0 1)) (K2 kk3 0 1)).trans
  ((s19a4p4 rec n kk3).trans
  ((by kernel_rfl)))
theorem s19a3p5 (kk3 : TT2) : D19 rec n c19x5 (xs x0 0 (K1 (s19a2 rec n) 1)) (K2 kk3 0 1) = D19 rec n c19x18 (xs x0 0 (K1 (s19a2 rec n) 1)) (K2 (s19a4 rec n kk3) 0 1) :=
  congrArg (fun k => D19 rec n c19x18 (xs x0 0 (K1 (s19a2 rec n) 1)) k) (s19a4e rec n kk3)
theorem s19a3be (kk3 : TT2) : D19 rec n c19x5 (xs x0 0 (K1 (s19a2 rec n) 1)) (K2 kk3 0 1) = (K2 (s19a3b rec n kk3) 0 1) :=
  (s19a3p5 rec n kk3).trans
  ((by kernel_rfl))
theorem s19a3le (m : Nat) : loopN (fun kk => D19 rec n c19x5 (xs x0 0 (K1 (s19a2 rec n) 1)) kk) m = (K2 (s19a3l rec n m) 0 1) := by
  induction m with
  | zero => exact (by kernel_rfl : loopN (fun kk => D19 rec n c19x5 (xs x0 0 (K1 (s19a2 rec n) 1)) kk) 0 = (K2 (s19a3l rec n 0) 0 1))
  | succ m ih =>
    refine (by kernel_rfl : loopN (fun kk => D19 rec n c19x5 (xs x0 0 (K1 (s19a2 rec n) 1)) kk) (m + 1) = D19 rec n c19x5 (xs x0 0 (K1 (s19a2 rec n) 1)) (loopN (fun kk => D19 rec n c19x5 (xs x0 0 (K1 (s19a2 rec n) 1)) kk) m)).trans ?_
    rw [ih]
    exact (s19a3be rec n (s19a3l rec n m)).trans (by kernel_rfl)
theorem s19a3e : D19 rec n c19x4 (xs x0 0 (K1 (s19a2 rec n) 1)) (K1 (s19a2 rec n) 1) = (K2 (s19a3 rec n) 0 1) :=
  (by kernel_rfl : D19 rec n c19x4 (xs x0 0 (K1 (s19a2 rec n) 1)) (K1 (s19a2 rec n) 1) = loopN (fun kk => D19 rec n c19x5 (xs x0 0 (K1 (s19a2 rec n) 1)) kk) n).trans ((s19a3le rec n n).trans (by kernel_rfl))
theorem s19a1p6 : D19 rec n c19x1 x0 r19 = D19 rec n c19x3 x0 (K1 (s19a2 rec n) 1) :=
  congrArg (fun k => D19 rec n c19x3 x0 k) (s19a2e rec n)
theorem s19a1e : D19 rec n c19x1 x0 r19 = (K2 (s19a1 rec n) 0 1) :=
  (s19a1p6 rec n).trans
  ((by kernel_rfl : D19 rec n c19x3 x0 (K1 (s19a2 rec n) 1) = D19 rec n c19x4 (xs x0 0 (K1 (s19a2 rec n) 1)) (K1 (s19a2 rec n) 1)).trans
  ((s19a3e rec n).trans (by kernel_rfl)))
theorem s19p7 : D19 rec n c19 x0 r19 = D19 rec n c19x19 x0 (K2 (s19a1 rec n) 0 1) :=
  congrArg (fun k => D19 rec n c19x19 x0 k) (s19a1e rec n)
theorem s19m : D19 rec n c19 x0 r19 = (K2 (s19 rec n) 0 1) :=
  (s19p7 rec n).trans
  ((by kernel_rfl))
theorem s19ok (args : List DV) (h : Hp) : bodyD CF rec n 19 args h = s19 rec n (args.getD 0 undefD) (args.getD 1 undefD) h :=
  (by kernel_rfl : bodyD CF rec n 19 args h = D19 rec n c19 x0 r19 (argsE args) h).trans ((congrFun (congrFun (s19m rec n) (argsE args)) h).trans (by kernel_rfl))
def s20a6 (rec : RT) (n : Nat) (x0 x1 x4 x7 x8 : DV) (h0 : Hp) : Res :=
 bnd (pInt .eql x8 (.i .i64 (Int.ofNat 4)) h0) fun v1 h1 =>
 ifD v1 (
 bnd (pField 0 x7 h1) fun v2 h2 =>
 bnd (pStore 1 v2 (.i .i64 (Int.ofNat 10)) h2) fun _ h3 =>
 bnd (pInt .add x1 (.i .i64 (Int.ofNat 1)) h3) fun v4 h4 =>
 bnd (pSliceS x0 (some x1) (some v4) h4) fun v5 h5 =>
 bnd (pField 1 x7 h5) fun v6 h6 =>
 bnd (pStore 1 v6 v5 h6) fun _ h7 =>
 bnd (pLoadA 4 x7 h7) fun v8 h8 =>
 bnd (pInt .add x1 (.i .i64 (Int.ofNat 1)) h8) fun v9 h9 =>
 bnd (pStore 4 x4 v8 h9) fun _ h10 =>
 bnd (pLoadA 4 x4 h10) fun v11 _ =>
 some (.t [v11, v9, (.i .i64 (Int.ofNat 0))], h10)) (
 bnd (pIndexS x0 x1 h1) fun v12 h12 =>
 bnd (pInt .eql v12 (.i .u8 (Int.ofNat 39)) h12) fun v13 h13 =>
 ifD v13 (
 bnd (pField 0 x7 h13) fun v14 h14 =>
 bnd (pStore 1 v14 (.i .i64 (Int.ofNat 5)) h14) fun _ h15 =>
 bnd (pLoadA 4 x7 h15) fun v16 h16 =>
 bnd (rec 37 [x0, v16] h16) fun v17 h17 =>
 bnd (pExtract 0 v17 h17) fun v18 h18 =>
 bnd (pExtract 1 v17 h18) fun v19 h19 =>
 bnd (pExtract 2 v17 h19) fun v20 h20 =>
 bnd (pStore 4 x4 v18 h20) fun _ h21 =>
 bnd (pLoadA 4 x4 h21) fun v22 _ =>
 some (.t [v22, v19, v20], h21)) (
 bnd (pIndexS x0 x1 h13) fun v23 h23 =>
 bnd (pInt .eql v23 (.i .u8 (Int.ofNat 35)) h23) fun v24 h24 =>
 ifD v24 (
 bnd (pLoadA 4 x7 h24) fun v25 h25 =>
 bnd (rec 38 [x0, v25] h25) fun v26 h26 =>
 bnd (pExtract 0 v26 h26) fun v27 h27 =>
 bnd (pExtract 1 v26 h27) fun v28 h28 =>
 bnd (pExtract 2 v26 h28) fun v29 h29 =>
 bnd (pStore 4 x4 v27 h29) fun _ h30 =>
 bnd (pLoadA 4 x4 h30) fun v31 _ =>
 some (.t [v31, v28, v29], h30)) (
 bnd (pIndexS x0 x1 h24) fun v32 h32 =>
 bnd (pInt .eql v32 (.i .u8 (Int.ofNat 58)) h32) fun v33 h33 =>
 bnd (gD v33 true (some (x1, h33)) h33) fun v34 h34 =>
 bnd (gD v33 true (pInt .add v34 (.i .i64 (Int.ofNat 1)) h34) h34) fun v35 h35 =>
 bnd (gD v33 true (some (x0, h35)) h35) fun v36 h36 =>
 bnd (gD v33 true (pLenS v36 h36) h36) fun v37 h37 =>
 bnd (gD v33 true (pInt .lss v35 v37 h37) h37) fun v38 h38 =>
 bnd (pPick v33 v38 (.b false) h38) fun v39 h39 =>
 bnd (gD v39 true (some (x0, h39)) h39) fun v40 h40 =>
 bnd (gD v39 true (some (x1, h40)) h40) fun v41 h41 =>
 bnd (gD v39 true (pInt .add v41 (.i .i64 (Int.ofNat 1)) h41) h41) fun v42 h42 =>
 bnd (gD v39 true (pIndexS v40 v42 h42) h42) fun v43 h43 =>
 bnd (gD v39 true (pInt .eql v43 (.i .u8 (Int.ofNat 61)) h43) h43) fun v44 h44 =>
 bnd (pPick v39 v44 (.b false) h44) fun v45 h45 =>
 ifD v45 (
 bnd (pField 0 x7 h45) fun v46 h46 =>
 bnd (pStore 1 v46 (.i .i64 (Int.ofNat 9)) h46) fun _ h47 =>
 bnd (pLoadA 4 x7 h47) fun v48 h48 =>
 bnd (pInt .add x1 (.i .i64 (Int.ofNat 2)) h48) fun v49 h49 =>
 bnd (pStore 4 x4 v48 h49) fun _ h50 =>
 bnd (pLoadA 4 x4 h50) fun v51 _ =>
 some (.t [v51, v49, (.i .i64 (Int.ofNat 0))], h50)) (
 bnd (pIndexS x0 x1 h45) fun v52 h52 =>
 bnd (pInt .eql v52 (.i .u8 (Int.ofNat 58)) h52) fun v53 h53 =>
 bnd (gD v53 true (some (x0, h53)) h53) fun v54 h54 =>
 bnd (gD v53 true (some (x1, h54)) h54) fun v55 h55 =>
 bnd (gD v53 true (pInt .add v55 (.i .i64 (Int.ofNat 1)) h55) h55) fun v56 h56 =>
 bnd (gD v53 true (rec 34 [v54, v56] h56) h56) fun v57 h57 =>
 bnd (gD v53 true (pInt .eql v57 (.i .i64 (Int.ofNat 1)) h57) h57) fun v58 h58 =>
 bnd (pPick v53 v58 (.b false) h58) fun v59 h59 =>
 ifD v59 (
 bnd (pInt .add x1 (.i .i64 (Int.ofNat 1)) h59) fun v60 h60 =>
 bnd (rec 35 [x0, v60] h60) fun v61 h61 =>
 bnd (pInt .sub v61 x1 h61) fun v62 h62 =>
 bnd (pInt .sub v62 (.i .i64 (Int.ofNat 1)) h62) fun v63 h63 =>
 bnd (pInt .gtr v63 (.i .i64 (Int.ofNat 24)) h63) fun v64 h64 =>
 ifD v64 (
 bnd (pLoadA 4 x7 h64) fun v65 h65 =>
 bnd (pStore 4 x4 v65 h65) fun _ h66 =>
 bnd (pLoadA 4 x4 h66) fun v67 _ =>
 some (.t [v67, (.i .i64 (Int.ofNat 0)), (.i .i64 (Int.ofNat 12))], h66)) (
 bnd (pField 0 x7 h64) fun v68 h68 =>
 bnd (pStore 1 v68 (.i .i64 (Int.ofNat 8)) h68) fun _ h69 =>
 bnd (pInt .add x1 (.i .i64 (Int.ofNat 1)) h69) fun v70 h70 =>
 bnd (pSliceS x0 (some v70) (some v61) h70) fun v71 h71 =>
 bnd (pField 1 x7 h71) fun v72 h72 =>
 bnd (pStore 1 v72 v71 h72) fun _ h73 =>
 bnd (pLoadA 4 x7 h73) fun v74 h74 =>
 bnd (pStore 4 x4 v74 h74) fun _ h75 =>
 bnd (pLoadA 4 x4 h75) fun v76 _ =>
 some (.t [v76, v61, (.i .i64 (Int.ofNat 0))], h75))) (
 bnd (pLoadA 4 x7 h59) fun v77 h77 =>
 bnd (pStore 4 x4 v77 h77) fun _ h78 =>
 bnd (pLoadA 4 x4 h78) fun v79 _ =>
 some (.t [v79, (.i .i64 (Int.ofNat 0)), (.i .i64 (Int.ofNat 10))], h78))))))
def s20a11 (rec : RT) (n : Nat) (x0 x1 x4 x7 x11 : DV) (h0 : Hp) : Res :=
 bnd (pSliceS x0 (some x1) (some x11) h0) fun v1 h1 =>
 bnd (pField 1 x7 h1) fun v2 h2 =>
 bnd (pStore 1 v2 v1 h2) fun _ h3 =>
 bnd (pLoadA 4 x7 h3) fun v4 h4 =>
 bnd (pStore 4 x4 v4 h4) fun _ h5 =>
 bnd (pLoadA 4 x4 h5) fun v6 _ =>
 some (.t [v6, x11, (.i .i64 (Int.ofNat 0))], h5)
def s20a10 (rec : RT) (n : Nat) (x0 x1 x4 x7 x11 : DV) (h0 : Hp) : Res :=
 bnd (rec 34 [x0, x11] h0) fun v1 h1 =>
 bnd (pInt .eql v1 (.i .i64 (Int.ofNat 3)) h1) fun v2 h2 =>
 ifD v2 (
 bnd (pInt .add x11 (.i .i64 (Int.ofNat 1)) h2) fun v3 h3 =>
    s20a11 rec n x0 x1 x4 x7 v3 h3) (
    s20a11 rec n x0 x1 x4 x7 x11 h2)
def s20a9 (rec : RT) (n : Nat) (x0 x1 x4 x7 : DV) (h0 : Hp) : Res :=
 bnd (pInt .add x1 (.i .i64 (Int.ofNat 1)) h0) fun v1 h1 =>
  s20a10 rec n x0 x1 x4 x7 v1 h1
def s20a8 (rec : RT) (n : Nat) (x0 x1 x4 x7 : DV) (h0 : Hp) : Res :=
 bnd (pField 0 x7 h0) fun v1 h1 =>
 bnd (pStore 1 v1 (.i .i64 (Int.ofNat 3)) h1) fun _ h2 =>
  s20a9 rec n x0 x1 x4 x7 h2
def s20a7 (rec : RT) (n : Nat) (x0 x1 x4 x7 x8 x72 : DV) (h0 : Hp) : Res :=
 ifD x72 (
    s20a8 rec n x0 x1 x4 x7 h0) (
    s20a6 rec n x0 x1 x4 x7 x8 h0)
def s20a5 (rec : RT) (n : Nat) (x0 x1 x4 x7 x8 : DV) (h0 : Hp) : Res :=
 bnd (pInt .eql x8 (.i .i64 (Int.ofNat 3)) h0) fun v1 h1 =>
  s20a7 rec n x0 x1 x4 x7 x8 v1 h1
def s20a15 (rec : RT) (n : Nat) (x1 x4 x7 : DV) (h0 : Hp) : Res :=
 bnd (pLoadA 4 x7 h0) fun v1 h1 =>
 bnd (pStore 4 x4 v1 h1) fun _ h2 =>
 bnd (pLoadA 4 x4 h2) fun v3 _ =>
 some (.t [v3, x1, (.i .i64 (Int.ofNat 0))], h2)
def s20a16b (rec : RT) (n : Nat) (kk16 : TT4) (x0 x1 x4 x7 : DV) (h0 : Hp) : Res :=
 bnd (rec 34 [x0, x1] h0) fun v1 h1 =>
 bnd (pInt .eql v1 (.i .i64 (Int.ofNat 2)) h1) fun v2 h2 =>
 ifD v2 (
 bnd (pIndexS x0 x1 h2) fun v3 h3 =>
 bnd (pInt .sub v3 (.i .u8 (Int.ofNat 48)) h3) fun v4 h4 =>
 bnd (pConvI .i64 v4 h4) fun v5 h5 =>
 bnd (pField 2 x7 h5) fun v6 h6 =>
 bnd (pLoad1 v6 h6) fun v7 h7 =>
 bnd (pInt .sub (.i .i64 (Int.ofNat 1152921504606846976)) v5 h7) fun v8 h8 =>
 bnd (pInt .quo v8 (.i .i64 (Int.ofNat 10)) h8) fun v9 h9 =>
 bnd (pInt .gtr v7 v9 h9) fun v10 h10 =>
 ifD v10 (
 bnd (pLoadA 4 x7 h10) fun v11 h11 =>
 bnd (pStore 4 x4 v11 h11) fun _ h12 =>
 bnd (pLoadA 4 x4 h12) fun v13 _ =>
 some (.t [v13, (.i .i64 (Int.ofNat 0)), (.i .i64 (Int.ofNat 2))], h12)) (
 bnd (pField 2 x7 h10) fun v14 h14 =>
 bnd (pLoad1 v14 h14) fun v15 h15 =>
 bnd (pInt .mul (.i .i64 (Int.ofNat 10)) v15 h15) fun v16 h16 =>
 bnd (pInt .add v16 v5 h16) fun v17 h17 =>
 bnd (pField 2 x7 h17) fun v18 h18 =>
 bnd (pStore 1 v18 v17 h18) fun _ h19 =>
 bnd (pInt .add x1 (.i .i64 (Int.ofNat 1)) h19) fun v20 h20 =>
        kk16 x0 v20 x4 x7 h20)) (
      s20a15 rec n x1 x4 x7 h2)
def s20a16l (rec : RT) (n : Nat) (m : Nat) : TT4 :=
  Nat.rec (motive := fun _ => TT4) (fun _ _ _ _ _ => none) (fun _ ih => s20a16b rec n ih) m
def s20a16 (rec : RT) (n : Nat) : TT4 := s20a16l rec n n
def s20a14 (rec : RT) (n : Nat) (x0 x1 x4 x7 : DV) (h0 : Hp) : Res :=
  s20a16 rec n x0 x1 x4 x7 h0
def s20a13 (rec : RT) (n : Nat) (x0 x1 x4 x7 : DV) (h0 : Hp) : Res :=
 bnd (pField 0 x7 h0) fun v1 h1 =>
 bnd (pStore 1 v1 (.i .i64 (Int.ofNat 4)) h1) fun _ h2 =>
  s20a14 rec n x0 x1 x4 x7 h2
def s20a12 (rec : RT) (n : Nat) (x0 x1 x4 x7 x8 x43 : DV) (h0 : Hp) : Res :=
 ifD x43 (
    s20a13 rec n x0 x1 x4 x7 h0) (
    s20a5 rec n x0 x1 x4 x7 x8 h0)
def s20a4 (rec : RT) (n : Nat) (x0 x1 x4 x7 x8 : DV) (h0 : Hp) : Res :=
 bnd (pInt .eql x8 (.i .i64 (Int.ofNat 2)) h0) fun v1 h1 =>
  s20a12 rec n x0 x1 x4 x7 x8 v1 h1
def s20a22 (rec : RT) (n : Nat) (x0 x1 x4 x7 x9 : DV) (h0 : Hp) : Res :=
 bnd (pSliceS x0 (some x1) (some x9) h0) fun v1 h1 =>
 bnd (pField 1 x7 h1) fun v2 h2 =>
 bnd (pStore 1 v2 v1 h2) fun _ h3 =>
 bnd (pLoadA 4 x7 h3) fun v4 h4 =>
 bnd (pStore 4 x4 v4 h4) fun _ h5 =>
 bnd (pLoadA 4 x4 h5) fun v6 _ =>
 some (.t [v6, x9, (.i .i64 (Int.ofNat 0))], h5)
def s20a21 (rec : RT) (n : Nat) (x0 x1 x4 x7 x9 : DV) (h0 : Hp) : Res :=
 bnd (rec 36 [x0, x9] h0) fun v1 h1 =>
 ifD v1 (
 bnd (pField 0 x7 h1) fun v2 h2 =>
 bnd (pStore 1 v2 (.i .i64 (Int.ofNat 2)) h2) fun _ h3 =>
 bnd (pInt .add x9 (.i .i64 (Int.ofNat 1)) h3) fun v4 h4 =>
    s20a22 rec n x0 x1 x4 x7 v4 h4) (
    s20a22 rec n x0 x1 x4 x7 x9 h1)
def s20a20 (rec : RT) (n : Nat) (x0 x1 x4 x7 x9 : DV) (h0 : Hp) : Res :=
 bnd (pField 0 x7 h0) fun v1 h1 =>
 bnd (pStore 1 v1 (.i .i64 (Int.ofNat 1)) h1) fun _ h2 =>
  s20a21 rec n x0 x1 x4 x7 x9 h2
def s20a19 (rec : RT) (n : Nat) (x0 x1 x4 x7 x9 : DV) (h0 : Hp) : Res :=
 bnd (pInt .sub x9 x1 h0) fun v1 h1 =>
 bnd (pInt .gtr v1 (.i .i64 (Int.ofNat 24)) h1) fun v2 h2 =>
 ifD v2 (
 bnd (pLoadA 4 x7 h2) fun v3 h3 =>
 bnd (pStore 4 x4 v3 h3) fun _ h4 =>
 bnd (pLoadA 4 x4 h4) fun v5 _ =>
 some (.t [v5, (.i .i64 (Int.ofNat 0)), (.i .i64 (Int.ofNat 12))], h4)) (
    s20a20 rec n x0 x1 x4 x7 x9 h2)
def s20a18 (rec : RT) (n : Nat) (x0 x1 x4 x7 : DV) (h0 : Hp) : Res :=
 bnd (rec 35 [x0, x1] h0) fun v1 h1 =>
  s20a19 rec n x0 x1 x4 x7 v1 h1
def s20a17 (rec : RT) (n : Nat) (x0 x1 x4 x7 x8 x19 : DV) (h0 : Hp) : Res :=
 ifD x19 (
    s20a18 rec n x0 x1 x4 x7 h0) (
    s20a4 rec n x0 x1 x4 x7 x8 h0)
def s20a3 (rec : RT) (n : Nat) (x0 x1 x4 x7 x8 : DV) (h0 : Hp) : Res :=
 bnd (pInt .eql x8 (.i .i64 (Int.ofNat 1)) h0) fun v1 h1 =>
  s20a17 rec n x0 x1 x4 x7 x8 v1 h1
def s20a2 (rec : RT) (n : Nat) (x0 x1 x4 x7 : DV) (h0 : Hp) : Res :=
 bnd (rec 34 [x0, x1] h0) fun v1 h1 =>
  s20a3 rec n x0 x1 x4 x7 v1 h1
def s20a1 (rec : RT) (n : Nat) (x0 x1 x4 : DV) (h0 : Hp) : Res :=
 bnd (pBuild [(.i .i64 (Int.ofNat 0)), (.s []), (.i .i64 (Int.ofNat 0)), (.i .i64 (Int.ofNat 0))] [(3, 1, x1)] h0) fun v1 h1 =>
 bnd (pNew [(.i .i64 (Int.ofNat 0)), (.s []), (.i .i64 (Int.ofNat 0)), (.i .i64 (Int.ofNat 0))] h1) fun v2 h2 =>
 bnd (pStore 4 v2 v1 h2) fun _ h3 =>
  s20a2 rec n x0 x1 x4 v2 h3
/-- vivariumref06.token -/
def s20 (rec : RT) (n : Nat) (x0 x1 : DV) (h0 : Hp) : Res :=
 bnd (pNew [(.i .i64 (Int.ofNat 0)), (.s []), (.i .i64 (Int.ofNat 0)), (.i .i64 (Int.ofNat 0))] h0) fun v1 h1 =>
  s20a1 rec n x0 x1 v1 h1
abbrev c20 : Code := cf Try.f20
abbrev c20x1 : Code := cR c20
abbrev c20x2 : Code := cR c20x1
abbrev c20x3 : Code := cR c20x2
abbrev c20x4 : Code := cR c20x3
abbrev c20x5 : Code := cR c20x4
abbrev c20x6 : Code := cR c20x5
abbrev c20x7 : Code := cL c20x5
abbrev c20x8 : Code := cR c20x7
abbrev c20x9 : Code := cL c20x8
abbrev c20x10 : Code := cR c20x9
abbrev c20x11 : Code := cR c20x10
abbrev c20x12 : Code := cR c20x11
abbrev c20x13 : Code := cL c20x11
abbrev c20x14 : Code := cL c20x10
abbrev c20x15 : Code := cL c20x9
abbrev c20x16 : Code := cR c20x8
abbrev c20x17 : Code := cL c20x7
abbrev c20x18 : Code := cL c20x4
abbrev c20x19 : Code := cR c20x18
abbrev c20x20 : Code := cL c20x19
abbrev c20x21 : Code := cR c20x20
abbrev c20x22 : Code := cR c20x21
abbrev c20x23 : Code := cL c20x21
abbrev c20x24 : Code := cL c20x23
abbrev c20x25 : Code := cL c20x24
abbrev c20x26 : Code := cL c20x20
abbrev c20x27 : Code := cR c20x19
abbrev c20x28 : Code := cL c20x18
abbrev c20x29 : Code := cL c20x3
abbrev c20x30 : Code := cR c20x29
abbrev c20x31 : Code := cL c20x30
abbrev c20x32 : Code := cR c20x31
abbrev c20x33 : Code := cR c20x32
abbrev c20x34 : Code := cR c20x33
abbrev c20x35 : Code := cR c20x34
abbrev c20x36 : Code := cL c20x34
abbrev c20x37 : Code := cL c20x33
abbrev c20x38 : Code := cL c20x32
abbrev c20x39 : Code := cL c20x31
abbrev c20x40 : Code := cR c20x30
abbrev c20x41 : Code := cL c20x29
abbrev c20x42 : Code := cL c20x2
abbrev c20x43 : Code := cL c20x1
abbrev c20x44 : Code := cL c20
abbrev r20 : K := retK CF Try.f20
def D20 (rec : RT) (n : Nat) (c : Code) (X : Nat → K) (k : K) : K := codeD CF rec 175 n c X r20 k
theorem s20a6e : D20 rec n c20x6 x0 r20 = (K5 (s20a6 rec n) 0 1 4 7 8) :=
  (by kernel_rfl)
theorem s20a11e : D20 rec n c20x12 x0 (K5 (s20a6 rec n) 0 1 4 7 8) = (K5 (s20a11 rec n) 0 1 4 7 11) :=
  (by kernel_rfl)
theorem s20a10p1 : D20 rec n c20x11 x0 (K5 (s20a6 rec n) 0 1 4 7 8) = D20 rec n c20x13 x0 (K5 (s20a11 rec n) 0 1 4 7 11) :=
  congrArg (fun k => D20 rec n c20x13 x0 k) (s20a11e rec n)
theorem s20a10e : D20 rec n c20x11 x0 (K5 (s20a6 rec n) 0 1 4 7 8) = (K5 (s20a10 rec n) 0 1 4 7 11) :=
  (s20a10p1 rec n).trans
  ((by kernel_rfl))
theorem s20a9p2 : D20 rec n c20x10 x0 (K5 (s20a6 rec n) 0 1 4 7 8) = D20 rec n c20x14 x0 (K5 (s20a10 rec n) 0 1 4 7 11) :=
  congrArg (fun k => D20 rec n c20x14 x0 k) (s20a10e rec n)
theorem s20a9e : D20 rec n c20x10 x0 (K5 (s20a6 rec n) 0 1 4 7 8) = (K4 (s20a9 rec n) 0 1 4 7) :=
  (s20a9p2 rec n).trans
  ((by kernel_rfl))
theorem s20a8p3 : D20 rec n c20x9 x0 (K5 (s20a6 rec n) 0 1 4 7 8) = D20 rec n c20x15 x0 (K4 (s20a9 rec n) 0 1 4 7) :=
  congrArg (fun k => D20 rec n c20x15 x0 k) (s20a9e rec n)
theorem s20a8e : D20 rec n c20x9 x0 (K5 (s20a6 rec n) 0 1 4 7 8) = (K4 (s20a8 rec n) 0 1 4 7) :=
  (s20a8p3 rec n).trans
  ((by kernel_rfl))
theorem s20a7e : D20 rec n c20x8 x0 (K5 (s20a6 rec n) 0 1 4 7 8) = (K6 (s20a7 rec n) 0 1 4 7 8 72) :=
  (by kernel_rfl : D20 rec n c20x8 x0 (K5 (s20a6 rec n) 0 1 4 7 8) = (fun (env : Env) (h : Hp) => ifD (opr env (cC c20x8)) (D20 rec n c20x9 x0 (K5 (s20a6 rec n) 0 1 4 7 8) env h) (D20 rec n c20x16 x0 (K5 (s20a6 rec n) 0 1 4 7 8) env h))).trans (by rw [s20a8e rec n]; kernel_rfl)
theorem s20a5p4 : D20 rec n c20x5 x0 r20 = D20 rec n c20x7 x0 (K5 (s20a6 rec n) 0 1 4 7 8) :=
  congrArg (fun k => D20 rec n c20x7 x0 k) (s20a6e rec n)
theorem s20a5p5 : D20 rec n c20x7 x0 (K5 (s20a6 rec n) 0 1 4 7 8) = D20 rec n c20x17 x0 (K6 (s20a7 rec n) 0 1 4 7 8 72) :=
  congrArg (fun k => D20 rec n c20x17 x0 k) (s20a7e rec n)
theorem s20a5e : D20 rec n c20x5 x0 r20 = (K5 (s20a5 rec n) 0 1 4 7 8) :=
  (s20a5p4 rec n).trans
  ((s20a5p5 rec n).trans
  ((by kernel_rfl)))
theorem s20a15e : D20 rec n c20x22 x0 (K5 (s20a5 rec n) 0 1 4 7 8) = (K3 (s20a15 rec n) 1 4 7) :=
  (by kernel_rfl)
theorem s20a16be (kk16 : TT4) : D20 rec n c20x25 (xs x0 0 (K3 (s20a15 rec n) 1 4 7)) (K4 kk16 0 1 4 7) = (K4 (s20a16b rec n kk16) 0 1 4 7) :=
  (by kernel_rfl)
theorem s20a16le (m : Nat) : loopN (fun kk => D20 rec n c20x25 (xs x0 0 (K3 (s20a15 rec n) 1 4 7)) kk) m = (K4 (s20a16l rec n m) 0 1 4 7) := by
  induction m with
  | zero => exact (by kernel_rfl : loopN (fun kk => D20 rec n c20x25 (xs x0 0 (K3 (s20a15 rec n) 1 4 7)) kk) 0 = (K4 (s20a16l rec n 0) 0 1 4 7))
  | succ m ih =>
    refine (by kernel_rfl : loopN (fun kk => D20 rec n c20x25 (xs x0 0 (K3 (s20a15 rec n) 1 4 7)) kk) (m + 1) = D20 rec n c20x25 (xs x0 0 (K3 (s20a15 rec n) 1 4 7)) (loopN (fun kk => D20 rec n c20x25 (xs x0 0 (K3 (s20a15 rec n) 1 4 7)) kk) m)).trans ?_
    rw [ih]
    exact (s20a16be rec n (s20a16l rec n m)).trans (by kernel_rfl)
theorem s20a16e : D20 rec n c20x24 (xs x0 0 (K3 (s20a15 rec n) 1 4 7)) (K3 (s20a15 rec n) 1 4 7) = (K4 (s20a16 rec n) 0 1 4 7) :=
  (by kernel_rfl : D20 rec n c20x24 (xs x0 0 (K3 (s20a15 rec n) 1 4 7)) (K3 (s20a15 rec n) 1 4 7) = loopN (fun kk => D20 rec n c20x25 (xs x0 0 (K3 (s20a15 rec n) 1 4 7)) kk) n).trans ((s20a16le rec n n).trans (by kernel_rfl))
theorem s20a14p6 : D20 rec n c20x21 x0 (K5 (s20a5 rec n) 0 1 4 7 8) = D20 rec n c20x23 x0 (K3 (s20a15 rec n) 1 4 7) :=
  congrArg (fun k => D20 rec n c20x23 x0 k) (s20a15e rec n)
theorem s20a14e : D20 rec n c20x21 x0 (K5 (s20a5 rec n) 0 1 4 7 8) = (K4 (s20a14 rec n) 0 1 4 7) :=
  (s20a14p6 rec n).trans
  ((by kernel_rfl : D20 rec n c20x23 x0 (K3 (s20a15 rec n) 1 4 7) = D20 rec n c20x24 (xs x0 0 (K3 (s20a15 rec n) 1 4 7)) (K3 (s20a15 rec n) 1 4 7)).trans
  ((s20a16e rec n).trans (by kernel_rfl)))
theorem s20a13p7 : D20 rec n c20x20 x0 (K5 (s20a5 rec n) 0 1 4 7 8) = D20 rec n c20x26 x0 (K4 (s20a14 rec n) 0 1 4 7) :=
  congrArg (fun k => D20 rec n c20x26 x0 k) (s20a14e rec n)
theorem s20a13e : D20 rec n c20x20 x0 (K5 (s20a5 rec n) 0 1 4 7 8) = (K4 (s20a13 rec n) 0 1 4 7) :=
  (s20a13p7 rec n).trans
  ((by kernel_rfl))
theorem s20a12e : D20 rec n c20x19 x0 (K5 (s20a5 rec n) 0 1 4 7 8) = (K6 (s20a12 rec n) 0 1 4 7 8 43) :=
  (by kernel_rfl : D20 rec n c20x19 x0 (K5 (s20a5 rec n) 0 1 4 7 8) = (fun (env : Env) (h : Hp) => ifD (opr env (cC c20x19)) (D20 rec n c20x20 x0 (K5 (s20a5 rec n) 0 1 4 7 8) env h) (D20 rec n c20x27 x0 (K5 (s20a5 rec n) 0 1 4 7 8) env h))).trans (by rw [s20a13e rec n]; kernel_rfl)
theorem s20a4p8 : D20 rec n c20x4 x0 r20 = D20 rec n c20x18 x0 (K5 (s20a5 rec n) 0 1 4 7 8) :=
  congrArg (fun k => D20 rec n c20x18 x0 k) (s20a5e rec n)
theorem s20a4p9 : D20 rec n c20x18 x0 (K5 (s20a5 rec n) 0 1 4 7 8) = D20 rec n c20x28 x0 (K6 (s20a12 rec n) 0 1 4 7 8 43) :=
  congrArg (fun k => D20 rec n c20x28 x0 k) (s20a12e rec n)
theorem s20a4e : D20 rec n c20x4 x0 r20 = (K5 (s20a4 rec n) 0 1 4 7 8) :=
  (s20a4p8 rec n).trans
  ((s20a4p9 rec n).trans
  ((by kernel_rfl)))
theorem s20a22e : D20 rec n c20x35 x0 (K5 (s20a4 rec n) 0 1 4 7 8) = (K5 (s20a22 rec n) 0 1 4 7 9) :=
  (by kernel_rfl)
theorem s20a21p10 : D20 rec n c20x34 x0 (K5 (s20a4 rec n) 0 1 4 7 8) = D20 rec n c20x36 x0 (K5 (s20a22 rec n) 0 1 4 7 9) :=
  congrArg (fun k => D20 rec n c20x36 x0 k) (s20a22e rec n)
theorem s20a21e : D20 rec n c20x34 x0 (K5 (s20a4 rec n) 0 1 4 7 8) = (K5 (s20a21 rec n) 0 1 4 7 9) :=
  (s20a21p10 rec n).trans
  ((by kernel_rfl))
theorem s20a20p11 : D20 rec n c20x33 x0 (K5 (s20a4 rec n) 0 1 4 7 8) = D20 rec n c20x37 x0 (K5 (s20a21 rec n) 0 1 4 7 9) :=
  congrArg (fun k => D20 rec n c20x37 x0 k) (s20a21e rec n)
theorem s20a20e : D20 rec n c20x33 x0 (K5 (s20a4 rec n) 0 1 4 7 8) = (K5 (s20a20 rec n) 0 1 4 7 9) :=
  (s20a20p11 rec n).trans
  ((by kernel_rfl))
theorem s20a19p12 : D20 rec n c20x32 x0 (K5 (s20a4 rec n) 0 1 4 7 8) = D20 rec n c20x38 x0 (K5 (s20a20 rec n) 0 1 4 7 9) :=
  congrArg (fun k => D20 rec n c20x38 x0 k) (s20a20e rec n)
theorem s20a19e : D20 rec n c20x32 x0 (K5 (s20a4 rec n) 0 1 4 7 8) = (K5 (s20a19 rec n) 0 1 4 7 9) :=
  (s20a19p12 rec n).trans
  ((by kernel_rfl))
theorem s20a18p13 : D20 rec n c20x31 x0 (K5 (s20a4 rec n) 0 1 4 7 8) = D20 rec n c20x39 x0 (K5 (s20a19 rec n) 0 1 4 7 9) :=
  congrArg (fun k => D20 rec n c20x39 x0 k) (s20a19e rec n)
theorem s20a18e : D20 rec n c20x31 x0 (K5 (s20a4 rec n) 0 1 4 7 8) = (K4 (s20a18 rec n) 0 1 4 7) :=
  (s20a18p13 rec n).trans
  ((by kernel_rfl))
theorem s20a17e : D20 rec n c20x30 x0 (K5 (s20a4 rec n) 0 1 4 7 8) = (K6 (s20a17 rec n) 0 1 4 7 8 19) :=
  (by kernel_rfl : D20 rec n c20x30 x0 (K5 (s20a4 rec n) 0 1 4 7 8) = (fun (env : Env) (h : Hp) => ifD (opr env (cC c20x30)) (D20 rec n c20x31 x0 (K5 (s20a4 rec n) 0 1 4 7 8) env h) (D20 rec n c20x40 x0 (K5 (s20a4 rec n) 0 1 4 7 8) env h))).trans (by rw [s20a18e rec n]; kernel_rfl)
theorem s20a3p14 : D20 rec n c20x3 x0 r20 = D20 rec n c20x29 x0 (K5 (s20a4 rec n) 0 1 4 7 8) :=
  congrArg (fun k => D20 rec n c20x29 x0 k) (s20a4e rec n)
theorem s20a3p15 : D20 rec n c20x29 x0 (K5 (s20a4 rec n) 0 1 4 7 8) = D20 rec n c20x41 x0 (K6 (s20a17 rec n) 0 1 4 7 8 19) :=
  congrArg (fun k => D20 rec n c20x41 x0 k) (s20a17e rec n)
theorem s20a3e : D20 rec n c20x3 x0 r20 = (K5 (s20a3 rec n) 0 1 4 7 8) :=
  (s20a3p14 rec n).trans
  ((s20a3p15 rec n).trans
  ((by kernel_rfl)))
theorem s20a2p16 : D20 rec n c20x2 x0 r20 = D20 rec n c20x42 x0 (K5 (s20a3 rec n) 0 1 4 7 8) :=
  congrArg (fun k => D20 rec n c20x42 x0 k) (s20a3e rec n)
theorem s20a2e : D20 rec n c20x2 x0 r20 = (K4 (s20a2 rec n) 0 1 4 7) :=
  (s20a2p16 rec n).trans
  ((by kernel_rfl))
theorem s20a1p17 : D20 rec n c20x1 x0 r20 = D20 rec n c20x43 x0 (K4 (s20a2 rec n) 0 1 4 7) :=
  congrArg (fun k => D20 rec n c20x43 x0 k) (s20a2e rec n)
theorem s20a1q18 (q0 : TT4) : D20 rec n c20x43 x0 (K4 q0 0 1 4 7) = fun (env : Env) (h : Hp) =>
 bnd (pBuild [(.i .i64 (Int.ofNat 0)), (.s []), (.i .i64 (Int.ofNat 0)), (.i .i64 (Int.ofNat 0))] [(3, 1, (env 1))] h) fun v1 h1 =>
 bnd (pNew [(.i .i64 (Int.ofNat 0)), (.s []), (.i .i64 (Int.ofNat 0)), (.i .i64 (Int.ofNat 0))] h1) fun v2 h2 =>
 bnd (pStore 4 v2 v1 h2) fun _ h3 =>
    q0 (env 0) (env 1) (env 4) v2 h3 := by kernel_rfl
theorem s20a1q18u : (fun (env : Env) (h : Hp) =>
 bnd (pBuild [(.i .i64 (Int.ofNat 0)), (.s []), (.i .i64 (Int.ofNat 0)), (.i .i64 (Int.ofNat 0))] [(3, 1, (env 1))] h) fun v1 h1 =>
 bnd (pNew [(.i .i64 (Int.ofNat 0)), (.s []), (.i .i64 (Int.ofNat 0)), (.i .i64 (Int.ofNat 0))] h1) fun v2 h2 =>
 bnd (pStore 4 v2 v1 h2) fun _ h3 =>
    s20a2 rec n (env 0) (env 1) (env 4) v2 h3) = (K3 (s20a1 rec n) 0 1 4) := by kernel_rfl
theorem s20a1e : D20 rec n c20x1 x0 r20 = (K3 (s20a1 rec n) 0 1 4) :=
  (s20a1p17 rec n).trans
  ((s20a1q18 rec n (s20a2 rec n)).trans (s20a1q18u rec n))
theorem s20p19 : D20 rec n c20 x0 r20 = D20 rec n c20x44 x0 (K3 (s20a1 rec n) 0 1 4) :=
  congrArg (fun k => D20 rec n c20x44 x0 k) (s20a1e rec n)
theorem s20q20 (q0 : TT3) : D20 rec n c20x44 x0 (K3 q0 0 1 4) = fun (env : Env) (h : Hp) =>
 bnd (pNew [(.i .i64 (Int.ofNat 0)), (.s []), (.i .i64 (Int.ofNat 0)), (.i .i64 (Int.ofNat 0))] h) fun v1 h1 =>
    q0 (env 0) (env 1) v1 h1 := by kernel_rfl
theorem s20q20u : (fun (env : Env) (h : Hp) =>
 bnd (pNew [(.i .i64 (Int.ofNat 0)), (.s []), (.i .i64 (Int.ofNat 0)), (.i .i64 (Int.ofNat 0))] h) fun v1 h1 =>
    s20a1 rec n (env 0) (env 1) v1 h1) = (K2 (s20 rec n) 0 1) := by kernel_rfl
theorem s20m : D20 rec n c20 x0 r20 = (K2 (s20 rec n) 0 1) :=
  (s20p19 rec n).trans
  ((s20q20 rec n (s20a1 rec n)).trans (s20q20u rec n))
theorem s20ok (args : List DV) (h : Hp) : bodyD CF rec n 20 args h = s20 rec n (args.getD 0 undefD) (args.getD 1 undefD) h :=
  (by kernel_rfl : bodyD CF rec n 20 args h = D20 rec n c20 x0 r20 (argsE args) h).trans ((congrFun (congrFun (s20m rec n) (argsE args)) h).trans (by kernel_rfl))
def s21a3 (rec : RT) (n : Nat) (h0 : Hp) : Res :=
 some ((.b true), h0)
def s21a5b (rec : RT) (n : Nat) (kk5 : TT3) (x0 x1 x5 : DV) (h0 : Hp) : Res :=
 bnd (pLen x0 h0) fun v1 h1 =>
 bnd (pInt .lss x5 v1 h1) fun v2 h2 =>
 ifD v2 (
 bnd (pIndexAddr 1 x0 x5 h2) fun v3 h3 =>
 bnd (pLoad1 v3 h3) fun v4 h4 =>
 bnd (pIndexAddr 1 x1 x5 h4) fun v5 h5 =>
 bnd (pLoad1 v5 h5) fun v6 h6 =>
 bnd (pStr .neq v4 v6 h6) fun v7 h7 =>
 ifD v7 (
 some ((.b false), h7)) (
 bnd (pInt .add x5 (.i .i64 (Int.ofNat 1)) h7) fun v8 h8 =>
        kk5 x0 x1 v8 h8)) (
      s21a3 rec n h2)
def s21a5l (rec : RT) (n : Nat) (m : Nat) : TT3 :=
  Nat.rec (motive := fun _ => TT3) (fun _ _ _ _ => none) (fun _ ih => s21a5b rec n ih) m
def s21a5 (rec : RT) (n : Nat) : TT3 := s21a5l rec n n
def s21a4 (rec : RT) (n : Nat) (x0 x1 x5 : DV) (h0 : Hp) : Res :=
  s21a5 rec n x0 x1 x5 h0
def s21a2 (rec : RT) (n : Nat) (x0 x1 : DV) (h0 : Hp) : Res :=
  s21a4 rec n x0 x1 (.i .i64 (Int.ofNat 0)) h0
def s21a1 (rec : RT) (n : Nat) (x0 x1 : DV) (h0 : Hp) : Res :=
 bnd (pLen x0 h0) fun v1 h1 =>
 bnd (pLen x1 h1) fun v2 h2 =>
 bnd (pInt .neq v1 v2 h2) fun v3 h3 =>
 ifD v3 (
 some ((.b false), h3)) (
    s21a2 rec n x0 x1 h3)
/-- vivariumref07.names -/
def s21 (rec : RT) (n : Nat) (x0 x1 : DV) (h0 : Hp) : Res :=
  s21a1 rec n x0 x1 h0
abbrev c21 : Code := cf Try.f21
abbrev c21x1 : Code := cR c21
abbrev c21x2 : Code := cR c21x1
abbrev c21x3 : Code := cR c21x2
abbrev c21x4 : Code := cL c21x2
abbrev c21x5 : Code := cR c21x4
abbrev c21x6 : Code := cL c21x5
abbrev c21x7 : Code := cL c21x6
abbrev c21x8 : Code := cL c21x4
abbrev c21x9 : Code := cL c21x1
abbrev c21x10 : Code := cL c21
abbrev r21 : K := retK CF Try.f21
def D21 (rec : RT) (n : Nat) (c : Code) (X : Nat → K) (k : K) : K := codeD CF rec 26 n c X r21 k
theorem s21a3e : D21 rec n c21x3 x0 r21 = (K0 (s21a3 rec n)) :=
  (by kernel_rfl)
theorem s21a5be (kk5 : TT3) : D21 rec n c21x7 (xs x0 0 (K0 (s21a3 rec n))) (K3 kk5 0 1 5) = (K3 (s21a5b rec n kk5) 0 1 5) :=
  (by kernel_rfl)
theorem s21a5le (m : Nat) : loopN (fun kk => D21 rec n c21x7 (xs x0 0 (K0 (s21a3 rec n))) kk) m = (K3 (s21a5l rec n m) 0 1 5) := by
  induction m with
  | zero => exact (by kernel_rfl : loopN (fun kk => D21 rec n c21x7 (xs x0 0 (K0 (s21a3 rec n))) kk) 0 = (K3 (s21a5l rec n 0) 0 1 5))
  | succ m ih =>
    refine (by kernel_rfl : loopN (fun kk => D21 rec n c21x7 (xs x0 0 (K0 (s21a3 rec n))) kk) (m + 1) = D21 rec n c21x7 (xs x0 0 (K0 (s21a3 rec n))) (loopN (fun kk => D21 rec n c21x7 (xs x0 0 (K0 (s21a3 rec n))) kk) m)).trans ?_
    rw [ih]
    exact (s21a5be rec n (s21a5l rec n m)).trans (by kernel_rfl)
theorem s21a5e : D21 rec n c21x6 (xs x0 0 (K0 (s21a3 rec n))) (K0 (s21a3 rec n)) = (K3 (s21a5 rec n) 0 1 5) :=
  (by kernel_rfl : D21 rec n c21x6 (xs x0 0 (K0 (s21a3 rec n))) (K0 (s21a3 rec n)) = loopN (fun kk => D21 rec n c21x7 (xs x0 0 (K0 (s21a3 rec n))) kk) n).trans ((s21a5le rec n n).trans (by kernel_rfl))
theorem s21a4e : D21 rec n c21x5 x0 (K0 (s21a3 rec n)) = (K3 (s21a4 rec n) 0 1 5) :=
  (by kernel_rfl : D21 rec n c21x5 x0 (K0 (s21a3 rec n)) = D21 rec n c21x6 (xs x0 0 (K0 (s21a3 rec n))) (K0 (s21a3 rec n))).trans
  ((s21a5e rec n).trans (by kernel_rfl))
theorem s21a2p1 : D21 rec n c21x2 x0 r21 = D21 rec n c21x4 x0 (K0 (s21a3 rec n)) :=
  congrArg (fun k => D21 rec n c21x4 x0 k) (s21a3e rec n)
theorem s21a2p2 : D21 rec n c21x4 x0 (K0 (s21a3 rec n)) = D21 rec n c21x8 x0 (K3 (s21a4 rec n) 0 1 5) :=
  congrArg (fun k => D21 rec n c21x8 x0 k) (s21a4e rec n)
theorem s21a2e : D21 rec n c21x2 x0 r21 = (K2 (s21a2 rec n) 0 1) :=
  (s21a2p1 rec n).trans
  ((s21a2p2 rec n).trans
  ((by kernel_rfl)))
theorem s21a1p3 : D21 rec n c21x1 x0 r21 = D21 rec n c21x9 x0 (K2 (s21a2 rec n) 0 1) :=
  congrArg (fun k => D21 rec n c21x9 x0 k) (s21a2e rec n)
theorem s21a1e : D21 rec n c21x1 x0 r21 = (K2 (s21a1 rec n) 0 1) :=
  (s21a1p3 rec n).trans
  ((by kernel_rfl))
theorem s21p4 : D21 rec n c21 x0 r21 = D21 rec n c21x10 x0 (K2 (s21a1 rec n) 0 1) :=
  congrArg (fun k => D21 rec n c21x10 x0 k) (s21a1e rec n)
theorem s21m : D21 rec n c21 x0 r21 = (K2 (s21 rec n) 0 1) :=
  (s21p4 rec n).trans
  ((by kernel_rfl))
theorem s21ok (args : List DV) (h : Hp) : bodyD CF rec n 21 args h = s21 rec n (args.getD 0 undefD) (args.getD 1 undefD) h :=
  (by kernel_rfl : bodyD CF rec n 21 args h = D21 rec n c21 x0 r21 (argsE args) h).trans ((congrFun (congrFun (s21m rec n) (argsE args)) h).trans (by kernel_rfl))
/-- parse.parser).head -/
def s24 (rec : RT) (n : Nat) (x0 : DV) (h0 : Hp) : Res :=
 bnd (pNew [(.i .i64 (Int.ofNat 0)), (.s []), (.i .i64 (Int.ofNat 0)), .l0, .l0, .l0] h0) fun v1 h1 =>
 bnd (pBuild [(.i .i64 (Int.ofNat 0)), (.s []), (.i .i64 (Int.ofNat 0)), .l0, .l0, .l0] [(0, 1, (.i .i64 (Int.ofNat 11)))] h1) fun v2 h2 =>
 bnd (pNew [(.i .i64 (Int.ofNat 0)), (.s []), (.i .i64 (Int.ofNat 0)), .l0, .l0, .l0] h2) fun v3 h3 =>
 bnd (pStore 6 v3 v2 h3) fun _ h4 =>
 bnd (rec 39 [x0, v3] h4) fun v5 h5 =>
 bnd (rec 40 [x0] h5) fun v6 h6 =>
 bnd (pField 2 v3 h6) fun v7 h7 =>
 bnd (pStore 1 v7 v6 h7) fun _ h8 =>
 bnd (pLoadA 6 v3 h8) fun v9 h9 =>
 bnd (pStore 6 v1 v9 h9) fun _ h10 =>
 bnd (pLoadA 6 v1 h10) fun v11 _ =>
 some (v11, h10)
abbrev c24 : Code := cf Try.f24
abbrev r24 : K := retK CF Try.f24
def D24 (rec : RT) (n : Nat) (c : Code) (X : Nat → K) (k : K) : K := codeD CF rec 11 n c X r24 k
theorem s24m : D24 rec n c24 x0 r24 = (K1 (s24 rec n) 0) :=
  (by kernel_rfl)
theorem s24ok (args : List DV) (h : Hp) : bodyD CF rec n 24 args h = s24 rec n (args.getD 0 undefD) h :=
  (by kernel_rfl : bodyD CF rec n 24 args h = D24 rec n c24 x0 r24 (argsE args) h).trans ((congrFun (congrFun (s24m rec n) (argsE args)) h).trans (by kernel_rfl))

end
end Go.Dd

/- Dd, part Q2 (printed by gen.py): functions of the seat's program as Lean functions, linked to Dd. -/
set_option linter.unusedVariables false
set_option maxRecDepth 100000
namespace Go.Dd
open Go.Proofs
noncomputable section

variable (rec : RT) (n : Nat)
def s26a3 (rec : RT) (n : Nat) (x3 : DV) (h0 : Hp) : Res :=
 some (x3, h0)
def s26a7 (rec : RT) (n : Nat) (x0 x3 : DV) (h0 : Hp) : Res :=
 bnd (rec 28 [x0, (.i .i64 (Int.ofNat 10)), (.s [124])] h0) fun v1 h1 =>
  s26a3 rec n x3 h1
def s26a8b (rec : RT) (n : Nat) (kk8 : TT2) (x0 x3 : DV) (h0 : Hp) : Res :=
 bnd (rec 41 [x0, (.i .i64 (Int.ofNat 1)), (.s [])] h0) fun v1 h1 =>
 ifD v1 (
 bnd (rec 42 [x0] h1) fun v2 h2 =>
 bnd (pPart1 1 v2 h2) fun v3 h3 =>
 bnd (pBuildSlice [(.s [])] 1 [(0, 1, v3)] h3) fun v4 h4 =>
 bnd (pAppend 1 16 x3 v4 h4) fun v5 h5 =>
      kk8 x0 v5 h5) (
      s26a7 rec n x0 x3 h1)
def s26a8l (rec : RT) (n : Nat) (m : Nat) : TT2 :=
  Nat.rec (motive := fun _ => TT2) (fun _ _ _ => none) (fun _ ih => s26a8b rec n ih) m
def s26a8 (rec : RT) (n : Nat) : TT2 := s26a8l rec n n
def s26a6 (rec : RT) (n : Nat) (x0 x3 : DV) (h0 : Hp) : Res :=
  s26a8 rec n x0 x3 h0
def s26a5 (rec : RT) (n : Nat) (x0 x3 : DV) (h0 : Hp) : Res :=
 bnd (rec 42 [x0] h0) fun v1 h1 =>
  s26a6 rec n x0 x3 h1
def s26a4 (rec : RT) (n : Nat) (x0 x3 x5 : DV) (h0 : Hp) : Res :=
 ifD x5 (
    s26a5 rec n x0 x3 h0) (
    s26a3 rec n x3 h0)
def s26a2 (rec : RT) (n : Nat) (x0 x3 : DV) (h0 : Hp) : Res :=
 bnd (rec 41 [x0, (.i .i64 (Int.ofNat 10)), (.s [124])] h0) fun v1 h1 =>
  s26a4 rec n x0 x3 v1 h1
def s26a1 (rec : RT) (n : Nat) (x0 : DV) (h0 : Hp) : Res :=
  s26a2 rec n x0 .l0 h0
/-- vivariumref07.P).temps -/
def s26 (rec : RT) (n : Nat) (x0 : DV) (h0 : Hp) : Res :=
  s26a1 rec n x0 h0
abbrev c26 : Code := cf Try.f26
abbrev c26x1 : Code := cR c26
abbrev c26x2 : Code := cR c26x1
abbrev c26x3 : Code := cR c26x2
abbrev c26x4 : Code := cL c26x2
abbrev c26x5 : Code := cR c26x4
abbrev c26x6 : Code := cL c26x5
abbrev c26x7 : Code := cR c26x6
abbrev c26x8 : Code := cR c26x7
abbrev c26x9 : Code := cL c26x7
abbrev c26x10 : Code := cL c26x9
abbrev c26x11 : Code := cL c26x10
abbrev c26x12 : Code := cL c26x6
abbrev c26x13 : Code := cR c26x5
abbrev c26x14 : Code := cL c26x4
abbrev c26x15 : Code := cL c26x1
abbrev c26x16 : Code := cL c26
abbrev r26 : K := retK CF Try.f26
def D26 (rec : RT) (n : Nat) (c : Code) (X : Nat → K) (k : K) : K := codeD CF rec 19 n c X r26 k
theorem s26a3e : D26 rec n c26x3 x0 r26 = (K1 (s26a3 rec n) 3) :=
  (by kernel_rfl)
theorem s26a7e : D26 rec n c26x8 x0 (K1 (s26a3 rec n) 3) = (K2 (s26a7 rec n) 0 3) :=
  (by kernel_rfl)
theorem s26a8q1 (kk8 : TT2) (q0 : TT2) : D26 rec n c26x11 (xs x0 0 (K2 q0 0 3)) (K2 kk8 0 3) = fun (env : Env) (h : Hp) =>
 bnd (rec 41 [(env 0), (.i .i64 (Int.ofNat 1)), (.s [])] h) fun v1 h1 =>
 ifD v1 (
 bnd (rec 42 [(env 0)] h1) fun v2 h2 =>
 bnd (pPart1 1 v2 h2) fun v3 h3 =>
 bnd (pBuildSlice [(.s [])] 1 [(0, 1, v3)] h3) fun v4 h4 =>
 bnd (pAppend 1 16 (env 3) v4 h4) fun v5 h5 =>
      kk8 (env 0) v5 h5) (
      q0 (env 0) (env 3) h1) := by kernel_rfl
theorem s26a8q1u (kk8 : TT2) : (fun (env : Env) (h : Hp) =>
 bnd (rec 41 [(env 0), (.i .i64 (Int.ofNat 1)), (.s [])] h) fun v1 h1 =>
 ifD v1 (
 bnd (rec 42 [(env 0)] h1) fun v2 h2 =>
 bnd (pPart1 1 v2 h2) fun v3 h3 =>
 bnd (pBuildSlice [(.s [])] 1 [(0, 1, v3)] h3) fun v4 h4 =>
 bnd (pAppend 1 16 (env 3) v4 h4) fun v5 h5 =>
      kk8 (env 0) v5 h5) (
      s26a7 rec n (env 0) (env 3) h1)) = (K2 (s26a8b rec n kk8) 0 3) := by kernel_rfl
theorem s26a8be (kk8 : TT2) : D26 rec n c26x11 (xs x0 0 (K2 (s26a7 rec n) 0 3)) (K2 kk8 0 3) = (K2 (s26a8b rec n kk8) 0 3) :=
  (s26a8q1 rec n kk8 (s26a7 rec n)).trans (s26a8q1u rec n kk8)
theorem s26a8le (m : Nat) : loopN (fun kk => D26 rec n c26x11 (xs x0 0 (K2 (s26a7 rec n) 0 3)) kk) m = (K2 (s26a8l rec n m) 0 3) := by
  induction m with
  | zero => exact (by kernel_rfl : loopN (fun kk => D26 rec n c26x11 (xs x0 0 (K2 (s26a7 rec n) 0 3)) kk) 0 = (K2 (s26a8l rec n 0) 0 3))
  | succ m ih =>
    refine (by kernel_rfl : loopN (fun kk => D26 rec n c26x11 (xs x0 0 (K2 (s26a7 rec n) 0 3)) kk) (m + 1) = D26 rec n c26x11 (xs x0 0 (K2 (s26a7 rec n) 0 3)) (loopN (fun kk => D26 rec n c26x11 (xs x0 0 (K2 (s26a7 rec n) 0 3)) kk) m)).trans ?_
    rw [ih]
    exact (s26a8be rec n (s26a8l rec n m)).trans (by kernel_rfl)
theorem s26a8e : D26 rec n c26x10 (xs x0 0 (K2 (s26a7 rec n) 0 3)) (K2 (s26a7 rec n) 0 3) = (K2 (s26a8 rec n) 0 3) :=
  (by kernel_rfl : D26 rec n c26x10 (xs x0 0 (K2 (s26a7 rec n) 0 3)) (K2 (s26a7 rec n) 0 3) = loopN (fun kk => D26 rec n c26x11 (xs x0 0 (K2 (s26a7 rec n) 0 3)) kk) n).trans ((s26a8le rec n n).trans (by kernel_rfl))
theorem s26a6p2 : D26 rec n c26x7 x0 (K1 (s26a3 rec n) 3) = D26 rec n c26x9 x0 (K2 (s26a7 rec n) 0 3) :=
  congrArg (fun k => D26 rec n c26x9 x0 k) (s26a7e rec n)
theorem s26a6e : D26 rec n c26x7 x0 (K1 (s26a3 rec n) 3) = (K2 (s26a6 rec n) 0 3) :=
  (s26a6p2 rec n).trans
  ((by kernel_rfl : D26 rec n c26x9 x0 (K2 (s26a7 rec n) 0 3) = D26 rec n c26x10 (xs x0 0 (K2 (s26a7 rec n) 0 3)) (K2 (s26a7 rec n) 0 3)).trans
  ((s26a8e rec n).trans (by kernel_rfl)))
theorem s26a5p3 : D26 rec n c26x6 x0 (K1 (s26a3 rec n) 3) = D26 rec n c26x12 x0 (K2 (s26a6 rec n) 0 3) :=
  congrArg (fun k => D26 rec n c26x12 x0 k) (s26a6e rec n)
theorem s26a5e : D26 rec n c26x6 x0 (K1 (s26a3 rec n) 3) = (K2 (s26a5 rec n) 0 3) :=
  (s26a5p3 rec n).trans
  ((by kernel_rfl))
theorem s26a4e : D26 rec n c26x5 x0 (K1 (s26a3 rec n) 3) = (K3 (s26a4 rec n) 0 3 5) :=
  (by kernel_rfl : D26 rec n c26x5 x0 (K1 (s26a3 rec n) 3) = (fun (env : Env) (h : Hp) => ifD (opr env (cC c26x5)) (D26 rec n c26x6 x0 (K1 (s26a3 rec n) 3) env h) (D26 rec n c26x13 x0 (K1 (s26a3 rec n) 3) env h))).trans (by rw [s26a5e rec n]; kernel_rfl)
theorem s26a2p4 : D26 rec n c26x2 x0 r26 = D26 rec n c26x4 x0 (K1 (s26a3 rec n) 3) :=
  congrArg (fun k => D26 rec n c26x4 x0 k) (s26a3e rec n)
theorem s26a2p5 : D26 rec n c26x4 x0 (K1 (s26a3 rec n) 3) = D26 rec n c26x14 x0 (K3 (s26a4 rec n) 0 3 5) :=
  congrArg (fun k => D26 rec n c26x14 x0 k) (s26a4e rec n)
theorem s26a2e : D26 rec n c26x2 x0 r26 = (K2 (s26a2 rec n) 0 3) :=
  (s26a2p4 rec n).trans
  ((s26a2p5 rec n).trans
  ((by kernel_rfl)))
theorem s26a1p6 : D26 rec n c26x1 x0 r26 = D26 rec n c26x15 x0 (K2 (s26a2 rec n) 0 3) :=
  congrArg (fun k => D26 rec n c26x15 x0 k) (s26a2e rec n)
theorem s26a1e : D26 rec n c26x1 x0 r26 = (K1 (s26a1 rec n) 0) :=
  (s26a1p6 rec n).trans
  ((by kernel_rfl))
theorem s26p7 : D26 rec n c26 x0 r26 = D26 rec n c26x16 x0 (K1 (s26a1 rec n) 0) :=
  congrArg (fun k => D26 rec n c26x16 x0 k) (s26a1e rec n)
theorem s26m : D26 rec n c26 x0 r26 = (K1 (s26 rec n) 0) :=
  (s26p7 rec n).trans
  ((by kernel_rfl))
theorem s26ok (args : List DV) (h : Hp) : bodyD CF rec n 26 args h = s26 rec n (args.getD 0 undefD) h :=
  (by kernel_rfl : bodyD CF rec n 26 args h = D26 rec n c26 x0 r26 (argsE args) h).trans ((congrFun (congrFun (s26m rec n) (argsE args)) h).trans (by kernel_rfl))
def s27a3 (rec : RT) (n : Nat) (x3 : DV) (h0 : Hp) : Res :=
 some (x3, h0)
def s27a4b (rec : RT) (n : Nat) (kk4 : TT2) (x0 x3 : DV) (h0 : Hp) : Res :=
 bnd (pNil x0 h0) fun v1 h1 =>
 bnd (pField 3 v1 h1) fun v2 h2 =>
 bnd (pLoad1 v2 h2) fun v3 h3 =>
 bnd (pInt .eql v3 (.i .i64 (Int.ofNat 0)) h3) fun v4 h4 =>
 bnd (gD v4 true (some (x0, h4)) h4) fun v5 h5 =>
 bnd (gD v4 true (rec 41 [v5, (.i .i64 (Int.ofNat 0)), (.s [])] h5) h5) fun v6 h6 =>
 bnd (gD v4 true (pUn .not v6 h6) h6) fun v7 h7 =>
 bnd (pPick v4 v7 (.b false) h7) fun v8 h8 =>
 bnd (gD v8 true (some (x0, h8)) h8) fun v9 h9 =>
 bnd (gD v8 true (rec 41 [v9, (.i .i64 (Int.ofNat 10)), (.s [93])] h9) h9) fun v10 h10 =>
 bnd (gD v8 true (pUn .not v10 h10) h10) fun v11 h11 =>
 bnd (pPick v8 v11 (.b false) h11) fun v12 h12 =>
 ifD v12 (
 bnd (rec 41 [x0, (.i .i64 (Int.ofNat 10)), (.s [94])] h12) fun v13 h13 =>
 ifD v13 (
 bnd (rec 42 [x0] h13) fun v14 h14 =>
 bnd (rec 45 [x0] h14) fun v15 h15 =>
 bnd (pNew [(.i .i64 (Int.ofNat 0)), (.s []), (.i .i64 (Int.ofNat 0)), .l0, .l0, .l0] h15) fun v16 h16 =>
 bnd (pStore 6 v16 v15 h16) fun _ h17 =>
 bnd (pLoadA 6 v16 h17) fun v18 h18 =>
 bnd (pBuildSlice [(.i .i64 (Int.ofNat 0)), (.s []), (.i .i64 (Int.ofNat 0)), .l0, .l0, .l0] 1 [(0, 6, v18)] h18) fun v19 h19 =>
 bnd (pBuild [(.i .i64 (Int.ofNat 0)), (.s []), (.i .i64 (Int.ofNat 0)), .l0, .l0, .l0] [(0, 1, (.i .i64 (Int.ofNat 10))), (5, 1, v19)] h19) fun v20 h20 =>
 bnd (pBuildSlice [(.i .i64 (Int.ofNat 0)), (.s []), (.i .i64 (Int.ofNat 0)), .l0, .l0, .l0] 1 [(0, 6, v20)] h20) fun v21 h21 =>
 bnd (pAppend 6 104 x3 v21 h21) fun v22 h22 =>
 bnd (rec 41 [x0, (.i .i64 (Int.ofNat 10)), (.s [46])] h22) fun v23 h23 =>
 ifD v23 (
 bnd (rec 42 [x0] h23) fun v24 h24 =>
          s27a3 rec n v22 h24) (
          s27a3 rec n v22 h23)) (
 bnd (rec 45 [x0] h13) fun v25 h25 =>
 bnd (pBuildSlice [(.i .i64 (Int.ofNat 0)), (.s []), (.i .i64 (Int.ofNat 0)), .l0, .l0, .l0] 1 [(0, 6, v25)] h25) fun v26 h26 =>
 bnd (pAppend 6 104 x3 v26 h26) fun v27 h27 =>
 bnd (rec 41 [x0, (.i .i64 (Int.ofNat 10)), (.s [46])] h27) fun v28 h28 =>
 bnd (pUn .not v28 h28) fun v29 h29 =>
 ifD v29 (
          s27a3 rec n v27 h29) (
 bnd (rec 42 [x0] h29) fun v30 h30 =>
          kk4 x0 v27 h30))) (
      s27a3 rec n x3 h12)
def s27a4l (rec : RT) (n : Nat) (m : Nat) : TT2 :=
  Nat.rec (motive := fun _ => TT2) (fun _ _ _ => none) (fun _ ih => s27a4b rec n ih) m
def s27a4 (rec : RT) (n : Nat) : TT2 := s27a4l rec n n
def s27a2 (rec : RT) (n : Nat) (x0 x3 : DV) (h0 : Hp) : Res :=
  s27a4 rec n x0 x3 h0
def s27a1 (rec : RT) (n : Nat) (x0 : DV) (h0 : Hp) : Res :=
  s27a2 rec n x0 .l0 h0
/-- vivariumref07.P).statements -/
def s27 (rec : RT) (n : Nat) (x0 : DV) (h0 : Hp) : Res :=
  s27a1 rec n x0 h0
abbrev c27 : Code := cf Try.f27
abbrev c27x1 : Code := cR c27
abbrev c27x2 : Code := cR c27x1
abbrev c27x3 : Code := cR c27x2
abbrev c27x4 : Code := cL c27x2
abbrev c27x5 : Code := cL c27x4
abbrev c27x6 : Code := cL c27x5
abbrev c27x7 : Code := cL c27x1
abbrev c27x8 : Code := cL c27
abbrev r27 : K := retK CF Try.f27
def D27 (rec : RT) (n : Nat) (c : Code) (X : Nat → K) (k : K) : K := codeD CF rec 47 n c X r27 k
theorem s27a3e : D27 rec n c27x3 x0 r27 = (K1 (s27a3 rec n) 3) :=
  (by kernel_rfl)
theorem s27a4q1 (kk4 : TT2) (q0 : TT1) : D27 rec n c27x6 (xs x0 0 (K1 q0 3)) (K2 kk4 0 3) = fun (env : Env) (h : Hp) =>
 bnd (pNil (env 0) h) fun v1 h1 =>
 bnd (pField 3 v1 h1) fun v2 h2 =>
 bnd (pLoad1 v2 h2) fun v3 h3 =>
 bnd (pInt .eql v3 (.i .i64 (Int.ofNat 0)) h3) fun v4 h4 =>
 bnd (gD v4 true (some ((env 0), h4)) h4) fun v5 h5 =>
 bnd (gD v4 true (rec 41 [v5, (.i .i64 (Int.ofNat 0)), (.s [])] h5) h5) fun v6 h6 =>
 bnd (gD v4 true (pUn .not v6 h6) h6) fun v7 h7 =>
 bnd (pPick v4 v7 (.b false) h7) fun v8 h8 =>
 bnd (gD v8 true (some ((env 0), h8)) h8) fun v9 h9 =>
 bnd (gD v8 true (rec 41 [v9, (.i .i64 (Int.ofNat 10)), (.s [93])] h9) h9) fun v10 h10 =>
 bnd (gD v8 true (pUn .not v10 h10) h10) fun v11 h11 =>
 bnd (pPick v8 v11 (.b false) h11) fun v12 h12 =>
 ifD v12 (
 bnd (rec 41 [(env 0), (.i .i64 (Int.ofNat 10)), (.s [94])] h12) fun v13 h13 =>
 ifD v13 (
 bnd (rec 42 [(env 0)] h13) fun v14 h14 =>
 bnd (rec 45 [(env 0)] h14) fun v15 h15 =>
 bnd (pNew [(.i .i64 (Int.ofNat 0)), (.s []), (.i .i64 (Int.ofNat 0)), .l0, .l0, .l0] h15) fun v16 h16 =>
 bnd (pStore 6 v16 v15 h16) fun _ h17 =>
 bnd (pLoadA 6 v16 h17) fun v18 h18 =>
 bnd (pBuildSlice [(.i .i64 (Int.ofNat 0)), (.s []), (.i .i64 (Int.ofNat 0)), .l0, .l0, .l0] 1 [(0, 6, v18)] h18) fun v19 h19 =>
 bnd (pBuild [(.i .i64 (Int.ofNat 0)), (.s []), (.i .i64 (Int.ofNat 0)), .l0, .l0, .l0] [(0, 1, (.i .i64 (Int.ofNat 10))), (5, 1, v19)] h19) fun v20 h20 =>
 bnd (pBuildSlice [(.i .i64 (Int.ofNat 0)), (.s []), (.i .i64 (Int.ofNat 0)), .l0, .l0, .l0] 1 [(0, 6, v20)] h20) fun v21 h21 =>
 bnd (pAppend 6 104 (env 3) v21 h21) fun v22 h22 =>
 bnd (rec 41 [(env 0), (.i .i64 (Int.ofNat 10)), (.s [46])] h22) fun v23 h23 =>
 ifD v23 (
 bnd (rec 42 [(env 0)] h23) fun v24 h24 =>
          q0 v22 h24) (
          q0 v22 h23)) (
 bnd (rec 45 [(env 0)] h13) fun v25 h25 =>
 bnd (pBuildSlice [(.i .i64 (Int.ofNat 0)), (.s []), (.i .i64 (Int.ofNat 0)), .l0, .l0, .l0] 1 [(0, 6, v25)] h25) fun v26 h26 =>
 bnd (pAppend 6 104 (env 3) v26 h26) fun v27 h27 =>
 bnd (rec 41 [(env 0), (.i .i64 (Int.ofNat 10)), (.s [46])] h27) fun v28 h28 =>
 bnd (pUn .not v28 h28) fun v29 h29 =>
 ifD v29 (
          q0 v27 h29) (
 bnd (rec 42 [(env 0)] h29) fun v30 h30 =>
          kk4 (env 0) v27 h30))) (
      q0 (env 3) h12) := by kernel_rfl
theorem s27a4q1u (kk4 : TT2) : (fun (env : Env) (h : Hp) =>
 bnd (pNil (env 0) h) fun v1 h1 =>
 bnd (pField 3 v1 h1) fun v2 h2 =>
 bnd (pLoad1 v2 h2) fun v3 h3 =>
 bnd (pInt .eql v3 (.i .i64 (Int.ofNat 0)) h3) fun v4 h4 =>
 bnd (gD v4 true (some ((env 0), h4)) h4) fun v5 h5 =>
 bnd (gD v4 true (rec 41 [v5, (.i .i64 (Int.ofNat 0)), (.s [])] h5) h5) fun v6 h6 =>
 bnd (gD v4 true (pUn .not v6 h6) h6) fun v7 h7 =>
 bnd (pPick v4 v7 (.b false) h7) fun v8 h8 =>
 bnd (gD v8 true (some ((env 0), h8)) h8) fun v9 h9 =>
 bnd (gD v8 true (rec 41 [v9, (.i .i64 (Int.ofNat 10)), (.s [93])] h9) h9) fun v10 h10 =>
 bnd (gD v8 true (pUn .not v10 h10) h10) fun v11 h11 =>
 bnd (pPick v8 v11 (.b false) h11) fun v12 h12 =>
 ifD v12 (
 bnd (rec 41 [(env 0), (.i .i64 (Int.ofNat 10)), (.s [94])] h12) fun v13 h13 =>
 ifD v13 (
 bnd (rec 42 [(env 0)] h13) fun v14 h14 =>
 bnd (rec 45 [(env 0)] h14) fun v15 h15 =>
 bnd (pNew [(.i .i64 (Int.ofNat 0)), (.s []), (.i .i64 (Int.ofNat 0)), .l0, .l0, .l0] h15) fun v16 h16 =>
 bnd (pStore 6 v16 v15 h16) fun _ h17 =>
 bnd (pLoadA 6 v16 h17) fun v18 h18 =>
 bnd (pBuildSlice [(.i .i64 (Int.ofNat 0)), (.s []), (.i .i64 (Int.ofNat 0)), .l0, .l0, .l0] 1 [(0, 6, v18)] h18) fun v19 h19 =>
 bnd (pBuild [(.i .i64 (Int.ofNat 0)), (.s []), (.i .i64 (Int.ofNat 0)), .l0, .l0, .l0] [(0, 1, (.i .i64 (Int.ofNat 10))), (5, 1, v19)] h19) fun v20 h20 =>
 bnd (pBuildSlice [(.i .i64 (Int.ofNat 0)), (.s []), (.i .i64 (Int.ofNat 0)), .l0, .l0, .l0] 1 [(0, 6, v20)] h20) fun v21 h21 =>
 bnd (pAppend 6 104 (env 3) v21 h21) fun v22 h22 =>
 bnd (rec 41 [(env 0), (.i .i64 (Int.ofNat 10)), (.s [46])] h22) fun v23 h23 =>
 ifD v23 (
 bnd (rec 42 [(env 0)] h23) fun v24 h24 =>
          s27a3 rec n v22 h24) (
          s27a3 rec n v22 h23)) (
 bnd (rec 45 [(env 0)] h13) fun v25 h25 =>
 bnd (pBuildSlice [(.i .i64 (Int.ofNat 0)), (.s []), (.i .i64 (Int.ofNat 0)), .l0, .l0, .l0] 1 [(0, 6, v25)] h25) fun v26 h26 =>
 bnd (pAppend 6 104 (env 3) v26 h26) fun v27 h27 =>
 bnd (rec 41 [(env 0), (.i .i64 (Int.ofNat 10)), (.s [46])] h27) fun v28 h28 =>
 bnd (pUn .not v28 h28) fun v29 h29 =>
 ifD v29 (
          s27a3 rec n v27 h29) (
 bnd (rec 42 [(env 0)] h29) fun v30 h30 =>
          kk4 (env 0) v27 h30))) (
      s27a3 rec n (env 3) h12)) = (K2 (s27a4b rec n kk4) 0 3) := by kernel_rfl
theorem s27a4be (kk4 : TT2) : D27 rec n c27x6 (xs x0 0 (K1 (s27a3 rec n) 3)) (K2 kk4 0 3) = (K2 (s27a4b rec n kk4) 0 3) :=
  (s27a4q1 rec n kk4 (s27a3 rec n)).trans (s27a4q1u rec n kk4)
theorem s27a4le (m : Nat) : loopN (fun kk => D27 rec n c27x6 (xs x0 0 (K1 (s27a3 rec n) 3)) kk) m = (K2 (s27a4l rec n m) 0 3) := by
  induction m with
  | zero => exact (by kernel_rfl : loopN (fun kk => D27 rec n c27x6 (xs x0 0 (K1 (s27a3 rec n) 3)) kk) 0 = (K2 (s27a4l rec n 0) 0 3))
  | succ m ih =>
    refine (by kernel_rfl : loopN (fun kk => D27 rec n c27x6 (xs x0 0 (K1 (s27a3 rec n) 3)) kk) (m + 1) = D27 rec n c27x6 (xs x0 0 (K1 (s27a3 rec n) 3)) (loopN (fun kk => D27 rec n c27x6 (xs x0 0 (K1 (s27a3 rec n) 3)) kk) m)).trans ?_
    rw [ih]
    exact (s27a4be rec n (s27a4l rec n m)).trans (by kernel_rfl)
theorem s27a4e : D27 rec n c27x5 (xs x0 0 (K1 (s27a3 rec n) 3)) (K1 (s27a3 rec n) 3) = (K2 (s27a4 rec n) 0 3) :=
  (by kernel_rfl : D27 rec n c27x5 (xs x0 0 (K1 (s27a3 rec n) 3)) (K1 (s27a3 rec n) 3) = loopN (fun kk => D27 rec n c27x6 (xs x0 0 (K1 (s27a3 rec n) 3)) kk) n).trans ((s27a4le rec n n).trans (by kernel_rfl))
theorem s27a2p2 : D27 rec n c27x2 x0 r27 = D27 rec n c27x4 x0 (K1 (s27a3 rec n) 3) :=
  congrArg (fun k => D27 rec n c27x4 x0 k) (s27a3e rec n)
theorem s27a2e : D27 rec n c27x2 x0 r27 = (K2 (s27a2 rec n) 0 3) :=
  (s27a2p2 rec n).trans
  ((by kernel_rfl : D27 rec n c27x4 x0 (K1 (s27a3 rec n) 3) = D27 rec n c27x5 (xs x0 0 (K1 (s27a3 rec n) 3)) (K1 (s27a3 rec n) 3)).trans
  ((s27a4e rec n).trans (by kernel_rfl)))
theorem s27a1p3 : D27 rec n c27x1 x0 r27 = D27 rec n c27x7 x0 (K2 (s27a2 rec n) 0 3) :=
  congrArg (fun k => D27 rec n c27x7 x0 k) (s27a2e rec n)
theorem s27a1e : D27 rec n c27x1 x0 r27 = (K1 (s27a1 rec n) 0) :=
  (s27a1p3 rec n).trans
  ((by kernel_rfl))
theorem s27p4 : D27 rec n c27 x0 r27 = D27 rec n c27x8 x0 (K1 (s27a1 rec n) 0) :=
  congrArg (fun k => D27 rec n c27x8 x0 k) (s27a1e rec n)
theorem s27m : D27 rec n c27 x0 r27 = (K1 (s27 rec n) 0) :=
  (s27p4 rec n).trans
  ((by kernel_rfl))
theorem s27ok (args : List DV) (h : Hp) : bodyD CF rec n 27 args h = s27 rec n (args.getD 0 undefD) h :=
  (by kernel_rfl : bodyD CF rec n 27 args h = D27 rec n c27 x0 r27 (argsE args) h).trans ((congrFun (congrFun (s27m rec n) (argsE args)) h).trans (by kernel_rfl))
/-- vivariumref07.P).need -/
def s28 (rec : RT) (n : Nat) (x0 x1 x2 : DV) (h0 : Hp) : Res :=
 bnd (pNew [(.i .i64 (Int.ofNat 0)), (.s []), (.i .i64 (Int.ofNat 0)), (.i .i64 (Int.ofNat 0))] h0) fun v1 h1 =>
 bnd (rec 41 [x0, x1, x2] h1) fun v2 h2 =>
 bnd (pUn .not v2 h2) fun v3 h3 =>
 ifD v3 (
 bnd (rec 46 [x0, (.i .i64 (Int.ofNat 0))] h3) fun v4 h4 =>
 bnd (rec 44 [x0, v4, (.i .i64 (Int.ofNat 13))] h4) fun v5 h5 =>
 bnd (pBuild [(.i .i64 (Int.ofNat 0)), (.s []), (.i .i64 (Int.ofNat 0)), (.i .i64 (Int.ofNat 0))] [] h5) fun v6 h6 =>
 bnd (pStore 4 v1 v6 h6) fun _ h7 =>
 bnd (pLoadA 4 v1 h7) fun v8 _ =>
 some (v8, h7)) (
 bnd (rec 42 [x0] h3) fun v9 h9 =>
 bnd (pStore 4 v1 v9 h9) fun _ h10 =>
 bnd (pLoadA 4 v1 h10) fun v11 _ =>
 some (v11, h10))
abbrev c28 : Code := cf Try.f28
abbrev r28 : K := retK CF Try.f28
def D28 (rec : RT) (n : Nat) (c : Code) (X : Nat → K) (k : K) : K := codeD CF rec 21 n c X r28 k
theorem s28m : D28 rec n c28 x0 r28 = (K3 (s28 rec n) 0 1 2) :=
  (by kernel_rfl)
theorem s28ok (args : List DV) (h : Hp) : bodyD CF rec n 28 args h = s28 rec n (args.getD 0 undefD) (args.getD 1 undefD) (args.getD 2 undefD) h :=
  (by kernel_rfl : bodyD CF rec n 28 args h = D28 rec n c28 x0 r28 (argsE args) h).trans ((congrFun (congrFun (s28m rec n) (argsE args)) h).trans (by kernel_rfl))
def s29a6 (rec : RT) (n : Nat) (x0 x6 : DV) (h0 : Hp) : Res :=
 bnd (pLenS x0 h0) fun v1 h1 =>
 bnd (pBuild [(.i .i64 (Int.ofNat 0)), (.s []), (.i .i64 (Int.ofNat 0)), (.i .i64 (Int.ofNat 0))] [(3, 1, v1)] h1) fun v2 h2 =>
 bnd (pBuildSlice [(.i .i64 (Int.ofNat 0)), (.s []), (.i .i64 (Int.ofNat 0)), (.i .i64 (Int.ofNat 0))] 1 [(0, 4, v2)] h2) fun v3 h3 =>
 bnd (pAppend 4 40 x6 v3 h3) fun v4 h4 =>
 some (.t [v4, (.i .i64 (Int.ofNat 0)), (.i .i64 (Int.ofNat 0))], h4)
def s29a7b (rec : RT) (n : Nat) (kk7 : TT3) (x0 x5 x6 : DV) (h0 : Hp) : Res :=
 bnd (rec 48 [(.s [9, 10, 13, 32])] h0) fun v1 h1 =>
 bnd (pLenS x0 h1) fun v2 h2 =>
 bnd (rec 47 [x5, v1, v2] h2) fun v3 h3 =>
 bnd (pNil x5 h3) fun v4 h4 =>
 bnd (pField 1 v4 h4) fun v5 h5 =>
 bnd (pLoad1 v5 h5) fun v6 h6 =>
 bnd (pLenS x0 h6) fun v7 h7 =>
 bnd (pInt .geq v6 v7 h7) fun v8 h8 =>
 ifD v8 (
      s29a6 rec n x0 x6 h8) (
 bnd (pNil x5 h8) fun v9 h9 =>
 bnd (pField 1 v9 h9) fun v10 h10 =>
 bnd (pLoad1 v10 h10) fun v11 h11 =>
 bnd (pIndexS x0 v11 h11) fun v12 h12 =>
 bnd (pInt .eql v12 (.i .u8 (Int.ofNat 34)) h12) fun v13 h13 =>
 ifD v13 (
 bnd (pNil x5 h13) fun v14 h14 =>
 bnd (pField 1 v14 h14) fun v15 h15 =>
 bnd (pLoad1 v15 h15) fun v16 h16 =>
 bnd (pInt .add v16 (.i .i64 (Int.ofNat 1)) h16) fun v17 h17 =>
 bnd (pSliceS x0 (some v17) none h17) fun v18 h18 =>
 bnd (rec 49 [v18, (.i .u8 (Int.ofNat 34))] h18) fun v19 h19 =>
 bnd (pInt .lss v19 (.i .i64 (Int.ofNat 0)) h19) fun v20 h20 =>
 ifD v20 (
 bnd (pNil x5 h20) fun v21 h21 =>
 bnd (pField 1 v21 h21) fun v22 h22 =>
 bnd (pLoad1 v22 h22) fun v23 h23 =>
 some (.t [.l0, v23, (.i .i64 (Int.ofNat 11))], h23)) (
 bnd (pNil x5 h20) fun v24 h24 =>
 bnd (pField 1 v24 h24) fun v25 h25 =>
 bnd (pLoad1 v25 h25) fun v26 h26 =>
 bnd (pInt .add v19 (.i .i64 (Int.ofNat 2)) h26) fun v27 h27 =>
 bnd (pInt .add v26 v27 h27) fun v28 h28 =>
 bnd (pNil x5 h28) fun v29 h29 =>
 bnd (pField 1 v29 h29) fun v30 h30 =>
 bnd (pStore 1 v30 v28 h30) fun _ h31 =>
          kk7 x0 x5 x6 h31)) (
 bnd (rec 50 [x5] h13) fun v32 h32 =>
 bnd (pExtract 0 v32 h32) fun v33 h33 =>
 bnd (pExtract 1 v32 h33) fun v34 h34 =>
 bnd (pNew [(.i .i64 (Int.ofNat 0)), (.s []), (.i .i64 (Int.ofNat 0)), (.i .i64 (Int.ofNat 0))] h34) fun v35 h35 =>
 bnd (pStore 4 v35 v33 h35) fun _ h36 =>
 bnd (pInt .neq v34 (.i .i64 (Int.ofNat 0)) h36) fun v37 h37 =>
 ifD v37 (
 bnd (pField 3 v35 h37) fun v38 h38 =>
 bnd (pLoad1 v38 h38) fun v39 h39 =>
 some (.t [.l0, v39, v34], h39)) (
 bnd (pLoadA 4 v35 h37) fun v40 h40 =>
 bnd (pBuildSlice [(.i .i64 (Int.ofNat 0)), (.s []), (.i .i64 (Int.ofNat 0)), (.i .i64 (Int.ofNat 0))] 1 [(0, 4, v40)] h40) fun v41 h41 =>
 bnd (pAppend 4 40 x6 v41 h41) fun v42 h42 =>
          kk7 x0 x5 v42 h42)))
def s29a7l (rec : RT) (n : Nat) (m : Nat) : TT3 :=
  Nat.rec (motive := fun _ => TT3) (fun _ _ _ _ => none) (fun _ ih => s29a7b rec n ih) m
def s29a7 (rec : RT) (n : Nat) : TT3 := s29a7l rec n n
def s29a5 (rec : RT) (n : Nat) (x0 x5 x6 : DV) (h0 : Hp) : Res :=
  s29a7 rec n x0 x5 x6 h0
def s29a4 (rec : RT) (n : Nat) (x0 x5 x6 : DV) (h0 : Hp) : Res :=
  s29a5 rec n x0 x5 x6 h0
def s29a3 (rec : RT) (n : Nat) (x0 x5 : DV) (h0 : Hp) : Res :=
  s29a4 rec n x0 x5 .l0 h0
def s29a2 (rec : RT) (n : Nat) (x0 : DV) (h0 : Hp) : Res :=
 bnd (pBuild [(.s []), (.i .i64 (Int.ofNat 0))] [(0, 1, x0)] h0) fun v1 h1 =>
 bnd (pBox v1 h1) fun v2 h2 =>
  s29a3 rec n x0 v2 h2
def s29a1 (rec : RT) (n : Nat) (x0 : DV) (h0 : Hp) : Res :=
 bnd (pLenS x0 h0) fun v1 h1 =>
 bnd (pInt .gtr v1 (.i .i64 (Int.ofNat 2000)) h1) fun v2 h2 =>
 ifD v2 (
 some (.t [.l0, (.i .i64 (Int.ofNat 0)), (.i .i64 (Int.ofNat 12))], h2)) (
    s29a2 rec n x0 h2)
/-- lex.Tokens -/
def s29 (rec : RT) (n : Nat) (x0 : DV) (h0 : Hp) : Res :=
  s29a1 rec n x0 h0
abbrev c29 : Code := cf Try.f29
abbrev c29x1 : Code := cR c29
abbrev c29x2 : Code := cL c29x1
abbrev c29x3 : Code := cR c29x2
abbrev c29x4 : Code := cR c29x3
abbrev c29x5 : Code := cR c29x4
abbrev c29x6 : Code := cR c29x5
abbrev c29x7 : Code := cR c29x6
abbrev c29x8 : Code := cL c29x6
abbrev c29x9 : Code := cL c29x8
abbrev c29x10 : Code := cL c29x9
abbrev c29x11 : Code := cL c29x5
abbrev c29x12 : Code := cL c29x4
abbrev c29x13 : Code := cL c29x3
abbrev c29x14 : Code := cL c29x2
abbrev c29x15 : Code := cL c29
abbrev r29 : K := retK CF Try.f29
def D29 (rec : RT) (n : Nat) (c : Code) (X : Nat → K) (k : K) : K := codeD CF rec 80 n c X r29 k
theorem s29a6e : D29 rec n c29x7 x0 r29 = (K2 (s29a6 rec n) 0 6) :=
  (by kernel_rfl)
theorem s29a7q1 (kk7 : TT3) (q0 : TT2) : D29 rec n c29x10 (xs x0 0 (K2 q0 0 6)) (K3 kk7 0 5 6) = fun (env : Env) (h : Hp) =>
 bnd (rec 48 [(.s [9, 10, 13, 32])] h) fun v1 h1 =>
 bnd (pLenS (env 0) h1) fun v2 h2 =>
 bnd (rec 47 [(env 5), v1, v2] h2) fun v3 h3 =>
 bnd (pNil (env 5) h3) fun v4 h4 =>
 bnd (pField 1 v4 h4) fun v5 h5 =>
 bnd (pLoad1 v5 h5) fun v6 h6 =>
 bnd (pLenS (env 0) h6) fun v7 h7 =>
 bnd (pInt .geq v6 v7 h7) fun v8 h8 =>
 ifD v8 (
      q0 (env 0) (env 6) h8) (
 bnd (pNil (env 5) h8) fun v9 h9 =>
 bnd (pField 1 v9 h9) fun v10 h10 =>
 bnd (pLoad1 v10 h10) fun v11 h11 =>
 bnd (pIndexS (env 0) v11 h11) fun v12 h12 =>
 bnd (pInt .eql v12 (.i .u8 (Int.ofNat 34)) h12) fun v13 h13 =>
 ifD v13 (
 bnd (pNil (env 5) h13) fun v14 h14 =>
 bnd (pField 1 v14 h14) fun v15 h15 =>
 bnd (pLoad1 v15 h15) fun v16 h16 =>
 bnd (pInt .add v16 (.i .i64 (Int.ofNat 1)) h16) fun v17 h17 =>
 bnd (pSliceS (env 0) (some v17) none h17) fun v18 h18 =>
 bnd (rec 49 [v18, (.i .u8 (Int.ofNat 34))] h18) fun v19 h19 =>
 bnd (pInt .lss v19 (.i .i64 (Int.ofNat 0)) h19) fun v20 h20 =>
 ifD v20 (
 bnd (pNil (env 5) h20) fun v21 h21 =>
 bnd (pField 1 v21 h21) fun v22 h22 =>
 bnd (pLoad1 v22 h22) fun v23 h23 =>
 some (.t [.l0, v23, (.i .i64 (Int.ofNat 11))], h23)) (
 bnd (pNil (env 5) h20) fun v24 h24 =>
 bnd (pField 1 v24 h24) fun v25 h25 =>
 bnd (pLoad1 v25 h25) fun v26 h26 =>
 bnd (pInt .add v19 (.i .i64 (Int.ofNat 2)) h26) fun v27 h27 =>
 bnd (pInt .add v26 v27 h27) fun v28 h28 =>
 bnd (pNil (env 5) h28) fun v29 h29 =>
 bnd (pField 1 v29 h29) fun v30 h30 =>
 bnd (pStore 1 v30 v28 h30) fun _ h31 =>
          kk7 (env 0) (env 5) (env 6) h31)) (
 bnd (rec 50 [(env 5)] h13) fun v32 h32 =>
 bnd (pExtract 0 v32 h32) fun v33 h33 =>
 bnd (pExtract 1 v32 h33) fun v34 h34 =>
 bnd (pNew [(.i .i64 (Int.ofNat 0)), (.s []), (.i .i64 (Int.ofNat 0)), (.i .i64 (Int.ofNat 0))] h34) fun v35 h35 =>
 bnd (pStore 4 v35 v33 h35) fun _ h36 =>
 bnd (pInt .neq v34 (.i .i64 (Int.ofNat 0)) h36) fun v37 h37 =>
 ifD v37 (
 bnd (pField 3 v35 h37) fun v38 h38 =>
 bnd (pLoad1 v38 h38) fun v39 h39 =>
 some (.t [.l0, v39, v34], h39)) (
 bnd (pLoadA 4 v35 h37) fun v40 h40 =>
 bnd (pBuildSlice [(.i .i64 (Int.ofNat 0)), (.s []), (.i .i64 (Int.ofNat 0)), (.i .i64 (Int.ofNat 0))] 1 [(0, 4, v40)] h40) fun v41 h41 =>
 bnd (pAppend 4 40 (env 6) v41 h41) fun v42 h42 =>
          kk7 (env 0) (env 5) v42 h42))) := by kernel_rfl
theorem s29a7q1u (kk7 : TT3) : (fun (env : Env) (h : Hp) =>
 bnd (rec 48 [(.s [9, 10, 13, 32])] h) fun v1 h1 =>
 bnd (pLenS (env 0) h1) fun v2 h2 =>
 bnd (rec 47 [(env 5), v1, v2] h2) fun v3 h3 =>
 bnd (pNil (env 5) h3) fun v4 h4 =>
 bnd (pField 1 v4 h4) fun v5 h5 =>
 bnd (pLoad1 v5 h5) fun v6 h6 =>
 bnd (pLenS (env 0) h6) fun v7 h7 =>
 bnd (pInt .geq v6 v7 h7) fun v8 h8 =>
 ifD v8 (
      s29a6 rec n (env 0) (env 6) h8) (
 bnd (pNil (env 5) h8) fun v9 h9 =>
 bnd (pField 1 v9 h9) fun v10 h10 =>
 bnd (pLoad1 v10 h10) fun v11 h11 =>
 bnd (pIndexS (env 0) v11 h11) fun v12 h12 =>
 bnd (pInt .eql v12 (.i .u8 (Int.ofNat 34)) h12) fun v13 h13 =>
 ifD v13 (
 bnd (pNil (env 5) h13) fun v14 h14 =>
 bnd (pField 1 v14 h14) fun v15 h15 =>
 bnd (pLoad1 v15 h15) fun v16 h16 =>
 bnd (pInt .add v16 (.i .i64 (Int.ofNat 1)) h16) fun v17 h17 =>
 bnd (pSliceS (env 0) (some v17) none h17) fun v18 h18 =>
 bnd (rec 49 [v18, (.i .u8 (Int.ofNat 34))] h18) fun v19 h19 =>
 bnd (pInt .lss v19 (.i .i64 (Int.ofNat 0)) h19) fun v20 h20 =>
 ifD v20 (
 bnd (pNil (env 5) h20) fun v21 h21 =>
 bnd (pField 1 v21 h21) fun v22 h22 =>
 bnd (pLoad1 v22 h22) fun v23 h23 =>
 some (.t [.l0, v23, (.i .i64 (Int.ofNat 11))], h23)) (
 bnd (pNil (env 5) h20) fun v24 h24 =>
 bnd (pField 1 v24 h24) fun v25 h25 =>
 bnd (pLoad1 v25 h25) fun v26 h26 =>
 bnd (pInt .add v19 (.i .i64 (Int.ofNat 2)) h26) fun v27 h27 =>
 bnd (pInt .add v26 v27 h27) fun v28 h28 =>
 bnd (pNil (env 5) h28) fun v29 h29 =>
 bnd (pField 1 v29 h29) fun v30 h30 =>
 bnd (pStore 1 v30 v28 h30) fun _ h31 =>
          kk7 (env 0) (env 5) (env 6) h31)) (
 bnd (rec 50 [(env 5)] h13) fun v32 h32 =>
 bnd (pExtract 0 v32 h32) fun v33 h33 =>
 bnd (pExtract 1 v32 h33) fun v34 h34 =>
 bnd (pNew [(.i .i64 (Int.ofNat 0)), (.s []), (.i .i64 (Int.ofNat 0)), (.i .i64 (Int.ofNat 0))] h34) fun v35 h35 =>
 bnd (pStore 4 v35 v33 h35) fun _ h36 =>
 bnd (pInt .neq v34 (.i .i64 (Int.ofNat 0)) h36) fun v37 h37 =>
 ifD v37 (
 bnd (pField 3 v35 h37) fun v38 h38 =>
 bnd (pLoad1 v38 h38) fun v39 h39 =>
 some (.t [.l0, v39, v34], h39)) (
 bnd (pLoadA 4 v35 h37) fun v40 h40 =>
 bnd (pBuildSlice [(.i .i64 (Int.ofNat 0)), (.s []), (.i .i64 (Int.ofNat 0)), (.i .i64 (Int.ofNat 0))] 1 [(0, 4, v40)] h40) fun v41 h41 =>
 bnd (pAppend 4 40 (env 6) v41 h41) fun v42 h42 =>
          kk7 (env 0) (env 5) v42 h42)))) = (K3 (s29a7b rec n kk7) 0 5 6) := by kernel_rfl
theorem s29a7be (kk7 : TT3) : D29 rec n c29x10 (xs x0 0 (K2 (s29a6 rec n) 0 6)) (K3 kk7 0 5 6) = (K3 (s29a7b rec n kk7) 0 5 6) :=
  (s29a7q1 rec n kk7 (s29a6 rec n)).trans (s29a7q1u rec n kk7)
theorem s29a7le (m : Nat) : loopN (fun kk => D29 rec n c29x10 (xs x0 0 (K2 (s29a6 rec n) 0 6)) kk) m = (K3 (s29a7l rec n m) 0 5 6) := by
  induction m with
  | zero => exact (by kernel_rfl : loopN (fun kk => D29 rec n c29x10 (xs x0 0 (K2 (s29a6 rec n) 0 6)) kk) 0 = (K3 (s29a7l rec n 0) 0 5 6))
  | succ m ih =>
    refine (by kernel_rfl : loopN (fun kk => D29 rec n c29x10 (xs x0 0 (K2 (s29a6 rec n) 0 6)) kk) (m + 1) = D29 rec n c29x10 (xs x0 0 (K2 (s29a6 rec n) 0 6)) (loopN (fun kk => D29 rec n c29x10 (xs x0 0 (K2 (s29a6 rec n) 0 6)) kk) m)).trans ?_
    rw [ih]
    exact (s29a7be rec n (s29a7l rec n m)).trans (by kernel_rfl)
theorem s29a7e : D29 rec n c29x9 (xs x0 0 (K2 (s29a6 rec n) 0 6)) (K2 (s29a6 rec n) 0 6) = (K3 (s29a7 rec n) 0 5 6) :=
  (by kernel_rfl : D29 rec n c29x9 (xs x0 0 (K2 (s29a6 rec n) 0 6)) (K2 (s29a6 rec n) 0 6) = loopN (fun kk => D29 rec n c29x10 (xs x0 0 (K2 (s29a6 rec n) 0 6)) kk) n).trans ((s29a7le rec n n).trans (by kernel_rfl))
theorem s29a5p2 : D29 rec n c29x6 x0 r29 = D29 rec n c29x8 x0 (K2 (s29a6 rec n) 0 6) :=
  congrArg (fun k => D29 rec n c29x8 x0 k) (s29a6e rec n)
theorem s29a5e : D29 rec n c29x6 x0 r29 = (K3 (s29a5 rec n) 0 5 6) :=
  (s29a5p2 rec n).trans
  ((by kernel_rfl : D29 rec n c29x8 x0 (K2 (s29a6 rec n) 0 6) = D29 rec n c29x9 (xs x0 0 (K2 (s29a6 rec n) 0 6)) (K2 (s29a6 rec n) 0 6)).trans
  ((s29a7e rec n).trans (by kernel_rfl)))
theorem s29a4p3 : D29 rec n c29x5 x0 r29 = D29 rec n c29x11 x0 (K3 (s29a5 rec n) 0 5 6) :=
  congrArg (fun k => D29 rec n c29x11 x0 k) (s29a5e rec n)
theorem s29a4e : D29 rec n c29x5 x0 r29 = (K3 (s29a4 rec n) 0 5 6) :=
  (s29a4p3 rec n).trans
  ((by kernel_rfl))
theorem s29a3p4 : D29 rec n c29x4 x0 r29 = D29 rec n c29x12 x0 (K3 (s29a4 rec n) 0 5 6) :=
  congrArg (fun k => D29 rec n c29x12 x0 k) (s29a4e rec n)
theorem s29a3e : D29 rec n c29x4 x0 r29 = (K2 (s29a3 rec n) 0 5) :=
  (s29a3p4 rec n).trans
  ((by kernel_rfl))
theorem s29a2p5 : D29 rec n c29x3 x0 r29 = D29 rec n c29x13 x0 (K2 (s29a3 rec n) 0 5) :=
  congrArg (fun k => D29 rec n c29x13 x0 k) (s29a3e rec n)
theorem s29a2q6 (q0 : TT2) : D29 rec n c29x13 x0 (K2 q0 0 5) = fun (env : Env) (h : Hp) =>
 bnd (pBuild [(.s []), (.i .i64 (Int.ofNat 0))] [(0, 1, (env 0))] h) fun v1 h1 =>
 bnd (pBox v1 h1) fun v2 h2 =>
    q0 (env 0) v2 h2 := by kernel_rfl
theorem s29a2q6u : (fun (env : Env) (h : Hp) =>
 bnd (pBuild [(.s []), (.i .i64 (Int.ofNat 0))] [(0, 1, (env 0))] h) fun v1 h1 =>
 bnd (pBox v1 h1) fun v2 h2 =>
    s29a3 rec n (env 0) v2 h2) = (K1 (s29a2 rec n) 0) := by kernel_rfl
theorem s29a2e : D29 rec n c29x3 x0 r29 = (K1 (s29a2 rec n) 0) :=
  (s29a2p5 rec n).trans
  ((s29a2q6 rec n (s29a3 rec n)).trans (s29a2q6u rec n))
theorem s29a1p7 : D29 rec n c29x2 x0 r29 = D29 rec n c29x14 x0 (K1 (s29a2 rec n) 0) :=
  congrArg (fun k => D29 rec n c29x14 x0 k) (s29a2e rec n)
theorem s29a1e : D29 rec n c29x1 x0 r29 = (K1 (s29a1 rec n) 0) :=
  (by kernel_rfl : D29 rec n c29x1 x0 r29 = D29 rec n c29x2 x0 r29).trans
  ((s29a1p7 rec n).trans
  ((by kernel_rfl)))
theorem s29p8 : D29 rec n c29 x0 r29 = D29 rec n c29x15 x0 (K1 (s29a1 rec n) 0) :=
  congrArg (fun k => D29 rec n c29x15 x0 k) (s29a1e rec n)
theorem s29m : D29 rec n c29 x0 r29 = (K1 (s29 rec n) 0) :=
  (s29p8 rec n).trans
  ((by kernel_rfl))
theorem s29ok (args : List DV) (h : Hp) : bodyD CF rec n 29 args h = s29 rec n (args.getD 0 undefD) h :=
  (by kernel_rfl : bodyD CF rec n 29 args h = D29 rec n c29 x0 r29 (argsE args) h).trans ((congrFun (congrFun (s29m rec n) (argsE args)) h).trans (by kernel_rfl))
def s30a5 (rec : RT) (n : Nat) (x0 x3 : DV) (h0 : Hp) : Res :=
 bnd (rec 32 [x0, (.i .i64 (Int.ofNat 10)), (.s [124])] h0) fun v1 h1 =>
 some (x3, h1)
def s30a6b (rec : RT) (n : Nat) (kk6 : TT2) (x0 x3 : DV) (h0 : Hp) : Res :=
 bnd (rec 51 [x0, (.i .i64 (Int.ofNat 1)), (.s [])] h0) fun v1 h1 =>
 ifD v1 (
 bnd (rec 52 [x0] h1) fun v2 h2 =>
 bnd (pPart1 1 v2 h2) fun v3 h3 =>
 bnd (pBuildSlice [(.s [])] 1 [(0, 1, v3)] h3) fun v4 h4 =>
 bnd (pAppend 1 16 x3 v4 h4) fun v5 h5 =>
      kk6 x0 v5 h5) (
      s30a5 rec n x0 x3 h1)
def s30a6l (rec : RT) (n : Nat) (m : Nat) : TT2 :=
  Nat.rec (motive := fun _ => TT2) (fun _ _ _ => none) (fun _ ih => s30a6b rec n ih) m
def s30a6 (rec : RT) (n : Nat) : TT2 := s30a6l rec n n
def s30a4 (rec : RT) (n : Nat) (x0 x3 : DV) (h0 : Hp) : Res :=
  s30a6 rec n x0 x3 h0
def s30a3 (rec : RT) (n : Nat) (x0 x3 : DV) (h0 : Hp) : Res :=
 bnd (rec 52 [x0] h0) fun v1 h1 =>
  s30a4 rec n x0 x3 h1
def s30a2 (rec : RT) (n : Nat) (x0 x3 : DV) (h0 : Hp) : Res :=
 bnd (rec 51 [x0, (.i .i64 (Int.ofNat 10)), (.s [124])] h0) fun v1 h1 =>
 bnd (pUn .not v1 h1) fun v2 h2 =>
 ifD v2 (
 some (.l0, h2)) (
    s30a3 rec n x0 x3 h2)
def s30a1 (rec : RT) (n : Nat) (x0 : DV) (h0 : Hp) : Res :=
  s30a2 rec n x0 .l0 h0
/-- parse.parser).temps -/
def s30 (rec : RT) (n : Nat) (x0 : DV) (h0 : Hp) : Res :=
  s30a1 rec n x0 h0
abbrev c30 : Code := cf Try.f30
abbrev c30x1 : Code := cR c30
abbrev c30x2 : Code := cR c30x1
abbrev c30x3 : Code := cR c30x2
abbrev c30x4 : Code := cR c30x3
abbrev c30x5 : Code := cR c30x4
abbrev c30x6 : Code := cL c30x4
abbrev c30x7 : Code := cL c30x6
abbrev c30x8 : Code := cL c30x7
abbrev c30x9 : Code := cL c30x3
abbrev c30x10 : Code := cL c30x2
abbrev c30x11 : Code := cL c30x1
abbrev c30x12 : Code := cL c30
abbrev r30 : K := retK CF Try.f30
def D30 (rec : RT) (n : Nat) (c : Code) (X : Nat → K) (k : K) : K := codeD CF rec 20 n c X r30 k
theorem s30a5e : D30 rec n c30x5 x0 r30 = (K2 (s30a5 rec n) 0 3) :=
  (by kernel_rfl)
theorem s30a6q1 (kk6 : TT2) (q0 : TT2) : D30 rec n c30x8 (xs x0 0 (K2 q0 0 3)) (K2 kk6 0 3) = fun (env : Env) (h : Hp) =>
 bnd (rec 51 [(env 0), (.i .i64 (Int.ofNat 1)), (.s [])] h) fun v1 h1 =>
 ifD v1 (
 bnd (rec 52 [(env 0)] h1) fun v2 h2 =>
 bnd (pPart1 1 v2 h2) fun v3 h3 =>
 bnd (pBuildSlice [(.s [])] 1 [(0, 1, v3)] h3) fun v4 h4 =>
 bnd (pAppend 1 16 (env 3) v4 h4) fun v5 h5 =>
      kk6 (env 0) v5 h5) (
      q0 (env 0) (env 3) h1) := by kernel_rfl
theorem s30a6q1u (kk6 : TT2) : (fun (env : Env) (h : Hp) =>
 bnd (rec 51 [(env 0), (.i .i64 (Int.ofNat 1)), (.s [])] h) fun v1 h1 =>
 ifD v1 (
 bnd (rec 52 [(env 0)] h1) fun v2 h2 =>
 bnd (pPart1 1 v2 h2) fun v3 h3 =>
 bnd (pBuildSlice [(.s [])] 1 [(0, 1, v3)] h3) fun v4 h4 =>
 bnd (pAppend 1 16 (env 3) v4 h4) fun v5 h5 =>
      kk6 (env 0) v5 h5) (
      s30a5 rec n (env 0) (env 3) h1)) = (K2 (s30a6b rec n kk6) 0 3) := by kernel_rfl
theorem s30a6be (kk6 : TT2) : D30 rec n c30x8 (xs x0 0 (K2 (s30a5 rec n) 0 3)) (K2 kk6 0 3) = (K2 (s30a6b rec n kk6) 0 3) :=
  (s30a6q1 rec n kk6 (s30a5 rec n)).trans (s30a6q1u rec n kk6)
theorem s30a6le (m : Nat) : loopN (fun kk => D30 rec n c30x8 (xs x0 0 (K2 (s30a5 rec n) 0 3)) kk) m = (K2 (s30a6l rec n m) 0 3) := by
  induction m with
  | zero => exact (by kernel_rfl : loopN (fun kk => D30 rec n c30x8 (xs x0 0 (K2 (s30a5 rec n) 0 3)) kk) 0 = (K2 (s30a6l rec n 0) 0 3))
  | succ m ih =>
    refine (by kernel_rfl : loopN (fun kk => D30 rec n c30x8 (xs x0 0 (K2 (s30a5 rec n) 0 3)) kk) (m + 1) = D30 rec n c30x8 (xs x0 0 (K2 (s30a5 rec n) 0 3)) (loopN (fun kk => D30 rec n c30x8 (xs x0 0 (K2 (s30a5 rec n) 0 3)) kk) m)).trans ?_
    rw [ih]
    exact (s30a6be rec n (s30a6l rec n m)).trans (by kernel_rfl)
theorem s30a6e : D30 rec n c30x7 (xs x0 0 (K2 (s30a5 rec n) 0 3)) (K2 (s30a5 rec n) 0 3) = (K2 (s30a6 rec n) 0 3) :=
  (by kernel_rfl : D30 rec n c30x7 (xs x0 0 (K2 (s30a5 rec n) 0 3)) (K2 (s30a5 rec n) 0 3) = loopN (fun kk => D30 rec n c30x8 (xs x0 0 (K2 (s30a5 rec n) 0 3)) kk) n).trans ((s30a6le rec n n).trans (by kernel_rfl))
theorem s30a4p2 : D30 rec n c30x4 x0 r30 = D30 rec n c30x6 x0 (K2 (s30a5 rec n) 0 3) :=
  congrArg (fun k => D30 rec n c30x6 x0 k) (s30a5e rec n)
theorem s30a4e : D30 rec n c30x4 x0 r30 = (K2 (s30a4 rec n) 0 3) :=
  (s30a4p2 rec n).trans
  ((by kernel_rfl : D30 rec n c30x6 x0 (K2 (s30a5 rec n) 0 3) = D30 rec n c30x7 (xs x0 0 (K2 (s30a5 rec n) 0 3)) (K2 (s30a5 rec n) 0 3)).trans
  ((s30a6e rec n).trans (by kernel_rfl)))
theorem s30a3p3 : D30 rec n c30x3 x0 r30 = D30 rec n c30x9 x0 (K2 (s30a4 rec n) 0 3) :=
  congrArg (fun k => D30 rec n c30x9 x0 k) (s30a4e rec n)
theorem s30a3e : D30 rec n c30x3 x0 r30 = (K2 (s30a3 rec n) 0 3) :=
  (s30a3p3 rec n).trans
  ((by kernel_rfl))
theorem s30a2p4 : D30 rec n c30x2 x0 r30 = D30 rec n c30x10 x0 (K2 (s30a3 rec n) 0 3) :=
  congrArg (fun k => D30 rec n c30x10 x0 k) (s30a3e rec n)
theorem s30a2e : D30 rec n c30x2 x0 r30 = (K2 (s30a2 rec n) 0 3) :=
  (s30a2p4 rec n).trans
  ((by kernel_rfl))
theorem s30a1p5 : D30 rec n c30x1 x0 r30 = D30 rec n c30x11 x0 (K2 (s30a2 rec n) 0 3) :=
  congrArg (fun k => D30 rec n c30x11 x0 k) (s30a2e rec n)
theorem s30a1e : D30 rec n c30x1 x0 r30 = (K1 (s30a1 rec n) 0) :=
  (s30a1p5 rec n).trans
  ((by kernel_rfl))
theorem s30p6 : D30 rec n c30 x0 r30 = D30 rec n c30x12 x0 (K1 (s30a1 rec n) 0) :=
  congrArg (fun k => D30 rec n c30x12 x0 k) (s30a1e rec n)
theorem s30m : D30 rec n c30 x0 r30 = (K1 (s30 rec n) 0) :=
  (s30p6 rec n).trans
  ((by kernel_rfl))
theorem s30ok (args : List DV) (h : Hp) : bodyD CF rec n 30 args h = s30 rec n (args.getD 0 undefD) h :=
  (by kernel_rfl : bodyD CF rec n 30 args h = D30 rec n c30 x0 r30 (argsE args) h).trans ((congrFun (congrFun (s30m rec n) (argsE args)) h).trans (by kernel_rfl))
def s31a3 (rec : RT) (n : Nat) (x3 : DV) (h0 : Hp) : Res :=
 some (x3, h0)
def s31a6 (rec : RT) (n : Nat) (kk4 : TT2) (x0 x3 : DV) (h0 : Hp) : Res :=
 bnd (rec 53 [x0] h0) fun v1 h1 =>
 bnd (pBuildSlice [(.i .i64 (Int.ofNat 0)), (.s []), (.i .i64 (Int.ofNat 0)), .l0, .l0, .l0] 1 [(0, 6, v1)] h1) fun v2 h2 =>
 bnd (pAppend 6 104 x3 v2 h2) fun v3 h3 =>
 bnd (rec 51 [x0, (.i .i64 (Int.ofNat 10)), (.s [46])] h3) fun v4 h4 =>
 bnd (pUn .not v4 h4) fun v5 h5 =>
 ifD v5 (
 some (v3, h5)) (
 bnd (rec 52 [x0] h5) fun v6 h6 =>
    kk4 x0 v3 h6)
def s31a11 (rec : RT) (n : Nat) (kk4 : TT2) (x3 : DV) (h0 : Hp) : Res :=
 some (x3, h0)
def s31a10 (rec : RT) (n : Nat) (kk4 : TT2) (x0 x3 : DV) (h0 : Hp) : Res :=
 bnd (rec 51 [x0, (.i .i64 (Int.ofNat 10)), (.s [46])] h0) fun v1 h1 =>
 ifD v1 (
 bnd (rec 52 [x0] h1) fun v2 h2 =>
    s31a11 rec n kk4 x3 h2) (
    s31a11 rec n kk4 x3 h1)
def s31a9 (rec : RT) (n : Nat) (kk4 : TT2) (x0 x3 : DV) (h0 : Hp) : Res :=
 bnd (rec 53 [x0] h0) fun v1 h1 =>
 bnd (pBuildSlice [(.i .i64 (Int.ofNat 0)), (.s []), (.i .i64 (Int.ofNat 0)), .l0, .l0, .l0] 1 [(0, 6, v1)] h1) fun v2 h2 =>
 bnd (pBuild [(.i .i64 (Int.ofNat 0)), (.s []), (.i .i64 (Int.ofNat 0)), .l0, .l0, .l0] [(0, 1, (.i .i64 (Int.ofNat 10))), (5, 1, v2)] h2) fun v3 h3 =>
 bnd (pBuildSlice [(.i .i64 (Int.ofNat 0)), (.s []), (.i .i64 (Int.ofNat 0)), .l0, .l0, .l0] 1 [(0, 6, v3)] h3) fun v4 h4 =>
 bnd (pAppend 6 104 x3 v4 h4) fun v5 h5 =>
  s31a10 rec n kk4 x0 v5 h5
def s31a8 (rec : RT) (n : Nat) (kk4 : TT2) (x0 x3 : DV) (h0 : Hp) : Res :=
 bnd (rec 52 [x0] h0) fun v1 h1 =>
  s31a9 rec n kk4 x0 x3 h1
def s31a7 (rec : RT) (n : Nat) (kk4 : TT2) (x0 x3 x20 : DV) (h0 : Hp) : Res :=
 ifD x20 (
    s31a8 rec n kk4 x0 x3 h0) (
    s31a6 rec n kk4 x0 x3 h0)
def s31a5 (rec : RT) (n : Nat) (kk4 : TT2) (x0 x3 : DV) (h0 : Hp) : Res :=
 bnd (rec 51 [x0, (.i .i64 (Int.ofNat 10)), (.s [94])] h0) fun v1 h1 =>
  s31a7 rec n kk4 x0 x3 v1 h1
def s31a4b (rec : RT) (n : Nat) (kk4 : TT2) (x0 x3 : DV) (h0 : Hp) : Res :=
 bnd (pNil x0 h0) fun v1 h1 =>
 bnd (pField 3 v1 h1) fun v2 h2 =>
 bnd (pLoad1 v2 h2) fun v3 h3 =>
 bnd (pInt .eql v3 (.i .i64 (Int.ofNat 0)) h3) fun v4 h4 =>
 bnd (gD v4 true (some (x0, h4)) h4) fun v5 h5 =>
 bnd (gD v4 true (rec 51 [v5, (.i .i64 (Int.ofNat 0)), (.s [])] h5) h5) fun v6 h6 =>
 bnd (gD v4 true (pUn .not v6 h6) h6) fun v7 h7 =>
 bnd (pPick v4 v7 (.b false) h7) fun v8 h8 =>
 bnd (gD v8 true (some (x0, h8)) h8) fun v9 h9 =>
 bnd (gD v8 true (rec 51 [v9, (.i .i64 (Int.ofNat 10)), (.s [93])] h9) h9) fun v10 h10 =>
 bnd (gD v8 true (pUn .not v10 h10) h10) fun v11 h11 =>
 bnd (pPick v8 v11 (.b false) h11) fun v12 h12 =>
 ifD v12 (
      s31a5 rec n kk4 x0 x3 h12) (
      s31a3 rec n x3 h12)
def s31a4l (rec : RT) (n : Nat) (m : Nat) : TT2 :=
  Nat.rec (motive := fun _ => TT2) (fun _ _ _ => none) (fun _ ih => s31a4b rec n ih) m
def s31a4 (rec : RT) (n : Nat) : TT2 := s31a4l rec n n
def s31a2 (rec : RT) (n : Nat) (x0 x3 : DV) (h0 : Hp) : Res :=
  s31a4 rec n x0 x3 h0
def s31a1 (rec : RT) (n : Nat) (x0 : DV) (h0 : Hp) : Res :=
  s31a2 rec n x0 .l0 h0
/-- parse.parser).statements -/
def s31 (rec : RT) (n : Nat) (x0 : DV) (h0 : Hp) : Res :=
  s31a1 rec n x0 h0
abbrev c31 : Code := cf Try.f31
abbrev c31x1 : Code := cR c31
abbrev c31x2 : Code := cR c31x1
abbrev c31x3 : Code := cR c31x2
abbrev c31x4 : Code := cL c31x2
abbrev c31x5 : Code := cL c31x4
abbrev c31x6 : Code := cL c31x5
abbrev c31x7 : Code := cR c31x6
abbrev c31x8 : Code := cL c31x7
abbrev c31x9 : Code := cR c31x8
abbrev c31x10 : Code := cL c31x8
abbrev c31x11 : Code := cR c31x10
abbrev c31x12 : Code := cL c31x11
abbrev c31x13 : Code := cR c31x12
abbrev c31x14 : Code := cR c31x13
abbrev c31x15 : Code := cR c31x14
abbrev c31x16 : Code := cL c31x14
abbrev c31x17 : Code := cL c31x13
abbrev c31x18 : Code := cL c31x12
abbrev c31x19 : Code := cR c31x11
abbrev c31x20 : Code := cL c31x10
abbrev c31x21 : Code := cL c31x6
abbrev c31x22 : Code := cL c31x1
abbrev c31x23 : Code := cL c31
abbrev r31 : K := retK CF Try.f31
def D31 (rec : RT) (n : Nat) (c : Code) (X : Nat → K) (k : K) : K := codeD CF rec 47 n c X r31 k
theorem s31a3e : D31 rec n c31x3 x0 r31 = (K1 (s31a3 rec n) 3) :=
  (by kernel_rfl)
theorem s31a6q1 (kk4 : TT2) (q0 : TT1) : D31 rec n c31x9 (xs (xs x0 0 (K1 q0 3)) 1 (K2 kk4 0 3)) (K2 kk4 0 3) = fun (env : Env) (h : Hp) =>
 bnd (rec 53 [(env 0)] h) fun v1 h1 =>
 bnd (pBuildSlice [(.i .i64 (Int.ofNat 0)), (.s []), (.i .i64 (Int.ofNat 0)), .l0, .l0, .l0] 1 [(0, 6, v1)] h1) fun v2 h2 =>
 bnd (pAppend 6 104 (env 3) v2 h2) fun v3 h3 =>
 bnd (rec 51 [(env 0), (.i .i64 (Int.ofNat 10)), (.s [46])] h3) fun v4 h4 =>
 bnd (pUn .not v4 h4) fun v5 h5 =>
 ifD v5 (
 some (v3, h5)) (
 bnd (rec 52 [(env 0)] h5) fun v6 h6 =>
      kk4 (env 0) v3 h6) := by kernel_rfl
theorem s31a6q1u (kk4 : TT2) : (fun (env : Env) (h : Hp) =>
 bnd (rec 53 [(env 0)] h) fun v1 h1 =>
 bnd (pBuildSlice [(.i .i64 (Int.ofNat 0)), (.s []), (.i .i64 (Int.ofNat 0)), .l0, .l0, .l0] 1 [(0, 6, v1)] h1) fun v2 h2 =>
 bnd (pAppend 6 104 (env 3) v2 h2) fun v3 h3 =>
 bnd (rec 51 [(env 0), (.i .i64 (Int.ofNat 10)), (.s [46])] h3) fun v4 h4 =>
 bnd (pUn .not v4 h4) fun v5 h5 =>
 ifD v5 (
 some (v3, h5)) (
 bnd (rec 52 [(env 0)] h5) fun v6 h6 =>
      kk4 (env 0) v3 h6)) = (K2 (s31a6 rec n kk4) 0 3) := by kernel_rfl
theorem s31a6e (kk4 : TT2) : D31 rec n c31x9 (xs (xs x0 0 (K1 (s31a3 rec n) 3)) 1 (K2 kk4 0 3)) (K2 kk4 0 3) = (K2 (s31a6 rec n kk4) 0 3) :=
  (s31a6q1 rec n kk4 (s31a3 rec n)).trans (s31a6q1u rec n kk4)
theorem s31a11e (kk4 : TT2) : D31 rec n c31x15 (xs (xs x0 0 (K1 (s31a3 rec n) 3)) 1 (K2 kk4 0 3)) (K2 (s31a6 rec n kk4) 0 3) = (K1 (s31a11 rec n kk4) 3) :=
  (by kernel_rfl)
theorem s31a10p2 (kk4 : TT2) : D31 rec n c31x14 (xs (xs x0 0 (K1 (s31a3 rec n) 3)) 1 (K2 kk4 0 3)) (K2 (s31a6 rec n kk4) 0 3) = D31 rec n c31x16 (xs (xs x0 0 (K1 (s31a3 rec n) 3)) 1 (K2 kk4 0 3)) (K1 (s31a11 rec n kk4) 3) :=
  congrArg (fun k => D31 rec n c31x16 (xs (xs x0 0 (K1 (s31a3 rec n) 3)) 1 (K2 kk4 0 3)) k) (s31a11e rec n kk4)
theorem s31a10e (kk4 : TT2) : D31 rec n c31x14 (xs (xs x0 0 (K1 (s31a3 rec n) 3)) 1 (K2 kk4 0 3)) (K2 (s31a6 rec n kk4) 0 3) = (K2 (s31a10 rec n kk4) 0 3) :=
  (s31a10p2 rec n kk4).trans
  ((by kernel_rfl))
theorem s31a9p3 (kk4 : TT2) : D31 rec n c31x13 (xs (xs x0 0 (K1 (s31a3 rec n) 3)) 1 (K2 kk4 0 3)) (K2 (s31a6 rec n kk4) 0 3) = D31 rec n c31x17 (xs (xs x0 0 (K1 (s31a3 rec n) 3)) 1 (K2 kk4 0 3)) (K2 (s31a10 rec n kk4) 0 3) :=
  congrArg (fun k => D31 rec n c31x17 (xs (xs x0 0 (K1 (s31a3 rec n) 3)) 1 (K2 kk4 0 3)) k) (s31a10e rec n kk4)
theorem s31a9q4 (kk4 : TT2) (q0 : TT2) (q1 : TT1) : D31 rec n c31x17 (xs (xs x0 0 (K1 q1 3)) 1 (K2 kk4 0 3)) (K2 q0 0 3) = fun (env : Env) (h : Hp) =>
 bnd (rec 53 [(env 0)] h) fun v1 h1 =>
 bnd (pBuildSlice [(.i .i64 (Int.ofNat 0)), (.s []), (.i .i64 (Int.ofNat 0)), .l0, .l0, .l0] 1 [(0, 6, v1)] h1) fun v2 h2 =>
 bnd (pBuild [(.i .i64 (Int.ofNat 0)), (.s []), (.i .i64 (Int.ofNat 0)), .l0, .l0, .l0] [(0, 1, (.i .i64 (Int.ofNat 10))), (5, 1, v2)] h2) fun v3 h3 =>
 bnd (pBuildSlice [(.i .i64 (Int.ofNat 0)), (.s []), (.i .i64 (Int.ofNat 0)), .l0, .l0, .l0] 1 [(0, 6, v3)] h3) fun v4 h4 =>
 bnd (pAppend 6 104 (env 3) v4 h4) fun v5 h5 =>
    q0 (env 0) v5 h5 := by kernel_rfl
theorem s31a9q4u (kk4 : TT2) : (fun (env : Env) (h : Hp) =>
 bnd (rec 53 [(env 0)] h) fun v1 h1 =>
 bnd (pBuildSlice [(.i .i64 (Int.ofNat 0)), (.s []), (.i .i64 (Int.ofNat 0)), .l0, .l0, .l0] 1 [(0, 6, v1)] h1) fun v2 h2 =>
 bnd (pBuild [(.i .i64 (Int.ofNat 0)), (.s []), (.i .i64 (Int.ofNat 0)), .l0, .l0, .l0] [(0, 1, (.i .i64 (Int.ofNat 10))), (5, 1, v2)] h2) fun v3 h3 =>
 bnd (pBuildSlice [(.i .i64 (Int.ofNat 0)), (.s []), (.i .i64 (Int.ofNat 0)), .l0, .l0, .l0] 1 [(0, 6, v3)] h3) fun v4 h4 =>
 bnd (pAppend 6 104 (env 3) v4 h4) fun v5 h5 =>
    s31a10 rec n kk4 (env 0) v5 h5) = (K2 (s31a9 rec n kk4) 0 3) := by kernel_rfl
theorem s31a9e (kk4 : TT2) : D31 rec n c31x13 (xs (xs x0 0 (K1 (s31a3 rec n) 3)) 1 (K2 kk4 0 3)) (K2 (s31a6 rec n kk4) 0 3) = (K2 (s31a9 rec n kk4) 0 3) :=
  (s31a9p3 rec n kk4).trans
  ((s31a9q4 rec n kk4 (s31a10 rec n kk4) (s31a3 rec n)).trans (s31a9q4u rec n kk4))
theorem s31a8p5 (kk4 : TT2) : D31 rec n c31x12 (xs (xs x0 0 (K1 (s31a3 rec n) 3)) 1 (K2 kk4 0 3)) (K2 (s31a6 rec n kk4) 0 3) = D31 rec n c31x18 (xs (xs x0 0 (K1 (s31a3 rec n) 3)) 1 (K2 kk4 0 3)) (K2 (s31a9 rec n kk4) 0 3) :=
  congrArg (fun k => D31 rec n c31x18 (xs (xs x0 0 (K1 (s31a3 rec n) 3)) 1 (K2 kk4 0 3)) k) (s31a9e rec n kk4)
theorem s31a8e (kk4 : TT2) : D31 rec n c31x12 (xs (xs x0 0 (K1 (s31a3 rec n) 3)) 1 (K2 kk4 0 3)) (K2 (s31a6 rec n kk4) 0 3) = (K2 (s31a8 rec n kk4) 0 3) :=
  (s31a8p5 rec n kk4).trans
  ((by kernel_rfl))
theorem s31a7e (kk4 : TT2) : D31 rec n c31x11 (xs (xs x0 0 (K1 (s31a3 rec n) 3)) 1 (K2 kk4 0 3)) (K2 (s31a6 rec n kk4) 0 3) = (K3 (s31a7 rec n kk4) 0 3 20) :=
  (by kernel_rfl : D31 rec n c31x11 (xs (xs x0 0 (K1 (s31a3 rec n) 3)) 1 (K2 kk4 0 3)) (K2 (s31a6 rec n kk4) 0 3) = (fun (env : Env) (h : Hp) => ifD (opr env (cC c31x11)) (D31 rec n c31x12 (xs (xs x0 0 (K1 (s31a3 rec n) 3)) 1 (K2 kk4 0 3)) (K2 (s31a6 rec n kk4) 0 3) env h) (D31 rec n c31x19 (xs (xs x0 0 (K1 (s31a3 rec n) 3)) 1 (K2 kk4 0 3)) (K2 (s31a6 rec n kk4) 0 3) env h))).trans (by rw [s31a8e rec n kk4]; kernel_rfl)
theorem s31a5p6 (kk4 : TT2) : D31 rec n c31x8 (xs (xs x0 0 (K1 (s31a3 rec n) 3)) 1 (K2 kk4 0 3)) (K2 kk4 0 3) = D31 rec n c31x10 (xs (xs x0 0 (K1 (s31a3 rec n) 3)) 1 (K2 kk4 0 3)) (K2 (s31a6 rec n kk4) 0 3) :=
  congrArg (fun k => D31 rec n c31x10 (xs (xs x0 0 (K1 (s31a3 rec n) 3)) 1 (K2 kk4 0 3)) k) (s31a6e rec n kk4)
theorem s31a5p7 (kk4 : TT2) : D31 rec n c31x10 (xs (xs x0 0 (K1 (s31a3 rec n) 3)) 1 (K2 kk4 0 3)) (K2 (s31a6 rec n kk4) 0 3) = D31 rec n c31x20 (xs (xs x0 0 (K1 (s31a3 rec n) 3)) 1 (K2 kk4 0 3)) (K3 (s31a7 rec n kk4) 0 3 20) :=
  congrArg (fun k => D31 rec n c31x20 (xs (xs x0 0 (K1 (s31a3 rec n) 3)) 1 (K2 kk4 0 3)) k) (s31a7e rec n kk4)
theorem s31a5e (kk4 : TT2) : D31 rec n c31x7 (xs x0 0 (K1 (s31a3 rec n) 3)) (K2 kk4 0 3) = (K2 (s31a5 rec n kk4) 0 3) :=
  (by kernel_rfl : D31 rec n c31x7 (xs x0 0 (K1 (s31a3 rec n) 3)) (K2 kk4 0 3) = D31 rec n c31x8 (xs (xs x0 0 (K1 (s31a3 rec n) 3)) 1 (K2 kk4 0 3)) (K2 kk4 0 3)).trans
  ((s31a5p6 rec n kk4).trans
  ((s31a5p7 rec n kk4).trans
  ((by kernel_rfl))))
theorem s31a4p8 (kk4 : TT2) : D31 rec n c31x6 (xs x0 0 (K1 (s31a3 rec n) 3)) (K2 kk4 0 3) = D31 rec n c31x21 (xs x0 0 (K1 (s31a3 rec n) 3)) (K2 (s31a5 rec n kk4) 0 3) :=
  congrArg (fun k => D31 rec n c31x21 (xs x0 0 (K1 (s31a3 rec n) 3)) k) (s31a5e rec n kk4)
theorem s31a4be (kk4 : TT2) : D31 rec n c31x6 (xs x0 0 (K1 (s31a3 rec n) 3)) (K2 kk4 0 3) = (K2 (s31a4b rec n kk4) 0 3) :=
  (s31a4p8 rec n kk4).trans
  ((by kernel_rfl))
theorem s31a4le (m : Nat) : loopN (fun kk => D31 rec n c31x6 (xs x0 0 (K1 (s31a3 rec n) 3)) kk) m = (K2 (s31a4l rec n m) 0 3) := by
  induction m with
  | zero => exact (by kernel_rfl : loopN (fun kk => D31 rec n c31x6 (xs x0 0 (K1 (s31a3 rec n) 3)) kk) 0 = (K2 (s31a4l rec n 0) 0 3))
  | succ m ih =>
    refine (by kernel_rfl : loopN (fun kk => D31 rec n c31x6 (xs x0 0 (K1 (s31a3 rec n) 3)) kk) (m + 1) = D31 rec n c31x6 (xs x0 0 (K1 (s31a3 rec n) 3)) (loopN (fun kk => D31 rec n c31x6 (xs x0 0 (K1 (s31a3 rec n) 3)) kk) m)).trans ?_
    rw [ih]
    exact (s31a4be rec n (s31a4l rec n m)).trans (by kernel_rfl)
theorem s31a4e : D31 rec n c31x5 (xs x0 0 (K1 (s31a3 rec n) 3)) (K1 (s31a3 rec n) 3) = (K2 (s31a4 rec n) 0 3) :=
  (by kernel_rfl : D31 rec n c31x5 (xs x0 0 (K1 (s31a3 rec n) 3)) (K1 (s31a3 rec n) 3) = loopN (fun kk => D31 rec n c31x6 (xs x0 0 (K1 (s31a3 rec n) 3)) kk) n).trans ((s31a4le rec n n).trans (by kernel_rfl))
theorem s31a2p9 : D31 rec n c31x2 x0 r31 = D31 rec n c31x4 x0 (K1 (s31a3 rec n) 3) :=
  congrArg (fun k => D31 rec n c31x4 x0 k) (s31a3e rec n)
theorem s31a2e : D31 rec n c31x2 x0 r31 = (K2 (s31a2 rec n) 0 3) :=
  (s31a2p9 rec n).trans
  ((by kernel_rfl : D31 rec n c31x4 x0 (K1 (s31a3 rec n) 3) = D31 rec n c31x5 (xs x0 0 (K1 (s31a3 rec n) 3)) (K1 (s31a3 rec n) 3)).trans
  ((s31a4e rec n).trans (by kernel_rfl)))
theorem s31a1p10 : D31 rec n c31x1 x0 r31 = D31 rec n c31x22 x0 (K2 (s31a2 rec n) 0 3) :=
  congrArg (fun k => D31 rec n c31x22 x0 k) (s31a2e rec n)
theorem s31a1e : D31 rec n c31x1 x0 r31 = (K1 (s31a1 rec n) 0) :=
  (s31a1p10 rec n).trans
  ((by kernel_rfl))
theorem s31p11 : D31 rec n c31 x0 r31 = D31 rec n c31x23 x0 (K1 (s31a1 rec n) 0) :=
  congrArg (fun k => D31 rec n c31x23 x0 k) (s31a1e rec n)
theorem s31m : D31 rec n c31 x0 r31 = (K1 (s31 rec n) 0) :=
  (s31p11 rec n).trans
  ((by kernel_rfl))
theorem s31ok (args : List DV) (h : Hp) : bodyD CF rec n 31 args h = s31 rec n (args.getD 0 undefD) h :=
  (by kernel_rfl : bodyD CF rec n 31 args h = D31 rec n c31 x0 r31 (argsE args) h).trans ((congrFun (congrFun (s31m rec n) (argsE args)) h).trans (by kernel_rfl))
/-- parse.parser).need -/
def s32 (rec : RT) (n : Nat) (x0 x1 x2 : DV) (h0 : Hp) : Res :=
 bnd (pNew [(.i .i64 (Int.ofNat 0)), (.s []), (.i .i64 (Int.ofNat 0)), (.i .i64 (Int.ofNat 0))] h0) fun v1 h1 =>
 bnd (rec 51 [x0, x1, x2] h1) fun v2 h2 =>
 bnd (pUn .not v2 h2) fun v3 h3 =>
 ifD v3 (
 bnd (rec 55 [x0, (.i .i64 (Int.ofNat 0))] h3) fun v4 h4 =>
 bnd (rec 54 [x0, v4, (.i .i64 (Int.ofNat 13))] h4) fun v5 h5 =>
 bnd (pBuild [(.i .i64 (Int.ofNat 0)), (.s []), (.i .i64 (Int.ofNat 0)), (.i .i64 (Int.ofNat 0))] [] h5) fun v6 h6 =>
 bnd (pStore 4 v1 v6 h6) fun _ h7 =>
 bnd (pLoadA 4 v1 h7) fun v8 _ =>
 some (v8, h7)) (
 bnd (rec 52 [x0] h3) fun v9 h9 =>
 bnd (pStore 4 v1 v9 h9) fun _ h10 =>
 bnd (pLoadA 4 v1 h10) fun v11 _ =>
 some (v11, h10))
abbrev c32 : Code := cf Try.f32
abbrev r32 : K := retK CF Try.f32
def D32 (rec : RT) (n : Nat) (c : Code) (X : Nat → K) (k : K) : K := codeD CF rec 19 n c X r32 k
theorem s32m : D32 rec n c32 x0 r32 = (K3 (s32 rec n) 0 1 2) :=
  (by kernel_rfl)
theorem s32ok (args : List DV) (h : Hp) : bodyD CF rec n 32 args h = s32 rec n (args.getD 0 undefD) (args.getD 1 undefD) (args.getD 2 undefD) h :=
  (by kernel_rfl : bodyD CF rec n 32 args h = D32 rec n c32 x0 r32 (argsE args) h).trans ((congrFun (congrFun (s32m rec n) (argsE args)) h).trans (by kernel_rfl))
def s33a8 (rec : RT) (n : Nat) (h0 : Hp) : Res :=
 some ((.i .i64 (Int.ofNat 0)), h0)
def s33a10b (rec : RT) (n : Nat) (kk10 : TT3) (x0 x5 x6 : DV) (h0 : Hp) : Res :=
 bnd (pLenS x5 h0) fun v1 h1 =>
 bnd (pInt .lss x6 v1 h1) fun v2 h2 =>
 ifD v2 (
 bnd (pIndexS x5 x6 h2) fun v3 h3 =>
 bnd (pInt .eql v3 x0 h3) fun v4 h4 =>
 ifD v4 (
 some ((.i .i64 (Int.ofNat 4)), h4)) (
 bnd (pInt .add x6 (.i .i64 (Int.ofNat 1)) h4) fun v5 h5 =>
        kk10 x0 x5 v5 h5)) (
      s33a8 rec n h2)
def s33a10l (rec : RT) (n : Nat) (m : Nat) : TT3 :=
  Nat.rec (motive := fun _ => TT3) (fun _ _ _ _ => none) (fun _ ih => s33a10b rec n ih) m
def s33a10 (rec : RT) (n : Nat) : TT3 := s33a10l rec n n
def s33a9 (rec : RT) (n : Nat) (x0 x5 x6 : DV) (h0 : Hp) : Res :=
  s33a10 rec n x0 x5 x6 h0
def s33a7 (rec : RT) (n : Nat) (x0 x5 : DV) (h0 : Hp) : Res :=
  s33a9 rec n x0 x5 (.i .i64 (Int.ofNat 0)) h0
def s33a6 (rec : RT) (n : Nat) (x0 : DV) (h0 : Hp) : Res :=
  s33a7 rec n x0 (.s [94, 46, 59, 40, 41, 91, 93, 124]) h0
def s33a12b (rec : RT) (n : Nat) (kk12 : TT3) (x0 x3 x4 : DV) (h0 : Hp) : Res :=
 bnd (pLenS x3 h0) fun v1 h1 =>
 bnd (pInt .lss x4 v1 h1) fun v2 h2 =>
 ifD v2 (
 bnd (pIndexS x3 x4 h2) fun v3 h3 =>
 bnd (pInt .eql v3 x0 h3) fun v4 h4 =>
 ifD v4 (
 some ((.i .i64 (Int.ofNat 3)), h4)) (
 bnd (pInt .add x4 (.i .i64 (Int.ofNat 1)) h4) fun v5 h5 =>
        kk12 x0 x3 v5 h5)) (
      s33a6 rec n x0 h2)
def s33a12l (rec : RT) (n : Nat) (m : Nat) : TT3 :=
  Nat.rec (motive := fun _ => TT3) (fun _ _ _ _ => none) (fun _ ih => s33a12b rec n ih) m
def s33a12 (rec : RT) (n : Nat) : TT3 := s33a12l rec n n
def s33a11 (rec : RT) (n : Nat) (x0 x3 x4 : DV) (h0 : Hp) : Res :=
  s33a12 rec n x0 x3 x4 h0
def s33a5 (rec : RT) (n : Nat) (x0 x3 : DV) (h0 : Hp) : Res :=
  s33a11 rec n x0 x3 (.i .i64 (Int.ofNat 0)) h0
def s33a4 (rec : RT) (n : Nat) (x0 : DV) (h0 : Hp) : Res :=
  s33a5 rec n x0 (.s [43, 45, 42, 47, 60, 62, 61, 126, 44, 64, 38, 37]) h0
def s33a3 (rec : RT) (n : Nat) (x0 : DV) (h0 : Hp) : Res :=
 bnd (pInt .eql x0 (.i .u8 (Int.ofNat 9)) h0) fun v1 h1 =>
 bnd (gD v1 false (some (x0, h1)) h1) fun v2 h2 =>
 bnd (gD v1 false (pInt .eql v2 (.i .u8 (Int.ofNat 10)) h2) h2) fun v3 h3 =>
 bnd (pPick v1 (.b true) v3 h3) fun v4 h4 =>
 bnd (gD v4 false (some (x0, h4)) h4) fun v5 h5 =>
 bnd (gD v4 false (pInt .eql v5 (.i .u8 (Int.ofNat 13)) h5) h5) fun v6 h6 =>
 bnd (pPick v4 (.b true) v6 h6) fun v7 h7 =>
 bnd (gD v7 false (some (x0, h7)) h7) fun v8 h8 =>
 bnd (gD v7 false (pInt .eql v8 (.i .u8 (Int.ofNat 32)) h8) h8) fun v9 h9 =>
 bnd (pPick v7 (.b true) v9 h9) fun v10 h10 =>
 ifD v10 (
 some ((.i .i64 (Int.ofNat 5)), h10)) (
    s33a4 rec n x0 h10)
def s33a2 (rec : RT) (n : Nat) (x0 : DV) (h0 : Hp) : Res :=
 bnd (pInt .geq x0 (.i .u8 (Int.ofNat 48)) h0) fun v1 h1 =>
 bnd (gD v1 true (some (x0, h1)) h1) fun v2 h2 =>
 bnd (gD v1 true (pInt .leq v2 (.i .u8 (Int.ofNat 57)) h2) h2) fun v3 h3 =>
 bnd (pPick v1 v3 (.b false) h3) fun v4 h4 =>
 ifD v4 (
 some ((.i .i64 (Int.ofNat 2)), h4)) (
    s33a3 rec n x0 h4)
def s33a1 (rec : RT) (n : Nat) (x0 : DV) (h0 : Hp) : Res :=
 bnd (pInt .geq x0 (.i .u8 (Int.ofNat 97)) h0) fun v1 h1 =>
 bnd (gD v1 true (some (x0, h1)) h1) fun v2 h2 =>
 bnd (gD v1 true (pInt .leq v2 (.i .u8 (Int.ofNat 122)) h2) h2) fun v3 h3 =>
 bnd (pPick v1 v3 (.b false) h3) fun v4 h4 =>
 bnd (gD v4 false (some (x0, h4)) h4) fun v5 h5 =>
 bnd (gD v4 false (pInt .geq v5 (.i .u8 (Int.ofNat 65)) h5) h5) fun v6 h6 =>
 bnd (gD v4 false (some (v6, h6)) h6) fun v7 h7 =>
 bnd (gD v7 true (some (x0, h7)) h7) fun v8 h8 =>
 bnd (gD v7 true (pInt .leq v8 (.i .u8 (Int.ofNat 90)) h8) h8) fun v9 h9 =>
 bnd (gD v4 false (pPick v7 v9 (.b false) h9) h9) fun v10 h10 =>
 bnd (pPick v4 (.b true) v10 h10) fun v11 h11 =>
 ifD v11 (
 some ((.i .i64 (Int.ofNat 1)), h11)) (
    s33a2 rec n x0 h11)
/-- vivariumref06.kind -/
def s33 (rec : RT) (n : Nat) (x0 : DV) (h0 : Hp) : Res :=
  s33a1 rec n x0 h0
abbrev c33 : Code := cf Try.f33
abbrev c33x1 : Code := cR c33
abbrev c33x2 : Code := cR c33x1
abbrev c33x3 : Code := cR c33x2
abbrev c33x4 : Code := cR c33x3
abbrev c33x5 : Code := cR c33x4
abbrev c33x6 : Code := cR c33x5
abbrev c33x7 : Code := cR c33x6
abbrev c33x8 : Code := cR c33x7
abbrev c33x9 : Code := cL c33x7
abbrev c33x10 : Code := cR c33x9
abbrev c33x11 : Code := cL c33x10
abbrev c33x12 : Code := cL c33x11
abbrev c33x13 : Code := cL c33x9
abbrev c33x14 : Code := cL c33x6
abbrev c33x15 : Code := cL c33x5
abbrev c33x16 : Code := cR c33x15
abbrev c33x17 : Code := cL c33x16
abbrev c33x18 : Code := cL c33x17
abbrev c33x19 : Code := cL c33x15
abbrev c33x20 : Code := cL c33x4
abbrev c33x21 : Code := cL c33x3
abbrev c33x22 : Code := cL c33x2
abbrev c33x23 : Code := cL c33x1
abbrev c33x24 : Code := cL c33
abbrev r33 : K := retK CF Try.f33
def D33 (rec : RT) (n : Nat) (c : Code) (X : Nat → K) (k : K) : K := codeD CF rec 63 n c X r33 k
theorem s33a8e : D33 rec n c33x8 x0 r33 = (K0 (s33a8 rec n)) :=
  (by kernel_rfl)
theorem s33a10be (kk10 : TT3) : D33 rec n c33x12 (xs x0 2 (K0 (s33a8 rec n))) (K3 kk10 0 5 6) = (K3 (s33a10b rec n kk10) 0 5 6) :=
  (by kernel_rfl)
theorem s33a10le (m : Nat) : loopN (fun kk => D33 rec n c33x12 (xs x0 2 (K0 (s33a8 rec n))) kk) m = (K3 (s33a10l rec n m) 0 5 6) := by
  induction m with
  | zero => exact (by kernel_rfl : loopN (fun kk => D33 rec n c33x12 (xs x0 2 (K0 (s33a8 rec n))) kk) 0 = (K3 (s33a10l rec n 0) 0 5 6))
  | succ m ih =>
    refine (by kernel_rfl : loopN (fun kk => D33 rec n c33x12 (xs x0 2 (K0 (s33a8 rec n))) kk) (m + 1) = D33 rec n c33x12 (xs x0 2 (K0 (s33a8 rec n))) (loopN (fun kk => D33 rec n c33x12 (xs x0 2 (K0 (s33a8 rec n))) kk) m)).trans ?_
    rw [ih]
    exact (s33a10be rec n (s33a10l rec n m)).trans (by kernel_rfl)
theorem s33a10e : D33 rec n c33x11 (xs x0 2 (K0 (s33a8 rec n))) (K0 (s33a8 rec n)) = (K3 (s33a10 rec n) 0 5 6) :=
  (by kernel_rfl : D33 rec n c33x11 (xs x0 2 (K0 (s33a8 rec n))) (K0 (s33a8 rec n)) = loopN (fun kk => D33 rec n c33x12 (xs x0 2 (K0 (s33a8 rec n))) kk) n).trans ((s33a10le rec n n).trans (by kernel_rfl))
theorem s33a9e : D33 rec n c33x10 x0 (K0 (s33a8 rec n)) = (K3 (s33a9 rec n) 0 5 6) :=
  (by kernel_rfl : D33 rec n c33x10 x0 (K0 (s33a8 rec n)) = D33 rec n c33x11 (xs x0 2 (K0 (s33a8 rec n))) (K0 (s33a8 rec n))).trans
  ((s33a10e rec n).trans (by kernel_rfl))
theorem s33a7p1 : D33 rec n c33x7 x0 r33 = D33 rec n c33x9 x0 (K0 (s33a8 rec n)) :=
  congrArg (fun k => D33 rec n c33x9 x0 k) (s33a8e rec n)
theorem s33a7p2 : D33 rec n c33x9 x0 (K0 (s33a8 rec n)) = D33 rec n c33x13 x0 (K3 (s33a9 rec n) 0 5 6) :=
  congrArg (fun k => D33 rec n c33x13 x0 k) (s33a9e rec n)
theorem s33a7e : D33 rec n c33x7 x0 r33 = (K2 (s33a7 rec n) 0 5) :=
  (s33a7p1 rec n).trans
  ((s33a7p2 rec n).trans
  ((by kernel_rfl)))
theorem s33a6p3 : D33 rec n c33x6 x0 r33 = D33 rec n c33x14 x0 (K2 (s33a7 rec n) 0 5) :=
  congrArg (fun k => D33 rec n c33x14 x0 k) (s33a7e rec n)
theorem s33a6e : D33 rec n c33x6 x0 r33 = (K1 (s33a6 rec n) 0) :=
  (s33a6p3 rec n).trans
  ((by kernel_rfl))
theorem s33a12be (kk12 : TT3) : D33 rec n c33x18 (xs x0 0 (K1 (s33a6 rec n) 0)) (K3 kk12 0 3 4) = (K3 (s33a12b rec n kk12) 0 3 4) :=
  (by kernel_rfl)
theorem s33a12le (m : Nat) : loopN (fun kk => D33 rec n c33x18 (xs x0 0 (K1 (s33a6 rec n) 0)) kk) m = (K3 (s33a12l rec n m) 0 3 4) := by
  induction m with
  | zero => exact (by kernel_rfl : loopN (fun kk => D33 rec n c33x18 (xs x0 0 (K1 (s33a6 rec n) 0)) kk) 0 = (K3 (s33a12l rec n 0) 0 3 4))
  | succ m ih =>
    refine (by kernel_rfl : loopN (fun kk => D33 rec n c33x18 (xs x0 0 (K1 (s33a6 rec n) 0)) kk) (m + 1) = D33 rec n c33x18 (xs x0 0 (K1 (s33a6 rec n) 0)) (loopN (fun kk => D33 rec n c33x18 (xs x0 0 (K1 (s33a6 rec n) 0)) kk) m)).trans ?_
    rw [ih]
    exact (s33a12be rec n (s33a12l rec n m)).trans (by kernel_rfl)
theorem s33a12e : D33 rec n c33x17 (xs x0 0 (K1 (s33a6 rec n) 0)) (K1 (s33a6 rec n) 0) = (K3 (s33a12 rec n) 0 3 4) :=
  (by kernel_rfl : D33 rec n c33x17 (xs x0 0 (K1 (s33a6 rec n) 0)) (K1 (s33a6 rec n) 0) = loopN (fun kk => D33 rec n c33x18 (xs x0 0 (K1 (s33a6 rec n) 0)) kk) n).trans ((s33a12le rec n n).trans (by kernel_rfl))
theorem s33a11e : D33 rec n c33x16 x0 (K1 (s33a6 rec n) 0) = (K3 (s33a11 rec n) 0 3 4) :=
  (by kernel_rfl : D33 rec n c33x16 x0 (K1 (s33a6 rec n) 0) = D33 rec n c33x17 (xs x0 0 (K1 (s33a6 rec n) 0)) (K1 (s33a6 rec n) 0)).trans
  ((s33a12e rec n).trans (by kernel_rfl))
theorem s33a5p4 : D33 rec n c33x5 x0 r33 = D33 rec n c33x15 x0 (K1 (s33a6 rec n) 0) :=
  congrArg (fun k => D33 rec n c33x15 x0 k) (s33a6e rec n)
theorem s33a5p5 : D33 rec n c33x15 x0 (K1 (s33a6 rec n) 0) = D33 rec n c33x19 x0 (K3 (s33a11 rec n) 0 3 4) :=
  congrArg (fun k => D33 rec n c33x19 x0 k) (s33a11e rec n)
theorem s33a5e : D33 rec n c33x5 x0 r33 = (K2 (s33a5 rec n) 0 3) :=
  (s33a5p4 rec n).trans
  ((s33a5p5 rec n).trans
  ((by kernel_rfl)))
theorem s33a4p6 : D33 rec n c33x4 x0 r33 = D33 rec n c33x20 x0 (K2 (s33a5 rec n) 0 3) :=
  congrArg (fun k => D33 rec n c33x20 x0 k) (s33a5e rec n)
theorem s33a4e : D33 rec n c33x4 x0 r33 = (K1 (s33a4 rec n) 0) :=
  (s33a4p6 rec n).trans
  ((by kernel_rfl))
theorem s33a3p7 : D33 rec n c33x3 x0 r33 = D33 rec n c33x21 x0 (K1 (s33a4 rec n) 0) :=
  congrArg (fun k => D33 rec n c33x21 x0 k) (s33a4e rec n)
theorem s33a3e : D33 rec n c33x3 x0 r33 = (K1 (s33a3 rec n) 0) :=
  (s33a3p7 rec n).trans
  ((by kernel_rfl))
theorem s33a2p8 : D33 rec n c33x2 x0 r33 = D33 rec n c33x22 x0 (K1 (s33a3 rec n) 0) :=
  congrArg (fun k => D33 rec n c33x22 x0 k) (s33a3e rec n)
theorem s33a2e : D33 rec n c33x2 x0 r33 = (K1 (s33a2 rec n) 0) :=
  (s33a2p8 rec n).trans
  ((by kernel_rfl))
theorem s33a1p9 : D33 rec n c33x1 x0 r33 = D33 rec n c33x23 x0 (K1 (s33a2 rec n) 0) :=
  congrArg (fun k => D33 rec n c33x23 x0 k) (s33a2e rec n)
theorem s33a1e : D33 rec n c33x1 x0 r33 = (K1 (s33a1 rec n) 0) :=
  (s33a1p9 rec n).trans
  ((by kernel_rfl))
theorem s33p10 : D33 rec n c33 x0 r33 = D33 rec n c33x24 x0 (K1 (s33a1 rec n) 0) :=
  congrArg (fun k => D33 rec n c33x24 x0 k) (s33a1e rec n)
theorem s33m : D33 rec n c33 x0 r33 = (K1 (s33 rec n) 0) :=
  (s33p10 rec n).trans
  ((by kernel_rfl))
theorem s33ok (args : List DV) (h : Hp) : bodyD CF rec n 33 args h = s33 rec n (args.getD 0 undefD) h :=
  (by kernel_rfl : bodyD CF rec n 33 args h = D33 rec n c33 x0 r33 (argsE args) h).trans ((congrFun (congrFun (s33m rec n) (argsE args)) h).trans (by kernel_rfl))
/-- vivariumref06.at -/
def s34 (rec : RT) (n : Nat) (x0 x1 : DV) (h0 : Hp) : Res :=
 bnd (pLenS x0 h0) fun v1 h1 =>
 bnd (pInt .geq x1 v1 h1) fun v2 h2 =>
 ifD v2 (
 some ((.i .i64 (Int.negSucc 0)), h2)) (
 bnd (pIndexS x0 x1 h2) fun v3 h3 =>
 bnd (rec 33 [v3] h3) fun v4 h4 =>
 some (v4, h4))
abbrev c34 : Code := cf Try.f34
abbrev r34 : K := retK CF Try.f34
def D34 (rec : RT) (n : Nat) (c : Code) (X : Nat → K) (k : K) : K := codeD CF rec 13 n c X r34 k
theorem s34m : D34 rec n c34 x0 r34 = (K2 (s34 rec n) 0 1) :=
  (by kernel_rfl)
theorem s34ok (args : List DV) (h : Hp) : bodyD CF rec n 34 args h = s34 rec n (args.getD 0 undefD) (args.getD 1 undefD) h :=
  (by kernel_rfl : bodyD CF rec n 34 args h = D34 rec n c34 x0 r34 (argsE args) h).trans ((congrFun (congrFun (s34m rec n) (argsE args)) h).trans (by kernel_rfl))
def s35a2 (rec : RT) (n : Nat) (x1 : DV) (h0 : Hp) : Res :=
 some (x1, h0)
def s35a3b (rec : RT) (n : Nat) (kk3 : TT2) (x0 x1 : DV) (h0 : Hp) : Res :=
 bnd (rec 34 [x0, x1] h0) fun v1 h1 =>
 bnd (pInt .eql v1 (.i .i64 (Int.ofNat 1)) h1) fun v2 h2 =>
 bnd (gD v2 false (some (x0, h2)) h2) fun v3 h3 =>
 bnd (gD v2 false (some (x1, h3)) h3) fun v4 h4 =>
 bnd (gD v2 false (rec 34 [v3, v4] h4) h4) fun v5 h5 =>
 bnd (gD v2 false (pInt .eql v5 (.i .i64 (Int.ofNat 2)) h5) h5) fun v6 h6 =>
 bnd (pPick v2 (.b true) v6 h6) fun v7 h7 =>
 ifD v7 (
 bnd (pInt .add x1 (.i .i64 (Int.ofNat 1)) h7) fun v8 h8 =>
      kk3 x0 v8 h8) (
      s35a2 rec n x1 h7)
def s35a3l (rec : RT) (n : Nat) (m : Nat) : TT2 :=
  Nat.rec (motive := fun _ => TT2) (fun _ _ _ => none) (fun _ ih => s35a3b rec n ih) m
def s35a3 (rec : RT) (n : Nat) : TT2 := s35a3l rec n n
def s35a1 (rec : RT) (n : Nat) (x0 x1 : DV) (h0 : Hp) : Res :=
  s35a3 rec n x0 x1 h0
/-- vivariumref06.nameEnd -/
def s35 (rec : RT) (n : Nat) (x0 x1 : DV) (h0 : Hp) : Res :=
  s35a1 rec n x0 x1 h0
abbrev c35 : Code := cf Try.f35
abbrev c35x1 : Code := cR c35
abbrev c35x2 : Code := cR c35x1
abbrev c35x3 : Code := cL c35x1
abbrev c35x4 : Code := cL c35x3
abbrev c35x5 : Code := cL c35x4
abbrev c35x6 : Code := cL c35
abbrev r35 : K := retK CF Try.f35
def D35 (rec : RT) (n : Nat) (c : Code) (X : Nat → K) (k : K) : K := codeD CF rec 18 n c X r35 k
theorem s35a2e : D35 rec n c35x2 x0 r35 = (K1 (s35a2 rec n) 1) :=
  (by kernel_rfl)
theorem s35a3be (kk3 : TT2) : D35 rec n c35x5 (xs x0 0 (K1 (s35a2 rec n) 1)) (K2 kk3 0 1) = (K2 (s35a3b rec n kk3) 0 1) :=
  (by kernel_rfl)
theorem s35a3le (m : Nat) : loopN (fun kk => D35 rec n c35x5 (xs x0 0 (K1 (s35a2 rec n) 1)) kk) m = (K2 (s35a3l rec n m) 0 1) := by
  induction m with
  | zero => exact (by kernel_rfl : loopN (fun kk => D35 rec n c35x5 (xs x0 0 (K1 (s35a2 rec n) 1)) kk) 0 = (K2 (s35a3l rec n 0) 0 1))
  | succ m ih =>
    refine (by kernel_rfl : loopN (fun kk => D35 rec n c35x5 (xs x0 0 (K1 (s35a2 rec n) 1)) kk) (m + 1) = D35 rec n c35x5 (xs x0 0 (K1 (s35a2 rec n) 1)) (loopN (fun kk => D35 rec n c35x5 (xs x0 0 (K1 (s35a2 rec n) 1)) kk) m)).trans ?_
    rw [ih]
    exact (s35a3be rec n (s35a3l rec n m)).trans (by kernel_rfl)
theorem s35a3e : D35 rec n c35x4 (xs x0 0 (K1 (s35a2 rec n) 1)) (K1 (s35a2 rec n) 1) = (K2 (s35a3 rec n) 0 1) :=
  (by kernel_rfl : D35 rec n c35x4 (xs x0 0 (K1 (s35a2 rec n) 1)) (K1 (s35a2 rec n) 1) = loopN (fun kk => D35 rec n c35x5 (xs x0 0 (K1 (s35a2 rec n) 1)) kk) n).trans ((s35a3le rec n n).trans (by kernel_rfl))
theorem s35a1p1 : D35 rec n c35x1 x0 r35 = D35 rec n c35x3 x0 (K1 (s35a2 rec n) 1) :=
  congrArg (fun k => D35 rec n c35x3 x0 k) (s35a2e rec n)
theorem s35a1e : D35 rec n c35x1 x0 r35 = (K2 (s35a1 rec n) 0 1) :=
  (s35a1p1 rec n).trans
  ((by kernel_rfl : D35 rec n c35x3 x0 (K1 (s35a2 rec n) 1) = D35 rec n c35x4 (xs x0 0 (K1 (s35a2 rec n) 1)) (K1 (s35a2 rec n) 1)).trans
  ((s35a3e rec n).trans (by kernel_rfl)))
theorem s35p2 : D35 rec n c35 x0 r35 = D35 rec n c35x6 x0 (K2 (s35a1 rec n) 0 1) :=
  congrArg (fun k => D35 rec n c35x6 x0 k) (s35a1e rec n)
theorem s35m : D35 rec n c35 x0 r35 = (K2 (s35 rec n) 0 1) :=
  (s35p2 rec n).trans
  ((by kernel_rfl))
theorem s35ok (args : List DV) (h : Hp) : bodyD CF rec n 35 args h = s35 rec n (args.getD 0 undefD) (args.getD 1 undefD) h :=
  (by kernel_rfl : bodyD CF rec n 35 args h = D35 rec n c35 x0 r35 (argsE args) h).trans ((congrFun (congrFun (s35m rec n) (argsE args)) h).trans (by kernel_rfl))
/-- vivariumref06.colon -/
def s36 (rec : RT) (n : Nat) (x0 x1 : DV) (h0 : Hp) : Res :=
 bnd (pLenS x0 h0) fun v1 h1 =>
 bnd (pInt .lss x1 v1 h1) fun v2 h2 =>
 bnd (gD v2 true (some (x0, h2)) h2) fun v3 h3 =>
 bnd (gD v2 true (some (x1, h3)) h3) fun v4 h4 =>
 bnd (gD v2 true (pIndexS v3 v4 h4) h4) fun v5 h5 =>
 bnd (gD v2 true (pInt .eql v5 (.i .u8 (Int.ofNat 58)) h5) h5) fun v6 h6 =>
 bnd (pPick v2 v6 (.b false) h6) fun v7 h7 =>
 bnd (gD v7 true (some (x1, h7)) h7) fun v8 h8 =>
 bnd (gD v7 true (pInt .add v8 (.i .i64 (Int.ofNat 1)) h8) h8) fun v9 h9 =>
 bnd (gD v7 true (some (x0, h9)) h9) fun v10 h10 =>
 bnd (gD v7 true (pLenS v10 h10) h10) fun v11 h11 =>
 bnd (gD v7 true (pInt .lss v9 v11 h11) h11) fun v12 h12 =>
 bnd (gD v7 true (some (v12, h12)) h12) fun v13 h13 =>
 bnd (gD v13 true (some (x0, h13)) h13) fun v14 h14 =>
 bnd (gD v13 true (some (x1, h14)) h14) fun v15 h15 =>
 bnd (gD v13 true (pInt .add v15 (.i .i64 (Int.ofNat 1)) h15) h15) fun v16 h16 =>
 bnd (gD v13 true (pIndexS v14 v16 h16) h16) fun v17 h17 =>
 bnd (gD v13 true (pInt .eql v17 (.i .u8 (Int.ofNat 61)) h17) h17) fun v18 h18 =>
 bnd (gD v7 true (pPick v13 v18 (.b false) h18) h18) fun v19 h19 =>
 bnd (gD v7 true (pUn .not v19 h19) h19) fun v20 h20 =>
 bnd (pPick v7 v20 (.b false) h20) fun v21 h21 =>
 some (v21, h21)
abbrev c36 : Code := cf Try.f36
abbrev r36 : K := retK CF Try.f36
def D36 (rec : RT) (n : Nat) (c : Code) (X : Nat → K) (k : K) : K := codeD CF rec 30 n c X r36 k
theorem s36m : D36 rec n c36 x0 r36 = (K2 (s36 rec n) 0 1) :=
  (by kernel_rfl)
theorem s36ok (args : List DV) (h : Hp) : bodyD CF rec n 36 args h = s36 rec n (args.getD 0 undefD) (args.getD 1 undefD) h :=
  (by kernel_rfl : bodyD CF rec n 36 args h = D36 rec n c36 x0 r36 (argsE args) h).trans ((congrFun (congrFun (s36m rec n) (argsE args)) h).trans (by kernel_rfl))
def s37a3 (rec : RT) (n : Nat) (x3 x4 : DV) (h0 : Hp) : Res :=
 bnd (pLoadA 4 x3 h0) fun v1 h1 =>
 bnd (pStore 4 x4 v1 h1) fun _ h2 =>
 bnd (pLoadA 4 x4 h2) fun v3 _ =>
 some (.t [v3, (.i .i64 (Int.ofNat 0)), (.i .i64 (Int.ofNat 11))], h2)
def s37a4b (rec : RT) (n : Nat) (kk4 : TT4) (x0 x3 x4 x7 : DV) (h0 : Hp) : Res :=
 bnd (pLenS x0 h0) fun v1 h1 =>
 bnd (pInt .lss x7 v1 h1) fun v2 h2 =>
 ifD v2 (
 bnd (pIndexS x0 x7 h2) fun v3 h3 =>
 bnd (pInt .neq v3 (.i .u8 (Int.ofNat 39)) h3) fun v4 h4 =>
 ifD v4 (
 bnd (pField 1 x3 h4) fun v5 h5 =>
 bnd (pLoad1 v5 h5) fun v6 h6 =>
 bnd (pInt .add x7 (.i .i64 (Int.ofNat 1)) h6) fun v7 h7 =>
 bnd (pSliceS x0 (some x7) (some v7) h7) fun v8 h8 =>
 bnd (pStr .add v6 v8 h8) fun v9 h9 =>
 bnd (pField 1 x3 h9) fun v10 h10 =>
 bnd (pStore 1 v10 v9 h10) fun v11 h11 =>
 bnd (pInt .add x7 (.i .i64 (Int.ofNat 1)) h11) fun v12 h12 =>
        kk4 x0 x3 x4 v12 h12) (
 bnd (pInt .add x7 (.i .i64 (Int.ofNat 1)) h4) fun v13 h13 =>
 bnd (pLenS x0 h13) fun v14 h14 =>
 bnd (pInt .lss v13 v14 h14) fun v15 h15 =>
 bnd (gD v15 true (some (x0, h15)) h15) fun v16 h16 =>
 bnd (gD v15 true (some (x7, h16)) h16) fun v17 h17 =>
 bnd (gD v15 true (pInt .add v17 (.i .i64 (Int.ofNat 1)) h17) h17) fun v18 h18 =>
 bnd (gD v15 true (pIndexS v16 v18 h18) h18) fun v19 h19 =>
 bnd (gD v15 true (pInt .eql v19 (.i .u8 (Int.ofNat 39)) h19) h19) fun v20 h20 =>
 bnd (pPick v15 v20 (.b false) h20) fun v21 h21 =>
 ifD v21 (
 bnd (pField 1 x3 h21) fun v22 h22 =>
 bnd (pLoad1 v22 h22) fun v23 h23 =>
 bnd (pStr .add v23 (.s [39]) h23) fun v24 h24 =>
 bnd (pField 1 x3 h24) fun v25 h25 =>
 bnd (pStore 1 v25 v24 h25) fun _ h26 =>
 bnd (pInt .add x7 (.i .i64 (Int.ofNat 2)) h26) fun v27 h27 =>
          kk4 x0 x3 x4 v27 h27) (
 bnd (pLoadA 4 x3 h21) fun v28 h28 =>
 bnd (pInt .add x7 (.i .i64 (Int.ofNat 1)) h28) fun v29 h29 =>
 bnd (pStore 4 x4 v28 h29) fun _ h30 =>
 bnd (pLoadA 4 x4 h30) fun v31 _ =>
 some (.t [v31, v29, (.i .i64 (Int.ofNat 0))], h30)))) (
      s37a3 rec n x3 x4 h2)
def s37a4l (rec : RT) (n : Nat) (m : Nat) : TT4 :=
  Nat.rec (motive := fun _ => TT4) (fun _ _ _ _ _ => none) (fun _ ih => s37a4b rec n ih) m
def s37a4 (rec : RT) (n : Nat) : TT4 := s37a4l rec n n
def s37a2 (rec : RT) (n : Nat) (x0 x3 x4 x7 : DV) (h0 : Hp) : Res :=
  s37a4 rec n x0 x3 x4 x7 h0
def s37a1 (rec : RT) (n : Nat) (x0 x3 x4 : DV) (h0 : Hp) : Res :=
 bnd (pField 3 x3 h0) fun v1 h1 =>
 bnd (pLoad1 v1 h1) fun v2 h2 =>
 bnd (pInt .add v2 (.i .i64 (Int.ofNat 1)) h2) fun v3 h3 =>
  s37a2 rec n x0 x3 x4 v3 h3
/-- vivariumref06.text -/
def s37 (rec : RT) (n : Nat) (x0 x1 : DV) (h0 : Hp) : Res :=
 bnd (pBox x1 h0) fun v1 h1 =>
 bnd (pNew [(.i .i64 (Int.ofNat 0)), (.s []), (.i .i64 (Int.ofNat 0)), (.i .i64 (Int.ofNat 0))] h1) fun v2 h2 =>
  s37a1 rec n x0 v1 v2 h2
abbrev c37 : Code := cf Try.f37
abbrev c37x1 : Code := cR c37
abbrev c37x2 : Code := cR c37x1
abbrev c37x3 : Code := cR c37x2
abbrev c37x4 : Code := cL c37x2
abbrev c37x5 : Code := cL c37x4
abbrev c37x6 : Code := cL c37x5
abbrev c37x7 : Code := cL c37x1
abbrev c37x8 : Code := cL c37
abbrev r37 : K := retK CF Try.f37
def D37 (rec : RT) (n : Nat) (c : Code) (X : Nat → K) (k : K) : K := codeD CF rec 52 n c X r37 k
theorem s37a3e : D37 rec n c37x3 x0 r37 = (K2 (s37a3 rec n) 3 4) :=
  (by kernel_rfl)
theorem s37a4be (kk4 : TT4) : D37 rec n c37x6 (xs x0 0 (K2 (s37a3 rec n) 3 4)) (K4 kk4 0 3 4 7) = (K4 (s37a4b rec n kk4) 0 3 4 7) :=
  (by kernel_rfl)
theorem s37a4le (m : Nat) : loopN (fun kk => D37 rec n c37x6 (xs x0 0 (K2 (s37a3 rec n) 3 4)) kk) m = (K4 (s37a4l rec n m) 0 3 4 7) := by
  induction m with
  | zero => exact (by kernel_rfl : loopN (fun kk => D37 rec n c37x6 (xs x0 0 (K2 (s37a3 rec n) 3 4)) kk) 0 = (K4 (s37a4l rec n 0) 0 3 4 7))
  | succ m ih =>
    refine (by kernel_rfl : loopN (fun kk => D37 rec n c37x6 (xs x0 0 (K2 (s37a3 rec n) 3 4)) kk) (m + 1) = D37 rec n c37x6 (xs x0 0 (K2 (s37a3 rec n) 3 4)) (loopN (fun kk => D37 rec n c37x6 (xs x0 0 (K2 (s37a3 rec n) 3 4)) kk) m)).trans ?_
    rw [ih]
    exact (s37a4be rec n (s37a4l rec n m)).trans (by kernel_rfl)
theorem s37a4e : D37 rec n c37x5 (xs x0 0 (K2 (s37a3 rec n) 3 4)) (K2 (s37a3 rec n) 3 4) = (K4 (s37a4 rec n) 0 3 4 7) :=
  (by kernel_rfl : D37 rec n c37x5 (xs x0 0 (K2 (s37a3 rec n) 3 4)) (K2 (s37a3 rec n) 3 4) = loopN (fun kk => D37 rec n c37x6 (xs x0 0 (K2 (s37a3 rec n) 3 4)) kk) n).trans ((s37a4le rec n n).trans (by kernel_rfl))
theorem s37a2p1 : D37 rec n c37x2 x0 r37 = D37 rec n c37x4 x0 (K2 (s37a3 rec n) 3 4) :=
  congrArg (fun k => D37 rec n c37x4 x0 k) (s37a3e rec n)
theorem s37a2e : D37 rec n c37x2 x0 r37 = (K4 (s37a2 rec n) 0 3 4 7) :=
  (s37a2p1 rec n).trans
  ((by kernel_rfl : D37 rec n c37x4 x0 (K2 (s37a3 rec n) 3 4) = D37 rec n c37x5 (xs x0 0 (K2 (s37a3 rec n) 3 4)) (K2 (s37a3 rec n) 3 4)).trans
  ((s37a4e rec n).trans (by kernel_rfl)))
theorem s37a1p2 : D37 rec n c37x1 x0 r37 = D37 rec n c37x7 x0 (K4 (s37a2 rec n) 0 3 4 7) :=
  congrArg (fun k => D37 rec n c37x7 x0 k) (s37a2e rec n)
theorem s37a1e : D37 rec n c37x1 x0 r37 = (K3 (s37a1 rec n) 0 3 4) :=
  (s37a1p2 rec n).trans
  ((by kernel_rfl))
theorem s37p3 : D37 rec n c37 x0 r37 = D37 rec n c37x8 x0 (K3 (s37a1 rec n) 0 3 4) :=
  congrArg (fun k => D37 rec n c37x8 x0 k) (s37a1e rec n)
theorem s37q4 (q0 : TT3) : D37 rec n c37x8 x0 (K3 q0 0 3 4) = fun (env : Env) (h : Hp) =>
 bnd (pBox (env 1) h) fun v1 h1 =>
 bnd (pNew [(.i .i64 (Int.ofNat 0)), (.s []), (.i .i64 (Int.ofNat 0)), (.i .i64 (Int.ofNat 0))] h1) fun v2 h2 =>
    q0 (env 0) v1 v2 h2 := by kernel_rfl
theorem s37q4u : (fun (env : Env) (h : Hp) =>
 bnd (pBox (env 1) h) fun v1 h1 =>
 bnd (pNew [(.i .i64 (Int.ofNat 0)), (.s []), (.i .i64 (Int.ofNat 0)), (.i .i64 (Int.ofNat 0))] h1) fun v2 h2 =>
    s37a1 rec n (env 0) v1 v2 h2) = (K2 (s37 rec n) 0 1) := by kernel_rfl
theorem s37m : D37 rec n c37 x0 r37 = (K2 (s37 rec n) 0 1) :=
  (s37p3 rec n).trans
  ((s37q4 rec n (s37a1 rec n)).trans (s37q4u rec n))
theorem s37ok (args : List DV) (h : Hp) : bodyD CF rec n 37 args h = s37 rec n (args.getD 0 undefD) (args.getD 1 undefD) h :=
  (by kernel_rfl : bodyD CF rec n 37 args h = D37 rec n c37 x0 r37 (argsE args) h).trans ((congrFun (congrFun (s37m rec n) (argsE args)) h).trans (by kernel_rfl))

end
end Go.Dd

/- Dd, part Q3 (printed by gen.py): functions of the seat's program as Lean functions, linked to Dd. -/
set_option linter.unusedVariables false
set_option maxRecDepth 100000
namespace Go.Dd
open Go.Proofs
noncomputable section

variable (rec : RT) (n : Nat)
def s38a9 (rec : RT) (n : Nat) (x0 x3 x4 x7 x9 : DV) (h0 : Hp) : Res :=
 bnd (pSliceS x0 (some x7) (some x9) h0) fun v1 h1 =>
 bnd (pField 1 x3 h1) fun v2 h2 =>
 bnd (pStore 1 v2 v1 h2) fun _ h3 =>
 bnd (pLoadA 4 x3 h3) fun v4 h4 =>
 bnd (pStore 4 x4 v4 h4) fun _ h5 =>
 bnd (pLoadA 4 x4 h5) fun v6 _ =>
 some (.t [v6, x9, (.i .i64 (Int.ofNat 0))], h5)
def s38a10b (rec : RT) (n : Nat) (kk10 : TT5) (x0 x3 x4 x7 x9 : DV) (h0 : Hp) : Res :=
 bnd (rec 36 [x0, x9] h0) fun v1 h1 =>
 ifD v1 (
 bnd (pInt .add x9 (.i .i64 (Int.ofNat 1)) h1) fun v2 h2 =>
 bnd (rec 34 [x0, v2] h2) fun v3 h3 =>
 bnd (pInt .neq v3 (.i .i64 (Int.ofNat 1)) h3) fun v4 h4 =>
 ifD v4 (
        s38a9 rec n x0 x3 x4 x7 v2 h4) (
 bnd (rec 35 [x0, v2] h4) fun v5 h5 =>
 bnd (rec 36 [x0, v5] h5) fun v6 h6 =>
 bnd (pUn .not v6 h6) fun v7 h7 =>
 ifD v7 (
          s38a9 rec n x0 x3 x4 x7 v2 h7) (
 bnd (pInt .sub v5 v2 h7) fun v8 h8 =>
 bnd (pInt .gtr v8 (.i .i64 (Int.ofNat 24)) h8) fun v9 h9 =>
 ifD v9 (
 bnd (pLoadA 4 x3 h9) fun v10 h10 =>
 bnd (pStore 4 x4 v10 h10) fun _ h11 =>
 bnd (pLoadA 4 x4 h11) fun v12 _ =>
 some (.t [v12, (.i .i64 (Int.ofNat 0)), (.i .i64 (Int.ofNat 12))], h11)) (
            kk10 x0 x3 x4 x7 v5 h9)))) (
      s38a9 rec n x0 x3 x4 x7 x9 h1)
def s38a10l (rec : RT) (n : Nat) (m : Nat) : TT5 :=
  Nat.rec (motive := fun _ => TT5) (fun _ _ _ _ _ _ => none) (fun _ ih => s38a10b rec n ih) m
def s38a10 (rec : RT) (n : Nat) : TT5 := s38a10l rec n n
def s38a8 (rec : RT) (n : Nat) (x0 x3 x4 x7 x9 : DV) (h0 : Hp) : Res :=
  s38a10 rec n x0 x3 x4 x7 x9 h0
def s38a7 (rec : RT) (n : Nat) (x0 x3 x4 x7 x9 : DV) (h0 : Hp) : Res :=
 bnd (pInt .sub x9 x7 h0) fun v1 h1 =>
 bnd (pInt .gtr v1 (.i .i64 (Int.ofNat 24)) h1) fun v2 h2 =>
 ifD v2 (
 bnd (pLoadA 4 x3 h2) fun v3 h3 =>
 bnd (pStore 4 x4 v3 h3) fun _ h4 =>
 bnd (pLoadA 4 x4 h4) fun v5 _ =>
 some (.t [v5, (.i .i64 (Int.ofNat 0)), (.i .i64 (Int.ofNat 12))], h4)) (
    s38a8 rec n x0 x3 x4 x7 x9 h2)
def s38a6 (rec : RT) (n : Nat) (x0 x3 x4 x7 : DV) (h0 : Hp) : Res :=
 bnd (rec 35 [x0, x7] h0) fun v1 h1 =>
  s38a7 rec n x0 x3 x4 x7 v1 h1
def s38a5 (rec : RT) (n : Nat) (x0 x3 x4 x7 : DV) (h0 : Hp) : Res :=
 bnd (rec 34 [x0, x7] h0) fun v1 h1 =>
 bnd (pInt .neq v1 (.i .i64 (Int.ofNat 1)) h1) fun v2 h2 =>
 ifD v2 (
 bnd (pLoadA 4 x3 h2) fun v3 h3 =>
 bnd (pStore 4 x4 v3 h3) fun _ h4 =>
 bnd (pLoadA 4 x4 h4) fun v5 _ =>
 some (.t [v5, (.i .i64 (Int.ofNat 0)), (.i .i64 (Int.ofNat 10))], h4)) (
    s38a6 rec n x0 x3 x4 x7 h2)
def s38a14 (rec : RT) (n : Nat) (x0 x3 x4 x7 x8 : DV) (h0 : Hp) : Res :=
 bnd (pSliceS x0 (some x7) (some x8) h0) fun v1 h1 =>
 bnd (pField 1 x3 h1) fun v2 h2 =>
 bnd (pStore 1 v2 v1 h2) fun _ h3 =>
 bnd (pLoadA 4 x3 h3) fun v4 h4 =>
 bnd (pStore 4 x4 v4 h4) fun _ h5 =>
 bnd (pLoadA 4 x4 h5) fun v6 _ =>
 some (.t [v6, x8, (.i .i64 (Int.ofNat 0))], h5)
def s38a13 (rec : RT) (n : Nat) (x0 x3 x4 x7 x8 : DV) (h0 : Hp) : Res :=
 bnd (rec 34 [x0, x8] h0) fun v1 h1 =>
 bnd (pInt .eql v1 (.i .i64 (Int.ofNat 3)) h1) fun v2 h2 =>
 ifD v2 (
 bnd (pInt .add x8 (.i .i64 (Int.ofNat 1)) h2) fun v3 h3 =>
    s38a14 rec n x0 x3 x4 x7 v3 h3) (
    s38a14 rec n x0 x3 x4 x7 x8 h2)
def s38a12 (rec : RT) (n : Nat) (x0 x3 x4 x7 : DV) (h0 : Hp) : Res :=
 bnd (pInt .add x7 (.i .i64 (Int.ofNat 1)) h0) fun v1 h1 =>
  s38a13 rec n x0 x3 x4 x7 v1 h1
def s38a11 (rec : RT) (n : Nat) (x0 x3 x4 x7 x32 : DV) (h0 : Hp) : Res :=
 ifD x32 (
    s38a12 rec n x0 x3 x4 x7 h0) (
    s38a5 rec n x0 x3 x4 x7 h0)
def s38a4 (rec : RT) (n : Nat) (x0 x3 x4 x7 : DV) (h0 : Hp) : Res :=
 bnd (rec 34 [x0, x7] h0) fun v1 h1 =>
 bnd (pInt .eql v1 (.i .i64 (Int.ofNat 3)) h1) fun v2 h2 =>
  s38a11 rec n x0 x3 x4 x7 v2 h2
def s38a3 (rec : RT) (n : Nat) (x0 x3 x4 x7 : DV) (h0 : Hp) : Res :=
 bnd (pField 0 x3 h0) fun v1 h1 =>
 bnd (pStore 1 v1 (.i .i64 (Int.ofNat 6)) h1) fun _ h2 =>
  s38a4 rec n x0 x3 x4 x7 h2
def s38a2 (rec : RT) (n : Nat) (x0 x3 x4 x7 : DV) (h0 : Hp) : Res :=
 bnd (pLenS x0 h0) fun v1 h1 =>
 bnd (pInt .lss x7 v1 h1) fun v2 h2 =>
 bnd (gD v2 true (some (x0, h2)) h2) fun v3 h3 =>
 bnd (gD v2 true (some (x7, h3)) h3) fun v4 h4 =>
 bnd (gD v2 true (pIndexS v3 v4 h4) h4) fun v5 h5 =>
 bnd (gD v2 true (pInt .eql v5 (.i .u8 (Int.ofNat 40)) h5) h5) fun v6 h6 =>
 bnd (pPick v2 v6 (.b false) h6) fun v7 h7 =>
 ifD v7 (
 bnd (pField 0 x3 h7) fun v8 h8 =>
 bnd (pStore 1 v8 (.i .i64 (Int.ofNat 7)) h8) fun _ h9 =>
 bnd (pLoadA 4 x3 h9) fun v10 h10 =>
 bnd (pInt .add x7 (.i .i64 (Int.ofNat 1)) h10) fun v11 h11 =>
 bnd (pStore 4 x4 v10 h11) fun _ h12 =>
 bnd (pLoadA 4 x4 h12) fun v13 _ =>
 some (.t [v13, v11, (.i .i64 (Int.ofNat 0))], h12)) (
    s38a3 rec n x0 x3 x4 x7 h7)
def s38a1 (rec : RT) (n : Nat) (x0 x3 x4 : DV) (h0 : Hp) : Res :=
 bnd (pField 3 x3 h0) fun v1 h1 =>
 bnd (pLoad1 v1 h1) fun v2 h2 =>
 bnd (pInt .add v2 (.i .i64 (Int.ofNat 1)) h2) fun v3 h3 =>
  s38a2 rec n x0 x3 x4 v3 h3
/-- vivariumref06.symbol -/
def s38 (rec : RT) (n : Nat) (x0 x1 : DV) (h0 : Hp) : Res :=
 bnd (pBox x1 h0) fun v1 h1 =>
 bnd (pNew [(.i .i64 (Int.ofNat 0)), (.s []), (.i .i64 (Int.ofNat 0)), (.i .i64 (Int.ofNat 0))] h1) fun v2 h2 =>
  s38a1 rec n x0 v1 v2 h2
abbrev c38 : Code := cf Try.f38
abbrev c38x1 : Code := cR c38
abbrev c38x2 : Code := cR c38x1
abbrev c38x3 : Code := cR c38x2
abbrev c38x4 : Code := cR c38x3
abbrev c38x5 : Code := cR c38x4
abbrev c38x6 : Code := cR c38x5
abbrev c38x7 : Code := cR c38x6
abbrev c38x8 : Code := cR c38x7
abbrev c38x9 : Code := cR c38x8
abbrev c38x10 : Code := cL c38x8
abbrev c38x11 : Code := cL c38x10
abbrev c38x12 : Code := cL c38x11
abbrev c38x13 : Code := cL c38x7
abbrev c38x14 : Code := cL c38x6
abbrev c38x15 : Code := cL c38x5
abbrev c38x16 : Code := cL c38x4
abbrev c38x17 : Code := cR c38x16
abbrev c38x18 : Code := cL c38x17
abbrev c38x19 : Code := cR c38x18
abbrev c38x20 : Code := cR c38x19
abbrev c38x21 : Code := cL c38x19
abbrev c38x22 : Code := cL c38x18
abbrev c38x23 : Code := cR c38x17
abbrev c38x24 : Code := cL c38x16
abbrev c38x25 : Code := cL c38x3
abbrev c38x26 : Code := cL c38x2
abbrev c38x27 : Code := cL c38x1
abbrev c38x28 : Code := cL c38
abbrev r38 : K := retK CF Try.f38
def D38 (rec : RT) (n : Nat) (c : Code) (X : Nat → K) (k : K) : K := codeD CF rec 90 n c X r38 k
theorem s38a9e : D38 rec n c38x9 x0 r38 = (K5 (s38a9 rec n) 0 3 4 7 9) :=
  (by kernel_rfl)
theorem s38a10be (kk10 : TT5) : D38 rec n c38x12 (xs x0 0 (K5 (s38a9 rec n) 0 3 4 7 9)) (K5 kk10 0 3 4 7 9) = (K5 (s38a10b rec n kk10) 0 3 4 7 9) :=
  (by kernel_rfl)
theorem s38a10le (m : Nat) : loopN (fun kk => D38 rec n c38x12 (xs x0 0 (K5 (s38a9 rec n) 0 3 4 7 9)) kk) m = (K5 (s38a10l rec n m) 0 3 4 7 9) := by
  induction m with
  | zero => exact (by kernel_rfl : loopN (fun kk => D38 rec n c38x12 (xs x0 0 (K5 (s38a9 rec n) 0 3 4 7 9)) kk) 0 = (K5 (s38a10l rec n 0) 0 3 4 7 9))
  | succ m ih =>
    refine (by kernel_rfl : loopN (fun kk => D38 rec n c38x12 (xs x0 0 (K5 (s38a9 rec n) 0 3 4 7 9)) kk) (m + 1) = D38 rec n c38x12 (xs x0 0 (K5 (s38a9 rec n) 0 3 4 7 9)) (loopN (fun kk => D38 rec n c38x12 (xs x0 0 (K5 (s38a9 rec n) 0 3 4 7 9)) kk) m)).trans ?_
    rw [ih]
    exact (s38a10be rec n (s38a10l rec n m)).trans (by kernel_rfl)
theorem s38a10e : D38 rec n c38x11 (xs x0 0 (K5 (s38a9 rec n) 0 3 4 7 9)) (K5 (s38a9 rec n) 0 3 4 7 9) = (K5 (s38a10 rec n) 0 3 4 7 9) :=
  (by kernel_rfl : D38 rec n c38x11 (xs x0 0 (K5 (s38a9 rec n) 0 3 4 7 9)) (K5 (s38a9 rec n) 0 3 4 7 9) = loopN (fun kk => D38 rec n c38x12 (xs x0 0 (K5 (s38a9 rec n) 0 3 4 7 9)) kk) n).trans ((s38a10le rec n n).trans (by kernel_rfl))
theorem s38a8p1 : D38 rec n c38x8 x0 r38 = D38 rec n c38x10 x0 (K5 (s38a9 rec n) 0 3 4 7 9) :=
  congrArg (fun k => D38 rec n c38x10 x0 k) (s38a9e rec n)
theorem s38a8e : D38 rec n c38x8 x0 r38 = (K5 (s38a8 rec n) 0 3 4 7 9) :=
  (s38a8p1 rec n).trans
  ((by kernel_rfl : D38 rec n c38x10 x0 (K5 (s38a9 rec n) 0 3 4 7 9) = D38 rec n c38x11 (xs x0 0 (K5 (s38a9 rec n) 0 3 4 7 9)) (K5 (s38a9 rec n) 0 3 4 7 9)).trans
  ((s38a10e rec n).trans (by kernel_rfl)))
theorem s38a7p2 : D38 rec n c38x7 x0 r38 = D38 rec n c38x13 x0 (K5 (s38a8 rec n) 0 3 4 7 9) :=
  congrArg (fun k => D38 rec n c38x13 x0 k) (s38a8e rec n)
theorem s38a7e : D38 rec n c38x7 x0 r38 = (K5 (s38a7 rec n) 0 3 4 7 9) :=
  (s38a7p2 rec n).trans
  ((by kernel_rfl))
theorem s38a6p3 : D38 rec n c38x6 x0 r38 = D38 rec n c38x14 x0 (K5 (s38a7 rec n) 0 3 4 7 9) :=
  congrArg (fun k => D38 rec n c38x14 x0 k) (s38a7e rec n)
theorem s38a6e : D38 rec n c38x6 x0 r38 = (K4 (s38a6 rec n) 0 3 4 7) :=
  (s38a6p3 rec n).trans
  ((by kernel_rfl))
theorem s38a5p4 : D38 rec n c38x5 x0 r38 = D38 rec n c38x15 x0 (K4 (s38a6 rec n) 0 3 4 7) :=
  congrArg (fun k => D38 rec n c38x15 x0 k) (s38a6e rec n)
theorem s38a5e : D38 rec n c38x5 x0 r38 = (K4 (s38a5 rec n) 0 3 4 7) :=
  (s38a5p4 rec n).trans
  ((by kernel_rfl))
theorem s38a14e : D38 rec n c38x20 x0 (K4 (s38a5 rec n) 0 3 4 7) = (K5 (s38a14 rec n) 0 3 4 7 8) :=
  (by kernel_rfl)
theorem s38a13p5 : D38 rec n c38x19 x0 (K4 (s38a5 rec n) 0 3 4 7) = D38 rec n c38x21 x0 (K5 (s38a14 rec n) 0 3 4 7 8) :=
  congrArg (fun k => D38 rec n c38x21 x0 k) (s38a14e rec n)
theorem s38a13e : D38 rec n c38x19 x0 (K4 (s38a5 rec n) 0 3 4 7) = (K5 (s38a13 rec n) 0 3 4 7 8) :=
  (s38a13p5 rec n).trans
  ((by kernel_rfl))
theorem s38a12p6 : D38 rec n c38x18 x0 (K4 (s38a5 rec n) 0 3 4 7) = D38 rec n c38x22 x0 (K5 (s38a13 rec n) 0 3 4 7 8) :=
  congrArg (fun k => D38 rec n c38x22 x0 k) (s38a13e rec n)
theorem s38a12e : D38 rec n c38x18 x0 (K4 (s38a5 rec n) 0 3 4 7) = (K4 (s38a12 rec n) 0 3 4 7) :=
  (s38a12p6 rec n).trans
  ((by kernel_rfl))
theorem s38a11e : D38 rec n c38x17 x0 (K4 (s38a5 rec n) 0 3 4 7) = (K5 (s38a11 rec n) 0 3 4 7 32) :=
  (by kernel_rfl : D38 rec n c38x17 x0 (K4 (s38a5 rec n) 0 3 4 7) = (fun (env : Env) (h : Hp) => ifD (opr env (cC c38x17)) (D38 rec n c38x18 x0 (K4 (s38a5 rec n) 0 3 4 7) env h) (D38 rec n c38x23 x0 (K4 (s38a5 rec n) 0 3 4 7) env h))).trans (by rw [s38a12e rec n]; kernel_rfl)
theorem s38a4p7 : D38 rec n c38x4 x0 r38 = D38 rec n c38x16 x0 (K4 (s38a5 rec n) 0 3 4 7) :=
  congrArg (fun k => D38 rec n c38x16 x0 k) (s38a5e rec n)
theorem s38a4p8 : D38 rec n c38x16 x0 (K4 (s38a5 rec n) 0 3 4 7) = D38 rec n c38x24 x0 (K5 (s38a11 rec n) 0 3 4 7 32) :=
  congrArg (fun k => D38 rec n c38x24 x0 k) (s38a11e rec n)
theorem s38a4e : D38 rec n c38x4 x0 r38 = (K4 (s38a4 rec n) 0 3 4 7) :=
  (s38a4p7 rec n).trans
  ((s38a4p8 rec n).trans
  ((by kernel_rfl)))
theorem s38a3p9 : D38 rec n c38x3 x0 r38 = D38 rec n c38x25 x0 (K4 (s38a4 rec n) 0 3 4 7) :=
  congrArg (fun k => D38 rec n c38x25 x0 k) (s38a4e rec n)
theorem s38a3e : D38 rec n c38x3 x0 r38 = (K4 (s38a3 rec n) 0 3 4 7) :=
  (s38a3p9 rec n).trans
  ((by kernel_rfl))
theorem s38a2p10 : D38 rec n c38x2 x0 r38 = D38 rec n c38x26 x0 (K4 (s38a3 rec n) 0 3 4 7) :=
  congrArg (fun k => D38 rec n c38x26 x0 k) (s38a3e rec n)
theorem s38a2e : D38 rec n c38x2 x0 r38 = (K4 (s38a2 rec n) 0 3 4 7) :=
  (s38a2p10 rec n).trans
  ((by kernel_rfl))
theorem s38a1p11 : D38 rec n c38x1 x0 r38 = D38 rec n c38x27 x0 (K4 (s38a2 rec n) 0 3 4 7) :=
  congrArg (fun k => D38 rec n c38x27 x0 k) (s38a2e rec n)
theorem s38a1e : D38 rec n c38x1 x0 r38 = (K3 (s38a1 rec n) 0 3 4) :=
  (s38a1p11 rec n).trans
  ((by kernel_rfl))
theorem s38p12 : D38 rec n c38 x0 r38 = D38 rec n c38x28 x0 (K3 (s38a1 rec n) 0 3 4) :=
  congrArg (fun k => D38 rec n c38x28 x0 k) (s38a1e rec n)
theorem s38q13 (q0 : TT3) : D38 rec n c38x28 x0 (K3 q0 0 3 4) = fun (env : Env) (h : Hp) =>
 bnd (pBox (env 1) h) fun v1 h1 =>
 bnd (pNew [(.i .i64 (Int.ofNat 0)), (.s []), (.i .i64 (Int.ofNat 0)), (.i .i64 (Int.ofNat 0))] h1) fun v2 h2 =>
    q0 (env 0) v1 v2 h2 := by kernel_rfl
theorem s38q13u : (fun (env : Env) (h : Hp) =>
 bnd (pBox (env 1) h) fun v1 h1 =>
 bnd (pNew [(.i .i64 (Int.ofNat 0)), (.s []), (.i .i64 (Int.ofNat 0)), (.i .i64 (Int.ofNat 0))] h1) fun v2 h2 =>
    s38a1 rec n (env 0) v1 v2 h2) = (K2 (s38 rec n) 0 1) := by kernel_rfl
theorem s38m : D38 rec n c38 x0 r38 = (K2 (s38 rec n) 0 1) :=
  (s38p12 rec n).trans
  ((s38q13 rec n (s38a1 rec n)).trans (s38q13u rec n))
theorem s38ok (args : List DV) (h : Hp) : bodyD CF rec n 38 args h = s38 rec n (args.getD 0 undefD) (args.getD 1 undefD) h :=
  (by kernel_rfl : bodyD CF rec n 38 args h = D38 rec n c38 x0 r38 (argsE args) h).trans ((congrFun (congrFun (s38m rec n) (argsE args)) h).trans (by kernel_rfl))
def s39a6b (rec : RT) (n : Nat) (kk6 : TT3) (x0 x1 x4 : DV) (h0 : Hp) : Res :=
 bnd (gD x4 false (some (x0, h0)) h0) fun v1 h1 =>
 bnd (gD x4 false (rec 51 [v1, (.i .i64 (Int.ofNat 2)), (.s [])] h1) h1) fun v2 h2 =>
 bnd (pPick x4 (.b true) v2 h2) fun v3 h3 =>
 ifD v3 (
 bnd (pNil x1 h3) fun v4 h4 =>
 bnd (pField 1 v4 h4) fun v5 h5 =>
 bnd (pLoad1 v5 h5) fun v6 h6 =>
 bnd (rec 32 [x0, (.i .i64 (Int.ofNat 2)), (.s [])] h6) fun v7 h7 =>
 cnd (sameR (pLoad1 v5 h7) v6 && true) (
 bnd (pPart1 1 v7 h7) fun v8 h8 =>
 bnd (pStr .add v6 v8 h8) fun v9 h9 =>
 bnd (pNil x1 h9) fun v10 h10 =>
 bnd (pField 1 v10 h10) fun v11 h11 =>
 bnd (pStore 1 v11 v9 h11) fun v12 h12 =>
 bnd (pNil x1 (resv 1 h12)) fun v13 h13 =>
 bnd (pField 3 v13 h13) fun v14 h14 =>
 bnd (pLoad1 v14 h14) fun v15 h15 =>
 bnd (pNil x1 h15) fun v16 h16 =>
 bnd (pField 3 v16 h16) fun v17 h17 =>
 bnd (pLoad1 v17 h17) fun v18 h18 =>
 bnd (rec 56 [x0, (.i .i64 (Int.ofNat 1)), v18] h18) fun v19 h19 =>
 cnd (sameR (pLoad1 v14 h19) v15 && true) (
 bnd (pBuildSliceAt (nthPos 0 h12.next) [(.s [])] 1 [(0, 1, v19)] h19) fun v20 h20 =>
 bnd (pAppend 1 16 v15 v20 h20) fun v21 h21 =>
 bnd (pNil x1 h21) fun v22 h22 =>
 bnd (pField 3 v22 h22) fun v23 h23 =>
 bnd (pStore 1 v23 v21 h23) fun v24 h24 =>
      kk6 x0 x1 (.b false) h24))) (
 some (.t [], h3))
def s39a6l (rec : RT) (n : Nat) (m : Nat) : TT3 :=
  Nat.rec (motive := fun _ => TT3) (fun _ _ _ _ => none) (fun _ ih => s39a6b rec n ih) m
def s39a6 (rec : RT) (n : Nat) : TT3 := s39a6l rec n n
def s39a5 (rec : RT) (n : Nat) (x0 x1 x4 : DV) (h0 : Hp) : Res :=
  s39a6 rec n x0 x1 x4 h0
def s39a4 (rec : RT) (n : Nat) (x0 x1 : DV) (h0 : Hp) : Res :=
  s39a5 rec n x0 x1 (.b true) h0
def s39a3 (rec : RT) (n : Nat) (x0 x1 x44 : DV) (h0 : Hp) : Res :=
 ifD x44 (
 bnd (rec 52 [x0] h0) fun v1 h1 =>
 bnd (pPart1 1 v1 h1) fun v2 h2 =>
 bnd (pNil x1 h2) fun v3 h3 =>
 bnd (pField 1 v3 h3) fun v4 h4 =>
 bnd (pStore 1 v4 v2 h4) fun _ h5 =>
 bnd (pNil x1 (resv 1 h5)) fun v6 h6 =>
 bnd (pField 3 v6 h6) fun v7 h7 =>
 bnd (pLoad1 v7 h7) fun v8 h8 =>
 bnd (pNil x1 h8) fun v9 h9 =>
 bnd (pField 3 v9 h9) fun v10 h10 =>
 bnd (pLoad1 v10 h10) fun v11 h11 =>
 bnd (rec 56 [x0, (.i .i64 (Int.ofNat 1)), v11] h11) fun v12 h12 =>
 cnd (sameR (pLoad1 v7 h12) v8 && true) (
 bnd (pBuildSliceAt (nthPos 0 h5.next) [(.s [])] 1 [(0, 1, v12)] h12) fun v13 h13 =>
 bnd (pAppend 1 16 v8 v13 h13) fun v14 h14 =>
 bnd (pNil x1 h14) fun v15 h15 =>
 bnd (pField 3 v15 h15) fun v16 h16 =>
 bnd (pStore 1 v16 v14 h16) fun v17 h17 =>
 some (.t [], h17))) (
    s39a4 rec n x0 x1 h0)
def s39a2 (rec : RT) (n : Nat) (x0 x1 : DV) (h0 : Hp) : Res :=
 bnd (rec 51 [x0, (.i .i64 (Int.ofNat 3)), (.s [])] h0) fun v1 h1 =>
  s39a3 rec n x0 x1 v1 h1
def s39a1 (rec : RT) (n : Nat) (x0 x1 x35 : DV) (h0 : Hp) : Res :=
 ifD x35 (
 bnd (rec 52 [x0] h0) fun v1 h1 =>
 bnd (pPart1 1 v1 h1) fun v2 h2 =>
 bnd (pNil x1 h2) fun v3 h3 =>
 bnd (pField 1 v3 h3) fun v4 h4 =>
 bnd (pStore 1 v4 v2 h4) fun _ h5 =>
 some (.t [], h5)) (
    s39a2 rec n x0 x1 h0)
/-- parse.parser).pattern -/
def s39 (rec : RT) (n : Nat) (x0 x1 : DV) (h0 : Hp) : Res :=
 bnd (rec 51 [x0, (.i .i64 (Int.ofNat 1)), (.s [])] h0) fun v1 h1 =>
  s39a1 rec n x0 x1 v1 h1
abbrev c39 : Code := cf Try.f39
abbrev c39x1 : Code := cL c39
abbrev c39x2 : Code := cR c39x1
abbrev c39x3 : Code := cR c39x2
abbrev c39x4 : Code := cR c39x3
abbrev c39x5 : Code := cR c39x4
abbrev c39x6 : Code := cR c39x5
abbrev c39x7 : Code := cL c39x6
abbrev c39x8 : Code := cL c39x7
abbrev c39x9 : Code := cL c39x5
abbrev c39x10 : Code := cL c39x4
abbrev c39x11 : Code := cL c39x3
abbrev c39x12 : Code := cL c39x2
abbrev c39x13 : Code := cL c39x1
abbrev r39 : K := retK CF Try.f39
def D39 (rec : RT) (n : Nat) (c : Code) (X : Nat → K) (k : K) : K := codeD CF rec 68 n c X r39 k
theorem s39a6be (kk6 : TT3) : D39 rec n c39x8 (xs (xs x0 0 r39) 1 r39) (K3 kk6 0 1 4) = (K3 (s39a6b rec n kk6) 0 1 4) :=
  (by kernel_rfl)
theorem s39a6le (m : Nat) : loopN (fun kk => D39 rec n c39x8 (xs (xs x0 0 r39) 1 r39) kk) m = (K3 (s39a6l rec n m) 0 1 4) := by
  induction m with
  | zero => exact (by kernel_rfl : loopN (fun kk => D39 rec n c39x8 (xs (xs x0 0 r39) 1 r39) kk) 0 = (K3 (s39a6l rec n 0) 0 1 4))
  | succ m ih =>
    refine (by kernel_rfl : loopN (fun kk => D39 rec n c39x8 (xs (xs x0 0 r39) 1 r39) kk) (m + 1) = D39 rec n c39x8 (xs (xs x0 0 r39) 1 r39) (loopN (fun kk => D39 rec n c39x8 (xs (xs x0 0 r39) 1 r39) kk) m)).trans ?_
    rw [ih]
    exact (s39a6be rec n (s39a6l rec n m)).trans (by kernel_rfl)
theorem s39a6e : D39 rec n c39x7 (xs (xs x0 0 r39) 1 r39) r39 = (K3 (s39a6 rec n) 0 1 4) :=
  (by kernel_rfl : D39 rec n c39x7 (xs (xs x0 0 r39) 1 r39) r39 = loopN (fun kk => D39 rec n c39x8 (xs (xs x0 0 r39) 1 r39) kk) n).trans ((s39a6le rec n n).trans (by kernel_rfl))
theorem s39a5e : D39 rec n c39x6 (xs x0 0 r39) r39 = (K3 (s39a5 rec n) 0 1 4) :=
  (by kernel_rfl : D39 rec n c39x6 (xs x0 0 r39) r39 = D39 rec n c39x7 (xs (xs x0 0 r39) 1 r39) r39).trans
  ((s39a6e rec n).trans (by kernel_rfl))
theorem s39a4p1 : D39 rec n c39x5 (xs x0 0 r39) r39 = D39 rec n c39x9 (xs x0 0 r39) (K3 (s39a5 rec n) 0 1 4) :=
  congrArg (fun k => D39 rec n c39x9 (xs x0 0 r39) k) (s39a5e rec n)
theorem s39a4e : D39 rec n c39x5 (xs x0 0 r39) r39 = (K2 (s39a4 rec n) 0 1) :=
  (s39a4p1 rec n).trans
  ((by kernel_rfl))
theorem s39a3e : D39 rec n c39x4 (xs x0 0 r39) r39 = (K3 (s39a3 rec n) 0 1 44) :=
  (by kernel_rfl : D39 rec n c39x4 (xs x0 0 r39) r39 = (fun (env : Env) (h : Hp) => ifD (opr env (cC c39x4)) (D39 rec n c39x10 (xs x0 0 r39) r39 env h) (D39 rec n c39x5 (xs x0 0 r39) r39 env h))).trans (by rw [s39a4e rec n]; kernel_rfl)
theorem s39a2p2 : D39 rec n c39x3 (xs x0 0 r39) r39 = D39 rec n c39x11 (xs x0 0 r39) (K3 (s39a3 rec n) 0 1 44) :=
  congrArg (fun k => D39 rec n c39x11 (xs x0 0 r39) k) (s39a3e rec n)
theorem s39a2e : D39 rec n c39x3 (xs x0 0 r39) r39 = (K2 (s39a2 rec n) 0 1) :=
  (s39a2p2 rec n).trans
  ((by kernel_rfl))
theorem s39a1e : D39 rec n c39x2 (xs x0 0 r39) r39 = (K3 (s39a1 rec n) 0 1 35) :=
  (by kernel_rfl : D39 rec n c39x2 (xs x0 0 r39) r39 = (fun (env : Env) (h : Hp) => ifD (opr env (cC c39x2)) (D39 rec n c39x12 (xs x0 0 r39) r39 env h) (D39 rec n c39x3 (xs x0 0 r39) r39 env h))).trans (by rw [s39a2e rec n]; kernel_rfl)
theorem s39p3 : D39 rec n c39x1 (xs x0 0 r39) r39 = D39 rec n c39x13 (xs x0 0 r39) (K3 (s39a1 rec n) 0 1 35) :=
  congrArg (fun k => D39 rec n c39x13 (xs x0 0 r39) k) (s39a1e rec n)
theorem s39m : D39 rec n c39 x0 r39 = (K2 (s39 rec n) 0 1) :=
  (by kernel_rfl : D39 rec n c39 x0 r39 = D39 rec n c39x1 (xs x0 0 r39) r39).trans
  ((s39p3 rec n).trans
  ((by kernel_rfl)))
theorem s39ok (args : List DV) (h : Hp) : bodyD CF rec n 39 args h = s39 rec n (args.getD 0 undefD) (args.getD 1 undefD) h :=
  (by kernel_rfl : bodyD CF rec n 39 args h = D39 rec n c39 x0 r39 (argsE args) h).trans ((congrFun (congrFun (s39m rec n) (argsE args)) h).trans (by kernel_rfl))
def s40a6 (rec : RT) (n : Nat) (x0 x3 : DV) (h0 : Hp) : Res :=
 bnd (rec 32 [x0, (.i .i64 (Int.ofNat 3)), (.s [62])] h0) fun v1 h1 =>
 bnd (pField 2 x3 h1) fun v2 h2 =>
 bnd (pLoad1 v2 h2) fun v3 h3 =>
 some (v3, h3)
def s40a5 (rec : RT) (n : Nat) (x0 x3 : DV) (h0 : Hp) : Res :=
 bnd (pField 2 x3 h0) fun v1 h1 =>
 bnd (pLoad1 v1 h1) fun v2 h2 =>
 bnd (pInt .gtr v2 (.i .i64 (Int.ofNat 255)) h2) fun v3 h3 =>
 ifD v3 (
 bnd (pLoadA 4 x3 h3) fun v4 h4 =>
 bnd (rec 54 [x0, v4, (.i .i64 (Int.ofNat 2))] h4) fun v5 h5 =>
    s40a6 rec n x0 x3 h5) (
    s40a6 rec n x0 x3 h3)
def s40a4 (rec : RT) (n : Nat) (x0 : DV) (h0 : Hp) : Res :=
 bnd (rec 32 [x0, (.i .i64 (Int.ofNat 4)), (.s [])] h0) fun v1 h1 =>
 bnd (pNew [(.i .i64 (Int.ofNat 0)), (.s []), (.i .i64 (Int.ofNat 0)), (.i .i64 (Int.ofNat 0))] h1) fun v2 h2 =>
 bnd (pStore 4 v2 v1 h2) fun _ h3 =>
  s40a5 rec n x0 v2 h3
def s40a3 (rec : RT) (n : Nat) (x0 : DV) (h0 : Hp) : Res :=
 bnd (rec 32 [x0, (.i .i64 (Int.ofNat 2)), (.s [112, 114, 105, 109, 105, 116, 105, 118, 101, 58])] h0) fun v1 h1 =>
  s40a4 rec n x0 h1
def s40a2 (rec : RT) (n : Nat) (x0 : DV) (h0 : Hp) : Res :=
 bnd (rec 52 [x0] h0) fun v1 h1 =>
  s40a3 rec n x0 h1
def s40a1 (rec : RT) (n : Nat) (x0 : DV) (h0 : Hp) : Res :=
 bnd (rec 51 [x0, (.i .i64 (Int.ofNat 3)), (.s [60])] h0) fun v1 h1 =>
 bnd (pUn .not v1 h1) fun v2 h2 =>
 ifD v2 (
 some ((.i .i64 (Int.ofNat 0)), h2)) (
    s40a2 rec n x0 h2)
/-- parse.parser).primitive -/
def s40 (rec : RT) (n : Nat) (x0 : DV) (h0 : Hp) : Res :=
  s40a1 rec n x0 h0
abbrev c40 : Code := cf Try.f40
abbrev c40x1 : Code := cR c40
abbrev c40x2 : Code := cR c40x1
abbrev c40x3 : Code := cR c40x2
abbrev c40x4 : Code := cR c40x3
abbrev c40x5 : Code := cR c40x4
abbrev c40x6 : Code := cR c40x5
abbrev c40x7 : Code := cL c40x5
abbrev c40x8 : Code := cL c40x4
abbrev c40x9 : Code := cL c40x3
abbrev c40x10 : Code := cL c40x2
abbrev c40x11 : Code := cL c40x1
abbrev c40x12 : Code := cL c40
abbrev r40 : K := retK CF Try.f40
def D40 (rec : RT) (n : Nat) (c : Code) (X : Nat → K) (k : K) : K := codeD CF rec 23 n c X r40 k
theorem s40a6e : D40 rec n c40x6 x0 r40 = (K2 (s40a6 rec n) 0 3) :=
  (by kernel_rfl)
theorem s40a5p1 : D40 rec n c40x5 x0 r40 = D40 rec n c40x7 x0 (K2 (s40a6 rec n) 0 3) :=
  congrArg (fun k => D40 rec n c40x7 x0 k) (s40a6e rec n)
theorem s40a5e : D40 rec n c40x5 x0 r40 = (K2 (s40a5 rec n) 0 3) :=
  (s40a5p1 rec n).trans
  ((by kernel_rfl))
theorem s40a4p2 : D40 rec n c40x4 x0 r40 = D40 rec n c40x8 x0 (K2 (s40a5 rec n) 0 3) :=
  congrArg (fun k => D40 rec n c40x8 x0 k) (s40a5e rec n)
theorem s40a4q3 (q0 : TT2) : D40 rec n c40x8 x0 (K2 q0 0 3) = fun (env : Env) (h : Hp) =>
 bnd (rec 32 [(env 0), (.i .i64 (Int.ofNat 4)), (.s [])] h) fun v1 h1 =>
 bnd (pNew [(.i .i64 (Int.ofNat 0)), (.s []), (.i .i64 (Int.ofNat 0)), (.i .i64 (Int.ofNat 0))] h1) fun v2 h2 =>
 bnd (pStore 4 v2 v1 h2) fun _ h3 =>
    q0 (env 0) v2 h3 := by kernel_rfl
theorem s40a4q3u : (fun (env : Env) (h : Hp) =>
 bnd (rec 32 [(env 0), (.i .i64 (Int.ofNat 4)), (.s [])] h) fun v1 h1 =>
 bnd (pNew [(.i .i64 (Int.ofNat 0)), (.s []), (.i .i64 (Int.ofNat 0)), (.i .i64 (Int.ofNat 0))] h1) fun v2 h2 =>
 bnd (pStore 4 v2 v1 h2) fun _ h3 =>
    s40a5 rec n (env 0) v2 h3) = (K1 (s40a4 rec n) 0) := by kernel_rfl
theorem s40a4e : D40 rec n c40x4 x0 r40 = (K1 (s40a4 rec n) 0) :=
  (s40a4p2 rec n).trans
  ((s40a4q3 rec n (s40a5 rec n)).trans (s40a4q3u rec n))
theorem s40a3p4 : D40 rec n c40x3 x0 r40 = D40 rec n c40x9 x0 (K1 (s40a4 rec n) 0) :=
  congrArg (fun k => D40 rec n c40x9 x0 k) (s40a4e rec n)
theorem s40a3e : D40 rec n c40x3 x0 r40 = (K1 (s40a3 rec n) 0) :=
  (s40a3p4 rec n).trans
  ((by kernel_rfl))
theorem s40a2p5 : D40 rec n c40x2 x0 r40 = D40 rec n c40x10 x0 (K1 (s40a3 rec n) 0) :=
  congrArg (fun k => D40 rec n c40x10 x0 k) (s40a3e rec n)
theorem s40a2e : D40 rec n c40x2 x0 r40 = (K1 (s40a2 rec n) 0) :=
  (s40a2p5 rec n).trans
  ((by kernel_rfl))
theorem s40a1p6 : D40 rec n c40x1 x0 r40 = D40 rec n c40x11 x0 (K1 (s40a2 rec n) 0) :=
  congrArg (fun k => D40 rec n c40x11 x0 k) (s40a2e rec n)
theorem s40a1e : D40 rec n c40x1 x0 r40 = (K1 (s40a1 rec n) 0) :=
  (s40a1p6 rec n).trans
  ((by kernel_rfl))
theorem s40p7 : D40 rec n c40 x0 r40 = D40 rec n c40x12 x0 (K1 (s40a1 rec n) 0) :=
  congrArg (fun k => D40 rec n c40x12 x0 k) (s40a1e rec n)
theorem s40m : D40 rec n c40 x0 r40 = (K1 (s40 rec n) 0) :=
  (s40p7 rec n).trans
  ((by kernel_rfl))
theorem s40ok (args : List DV) (h : Hp) : bodyD CF rec n 40 args h = s40 rec n (args.getD 0 undefD) h :=
  (by kernel_rfl : bodyD CF rec n 40 args h = D40 rec n c40 x0 r40 (argsE args) h).trans ((congrFun (congrFun (s40m rec n) (argsE args)) h).trans (by kernel_rfl))
/-- vivariumref07.P).is -/
def s41 (rec : RT) (n : Nat) (x0 x1 x2 : DV) (h0 : Hp) : Res :=
 bnd (rec 46 [x0, (.i .i64 (Int.ofNat 0))] h0) fun v1 h1 =>
 bnd (pNew [(.i .i64 (Int.ofNat 0)), (.s []), (.i .i64 (Int.ofNat 0)), (.i .i64 (Int.ofNat 0))] h1) fun v2 h2 =>
 bnd (pStore 4 v2 v1 h2) fun _ h3 =>
 bnd (pNil x0 h3) fun v4 h4 =>
 bnd (pField 3 v4 h4) fun v5 h5 =>
 bnd (pLoad1 v5 h5) fun v6 h6 =>
 bnd (pInt .eql v6 (.i .i64 (Int.ofNat 0)) h6) fun v7 h7 =>
 bnd (gD v7 true (pField 0 v2 h7) h7) fun v8 h8 =>
 bnd (gD v7 true (pLoad1 v8 h8) h8) fun v9 h9 =>
 bnd (gD v7 true (some (x1, h9)) h9) fun v10 h10 =>
 bnd (gD v7 true (pInt .eql v9 v10 h10) h10) fun v11 h11 =>
 bnd (pPick v7 v11 (.b false) h11) fun v12 h12 =>
 bnd (gD v12 true (some (x2, h12)) h12) fun v13 h13 =>
 bnd (gD v12 true (pStr .eql v13 (.s []) h13) h13) fun v14 h14 =>
 bnd (gD v12 true (some (v14, h14)) h14) fun v15 h15 =>
 bnd (gD v15 false (pField 1 v2 h15) h15) fun v16 h16 =>
 bnd (gD v15 false (pLoad1 v16 h16) h16) fun v17 h17 =>
 bnd (gD v15 false (some (x2, h17)) h17) fun v18 h18 =>
 bnd (gD v15 false (pStr .eql v17 v18 h18) h18) fun v19 h19 =>
 bnd (gD v12 true (pPick v15 (.b true) v19 h19) h19) fun v20 h20 =>
 bnd (pPick v12 v20 (.b false) h20) fun v21 h21 =>
 some (v21, h21)
abbrev c41 : Code := cf Try.f41
abbrev r41 : K := retK CF Try.f41
def D41 (rec : RT) (n : Nat) (c : Code) (X : Nat → K) (k : K) : K := codeD CF rec 31 n c X r41 k
theorem s41m : D41 rec n c41 x0 r41 = (K3 (s41 rec n) 0 1 2) :=
  (by kernel_rfl)
theorem s41ok (args : List DV) (h : Hp) : bodyD CF rec n 41 args h = s41 rec n (args.getD 0 undefD) (args.getD 1 undefD) (args.getD 2 undefD) h :=
  (by kernel_rfl : bodyD CF rec n 41 args h = D41 rec n c41 x0 r41 (argsE args) h).trans ((congrFun (congrFun (s41m rec n) (argsE args)) h).trans (by kernel_rfl))
/-- vivariumref07.P).take -/
def s42 (rec : RT) (n : Nat) (x0 : DV) (h0 : Hp) : Res :=
 bnd (pNew [(.i .i64 (Int.ofNat 0)), (.s []), (.i .i64 (Int.ofNat 0)), (.i .i64 (Int.ofNat 0))] h0) fun v1 h1 =>
 bnd (rec 46 [x0, (.i .i64 (Int.ofNat 0))] h1) fun v2 h2 =>
 bnd (pNew [(.i .i64 (Int.ofNat 0)), (.s []), (.i .i64 (Int.ofNat 0)), (.i .i64 (Int.ofNat 0))] h2) fun v3 h3 =>
 bnd (pStore 4 v3 v2 h3) fun _ h4 =>
 bnd (pNil x0 h4) fun v5 h5 =>
 bnd (pField 1 v5 h5) fun v6 h6 =>
 bnd (pLoad1 v6 h6) fun v7 h7 =>
 bnd (pInt .add v7 (.i .i64 (Int.ofNat 1)) h7) fun v8 h8 =>
 bnd (pNil x0 h8) fun v9 h9 =>
 bnd (pField 1 v9 h9) fun v10 h10 =>
 bnd (pStore 1 v10 v8 h10) fun _ h11 =>
 bnd (pLoadA 4 v3 h11) fun v12 h12 =>
 bnd (pStore 4 v1 v12 h12) fun _ h13 =>
 bnd (pLoadA 4 v1 h13) fun v14 _ =>
 some (v14, h13)
abbrev c42 : Code := cf Try.f42
abbrev r42 : K := retK CF Try.f42
def D42 (rec : RT) (n : Nat) (c : Code) (X : Nat → K) (k : K) : K := codeD CF rec 14 n c X r42 k
theorem s42m : D42 rec n c42 x0 r42 = (K1 (s42 rec n) 0) :=
  (by kernel_rfl)
theorem s42ok (args : List DV) (h : Hp) : bodyD CF rec n 42 args h = s42 rec n (args.getD 0 undefD) h :=
  (by kernel_rfl : bodyD CF rec n 42 args h = D42 rec n c42 x0 r42 (argsE args) h).trans ((congrFun (congrFun (s42m rec n) (argsE args)) h).trans (by kernel_rfl))
def s43a3 (rec : RT) (n : Nat) (x2 x7 : DV) (h0 : Hp) : Res :=
 bnd (pAppend 1 16 .l0 x2 h0) fun v1 h1 =>
 bnd (pField 1 x7 h1) fun v2 h2 =>
 bnd (pLoad1 v2 h2) fun v3 h3 =>
 bnd (pBuildSlice [(.s [])] 1 [(0, 1, v3)] h3) fun v4 h4 =>
 bnd (pAppend 1 16 v1 v4 h4) fun v5 h5 =>
 some (v5, h5)
def s43a2 (rec : RT) (n : Nat) (x0 x2 x7 : DV) (h0 : Hp) : Res :=
 bnd (pNil x0 h0) fun v1 h1 =>
 bnd (pField 3 v1 h1) fun v2 h2 =>
 bnd (pLoad1 v2 h2) fun v3 h3 =>
 bnd (pInt .eql v3 (.i .i64 (Int.ofNat 0)) h3) fun v4 h4 =>
 bnd (gD v4 true (some (x2, h4)) h4) fun v5 h5 =>
 bnd (gD v4 true (pLen v5 h5) h5) fun v6 h6 =>
 bnd (gD v4 true (pInt .eql v6 (.i .i64 (Int.ofNat 4)) h6) h6) fun v7 h7 =>
 bnd (pPick v4 v7 (.b false) h7) fun v8 h8 =>
 ifD v8 (
 bnd (pLoadA 4 x7 h8) fun v9 h9 =>
 bnd (rec 44 [x0, v9, (.i .i64 (Int.ofNat 18))] h9) fun v10 h10 =>
    s43a3 rec n x2 x7 h10) (
    s43a3 rec n x2 x7 h8)
def s43a1 (rec : RT) (n : Nat) (x0 x1 x2 : DV) (h0 : Hp) : Res :=
 bnd (rec 28 [x0, x1, (.s [])] h0) fun v1 h1 =>
 bnd (pNew [(.i .i64 (Int.ofNat 0)), (.s []), (.i .i64 (Int.ofNat 0)), (.i .i64 (Int.ofNat 0))] h1) fun v2 h2 =>
 bnd (pStore 4 v2 v1 h2) fun _ h3 =>
  s43a2 rec n x0 x2 v2 h3
/-- vivariumref07.P).names -/
def s43 (rec : RT) (n : Nat) (x0 x1 x2 : DV) (h0 : Hp) : Res :=
  s43a1 rec n x0 x1 x2 h0
abbrev c43 : Code := cf Try.f43
abbrev c43x1 : Code := cR c43
abbrev c43x2 : Code := cR c43x1
abbrev c43x3 : Code := cR c43x2
abbrev c43x4 : Code := cL c43x2
abbrev c43x5 : Code := cL c43x1
abbrev c43x6 : Code := cL c43
abbrev r43 : K := retK CF Try.f43
def D43 (rec : RT) (n : Nat) (c : Code) (X : Nat → K) (k : K) : K := codeD CF rec 33 n c X r43 k
theorem s43a3e : D43 rec n c43x3 x0 r43 = (K2 (s43a3 rec n) 2 7) :=
  (by kernel_rfl)
theorem s43a2p1 : D43 rec n c43x2 x0 r43 = D43 rec n c43x4 x0 (K2 (s43a3 rec n) 2 7) :=
  congrArg (fun k => D43 rec n c43x4 x0 k) (s43a3e rec n)
theorem s43a2e : D43 rec n c43x2 x0 r43 = (K3 (s43a2 rec n) 0 2 7) :=
  (s43a2p1 rec n).trans
  ((by kernel_rfl))
theorem s43a1p2 : D43 rec n c43x1 x0 r43 = D43 rec n c43x5 x0 (K3 (s43a2 rec n) 0 2 7) :=
  congrArg (fun k => D43 rec n c43x5 x0 k) (s43a2e rec n)
theorem s43a1q3 (q0 : TT3) : D43 rec n c43x5 x0 (K3 q0 0 2 7) = fun (env : Env) (h : Hp) =>
 bnd (rec 28 [(env 0), (env 1), (.s [])] h) fun v1 h1 =>
 bnd (pNew [(.i .i64 (Int.ofNat 0)), (.s []), (.i .i64 (Int.ofNat 0)), (.i .i64 (Int.ofNat 0))] h1) fun v2 h2 =>
 bnd (pStore 4 v2 v1 h2) fun _ h3 =>
    q0 (env 0) (env 2) v2 h3 := by kernel_rfl
theorem s43a1q3u : (fun (env : Env) (h : Hp) =>
 bnd (rec 28 [(env 0), (env 1), (.s [])] h) fun v1 h1 =>
 bnd (pNew [(.i .i64 (Int.ofNat 0)), (.s []), (.i .i64 (Int.ofNat 0)), (.i .i64 (Int.ofNat 0))] h1) fun v2 h2 =>
 bnd (pStore 4 v2 v1 h2) fun _ h3 =>
    s43a2 rec n (env 0) (env 2) v2 h3) = (K3 (s43a1 rec n) 0 1 2) := by kernel_rfl
theorem s43a1e : D43 rec n c43x1 x0 r43 = (K3 (s43a1 rec n) 0 1 2) :=
  (s43a1p2 rec n).trans
  ((s43a1q3 rec n (s43a2 rec n)).trans (s43a1q3u rec n))
theorem s43p4 : D43 rec n c43 x0 r43 = D43 rec n c43x6 x0 (K3 (s43a1 rec n) 0 1 2) :=
  congrArg (fun k => D43 rec n c43x6 x0 k) (s43a1e rec n)
theorem s43m : D43 rec n c43 x0 r43 = (K3 (s43 rec n) 0 1 2) :=
  (s43p4 rec n).trans
  ((by kernel_rfl))
theorem s43ok (args : List DV) (h : Hp) : bodyD CF rec n 43 args h = s43 rec n (args.getD 0 undefD) (args.getD 1 undefD) (args.getD 2 undefD) h :=
  (by kernel_rfl : bodyD CF rec n 43 args h = D43 rec n c43 x0 r43 (argsE args) h).trans ((congrFun (congrFun (s43m rec n) (argsE args)) h).trans (by kernel_rfl))
/-- vivariumref07.P).fail -/
def s44 (rec : RT) (n : Nat) (x0 x1 x2 : DV) (h0 : Hp) : Res :=
 bnd (pBox x1 h0) fun v1 h1 =>
 bnd (pNil x0 h1) fun v2 h2 =>
 bnd (pField 3 v2 h2) fun v3 h3 =>
 bnd (pLoad1 v3 h3) fun v4 h4 =>
 bnd (pInt .eql v4 (.i .i64 (Int.ofNat 0)) h4) fun v5 h5 =>
 ifD v5 (
 bnd (pNil x0 h5) fun v6 h6 =>
 bnd (pField 3 v6 h6) fun v7 h7 =>
 bnd (pStore 1 v7 x2 h7) fun _ h8 =>
 bnd (pField 3 v1 h8) fun v9 h9 =>
 bnd (pLoad1 v9 h9) fun v10 h10 =>
 bnd (pNil x0 h10) fun v11 h11 =>
 bnd (pField 4 v11 h11) fun v12 h12 =>
 bnd (pStore 1 v12 v10 h12) fun _ h13 =>
 some (.t [], h13)) (
 some (.t [], h5))
abbrev c44 : Code := cf Try.f44
abbrev r44 : K := retK CF Try.f44
def D44 (rec : RT) (n : Nat) (c : Code) (X : Nat → K) (k : K) : K := codeD CF rec 20 n c X r44 k
theorem s44m : D44 rec n c44 x0 r44 = (K3 (s44 rec n) 0 1 2) :=
  (by kernel_rfl)
theorem s44ok (args : List DV) (h : Hp) : bodyD CF rec n 44 args h = s44 rec n (args.getD 0 undefD) (args.getD 1 undefD) (args.getD 2 undefD) h :=
  (by kernel_rfl : bodyD CF rec n 44 args h = D44 rec n c44 x0 r44 (argsE args) h).trans ((congrFun (congrFun (s44m rec n) (argsE args)) h).trans (by kernel_rfl))
def s45a12 (rec : RT) (n : Nat) (x2 x6 : DV) (h0 : Hp) : Res :=
 bnd (pLoadA 6 x6 h0) fun v1 h1 =>
 bnd (pStore 6 x2 v1 h1) fun _ h2 =>
 bnd (pLoadA 6 x2 h2) fun v3 _ =>
 some (v3, h2)
def s45a13b (rec : RT) (n : Nat) (kk13 : TT3) (x0 x2 x6 : DV) (h0 : Hp) : Res :=
 bnd (rec 41 [x0, (.i .i64 (Int.ofNat 10)), (.s [59])] h0) fun v1 h1 =>
 ifD v1 (
 bnd (rec 42 [x0] h1) fun v2 h2 =>
 bnd (pField 5 x6 (resv 1 h2)) fun v3 h3 =>
 bnd (pLoad1 v3 h3) fun v4 h4 =>
 bnd (rec 61 [x0] h4) fun v5 h5 =>
 cnd (sameR (pLoad1 v3 h5) v4 && true) (
 bnd (pBuildSliceAt (nthPos 0 h2.next) [(.i .i64 (Int.ofNat 0)), (.s []), (.i .i64 (Int.ofNat 0)), .l0, .l0, .l0] 1 [(0, 6, v5)] h5) fun v6 h6 =>
 bnd (pAppend 6 104 v4 v6 h6) fun v7 h7 =>
 bnd (pField 5 x6 h7) fun v8 h8 =>
 bnd (pStore 1 v8 v7 h8) fun v9 h9 =>
      kk13 x0 x2 x6 h9)) (
      s45a12 rec n x2 x6 h1)
def s45a13l (rec : RT) (n : Nat) (m : Nat) : TT3 :=
  Nat.rec (motive := fun _ => TT3) (fun _ _ _ _ => none) (fun _ ih => s45a13b rec n ih) m
def s45a13 (rec : RT) (n : Nat) : TT3 := s45a13l rec n n
def s45a11 (rec : RT) (n : Nat) (x0 x2 x6 : DV) (h0 : Hp) : Res :=
  s45a13 rec n x0 x2 x6 h0
def s45a10 (rec : RT) (n : Nat) (x0 x2 x5 x6 : DV) (h0 : Hp) : Res :=
 bnd (pField 5 x6 (resv 1 h0)) fun v1 h1 =>
 bnd (pLoad1 v1 h1) fun v2 h2 =>
 bnd (pField 1 x5 h2) fun v3 h3 =>
 bnd (pLoad1 v3 h3) fun v4 h4 =>
 bnd (pField 5 x5 h4) fun v5 h5 =>
 bnd (pLoad1 v5 h5) fun v6 h6 =>
 bnd (pSlice 6 v6 (some (.i .i64 (Int.ofNat 1))) none h6) fun v7 h7 =>
 cnd (sameR (pLoad1 v3 h7) v4 && (sameR (pLoad1 v1 h7) v2 && true)) (
 bnd (pBuild [(.i .i64 (Int.ofNat 0)), (.s []), (.i .i64 (Int.ofNat 0)), .l0, .l0, .l0] [(0, 1, (.i .i64 (Int.ofNat 7))), (1, 1, v4), (5, 1, v7)] h7) fun v8 h8 =>
 bnd (pBuildSliceAt (nthPos 0 h0.next) [(.i .i64 (Int.ofNat 0)), (.s []), (.i .i64 (Int.ofNat 0)), .l0, .l0, .l0] 1 [(0, 6, v8)] h8) fun v9 h9 =>
 bnd (pAppend 6 104 v2 v9 h9) fun v10 h10 =>
 bnd (pField 5 x6 h10) fun v11 h11 =>
 bnd (pStore 1 v11 v10 h11) fun v12 h12 =>
  s45a11 rec n x0 x2 x6 h12)
def s45a9 (rec : RT) (n : Nat) (x0 x2 x5 x6 : DV) (h0 : Hp) : Res :=
 bnd (pField 5 x6 (resv 1 h0)) fun v1 h1 =>
 bnd (pLoad1 v1 h1) fun v2 h2 =>
 bnd (pField 5 x5 h2) fun v3 h3 =>
 bnd (pLoad1 v3 h3) fun v4 h4 =>
 bnd (pIndexAddr 6 v4 (.i .i64 (Int.ofNat 0)) h4) fun v5 h5 =>
 bnd (pLoadA 6 v5 h5) fun v6 h6 =>
 bnd (pBuildSliceAt (nthPos 0 h0.next) [(.i .i64 (Int.ofNat 0)), (.s []), (.i .i64 (Int.ofNat 0)), .l0, .l0, .l0] 1 [(0, 6, v6)] h6) fun v7 h7 =>
 bnd (pAppend 6 104 v2 v7 h7) fun v8 h8 =>
 bnd (pField 5 x6 h8) fun v9 h9 =>
 bnd (pStore 1 v9 v8 h9) fun v10 h10 =>
  s45a10 rec n x0 x2 x5 x6 h10
def s45a8 (rec : RT) (n : Nat) (x0 x2 x5 : DV) (h0 : Hp) : Res :=
 bnd (pBuild [(.i .i64 (Int.ofNat 0)), (.s []), (.i .i64 (Int.ofNat 0)), .l0, .l0, .l0] [(0, 1, (.i .i64 (Int.ofNat 8)))] h0) fun v1 h1 =>
 bnd (pNew [(.i .i64 (Int.ofNat 0)), (.s []), (.i .i64 (Int.ofNat 0)), .l0, .l0, .l0] h1) fun v2 h2 =>
 bnd (pStore 6 v2 v1 h2) fun _ h3 =>
  s45a9 rec n x0 x2 x5 v2 h3
def s45a7 (rec : RT) (n : Nat) (x0 x2 x5 : DV) (h0 : Hp) : Res :=
 bnd (pField 0 x5 h0) fun v1 h1 =>
 bnd (pLoad1 v1 h1) fun v2 h2 =>
 bnd (pInt .neq v2 (.i .i64 (Int.ofNat 7)) h2) fun v3 h3 =>
 ifD v3 (
 bnd (rec 46 [x0, (.i .i64 (Int.ofNat 0))] h3) fun v4 h4 =>
 bnd (rec 44 [x0, v4, (.i .i64 (Int.ofNat 13))] h4) fun v5 h5 =>
 bnd (pLoadA 6 x5 h5) fun v6 h6 =>
 bnd (pStore 6 x2 v6 h6) fun _ h7 =>
 bnd (pLoadA 6 x2 h7) fun v8 _ =>
 some (v8, h7)) (
    s45a8 rec n x0 x2 x5 h3)
def s45a6 (rec : RT) (n : Nat) (x0 x2 x5 : DV) (h0 : Hp) : Res :=
 bnd (rec 41 [x0, (.i .i64 (Int.ofNat 10)), (.s [59])] h0) fun v1 h1 =>
 bnd (pUn .not v1 h1) fun v2 h2 =>
 ifD v2 (
 bnd (pLoadA 6 x5 h2) fun v3 h3 =>
 bnd (pStore 6 x2 v3 h3) fun _ h4 =>
 bnd (pLoadA 6 x2 h4) fun v5 _ =>
 some (v5, h4)) (
    s45a7 rec n x0 x2 x5 h2)
def s45a5 (rec : RT) (n : Nat) (x0 x2 x5 : DV) (h0 : Hp) : Res :=
 bnd (pLoadA 6 x5 h0) fun v1 h1 =>
 bnd (rec 60 [x0, v1] h1) fun v2 h2 =>
 bnd (pStore 6 x5 v2 h2) fun _ h3 =>
  s45a6 rec n x0 x2 x5 h3
def s45a4 (rec : RT) (n : Nat) (x0 x2 x5 : DV) (h0 : Hp) : Res :=
 bnd (pLoadA 6 x5 h0) fun v1 h1 =>
 bnd (rec 59 [x0, v1] h1) fun v2 h2 =>
 bnd (pStore 6 x5 v2 h2) fun _ h3 =>
  s45a5 rec n x0 x2 x5 h3
def s45a3 (rec : RT) (n : Nat) (x0 x2 x5 : DV) (h0 : Hp) : Res :=
 bnd (pLoadA 6 x5 h0) fun v1 h1 =>
 bnd (rec 58 [x0, v1] h1) fun v2 h2 =>
 bnd (pStore 6 x5 v2 h2) fun _ h3 =>
  s45a4 rec n x0 x2 x5 h3
def s45a2 (rec : RT) (n : Nat) (x0 x2 : DV) (h0 : Hp) : Res :=
 bnd (rec 57 [x0] h0) fun v1 h1 =>
 bnd (pNew [(.i .i64 (Int.ofNat 0)), (.s []), (.i .i64 (Int.ofNat 0)), .l0, .l0, .l0] h1) fun v2 h2 =>
 bnd (pStore 6 v2 v1 h2) fun _ h3 =>
  s45a3 rec n x0 x2 v2 h3
def s45a1 (rec : RT) (n : Nat) (x0 x2 : DV) (h0 : Hp) : Res :=
 bnd (rec 41 [x0, (.i .i64 (Int.ofNat 1)), (.s [])] h0) fun v1 h1 =>
 bnd (gD v1 true (some (x0, h1)) h1) fun v2 h2 =>
 bnd (gD v1 true (rec 46 [v2, (.i .i64 (Int.ofNat 1))] h2) h2) fun v3 h3 =>
 bnd (gD v1 true (pPart1 0 v3 h3) h3) fun v4 h4 =>
 bnd (gD v1 true (pInt .eql v4 (.i .i64 (Int.ofNat 9)) h4) h4) fun v5 h5 =>
 bnd (pPick v1 v5 (.b false) h5) fun v6 h6 =>
 ifD v6 (
 bnd (rec 42 [x0] h6) fun v7 h7 =>
 bnd (pPart1 1 v7 h7) fun v8 h8 =>
 bnd (rec 42 [x0] h8) fun v9 h9 =>
 bnd (rec 45 [x0] h9) fun v10 h10 =>
 bnd (pNew [(.i .i64 (Int.ofNat 0)), (.s []), (.i .i64 (Int.ofNat 0)), .l0, .l0, .l0] h10) fun v11 h11 =>
 bnd (pStore 6 v11 v10 h11) fun _ h12 =>
 bnd (pLoadA 6 v11 h12) fun v13 h13 =>
 bnd (pBuildSlice [(.i .i64 (Int.ofNat 0)), (.s []), (.i .i64 (Int.ofNat 0)), .l0, .l0, .l0] 1 [(0, 6, v13)] h13) fun v14 h14 =>
 bnd (pBuild [(.i .i64 (Int.ofNat 0)), (.s []), (.i .i64 (Int.ofNat 0)), .l0, .l0, .l0] [(0, 1, (.i .i64 (Int.ofNat 6))), (1, 1, v8), (5, 1, v14)] h14) fun v15 h15 =>
 bnd (pStore 6 x2 v15 h15) fun _ h16 =>
 bnd (pLoadA 6 x2 h16) fun v17 _ =>
 some (v17, h16)) (
    s45a2 rec n x0 x2 h6)
/-- vivariumref07.P).expression -/
def s45 (rec : RT) (n : Nat) (x0 : DV) (h0 : Hp) : Res :=
 bnd (pNew [(.i .i64 (Int.ofNat 0)), (.s []), (.i .i64 (Int.ofNat 0)), .l0, .l0, .l0] h0) fun v1 h1 =>
  s45a1 rec n x0 v1 h1
abbrev c45 : Code := cf Try.f45
abbrev c45x1 : Code := cR c45
abbrev c45x2 : Code := cR c45x1
abbrev c45x3 : Code := cR c45x2
abbrev c45x4 : Code := cR c45x3
abbrev c45x5 : Code := cR c45x4
abbrev c45x6 : Code := cR c45x5
abbrev c45x7 : Code := cR c45x6
abbrev c45x8 : Code := cR c45x7
abbrev c45x9 : Code := cR c45x8
abbrev c45x10 : Code := cR c45x9
abbrev c45x11 : Code := cR c45x10
abbrev c45x12 : Code := cR c45x11
abbrev c45x13 : Code := cL c45x11
abbrev c45x14 : Code := cL c45x13
abbrev c45x15 : Code := cL c45x14
abbrev c45x16 : Code := cL c45x10
abbrev c45x17 : Code := cL c45x9
abbrev c45x18 : Code := cL c45x8
abbrev c45x19 : Code := cL c45x7
abbrev c45x20 : Code := cL c45x6
abbrev c45x21 : Code := cL c45x5
abbrev c45x22 : Code := cL c45x4
abbrev c45x23 : Code := cL c45x3
abbrev c45x24 : Code := cL c45x2
abbrev c45x25 : Code := cL c45x1
abbrev c45x26 : Code := cL c45
abbrev r45 : K := retK CF Try.f45
def D45 (rec : RT) (n : Nat) (c : Code) (X : Nat → K) (k : K) : K := codeD CF rec 82 n c X r45 k
theorem s45a12e : D45 rec n c45x12 x0 r45 = (K2 (s45a12 rec n) 2 6) :=
  (by kernel_rfl)
theorem s45a13q1 (kk13 : TT3) (q0 : TT2) : D45 rec n c45x15 (xs x0 0 (K2 q0 2 6)) (K3 kk13 0 2 6) = fun (env : Env) (h : Hp) =>
 bnd (rec 41 [(env 0), (.i .i64 (Int.ofNat 10)), (.s [59])] h) fun v1 h1 =>
 ifD v1 (
 bnd (rec 42 [(env 0)] h1) fun v2 h2 =>
 bnd (pField 5 (env 6) (resv 1 h2)) fun v3 h3 =>
 bnd (pLoad1 v3 h3) fun v4 h4 =>
 bnd (rec 61 [(env 0)] h4) fun v5 h5 =>
 cnd (sameR (pLoad1 v3 h5) v4 && true) (
 bnd (pBuildSliceAt (nthPos 0 h2.next) [(.i .i64 (Int.ofNat 0)), (.s []), (.i .i64 (Int.ofNat 0)), .l0, .l0, .l0] 1 [(0, 6, v5)] h5) fun v6 h6 =>
 bnd (pAppend 6 104 v4 v6 h6) fun v7 h7 =>
 bnd (pField 5 (env 6) h7) fun v8 h8 =>
 bnd (pStore 1 v8 v7 h8) fun v9 h9 =>
      kk13 (env 0) (env 2) (env 6) h9)) (
      q0 (env 2) (env 6) h1) := by kernel_rfl
theorem s45a13q1u (kk13 : TT3) : (fun (env : Env) (h : Hp) =>
 bnd (rec 41 [(env 0), (.i .i64 (Int.ofNat 10)), (.s [59])] h) fun v1 h1 =>
 ifD v1 (
 bnd (rec 42 [(env 0)] h1) fun v2 h2 =>
 bnd (pField 5 (env 6) (resv 1 h2)) fun v3 h3 =>
 bnd (pLoad1 v3 h3) fun v4 h4 =>
 bnd (rec 61 [(env 0)] h4) fun v5 h5 =>
 cnd (sameR (pLoad1 v3 h5) v4 && true) (
 bnd (pBuildSliceAt (nthPos 0 h2.next) [(.i .i64 (Int.ofNat 0)), (.s []), (.i .i64 (Int.ofNat 0)), .l0, .l0, .l0] 1 [(0, 6, v5)] h5) fun v6 h6 =>
 bnd (pAppend 6 104 v4 v6 h6) fun v7 h7 =>
 bnd (pField 5 (env 6) h7) fun v8 h8 =>
 bnd (pStore 1 v8 v7 h8) fun v9 h9 =>
      kk13 (env 0) (env 2) (env 6) h9)) (
      s45a12 rec n (env 2) (env 6) h1)) = (K3 (s45a13b rec n kk13) 0 2 6) := by kernel_rfl
theorem s45a13be (kk13 : TT3) : D45 rec n c45x15 (xs x0 0 (K2 (s45a12 rec n) 2 6)) (K3 kk13 0 2 6) = (K3 (s45a13b rec n kk13) 0 2 6) :=
  (s45a13q1 rec n kk13 (s45a12 rec n)).trans (s45a13q1u rec n kk13)
theorem s45a13le (m : Nat) : loopN (fun kk => D45 rec n c45x15 (xs x0 0 (K2 (s45a12 rec n) 2 6)) kk) m = (K3 (s45a13l rec n m) 0 2 6) := by
  induction m with
  | zero => exact (by kernel_rfl : loopN (fun kk => D45 rec n c45x15 (xs x0 0 (K2 (s45a12 rec n) 2 6)) kk) 0 = (K3 (s45a13l rec n 0) 0 2 6))
  | succ m ih =>
    refine (by kernel_rfl : loopN (fun kk => D45 rec n c45x15 (xs x0 0 (K2 (s45a12 rec n) 2 6)) kk) (m + 1) = D45 rec n c45x15 (xs x0 0 (K2 (s45a12 rec n) 2 6)) (loopN (fun kk => D45 rec n c45x15 (xs x0 0 (K2 (s45a12 rec n) 2 6)) kk) m)).trans ?_
    rw [ih]
    exact (s45a13be rec n (s45a13l rec n m)).trans (by kernel_rfl)
theorem s45a13e : D45 rec n c45x14 (xs x0 0 (K2 (s45a12 rec n) 2 6)) (K2 (s45a12 rec n) 2 6) = (K3 (s45a13 rec n) 0 2 6) :=
  (by kernel_rfl : D45 rec n c45x14 (xs x0 0 (K2 (s45a12 rec n) 2 6)) (K2 (s45a12 rec n) 2 6) = loopN (fun kk => D45 rec n c45x15 (xs x0 0 (K2 (s45a12 rec n) 2 6)) kk) n).trans ((s45a13le rec n n).trans (by kernel_rfl))
theorem s45a11p2 : D45 rec n c45x11 x0 r45 = D45 rec n c45x13 x0 (K2 (s45a12 rec n) 2 6) :=
  congrArg (fun k => D45 rec n c45x13 x0 k) (s45a12e rec n)
theorem s45a11e : D45 rec n c45x11 x0 r45 = (K3 (s45a11 rec n) 0 2 6) :=
  (s45a11p2 rec n).trans
  ((by kernel_rfl : D45 rec n c45x13 x0 (K2 (s45a12 rec n) 2 6) = D45 rec n c45x14 (xs x0 0 (K2 (s45a12 rec n) 2 6)) (K2 (s45a12 rec n) 2 6)).trans
  ((s45a13e rec n).trans (by kernel_rfl)))
theorem s45a10p3 : D45 rec n c45x10 x0 r45 = D45 rec n c45x16 x0 (K3 (s45a11 rec n) 0 2 6) :=
  congrArg (fun k => D45 rec n c45x16 x0 k) (s45a11e rec n)
theorem s45a10q4 (q0 : TT3) : D45 rec n c45x16 x0 (K3 q0 0 2 6) = fun (env : Env) (h : Hp) =>
 bnd (pField 5 (env 6) (resv 1 h)) fun v1 h1 =>
 bnd (pLoad1 v1 h1) fun v2 h2 =>
 bnd (pField 1 (env 5) h2) fun v3 h3 =>
 bnd (pLoad1 v3 h3) fun v4 h4 =>
 bnd (pField 5 (env 5) h4) fun v5 h5 =>
 bnd (pLoad1 v5 h5) fun v6 h6 =>
 bnd (pSlice 6 v6 (some (.i .i64 (Int.ofNat 1))) none h6) fun v7 h7 =>
 cnd (sameR (pLoad1 v3 h7) v4 && (sameR (pLoad1 v1 h7) v2 && true)) (
 bnd (pBuild [(.i .i64 (Int.ofNat 0)), (.s []), (.i .i64 (Int.ofNat 0)), .l0, .l0, .l0] [(0, 1, (.i .i64 (Int.ofNat 7))), (1, 1, v4), (5, 1, v7)] h7) fun v8 h8 =>
 bnd (pBuildSliceAt (nthPos 0 h.next) [(.i .i64 (Int.ofNat 0)), (.s []), (.i .i64 (Int.ofNat 0)), .l0, .l0, .l0] 1 [(0, 6, v8)] h8) fun v9 h9 =>
 bnd (pAppend 6 104 v2 v9 h9) fun v10 h10 =>
 bnd (pField 5 (env 6) h10) fun v11 h11 =>
 bnd (pStore 1 v11 v10 h11) fun v12 h12 =>
    q0 (env 0) (env 2) (env 6) h12) := by kernel_rfl
theorem s45a10q4u : (fun (env : Env) (h : Hp) =>
 bnd (pField 5 (env 6) (resv 1 h)) fun v1 h1 =>
 bnd (pLoad1 v1 h1) fun v2 h2 =>
 bnd (pField 1 (env 5) h2) fun v3 h3 =>
 bnd (pLoad1 v3 h3) fun v4 h4 =>
 bnd (pField 5 (env 5) h4) fun v5 h5 =>
 bnd (pLoad1 v5 h5) fun v6 h6 =>
 bnd (pSlice 6 v6 (some (.i .i64 (Int.ofNat 1))) none h6) fun v7 h7 =>
 cnd (sameR (pLoad1 v3 h7) v4 && (sameR (pLoad1 v1 h7) v2 && true)) (
 bnd (pBuild [(.i .i64 (Int.ofNat 0)), (.s []), (.i .i64 (Int.ofNat 0)), .l0, .l0, .l0] [(0, 1, (.i .i64 (Int.ofNat 7))), (1, 1, v4), (5, 1, v7)] h7) fun v8 h8 =>
 bnd (pBuildSliceAt (nthPos 0 h.next) [(.i .i64 (Int.ofNat 0)), (.s []), (.i .i64 (Int.ofNat 0)), .l0, .l0, .l0] 1 [(0, 6, v8)] h8) fun v9 h9 =>
 bnd (pAppend 6 104 v2 v9 h9) fun v10 h10 =>
 bnd (pField 5 (env 6) h10) fun v11 h11 =>
 bnd (pStore 1 v11 v10 h11) fun v12 h12 =>
    s45a11 rec n (env 0) (env 2) (env 6) h12)) = (K4 (s45a10 rec n) 0 2 5 6) := by kernel_rfl
theorem s45a10e : D45 rec n c45x10 x0 r45 = (K4 (s45a10 rec n) 0 2 5 6) :=
  (s45a10p3 rec n).trans
  ((s45a10q4 rec n (s45a11 rec n)).trans (s45a10q4u rec n))
theorem s45a9p5 : D45 rec n c45x9 x0 r45 = D45 rec n c45x17 x0 (K4 (s45a10 rec n) 0 2 5 6) :=
  congrArg (fun k => D45 rec n c45x17 x0 k) (s45a10e rec n)
theorem s45a9q6 (q0 : TT4) : D45 rec n c45x17 x0 (K4 q0 0 2 5 6) = fun (env : Env) (h : Hp) =>
 bnd (pField 5 (env 6) (resv 1 h)) fun v1 h1 =>
 bnd (pLoad1 v1 h1) fun v2 h2 =>
 bnd (pField 5 (env 5) h2) fun v3 h3 =>
 bnd (pLoad1 v3 h3) fun v4 h4 =>
 bnd (pIndexAddr 6 v4 (.i .i64 (Int.ofNat 0)) h4) fun v5 h5 =>
 bnd (pLoadA 6 v5 h5) fun v6 h6 =>
 bnd (pBuildSliceAt (nthPos 0 h.next) [(.i .i64 (Int.ofNat 0)), (.s []), (.i .i64 (Int.ofNat 0)), .l0, .l0, .l0] 1 [(0, 6, v6)] h6) fun v7 h7 =>
 bnd (pAppend 6 104 v2 v7 h7) fun v8 h8 =>
 bnd (pField 5 (env 6) h8) fun v9 h9 =>
 bnd (pStore 1 v9 v8 h9) fun v10 h10 =>
    q0 (env 0) (env 2) (env 5) (env 6) h10 := by kernel_rfl
theorem s45a9q6u : (fun (env : Env) (h : Hp) =>
 bnd (pField 5 (env 6) (resv 1 h)) fun v1 h1 =>
 bnd (pLoad1 v1 h1) fun v2 h2 =>
 bnd (pField 5 (env 5) h2) fun v3 h3 =>
 bnd (pLoad1 v3 h3) fun v4 h4 =>
 bnd (pIndexAddr 6 v4 (.i .i64 (Int.ofNat 0)) h4) fun v5 h5 =>
 bnd (pLoadA 6 v5 h5) fun v6 h6 =>
 bnd (pBuildSliceAt (nthPos 0 h.next) [(.i .i64 (Int.ofNat 0)), (.s []), (.i .i64 (Int.ofNat 0)), .l0, .l0, .l0] 1 [(0, 6, v6)] h6) fun v7 h7 =>
 bnd (pAppend 6 104 v2 v7 h7) fun v8 h8 =>
 bnd (pField 5 (env 6) h8) fun v9 h9 =>
 bnd (pStore 1 v9 v8 h9) fun v10 h10 =>
    s45a10 rec n (env 0) (env 2) (env 5) (env 6) h10) = (K4 (s45a9 rec n) 0 2 5 6) := by kernel_rfl
theorem s45a9e : D45 rec n c45x9 x0 r45 = (K4 (s45a9 rec n) 0 2 5 6) :=
  (s45a9p5 rec n).trans
  ((s45a9q6 rec n (s45a10 rec n)).trans (s45a9q6u rec n))
theorem s45a8p7 : D45 rec n c45x8 x0 r45 = D45 rec n c45x18 x0 (K4 (s45a9 rec n) 0 2 5 6) :=
  congrArg (fun k => D45 rec n c45x18 x0 k) (s45a9e rec n)
theorem s45a8q8 (q0 : TT4) : D45 rec n c45x18 x0 (K4 q0 0 2 5 6) = fun (env : Env) (h : Hp) =>
 bnd (pBuild [(.i .i64 (Int.ofNat 0)), (.s []), (.i .i64 (Int.ofNat 0)), .l0, .l0, .l0] [(0, 1, (.i .i64 (Int.ofNat 8)))] h) fun v1 h1 =>
 bnd (pNew [(.i .i64 (Int.ofNat 0)), (.s []), (.i .i64 (Int.ofNat 0)), .l0, .l0, .l0] h1) fun v2 h2 =>
 bnd (pStore 6 v2 v1 h2) fun _ h3 =>
    q0 (env 0) (env 2) (env 5) v2 h3 := by kernel_rfl
theorem s45a8q8u : (fun (env : Env) (h : Hp) =>
 bnd (pBuild [(.i .i64 (Int.ofNat 0)), (.s []), (.i .i64 (Int.ofNat 0)), .l0, .l0, .l0] [(0, 1, (.i .i64 (Int.ofNat 8)))] h) fun v1 h1 =>
 bnd (pNew [(.i .i64 (Int.ofNat 0)), (.s []), (.i .i64 (Int.ofNat 0)), .l0, .l0, .l0] h1) fun v2 h2 =>
 bnd (pStore 6 v2 v1 h2) fun _ h3 =>
    s45a9 rec n (env 0) (env 2) (env 5) v2 h3) = (K3 (s45a8 rec n) 0 2 5) := by kernel_rfl
theorem s45a8e : D45 rec n c45x8 x0 r45 = (K3 (s45a8 rec n) 0 2 5) :=
  (s45a8p7 rec n).trans
  ((s45a8q8 rec n (s45a9 rec n)).trans (s45a8q8u rec n))
theorem s45a7p9 : D45 rec n c45x7 x0 r45 = D45 rec n c45x19 x0 (K3 (s45a8 rec n) 0 2 5) :=
  congrArg (fun k => D45 rec n c45x19 x0 k) (s45a8e rec n)
theorem s45a7e : D45 rec n c45x7 x0 r45 = (K3 (s45a7 rec n) 0 2 5) :=
  (s45a7p9 rec n).trans
  ((by kernel_rfl))
theorem s45a6p10 : D45 rec n c45x6 x0 r45 = D45 rec n c45x20 x0 (K3 (s45a7 rec n) 0 2 5) :=
  congrArg (fun k => D45 rec n c45x20 x0 k) (s45a7e rec n)
theorem s45a6e : D45 rec n c45x6 x0 r45 = (K3 (s45a6 rec n) 0 2 5) :=
  (s45a6p10 rec n).trans
  ((by kernel_rfl))
theorem s45a5p11 : D45 rec n c45x5 x0 r45 = D45 rec n c45x21 x0 (K3 (s45a6 rec n) 0 2 5) :=
  congrArg (fun k => D45 rec n c45x21 x0 k) (s45a6e rec n)
theorem s45a5e : D45 rec n c45x5 x0 r45 = (K3 (s45a5 rec n) 0 2 5) :=
  (s45a5p11 rec n).trans
  ((by kernel_rfl))
theorem s45a4p12 : D45 rec n c45x4 x0 r45 = D45 rec n c45x22 x0 (K3 (s45a5 rec n) 0 2 5) :=
  congrArg (fun k => D45 rec n c45x22 x0 k) (s45a5e rec n)
theorem s45a4e : D45 rec n c45x4 x0 r45 = (K3 (s45a4 rec n) 0 2 5) :=
  (s45a4p12 rec n).trans
  ((by kernel_rfl))
theorem s45a3p13 : D45 rec n c45x3 x0 r45 = D45 rec n c45x23 x0 (K3 (s45a4 rec n) 0 2 5) :=
  congrArg (fun k => D45 rec n c45x23 x0 k) (s45a4e rec n)
theorem s45a3e : D45 rec n c45x3 x0 r45 = (K3 (s45a3 rec n) 0 2 5) :=
  (s45a3p13 rec n).trans
  ((by kernel_rfl))
theorem s45a2p14 : D45 rec n c45x2 x0 r45 = D45 rec n c45x24 x0 (K3 (s45a3 rec n) 0 2 5) :=
  congrArg (fun k => D45 rec n c45x24 x0 k) (s45a3e rec n)
theorem s45a2q15 (q0 : TT3) : D45 rec n c45x24 x0 (K3 q0 0 2 5) = fun (env : Env) (h : Hp) =>
 bnd (rec 57 [(env 0)] h) fun v1 h1 =>
 bnd (pNew [(.i .i64 (Int.ofNat 0)), (.s []), (.i .i64 (Int.ofNat 0)), .l0, .l0, .l0] h1) fun v2 h2 =>
 bnd (pStore 6 v2 v1 h2) fun _ h3 =>
    q0 (env 0) (env 2) v2 h3 := by kernel_rfl
theorem s45a2q15u : (fun (env : Env) (h : Hp) =>
 bnd (rec 57 [(env 0)] h) fun v1 h1 =>
 bnd (pNew [(.i .i64 (Int.ofNat 0)), (.s []), (.i .i64 (Int.ofNat 0)), .l0, .l0, .l0] h1) fun v2 h2 =>
 bnd (pStore 6 v2 v1 h2) fun _ h3 =>
    s45a3 rec n (env 0) (env 2) v2 h3) = (K2 (s45a2 rec n) 0 2) := by kernel_rfl
theorem s45a2e : D45 rec n c45x2 x0 r45 = (K2 (s45a2 rec n) 0 2) :=
  (s45a2p14 rec n).trans
  ((s45a2q15 rec n (s45a3 rec n)).trans (s45a2q15u rec n))
theorem s45a1p16 : D45 rec n c45x1 x0 r45 = D45 rec n c45x25 x0 (K2 (s45a2 rec n) 0 2) :=
  congrArg (fun k => D45 rec n c45x25 x0 k) (s45a2e rec n)
theorem s45a1q17 (q0 : TT2) : D45 rec n c45x25 x0 (K2 q0 0 2) = fun (env : Env) (h : Hp) =>
 bnd (rec 41 [(env 0), (.i .i64 (Int.ofNat 1)), (.s [])] h) fun v1 h1 =>
 bnd (gD v1 true (some ((env 0), h1)) h1) fun v2 h2 =>
 bnd (gD v1 true (rec 46 [v2, (.i .i64 (Int.ofNat 1))] h2) h2) fun v3 h3 =>
 bnd (gD v1 true (pPart1 0 v3 h3) h3) fun v4 h4 =>
 bnd (gD v1 true (pInt .eql v4 (.i .i64 (Int.ofNat 9)) h4) h4) fun v5 h5 =>
 bnd (pPick v1 v5 (.b false) h5) fun v6 h6 =>
 ifD v6 (
 bnd (rec 42 [(env 0)] h6) fun v7 h7 =>
 bnd (pPart1 1 v7 h7) fun v8 h8 =>
 bnd (rec 42 [(env 0)] h8) fun v9 h9 =>
 bnd (rec 45 [(env 0)] h9) fun v10 h10 =>
 bnd (pNew [(.i .i64 (Int.ofNat 0)), (.s []), (.i .i64 (Int.ofNat 0)), .l0, .l0, .l0] h10) fun v11 h11 =>
 bnd (pStore 6 v11 v10 h11) fun _ h12 =>
 bnd (pLoadA 6 v11 h12) fun v13 h13 =>
 bnd (pBuildSlice [(.i .i64 (Int.ofNat 0)), (.s []), (.i .i64 (Int.ofNat 0)), .l0, .l0, .l0] 1 [(0, 6, v13)] h13) fun v14 h14 =>
 bnd (pBuild [(.i .i64 (Int.ofNat 0)), (.s []), (.i .i64 (Int.ofNat 0)), .l0, .l0, .l0] [(0, 1, (.i .i64 (Int.ofNat 6))), (1, 1, v8), (5, 1, v14)] h14) fun v15 h15 =>
 bnd (pStore 6 (env 2) v15 h15) fun _ h16 =>
 bnd (pLoadA 6 (env 2) h16) fun v17 _ =>
 some (v17, h16)) (
      q0 (env 0) (env 2) h6) := by kernel_rfl
theorem s45a1q17u : (fun (env : Env) (h : Hp) =>
 bnd (rec 41 [(env 0), (.i .i64 (Int.ofNat 1)), (.s [])] h) fun v1 h1 =>
 bnd (gD v1 true (some ((env 0), h1)) h1) fun v2 h2 =>
 bnd (gD v1 true (rec 46 [v2, (.i .i64 (Int.ofNat 1))] h2) h2) fun v3 h3 =>
 bnd (gD v1 true (pPart1 0 v3 h3) h3) fun v4 h4 =>
 bnd (gD v1 true (pInt .eql v4 (.i .i64 (Int.ofNat 9)) h4) h4) fun v5 h5 =>
 bnd (pPick v1 v5 (.b false) h5) fun v6 h6 =>
 ifD v6 (
 bnd (rec 42 [(env 0)] h6) fun v7 h7 =>
 bnd (pPart1 1 v7 h7) fun v8 h8 =>
 bnd (rec 42 [(env 0)] h8) fun v9 h9 =>
 bnd (rec 45 [(env 0)] h9) fun v10 h10 =>
 bnd (pNew [(.i .i64 (Int.ofNat 0)), (.s []), (.i .i64 (Int.ofNat 0)), .l0, .l0, .l0] h10) fun v11 h11 =>
 bnd (pStore 6 v11 v10 h11) fun _ h12 =>
 bnd (pLoadA 6 v11 h12) fun v13 h13 =>
 bnd (pBuildSlice [(.i .i64 (Int.ofNat 0)), (.s []), (.i .i64 (Int.ofNat 0)), .l0, .l0, .l0] 1 [(0, 6, v13)] h13) fun v14 h14 =>
 bnd (pBuild [(.i .i64 (Int.ofNat 0)), (.s []), (.i .i64 (Int.ofNat 0)), .l0, .l0, .l0] [(0, 1, (.i .i64 (Int.ofNat 6))), (1, 1, v8), (5, 1, v14)] h14) fun v15 h15 =>
 bnd (pStore 6 (env 2) v15 h15) fun _ h16 =>
 bnd (pLoadA 6 (env 2) h16) fun v17 _ =>
 some (v17, h16)) (
      s45a2 rec n (env 0) (env 2) h6)) = (K2 (s45a1 rec n) 0 2) := by kernel_rfl
theorem s45a1e : D45 rec n c45x1 x0 r45 = (K2 (s45a1 rec n) 0 2) :=
  (s45a1p16 rec n).trans
  ((s45a1q17 rec n (s45a2 rec n)).trans (s45a1q17u rec n))
theorem s45p18 : D45 rec n c45 x0 r45 = D45 rec n c45x26 x0 (K2 (s45a1 rec n) 0 2) :=
  congrArg (fun k => D45 rec n c45x26 x0 k) (s45a1e rec n)
theorem s45q19 (q0 : TT2) : D45 rec n c45x26 x0 (K2 q0 0 2) = fun (env : Env) (h : Hp) =>
 bnd (pNew [(.i .i64 (Int.ofNat 0)), (.s []), (.i .i64 (Int.ofNat 0)), .l0, .l0, .l0] h) fun v1 h1 =>
    q0 (env 0) v1 h1 := by kernel_rfl
theorem s45q19u : (fun (env : Env) (h : Hp) =>
 bnd (pNew [(.i .i64 (Int.ofNat 0)), (.s []), (.i .i64 (Int.ofNat 0)), .l0, .l0, .l0] h) fun v1 h1 =>
    s45a1 rec n (env 0) v1 h1) = (K1 (s45 rec n) 0) := by kernel_rfl
theorem s45m : D45 rec n c45 x0 r45 = (K1 (s45 rec n) 0) :=
  (s45p18 rec n).trans
  ((s45q19 rec n (s45a1 rec n)).trans (s45q19u rec n))
theorem s45ok (args : List DV) (h : Hp) : bodyD CF rec n 45 args h = s45 rec n (args.getD 0 undefD) h :=
  (by kernel_rfl : bodyD CF rec n 45 args h = D45 rec n c45 x0 r45 (argsE args) h).trans ((congrFun (congrFun (s45m rec n) (argsE args)) h).trans (by kernel_rfl))
/-- vivariumref07.P).ahead -/
def s46 (rec : RT) (n : Nat) (x0 x1 : DV) (h0 : Hp) : Res :=
 bnd (pNew [(.i .i64 (Int.ofNat 0)), (.s []), (.i .i64 (Int.ofNat 0)), (.i .i64 (Int.ofNat 0))] h0) fun v1 h1 =>
 bnd (pNil x0 h1) fun v2 h2 =>
 bnd (pField 1 v2 h2) fun v3 h3 =>
 bnd (pLoad1 v3 h3) fun v4 h4 =>
 bnd (pInt .add v4 x1 h4) fun v5 h5 =>
 bnd (pNil x0 h5) fun v6 h6 =>
 bnd (pField 0 v6 h6) fun v7 h7 =>
 bnd (pLoad1 v7 h7) fun v8 h8 =>
 bnd (pLen v8 h8) fun v9 h9 =>
 bnd (pInt .geq v5 v9 h9) fun v10 h10 =>
 ifD v10 (
 bnd (pNil x0 h10) fun v11 h11 =>
 bnd (pField 0 v11 h11) fun v12 h12 =>
 bnd (pLoad1 v12 h12) fun v13 h13 =>
 bnd (pNil x0 h13) fun v14 h14 =>
 bnd (pField 0 v14 h14) fun v15 h15 =>
 bnd (pLoad1 v15 h15) fun v16 h16 =>
 bnd (pLen v16 h16) fun v17 h17 =>
 bnd (pInt .sub v17 (.i .i64 (Int.ofNat 1)) h17) fun v18 h18 =>
 bnd (pIndexAddr 4 v13 v18 h18) fun v19 h19 =>
 bnd (pLoadA 4 v19 h19) fun v20 h20 =>
 bnd (pStore 4 v1 v20 h20) fun v21 h21 =>
 bnd (pLoadA 4 v1 h21) fun v22 _ =>
 some (v22, h21)) (
 bnd (pNil x0 h10) fun v23 h23 =>
 bnd (pField 0 v23 h23) fun v24 h24 =>
 bnd (pLoad1 v24 h24) fun v25 h25 =>
 bnd (pNil x0 h25) fun v26 h26 =>
 bnd (pField 1 v26 h26) fun v27 h27 =>
 bnd (pLoad1 v27 h27) fun v28 h28 =>
 bnd (pInt .add v28 x1 h28) fun v29 h29 =>
 bnd (pIndexAddr 4 v25 v29 h29) fun v30 h30 =>
 bnd (pLoadA 4 v30 h30) fun v31 h31 =>
 bnd (pStore 4 v1 v31 h31) fun v32 h32 =>
 bnd (pLoadA 4 v1 h32) fun v33 _ =>
 some (v33, h32))
abbrev c46 : Code := cf Try.f46
abbrev r46 : K := retK CF Try.f46
def D46 (rec : RT) (n : Nat) (c : Code) (X : Nat → K) (k : K) : K := codeD CF rec 41 n c X r46 k
theorem s46m : D46 rec n c46 x0 r46 = (K2 (s46 rec n) 0 1) :=
  (by kernel_rfl)
theorem s46ok (args : List DV) (h : Hp) : bodyD CF rec n 46 args h = s46 rec n (args.getD 0 undefD) (args.getD 1 undefD) h :=
  (by kernel_rfl : bodyD CF rec n 46 args h = D46 rec n c46 x0 r46 (argsE args) h).trans ((congrFun (congrFun (s46m rec n) (argsE args)) h).trans (by kernel_rfl))
def s47a3 (rec : RT) (n : Nat) (x0 x7 : DV) (h0 : Hp) : Res :=
 bnd (pNil x0 h0) fun v1 h1 =>
 bnd (pField 0 v1 h1) fun v2 h2 =>
 bnd (pLoad1 v2 h2) fun v3 h3 =>
 bnd (pNil x0 h3) fun v4 h4 =>
 bnd (pField 1 v4 h4) fun v5 h5 =>
 bnd (pLoad1 v5 h5) fun v6 h6 =>
 bnd (pSliceS v3 (some x7) (some v6) h6) fun v7 h7 =>
 some (v7, h7)
def s47a4b (rec : RT) (n : Nat) (kk4 : TT4) (x0 x1 x2 x7 : DV) (h0 : Hp) : Res :=
 bnd (pNil x0 h0) fun v1 h1 =>
 bnd (pField 1 v1 h1) fun v2 h2 =>
 bnd (pLoad1 v2 h2) fun v3 h3 =>
 bnd (pNil x0 h3) fun v4 h4 =>
 bnd (pField 0 v4 h4) fun v5 h5 =>
 bnd (pLoad1 v5 h5) fun v6 h6 =>
 bnd (pLenS v6 h6) fun v7 h7 =>
 bnd (pInt .lss v3 v7 h7) fun v8 h8 =>
 bnd (gD v8 true (some (x0, h8)) h8) fun v9 h9 =>
 bnd (gD v8 true (pNil v9 h9) h9) fun v10 h10 =>
 bnd (gD v8 true (pField 1 v10 h10) h10) fun v11 h11 =>
 bnd (gD v8 true (pLoad1 v11 h11) h11) fun v12 h12 =>
 bnd (gD v8 true (some (x7, h12)) h12) fun v13 h13 =>
 bnd (gD v8 true (pInt .sub v12 v13 h13) h13) fun v14 h14 =>
 bnd (gD v8 true (some (x2, h14)) h14) fun v15 h15 =>
 bnd (gD v8 true (pInt .lss v14 v15 h15) h15) fun v16 h16 =>
 bnd (pPick v8 v16 (.b false) h16) fun v17 h17 =>
 bnd (gD v17 true (some (x1, h17)) h17) fun v18 h18 =>
 bnd (gD v17 true (some (x0, h18)) h18) fun v19 h19 =>
 bnd (gD v17 true (pNil v19 h19) h19) fun v20 h20 =>
 bnd (gD v17 true (pField 0 v20 h20) h20) fun v21 h21 =>
 bnd (gD v17 true (pLoad1 v21 h21) h21) fun v22 h22 =>
 bnd (gD v17 true (some (x0, h22)) h22) fun v23 h23 =>
 bnd (gD v17 true (pNil v23 h23) h23) fun v24 h24 =>
 bnd (gD v17 true (pField 1 v24 h24) h24) fun v25 h25 =>
 bnd (gD v17 true (pLoad1 v25 h25) h25) fun v26 h26 =>
 bnd (gD v17 true (pIndexS v22 v26 h26) h26) fun v27 h27 =>
 bnd (gD v17 true (pCall CF rec v18 [v27] h27) h27) fun v28 h28 =>
 bnd (pPick v17 v28 (.b false) h28) fun v29 h29 =>
 ifD v29 (
 bnd (pNil x0 h29) fun v30 h30 =>
 bnd (pField 1 v30 h30) fun v31 h31 =>
 bnd (pLoad1 v31 h31) fun v32 h32 =>
 bnd (pInt .add v32 (.i .i64 (Int.ofNat 1)) h32) fun v33 h33 =>
 bnd (pNil x0 h33) fun v34 h34 =>
 bnd (pField 1 v34 h34) fun v35 h35 =>
 bnd (pStore 1 v35 v33 h35) fun _ h36 =>
      kk4 x0 x1 x2 x7 h36) (
      s47a3 rec n x0 x7 h29)
def s47a4l (rec : RT) (n : Nat) (m : Nat) : TT4 :=
  Nat.rec (motive := fun _ => TT4) (fun _ _ _ _ _ => none) (fun _ ih => s47a4b rec n ih) m
def s47a4 (rec : RT) (n : Nat) : TT4 := s47a4l rec n n
def s47a2 (rec : RT) (n : Nat) (x0 x1 x2 x7 : DV) (h0 : Hp) : Res :=
  s47a4 rec n x0 x1 x2 x7 h0
def s47a1 (rec : RT) (n : Nat) (x0 x1 x2 : DV) (h0 : Hp) : Res :=
 bnd (pNil x0 h0) fun v1 h1 =>
 bnd (pField 1 v1 h1) fun v2 h2 =>
 bnd (pLoad1 v2 h2) fun v3 h3 =>
  s47a2 rec n x0 x1 x2 v3 h3
/-- lex.reader).run -/
def s47 (rec : RT) (n : Nat) (x0 x1 x2 : DV) (h0 : Hp) : Res :=
  s47a1 rec n x0 x1 x2 h0
abbrev c47 : Code := cf Try.f47
abbrev c47x1 : Code := cR c47
abbrev c47x2 : Code := cR c47x1
abbrev c47x3 : Code := cR c47x2
abbrev c47x4 : Code := cL c47x2
abbrev c47x5 : Code := cL c47x4
abbrev c47x6 : Code := cL c47x5
abbrev c47x7 : Code := cL c47x1
abbrev c47x8 : Code := cL c47
abbrev r47 : K := retK CF Try.f47
def D47 (rec : RT) (n : Nat) (c : Code) (X : Nat → K) (k : K) : K := codeD CF rec 62 n c X r47 k
theorem s47a3e : D47 rec n c47x3 x0 r47 = (K2 (s47a3 rec n) 0 7) :=
  (by kernel_rfl)
theorem s47a4be (kk4 : TT4) : D47 rec n c47x6 (xs x0 0 (K2 (s47a3 rec n) 0 7)) (K4 kk4 0 1 2 7) = (K4 (s47a4b rec n kk4) 0 1 2 7) :=
  (by kernel_rfl)
theorem s47a4le (m : Nat) : loopN (fun kk => D47 rec n c47x6 (xs x0 0 (K2 (s47a3 rec n) 0 7)) kk) m = (K4 (s47a4l rec n m) 0 1 2 7) := by
  induction m with
  | zero => exact (by kernel_rfl : loopN (fun kk => D47 rec n c47x6 (xs x0 0 (K2 (s47a3 rec n) 0 7)) kk) 0 = (K4 (s47a4l rec n 0) 0 1 2 7))
  | succ m ih =>
    refine (by kernel_rfl : loopN (fun kk => D47 rec n c47x6 (xs x0 0 (K2 (s47a3 rec n) 0 7)) kk) (m + 1) = D47 rec n c47x6 (xs x0 0 (K2 (s47a3 rec n) 0 7)) (loopN (fun kk => D47 rec n c47x6 (xs x0 0 (K2 (s47a3 rec n) 0 7)) kk) m)).trans ?_
    rw [ih]
    exact (s47a4be rec n (s47a4l rec n m)).trans (by kernel_rfl)
theorem s47a4e : D47 rec n c47x5 (xs x0 0 (K2 (s47a3 rec n) 0 7)) (K2 (s47a3 rec n) 0 7) = (K4 (s47a4 rec n) 0 1 2 7) :=
  (by kernel_rfl : D47 rec n c47x5 (xs x0 0 (K2 (s47a3 rec n) 0 7)) (K2 (s47a3 rec n) 0 7) = loopN (fun kk => D47 rec n c47x6 (xs x0 0 (K2 (s47a3 rec n) 0 7)) kk) n).trans ((s47a4le rec n n).trans (by kernel_rfl))
theorem s47a2p1 : D47 rec n c47x2 x0 r47 = D47 rec n c47x4 x0 (K2 (s47a3 rec n) 0 7) :=
  congrArg (fun k => D47 rec n c47x4 x0 k) (s47a3e rec n)
theorem s47a2e : D47 rec n c47x2 x0 r47 = (K4 (s47a2 rec n) 0 1 2 7) :=
  (s47a2p1 rec n).trans
  ((by kernel_rfl : D47 rec n c47x4 x0 (K2 (s47a3 rec n) 0 7) = D47 rec n c47x5 (xs x0 0 (K2 (s47a3 rec n) 0 7)) (K2 (s47a3 rec n) 0 7)).trans
  ((s47a4e rec n).trans (by kernel_rfl)))
theorem s47a1p2 : D47 rec n c47x1 x0 r47 = D47 rec n c47x7 x0 (K4 (s47a2 rec n) 0 1 2 7) :=
  congrArg (fun k => D47 rec n c47x7 x0 k) (s47a2e rec n)
theorem s47a1e : D47 rec n c47x1 x0 r47 = (K3 (s47a1 rec n) 0 1 2) :=
  (s47a1p2 rec n).trans
  ((by kernel_rfl))
theorem s47p3 : D47 rec n c47 x0 r47 = D47 rec n c47x8 x0 (K3 (s47a1 rec n) 0 1 2) :=
  congrArg (fun k => D47 rec n c47x8 x0 k) (s47a1e rec n)
theorem s47m : D47 rec n c47 x0 r47 = (K3 (s47 rec n) 0 1 2) :=
  (s47p3 rec n).trans
  ((by kernel_rfl))
theorem s47ok (args : List DV) (h : Hp) : bodyD CF rec n 47 args h = s47 rec n (args.getD 0 undefD) (args.getD 1 undefD) (args.getD 2 undefD) h :=
  (by kernel_rfl : bodyD CF rec n 47 args h = D47 rec n c47 x0 r47 (argsE args) h).trans ((congrFun (congrFun (s47m rec n) (argsE args)) h).trans (by kernel_rfl))
/-- lex.in -/
def s48 (rec : RT) (n : Nat) (x0 : DV) (h0 : Hp) : Res :=
 bnd (pBox x0 h0) fun v1 h1 =>
 some ((.f 62 [] [v1]), h1)
abbrev c48 : Code := cf Try.f48
abbrev r48 : K := retK CF Try.f48
def D48 (rec : RT) (n : Nat) (c : Code) (X : Nat → K) (k : K) : K := codeD CF rec 4 n c X r48 k
theorem s48m : D48 rec n c48 x0 r48 = (K1 (s48 rec n) 0) :=
  (by kernel_rfl)
theorem s48ok (args : List DV) (h : Hp) : bodyD CF rec n 48 args h = s48 rec n (args.getD 0 undefD) h :=
  (by kernel_rfl : bodyD CF rec n 48 args h = D48 rec n c48 x0 r48 (argsE args) h).trans ((congrFun (congrFun (s48m rec n) (argsE args)) h).trans (by kernel_rfl))
/-- strings.IndexByte -/
def s49 (rec : RT) (n : Nat) (x0 x1 : DV) (h0 : Hp) : Res :=
 bnd (rec 63 [x0, x1] h0) fun v1 h1 =>
 some (v1, h1)
abbrev c49 : Code := cf Try.f49
abbrev r49 : K := retK CF Try.f49
def D49 (rec : RT) (n : Nat) (c : Code) (X : Nat → K) (k : K) : K := codeD CF rec 8 n c X r49 k
theorem s49m : D49 rec n c49 x0 r49 = (K2 (s49 rec n) 0 1) :=
  (by kernel_rfl)
theorem s49ok (args : List DV) (h : Hp) : bodyD CF rec n 49 args h = s49 rec n (args.getD 0 undefD) (args.getD 1 undefD) h :=
  (by kernel_rfl : bodyD CF rec n 49 args h = D49 rec n c49 x0 r49 (argsE args) h).trans ((congrFun (congrFun (s49m rec n) (argsE args)) h).trans (by kernel_rfl))
def s50a5 (rec : RT) (n : Nat) (x2 x4 x5 : DV) (h0 : Hp) : Res :=
 bnd (pLoadA 4 x4 h0) fun v1 h1 =>
 bnd (pStore 4 x2 v1 h1) fun _ h2 =>
 bnd (pLoadA 4 x2 h2) fun v3 _ =>
 some (.t [v3, x5], h2)
def s50a4 (rec : RT) (n : Nat) (x0 x2 x4 x5 x6 : DV) (h0 : Hp) : Res :=
 bnd (rec 65 [x6] h0) fun v1 h1 =>
 ifD v1 (
 bnd (pField 0 x4 h1) fun v2 h2 =>
 bnd (pStore 1 v2 (.i .i64 (Int.ofNat 1)) h2) fun _ h3 =>
 bnd (rec 66 [x0] h3) fun v4 h4 =>
 bnd (pExtract 0 v4 h4) fun v5 h5 =>
 bnd (pExtract 1 v4 h5) fun v6 h6 =>
 bnd (pField 1 x4 h6) fun v7 h7 =>
 bnd (pStore 1 v7 v5 h7) fun _ h8 =>
 bnd (pInt .eql v6 (.i .i64 (Int.ofNat 0)) h8) fun v9 h9 =>
 bnd (gD v9 true (some (x0, h9)) h9) fun v10 h10 =>
 bnd (gD v9 true (rec 67 [v10] h10) h10) fun v11 h11 =>
 bnd (pPick v9 v11 (.b false) h11) fun v12 h12 =>
 ifD v12 (
 bnd (pField 1 x4 h12) fun v13 h13 =>
 bnd (pLoad1 v13 h13) fun v14 h14 =>
 bnd (pStr .add v14 (.s [58]) h14) fun v15 h15 =>
 bnd (pField 0 x4 h15) fun v16 h16 =>
 bnd (pStore 1 v16 (.i .i64 (Int.ofNat 2)) h16) fun _ h17 =>
 bnd (pField 1 x4 h17) fun v18 h18 =>
 bnd (pStore 1 v18 v15 h18) fun _ h19 =>
      s50a5 rec n x2 x4 v6 h19) (
      s50a5 rec n x2 x4 v6 h12)) (
 bnd (rec 68 [x6] h1) fun v20 h20 =>
 ifD v20 (
 bnd (pField 0 x4 h20) fun v21 h21 =>
 bnd (pStore 1 v21 (.i .i64 (Int.ofNat 4)) h21) fun _ h22 =>
 bnd (rec 69 [x0] h22) fun v23 h23 =>
 bnd (pExtract 0 v23 h23) fun v24 h24 =>
 bnd (pExtract 1 v23 h24) fun v25 h25 =>
 bnd (pField 2 x4 h25) fun v26 h26 =>
 bnd (pStore 1 v26 v24 h26) fun _ h27 =>
      s50a5 rec n x2 x4 v25 h27) (
 bnd (pInt .eql x6 (.i .u8 (Int.ofNat 39)) h20) fun v28 h28 =>
 ifD v28 (
 bnd (pNil x0 h28) fun v29 h29 =>
 bnd (pField 1 v29 h29) fun v30 h30 =>
 bnd (pLoad1 v30 h30) fun v31 h31 =>
 bnd (pInt .add v31 (.i .i64 (Int.ofNat 1)) h31) fun v32 h32 =>
 bnd (pNil x0 h32) fun v33 h33 =>
 bnd (pField 1 v33 h33) fun v34 h34 =>
 bnd (pStore 1 v34 v32 h34) fun _ h35 =>
 bnd (pField 0 x4 h35) fun v36 h36 =>
 bnd (pStore 1 v36 (.i .i64 (Int.ofNat 5)) h36) fun _ h37 =>
 bnd (rec 70 [x0] h37) fun v38 h38 =>
 bnd (pExtract 0 v38 h38) fun v39 h39 =>
 bnd (pExtract 1 v38 h39) fun v40 h40 =>
 bnd (pField 1 x4 h40) fun v41 h41 =>
 bnd (pStore 1 v41 v39 h41) fun _ h42 =>
        s50a5 rec n x2 x4 v40 h42) (
 bnd (pInt .eql x6 (.i .u8 (Int.ofNat 35)) h28) fun v43 h43 =>
 bnd (gD v43 true (some (x0, h43)) h43) fun v44 h44 =>
 bnd (gD v43 true (rec 64 [v44, (.i .i64 (Int.ofNat 1))] h44) h44) fun v45 h45 =>
 bnd (gD v43 true (pInt .eql v45 (.i .u8 (Int.ofNat 40)) h45) h45) fun v46 h46 =>
 bnd (pPick v43 v46 (.b false) h46) fun v47 h47 =>
 ifD v47 (
 bnd (pNil x0 h47) fun v48 h48 =>
 bnd (pField 1 v48 h48) fun v49 h49 =>
 bnd (pLoad1 v49 h49) fun v50 h50 =>
 bnd (pInt .add v50 (.i .i64 (Int.ofNat 2)) h50) fun v51 h51 =>
 bnd (pNil x0 h51) fun v52 h52 =>
 bnd (pField 1 v52 h52) fun v53 h53 =>
 bnd (pStore 1 v53 v51 h53) fun _ h54 =>
 bnd (pField 0 x4 h54) fun v55 h55 =>
 bnd (pStore 1 v55 (.i .i64 (Int.ofNat 7)) h55) fun _ h56 =>
          s50a5 rec n x2 x4 x5 h56) (
 bnd (pInt .eql x6 (.i .u8 (Int.ofNat 35)) h47) fun v57 h57 =>
 ifD v57 (
 bnd (pNil x0 h57) fun v58 h58 =>
 bnd (pField 1 v58 h58) fun v59 h59 =>
 bnd (pLoad1 v59 h59) fun v60 h60 =>
 bnd (pInt .add v60 (.i .i64 (Int.ofNat 1)) h60) fun v61 h61 =>
 bnd (pNil x0 h61) fun v62 h62 =>
 bnd (pField 1 v62 h62) fun v63 h63 =>
 bnd (pStore 1 v63 v61 h63) fun _ h64 =>
 bnd (pField 0 x4 h64) fun v65 h65 =>
 bnd (pStore 1 v65 (.i .i64 (Int.ofNat 6)) h65) fun _ h66 =>
 bnd (rec 71 [x0] h66) fun v67 h67 =>
 bnd (pExtract 0 v67 h67) fun v68 h68 =>
 bnd (pExtract 1 v67 h68) fun v69 h69 =>
 bnd (pField 1 x4 h69) fun v70 h70 =>
 bnd (pStore 1 v70 v68 h70) fun _ h71 =>
            s50a5 rec n x2 x4 v69 h71) (
 bnd (pInt .eql x6 (.i .u8 (Int.ofNat 58)) h57) fun v72 h72 =>
 bnd (gD v72 true (some (x0, h72)) h72) fun v73 h73 =>
 bnd (gD v72 true (rec 64 [v73, (.i .i64 (Int.ofNat 1))] h73) h73) fun v74 h74 =>
 bnd (gD v72 true (pInt .eql v74 (.i .u8 (Int.ofNat 61)) h74) h74) fun v75 h75 =>
 bnd (pPick v72 v75 (.b false) h75) fun v76 h76 =>
 ifD v76 (
 bnd (pNil x0 h76) fun v77 h77 =>
 bnd (pField 1 v77 h77) fun v78 h78 =>
 bnd (pLoad1 v78 h78) fun v79 h79 =>
 bnd (pInt .add v79 (.i .i64 (Int.ofNat 2)) h79) fun v80 h80 =>
 bnd (pNil x0 h80) fun v81 h81 =>
 bnd (pField 1 v81 h81) fun v82 h82 =>
 bnd (pStore 1 v82 v80 h82) fun _ h83 =>
 bnd (pField 0 x4 h83) fun v84 h84 =>
 bnd (pStore 1 v84 (.i .i64 (Int.ofNat 9)) h84) fun _ h85 =>
              s50a5 rec n x2 x4 x5 h85) (
 bnd (pInt .eql x6 (.i .u8 (Int.ofNat 58)) h76) fun v86 h86 =>
 bnd (gD v86 true (some (x0, h86)) h86) fun v87 h87 =>
 bnd (gD v86 true (rec 64 [v87, (.i .i64 (Int.ofNat 1))] h87) h87) fun v88 h88 =>
 bnd (gD v86 true (rec 65 [v88] h88) h88) fun v89 h89 =>
 bnd (pPick v86 v89 (.b false) h89) fun v90 h90 =>
 ifD v90 (
 bnd (pNil x0 h90) fun v91 h91 =>
 bnd (pField 1 v91 h91) fun v92 h92 =>
 bnd (pLoad1 v92 h92) fun v93 h93 =>
 bnd (pInt .add v93 (.i .i64 (Int.ofNat 1)) h93) fun v94 h94 =>
 bnd (pNil x0 h94) fun v95 h95 =>
 bnd (pField 1 v95 h95) fun v96 h96 =>
 bnd (pStore 1 v96 v94 h96) fun _ h97 =>
 bnd (pField 0 x4 h97) fun v98 h98 =>
 bnd (pStore 1 v98 (.i .i64 (Int.ofNat 8)) h98) fun _ h99 =>
 bnd (rec 66 [x0] h99) fun v100 h100 =>
 bnd (pExtract 0 v100 h100) fun v101 h101 =>
 bnd (pExtract 1 v100 h101) fun v102 h102 =>
 bnd (pField 1 x4 h102) fun v103 h103 =>
 bnd (pStore 1 v103 v101 h103) fun _ h104 =>
                s50a5 rec n x2 x4 v102 h104) (
 bnd (rec 48 [(.s [43, 45, 42, 47, 60, 62, 61, 126, 44, 64, 38, 37])] h90) fun v105 h105 =>
 bnd (pCall CF rec v105 [x6] h105) fun v106 h106 =>
 ifD v106 (
 bnd (rec 48 [(.s [43, 45, 42, 47, 60, 62, 61, 126, 44, 64, 38, 37])] h106) fun v107 h107 =>
 bnd (rec 47 [x0, v107, (.i .i64 (Int.ofNat 2))] h107) fun v108 h108 =>
 bnd (pField 0 x4 h108) fun v109 h109 =>
 bnd (pStore 1 v109 (.i .i64 (Int.ofNat 3)) h109) fun _ h110 =>
 bnd (pField 1 x4 h110) fun v111 h111 =>
 bnd (pStore 1 v111 v108 h111) fun _ h112 =>
                  s50a5 rec n x2 x4 x5 h112) (
 bnd (rec 48 [(.s [94, 46, 59, 40, 41, 91, 93, 124])] h106) fun v113 h113 =>
 bnd (pCall CF rec v113 [x6] h113) fun v114 h114 =>
 ifD v114 (
 bnd (rec 48 [(.s [94, 46, 59, 40, 41, 91, 93, 124])] h114) fun v115 h115 =>
 bnd (rec 47 [x0, v115, (.i .i64 (Int.ofNat 1))] h115) fun v116 h116 =>
 bnd (pField 0 x4 h116) fun v117 h117 =>
 bnd (pStore 1 v117 (.i .i64 (Int.ofNat 10)) h117) fun _ h118 =>
 bnd (pField 1 x4 h118) fun v119 h119 =>
 bnd (pStore 1 v119 v116 h119) fun _ h120 =>
                    s50a5 rec n x2 x4 x5 h120) (
                    s50a5 rec n x2 x4 (.i .i64 (Int.ofNat 10)) h114)))))))))
def s50a3 (rec : RT) (n : Nat) (x0 x2 x4 x5 : DV) (h0 : Hp) : Res :=
 bnd (rec 64 [x0, (.i .i64 (Int.ofNat 0))] h0) fun v1 h1 =>
  s50a4 rec n x0 x2 x4 x5 v1 h1
def s50a2 (rec : RT) (n : Nat) (x0 x2 x4 : DV) (h0 : Hp) : Res :=
  s50a3 rec n x0 x2 x4 (.i .i64 (Int.ofNat 0)) h0
def s50a1 (rec : RT) (n : Nat) (x0 x2 : DV) (h0 : Hp) : Res :=
 bnd (pNil x0 h0) fun v1 h1 =>
 bnd (pField 1 v1 h1) fun v2 h2 =>
 bnd (pLoad1 v2 h2) fun v3 h3 =>
 bnd (pBuild [(.i .i64 (Int.ofNat 0)), (.s []), (.i .i64 (Int.ofNat 0)), (.i .i64 (Int.ofNat 0))] [(3, 1, v3)] h3) fun v4 h4 =>
 bnd (pNew [(.i .i64 (Int.ofNat 0)), (.s []), (.i .i64 (Int.ofNat 0)), (.i .i64 (Int.ofNat 0))] h4) fun v5 h5 =>
 bnd (pStore 4 v5 v4 h5) fun _ h6 =>
  s50a2 rec n x0 x2 v5 h6
/-- lex.reader).token -/
def s50 (rec : RT) (n : Nat) (x0 : DV) (h0 : Hp) : Res :=
 bnd (pNew [(.i .i64 (Int.ofNat 0)), (.s []), (.i .i64 (Int.ofNat 0)), (.i .i64 (Int.ofNat 0))] h0) fun v1 h1 =>
  s50a1 rec n x0 v1 h1
abbrev c50 : Code := cf Try.f50
abbrev c50x1 : Code := cR c50
abbrev c50x2 : Code := cR c50x1
abbrev c50x3 : Code := cR c50x2
abbrev c50x4 : Code := cR c50x3
abbrev c50x5 : Code := cR c50x4
abbrev c50x6 : Code := cL c50x4
abbrev c50x7 : Code := cL c50x3
abbrev c50x8 : Code := cL c50x2
abbrev c50x9 : Code := cL c50x1
abbrev c50x10 : Code := cL c50
abbrev r50 : K := retK CF Try.f50
def D50 (rec : RT) (n : Nat) (c : Code) (X : Nat → K) (k : K) : K := codeD CF rec 153 n c X r50 k
theorem s50a5e : D50 rec n c50x5 x0 r50 = (K3 (s50a5 rec n) 2 4 5) :=
  (by kernel_rfl)
theorem s50a4p1 : D50 rec n c50x4 x0 r50 = D50 rec n c50x6 x0 (K3 (s50a5 rec n) 2 4 5) :=
  congrArg (fun k => D50 rec n c50x6 x0 k) (s50a5e rec n)
theorem s50a4e : D50 rec n c50x4 x0 r50 = (K5 (s50a4 rec n) 0 2 4 5 6) :=
  (s50a4p1 rec n).trans
  ((by kernel_rfl))
theorem s50a3p2 : D50 rec n c50x3 x0 r50 = D50 rec n c50x7 x0 (K5 (s50a4 rec n) 0 2 4 5 6) :=
  congrArg (fun k => D50 rec n c50x7 x0 k) (s50a4e rec n)
theorem s50a3e : D50 rec n c50x3 x0 r50 = (K4 (s50a3 rec n) 0 2 4 5) :=
  (s50a3p2 rec n).trans
  ((by kernel_rfl))
theorem s50a2p3 : D50 rec n c50x2 x0 r50 = D50 rec n c50x8 x0 (K4 (s50a3 rec n) 0 2 4 5) :=
  congrArg (fun k => D50 rec n c50x8 x0 k) (s50a3e rec n)
theorem s50a2e : D50 rec n c50x2 x0 r50 = (K3 (s50a2 rec n) 0 2 4) :=
  (s50a2p3 rec n).trans
  ((by kernel_rfl))
theorem s50a1p4 : D50 rec n c50x1 x0 r50 = D50 rec n c50x9 x0 (K3 (s50a2 rec n) 0 2 4) :=
  congrArg (fun k => D50 rec n c50x9 x0 k) (s50a2e rec n)
theorem s50a1q5 (q0 : TT3) : D50 rec n c50x9 x0 (K3 q0 0 2 4) = fun (env : Env) (h : Hp) =>
 bnd (pNil (env 0) h) fun v1 h1 =>
 bnd (pField 1 v1 h1) fun v2 h2 =>
 bnd (pLoad1 v2 h2) fun v3 h3 =>
 bnd (pBuild [(.i .i64 (Int.ofNat 0)), (.s []), (.i .i64 (Int.ofNat 0)), (.i .i64 (Int.ofNat 0))] [(3, 1, v3)] h3) fun v4 h4 =>
 bnd (pNew [(.i .i64 (Int.ofNat 0)), (.s []), (.i .i64 (Int.ofNat 0)), (.i .i64 (Int.ofNat 0))] h4) fun v5 h5 =>
 bnd (pStore 4 v5 v4 h5) fun _ h6 =>
    q0 (env 0) (env 2) v5 h6 := by kernel_rfl
theorem s50a1q5u : (fun (env : Env) (h : Hp) =>
 bnd (pNil (env 0) h) fun v1 h1 =>
 bnd (pField 1 v1 h1) fun v2 h2 =>
 bnd (pLoad1 v2 h2) fun v3 h3 =>
 bnd (pBuild [(.i .i64 (Int.ofNat 0)), (.s []), (.i .i64 (Int.ofNat 0)), (.i .i64 (Int.ofNat 0))] [(3, 1, v3)] h3) fun v4 h4 =>
 bnd (pNew [(.i .i64 (Int.ofNat 0)), (.s []), (.i .i64 (Int.ofNat 0)), (.i .i64 (Int.ofNat 0))] h4) fun v5 h5 =>
 bnd (pStore 4 v5 v4 h5) fun _ h6 =>
    s50a2 rec n (env 0) (env 2) v5 h6) = (K2 (s50a1 rec n) 0 2) := by kernel_rfl
theorem s50a1e : D50 rec n c50x1 x0 r50 = (K2 (s50a1 rec n) 0 2) :=
  (s50a1p4 rec n).trans
  ((s50a1q5 rec n (s50a2 rec n)).trans (s50a1q5u rec n))
theorem s50p6 : D50 rec n c50 x0 r50 = D50 rec n c50x10 x0 (K2 (s50a1 rec n) 0 2) :=
  congrArg (fun k => D50 rec n c50x10 x0 k) (s50a1e rec n)
theorem s50q7 (q0 : TT2) : D50 rec n c50x10 x0 (K2 q0 0 2) = fun (env : Env) (h : Hp) =>
 bnd (pNew [(.i .i64 (Int.ofNat 0)), (.s []), (.i .i64 (Int.ofNat 0)), (.i .i64 (Int.ofNat 0))] h) fun v1 h1 =>
    q0 (env 0) v1 h1 := by kernel_rfl
theorem s50q7u : (fun (env : Env) (h : Hp) =>
 bnd (pNew [(.i .i64 (Int.ofNat 0)), (.s []), (.i .i64 (Int.ofNat 0)), (.i .i64 (Int.ofNat 0))] h) fun v1 h1 =>
    s50a1 rec n (env 0) v1 h1) = (K1 (s50 rec n) 0) := by kernel_rfl
theorem s50m : D50 rec n c50 x0 r50 = (K1 (s50 rec n) 0) :=
  (s50p6 rec n).trans
  ((s50q7 rec n (s50a1 rec n)).trans (s50q7u rec n))
theorem s50ok (args : List DV) (h : Hp) : bodyD CF rec n 50 args h = s50 rec n (args.getD 0 undefD) h :=
  (by kernel_rfl : bodyD CF rec n 50 args h = D50 rec n c50 x0 r50 (argsE args) h).trans ((congrFun (congrFun (s50m rec n) (argsE args)) h).trans (by kernel_rfl))
/-- parse.parser).is -/
def s51 (rec : RT) (n : Nat) (x0 x1 x2 : DV) (h0 : Hp) : Res :=
 bnd (rec 55 [x0, (.i .i64 (Int.ofNat 0))] h0) fun v1 h1 =>
 bnd (pNew [(.i .i64 (Int.ofNat 0)), (.s []), (.i .i64 (Int.ofNat 0)), (.i .i64 (Int.ofNat 0))] h1) fun v2 h2 =>
 bnd (pStore 4 v2 v1 h2) fun _ h3 =>
 bnd (pNil x0 h3) fun v4 h4 =>
 bnd (pField 3 v4 h4) fun v5 h5 =>
 bnd (pLoad1 v5 h5) fun v6 h6 =>
 bnd (pInt .eql v6 (.i .i64 (Int.ofNat 0)) h6) fun v7 h7 =>
 bnd (gD v7 true (pField 0 v2 h7) h7) fun v8 h8 =>
 bnd (gD v7 true (pLoad1 v8 h8) h8) fun v9 h9 =>
 bnd (gD v7 true (some (x1, h9)) h9) fun v10 h10 =>
 bnd (gD v7 true (pInt .eql v9 v10 h10) h10) fun v11 h11 =>
 bnd (pPick v7 v11 (.b false) h11) fun v12 h12 =>
 bnd (gD v12 true (some (x2, h12)) h12) fun v13 h13 =>
 bnd (gD v12 true (pStr .eql v13 (.s []) h13) h13) fun v14 h14 =>
 bnd (gD v12 true (some (v14, h14)) h14) fun v15 h15 =>
 bnd (gD v15 false (pField 1 v2 h15) h15) fun v16 h16 =>
 bnd (gD v15 false (pLoad1 v16 h16) h16) fun v17 h17 =>
 bnd (gD v15 false (some (x2, h17)) h17) fun v18 h18 =>
 bnd (gD v15 false (pStr .eql v17 v18 h18) h18) fun v19 h19 =>
 bnd (gD v12 true (pPick v15 (.b true) v19 h19) h19) fun v20 h20 =>
 bnd (pPick v12 v20 (.b false) h20) fun v21 h21 =>
 some (v21, h21)
abbrev c51 : Code := cf Try.f51
abbrev r51 : K := retK CF Try.f51
def D51 (rec : RT) (n : Nat) (c : Code) (X : Nat → K) (k : K) : K := codeD CF rec 31 n c X r51 k
theorem s51m : D51 rec n c51 x0 r51 = (K3 (s51 rec n) 0 1 2) :=
  (by kernel_rfl)
theorem s51ok (args : List DV) (h : Hp) : bodyD CF rec n 51 args h = s51 rec n (args.getD 0 undefD) (args.getD 1 undefD) (args.getD 2 undefD) h :=
  (by kernel_rfl : bodyD CF rec n 51 args h = D51 rec n c51 x0 r51 (argsE args) h).trans ((congrFun (congrFun (s51m rec n) (argsE args)) h).trans (by kernel_rfl))
def s52a3 (rec : RT) (n : Nat) (x2 x3 : DV) (h0 : Hp) : Res :=
 bnd (pLoadA 4 x3 h0) fun v1 h1 =>
 bnd (pStore 4 x2 v1 h1) fun _ h2 =>
 bnd (pLoadA 4 x2 h2) fun v3 _ =>
 some (v3, h2)
def s52a2 (rec : RT) (n : Nat) (x0 x2 x3 : DV) (h0 : Hp) : Res :=
 bnd (pField 0 x3 h0) fun v1 h1 =>
 bnd (pLoad1 v1 h1) fun v2 h2 =>
 bnd (pInt .neq v2 (.i .i64 (Int.ofNat 0)) h2) fun v3 h3 =>
 ifD v3 (
 bnd (pNil x0 h3) fun v4 h4 =>
 bnd (pField 0 v4 h4) fun v5 h5 =>
 bnd (pLoad1 v5 h5) fun v6 h6 =>
 bnd (pSlice 4 v6 (some (.i .i64 (Int.ofNat 1))) none h6) fun v7 h7 =>
 bnd (pNil x0 h7) fun v8 h8 =>
 bnd (pField 0 v8 h8) fun v9 h9 =>
 bnd (pStore 1 v9 v7 h9) fun _ h10 =>
    s52a3 rec n x2 x3 h10) (
    s52a3 rec n x2 x3 h3)
def s52a1 (rec : RT) (n : Nat) (x0 x2 : DV) (h0 : Hp) : Res :=
 bnd (rec 55 [x0, (.i .i64 (Int.ofNat 0))] h0) fun v1 h1 =>
 bnd (pNew [(.i .i64 (Int.ofNat 0)), (.s []), (.i .i64 (Int.ofNat 0)), (.i .i64 (Int.ofNat 0))] h1) fun v2 h2 =>
 bnd (pStore 4 v2 v1 h2) fun _ h3 =>
  s52a2 rec n x0 x2 v2 h3
/-- parse.parser).take -/
def s52 (rec : RT) (n : Nat) (x0 : DV) (h0 : Hp) : Res :=
 bnd (pNew [(.i .i64 (Int.ofNat 0)), (.s []), (.i .i64 (Int.ofNat 0)), (.i .i64 (Int.ofNat 0))] h0) fun v1 h1 =>
  s52a1 rec n x0 v1 h1
abbrev c52 : Code := cf Try.f52
abbrev c52x1 : Code := cR c52
abbrev c52x2 : Code := cR c52x1
abbrev c52x3 : Code := cR c52x2
abbrev c52x4 : Code := cL c52x2
abbrev c52x5 : Code := cL c52x1
abbrev c52x6 : Code := cL c52
abbrev r52 : K := retK CF Try.f52
def D52 (rec : RT) (n : Nat) (c : Code) (X : Nat → K) (k : K) : K := codeD CF rec 18 n c X r52 k
theorem s52a3e : D52 rec n c52x3 x0 r52 = (K2 (s52a3 rec n) 2 3) :=
  (by kernel_rfl)
theorem s52a2p1 : D52 rec n c52x2 x0 r52 = D52 rec n c52x4 x0 (K2 (s52a3 rec n) 2 3) :=
  congrArg (fun k => D52 rec n c52x4 x0 k) (s52a3e rec n)
theorem s52a2e : D52 rec n c52x2 x0 r52 = (K3 (s52a2 rec n) 0 2 3) :=
  (s52a2p1 rec n).trans
  ((by kernel_rfl))
theorem s52a1p2 : D52 rec n c52x1 x0 r52 = D52 rec n c52x5 x0 (K3 (s52a2 rec n) 0 2 3) :=
  congrArg (fun k => D52 rec n c52x5 x0 k) (s52a2e rec n)
theorem s52a1q3 (q0 : TT3) : D52 rec n c52x5 x0 (K3 q0 0 2 3) = fun (env : Env) (h : Hp) =>
 bnd (rec 55 [(env 0), (.i .i64 (Int.ofNat 0))] h) fun v1 h1 =>
 bnd (pNew [(.i .i64 (Int.ofNat 0)), (.s []), (.i .i64 (Int.ofNat 0)), (.i .i64 (Int.ofNat 0))] h1) fun v2 h2 =>
 bnd (pStore 4 v2 v1 h2) fun _ h3 =>
    q0 (env 0) (env 2) v2 h3 := by kernel_rfl
theorem s52a1q3u : (fun (env : Env) (h : Hp) =>
 bnd (rec 55 [(env 0), (.i .i64 (Int.ofNat 0))] h) fun v1 h1 =>
 bnd (pNew [(.i .i64 (Int.ofNat 0)), (.s []), (.i .i64 (Int.ofNat 0)), (.i .i64 (Int.ofNat 0))] h1) fun v2 h2 =>
 bnd (pStore 4 v2 v1 h2) fun _ h3 =>
    s52a2 rec n (env 0) (env 2) v2 h3) = (K2 (s52a1 rec n) 0 2) := by kernel_rfl
theorem s52a1e : D52 rec n c52x1 x0 r52 = (K2 (s52a1 rec n) 0 2) :=
  (s52a1p2 rec n).trans
  ((s52a1q3 rec n (s52a2 rec n)).trans (s52a1q3u rec n))
theorem s52p4 : D52 rec n c52 x0 r52 = D52 rec n c52x6 x0 (K2 (s52a1 rec n) 0 2) :=
  congrArg (fun k => D52 rec n c52x6 x0 k) (s52a1e rec n)
theorem s52q5 (q0 : TT2) : D52 rec n c52x6 x0 (K2 q0 0 2) = fun (env : Env) (h : Hp) =>
 bnd (pNew [(.i .i64 (Int.ofNat 0)), (.s []), (.i .i64 (Int.ofNat 0)), (.i .i64 (Int.ofNat 0))] h) fun v1 h1 =>
    q0 (env 0) v1 h1 := by kernel_rfl
theorem s52q5u : (fun (env : Env) (h : Hp) =>
 bnd (pNew [(.i .i64 (Int.ofNat 0)), (.s []), (.i .i64 (Int.ofNat 0)), (.i .i64 (Int.ofNat 0))] h) fun v1 h1 =>
    s52a1 rec n (env 0) v1 h1) = (K1 (s52 rec n) 0) := by kernel_rfl
theorem s52m : D52 rec n c52 x0 r52 = (K1 (s52 rec n) 0) :=
  (s52p4 rec n).trans
  ((s52q5 rec n (s52a1 rec n)).trans (s52q5u rec n))
theorem s52ok (args : List DV) (h : Hp) : bodyD CF rec n 52 args h = s52 rec n (args.getD 0 undefD) h :=
  (by kernel_rfl : bodyD CF rec n 52 args h = D52 rec n c52 x0 r52 (argsE args) h).trans ((congrFun (congrFun (s52m rec n) (argsE args)) h).trans (by kernel_rfl))
/-- parse.parser).expression -/
def s53 (rec : RT) (n : Nat) (x0 : DV) (h0 : Hp) : Res :=
 bnd (pNew [(.i .i64 (Int.ofNat 0)), (.s []), (.i .i64 (Int.ofNat 0)), .l0, .l0, .l0] h0) fun v1 h1 =>
 bnd (rec 51 [x0, (.i .i64 (Int.ofNat 1)), (.s [])] h1) fun v2 h2 =>
 bnd (gD v2 true (some (x0, h2)) h2) fun v3 h3 =>
 bnd (gD v2 true (rec 55 [v3, (.i .i64 (Int.ofNat 1))] h3) h3) fun v4 h4 =>
 bnd (gD v2 true (pPart1 0 v4 h4) h4) fun v5 h5 =>
 bnd (gD v2 true (pInt .eql v5 (.i .i64 (Int.ofNat 9)) h5) h5) fun v6 h6 =>
 bnd (pPick v2 v6 (.b false) h6) fun v7 h7 =>
 ifD v7 (
 bnd (rec 52 [x0] h7) fun v8 h8 =>
 bnd (pPart1 1 v8 h8) fun v9 h9 =>
 bnd (pBuild [(.i .i64 (Int.ofNat 0)), (.s []), (.i .i64 (Int.ofNat 0)), .l0, .l0, .l0] [(0, 1, (.i .i64 (Int.ofNat 6))), (1, 1, v9)] h9) fun v10 h10 =>
 bnd (pNew [(.i .i64 (Int.ofNat 0)), (.s []), (.i .i64 (Int.ofNat 0)), .l0, .l0, .l0] h10) fun v11 h11 =>
 bnd (pStore 6 v11 v10 h11) fun _ h12 =>
 bnd (rec 52 [x0] h12) fun v13 h13 =>
 bnd (rec 53 [x0] h13) fun v14 h14 =>
 bnd (pBuildSlice [(.i .i64 (Int.ofNat 0)), (.s []), (.i .i64 (Int.ofNat 0)), .l0, .l0, .l0] 1 [(0, 6, v14)] h14) fun v15 h15 =>
 bnd (pField 5 v11 h15) fun v16 h16 =>
 bnd (pStore 1 v16 v15 h16) fun _ h17 =>
 bnd (pLoadA 6 v11 h17) fun v18 h18 =>
 bnd (pStore 6 v1 v18 h18) fun _ h19 =>
 bnd (pLoadA 6 v1 h19) fun v20 _ =>
 some (v20, h19)) (
 bnd (rec 72 [x0] h7) fun v21 h21 =>
 bnd (pStore 6 v1 v21 h21) fun _ h22 =>
 bnd (pLoadA 6 v1 h22) fun v23 _ =>
 some (v23, h22))
abbrev c53 : Code := cf Try.f53
abbrev r53 : K := retK CF Try.f53
def D53 (rec : RT) (n : Nat) (c : Code) (X : Nat → K) (k : K) : K := codeD CF rec 25 n c X r53 k
theorem s53m : D53 rec n c53 x0 r53 = (K1 (s53 rec n) 0) :=
  (by kernel_rfl)
theorem s53ok (args : List DV) (h : Hp) : bodyD CF rec n 53 args h = s53 rec n (args.getD 0 undefD) h :=
  (by kernel_rfl : bodyD CF rec n 53 args h = D53 rec n c53 x0 r53 (argsE args) h).trans ((congrFun (congrFun (s53m rec n) (argsE args)) h).trans (by kernel_rfl))
/-- parse.parser).fail -/
def s54 (rec : RT) (n : Nat) (x0 x1 x2 : DV) (h0 : Hp) : Res :=
 bnd (pBox x1 h0) fun v1 h1 =>
 bnd (pNil x0 h1) fun v2 h2 =>
 bnd (pField 3 v2 h2) fun v3 h3 =>
 bnd (pLoad1 v3 h3) fun v4 h4 =>
 bnd (pInt .eql v4 (.i .i64 (Int.ofNat 0)) h4) fun v5 h5 =>
 ifD v5 (
 bnd (pField 3 v1 h5) fun v6 h6 =>
 bnd (pLoad1 v6 h6) fun v7 h7 =>
 bnd (pNil x0 h7) fun v8 h8 =>
 bnd (pField 2 v8 h8) fun v9 h9 =>
 bnd (pStore 1 v9 v7 h9) fun _ h10 =>
 bnd (pNil x0 h10) fun v11 h11 =>
 bnd (pField 3 v11 h11) fun v12 h12 =>
 bnd (pStore 1 v12 x2 h12) fun _ h13 =>
 some (.t [], h13)) (
 some (.t [], h5))
abbrev c54 : Code := cf Try.f54
abbrev r54 : K := retK CF Try.f54
def D54 (rec : RT) (n : Nat) (c : Code) (X : Nat → K) (k : K) : K := codeD CF rec 20 n c X r54 k
theorem s54m : D54 rec n c54 x0 r54 = (K3 (s54 rec n) 0 1 2) :=
  (by kernel_rfl)
theorem s54ok (args : List DV) (h : Hp) : bodyD CF rec n 54 args h = s54 rec n (args.getD 0 undefD) (args.getD 1 undefD) (args.getD 2 undefD) h :=
  (by kernel_rfl : bodyD CF rec n 54 args h = D54 rec n c54 x0 r54 (argsE args) h).trans ((congrFun (congrFun (s54m rec n) (argsE args)) h).trans (by kernel_rfl))
/-- parse.parser).look -/
def s55 (rec : RT) (n : Nat) (x0 x1 : DV) (h0 : Hp) : Res :=
 bnd (pNew [(.i .i64 (Int.ofNat 0)), (.s []), (.i .i64 (Int.ofNat 0)), (.i .i64 (Int.ofNat 0))] h0) fun v1 h1 =>
 bnd (pNil x0 h1) fun v2 h2 =>
 bnd (pField 0 v2 h2) fun v3 h3 =>
 bnd (pLoad1 v3 h3) fun v4 h4 =>
 bnd (pNil x0 h4) fun v5 h5 =>
 bnd (pField 0 v5 h5) fun v6 h6 =>
 bnd (pLoad1 v6 h6) fun v7 h7 =>
 bnd (pLen v7 h7) fun v8 h8 =>
 bnd (pInt .sub v8 (.i .i64 (Int.ofNat 1)) h8) fun v9 h9 =>
 bnd (pMin x1 v9 h9) fun v10 h10 =>
 bnd (pIndexAddr 4 v4 v10 h10) fun v11 h11 =>
 bnd (pLoadA 4 v11 h11) fun v12 h12 =>
 bnd (pStore 4 v1 v12 h12) fun v13 h13 =>
 bnd (pLoadA 4 v1 h13) fun v14 _ =>
 some (v14, h13)
abbrev c55 : Code := cf Try.f55
abbrev r55 : K := retK CF Try.f55
def D55 (rec : RT) (n : Nat) (c : Code) (X : Nat → K) (k : K) : K := codeD CF rec 19 n c X r55 k
theorem s55m : D55 rec n c55 x0 r55 = (K2 (s55 rec n) 0 1) :=
  (by kernel_rfl)
theorem s55ok (args : List DV) (h : Hp) : bodyD CF rec n 55 args h = s55 rec n (args.getD 0 undefD) (args.getD 1 undefD) h :=
  (by kernel_rfl : bodyD CF rec n 55 args h = D55 rec n c55 x0 r55 (argsE args) h).trans ((congrFun (congrFun (s55m rec n) (argsE args)) h).trans (by kernel_rfl))

end
end Go.Dd

