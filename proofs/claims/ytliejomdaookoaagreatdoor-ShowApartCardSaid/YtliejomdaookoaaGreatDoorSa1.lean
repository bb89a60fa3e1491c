/- A part of the proof: O Qh Q0 Q1 Q2 Q3 Q4 Q5: each text has a comment of its own. -/
import Derived.Test.YtliejomdaookoaaGreatDoorSa0
import Derived.LoopN
import Derived.Scope
import Derived.Test.YtliejomdaookoaaGreatDoorProg
import Derived.KernelRfl
/- Dd, part O: code and functions: what Dd says of a function is so. -/
set_option linter.unusedSimpArgs false
set_option linter.constructorNameAsVariable false
set_option linter.unusedVariables false
namespace Go.Dd
open Go.RowKit (Below)

section
variable {C : Cfg} {G : Gd} {rec : FuncId → List DV → Hp → Res} {nt n : Nat}

/-- The run has come to a place from which Dd goes on by k to r. -/
def St (G : Gd) (nt : Nat) (ρ : Ren) (w0 : World) (k : K) (r : DV × Hp) (a : Act) (w : World) : Prop :=
  ∃ ρ' env h, Ex G ρ ρ' ∧ HR G ρ' h w ∧ EnvR ρ' env a ∧ Kp G w0 w ∧ nt ≤ a.tmps.size ∧ a.defers = [] ∧ k env h = some r

def QQ (G : Gd) (nt : Nat) (ρ : Ren) (w0 : World) (X : Nat → K) (kr k : K) (r : DV × Hp) : Exit → Act → World → Prop
  | .normal, a, w => St G nt ρ w0 k r a w
  | .exit id, a, w => St G nt ρ w0 (X id) r a w
  | .ret, a, w => St G nt ρ w0 kr r a w
  | _, _, _ => False

theorem code_wp (K : OkC C rec) (hm : C.P.follows .mixedOrders = true) {ρ : Ren} {w0 : World} {r : DV × Hp} : ∀ (c : Code) (X : Nat → Dd.K) (kr k : Dd.K) (a : Act) (w : World),
    St G nt ρ w0 (codeD C rec nt n c X kr k) r a w → c.wp C.P (QQ G nt ρ w0 X kr k r) a w := by
  intro c
  induction c with
  | skip => intro X kr k a w h; exact wp_skip h
  | region id ops dr =>
    intro X kr k a w h
    obtain ⟨ρ', env, hp, h1, h2, h3, h4, h5, h6, h7⟩ := h
    change (Bool.rec (motive := fun _ => Dd.K) (opsD C rec nt ops ops.toList k) (Bool.rec (motive := fun _ => Dd.K) failK (drawK C rec nt ops k) (drawOk C.P ops)) dr) env hp = some r at h7
    cases dr with
    | true =>
      dsimp only at h7
      cases hok : drawOk C.P ops with
      | false => rw [hok] at h7; cases h7
      | true =>
        rw [hok] at h7
        exact draw_wp K hm hok h7 h2 h3 h5 h6 fun ρ2 env2 h2' a2 w2 e1 e2 e3 e4 e5 e6 e7 => ⟨ρ2, env2, h2', h1.trans e1, e2, e3, h4.trans e4, e5, e6, e7⟩
    | false =>
      simp only [cond_false] at h7
      obtain ⟨env', h', hr, hk⟩ := opsD_run ops.toList k env hp r h7
      refine wp_region ?_
      have := ops_wp (Q := QQ G nt ρ w0 X kr k r) K ops.toList 0 ρ' env hp a w (by simp) hr h2 h3 h5 h6 fun ρ2 a2 w2 e1 e2 e3 e4 e5 e6 => ⟨ρ2, env', h', h1.trans e1, e2, e3, h4.trans e4, e5, e6, hk⟩
      rw [List.range_eq_range']
      simpa using this
  | seq x y ihx ihy =>
    intro X kr k a w h
    refine wp_seq (wp_mono (ihx X kr (codeD C rec nt n y X kr k) a w h) fun e a' w' hq => ?_)
    cases e with
    | normal => exact ihy X kr k a' w' hq
    | exit id => exact hq
    | ret => exact hq
    | goto l => exact hq
    | panic ch => exact hq
    | outgrown => exact hq
  | cond c x y ihx ihy =>
    intro X kr k a w h
    obtain ⟨ρ', env, hp, h1, h2, h3, h4, h5, h6, h7⟩ := h
    change ifD (opr env c) (codeD C rec nt n x X kr k env hp) (codeD C rec nt n y X kr k env hp) = some r at h7
    have hc := opr_ok h3 c
    unfold ifD at h7
    split at h7 <;> (try (cases h7; done))
    · rename_i hcb
      rw [hcb] at hc
      generalize hcv : a.eval c = cv at hc
      cases hc
      exact wp_cond_true hcv (ihx X kr k a w ⟨ρ', env, hp, h1, h2, h3, h4, h5, h6, h7⟩)
    · rename_i hcb
      rw [hcb] at hc
      generalize hcv : a.eval c = cv at hc
      cases hc
      exact wp_cond_false hcv (ihy X kr k a w ⟨ρ', env, hp, h1, h2, h3, h4, h5, h6, h7⟩)
  | block id x ih =>
    intro X kr k a w h
    refine wp_block (wp_mono (ih (fun j => bif Nat.beq j id then k else X j) kr k a w h) fun e a' w' hq => ?_)
    cases e with
    | normal => exact hq
    | exit id' =>
      simp only [QQ] at hq
      simp only [Exit.inBlock, QQ]
      split
      · rename_i e
        subst e
        have hb : Nat.beq id' id' = true := Nat.beq_refl id'
        rw [hb] at hq
        exact hq
      · rename_i e
        have : Nat.beq id' id = false := by
          cases hb : Nat.beq id' id with
          | false => rfl
          | true => exact absurd (Nat.eq_of_beq_eq_true hb) e
        rw [this] at hq
        exact hq
    | ret => exact hq
    | goto l => exact hq
    | panic ch => exact hq
    | outgrown => exact hq
  | loop x ih =>
    intro X kr k a w h
    have key : ∀ (m : Nat) (a : Act) (w : World), St G nt ρ w0 (loopN (fun kk => codeD C rec nt n x X kr kk) m) r a w → Code.rounds C.P x (QQ G nt ρ w0 X kr k r) m a w := by
      intro m
      induction m with
      | zero =>
        rintro a w ⟨ρ', env, hp, h1, h2, h3, h4, h5, h6, h7⟩
        cases h7
      | succ m ihm =>
        intro a w hs
        rw [rounds_succ]
        refine wp_mono (ih X kr (loopN (fun kk => codeD C rec nt n x X kr kk) m) a w hs) fun e a' w' hq => ?_
        cases e with
        | normal => exact ihm a' w' hq
        | exit id => exact hq
        | ret => exact hq
        | goto l => exact hq
        | panic ch => exact hq
        | outgrown => exact hq
    exact wp_loop_rounds n (key n a w h)
  | rangeFunc f ps x y ihx ihy =>
    rintro X kr k a w ⟨ρ', env, hp, h1, h2, h3, h4, h5, h6, h7⟩
    cases h7
  | exit id => intro X kr k a w h; exact wp_exit h
  | scope x ih =>
    intro X kr k a w h
    refine wp_scope_straight (wp_mono (ih X kr k a w h) fun e a' w' hq => ?_)
    cases e with
    | goto l => exact hq
    | normal => exact hq
    | exit id => exact hq
    | ret => exact hq
    | panic ch => exact hq
    | outgrown => exact hq
  | label l => intro X kr k a w h; exact wp_label h
  | goto l =>
    rintro X kr k a w ⟨ρ', env, hp, h1, h2, h3, h4, h5, h6, h7⟩
    cases h7
  | ret => intro X kr k a w h; exact wp_ret h
  | refuse why =>
    rintro X kr k a w ⟨ρ', env, hp, h1, h2, h3, h4, h5, h6, h7⟩
    cases h7

/-! ### Results -/

def resSem (tmps : Array Value) (rv : ResultVar) : Sem Value :=
  match rv with
  | .tmp t => pure (tmps.getD t undef)
  | .cell q t => do loadVar t (← asAddr (tmps.getD q undef))

theorem results_eq (fn : Func) (tmps : Array Value) : results fn tmps = (do
    let vs ← fn.results.mapM (resSem tmps)
    pure (if h : vs.size = 1 then vs[0] else .tuple vs)) := by
  unfold results
  congr 2

theorem loadK_ok {ρ : Ren} {w : World} {h : Hp} {x : DV} {x' : Value} {t : TypeId} {k : DV → Res} {r : DV × Hp} (H : HR G ρ h w) (hx : VR ρ x x') (hr : loadK C t x h k = some r) :
    ∃ v v', (do loadVar t (← asAddr x') : Sem Value).run C.P w = .ok v' w ∧ VR ρ v v' ∧ k v = some r := by
  unfold loadK at hr
  split at hr <;> (try (cases hr; done))
  rename_i d i ht hi
  obtain ⟨v, h', hl, hk⟩ := bnd_some hr
  have hconv : ∀ b o, x = .p b o → (Instr.loadAt t x') = (do loadVar t (← asAddr x')) := by
    rintro b o rfl
    cases hx
    simp [Instr.loadAt, Instr.sureAddr, asAddr]
  cases hd : isAgD d with
  | true =>
    rw [hd] at hl
    simp only [cond_true] at hl
    unfold pLoadA at hl
    split at hl <;> (try (cases hl; done))
    rename_i b o
    split at hl <;> (try (cases hl; done))
    rename_i cs hc
    simp only [Option.some.injEq, Prod.mk.injEq] at hl
    obtain ⟨rfl, _⟩ := hl
    cases hx with
    | p _ _ L hL =>
      obtain ⟨c1, c2, _, vs, c4, c5, c6⟩ := cellsAt_spec H hc hL
      have hrun := run_loadCells_ok (P := C.P) vs rfl c6
      rw [c5] at hrun
      refine ⟨_, .agg vs.toArray, ?_, .a cs vs.toArray (by simpa using c4), hk⟩
      simp only [asAddr, Sem.run_bind, Sem.run_pure, Result.andThen_ok, loadVar, rA ht, hd, if_true, rS hi, hrun]
  | false =>
    rw [hd] at hl
    simp only [cond_false] at hl
    unfold pLoad1 at hl
    split at hl <;> (try (cases hl; done))
    rename_i b o
    split at hl <;> (try (cases hl; done))
    rename_i u' hc
    simp only [Option.some.injEq, Prod.mk.injEq] at hl
    obtain ⟨rfl, _⟩ := hl
    cases hx with
    | p _ _ L hL =>
      unfold cellD rowOf at hc
      split at hc <;> (try (cases hc; done))
      rename_i l hl
      split at hl <;> (try (cases hl; done))
      rename_i kd l0 hb
      simp only [Option.some.injEq] at hl
      subst hl
      split at hc <;> (try (cases hc; done))
      rename_i u0 hu
      split at hc <;> (try (cases hc; done))
      rename_i ho
      simp only [Option.some.injEq] at hc
      subst hc
      obtain ⟨v', h5, h6⟩ := H.cell b kd l0 L o u0 hb hL hu ho
      refine ⟨_, v', ?_, h6, hk⟩
      simp only [asAddr, Sem.run_bind, Sem.run_pure, Result.andThen_ok, loadVar, rA ht, hd, Bool.false_eq_true, if_false, run_load, h5]

theorem retGo_ok {ρ : Ren} {w : World} {h : Hp} {env : Env} {a : Act} (H : HR G ρ h w) (he : EnvR ρ env a) {r : DV × Hp} : ∀ (l : List ResultVar) (k : List DV → Res), retGo C env h l k = some r →
    ∃ vs vs', (l.mapM (resSem a.tmps)).run C.P w = .ok vs' w ∧ VRs ρ vs vs' ∧ k vs = some r
  | [], k, hr => ⟨[], [], by simp, .nil, hr⟩
  | .tmp t :: l, k, hr => by
    obtain ⟨vs, vs', h1, h2, h3⟩ := retGo_ok H he l (fun vs => k (env t :: vs)) hr
    refine ⟨env t :: vs, a.tmps.getD t undef :: vs', ?_, .cons _ _ _ _ (he t) h2, h3⟩
    simp only [List.mapM_cons, Sem.run_bind, resSem, Result.andThen_ok, h1, Sem.run_pure]
  | .cell q t :: l, k, hr => by
    obtain ⟨v, v', h1, h2, h3⟩ := loadK_ok (x' := a.tmps.getD q undef) H (he q) hr
    obtain ⟨vs, vs', h4, h5, h6⟩ := retGo_ok H he l (fun vs => k (v :: vs)) h3
    refine ⟨v :: vs, v' :: vs', ?_, .cons _ _ _ _ h2 h5, h6⟩
    simp only [List.mapM_cons, Sem.run_bind, resSem] at h1 ⊢
    simp only [h1, Result.andThen_ok, h4, Sem.run_pure]

theorem retK_ok {ρ : Ren} {w : World} {h h1 : Hp} {env : Env} {a : Act} (H : HR G ρ h w) (he : EnvR ρ env a) {fn : Func} {v : DV} (hr : retK C fn env h = some (v, h1)) :
    h1 = h ∧ ∃ v', (results fn a.tmps).run C.P w = .ok v' w ∧ VR ρ v v' := by
  obtain ⟨us, vs', h2, h3, hk⟩ := retGo_ok H he _ _ hr
  unfold doneK at hk
  split at hk
  · rename_i u
    simp only [Option.some.injEq, Prod.mk.injEq] at hk
    obtain ⟨rfl, rfl⟩ := hk
    cases h3 with
    | cons _ v' _ l' hv hn =>
      cases hn
      refine ⟨rfl, v', ?_, hv⟩
      rw [results_eq, Array.mapM_eq_mapM_toList]
      simp only [Sem.run_bind, Sem.run_map, h2, Result.andThen_ok, Sem.run_pure]
      simp
  · rename_i hne
    simp only [Option.some.injEq, Prod.mk.injEq] at hk
    obtain ⟨rfl, rfl⟩ := hk
    have hl := h3.length
    have hne1 : vs'.length ≠ 1 := by
      intro e
      rw [e] at hl
      match us, hl with
      | [x], _ => exact hne x rfl
    refine ⟨rfl, .tuple vs'.toArray, ?_, .t _ _ (by simpa using h3)⟩
    rw [results_eq, Array.mapM_eq_mapM_toList]
    simp only [Sem.run_bind, Sem.run_map, h2, Result.andThen_ok, Sem.run_pure]
    rw [dif_neg (by simpa using hne1)]

/-- What is asked of a program. -/
structure POk (P : Program) : Prop where
  mixed : P.follows .mixedOrders = true
  names : ∀ (f : Nat) (fn : Func), P.funcs[f]? = some fn → (fn.name == "runtime.NumGoroutine") = false

theorem body_ok (K : OkC C rec) (hP : POk C.P) (n : Nat) (f : FuncId) : FnOk C.P G f (bodyD C rec n f) := by
  intro args h v h1 hr ρ w args' H hargs
  unfold bodyD at hr
  split at hr <;> (try (cases hr; done))
  rename_i fn hf
  split at hr <;> (try (cases hr; done))
  rename_i c hb
  refine .inl ⟨?_, ?_⟩
  · unfold callFunc
    have hn : ¬ fn.name = "runtime.NumGoroutine" := by simpa using hP.names f fn hf
    simp [hf, hn, hb]
  · refine calls_of_wp hf hb ?_
    have he : EnvR ρ (argsE args) { tmps := args' ++ Array.replicate (fn.ntmps - args'.size) undef, defers := [] } := by
      intro t
      unfold argsE
      have hlen := hargs.length
      simp only [Array.length_toList] at hlen
      by_cases ht : t < args.length
      · have hg : args[t]? = some args[t] := by simp [ht]
        obtain ⟨v', h2, h3⟩ := hargs.get t _ hg
        simp only [Array.getElem?_toList] at h2
        rw [show args.getD t undefD = args[t] by simp [List.getD, hg]]
        have : (args' ++ Array.replicate (fn.ntmps - args'.size) undef).getD t undef = v' := by
          simp [Array.getElem?_append_left (show t < args'.size by omega), h2]
        rw [this]
        exact h3
      · have hg : args.getD t undefD = undefD := by simp [List.getD, List.getElem?_eq_none (Nat.le_of_not_lt ht)]
        rw [hg]
        have : (args' ++ Array.replicate (fn.ntmps - args'.size) undef).getD t undef = undef := by
          rw [Array.getD_eq_getD_getElem?, Array.getElem?_append_right (by omega)]
          simp only [Array.getElem?_replicate]
          split <;> rfl
        rw [this]
        exact .t [] #[] .nil
    have hst : St G fn.ntmps ρ w (codeD C rec fn.ntmps n c (fun _ => failK) (retK C fn) (retK C fn)) (v, h1) { tmps := args' ++ Array.replicate (fn.ntmps - args'.size) undef, defers := [] } w :=
      ⟨ρ, argsE args, h, Ex.refl G ρ, H, he, Kp.refl G w, by simp; omega, rfl, hr⟩
    refine wp_mono (code_wp K hP.mixed c _ _ _ _ _ hst) fun e a' w' hq => ?_
    have hfin : St G fn.ntmps ρ w (retK C fn) (v, h1) a' w' → a'.defers = [] ∧ ∃ v', (results fn a'.tmps).run C.P w' = .ok v' w' ∧ Post G ρ w v h1 (.returned v') w' := by
      rintro ⟨ρ', env, h', e1, e2, e3, e4, e5, e6, e7⟩
      obtain ⟨rfl, v', r1, r2⟩ := retK_ok e2 e3 e7
      exact ⟨e6, v', r1, ρ', v', rfl, e1, r2, e2, e4⟩
    cases e with
    | normal => exact hfin hq
    | ret => exact hfin hq
    | exit id =>
      obtain ⟨ρ', env, h', e1, e2, e3, e4, e5, e6, e7⟩ := hq
      cases e7
    | goto l => exact hq.elim
    | panic ch => exact hq.elim
    | outgrown => exact hq.elim

theorem fnD_ok (hP : POk C.P) (hI : ∀ G g F, C.I g = some F → FnOk C.P G g F) : ∀ (n : Nat) (G : Gd) (f : FuncId), FnOk C.P G f (fnD C n f)
  | 0, G, f => fun args h v h1 hr => by cases hr
  | n + 1, G, f => body_ok (rec := fnD C n) ⟨hI, fun G g => fnD_ok hP hI n G g⟩ hP n f

end
end Go.Dd

/- Dd, part Q (printed by gen.py): the functions of the seat's program as Lean functions, linked to Dd. -/
set_option linter.unusedVariables false
set_option maxRecDepth 100000
namespace Go.Dd
open Go.Proofs

def cf (f : Func) : Code := match f.body with
  | some c => c
  | none => .skip
def cL : Code → Code
  | .seq a _ => a
  | .cond _ a _ => a
  | .block _ a => a
  | .loop a => a
  | .scope a => a
  | c => c
def cR : Code → Code
  | .seq _ b => b
  | .cond _ _ b => b
  | c => c
def cC : Code → Operand
  | .cond c _ _ => c
  | _ => .const .nilFunc

def x0 : Nat → K := fun _ => failK
def xs (X : Nat → K) (i : Nat) (k : K) : Nat → K := fun j => bif Nat.beq j i then k else X j

def idxGo (c : Nat) : List Nat → Nat → Int
  | [], _ => .negSucc 0
  | x :: l, i => bif Nat.beq x c then .ofNat i else idxGo c l (i + 1)

def idxF (args : List DV) (h : Hp) : Res :=
  match args with
  | [.s l, .i .u8 (.ofNat c)] => bif Nat.blt c 256 then some (.i .i64 (idxGo c l 0), h) else none
  | _ => none

/-! ### The library's texts -/

def joinN (sep : List Nat) : List (List Nat) → List Nat
  | [] => []
  | [x] => x
  | x :: y :: l => x ++ (sep ++ joinN sep (y :: l))

def strsD : List DV → Option (List (List Nat))
  | [] => some []
  | .s x :: l => (strsD l).map (x :: ·)
  | _ :: _ => none

def capD (x : DV) : Bool := match x with
  | .l _ _ n c => Nat.ble n c
  | _ => true

noncomputable def joinF (args : List DV) (h : Hp) : Res :=
  match args with
  | [.s _, _] => none
  | [x, .s sep] => match srcD 1 x h with
    | some (n, cells) => match strsD cells with
      | some l => bif Nat.ble (joinN sep l).length 100000000000 then (bif Nat.ble n 100000000000 && capD x then some (.s (joinN sep l), h) else none) else none
      | none => none
    | none => none
  | _ => none

/-- The pieces of a text, each up to a byte, with it. -/
def piecesN (c : Nat) : List Nat → List Nat → List (List Nat)
  | acc, [] => [acc]
  | acc, x :: l => bif Nat.beq x c then (acc ++ [x]) :: piecesN c [] l else piecesN c (acc ++ [x]) l

/-- strings.genSplit, at a separator of one byte that stays, without a limit. -/
noncomputable def splitF (args : List DV) (h : Hp) : Res :=
  match args with
  | [.s s, .s [c], .i .i64 (.ofNat 1), .i .i64 (.negSucc 0)] => bif Nat.blt c 256 then (bif Nat.ble s.length 4000000000 then (fun l => some (.l h.next 0 l.length l.length, ⟨h.next.succ, Tr.set (.row .ex (l.map DV.s)) h.next h.bl⟩)) (piecesN c [] s) else none) else none
  | _ => none

def replN (c : Nat) (new : List Nat) : List Nat → List Nat
  | [] => []
  | x :: l => bif Nat.beq x c then new ++ replN c new l else x :: replN c new l

def replF (args : List DV) (h : Hp) : Res :=
  match args with
  | [.s s, .s [c], .s new] => bif Nat.blt c 256 then (bif Nat.ble s.length 4000000000 then (bif Nat.ble new.length 1000 then some (.s (replN c new s), h) else none) else none) else none
  | _ => none

/-- A number's digits, put ahead of some. -/
def digsN : Nat → Nat → List Nat → List Nat
  | 0, _, acc => acc
  | f + 1, n, acc => bif Nat.ble 10 n then digsN f (Nat.div n 10) (Nat.add 48 (Nat.mod n 10) :: acc) else Nat.add 48 n :: acc
def itoaN : Int → List Nat
  | .ofNat n => digsN 20 n []
  | .negSucc n => 45 :: digsN 20 (Nat.succ n) []

def itoaF (args : List DV) (h : Hp) : Res :=
  match args with
  | [.i .i64 n] => bif decide (-9223372036854775808 ≤ n) && decide (n ≤ 9223372036854775807) then some (.s (itoaN n), h) else none
  | _ => none

noncomputable def CF : Cfg := ⟨Tryz.prog, fun g => bif Nat.beq g 117 then some idxF else bif Nat.beq g 30 then some joinF else bif Nat.beq g 86 then some splitF else bif Nat.beq g 60 then some replF else bif Nat.beq g 34 then some itoaF else none⟩

abbrev RT := FuncId → List DV → Hp → Res
abbrev TT0 := Hp → Res
abbrev TT1 := DV → Hp → Res
abbrev TT2 := DV → DV → Hp → Res
abbrev TT3 := DV → DV → DV → Hp → Res
abbrev TT4 := DV → DV → DV → DV → Hp → Res
abbrev TT5 := DV → DV → DV → DV → DV → Hp → Res
abbrev TT6 := DV → DV → DV → DV → DV → DV → Hp → Res
abbrev TT7 := DV → DV → DV → DV → DV → DV → DV → Hp → Res
abbrev TT8 := DV → DV → DV → DV → DV → DV → DV → DV → Hp → Res
abbrev TT9 := DV → DV → DV → DV → DV → DV → DV → DV → DV → Hp → Res
abbrev TT10 := DV → DV → DV → DV → DV → DV → DV → DV → DV → DV → Hp → Res
abbrev TT11 := DV → DV → DV → DV → DV → DV → DV → DV → DV → DV → DV → Hp → Res
abbrev TT12 := DV → DV → DV → DV → DV → DV → DV → DV → DV → DV → DV → DV → Hp → Res
abbrev TT13 := DV → DV → DV → DV → DV → DV → DV → DV → DV → DV → DV → DV → DV → Hp → Res
abbrev TT14 := DV → DV → DV → DV → DV → DV → DV → DV → DV → DV → DV → DV → DV → DV → Hp → Res
abbrev TT15 := DV → DV → DV → DV → DV → DV → DV → DV → DV → DV → DV → DV → DV → DV → DV → Hp → Res
abbrev TT16 := DV → DV → DV → DV → DV → DV → DV → DV → DV → DV → DV → DV → DV → DV → DV → DV → Hp → Res
abbrev TT17 := DV → DV → DV → DV → DV → DV → DV → DV → DV → DV → DV → DV → DV → DV → DV → DV → DV → Hp → Res
abbrev TT18 := DV → DV → DV → DV → DV → DV → DV → DV → DV → DV → DV → DV → DV → DV → DV → DV → DV → DV → Hp → Res
abbrev TT19 := DV → DV → DV → DV → DV → DV → DV → DV → DV → DV → DV → DV → DV → DV → DV → DV → DV → DV → DV → Hp → Res
abbrev TT20 := DV → DV → DV → DV → DV → DV → DV → DV → DV → DV → DV → DV → DV → DV → DV → DV → DV → DV → DV → DV → Hp → Res
abbrev K0 (f : TT0) : K := fun env h => f h
abbrev K1 (f : TT1) (a0 : Nat) : K := fun env h => f (env a0) h
abbrev K2 (f : TT2) (a0 a1 : Nat) : K := fun env h => f (env a0) (env a1) h
abbrev K3 (f : TT3) (a0 a1 a2 : Nat) : K := fun env h => f (env a0) (env a1) (env a2) h
abbrev K4 (f : TT4) (a0 a1 a2 a3 : Nat) : K := fun env h => f (env a0) (env a1) (env a2) (env a3) h
abbrev K5 (f : TT5) (a0 a1 a2 a3 a4 : Nat) : K := fun env h => f (env a0) (env a1) (env a2) (env a3) (env a4) h
abbrev K6 (f : TT6) (a0 a1 a2 a3 a4 a5 : Nat) : K := fun env h => f (env a0) (env a1) (env a2) (env a3) (env a4) (env a5) h
abbrev K7 (f : TT7) (a0 a1 a2 a3 a4 a5 a6 : Nat) : K := fun env h => f (env a0) (env a1) (env a2) (env a3) (env a4) (env a5) (env a6) h
abbrev K8 (f : TT8) (a0 a1 a2 a3 a4 a5 a6 a7 : Nat) : K := fun env h => f (env a0) (env a1) (env a2) (env a3) (env a4) (env a5) (env a6) (env a7) h
abbrev K9 (f : TT9) (a0 a1 a2 a3 a4 a5 a6 a7 a8 : Nat) : K := fun env h => f (env a0) (env a1) (env a2) (env a3) (env a4) (env a5) (env a6) (env a7) (env a8) h
abbrev K10 (f : TT10) (a0 a1 a2 a3 a4 a5 a6 a7 a8 a9 : Nat) : K := fun env h => f (env a0) (env a1) (env a2) (env a3) (env a4) (env a5) (env a6) (env a7) (env a8) (env a9) h
abbrev K11 (f : TT11) (a0 a1 a2 a3 a4 a5 a6 a7 a8 a9 a10 : Nat) : K := fun env h => f (env a0) (env a1) (env a2) (env a3) (env a4) (env a5) (env a6) (env a7) (env a8) (env a9) (env a10) h
abbrev K12 (f : TT12) (a0 a1 a2 a3 a4 a5 a6 a7 a8 a9 a10 a11 : Nat) : K := fun env h => f (env a0) (env a1) (env a2) (env a3) (env a4) (env a5) (env a6) (env a7) (env a8) (env a9) (env a10) (env a11) h
abbrev K13 (f : TT13) (a0 a1 a2 a3 a4 a5 a6 a7 a8 a9 a10 a11 a12 : Nat) : K := fun env h => f (env a0) (env a1) (env a2) (env a3) (env a4) (env a5) (env a6) (env a7) (env a8) (env a9) (env a10) (env a11) (env a12) h
abbrev K14 (f : TT14) (a0 a1 a2 a3 a4 a5 a6 a7 a8 a9 a10 a11 a12 a13 : Nat) : K := fun env h => f (env a0) (env a1) (env a2) (env a3) (env a4) (env a5) (env a6) (env a7) (env a8) (env a9) (env a10) (env a11) (env a12) (env a13) h
abbrev K15 (f : TT15) (a0 a1 a2 a3 a4 a5 a6 a7 a8 a9 a10 a11 a12 a13 a14 : Nat) : K := fun env h => f (env a0) (env a1) (env a2) (env a3) (env a4) (env a5) (env a6) (env a7) (env a8) (env a9) (env a10) (env a11) (env a12) (env a13) (env a14) h
abbrev K16 (f : TT16) (a0 a1 a2 a3 a4 a5 a6 a7 a8 a9 a10 a11 a12 a13 a14 a15 : Nat) : K := fun env h => f (env a0) (env a1) (env a2) (env a3) (env a4) (env a5) (env a6) (env a7) (env a8) (env a9) (env a10) (env a11) (env a12) (env a13) (env a14) (env a15) h
abbrev K17 (f : TT17) (a0 a1 a2 a3 a4 a5 a6 a7 a8 a9 a10 a11 a12 a13 a14 a15 a16 : Nat) : K := fun env h => f (env a0) (env a1) (env a2) (env a3) (env a4) (env a5) (env a6) (env a7) (env a8) (env a9) (env a10) (env a11) (env a12) (env a13) (env a14) (env a15) (env a16) h
abbrev K18 (f : TT18) (a0 a1 a2 a3 a4 a5 a6 a7 a8 a9 a10 a11 a12 a13 a14 a15 a16 a17 : Nat) : K := fun env h => f (env a0) (env a1) (env a2) (env a3) (env a4) (env a5) (env a6) (env a7) (env a8) (env a9) (env a10) (env a11) (env a12) (env a13) (env a14) (env a15) (env a16) (env a17) h
abbrev K19 (f : TT19) (a0 a1 a2 a3 a4 a5 a6 a7 a8 a9 a10 a11 a12 a13 a14 a15 a16 a17 a18 : Nat) : K := fun env h => f (env a0) (env a1) (env a2) (env a3) (env a4) (env a5) (env a6) (env a7) (env a8) (env a9) (env a10) (env a11) (env a12) (env a13) (env a14) (env a15) (env a16) (env a17) (env a18) h
abbrev K20 (f : TT20) (a0 a1 a2 a3 a4 a5 a6 a7 a8 a9 a10 a11 a12 a13 a14 a15 a16 a17 a18 a19 : Nat) : K := fun env h => f (env a0) (env a1) (env a2) (env a3) (env a4) (env a5) (env a6) (env a7) (env a8) (env a9) (env a10) (env a11) (env a12) (env a13) (env a14) (env a15) (env a16) (env a17) (env a18) (env a19) h

end Go.Dd

/- Dd, part Q0 (printed by gen.py): functions of the seat's program as Lean functions, linked to Dd. -/
set_option linter.unusedVariables false
set_option maxRecDepth 100000
namespace Go.Dd
open Go.Proofs
noncomputable section

variable (rec : RT) (n : Nat)
/-- vivariumlaw08.ShowApart -/
def s7 (rec : RT) (n : Nat) (x0 x1 : DV) (h0 : Hp) : Res :=
 bnd (pBox x0 h0) fun v1 h1 =>
 bnd (pBox x1 h1) fun v2 h2 =>
 bnd (pLoadA 6 v1 h2) fun v3 h3 =>
 bnd (rec 9 [v3] h3) fun v4 h4 =>
 bnd (pLoadA 6 v2 h4) fun v5 h5 =>
 bnd (rec 9 [v5] h5) fun v6 h6 =>
 bnd (pUn .not v4 h6) fun v7 h7 =>
 bnd (gD v7 false (some (v6, h7)) h7) fun v8 h8 =>
 bnd (gD v7 false (pUn .not v8 h8) h8) fun v9 h9 =>
 bnd (pPick v7 (.b true) v9 h9) fun v10 h10 =>
 ifD v10 (
 bnd (rec 10 [] h10) fun v11 h11 =>
 some (v11, h11)) (
 bnd (pLoadA 6 v1 h10) fun v12 h12 =>
 bnd (rec 13 [v12] h12) fun v13 h13 =>
 bnd (pExtract 0 v13 h13) fun v14 h14 =>
 bnd (pExtract 1 v13 h14) fun v15 h15 =>
 bnd (pLoadA 6 v2 h15) fun v16 h16 =>
 bnd (rec 13 [v16] h16) fun v17 h17 =>
 bnd (pExtract 0 v17 h17) fun v18 h18 =>
 bnd (pExtract 1 v17 h18) fun v19 h19 =>
 bnd (pInt .neq v15 (.i .i64 (Int.ofNat 0)) h19) fun v20 h20 =>
 bnd (gD v20 false (some (v19, h20)) h20) fun v21 h21 =>
 bnd (gD v20 false (pInt .neq v21 (.i .i64 (Int.ofNat 0)) h21) h21) fun v22 h22 =>
 bnd (pPick v20 (.b true) v22 h22) fun v23 h23 =>
 ifD v23 (
 bnd (rec 10 [] h23) fun v24 h24 =>
 some (v24, h24)) (
 bnd (pLoadA 6 v1 h23) fun v25 h25 =>
 bnd (pLoadA 6 v2 h25) fun v26 h26 =>
 bnd (rec 16 [v25, v26] h26) fun v27 h27 =>
 bnd (pStr .eql v14 v18 h27) fun v28 h28 =>
 bnd (pEq .bool true v28 v27 h28) fun v29 h29 =>
 bnd (gD v29 true (rec 10 [] h29) h29) fun v30 h30 =>
 bnd (pPick v29 v30 (.b false) h30) fun v31 h31 =>
 some (v31, h31)))
abbrev c7 : Code := cf Tryz.f7
abbrev r7 : K := retK CF Tryz.f7
def D7 (rec : RT) (n : Nat) (c : Code) (X : Nat → K) (k : K) : K := codeD CF rec 51 n c X r7 k
theorem s7m : D7 rec n c7 x0 r7 = (K2 (s7 rec n) 0 1) :=
  (by kernel_rfl)
theorem s7ok (args : List DV) (h : Hp) : bodyD CF rec n 7 args h = s7 rec n (args.getD 0 undefD) (args.getD 1 undefD) h :=
  (by kernel_rfl : bodyD CF rec n 7 args h = D7 rec n c7 x0 r7 (argsE args) h).trans ((congrFun (congrFun (s7m rec n) (argsE args)) h).trans (by kernel_rfl))
def s9a6 (rec : RT) (n : Nat) (h0 : Hp) : Res :=
 some ((.b true), h0)
def s9a8b (rec : RT) (n : Nat) (kk8 : TT2) (x1 x5 : DV) (h0 : Hp) : Res :=
 bnd (pField 5 x1 h0) fun v1 h1 =>
 bnd (pLoad1 v1 h1) fun v2 h2 =>
 bnd (pLen v2 h2) fun v3 h3 =>
 bnd (pInt .lss x5 v3 h3) fun v4 h4 =>
 ifD v4 (
 bnd (pField 5 x1 h4) fun v5 h5 =>
 bnd (pLoad1 v5 h5) fun v6 h6 =>
 bnd (pIndexAddr 6 v6 x5 h6) fun v7 h7 =>
 bnd (pLoadA 6 v7 h7) fun v8 h8 =>
 bnd (rec 9 [v8] h8) fun v9 h9 =>
 bnd (pUn .not v9 h9) fun v10 h10 =>
 ifD v10 (
 some ((.b false), h10)) (
 bnd (pInt .add x5 (.i .i64 (Int.ofNat 1)) h10) fun v11 h11 =>
        kk8 x1 v11 h11)) (
      s9a6 rec n h4)
def s9a8l (rec : RT) (n : Nat) (m : Nat) : TT2 :=
  Nat.rec (motive := fun _ => TT2) (fun _ _ _ => none) (fun _ ih => s9a8b rec n ih) m
def s9a8 (rec : RT) (n : Nat) : TT2 := s9a8l rec n n
def s9a7 (rec : RT) (n : Nat) (x1 x5 : DV) (h0 : Hp) : Res :=
  s9a8 rec n x1 x5 h0
def s9a5 (rec : RT) (n : Nat) (x1 : DV) (h0 : Hp) : Res :=
  s9a7 rec n x1 (.i .i64 (Int.ofNat 0)) h0
def s9a10b (rec : RT) (n : Nat) (kk10 : TT2) (x1 x4 : DV) (h0 : Hp) : Res :=
 bnd (pField 4 x1 h0) fun v1 h1 =>
 bnd (pLoad1 v1 h1) fun v2 h2 =>
 bnd (pLen v2 h2) fun v3 h3 =>
 bnd (pInt .lss x4 v3 h3) fun v4 h4 =>
 ifD v4 (
 bnd (pField 4 x1 h4) fun v5 h5 =>
 bnd (pLoad1 v5 h5) fun v6 h6 =>
 bnd (pIndexAddr 1 v6 x4 h6) fun v7 h7 =>
 bnd (pLoad1 v7 h7) fun v8 h8 =>
 bnd (pLenS v8 h8) fun v9 h9 =>
 bnd (pInt .gtr v9 (.i .i64 (Int.ofNat 40)) h9) fun v10 h10 =>
 ifD v10 (
 some ((.b false), h10)) (
 bnd (pInt .add x4 (.i .i64 (Int.ofNat 1)) h10) fun v11 h11 =>
        kk10 x1 v11 h11)) (
      s9a5 rec n x1 h4)
def s9a10l (rec : RT) (n : Nat) (m : Nat) : TT2 :=
  Nat.rec (motive := fun _ => TT2) (fun _ _ _ => none) (fun _ ih => s9a10b rec n ih) m
def s9a10 (rec : RT) (n : Nat) : TT2 := s9a10l rec n n
def s9a9 (rec : RT) (n : Nat) (x1 x4 : DV) (h0 : Hp) : Res :=
  s9a10 rec n x1 x4 h0
def s9a4 (rec : RT) (n : Nat) (x1 : DV) (h0 : Hp) : Res :=
  s9a9 rec n x1 (.i .i64 (Int.ofNat 0)) h0
def s9a12b (rec : RT) (n : Nat) (kk12 : TT2) (x1 x3 : DV) (h0 : Hp) : Res :=
 bnd (pField 3 x1 h0) fun v1 h1 =>
 bnd (pLoad1 v1 h1) fun v2 h2 =>
 bnd (pLen v2 h2) fun v3 h3 =>
 bnd (pInt .lss x3 v3 h3) fun v4 h4 =>
 ifD v4 (
 bnd (pField 3 x1 h4) fun v5 h5 =>
 bnd (pLoad1 v5 h5) fun v6 h6 =>
 bnd (pIndexAddr 1 v6 x3 h6) fun v7 h7 =>
 bnd (pLoad1 v7 h7) fun v8 h8 =>
 bnd (pLenS v8 h8) fun v9 h9 =>
 bnd (pInt .gtr v9 (.i .i64 (Int.ofNat 40)) h9) fun v10 h10 =>
 ifD v10 (
 some ((.b false), h10)) (
 bnd (pInt .add x3 (.i .i64 (Int.ofNat 1)) h10) fun v11 h11 =>
        kk12 x1 v11 h11)) (
      s9a4 rec n x1 h4)
def s9a12l (rec : RT) (n : Nat) (m : Nat) : TT2 :=
  Nat.rec (motive := fun _ => TT2) (fun _ _ _ => none) (fun _ ih => s9a12b rec n ih) m
def s9a12 (rec : RT) (n : Nat) : TT2 := s9a12l rec n n
def s9a11 (rec : RT) (n : Nat) (x1 x3 : DV) (h0 : Hp) : Res :=
  s9a12 rec n x1 x3 h0
def s9a3 (rec : RT) (n : Nat) (x1 : DV) (h0 : Hp) : Res :=
  s9a11 rec n x1 (.i .i64 (Int.ofNat 0)) h0
def s9a2 (rec : RT) (n : Nat) (x1 : DV) (h0 : Hp) : Res :=
 bnd (pField 1 x1 h0) fun v1 h1 =>
 bnd (pLoad1 v1 h1) fun v2 h2 =>
 bnd (pLenS v2 h2) fun v3 h3 =>
 bnd (pInt .gtr v3 (.i .i64 (Int.ofNat 40)) h3) fun v4 h4 =>
 bnd (gD v4 false (pField 3 x1 h4) h4) fun v5 h5 =>
 bnd (gD v4 false (pLoad1 v5 h5) h5) fun v6 h6 =>
 bnd (gD v4 false (pLen v6 h6) h6) fun v7 h7 =>
 bnd (gD v4 false (pInt .gtr v7 (.i .i64 (Int.ofNat 10)) h7) h7) fun v8 h8 =>
 bnd (pPick v4 (.b true) v8 h8) fun v9 h9 =>
 bnd (gD v9 false (pField 4 x1 h9) h9) fun v10 h10 =>
 bnd (gD v9 false (pLoad1 v10 h10) h10) fun v11 h11 =>
 bnd (gD v9 false (pLen v11 h11) h11) fun v12 h12 =>
 bnd (gD v9 false (pInt .gtr v12 (.i .i64 (Int.ofNat 10)) h12) h12) fun v13 h13 =>
 bnd (pPick v9 (.b true) v13 h13) fun v14 h14 =>
 ifD v14 (
 some ((.b false), h14)) (
    s9a3 rec n x1 h14)
def s9a1 (rec : RT) (n : Nat) (x1 : DV) (h0 : Hp) : Res :=
 bnd (pLoadA 6 x1 h0) fun v1 h1 =>
 bnd (rec 18 [v1, (.i .i64 (Int.ofNat 100))] h1) fun v2 h2 =>
 bnd (pInt .lss v2 (.i .i64 (Int.ofNat 0)) h2) fun v3 h3 =>
 ifD v3 (
 some ((.b false), h3)) (
    s9a2 rec n x1 h3)
/-- vivariumlaw08.small -/
def s9 (rec : RT) (n : Nat) (x0 : DV) (h0 : Hp) : Res :=
 bnd (pBox x0 h0) fun v1 h1 =>
  s9a1 rec n v1 h1
abbrev c9 : Code := cf Tryz.f9
abbrev c9x1 : Code := cR c9
abbrev c9x2 : Code := cR c9x1
abbrev c9x3 : Code := cR c9x2
abbrev c9x4 : Code := cR c9x3
abbrev c9x5 : Code := cR c9x4
abbrev c9x6 : Code := cR c9x5
abbrev c9x7 : Code := cL c9x5
abbrev c9x8 : Code := cR c9x7
abbrev c9x9 : Code := cL c9x8
abbrev c9x10 : Code := cL c9x9
abbrev c9x11 : Code := cL c9x7
abbrev c9x12 : Code := cL c9x4
abbrev c9x13 : Code := cR c9x12
abbrev c9x14 : Code := cL c9x13
abbrev c9x15 : Code := cL c9x14
abbrev c9x16 : Code := cL c9x12
abbrev c9x17 : Code := cL c9x3
abbrev c9x18 : Code := cR c9x17
abbrev c9x19 : Code := cL c9x18
abbrev c9x20 : Code := cL c9x19
abbrev c9x21 : Code := cL c9x17
abbrev c9x22 : Code := cL c9x2
abbrev c9x23 : Code := cL c9x1
abbrev c9x24 : Code := cL c9
abbrev r9 : K := retK CF Tryz.f9
def D9 (rec : RT) (n : Nat) (c : Code) (X : Nat → K) (k : K) : K := codeD CF rec 69 n c X r9 k
theorem s9a6e : D9 rec n c9x6 x0 r9 = (K0 (s9a6 rec n)) :=
  (by kernel_rfl)
theorem s9a8be (kk8 : TT2) : D9 rec n c9x10 (xs x0 4 (K0 (s9a6 rec n))) (K2 kk8 1 5) = (K2 (s9a8b rec n kk8) 1 5) :=
  (by kernel_rfl)
theorem s9a8le (m : Nat) : loopN (fun kk => D9 rec n c9x10 (xs x0 4 (K0 (s9a6 rec n))) kk) m = (K2 (s9a8l rec n m) 1 5) := by
  induction m with
  | zero => exact (by kernel_rfl : loopN (fun kk => D9 rec n c9x10 (xs x0 4 (K0 (s9a6 rec n))) kk) 0 = (K2 (s9a8l rec n 0) 1 5))
  | succ m ih =>
    refine (by kernel_rfl : loopN (fun kk => D9 rec n c9x10 (xs x0 4 (K0 (s9a6 rec n))) kk) (m + 1) = D9 rec n c9x10 (xs x0 4 (K0 (s9a6 rec n))) (loopN (fun kk => D9 rec n c9x10 (xs x0 4 (K0 (s9a6 rec n))) kk) m)).trans ?_
    rw [ih]
    exact (s9a8be rec n (s9a8l rec n m)).trans (by kernel_rfl)
theorem s9a8e : D9 rec n c9x9 (xs x0 4 (K0 (s9a6 rec n))) (K0 (s9a6 rec n)) = (K2 (s9a8 rec n) 1 5) :=
  (by kernel_rfl : D9 rec n c9x9 (xs x0 4 (K0 (s9a6 rec n))) (K0 (s9a6 rec n)) = loopN (fun kk => D9 rec n c9x10 (xs x0 4 (K0 (s9a6 rec n))) kk) n).trans ((s9a8le rec n n).trans (by kernel_rfl))
theorem s9a7e : D9 rec n c9x8 x0 (K0 (s9a6 rec n)) = (K2 (s9a7 rec n) 1 5) :=
  (by kernel_rfl : D9 rec n c9x8 x0 (K0 (s9a6 rec n)) = D9 rec n c9x9 (xs x0 4 (K0 (s9a6 rec n))) (K0 (s9a6 rec n))).trans
  ((s9a8e rec n).trans (by kernel_rfl))
theorem s9a5p1 : D9 rec n c9x5 x0 r9 = D9 rec n c9x7 x0 (K0 (s9a6 rec n)) :=
  congrArg (fun k => D9 rec n c9x7 x0 k) (s9a6e rec n)
theorem s9a5p2 : D9 rec n c9x7 x0 (K0 (s9a6 rec n)) = D9 rec n c9x11 x0 (K2 (s9a7 rec n) 1 5) :=
  congrArg (fun k => D9 rec n c9x11 x0 k) (s9a7e rec n)
theorem s9a5e : D9 rec n c9x5 x0 r9 = (K1 (s9a5 rec n) 1) :=
  (s9a5p1 rec n).trans
  ((s9a5p2 rec n).trans
  ((by kernel_rfl)))
theorem s9a10be (kk10 : TT2) : D9 rec n c9x15 (xs x0 2 (K1 (s9a5 rec n) 1)) (K2 kk10 1 4) = (K2 (s9a10b rec n kk10) 1 4) :=
  (by kernel_rfl)
theorem s9a10le (m : Nat) : loopN (fun kk => D9 rec n c9x15 (xs x0 2 (K1 (s9a5 rec n) 1)) kk) m = (K2 (s9a10l rec n m) 1 4) := by
  induction m with
  | zero => exact (by kernel_rfl : loopN (fun kk => D9 rec n c9x15 (xs x0 2 (K1 (s9a5 rec n) 1)) kk) 0 = (K2 (s9a10l rec n 0) 1 4))
  | succ m ih =>
    refine (by kernel_rfl : loopN (fun kk => D9 rec n c9x15 (xs x0 2 (K1 (s9a5 rec n) 1)) kk) (m + 1) = D9 rec n c9x15 (xs x0 2 (K1 (s9a5 rec n) 1)) (loopN (fun kk => D9 rec n c9x15 (xs x0 2 (K1 (s9a5 rec n) 1)) kk) m)).trans ?_
    rw [ih]
    exact (s9a10be rec n (s9a10l rec n m)).trans (by kernel_rfl)
theorem s9a10e : D9 rec n c9x14 (xs x0 2 (K1 (s9a5 rec n) 1)) (K1 (s9a5 rec n) 1) = (K2 (s9a10 rec n) 1 4) :=
  (by kernel_rfl : D9 rec n c9x14 (xs x0 2 (K1 (s9a5 rec n) 1)) (K1 (s9a5 rec n) 1) = loopN (fun kk => D9 rec n c9x15 (xs x0 2 (K1 (s9a5 rec n) 1)) kk) n).trans ((s9a10le rec n n).trans (by kernel_rfl))
theorem s9a9e : D9 rec n c9x13 x0 (K1 (s9a5 rec n) 1) = (K2 (s9a9 rec n) 1 4) :=
  (by kernel_rfl : D9 rec n c9x13 x0 (K1 (s9a5 rec n) 1) = D9 rec n c9x14 (xs x0 2 (K1 (s9a5 rec n) 1)) (K1 (s9a5 rec n) 1)).trans
  ((s9a10e rec n).trans (by kernel_rfl))
theorem s9a4p3 : D9 rec n c9x4 x0 r9 = D9 rec n c9x12 x0 (K1 (s9a5 rec n) 1) :=
  congrArg (fun k => D9 rec n c9x12 x0 k) (s9a5e rec n)
theorem s9a4p4 : D9 rec n c9x12 x0 (K1 (s9a5 rec n) 1) = D9 rec n c9x16 x0 (K2 (s9a9 rec n) 1 4) :=
  congrArg (fun k => D9 rec n c9x16 x0 k) (s9a9e rec n)
theorem s9a4e : D9 rec n c9x4 x0 r9 = (K1 (s9a4 rec n) 1) :=
  (s9a4p3 rec n).trans
  ((s9a4p4 rec n).trans
  ((by kernel_rfl)))
theorem s9a12be (kk12 : TT2) : D9 rec n c9x20 (xs x0 0 (K1 (s9a4 rec n) 1)) (K2 kk12 1 3) = (K2 (s9a12b rec n kk12) 1 3) :=
  (by kernel_rfl)
theorem s9a12le (m : Nat) : loopN (fun kk => D9 rec n c9x20 (xs x0 0 (K1 (s9a4 rec n) 1)) kk) m = (K2 (s9a12l rec n m) 1 3) := by
  induction m with
  | zero => exact (by kernel_rfl : loopN (fun kk => D9 rec n c9x20 (xs x0 0 (K1 (s9a4 rec n) 1)) kk) 0 = (K2 (s9a12l rec n 0) 1 3))
  | succ m ih =>
    refine (by kernel_rfl : loopN (fun kk => D9 rec n c9x20 (xs x0 0 (K1 (s9a4 rec n) 1)) kk) (m + 1) = D9 rec n c9x20 (xs x0 0 (K1 (s9a4 rec n) 1)) (loopN (fun kk => D9 rec n c9x20 (xs x0 0 (K1 (s9a4 rec n) 1)) kk) m)).trans ?_
    rw [ih]
    exact (s9a12be rec n (s9a12l rec n m)).trans (by kernel_rfl)
theorem s9a12e : D9 rec n c9x19 (xs x0 0 (K1 (s9a4 rec n) 1)) (K1 (s9a4 rec n) 1) = (K2 (s9a12 rec n) 1 3) :=
  (by kernel_rfl : D9 rec n c9x19 (xs x0 0 (K1 (s9a4 rec n) 1)) (K1 (s9a4 rec n) 1) = loopN (fun kk => D9 rec n c9x20 (xs x0 0 (K1 (s9a4 rec n) 1)) kk) n).trans ((s9a12le rec n n).trans (by kernel_rfl))
theorem s9a11e : D9 rec n c9x18 x0 (K1 (s9a4 rec n) 1) = (K2 (s9a11 rec n) 1 3) :=
  (by kernel_rfl : D9 rec n c9x18 x0 (K1 (s9a4 rec n) 1) = D9 rec n c9x19 (xs x0 0 (K1 (s9a4 rec n) 1)) (K1 (s9a4 rec n) 1)).trans
  ((s9a12e rec n).trans (by kernel_rfl))
theorem s9a3p5 : D9 rec n c9x3 x0 r9 = D9 rec n c9x17 x0 (K1 (s9a4 rec n) 1) :=
  congrArg (fun k => D9 rec n c9x17 x0 k) (s9a4e rec n)
theorem s9a3p6 : D9 rec n c9x17 x0 (K1 (s9a4 rec n) 1) = D9 rec n c9x21 x0 (K2 (s9a11 rec n) 1 3) :=
  congrArg (fun k => D9 rec n c9x21 x0 k) (s9a11e rec n)
theorem s9a3e : D9 rec n c9x3 x0 r9 = (K1 (s9a3 rec n) 1) :=
  (s9a3p5 rec n).trans
  ((s9a3p6 rec n).trans
  ((by kernel_rfl)))
theorem s9a2p7 : D9 rec n c9x2 x0 r9 = D9 rec n c9x22 x0 (K1 (s9a3 rec n) 1) :=
  congrArg (fun k => D9 rec n c9x22 x0 k) (s9a3e rec n)
theorem s9a2e : D9 rec n c9x2 x0 r9 = (K1 (s9a2 rec n) 1) :=
  (s9a2p7 rec n).trans
  ((by kernel_rfl))
theorem s9a1p8 : D9 rec n c9x1 x0 r9 = D9 rec n c9x23 x0 (K1 (s9a2 rec n) 1) :=
  congrArg (fun k => D9 rec n c9x23 x0 k) (s9a2e rec n)
theorem s9a1e : D9 rec n c9x1 x0 r9 = (K1 (s9a1 rec n) 1) :=
  (s9a1p8 rec n).trans
  ((by kernel_rfl))
theorem s9p9 : D9 rec n c9 x0 r9 = D9 rec n c9x24 x0 (K1 (s9a1 rec n) 1) :=
  congrArg (fun k => D9 rec n c9x24 x0 k) (s9a1e rec n)
theorem s9q10 (q0 : TT1) : D9 rec n c9x24 x0 (K1 q0 1) = fun (env : Env) (h : Hp) =>
 bnd (pBox (env 0) h) fun v1 h1 =>
    q0 v1 h1 := by kernel_rfl
theorem s9q10u : (fun (env : Env) (h : Hp) =>
 bnd (pBox (env 0) h) fun v1 h1 =>
    s9a1 rec n v1 h1) = (K1 (s9 rec n) 0) := by kernel_rfl
theorem s9m : D9 rec n c9 x0 r9 = (K1 (s9 rec n) 0) :=
  (s9p9 rec n).trans
  ((s9q10 rec n (s9a1 rec n)).trans (s9q10u rec n))
theorem s9ok (args : List DV) (h : Hp) : bodyD CF rec n 9 args h = s9 rec n (args.getD 0 undefD) h :=
  (by kernel_rfl : bodyD CF rec n 9 args h = D9 rec n c9 x0 r9 (argsE args) h).trans ((congrFun (congrFun (s9m rec n) (argsE args)) h).trans (by kernel_rfl))
/-- vivariumlaw08.lives -/
def s10 (rec : RT) (n : Nat) (h0 : Hp) : Res :=
 bnd (rec 14 [(.s [94, 40, 51, 43, 52, 41, 102, 111, 111, 58, 53, 59, 98, 97, 114])] h0) fun v1 h1 =>
 bnd (pExtract 0 v1 h1) fun v2 h2 =>
 bnd (pExtract 1 v1 h2) fun v3 h3 =>
 bnd (pExtract 2 v1 h3) fun v4 h4 =>
 bnd (pNew [(.i .i64 (Int.ofNat 0)), (.s []), (.i .i64 (Int.ofNat 0)), .l0, .l0, .l0] h4) fun v5 h5 =>
 bnd (pStore 6 v5 v2 h5) fun _ h6 =>
 bnd (pLoadA 6 v5 h6) fun v7 h7 =>
 bnd (rec 13 [v7] h7) fun v8 h8 =>
 bnd (pExtract 0 v8 h8) fun v9 h9 =>
 bnd (pExtract 1 v8 h9) fun v10 h10 =>
 bnd (rec 14 [(.s [40, 97, 32, 102, 111, 111, 58, 32, 49, 41, 32, 98, 97, 114])] h10) fun v11 h11 =>
 bnd (pExtract 0 v11 h11) fun v12 h12 =>
 bnd (pExtract 1 v11 h12) fun v13 h13 =>
 bnd (pExtract 2 v11 h13) fun v14 h14 =>
 bnd (pNew [(.i .i64 (Int.ofNat 0)), (.s []), (.i .i64 (Int.ofNat 0)), .l0, .l0, .l0] h14) fun v15 h15 =>
 bnd (pStore 6 v15 v12 h15) fun _ h16 =>
 bnd (pLoadA 6 v15 h16) fun v17 h17 =>
 bnd (rec 13 [v17] h17) fun v18 h18 =>
 bnd (pExtract 0 v18 h18) fun v19 h19 =>
 bnd (pExtract 1 v18 h19) fun v20 h20 =>
 bnd (pBuild [(.i .i64 (Int.ofNat 0)), (.s []), (.i .i64 (Int.ofNat 0)), .l0, .l0, .l0] [(0, 1, (.i .i64 (Int.ofNat 11)))] h20) fun v21 h21 =>
 bnd (rec 11 [v21] h21) fun v22 h22 =>
 bnd (pExtract 0 v22 h22) fun v23 h23 =>
 bnd (pExtract 1 v22 h23) fun v24 h24 =>
 bnd (pInt .eql v4 (.i .i64 (Int.ofNat 0)) h24) fun v25 h25 =>
 bnd (gD v25 true (some (v9, h25)) h25) fun v26 h26 =>
 bnd (gD v25 true (pStr .eql v26 (.s [94, 51, 32, 43, 32, 52, 32, 102, 111, 111, 58, 32, 53, 59, 32, 98, 97, 114]) h26) h26) fun v27 h27 =>
 bnd (pPick v25 v27 (.b false) h27) fun v28 h28 =>
 bnd (gD v28 true (some (v10, h28)) h28) fun v29 h29 =>
 bnd (gD v28 true (pInt .eql v29 (.i .i64 (Int.ofNat 0)) h29) h29) fun v30 h30 =>
 bnd (pPick v28 v30 (.b false) h30) fun v31 h31 =>
 bnd (gD v31 true (some (v14, h31)) h31) fun v32 h32 =>
 bnd (gD v31 true (pInt .eql v32 (.i .i64 (Int.ofNat 0)) h32) h32) fun v33 h33 =>
 bnd (pPick v31 v33 (.b false) h33) fun v34 h34 =>
 bnd (gD v34 true (some (v19, h34)) h34) fun v35 h35 =>
 bnd (gD v34 true (pStr .eql v35 (.s [40, 97, 32, 102, 111, 111, 58, 32, 49, 41, 32, 98, 97, 114]) h35) h35) fun v36 h36 =>
 bnd (pPick v34 v36 (.b false) h36) fun v37 h37 =>
 bnd (gD v37 true (some (v20, h37)) h37) fun v38 h38 =>
 bnd (gD v37 true (pInt .eql v38 (.i .i64 (Int.ofNat 0)) h38) h38) fun v39 h39 =>
 bnd (pPick v37 v39 (.b false) h39) fun v40 h40 =>
 bnd (gD v40 true (some (v24, h40)) h40) fun v41 h41 =>
 bnd (gD v40 true (pInt .eql v41 (.i .i64 (Int.ofNat 1)) h41) h41) fun v42 h42 =>
 bnd (pPick v40 v42 (.b false) h42) fun v43 h43 =>
 some (v43, h43)
abbrev c10 : Code := cf Tryz.f10
abbrev r10 : K := retK CF Tryz.f10
def D10 (rec : RT) (n : Nat) (c : Code) (X : Nat → K) (k : K) : K := codeD CF rec 64 n c X r10 k
theorem s10m : D10 rec n c10 x0 r10 = (K0 (s10 rec n)) :=
  (by kernel_rfl)
theorem s10ok (args : List DV) (h : Hp) : bodyD CF rec n 10 args h = s10 rec n h :=
  (by kernel_rfl : bodyD CF rec n 10 args h = D10 rec n c10 x0 r10 (argsE args) h).trans ((congrFun (congrFun (s10m rec n) (argsE args)) h).trans (by kernel_rfl))
/-- show.Doit -/
def s13 (rec : RT) (n : Nat) (x0 : DV) (h0 : Hp) : Res :=
 bnd (pBox x0 h0) fun v1 h1 =>
 bnd (pLoadA 6 v1 h1) fun v2 h2 =>
 bnd (rec 21 [v2] h2) fun v3 h3 =>
 bnd (rec 14 [v3] h3) fun v4 h4 =>
 bnd (pExtract 0 v4 h4) fun v5 h5 =>
 bnd (pExtract 1 v4 h5) fun v6 h6 =>
 bnd (pExtract 2 v4 h6) fun v7 h7 =>
 bnd (pNew [(.i .i64 (Int.ofNat 0)), (.s []), (.i .i64 (Int.ofNat 0)), .l0, .l0, .l0] h7) fun v8 h8 =>
 bnd (pStore 6 v8 v5 h8) fun _ h9 =>
 bnd (pLoadA 6 v1 h9) fun v10 h10 =>
 bnd (pLoadA 6 v8 h10) fun v11 h11 =>
 bnd (rec 22 [v3, v10, v11, v7] h11) fun v12 h12 =>
 bnd (pExtract 0 v12 h12) fun v13 h13 =>
 bnd (pExtract 1 v12 h13) fun v14 h14 =>
 some (.t [v13, v14], h14)
abbrev c13 : Code := cf Tryz.f13
abbrev r13 : K := retK CF Tryz.f13
def D13 (rec : RT) (n : Nat) (c : Code) (X : Nat → K) (k : K) : K := codeD CF rec 23 n c X r13 k
theorem s13m : D13 rec n c13 x0 r13 = (K1 (s13 rec n) 0) :=
  (by kernel_rfl)
theorem s13ok (args : List DV) (h : Hp) : bodyD CF rec n 13 args h = s13 rec n (args.getD 0 undefD) h :=
  (by kernel_rfl : bodyD CF rec n 13 args h = D13 rec n c13 x0 r13 (argsE args) h).trans ((congrFun (congrFun (s13m rec n) (argsE args)) h).trans (by kernel_rfl))
/-- parse.Doit -/
def s14 (rec : RT) (n : Nat) (x0 : DV) (h0 : Hp) : Res :=
 bnd (pNew [(.i .i64 (Int.ofNat 0)), (.s []), (.i .i64 (Int.ofNat 0)), .l0, .l0, .l0] h0) fun v1 h1 =>
 bnd (rec 26 [x0, (.f 27 [] [])] h1) fun v2 h2 =>
 bnd (pExtract 0 v2 h2) fun v3 h3 =>
 bnd (pExtract 1 v2 h3) fun v4 h4 =>
 bnd (pExtract 2 v2 h4) fun v5 h5 =>
 bnd (pStore 6 v1 v3 h5) fun _ h6 =>
 bnd (pLoadA 6 v1 h6) fun v7 _ =>
 some (.t [v7, v4, v5], h6)
abbrev c14 : Code := cf Tryz.f14
abbrev r14 : K := retK CF Tryz.f14
def D14 (rec : RT) (n : Nat) (c : Code) (X : Nat → K) (k : K) : K := codeD CF rec 10 n c X r14 k
theorem s14m : D14 rec n c14 x0 r14 = (K1 (s14 rec n) 0) :=
  (by kernel_rfl)
theorem s14ok (args : List DV) (h : Hp) : bodyD CF rec n 14 args h = s14 rec n (args.getD 0 undefD) h :=
  (by kernel_rfl : bodyD CF rec n 14 args h = D14 rec n c14 x0 r14 (argsE args) h).trans ((congrFun (congrFun (s14m rec n) (argsE args)) h).trans (by kernel_rfl))
def s16a5 (rec : RT) (n : Nat) (h0 : Hp) : Res :=
 some ((.b true), h0)
def s16a7b (rec : RT) (n : Nat) (kk7 : TT3) (x2 x3 x7 : DV) (h0 : Hp) : Res :=
 bnd (pField 5 x2 h0) fun v1 h1 =>
 bnd (pLoad1 v1 h1) fun v2 h2 =>
 bnd (pLen v2 h2) fun v3 h3 =>
 bnd (pInt .lss x7 v3 h3) fun v4 h4 =>
 ifD v4 (
 bnd (pField 5 x2 h4) fun v5 h5 =>
 bnd (pLoad1 v5 h5) fun v6 h6 =>
 bnd (pIndexAddr 6 v6 x7 h6) fun v7 h7 =>
 bnd (pLoadA 6 v7 h7) fun v8 h8 =>
 bnd (pField 5 x3 h8) fun v9 h9 =>
 bnd (pLoad1 v9 h9) fun v10 h10 =>
 bnd (pIndexAddr 6 v10 x7 h10) fun v11 h11 =>
 bnd (pLoadA 6 v11 h11) fun v12 h12 =>
 bnd (rec 16 [v8, v12] h12) fun v13 h13 =>
 bnd (pUn .not v13 h13) fun v14 h14 =>
 ifD v14 (
 some ((.b false), h14)) (
 bnd (pInt .add x7 (.i .i64 (Int.ofNat 1)) h14) fun v15 h15 =>
        kk7 x2 x3 v15 h15)) (
      s16a5 rec n h4)
def s16a7l (rec : RT) (n : Nat) (m : Nat) : TT3 :=
  Nat.rec (motive := fun _ => TT3) (fun _ _ _ _ => none) (fun _ ih => s16a7b rec n ih) m
def s16a7 (rec : RT) (n : Nat) : TT3 := s16a7l rec n n
def s16a6 (rec : RT) (n : Nat) (x2 x3 x7 : DV) (h0 : Hp) : Res :=
  s16a7 rec n x2 x3 x7 h0
def s16a4 (rec : RT) (n : Nat) (x2 x3 : DV) (h0 : Hp) : Res :=
  s16a6 rec n x2 x3 (.i .i64 (Int.ofNat 0)) h0
def s16a3 (rec : RT) (n : Nat) (x2 x3 x5 x6 : DV) (h0 : Hp) : Res :=
 bnd (pUn .not x5 h0) fun v1 h1 =>
 bnd (gD v1 false (some (x6, h1)) h1) fun v2 h2 =>
 bnd (gD v1 false (pUn .not v2 h2) h2) fun v3 h3 =>
 bnd (pPick v1 (.b true) v3 h3) fun v4 h4 =>
 bnd (gD v4 false (pField 0 x2 h4) h4) fun v5 h5 =>
 bnd (gD v4 false (pLoad1 v5 h5) h5) fun v6 h6 =>
 bnd (gD v4 false (pField 0 x3 h6) h6) fun v7 h7 =>
 bnd (gD v4 false (pLoad1 v7 h7) h7) fun v8 h8 =>
 bnd (gD v4 false (pInt .neq v6 v8 h8) h8) fun v9 h9 =>
 bnd (pPick v4 (.b true) v9 h9) fun v10 h10 =>
 bnd (gD v10 false (pField 1 x2 h10) h10) fun v11 h11 =>
 bnd (gD v10 false (pLoad1 v11 h11) h11) fun v12 h12 =>
 bnd (gD v10 false (pField 1 x3 h12) h12) fun v13 h13 =>
 bnd (gD v10 false (pLoad1 v13 h13) h13) fun v14 h14 =>
 bnd (gD v10 false (pStr .neq v12 v14 h14) h14) fun v15 h15 =>
 bnd (pPick v10 (.b true) v15 h15) fun v16 h16 =>
 bnd (gD v16 false (pField 2 x2 h16) h16) fun v17 h17 =>
 bnd (gD v16 false (pLoad1 v17 h17) h17) fun v18 h18 =>
 bnd (gD v16 false (pField 2 x3 h18) h18) fun v19 h19 =>
 bnd (gD v16 false (pLoad1 v19 h19) h19) fun v20 h20 =>
 bnd (gD v16 false (pInt .neq v18 v20 h20) h20) fun v21 h21 =>
 bnd (pPick v16 (.b true) v21 h21) fun v22 h22 =>
 bnd (gD v22 false (pField 5 x2 h22) h22) fun v23 h23 =>
 bnd (gD v22 false (pLoad1 v23 h23) h23) fun v24 h24 =>
 bnd (gD v22 false (pLen v24 h24) h24) fun v25 h25 =>
 bnd (gD v22 false (pField 5 x3 h25) h25) fun v26 h26 =>
 bnd (gD v22 false (pLoad1 v26 h26) h26) fun v27 h27 =>
 bnd (gD v22 false (pLen v27 h27) h27) fun v28 h28 =>
 bnd (gD v22 false (pInt .neq v25 v28 h28) h28) fun v29 h29 =>
 bnd (pPick v22 (.b true) v29 h29) fun v30 h30 =>
 ifD v30 (
 some ((.b false), h30)) (
    s16a4 rec n x2 x3 h30)
def s16a2 (rec : RT) (n : Nat) (x2 x3 x5 : DV) (h0 : Hp) : Res :=
 bnd (pField 4 x2 h0) fun v1 h1 =>
 bnd (pLoad1 v1 h1) fun v2 h2 =>
 bnd (pField 4 x3 h2) fun v3 h3 =>
 bnd (pLoad1 v3 h3) fun v4 h4 =>
 bnd (rec 28 [v2, v4] h4) fun v5 h5 =>
  s16a3 rec n x2 x3 x5 v5 h5
def s16a1 (rec : RT) (n : Nat) (x2 x3 : DV) (h0 : Hp) : Res :=
 bnd (pField 3 x2 h0) fun v1 h1 =>
 bnd (pLoad1 v1 h1) fun v2 h2 =>
 bnd (pField 3 x3 h2) fun v3 h3 =>
 bnd (pLoad1 v3 h3) fun v4 h4 =>
 bnd (rec 28 [v2, v4] h4) fun v5 h5 =>
  s16a2 rec n x2 x3 v5 h5
/-- vivariumref07.Same -/
def s16 (rec : RT) (n : Nat) (x0 x1 : DV) (h0 : Hp) : Res :=
 bnd (pBox x0 h0) fun v1 h1 =>
 bnd (pBox x1 h1) fun v2 h2 =>
  s16a1 rec n v1 v2 h2
abbrev c16 : Code := cf Tryz.f16
abbrev c16x1 : Code := cR c16
abbrev c16x2 : Code := cR c16x1
abbrev c16x3 : Code := cR c16x2
abbrev c16x4 : Code := cR c16x3
abbrev c16x5 : Code := cR c16x4
abbrev c16x6 : Code := cL c16x4
abbrev c16x7 : Code := cR c16x6
abbrev c16x8 : Code := cL c16x7
abbrev c16x9 : Code := cL c16x8
abbrev c16x10 : Code := cL c16x6
abbrev c16x11 : Code := cL c16x3
abbrev c16x12 : Code := cL c16x2
abbrev c16x13 : Code := cL c16x1
abbrev c16x14 : Code := cL c16
abbrev r16 : K := retK CF Tryz.f16
def D16 (rec : RT) (n : Nat) (c : Code) (X : Nat → K) (k : K) : K := codeD CF rec 75 n c X r16 k
theorem s16a5e : D16 rec n c16x5 x0 r16 = (K0 (s16a5 rec n)) :=
  (by kernel_rfl)
theorem s16a7be (kk7 : TT3) : D16 rec n c16x9 (xs x0 0 (K0 (s16a5 rec n))) (K3 kk7 2 3 7) = (K3 (s16a7b rec n kk7) 2 3 7) :=
  (by kernel_rfl)
theorem s16a7le (m : Nat) : loopN (fun kk => D16 rec n c16x9 (xs x0 0 (K0 (s16a5 rec n))) kk) m = (K3 (s16a7l rec n m) 2 3 7) := by
  induction m with
  | zero => exact (by kernel_rfl : loopN (fun kk => D16 rec n c16x9 (xs x0 0 (K0 (s16a5 rec n))) kk) 0 = (K3 (s16a7l rec n 0) 2 3 7))
  | succ m ih =>
    refine (by kernel_rfl : loopN (fun kk => D16 rec n c16x9 (xs x0 0 (K0 (s16a5 rec n))) kk) (m + 1) = D16 rec n c16x9 (xs x0 0 (K0 (s16a5 rec n))) (loopN (fun kk => D16 rec n c16x9 (xs x0 0 (K0 (s16a5 rec n))) kk) m)).trans ?_
    rw [ih]
    exact (s16a7be rec n (s16a7l rec n m)).trans (by kernel_rfl)
theorem s16a7e : D16 rec n c16x8 (xs x0 0 (K0 (s16a5 rec n))) (K0 (s16a5 rec n)) = (K3 (s16a7 rec n) 2 3 7) :=
  (by kernel_rfl : D16 rec n c16x8 (xs x0 0 (K0 (s16a5 rec n))) (K0 (s16a5 rec n)) = loopN (fun kk => D16 rec n c16x9 (xs x0 0 (K0 (s16a5 rec n))) kk) n).trans ((s16a7le rec n n).trans (by kernel_rfl))
theorem s16a6e : D16 rec n c16x7 x0 (K0 (s16a5 rec n)) = (K3 (s16a6 rec n) 2 3 7) :=
  (by kernel_rfl : D16 rec n c16x7 x0 (K0 (s16a5 rec n)) = D16 rec n c16x8 (xs x0 0 (K0 (s16a5 rec n))) (K0 (s16a5 rec n))).trans
  ((s16a7e rec n).trans (by kernel_rfl))
theorem s16a4p1 : D16 rec n c16x4 x0 r16 = D16 rec n c16x6 x0 (K0 (s16a5 rec n)) :=
  congrArg (fun k => D16 rec n c16x6 x0 k) (s16a5e rec n)
theorem s16a4p2 : D16 rec n c16x6 x0 (K0 (s16a5 rec n)) = D16 rec n c16x10 x0 (K3 (s16a6 rec n) 2 3 7) :=
  congrArg (fun k => D16 rec n c16x10 x0 k) (s16a6e rec n)
theorem s16a4e : D16 rec n c16x4 x0 r16 = (K2 (s16a4 rec n) 2 3) :=
  (s16a4p1 rec n).trans
  ((s16a4p2 rec n).trans
  ((by kernel_rfl)))
theorem s16a3p3 : D16 rec n c16x3 x0 r16 = D16 rec n c16x11 x0 (K2 (s16a4 rec n) 2 3) :=
  congrArg (fun k => D16 rec n c16x11 x0 k) (s16a4e rec n)
theorem s16a3e : D16 rec n c16x3 x0 r16 = (K4 (s16a3 rec n) 2 3 5 6) :=
  (s16a3p3 rec n).trans
  ((by kernel_rfl))
theorem s16a2p4 : D16 rec n c16x2 x0 r16 = D16 rec n c16x12 x0 (K4 (s16a3 rec n) 2 3 5 6) :=
  congrArg (fun k => D16 rec n c16x12 x0 k) (s16a3e rec n)
theorem s16a2e : D16 rec n c16x2 x0 r16 = (K3 (s16a2 rec n) 2 3 5) :=
  (s16a2p4 rec n).trans
  ((by kernel_rfl))
theorem s16a1p5 : D16 rec n c16x1 x0 r16 = D16 rec n c16x13 x0 (K3 (s16a2 rec n) 2 3 5) :=
  congrArg (fun k => D16 rec n c16x13 x0 k) (s16a2e rec n)
theorem s16a1e : D16 rec n c16x1 x0 r16 = (K2 (s16a1 rec n) 2 3) :=
  (s16a1p5 rec n).trans
  ((by kernel_rfl))
theorem s16p6 : D16 rec n c16 x0 r16 = D16 rec n c16x14 x0 (K2 (s16a1 rec n) 2 3) :=
  congrArg (fun k => D16 rec n c16x14 x0 k) (s16a1e rec n)
theorem s16q7 (q0 : TT2) : D16 rec n c16x14 x0 (K2 q0 2 3) = fun (env : Env) (h : Hp) =>
 bnd (pBox (env 0) h) fun v1 h1 =>
 bnd (pBox (env 1) h1) fun v2 h2 =>
    q0 v1 v2 h2 := by kernel_rfl
theorem s16q7u : (fun (env : Env) (h : Hp) =>
 bnd (pBox (env 0) h) fun v1 h1 =>
 bnd (pBox (env 1) h1) fun v2 h2 =>
    s16a1 rec n v1 v2 h2) = (K2 (s16 rec n) 0 1) := by kernel_rfl
theorem s16m : D16 rec n c16 x0 r16 = (K2 (s16 rec n) 0 1) :=
  (s16p6 rec n).trans
  ((s16q7 rec n (s16a1 rec n)).trans (s16q7u rec n))
theorem s16ok (args : List DV) (h : Hp) : bodyD CF rec n 16 args h = s16 rec n (args.getD 0 undefD) (args.getD 1 undefD) h :=
  (by kernel_rfl : bodyD CF rec n 16 args h = D16 rec n c16 x0 r16 (argsE args) h).trans ((congrFun (congrFun (s16m rec n) (argsE args)) h).trans (by kernel_rfl))
def s18a3 (rec : RT) (n : Nat) (x1 x5 : DV) (h0 : Hp) : Res :=
 bnd (pInt .gtr x5 x1 h0) fun v1 h1 =>
 ifD v1 (
 some ((.i .i64 (Int.negSucc 0)), h1)) (
 some (x5, h1))
def s18a5b (rec : RT) (n : Nat) (kk5 : TT4) (x1 x2 x5 x6 : DV) (h0 : Hp) : Res :=
 bnd (pField 5 x2 h0) fun v1 h1 =>
 bnd (pLoad1 v1 h1) fun v2 h2 =>
 bnd (pLen v2 h2) fun v3 h3 =>
 bnd (pInt .lss x6 v3 h3) fun v4 h4 =>
 ifD v4 (
 bnd (pInt .geq x5 x1 h4) fun v5 h5 =>
 ifD v5 (
 some ((.i .i64 (Int.negSucc 0)), h5)) (
 bnd (pField 5 x2 h5) fun v6 h6 =>
 bnd (pLoad1 v6 h6) fun v7 h7 =>
 bnd (pIndexAddr 6 v7 x6 h7) fun v8 h8 =>
 bnd (pLoadA 6 v8 h8) fun v9 h9 =>
 bnd (pInt .sub x1 x5 h9) fun v10 h10 =>
 bnd (rec 18 [v9, v10] h10) fun v11 h11 =>
 bnd (pInt .lss v11 (.i .i64 (Int.ofNat 0)) h11) fun v12 h12 =>
 ifD v12 (
 some ((.i .i64 (Int.negSucc 0)), h12)) (
 bnd (pInt .add x5 v11 h12) fun v13 h13 =>
 bnd (pInt .add x6 (.i .i64 (Int.ofNat 1)) h13) fun v14 h14 =>
          kk5 x1 x2 v13 v14 h14))) (
      s18a3 rec n x1 x5 h4)
def s18a5l (rec : RT) (n : Nat) (m : Nat) : TT4 :=
  Nat.rec (motive := fun _ => TT4) (fun _ _ _ _ _ => none) (fun _ ih => s18a5b rec n ih) m
def s18a5 (rec : RT) (n : Nat) : TT4 := s18a5l rec n n
def s18a4 (rec : RT) (n : Nat) (x1 x2 x5 x6 : DV) (h0 : Hp) : Res :=
  s18a5 rec n x1 x2 x5 x6 h0
def s18a2 (rec : RT) (n : Nat) (x1 x2 x5 : DV) (h0 : Hp) : Res :=
  s18a4 rec n x1 x2 x5 (.i .i64 (Int.ofNat 0)) h0
def s18a1 (rec : RT) (n : Nat) (x1 x2 : DV) (h0 : Hp) : Res :=
  s18a2 rec n x1 x2 (.i .i64 (Int.ofNat 1)) h0
/-- vivariumref07.Few -/
def s18 (rec : RT) (n : Nat) (x0 x1 : DV) (h0 : Hp) : Res :=
 bnd (pBox x0 h0) fun v1 h1 =>
  s18a1 rec n x1 v1 h1
abbrev c18 : Code := cf Tryz.f18
abbrev c18x1 : Code := cR c18
abbrev c18x2 : Code := cR c18x1
abbrev c18x3 : Code := cR c18x2
abbrev c18x4 : Code := cL c18x2
abbrev c18x5 : Code := cR c18x4
abbrev c18x6 : Code := cL c18x5
abbrev c18x7 : Code := cL c18x6
abbrev c18x8 : Code := cL c18x4
abbrev c18x9 : Code := cL c18x1
abbrev c18x10 : Code := cL c18
abbrev r18 : K := retK CF Tryz.f18
def D18 (rec : RT) (n : Nat) (c : Code) (X : Nat → K) (k : K) : K := codeD CF rec 36 n c X r18 k
theorem s18a3e : D18 rec n c18x3 x0 r18 = (K2 (s18a3 rec n) 1 5) :=
  (by kernel_rfl)
theorem s18a5be (kk5 : TT4) : D18 rec n c18x7 (xs x0 0 (K2 (s18a3 rec n) 1 5)) (K4 kk5 1 2 5 6) = (K4 (s18a5b rec n kk5) 1 2 5 6) :=
  (by kernel_rfl)
theorem s18a5le (m : Nat) : loopN (fun kk => D18 rec n c18x7 (xs x0 0 (K2 (s18a3 rec n) 1 5)) kk) m = (K4 (s18a5l rec n m) 1 2 5 6) := by
  induction m with
  | zero => exact (by kernel_rfl : loopN (fun kk => D18 rec n c18x7 (xs x0 0 (K2 (s18a3 rec n) 1 5)) kk) 0 = (K4 (s18a5l rec n 0) 1 2 5 6))
  | succ m ih =>
    refine (by kernel_rfl : loopN (fun kk => D18 rec n c18x7 (xs x0 0 (K2 (s18a3 rec n) 1 5)) kk) (m + 1) = D18 rec n c18x7 (xs x0 0 (K2 (s18a3 rec n) 1 5)) (loopN (fun kk => D18 rec n c18x7 (xs x0 0 (K2 (s18a3 rec n) 1 5)) kk) m)).trans ?_
    rw [ih]
    exact (s18a5be rec n (s18a5l rec n m)).trans (by kernel_rfl)
theorem s18a5e : D18 rec n c18x6 (xs x0 0 (K2 (s18a3 rec n) 1 5)) (K2 (s18a3 rec n) 1 5) = (K4 (s18a5 rec n) 1 2 5 6) :=
  (by kernel_rfl : D18 rec n c18x6 (xs x0 0 (K2 (s18a3 rec n) 1 5)) (K2 (s18a3 rec n) 1 5) = loopN (fun kk => D18 rec n c18x7 (xs x0 0 (K2 (s18a3 rec n) 1 5)) kk) n).trans ((s18a5le rec n n).trans (by kernel_rfl))
theorem s18a4e : D18 rec n c18x5 x0 (K2 (s18a3 rec n) 1 5) = (K4 (s18a4 rec n) 1 2 5 6) :=
  (by kernel_rfl : D18 rec n c18x5 x0 (K2 (s18a3 rec n) 1 5) = D18 rec n c18x6 (xs x0 0 (K2 (s18a3 rec n) 1 5)) (K2 (s18a3 rec n) 1 5)).trans
  ((s18a5e rec n).trans (by kernel_rfl))
theorem s18a2p1 : D18 rec n c18x2 x0 r18 = D18 rec n c18x4 x0 (K2 (s18a3 rec n) 1 5) :=
  congrArg (fun k => D18 rec n c18x4 x0 k) (s18a3e rec n)
theorem s18a2p2 : D18 rec n c18x4 x0 (K2 (s18a3 rec n) 1 5) = D18 rec n c18x8 x0 (K4 (s18a4 rec n) 1 2 5 6) :=
  congrArg (fun k => D18 rec n c18x8 x0 k) (s18a4e rec n)
theorem s18a2e : D18 rec n c18x2 x0 r18 = (K3 (s18a2 rec n) 1 2 5) :=
  (s18a2p1 rec n).trans
  ((s18a2p2 rec n).trans
  ((by kernel_rfl)))
theorem s18a1p3 : D18 rec n c18x1 x0 r18 = D18 rec n c18x9 x0 (K3 (s18a2 rec n) 1 2 5) :=
  congrArg (fun k => D18 rec n c18x9 x0 k) (s18a2e rec n)
theorem s18a1e : D18 rec n c18x1 x0 r18 = (K2 (s18a1 rec n) 1 2) :=
  (s18a1p3 rec n).trans
  ((by kernel_rfl))
theorem s18p4 : D18 rec n c18 x0 r18 = D18 rec n c18x10 x0 (K2 (s18a1 rec n) 1 2) :=
  congrArg (fun k => D18 rec n c18x10 x0 k) (s18a1e rec n)
theorem s18q5 (q0 : TT2) : D18 rec n c18x10 x0 (K2 q0 1 2) = fun (env : Env) (h : Hp) =>
 bnd (pBox (env 0) h) fun v1 h1 =>
    q0 (env 1) v1 h1 := by kernel_rfl
theorem s18q5u : (fun (env : Env) (h : Hp) =>
 bnd (pBox (env 0) h) fun v1 h1 =>
    s18a1 rec n (env 1) v1 h1) = (K2 (s18 rec n) 0 1) := by kernel_rfl
theorem s18m : D18 rec n c18 x0 r18 = (K2 (s18 rec n) 0 1) :=
  (s18p4 rec n).trans
  ((s18q5 rec n (s18a1 rec n)).trans (s18q5u rec n))
theorem s18ok (args : List DV) (h : Hp) : bodyD CF rec n 18 args h = s18 rec n (args.getD 0 undefD) (args.getD 1 undefD) h :=
  (by kernel_rfl : bodyD CF rec n 18 args h = D18 rec n c18 x0 r18 (argsE args) h).trans ((congrFun (congrFun (s18m rec n) (argsE args)) h).trans (by kernel_rfl))
/-- show.put -/
def s19 (rec : RT) (n : Nat) (x0 : DV) (h0 : Hp) : Res :=
 bnd (joinF [x0, (.s [])] h0) fun v1 h1 =>
 some (v1, h1)
abbrev c19 : Code := cf Tryz.f19
abbrev r19 : K := retK CF Tryz.f19
def D19 (rec : RT) (n : Nat) (c : Code) (X : Nat → K) (k : K) : K := codeD CF rec 5 n c X r19 k
theorem s19m : D19 rec n c19 x0 r19 = (K1 (s19 rec n) 0) :=
  (by kernel_rfl)
theorem s19ok (args : List DV) (h : Hp) : bodyD CF rec n 19 args h = s19 rec n (args.getD 0 undefD) h :=
  (by kernel_rfl : bodyD CF rec n 19 args h = D19 rec n c19 x0 r19 (argsE args) h).trans ((congrFun (congrFun (s19m rec n) (argsE args)) h).trans (by kernel_rfl))
def s21a3 (rec : RT) (n : Nat) (x1 x3 : DV) (h0 : Hp) : Res :=
 bnd (pField 5 x1 h0) fun v1 h1 =>
 bnd (pLoad1 v1 h1) fun v2 h2 =>
 bnd (rec 35 [v2, (.s [46, 32]), (.f 36 [] [])] h2) fun v3 h3 =>
 bnd (pBuildSlice [(.s []), (.s [])] 2 [(0, 1, x3), (1, 1, v3)] h3) fun v4 h4 =>
 bnd (rec 19 [v4] h4) fun v5 h5 =>
 some (v5, h5)
def s21a2 (rec : RT) (n : Nat) (x1 x3 : DV) (h0 : Hp) : Res :=
 bnd (pField 4 x1 h0) fun v1 h1 =>
 bnd (pLoad1 v1 h1) fun v2 h2 =>
 bnd (pLen v2 h2) fun v3 h3 =>
 bnd (pInt .gtr v3 (.i .i64 (Int.ofNat 0)) h3) fun v4 h4 =>
 ifD v4 (
 bnd (pField 4 x1 h4) fun v5 h5 =>
 bnd (pLoad1 v5 h5) fun v6 h6 =>
 bnd (joinF [v6, (.s [32])] h6) fun v7 h7 =>
 bnd (pBuildSlice [(.s []), (.s []), (.s [])] 3 [(0, 1, (.s [124, 32])), (1, 1, v7), (2, 1, (.s [32, 124, 32]))] h7) fun v8 h8 =>
 bnd (rec 19 [v8] h8) fun v9 h9 =>
    s21a3 rec n x1 v9 h9) (
    s21a3 rec n x1 x3 h4)
def s21a1 (rec : RT) (n : Nat) (x1 : DV) (h0 : Hp) : Res :=
  s21a2 rec n x1 (.s []) h0
/-- show.body -/
def s21 (rec : RT) (n : Nat) (x0 : DV) (h0 : Hp) : Res :=
 bnd (pBox x0 h0) fun v1 h1 =>
  s21a1 rec n v1 h1
abbrev c21 : Code := cf Tryz.f21
abbrev c21x1 : Code := cR c21
abbrev c21x2 : Code := cR c21x1
abbrev c21x3 : Code := cR c21x2
abbrev c21x4 : Code := cL c21x2
abbrev c21x5 : Code := cL c21x1
abbrev c21x6 : Code := cL c21
abbrev r21 : K := retK CF Tryz.f21
def D21 (rec : RT) (n : Nat) (c : Code) (X : Nat → K) (k : K) : K := codeD CF rec 19 n c X r21 k
theorem s21a3e : D21 rec n c21x3 x0 r21 = (K2 (s21a3 rec n) 1 3) :=
  (by kernel_rfl)
theorem s21a2p1 : D21 rec n c21x2 x0 r21 = D21 rec n c21x4 x0 (K2 (s21a3 rec n) 1 3) :=
  congrArg (fun k => D21 rec n c21x4 x0 k) (s21a3e rec n)
theorem s21a2q2 (q0 : TT2) : D21 rec n c21x4 x0 (K2 q0 1 3) = fun (env : Env) (h : Hp) =>
 bnd (pField 4 (env 1) h) fun v1 h1 =>
 bnd (pLoad1 v1 h1) fun v2 h2 =>
 bnd (pLen v2 h2) fun v3 h3 =>
 bnd (pInt .gtr v3 (.i .i64 (Int.ofNat 0)) h3) fun v4 h4 =>
 ifD v4 (
 bnd (pField 4 (env 1) h4) fun v5 h5 =>
 bnd (pLoad1 v5 h5) fun v6 h6 =>
 bnd (joinF [v6, (.s [32])] h6) fun v7 h7 =>
 bnd (pBuildSlice [(.s []), (.s []), (.s [])] 3 [(0, 1, (.s [124, 32])), (1, 1, v7), (2, 1, (.s [32, 124, 32]))] h7) fun v8 h8 =>
 bnd (rec 19 [v8] h8) fun v9 h9 =>
      q0 (env 1) v9 h9) (
      q0 (env 1) (env 3) h4) := by kernel_rfl
theorem s21a2q2u : (fun (env : Env) (h : Hp) =>
 bnd (pField 4 (env 1) h) fun v1 h1 =>
 bnd (pLoad1 v1 h1) fun v2 h2 =>
 bnd (pLen v2 h2) fun v3 h3 =>
 bnd (pInt .gtr v3 (.i .i64 (Int.ofNat 0)) h3) fun v4 h4 =>
 ifD v4 (
 bnd (pField 4 (env 1) h4) fun v5 h5 =>
 bnd (pLoad1 v5 h5) fun v6 h6 =>
 bnd (joinF [v6, (.s [32])] h6) fun v7 h7 =>
 bnd (pBuildSlice [(.s []), (.s []), (.s [])] 3 [(0, 1, (.s [124, 32])), (1, 1, v7), (2, 1, (.s [32, 124, 32]))] h7) fun v8 h8 =>
 bnd (rec 19 [v8] h8) fun v9 h9 =>
      s21a3 rec n (env 1) v9 h9) (
      s21a3 rec n (env 1) (env 3) h4)) = (K2 (s21a2 rec n) 1 3) := by kernel_rfl
theorem s21a2e : D21 rec n c21x2 x0 r21 = (K2 (s21a2 rec n) 1 3) :=
  (s21a2p1 rec n).trans
  ((s21a2q2 rec n (s21a3 rec n)).trans (s21a2q2u rec n))
theorem s21a1p3 : D21 rec n c21x1 x0 r21 = D21 rec n c21x5 x0 (K2 (s21a2 rec n) 1 3) :=
  congrArg (fun k => D21 rec n c21x5 x0 k) (s21a2e rec n)
theorem s21a1e : D21 rec n c21x1 x0 r21 = (K1 (s21a1 rec n) 1) :=
  (s21a1p3 rec n).trans
  ((by kernel_rfl))
theorem s21p4 : D21 rec n c21 x0 r21 = D21 rec n c21x6 x0 (K1 (s21a1 rec n) 1) :=
  congrArg (fun k => D21 rec n c21x6 x0 k) (s21a1e rec n)
theorem s21q5 (q0 : TT1) : D21 rec n c21x6 x0 (K1 q0 1) = fun (env : Env) (h : Hp) =>
 bnd (pBox (env 0) h) fun v1 h1 =>
    q0 v1 h1 := by kernel_rfl
theorem s21q5u : (fun (env : Env) (h : Hp) =>
 bnd (pBox (env 0) h) fun v1 h1 =>
    s21a1 rec n v1 h1) = (K1 (s21 rec n) 0) := by kernel_rfl
theorem s21m : D21 rec n c21 x0 r21 = (K1 (s21 rec n) 0) :=
  (s21p4 rec n).trans
  ((s21q5 rec n (s21a1 rec n)).trans (s21q5u rec n))
theorem s21ok (args : List DV) (h : Hp) : bodyD CF rec n 21 args h = s21 rec n (args.getD 0 undefD) h :=
  (by kernel_rfl : bodyD CF rec n 21 args h = D21 rec n c21 x0 r21 (argsE args) h).trans ((congrFun (congrFun (s21m rec n) (argsE args)) h).trans (by kernel_rfl))
/-- show.told -/
def s22 (rec : RT) (n : Nat) (x0 x1 x2 x3 : DV) (h0 : Hp) : Res :=
 bnd (pBox x1 h0) fun v1 h1 =>
 bnd (pBox x2 h1) fun v2 h2 =>
 bnd (pInt .neq x3 (.i .i64 (Int.ofNat 0)) h2) fun v3 h3 =>
 bnd (gD v3 false (pLoadA 6 v1 h3) h3) fun v4 h4 =>
 bnd (gD v3 false (pLoadA 6 v2 h4) h4) fun v5 h5 =>
 bnd (gD v3 false (rec 37 [v4, v5] h5) h5) fun v6 h6 =>
 bnd (gD v3 false (pUn .not v6 h6) h6) fun v7 h7 =>
 bnd (pPick v3 (.b true) v7 h7) fun v8 h8 =>
 ifD v8 (
 some (.t [(.s []), (.i .i64 (Int.ofNat 1))], h8)) (
 some (.t [x0, (.i .i64 (Int.ofNat 0))], h8))
abbrev c22 : Code := cf Tryz.f22
abbrev r22 : K := retK CF Tryz.f22
def D22 (rec : RT) (n : Nat) (c : Code) (X : Nat → K) (k : K) : K := codeD CF rec 19 n c X r22 k
theorem s22m : D22 rec n c22 x0 r22 = (K4 (s22 rec n) 0 1 2 3) :=
  (by kernel_rfl)
theorem s22ok (args : List DV) (h : Hp) : bodyD CF rec n 22 args h = s22 rec n (args.getD 0 undefD) (args.getD 1 undefD) (args.getD 2 undefD) (args.getD 3 undefD) h :=
  (by kernel_rfl : bodyD CF rec n 22 args h = D22 rec n c22 x0 r22 (argsE args) h).trans ((congrFun (congrFun (s22m rec n) (argsE args)) h).trans (by kernel_rfl))

end
end Go.Dd

/- Dd, part Q1 (printed by gen.py): functions of the seat's program as Lean functions, linked to Dd. -/
set_option linter.unusedVariables false
set_option maxRecDepth 100000
namespace Go.Dd
open Go.Proofs
noncomputable section

variable (rec : RT) (n : Nat)
/-- parse.read -/
def s26 (rec : RT) (n : Nat) (x0 x1 : DV) (h0 : Hp) : Res :=
 bnd (pNew [(.i .i64 (Int.ofNat 0)), (.s []), (.i .i64 (Int.ofNat 0)), .l0, .l0, .l0] h0) fun v1 h1 =>
 bnd (rec 48 [x0] h1) fun v2 h2 =>
 bnd (pExtract 0 v2 h2) fun v3 h3 =>
 bnd (pExtract 1 v2 h3) fun v4 h4 =>
 bnd (pExtract 2 v2 h4) fun v5 h5 =>
 bnd (pInt .neq v5 (.i .i64 (Int.ofNat 0)) h5) fun v6 h6 =>
 ifD v6 (
 bnd (pBuild [(.i .i64 (Int.ofNat 0)), (.s []), (.i .i64 (Int.ofNat 0)), .l0, .l0, .l0] [] h6) fun v7 h7 =>
 bnd (pStore 6 v1 v7 h7) fun _ h8 =>
 bnd (pLoadA 6 v1 h8) fun v9 _ =>
 some (.t [v9, v4, v5], h8)) (
 bnd (pBuild [.l0, (.i .i64 (Int.ofNat 0)), (.i .i64 (Int.ofNat 0)), (.i .i64 (Int.ofNat 0))] [(0, 1, v3)] h6) fun v10 h10 =>
 bnd (pBox v10 h10) fun v11 h11 =>
 bnd (pCall CF rec x1 [v11] h11) fun v12 h12 =>
 bnd (pNew [(.i .i64 (Int.ofNat 0)), (.s []), (.i .i64 (Int.ofNat 0)), .l0, .l0, .l0] h12) fun v13 h13 =>
 bnd (pStore 6 v13 v12 h13) fun _ h14 =>
 bnd (rec 49 [v11] h14) fun v15 h15 =>
 bnd (pField 4 v13 h15) fun v16 h16 =>
 bnd (pStore 1 v16 v15 h16) fun _ h17 =>
 bnd (rec 50 [v11] h17) fun v18 h18 =>
 bnd (pField 5 v13 h18) fun v19 h19 =>
 bnd (pStore 1 v19 v18 h19) fun _ h20 =>
 bnd (rec 51 [v11, (.i .i64 (Int.ofNat 0)), (.s [])] h20) fun v21 h21 =>
 bnd (pNil v11 h21) fun v22 h22 =>
 bnd (pField 3 v22 h22) fun v23 h23 =>
 bnd (pLoad1 v23 h23) fun v24 h24 =>
 bnd (pInt .neq v24 (.i .i64 (Int.ofNat 0)) h24) fun v25 h25 =>
 ifD v25 (
 bnd (pBuild [(.i .i64 (Int.ofNat 0)), (.s []), (.i .i64 (Int.ofNat 0)), .l0, .l0, .l0] [] h25) fun v26 h26 =>
 bnd (pNil v11 h26) fun v27 h27 =>
 bnd (pField 2 v27 h27) fun v28 h28 =>
 bnd (pLoad1 v28 h28) fun v29 h29 =>
 bnd (pNil v11 h29) fun v30 h30 =>
 bnd (pField 3 v30 h30) fun v31 h31 =>
 bnd (pLoad1 v31 h31) fun v32 h32 =>
 bnd (pStore 6 v1 v26 h32) fun v33 h33 =>
 cnd (sameR (pLoad1 v31 h33) v32 && (sameR (pLoad1 v28 h33) v29 && true)) (
 bnd (pLoadA 6 v1 h33) fun v34 _ =>
 some (.t [v34, v29, v32], h33))) (
 bnd (pLoadA 6 v13 h25) fun v35 h35 =>
 bnd (pStore 6 v1 v35 h35) fun _ h36 =>
 bnd (pLoadA 6 v1 h36) fun v37 _ =>
 some (.t [v37, (.i .i64 (Int.ofNat 0)), (.i .i64 (Int.ofNat 0))], h36)))
abbrev c26 : Code := cf Tryz.f26
abbrev r26 : K := retK CF Tryz.f26
def D26 (rec : RT) (n : Nat) (c : Code) (X : Nat → K) (k : K) : K := codeD CF rec 52 n c X r26 k
theorem s26m : D26 rec n c26 x0 r26 = (K2 (s26 rec n) 0 1) :=
  (by kernel_rfl)
theorem s26ok (args : List DV) (h : Hp) : bodyD CF rec n 26 args h = s26 rec n (args.getD 0 undefD) (args.getD 1 undefD) h :=
  (by kernel_rfl : bodyD CF rec n 26 args h = D26 rec n c26 x0 r26 (argsE args) h).trans ((congrFun (congrFun (s26m rec n) (argsE args)) h).trans (by kernel_rfl))
/-- parse.parser).doit -/
def s27 (rec : RT) (n : Nat) (x0 : DV) (h0 : Hp) : Res :=
 bnd (pNew [(.i .i64 (Int.ofNat 0)), (.s []), (.i .i64 (Int.ofNat 0)), .l0, .l0, .l0] h0) fun v1 h1 =>
 bnd (pBuild [(.i .i64 (Int.ofNat 0)), (.s []), (.i .i64 (Int.ofNat 0)), .l0, .l0, .l0] [(0, 1, (.i .i64 (Int.ofNat 11))), (1, 1, (.s [100, 111, 73, 116]))] h1) fun v2 h2 =>
 bnd (pStore 6 v1 v2 h2) fun _ h3 =>
 bnd (pLoadA 6 v1 h3) fun v4 _ =>
 some (v4, h3)
abbrev c27 : Code := cf Tryz.f27
abbrev r27 : K := retK CF Tryz.f27
def D27 (rec : RT) (n : Nat) (c : Code) (X : Nat → K) (k : K) : K := codeD CF rec 4 n c X r27 k
theorem s27m : D27 rec n c27 x0 r27 = (K1 (s27 rec n) 0) :=
  (by kernel_rfl)
theorem s27ok (args : List DV) (h : Hp) : bodyD CF rec n 27 args h = s27 rec n (args.getD 0 undefD) h :=
  (by kernel_rfl : bodyD CF rec n 27 args h = D27 rec n c27 x0 r27 (argsE args) h).trans ((congrFun (congrFun (s27m rec n) (argsE args)) h).trans (by kernel_rfl))
def s28a3 (rec : RT) (n : Nat) (h0 : Hp) : Res :=
 some ((.b true), h0)
def s28a5b (rec : RT) (n : Nat) (kk5 : TT3) (x0 x1 x5 : DV) (h0 : Hp) : Res :=
 bnd (pLen x0 h0) fun v1 h1 =>
 bnd (pInt .lss x5 v1 h1) fun v2 h2 =>
 ifD v2 (
 bnd (pIndexAddr 1 x0 x5 h2) fun v3 h3 =>
 bnd (pLoad1 v3 h3) fun v4 h4 =>
 bnd (pIndexAddr 1 x1 x5 h4) fun v5 h5 =>
 bnd (pLoad1 v5 h5) fun v6 h6 =>
 bnd (pStr .neq v4 v6 h6) fun v7 h7 =>
 ifD v7 (
 some ((.b false), h7)) (
 bnd (pInt .add x5 (.i .i64 (Int.ofNat 1)) h7) fun v8 h8 =>
        kk5 x0 x1 v8 h8)) (
      s28a3 rec n h2)
def s28a5l (rec : RT) (n : Nat) (m : Nat) : TT3 :=
  Nat.rec (motive := fun _ => TT3) (fun _ _ _ _ => none) (fun _ ih => s28a5b rec n ih) m
def s28a5 (rec : RT) (n : Nat) : TT3 := s28a5l rec n n
def s28a4 (rec : RT) (n : Nat) (x0 x1 x5 : DV) (h0 : Hp) : Res :=
  s28a5 rec n x0 x1 x5 h0
def s28a2 (rec : RT) (n : Nat) (x0 x1 : DV) (h0 : Hp) : Res :=
  s28a4 rec n x0 x1 (.i .i64 (Int.ofNat 0)) h0
def s28a1 (rec : RT) (n : Nat) (x0 x1 : DV) (h0 : Hp) : Res :=
 bnd (pLen x0 h0) fun v1 h1 =>
 bnd (pLen x1 h1) fun v2 h2 =>
 bnd (pInt .neq v1 v2 h2) fun v3 h3 =>
 ifD v3 (
 some ((.b false), h3)) (
    s28a2 rec n x0 x1 h3)
/-- vivariumref07.names -/
def s28 (rec : RT) (n : Nat) (x0 x1 : DV) (h0 : Hp) : Res :=
  s28a1 rec n x0 x1 h0
abbrev c28 : Code := cf Tryz.f28
abbrev c28x1 : Code := cR c28
abbrev c28x2 : Code := cR c28x1
abbrev c28x3 : Code := cR c28x2
abbrev c28x4 : Code := cL c28x2
abbrev c28x5 : Code := cR c28x4
abbrev c28x6 : Code := cL c28x5
abbrev c28x7 : Code := cL c28x6
abbrev c28x8 : Code := cL c28x4
abbrev c28x9 : Code := cL c28x1
abbrev c28x10 : Code := cL c28
abbrev r28 : K := retK CF Tryz.f28
def D28 (rec : RT) (n : Nat) (c : Code) (X : Nat → K) (k : K) : K := codeD CF rec 26 n c X r28 k
theorem s28a3e : D28 rec n c28x3 x0 r28 = (K0 (s28a3 rec n)) :=
  (by kernel_rfl)
theorem s28a5be (kk5 : TT3) : D28 rec n c28x7 (xs x0 0 (K0 (s28a3 rec n))) (K3 kk5 0 1 5) = (K3 (s28a5b rec n kk5) 0 1 5) :=
  (by kernel_rfl)
theorem s28a5le (m : Nat) : loopN (fun kk => D28 rec n c28x7 (xs x0 0 (K0 (s28a3 rec n))) kk) m = (K3 (s28a5l rec n m) 0 1 5) := by
  induction m with
  | zero => exact (by kernel_rfl : loopN (fun kk => D28 rec n c28x7 (xs x0 0 (K0 (s28a3 rec n))) kk) 0 = (K3 (s28a5l rec n 0) 0 1 5))
  | succ m ih =>
    refine (by kernel_rfl : loopN (fun kk => D28 rec n c28x7 (xs x0 0 (K0 (s28a3 rec n))) kk) (m + 1) = D28 rec n c28x7 (xs x0 0 (K0 (s28a3 rec n))) (loopN (fun kk => D28 rec n c28x7 (xs x0 0 (K0 (s28a3 rec n))) kk) m)).trans ?_
    rw [ih]
    exact (s28a5be rec n (s28a5l rec n m)).trans (by kernel_rfl)
theorem s28a5e : D28 rec n c28x6 (xs x0 0 (K0 (s28a3 rec n))) (K0 (s28a3 rec n)) = (K3 (s28a5 rec n) 0 1 5) :=
  (by kernel_rfl : D28 rec n c28x6 (xs x0 0 (K0 (s28a3 rec n))) (K0 (s28a3 rec n)) = loopN (fun kk => D28 rec n c28x7 (xs x0 0 (K0 (s28a3 rec n))) kk) n).trans ((s28a5le rec n n).trans (by kernel_rfl))
theorem s28a4e : D28 rec n c28x5 x0 (K0 (s28a3 rec n)) = (K3 (s28a4 rec n) 0 1 5) :=
  (by kernel_rfl : D28 rec n c28x5 x0 (K0 (s28a3 rec n)) = D28 rec n c28x6 (xs x0 0 (K0 (s28a3 rec n))) (K0 (s28a3 rec n))).trans
  ((s28a5e rec n).trans (by kernel_rfl))
theorem s28a2p1 : D28 rec n c28x2 x0 r28 = D28 rec n c28x4 x0 (K0 (s28a3 rec n)) :=
  congrArg (fun k => D28 rec n c28x4 x0 k) (s28a3e rec n)
theorem s28a2p2 : D28 rec n c28x4 x0 (K0 (s28a3 rec n)) = D28 rec n c28x8 x0 (K3 (s28a4 rec n) 0 1 5) :=
  congrArg (fun k => D28 rec n c28x8 x0 k) (s28a4e rec n)
theorem s28a2e : D28 rec n c28x2 x0 r28 = (K2 (s28a2 rec n) 0 1) :=
  (s28a2p1 rec n).trans
  ((s28a2p2 rec n).trans
  ((by kernel_rfl)))
theorem s28a1p3 : D28 rec n c28x1 x0 r28 = D28 rec n c28x9 x0 (K2 (s28a2 rec n) 0 1) :=
  congrArg (fun k => D28 rec n c28x9 x0 k) (s28a2e rec n)
theorem s28a1e : D28 rec n c28x1 x0 r28 = (K2 (s28a1 rec n) 0 1) :=
  (s28a1p3 rec n).trans
  ((by kernel_rfl))
theorem s28p4 : D28 rec n c28 x0 r28 = D28 rec n c28x10 x0 (K2 (s28a1 rec n) 0 1) :=
  congrArg (fun k => D28 rec n c28x10 x0 k) (s28a1e rec n)
theorem s28m : D28 rec n c28 x0 r28 = (K2 (s28 rec n) 0 1) :=
  (s28p4 rec n).trans
  ((by kernel_rfl))
theorem s28ok (args : List DV) (h : Hp) : bodyD CF rec n 28 args h = s28 rec n (args.getD 0 undefD) (args.getD 1 undefD) h :=
  (by kernel_rfl : bodyD CF rec n 28 args h = D28 rec n c28 x0 r28 (argsE args) h).trans ((congrFun (congrFun (s28m rec n) (argsE args)) h).trans (by kernel_rfl))
/-- show.kind -/
def s32 (rec : RT) (n : Nat) (x0 : DV) (h0 : Hp) : Res :=
 bnd (rec 57 [x0, (.i .u8 (Int.ofNat 58))] h0) fun v1 h1 =>
 bnd (pInt .geq v1 (.i .i64 (Int.ofNat 0)) h1) fun v2 h2 =>
 ifD v2 (
 some ((.i .i64 (Int.ofNat 3)), h2)) (
 bnd (pStr .neq x0 (.s []) h2) fun v3 h3 =>
 bnd (gD v3 true (some (x0, h3)) h3) fun v4 h4 =>
 bnd (gD v3 true (pIndexS v4 (.i .i64 (Int.ofNat 0)) h4) h4) fun v5 h5 =>
 bnd (gD v3 true (pInt .geq v5 (.i .u8 (Int.ofNat 97)) h5) h5) fun v6 h6 =>
 bnd (gD v3 true (some (v6, h6)) h6) fun v7 h7 =>
 bnd (gD v7 true (some (x0, h7)) h7) fun v8 h8 =>
 bnd (gD v7 true (pIndexS v8 (.i .i64 (Int.ofNat 0)) h8) h8) fun v9 h9 =>
 bnd (gD v7 true (pInt .leq v9 (.i .u8 (Int.ofNat 122)) h9) h9) fun v10 h10 =>
 bnd (gD v3 true (pPick v7 v10 (.b false) h10) h10) fun v11 h11 =>
 bnd (gD v3 true (some (v11, h11)) h11) fun v12 h12 =>
 bnd (gD v12 false (some (x0, h12)) h12) fun v13 h13 =>
 bnd (gD v12 false (pIndexS v13 (.i .i64 (Int.ofNat 0)) h13) h13) fun v14 h14 =>
 bnd (gD v12 false (pInt .geq v14 (.i .u8 (Int.ofNat 65)) h14) h14) fun v15 h15 =>
 bnd (gD v12 false (some (v15, h15)) h15) fun v16 h16 =>
 bnd (gD v16 true (some (x0, h16)) h16) fun v17 h17 =>
 bnd (gD v16 true (pIndexS v17 (.i .i64 (Int.ofNat 0)) h17) h17) fun v18 h18 =>
 bnd (gD v16 true (pInt .leq v18 (.i .u8 (Int.ofNat 90)) h18) h18) fun v19 h19 =>
 bnd (gD v12 false (pPick v16 v19 (.b false) h19) h19) fun v20 h20 =>
 bnd (gD v3 true (pPick v12 (.b true) v20 h20) h20) fun v21 h21 =>
 bnd (pPick v3 v21 (.b false) h21) fun v22 h22 =>
 ifD v22 (
 some ((.i .i64 (Int.ofNat 1)), h22)) (
 some ((.i .i64 (Int.ofNat 2)), h22)))
abbrev c32 : Code := cf Tryz.f32
abbrev r32 : K := retK CF Tryz.f32
def D32 (rec : RT) (n : Nat) (c : Code) (X : Nat → K) (k : K) : K := codeD CF rec 30 n c X r32 k
theorem s32m : D32 rec n c32 x0 r32 = (K1 (s32 rec n) 0) :=
  (by kernel_rfl)
theorem s32ok (args : List DV) (h : Hp) : bodyD CF rec n 32 args h = s32 rec n (args.getD 0 undefD) h :=
  (by kernel_rfl : bodyD CF rec n 32 args h = D32 rec n c32 x0 r32 (argsE args) h).trans ((congrFun (congrFun (s32m rec n) (argsE args)) h).trans (by kernel_rfl))
/-- show.parts -/
def s33 (rec : RT) (n : Nat) (x0 : DV) (h0 : Hp) : Res :=
 bnd (rec 58 [x0, (.s [58])] h0) fun v1 h1 =>
 bnd (pLen v1 h1) fun v2 h2 =>
 bnd (pInt .sub v2 (.i .i64 (Int.ofNat 1)) h2) fun v3 h3 =>
 bnd (pSlice 1 v1 none (some v3) h3) fun v4 h4 =>
 some (v4, h4)
abbrev c33 : Code := cf Tryz.f33
abbrev r33 : K := retK CF Tryz.f33
def D33 (rec : RT) (n : Nat) (c : Code) (X : Nat → K) (k : K) : K := codeD CF rec 11 n c X r33 k
theorem s33m : D33 rec n c33 x0 r33 = (K1 (s33 rec n) 0) :=
  (by kernel_rfl)
theorem s33ok (args : List DV) (h : Hp) : bodyD CF rec n 33 args h = s33 rec n (args.getD 0 undefD) h :=
  (by kernel_rfl : bodyD CF rec n 33 args h = D33 rec n c33 x0 r33 (argsE args) h).trans ((congrFun (congrFun (s33m rec n) (argsE args)) h).trans (by kernel_rfl))
def s35a3 (rec : RT) (n : Nat) (x1 x7 : DV) (h0 : Hp) : Res :=
 bnd (joinF [x7, x1] h0) fun v1 h1 =>
 some (v1, h1)
def s35a5b (rec : RT) (n : Nat) (kk5 : TT6) (x1 x2 x7 x10 x11 x12 : DV) (h0 : Hp) : Res :=
 bnd (pInt .lss x12 x11 h0) fun v1 h1 =>
 ifD v1 (
 bnd (pIndexAddr 6 x10 x12 h1) fun v2 h2 =>
 bnd (pLoadA 6 v2 h2) fun v3 h3 =>
 bnd (pNew [(.i .i64 (Int.ofNat 0)), (.s []), (.i .i64 (Int.ofNat 0)), .l0, .l0, .l0] h3) fun v4 h4 =>
 bnd (pStore 6 v4 v3 h4) fun _ h5 =>
 bnd (pLoadA 6 v4 h5) fun v6 h6 =>
 bnd (pCall CF rec x2 [v6] h6) fun v7 h7 =>
 bnd (pBuildSlice [(.s [])] 1 [(0, 1, v7)] h7) fun v8 h8 =>
 bnd (pAppend 1 16 x7 v8 h8) fun v9 h9 =>
 bnd (pInt .add x12 (.i .i64 (Int.ofNat 1)) h9) fun v10 h10 =>
      kk5 x1 x2 v9 x10 x11 v10 h10) (
      s35a3 rec n x1 x7 h1)
def s35a5l (rec : RT) (n : Nat) (m : Nat) : TT6 :=
  Nat.rec (motive := fun _ => TT6) (fun _ _ _ _ _ _ _ => none) (fun _ ih => s35a5b rec n ih) m
def s35a5 (rec : RT) (n : Nat) : TT6 := s35a5l rec n n
def s35a4 (rec : RT) (n : Nat) (x1 x2 x7 x10 x11 x12 : DV) (h0 : Hp) : Res :=
  s35a5 rec n x1 x2 x7 x10 x11 x12 h0
def s35a2 (rec : RT) (n : Nat) (x0 x1 x2 x7 : DV) (h0 : Hp) : Res :=
 bnd (pLen x0 h0) fun v1 h1 =>
  s35a4 rec n x1 x2 x7 x0 v1 (.i .i64 (Int.ofNat 0)) h1
def s35a1 (rec : RT) (n : Nat) (x0 x1 x2 : DV) (h0 : Hp) : Res :=
  s35a2 rec n x0 x1 x2 .l0 h0
/-- show.all -/
def s35 (rec : RT) (n : Nat) (x0 x1 x2 : DV) (h0 : Hp) : Res :=
  s35a1 rec n x0 x1 x2 h0
abbrev c35 : Code := cf Tryz.f35
abbrev c35x1 : Code := cR c35
abbrev c35x2 : Code := cR c35x1
abbrev c35x3 : Code := cR c35x2
abbrev c35x4 : Code := cL c35x2
abbrev c35x5 : Code := cR c35x4
abbrev c35x6 : Code := cL c35x5
abbrev c35x7 : Code := cL c35x6
abbrev c35x8 : Code := cL c35x4
abbrev c35x9 : Code := cL c35x1
abbrev c35x10 : Code := cL c35
abbrev r35 : K := retK CF Tryz.f35
def D35 (rec : RT) (n : Nat) (c : Code) (X : Nat → K) (k : K) : K := codeD CF rec 26 n c X r35 k
theorem s35a3e : D35 rec n c35x3 x0 r35 = (K2 (s35a3 rec n) 1 7) :=
  (by kernel_rfl)
theorem s35a5q1 (kk5 : TT6) (q0 : TT2) : D35 rec n c35x7 (xs x0 0 (K2 q0 1 7)) (K6 kk5 1 2 7 10 11 12) = fun (env : Env) (h : Hp) =>
 bnd (pInt .lss (env 12) (env 11) h) fun v1 h1 =>
 ifD v1 (
 bnd (pIndexAddr 6 (env 10) (env 12) h1) fun v2 h2 =>
 bnd (pLoadA 6 v2 h2) fun v3 h3 =>
 bnd (pNew [(.i .i64 (Int.ofNat 0)), (.s []), (.i .i64 (Int.ofNat 0)), .l0, .l0, .l0] h3) fun v4 h4 =>
 bnd (pStore 6 v4 v3 h4) fun _ h5 =>
 bnd (pLoadA 6 v4 h5) fun v6 h6 =>
 bnd (pCall CF rec (env 2) [v6] h6) fun v7 h7 =>
 bnd (pBuildSlice [(.s [])] 1 [(0, 1, v7)] h7) fun v8 h8 =>
 bnd (pAppend 1 16 (env 7) v8 h8) fun v9 h9 =>
 bnd (pInt .add (env 12) (.i .i64 (Int.ofNat 1)) h9) fun v10 h10 =>
      kk5 (env 1) (env 2) v9 (env 10) (env 11) v10 h10) (
      q0 (env 1) (env 7) h1) := by kernel_rfl
theorem s35a5q1u (kk5 : TT6) : (fun (env : Env) (h : Hp) =>
 bnd (pInt .lss (env 12) (env 11) h) fun v1 h1 =>
 ifD v1 (
 bnd (pIndexAddr 6 (env 10) (env 12) h1) fun v2 h2 =>
 bnd (pLoadA 6 v2 h2) fun v3 h3 =>
 bnd (pNew [(.i .i64 (Int.ofNat 0)), (.s []), (.i .i64 (Int.ofNat 0)), .l0, .l0, .l0] h3) fun v4 h4 =>
 bnd (pStore 6 v4 v3 h4) fun _ h5 =>
 bnd (pLoadA 6 v4 h5) fun v6 h6 =>
 bnd (pCall CF rec (env 2) [v6] h6) fun v7 h7 =>
 bnd (pBuildSlice [(.s [])] 1 [(0, 1, v7)] h7) fun v8 h8 =>
 bnd (pAppend 1 16 (env 7) v8 h8) fun v9 h9 =>
 bnd (pInt .add (env 12) (.i .i64 (Int.ofNat 1)) h9) fun v10 h10 =>
      kk5 (env 1) (env 2) v9 (env 10) (env 11) v10 h10) (
      s35a3 rec n (env 1) (env 7) h1)) = (K6 (s35a5b rec n kk5) 1 2 7 10 11 12) := by kernel_rfl
theorem s35a5be (kk5 : TT6) : D35 rec n c35x7 (xs x0 0 (K2 (s35a3 rec n) 1 7)) (K6 kk5 1 2 7 10 11 12) = (K6 (s35a5b rec n kk5) 1 2 7 10 11 12) :=
  (s35a5q1 rec n kk5 (s35a3 rec n)).trans (s35a5q1u rec n kk5)
theorem s35a5le (m : Nat) : loopN (fun kk => D35 rec n c35x7 (xs x0 0 (K2 (s35a3 rec n) 1 7)) kk) m = (K6 (s35a5l rec n m) 1 2 7 10 11 12) := by
  induction m with
  | zero => exact (by kernel_rfl : loopN (fun kk => D35 rec n c35x7 (xs x0 0 (K2 (s35a3 rec n) 1 7)) kk) 0 = (K6 (s35a5l rec n 0) 1 2 7 10 11 12))
  | succ m ih =>
    refine (by kernel_rfl : loopN (fun kk => D35 rec n c35x7 (xs x0 0 (K2 (s35a3 rec n) 1 7)) kk) (m + 1) = D35 rec n c35x7 (xs x0 0 (K2 (s35a3 rec n) 1 7)) (loopN (fun kk => D35 rec n c35x7 (xs x0 0 (K2 (s35a3 rec n) 1 7)) kk) m)).trans ?_
    rw [ih]
    exact (s35a5be rec n (s35a5l rec n m)).trans (by kernel_rfl)
theorem s35a5e : D35 rec n c35x6 (xs x0 0 (K2 (s35a3 rec n) 1 7)) (K2 (s35a3 rec n) 1 7) = (K6 (s35a5 rec n) 1 2 7 10 11 12) :=
  (by kernel_rfl : D35 rec n c35x6 (xs x0 0 (K2 (s35a3 rec n) 1 7)) (K2 (s35a3 rec n) 1 7) = loopN (fun kk => D35 rec n c35x7 (xs x0 0 (K2 (s35a3 rec n) 1 7)) kk) n).trans ((s35a5le rec n n).trans (by kernel_rfl))
theorem s35a4e : D35 rec n c35x5 x0 (K2 (s35a3 rec n) 1 7) = (K6 (s35a4 rec n) 1 2 7 10 11 12) :=
  (by kernel_rfl : D35 rec n c35x5 x0 (K2 (s35a3 rec n) 1 7) = D35 rec n c35x6 (xs x0 0 (K2 (s35a3 rec n) 1 7)) (K2 (s35a3 rec n) 1 7)).trans
  ((s35a5e rec n).trans (by kernel_rfl))
theorem s35a2p2 : D35 rec n c35x2 x0 r35 = D35 rec n c35x4 x0 (K2 (s35a3 rec n) 1 7) :=
  congrArg (fun k => D35 rec n c35x4 x0 k) (s35a3e rec n)
theorem s35a2p3 : D35 rec n c35x4 x0 (K2 (s35a3 rec n) 1 7) = D35 rec n c35x8 x0 (K6 (s35a4 rec n) 1 2 7 10 11 12) :=
  congrArg (fun k => D35 rec n c35x8 x0 k) (s35a4e rec n)
theorem s35a2e : D35 rec n c35x2 x0 r35 = (K4 (s35a2 rec n) 0 1 2 7) :=
  (s35a2p2 rec n).trans
  ((s35a2p3 rec n).trans
  ((by kernel_rfl)))
theorem s35a1p4 : D35 rec n c35x1 x0 r35 = D35 rec n c35x9 x0 (K4 (s35a2 rec n) 0 1 2 7) :=
  congrArg (fun k => D35 rec n c35x9 x0 k) (s35a2e rec n)
theorem s35a1e : D35 rec n c35x1 x0 r35 = (K3 (s35a1 rec n) 0 1 2) :=
  (s35a1p4 rec n).trans
  ((by kernel_rfl))
theorem s35p5 : D35 rec n c35 x0 r35 = D35 rec n c35x10 x0 (K3 (s35a1 rec n) 0 1 2) :=
  congrArg (fun k => D35 rec n c35x10 x0 k) (s35a1e rec n)
theorem s35m : D35 rec n c35 x0 r35 = (K3 (s35 rec n) 0 1 2) :=
  (s35p5 rec n).trans
  ((by kernel_rfl))
theorem s35ok (args : List DV) (h : Hp) : bodyD CF rec n 35 args h = s35 rec n (args.getD 0 undefD) (args.getD 1 undefD) (args.getD 2 undefD) h :=
  (by kernel_rfl : bodyD CF rec n 35 args h = D35 rec n c35 x0 r35 (argsE args) h).trans ((congrFun (congrFun (s35m rec n) (argsE args)) h).trans (by kernel_rfl))
def s36a2 (rec : RT) (n : Nat) (x1 : DV) (h0 : Hp) : Res :=
 bnd (pField 1 x1 h0) fun v1 h1 =>
 bnd (pLoad1 v1 h1) fun v2 h2 =>
 some (v2, h2)
def s36a24 (rec : RT) (n : Nat) (x1 x3 : DV) (h0 : Hp) : Res :=
 bnd (pLoadA 6 x1 h0) fun v1 h1 =>
 bnd (rec 21 [v1] h1) fun v2 h2 =>
 bnd (pBuildSlice [(.s []), (.s []), (.s []), (.s [])] 4 [(0, 1, (.s [91])), (1, 1, x3), (2, 1, v2), (3, 1, (.s [93]))] h2) fun v3 h3 =>
 bnd (rec 19 [v3] h3) fun v4 h4 =>
 some (v4, h4)
def s36a23 (rec : RT) (n : Nat) (x1 x3 : DV) (h0 : Hp) : Res :=
 bnd (pStr .neq x3 (.s []) h0) fun v1 h1 =>
 ifD v1 (
 bnd (pBuildSlice [(.s []), (.s [])] 2 [(0, 1, x3), (1, 1, (.s [124, 32]))] h1) fun v2 h2 =>
 bnd (rec 19 [v2] h2) fun v3 h3 =>
    s36a24 rec n x1 v3 h3) (
    s36a24 rec n x1 x3 h1)
def s36a26b (rec : RT) (n : Nat) (kk26 : TT5) (x1 x3 x64 x65 x66 : DV) (h0 : Hp) : Res :=
 bnd (pInt .lss x66 x65 h0) fun v1 h1 =>
 ifD v1 (
 bnd (pIndexAddr 1 x64 x66 h1) fun v2 h2 =>
 bnd (pLoad1 v2 h2) fun v3 h3 =>
 bnd (pBuildSlice [(.s []), (.s []), (.s []), (.s [])] 4 [(0, 1, x3), (1, 1, (.s [58])), (2, 1, v3), (3, 1, (.s [32]))] h3) fun v4 h4 =>
 bnd (rec 19 [v4] h4) fun v5 h5 =>
 bnd (pInt .add x66 (.i .i64 (Int.ofNat 1)) h5) fun v6 h6 =>
      kk26 x1 v5 x64 x65 v6 h6) (
      s36a23 rec n x1 x3 h1)
def s36a26l (rec : RT) (n : Nat) (m : Nat) : TT5 :=
  Nat.rec (motive := fun _ => TT5) (fun _ _ _ _ _ _ => none) (fun _ ih => s36a26b rec n ih) m
def s36a26 (rec : RT) (n : Nat) : TT5 := s36a26l rec n n
def s36a25 (rec : RT) (n : Nat) (x1 x3 x64 x65 x66 : DV) (h0 : Hp) : Res :=
  s36a26 rec n x1 x3 x64 x65 x66 h0
def s36a22 (rec : RT) (n : Nat) (x1 x3 : DV) (h0 : Hp) : Res :=
 bnd (pField 3 x1 h0) fun v1 h1 =>
 bnd (pLoad1 v1 h1) fun v2 h2 =>
 bnd (pLen v2 h2) fun v3 h3 =>
  s36a25 rec n x1 x3 v2 v3 (.i .i64 (Int.ofNat 0)) h3
def s36a21 (rec : RT) (n : Nat) (x1 : DV) (h0 : Hp) : Res :=
  s36a22 rec n x1 (.s []) h0
def s36a20 (rec : RT) (n : Nat) (x1 x61 : DV) (h0 : Hp) : Res :=
 ifD x61 (
    s36a21 rec n x1 h0) (
    s36a2 rec n x1 h0)
def s36a19 (rec : RT) (n : Nat) (x1 x7 : DV) (h0 : Hp) : Res :=
 bnd (pInt .eql x7 (.i .i64 (Int.ofNat 9)) h0) fun v1 h1 =>
  s36a20 rec n x1 v1 h1
def s36a18 (rec : RT) (n : Nat) (x1 x7 x56 : DV) (h0 : Hp) : Res :=
 ifD x56 (
 bnd (pField 5 x1 h0) fun v1 h1 =>
 bnd (pLoad1 v1 h1) fun v2 h2 =>
 bnd (rec 62 [v2] h2) fun v3 h3 =>
 some (v3, h3)) (
    s36a19 rec n x1 x7 h0)
def s36a17 (rec : RT) (n : Nat) (x1 x7 : DV) (h0 : Hp) : Res :=
 bnd (pInt .eql x7 (.i .i64 (Int.ofNat 8)) h0) fun v1 h1 =>
  s36a18 rec n x1 x7 v1 h1
def s36a16 (rec : RT) (n : Nat) (x1 x7 x49 : DV) (h0 : Hp) : Res :=
 ifD x49 (
 bnd (pField 1 x1 h0) fun v1 h1 =>
 bnd (pLoad1 v1 h1) fun v2 h2 =>
 bnd (pField 5 x1 h2) fun v3 h3 =>
 bnd (pLoad1 v3 h3) fun v4 h4 =>
 bnd (rec 61 [v2, v4] h4) fun v5 h5 =>
 some (v5, h5)) (
    s36a17 rec n x1 x7 h0)
def s36a15 (rec : RT) (n : Nat) (x1 x7 : DV) (h0 : Hp) : Res :=
 bnd (pInt .eql x7 (.i .i64 (Int.ofNat 7)) h0) fun v1 h1 =>
  s36a16 rec n x1 x7 v1 h1
def s36a14 (rec : RT) (n : Nat) (x1 x7 x42 : DV) (h0 : Hp) : Res :=
 ifD x42 (
 bnd (pField 5 x1 h0) fun v1 h1 =>
 bnd (pLoad1 v1 h1) fun v2 h2 =>
 bnd (rec 35 [v2, (.s []), (.f 36 [] [])] h2) fun v3 h3 =>
 bnd (pBuildSlice [(.s []), (.s [])] 2 [(0, 1, (.s [94])), (1, 1, v3)] h3) fun v4 h4 =>
 bnd (rec 19 [v4] h4) fun v5 h5 =>
 some (v5, h5)) (
    s36a15 rec n x1 x7 h0)
def s36a13 (rec : RT) (n : Nat) (x1 x7 : DV) (h0 : Hp) : Res :=
 bnd (pInt .eql x7 (.i .i64 (Int.ofNat 10)) h0) fun v1 h1 =>
  s36a14 rec n x1 x7 v1 h1
def s36a12 (rec : RT) (n : Nat) (x1 x7 x33 : DV) (h0 : Hp) : Res :=
 ifD x33 (
 bnd (pField 1 x1 (resv 1 h0)) fun v1 h1 =>
 bnd (pLoad1 v1 h1) fun v2 h2 =>
 bnd (pField 5 x1 h2) fun v3 h3 =>
 bnd (pLoad1 v3 h3) fun v4 h4 =>
 bnd (rec 35 [v4, (.s []), (.f 36 [] [])] h4) fun v5 h5 =>
 cnd (sameR (pLoad1 v1 h5) v2 && true) (
 bnd (pBuildSliceAt (nthPos 0 h0.next) [(.s []), (.s []), (.s [])] 3 [(0, 1, v2), (1, 1, (.s [32, 58, 61, 32])), (2, 1, v5)] h5) fun v6 h6 =>
 bnd (rec 19 [v6] h6) fun v7 h7 =>
 some (v7, h7))) (
    s36a13 rec n x1 x7 h0)
def s36a11 (rec : RT) (n : Nat) (x1 x7 : DV) (h0 : Hp) : Res :=
 bnd (pInt .eql x7 (.i .i64 (Int.ofNat 6)) h0) fun v1 h1 =>
  s36a12 rec n x1 x7 v1 h1
def s36a10 (rec : RT) (n : Nat) (x1 x7 x26 : DV) (h0 : Hp) : Res :=
 ifD x26 (
 bnd (pField 5 x1 h0) fun v1 h1 =>
 bnd (pLoad1 v1 h1) fun v2 h2 =>
 bnd (rec 35 [v2, (.s [32]), (.f 36 [] [])] h2) fun v3 h3 =>
 bnd (pBuildSlice [(.s []), (.s []), (.s [])] 3 [(0, 1, (.s [35, 40])), (1, 1, v3), (2, 1, (.s [41]))] h3) fun v4 h4 =>
 bnd (rec 19 [v4] h4) fun v5 h5 =>
 some (v5, h5)) (
    s36a11 rec n x1 x7 h0)
def s36a9 (rec : RT) (n : Nat) (x1 x7 : DV) (h0 : Hp) : Res :=
 bnd (pInt .eql x7 (.i .i64 (Int.ofNat 4)) h0) fun v1 h1 =>
  s36a10 rec n x1 x7 v1 h1
def s36a8 (rec : RT) (n : Nat) (x1 x7 x20 : DV) (h0 : Hp) : Res :=
 ifD x20 (
 bnd (pField 1 x1 h0) fun v1 h1 =>
 bnd (pLoad1 v1 h1) fun v2 h2 =>
 bnd (pBuildSlice [(.s []), (.s [])] 2 [(0, 1, (.s [35])), (1, 1, v2)] h2) fun v3 h3 =>
 bnd (rec 19 [v3] h3) fun v4 h4 =>
 some (v4, h4)) (
    s36a9 rec n x1 x7 h0)
def s36a7 (rec : RT) (n : Nat) (x1 x7 : DV) (h0 : Hp) : Res :=
 bnd (pInt .eql x7 (.i .i64 (Int.ofNat 3)) h0) fun v1 h1 =>
  s36a8 rec n x1 x7 v1 h1
def s36a6 (rec : RT) (n : Nat) (x1 x7 x13 : DV) (h0 : Hp) : Res :=
 ifD x13 (
 bnd (pField 1 x1 h0) fun v1 h1 =>
 bnd (pLoad1 v1 h1) fun v2 h2 =>
 bnd (replF [v2, (.s [39]), (.s [39, 39])] h2) fun v3 h3 =>
 bnd (pBuildSlice [(.s []), (.s []), (.s [])] 3 [(0, 1, (.s [39])), (1, 1, v3), (2, 1, (.s [39]))] h3) fun v4 h4 =>
 bnd (rec 19 [v4] h4) fun v5 h5 =>
 some (v5, h5)) (
    s36a7 rec n x1 x7 h0)
def s36a5 (rec : RT) (n : Nat) (x1 x7 : DV) (h0 : Hp) : Res :=
 bnd (pInt .eql x7 (.i .i64 (Int.ofNat 2)) h0) fun v1 h1 =>
  s36a6 rec n x1 x7 v1 h1
def s36a4 (rec : RT) (n : Nat) (x1 x7 x8 : DV) (h0 : Hp) : Res :=
 ifD x8 (
 bnd (pField 2 x1 h0) fun v1 h1 =>
 bnd (pLoad1 v1 h1) fun v2 h2 =>
 bnd (itoaF [v2] h2) fun v3 h3 =>
 some (v3, h3)) (
    s36a5 rec n x1 x7 h0)
def s36a3 (rec : RT) (n : Nat) (x1 x7 : DV) (h0 : Hp) : Res :=
 bnd (pInt .eql x7 (.i .i64 (Int.ofNat 1)) h0) fun v1 h1 =>
  s36a4 rec n x1 x7 v1 h1
def s36a1 (rec : RT) (n : Nat) (x1 : DV) (h0 : Hp) : Res :=
 bnd (pField 0 x1 h0) fun v1 h1 =>
 bnd (pLoad1 v1 h1) fun v2 h2 =>
  s36a3 rec n x1 v2 h2
/-- show.text -/
def s36 (rec : RT) (n : Nat) (x0 : DV) (h0 : Hp) : Res :=
 bnd (pBox x0 h0) fun v1 h1 =>
  s36a1 rec n v1 h1
abbrev c36 : Code := cf Tryz.f36
abbrev c36x1 : Code := cR c36
abbrev c36x2 : Code := cR c36x1
abbrev c36x3 : Code := cL c36x1
abbrev c36x4 : Code := cR c36x3
abbrev c36x5 : Code := cL c36x4
abbrev c36x6 : Code := cR c36x5
abbrev c36x7 : Code := cR c36x6
abbrev c36x8 : Code := cR c36x7
abbrev c36x9 : Code := cR c36x8
abbrev c36x10 : Code := cR c36x9
abbrev c36x11 : Code := cR c36x10
abbrev c36x12 : Code := cR c36x11
abbrev c36x13 : Code := cR c36x12
abbrev c36x14 : Code := cR c36x13
abbrev c36x15 : Code := cR c36x14
abbrev c36x16 : Code := cR c36x15
abbrev c36x17 : Code := cR c36x16
abbrev c36x18 : Code := cR c36x17
abbrev c36x19 : Code := cR c36x18
abbrev c36x20 : Code := cR c36x19
abbrev c36x21 : Code := cR c36x20
abbrev c36x22 : Code := cR c36x21
abbrev c36x23 : Code := cL c36x22
abbrev c36x24 : Code := cR c36x23
abbrev c36x25 : Code := cR c36x24
abbrev c36x26 : Code := cR c36x25
abbrev c36x27 : Code := cL c36x25
abbrev c36x28 : Code := cL c36x24
abbrev c36x29 : Code := cR c36x28
abbrev c36x30 : Code := cL c36x29
abbrev c36x31 : Code := cL c36x30
abbrev c36x32 : Code := cL c36x28
abbrev c36x33 : Code := cL c36x23
abbrev c36x34 : Code := cR c36x22
abbrev c36x35 : Code := cL c36x21
abbrev c36x36 : Code := cL c36x20
abbrev c36x37 : Code := cL c36x19
abbrev c36x38 : Code := cL c36x18
abbrev c36x39 : Code := cL c36x17
abbrev c36x40 : Code := cL c36x16
abbrev c36x41 : Code := cL c36x15
abbrev c36x42 : Code := cL c36x14
abbrev c36x43 : Code := cL c36x13
abbrev c36x44 : Code := cL c36x12
abbrev c36x45 : Code := cL c36x11
abbrev c36x46 : Code := cL c36x10
abbrev c36x47 : Code := cL c36x9
abbrev c36x48 : Code := cL c36x8
abbrev c36x49 : Code := cL c36x7
abbrev c36x50 : Code := cL c36x6
abbrev c36x51 : Code := cL c36x5
abbrev c36x52 : Code := cL c36x3
abbrev c36x53 : Code := cL c36
abbrev r36 : K := retK CF Tryz.f36
def D36 (rec : RT) (n : Nat) (c : Code) (X : Nat → K) (k : K) : K := codeD CF rec 87 n c X r36 k
theorem s36a2e : D36 rec n c36x2 x0 r36 = (K1 (s36a2 rec n) 1) :=
  (by kernel_rfl)
theorem s36a24q1 (q0 : TT1) : D36 rec n c36x26 (xs x0 0 (K1 q0 1)) (K1 q0 1) = fun (env : Env) (h : Hp) =>
 bnd (pLoadA 6 (env 1) h) fun v1 h1 =>
 bnd (rec 21 [v1] h1) fun v2 h2 =>
 bnd (pBuildSlice [(.s []), (.s []), (.s []), (.s [])] 4 [(0, 1, (.s [91])), (1, 1, (env 3)), (2, 1, v2), (3, 1, (.s [93]))] h2) fun v3 h3 =>
 bnd (rec 19 [v3] h3) fun v4 h4 =>
 some (v4, h4) := by kernel_rfl
theorem s36a24q1u : (fun (env : Env) (h : Hp) =>
 bnd (pLoadA 6 (env 1) h) fun v1 h1 =>
 bnd (rec 21 [v1] h1) fun v2 h2 =>
 bnd (pBuildSlice [(.s []), (.s []), (.s []), (.s [])] 4 [(0, 1, (.s [91])), (1, 1, (env 3)), (2, 1, v2), (3, 1, (.s [93]))] h2) fun v3 h3 =>
 bnd (rec 19 [v3] h3) fun v4 h4 =>
 some (v4, h4)) = (K2 (s36a24 rec n) 1 3) := by kernel_rfl
theorem s36a24e : D36 rec n c36x26 (xs x0 0 (K1 (s36a2 rec n) 1)) (K1 (s36a2 rec n) 1) = (K2 (s36a24 rec n) 1 3) :=
  (s36a24q1 rec n (s36a2 rec n)).trans (s36a24q1u rec n)
theorem s36a23p2 : D36 rec n c36x25 (xs x0 0 (K1 (s36a2 rec n) 1)) (K1 (s36a2 rec n) 1) = D36 rec n c36x27 (xs x0 0 (K1 (s36a2 rec n) 1)) (K2 (s36a24 rec n) 1 3) :=
  congrArg (fun k => D36 rec n c36x27 (xs x0 0 (K1 (s36a2 rec n) 1)) k) (s36a24e rec n)
theorem s36a23q3 (q0 : TT2) (q1 : TT1) : D36 rec n c36x27 (xs x0 0 (K1 q1 1)) (K2 q0 1 3) = fun (env : Env) (h : Hp) =>
 bnd (pStr .neq (env 3) (.s []) h) fun v1 h1 =>
 ifD v1 (
 bnd (pBuildSlice [(.s []), (.s [])] 2 [(0, 1, (env 3)), (1, 1, (.s [124, 32]))] h1) fun v2 h2 =>
 bnd (rec 19 [v2] h2) fun v3 h3 =>
      q0 (env 1) v3 h3) (
      q0 (env 1) (env 3) h1) := by kernel_rfl
theorem s36a23q3u : (fun (env : Env) (h : Hp) =>
 bnd (pStr .neq (env 3) (.s []) h) fun v1 h1 =>
 ifD v1 (
 bnd (pBuildSlice [(.s []), (.s [])] 2 [(0, 1, (env 3)), (1, 1, (.s [124, 32]))] h1) fun v2 h2 =>
 bnd (rec 19 [v2] h2) fun v3 h3 =>
      s36a24 rec n (env 1) v3 h3) (
      s36a24 rec n (env 1) (env 3) h1)) = (K2 (s36a23 rec n) 1 3) := by kernel_rfl
theorem s36a23e : D36 rec n c36x25 (xs x0 0 (K1 (s36a2 rec n) 1)) (K1 (s36a2 rec n) 1) = (K2 (s36a23 rec n) 1 3) :=
  (s36a23p2 rec n).trans
  ((s36a23q3 rec n (s36a24 rec n) (s36a2 rec n)).trans (s36a23q3u rec n))
theorem s36a26q4 (kk26 : TT5) (q0 : TT1) (q1 : TT2) : D36 rec n c36x31 (xs (xs x0 0 (K1 q0 1)) 1 (K2 q1 1 3)) (K5 kk26 1 3 64 65 66) = fun (env : Env) (h : Hp) =>
 bnd (pInt .lss (env 66) (env 65) h) fun v1 h1 =>
 ifD v1 (
 bnd (pIndexAddr 1 (env 64) (env 66) h1) fun v2 h2 =>
 bnd (pLoad1 v2 h2) fun v3 h3 =>
 bnd (pBuildSlice [(.s []), (.s []), (.s []), (.s [])] 4 [(0, 1, (env 3)), (1, 1, (.s [58])), (2, 1, v3), (3, 1, (.s [32]))] h3) fun v4 h4 =>
 bnd (rec 19 [v4] h4) fun v5 h5 =>
 bnd (pInt .add (env 66) (.i .i64 (Int.ofNat 1)) h5) fun v6 h6 =>
      kk26 (env 1) v5 (env 64) (env 65) v6 h6) (
      q1 (env 1) (env 3) h1) := by kernel_rfl
theorem s36a26q4u (kk26 : TT5) : (fun (env : Env) (h : Hp) =>
 bnd (pInt .lss (env 66) (env 65) h) fun v1 h1 =>
 ifD v1 (
 bnd (pIndexAddr 1 (env 64) (env 66) h1) fun v2 h2 =>
 bnd (pLoad1 v2 h2) fun v3 h3 =>
 bnd (pBuildSlice [(.s []), (.s []), (.s []), (.s [])] 4 [(0, 1, (env 3)), (1, 1, (.s [58])), (2, 1, v3), (3, 1, (.s [32]))] h3) fun v4 h4 =>
 bnd (rec 19 [v4] h4) fun v5 h5 =>
 bnd (pInt .add (env 66) (.i .i64 (Int.ofNat 1)) h5) fun v6 h6 =>
      kk26 (env 1) v5 (env 64) (env 65) v6 h6) (
      s36a23 rec n (env 1) (env 3) h1)) = (K5 (s36a26b rec n kk26) 1 3 64 65 66) := by kernel_rfl
theorem s36a26be (kk26 : TT5) : D36 rec n c36x31 (xs (xs x0 0 (K1 (s36a2 rec n) 1)) 1 (K2 (s36a23 rec n) 1 3)) (K5 kk26 1 3 64 65 66) = (K5 (s36a26b rec n kk26) 1 3 64 65 66) :=
  (s36a26q4 rec n kk26 (s36a2 rec n) (s36a23 rec n)).trans (s36a26q4u rec n kk26)
theorem s36a26le (m : Nat) : loopN (fun kk => D36 rec n c36x31 (xs (xs x0 0 (K1 (s36a2 rec n) 1)) 1 (K2 (s36a23 rec n) 1 3)) kk) m = (K5 (s36a26l rec n m) 1 3 64 65 66) := by
  induction m with
  | zero => exact (by kernel_rfl : loopN (fun kk => D36 rec n c36x31 (xs (xs x0 0 (K1 (s36a2 rec n) 1)) 1 (K2 (s36a23 rec n) 1 3)) kk) 0 = (K5 (s36a26l rec n 0) 1 3 64 65 66))
  | succ m ih =>
    refine (by kernel_rfl : loopN (fun kk => D36 rec n c36x31 (xs (xs x0 0 (K1 (s36a2 rec n) 1)) 1 (K2 (s36a23 rec n) 1 3)) kk) (m + 1) = D36 rec n c36x31 (xs (xs x0 0 (K1 (s36a2 rec n) 1)) 1 (K2 (s36a23 rec n) 1 3)) (loopN (fun kk => D36 rec n c36x31 (xs (xs x0 0 (K1 (s36a2 rec n) 1)) 1 (K2 (s36a23 rec n) 1 3)) kk) m)).trans ?_
    rw [ih]
    exact (s36a26be rec n (s36a26l rec n m)).trans (by kernel_rfl)
theorem s36a26e : D36 rec n c36x30 (xs (xs x0 0 (K1 (s36a2 rec n) 1)) 1 (K2 (s36a23 rec n) 1 3)) (K2 (s36a23 rec n) 1 3) = (K5 (s36a26 rec n) 1 3 64 65 66) :=
  (by kernel_rfl : D36 rec n c36x30 (xs (xs x0 0 (K1 (s36a2 rec n) 1)) 1 (K2 (s36a23 rec n) 1 3)) (K2 (s36a23 rec n) 1 3) = loopN (fun kk => D36 rec n c36x31 (xs (xs x0 0 (K1 (s36a2 rec n) 1)) 1 (K2 (s36a23 rec n) 1 3)) kk) n).trans ((s36a26le rec n n).trans (by kernel_rfl))
theorem s36a25e : D36 rec n c36x29 (xs x0 0 (K1 (s36a2 rec n) 1)) (K2 (s36a23 rec n) 1 3) = (K5 (s36a25 rec n) 1 3 64 65 66) :=
  (by kernel_rfl : D36 rec n c36x29 (xs x0 0 (K1 (s36a2 rec n) 1)) (K2 (s36a23 rec n) 1 3) = D36 rec n c36x30 (xs (xs x0 0 (K1 (s36a2 rec n) 1)) 1 (K2 (s36a23 rec n) 1 3)) (K2 (s36a23 rec n) 1 3)).trans
  ((s36a26e rec n).trans (by kernel_rfl))
theorem s36a22p5 : D36 rec n c36x24 (xs x0 0 (K1 (s36a2 rec n) 1)) (K1 (s36a2 rec n) 1) = D36 rec n c36x28 (xs x0 0 (K1 (s36a2 rec n) 1)) (K2 (s36a23 rec n) 1 3) :=
  congrArg (fun k => D36 rec n c36x28 (xs x0 0 (K1 (s36a2 rec n) 1)) k) (s36a23e rec n)
theorem s36a22p6 : D36 rec n c36x28 (xs x0 0 (K1 (s36a2 rec n) 1)) (K2 (s36a23 rec n) 1 3) = D36 rec n c36x32 (xs x0 0 (K1 (s36a2 rec n) 1)) (K5 (s36a25 rec n) 1 3 64 65 66) :=
  congrArg (fun k => D36 rec n c36x32 (xs x0 0 (K1 (s36a2 rec n) 1)) k) (s36a25e rec n)
theorem s36a22e : D36 rec n c36x24 (xs x0 0 (K1 (s36a2 rec n) 1)) (K1 (s36a2 rec n) 1) = (K2 (s36a22 rec n) 1 3) :=
  (s36a22p5 rec n).trans
  ((s36a22p6 rec n).trans
  ((by kernel_rfl)))
theorem s36a21p7 : D36 rec n c36x23 (xs x0 0 (K1 (s36a2 rec n) 1)) (K1 (s36a2 rec n) 1) = D36 rec n c36x33 (xs x0 0 (K1 (s36a2 rec n) 1)) (K2 (s36a22 rec n) 1 3) :=
  congrArg (fun k => D36 rec n c36x33 (xs x0 0 (K1 (s36a2 rec n) 1)) k) (s36a22e rec n)
theorem s36a21e : D36 rec n c36x23 (xs x0 0 (K1 (s36a2 rec n) 1)) (K1 (s36a2 rec n) 1) = (K1 (s36a21 rec n) 1) :=
  (s36a21p7 rec n).trans
  ((by kernel_rfl))
theorem s36a20e : D36 rec n c36x22 (xs x0 0 (K1 (s36a2 rec n) 1)) (K1 (s36a2 rec n) 1) = (K2 (s36a20 rec n) 1 61) :=
  (by kernel_rfl : D36 rec n c36x22 (xs x0 0 (K1 (s36a2 rec n) 1)) (K1 (s36a2 rec n) 1) = (fun (env : Env) (h : Hp) => ifD (opr env (cC c36x22)) (D36 rec n c36x23 (xs x0 0 (K1 (s36a2 rec n) 1)) (K1 (s36a2 rec n) 1) env h) (D36 rec n c36x34 (xs x0 0 (K1 (s36a2 rec n) 1)) (K1 (s36a2 rec n) 1) env h))).trans (by rw [s36a21e rec n]; kernel_rfl)
theorem s36a19p8 : D36 rec n c36x21 (xs x0 0 (K1 (s36a2 rec n) 1)) (K1 (s36a2 rec n) 1) = D36 rec n c36x35 (xs x0 0 (K1 (s36a2 rec n) 1)) (K2 (s36a20 rec n) 1 61) :=
  congrArg (fun k => D36 rec n c36x35 (xs x0 0 (K1 (s36a2 rec n) 1)) k) (s36a20e rec n)
theorem s36a19e : D36 rec n c36x21 (xs x0 0 (K1 (s36a2 rec n) 1)) (K1 (s36a2 rec n) 1) = (K2 (s36a19 rec n) 1 7) :=
  (s36a19p8 rec n).trans
  ((by kernel_rfl))
theorem s36a18e : D36 rec n c36x20 (xs x0 0 (K1 (s36a2 rec n) 1)) (K1 (s36a2 rec n) 1) = (K3 (s36a18 rec n) 1 7 56) :=
  (by kernel_rfl : D36 rec n c36x20 (xs x0 0 (K1 (s36a2 rec n) 1)) (K1 (s36a2 rec n) 1) = (fun (env : Env) (h : Hp) => ifD (opr env (cC c36x20)) (D36 rec n c36x36 (xs x0 0 (K1 (s36a2 rec n) 1)) (K1 (s36a2 rec n) 1) env h) (D36 rec n c36x21 (xs x0 0 (K1 (s36a2 rec n) 1)) (K1 (s36a2 rec n) 1) env h))).trans (by rw [s36a19e rec n]; kernel_rfl)
theorem s36a17p9 : D36 rec n c36x19 (xs x0 0 (K1 (s36a2 rec n) 1)) (K1 (s36a2 rec n) 1) = D36 rec n c36x37 (xs x0 0 (K1 (s36a2 rec n) 1)) (K3 (s36a18 rec n) 1 7 56) :=
  congrArg (fun k => D36 rec n c36x37 (xs x0 0 (K1 (s36a2 rec n) 1)) k) (s36a18e rec n)
theorem s36a17e : D36 rec n c36x19 (xs x0 0 (K1 (s36a2 rec n) 1)) (K1 (s36a2 rec n) 1) = (K2 (s36a17 rec n) 1 7) :=
  (s36a17p9 rec n).trans
  ((by kernel_rfl))
theorem s36a16e : D36 rec n c36x18 (xs x0 0 (K1 (s36a2 rec n) 1)) (K1 (s36a2 rec n) 1) = (K3 (s36a16 rec n) 1 7 49) :=
  (by kernel_rfl : D36 rec n c36x18 (xs x0 0 (K1 (s36a2 rec n) 1)) (K1 (s36a2 rec n) 1) = (fun (env : Env) (h : Hp) => ifD (opr env (cC c36x18)) (D36 rec n c36x38 (xs x0 0 (K1 (s36a2 rec n) 1)) (K1 (s36a2 rec n) 1) env h) (D36 rec n c36x19 (xs x0 0 (K1 (s36a2 rec n) 1)) (K1 (s36a2 rec n) 1) env h))).trans (by rw [s36a17e rec n]; kernel_rfl)
theorem s36a15p10 : D36 rec n c36x17 (xs x0 0 (K1 (s36a2 rec n) 1)) (K1 (s36a2 rec n) 1) = D36 rec n c36x39 (xs x0 0 (K1 (s36a2 rec n) 1)) (K3 (s36a16 rec n) 1 7 49) :=
  congrArg (fun k => D36 rec n c36x39 (xs x0 0 (K1 (s36a2 rec n) 1)) k) (s36a16e rec n)
theorem s36a15e : D36 rec n c36x17 (xs x0 0 (K1 (s36a2 rec n) 1)) (K1 (s36a2 rec n) 1) = (K2 (s36a15 rec n) 1 7) :=
  (s36a15p10 rec n).trans
  ((by kernel_rfl))
theorem s36a14e : D36 rec n c36x16 (xs x0 0 (K1 (s36a2 rec n) 1)) (K1 (s36a2 rec n) 1) = (K3 (s36a14 rec n) 1 7 42) :=
  (by kernel_rfl : D36 rec n c36x16 (xs x0 0 (K1 (s36a2 rec n) 1)) (K1 (s36a2 rec n) 1) = (fun (env : Env) (h : Hp) => ifD (opr env (cC c36x16)) (D36 rec n c36x40 (xs x0 0 (K1 (s36a2 rec n) 1)) (K1 (s36a2 rec n) 1) env h) (D36 rec n c36x17 (xs x0 0 (K1 (s36a2 rec n) 1)) (K1 (s36a2 rec n) 1) env h))).trans (by rw [s36a15e rec n]; kernel_rfl)
theorem s36a13p11 : D36 rec n c36x15 (xs x0 0 (K1 (s36a2 rec n) 1)) (K1 (s36a2 rec n) 1) = D36 rec n c36x41 (xs x0 0 (K1 (s36a2 rec n) 1)) (K3 (s36a14 rec n) 1 7 42) :=
  congrArg (fun k => D36 rec n c36x41 (xs x0 0 (K1 (s36a2 rec n) 1)) k) (s36a14e rec n)
theorem s36a13e : D36 rec n c36x15 (xs x0 0 (K1 (s36a2 rec n) 1)) (K1 (s36a2 rec n) 1) = (K2 (s36a13 rec n) 1 7) :=
  (s36a13p11 rec n).trans
  ((by kernel_rfl))
theorem s36a12e : D36 rec n c36x14 (xs x0 0 (K1 (s36a2 rec n) 1)) (K1 (s36a2 rec n) 1) = (K3 (s36a12 rec n) 1 7 33) :=
  (by kernel_rfl : D36 rec n c36x14 (xs x0 0 (K1 (s36a2 rec n) 1)) (K1 (s36a2 rec n) 1) = (fun (env : Env) (h : Hp) => ifD (opr env (cC c36x14)) (D36 rec n c36x42 (xs x0 0 (K1 (s36a2 rec n) 1)) (K1 (s36a2 rec n) 1) env h) (D36 rec n c36x15 (xs x0 0 (K1 (s36a2 rec n) 1)) (K1 (s36a2 rec n) 1) env h))).trans (by rw [s36a13e rec n]; kernel_rfl)
theorem s36a11p12 : D36 rec n c36x13 (xs x0 0 (K1 (s36a2 rec n) 1)) (K1 (s36a2 rec n) 1) = D36 rec n c36x43 (xs x0 0 (K1 (s36a2 rec n) 1)) (K3 (s36a12 rec n) 1 7 33) :=
  congrArg (fun k => D36 rec n c36x43 (xs x0 0 (K1 (s36a2 rec n) 1)) k) (s36a12e rec n)
theorem s36a11e : D36 rec n c36x13 (xs x0 0 (K1 (s36a2 rec n) 1)) (K1 (s36a2 rec n) 1) = (K2 (s36a11 rec n) 1 7) :=
  (s36a11p12 rec n).trans
  ((by kernel_rfl))
theorem s36a10e : D36 rec n c36x12 (xs x0 0 (K1 (s36a2 rec n) 1)) (K1 (s36a2 rec n) 1) = (K3 (s36a10 rec n) 1 7 26) :=
  (by kernel_rfl : D36 rec n c36x12 (xs x0 0 (K1 (s36a2 rec n) 1)) (K1 (s36a2 rec n) 1) = (fun (env : Env) (h : Hp) => ifD (opr env (cC c36x12)) (D36 rec n c36x44 (xs x0 0 (K1 (s36a2 rec n) 1)) (K1 (s36a2 rec n) 1) env h) (D36 rec n c36x13 (xs x0 0 (K1 (s36a2 rec n) 1)) (K1 (s36a2 rec n) 1) env h))).trans (by rw [s36a11e rec n]; kernel_rfl)
theorem s36a9p13 : D36 rec n c36x11 (xs x0 0 (K1 (s36a2 rec n) 1)) (K1 (s36a2 rec n) 1) = D36 rec n c36x45 (xs x0 0 (K1 (s36a2 rec n) 1)) (K3 (s36a10 rec n) 1 7 26) :=
  congrArg (fun k => D36 rec n c36x45 (xs x0 0 (K1 (s36a2 rec n) 1)) k) (s36a10e rec n)
theorem s36a9e : D36 rec n c36x11 (xs x0 0 (K1 (s36a2 rec n) 1)) (K1 (s36a2 rec n) 1) = (K2 (s36a9 rec n) 1 7) :=
  (s36a9p13 rec n).trans
  ((by kernel_rfl))
theorem s36a8e : D36 rec n c36x10 (xs x0 0 (K1 (s36a2 rec n) 1)) (K1 (s36a2 rec n) 1) = (K3 (s36a8 rec n) 1 7 20) :=
  (by kernel_rfl : D36 rec n c36x10 (xs x0 0 (K1 (s36a2 rec n) 1)) (K1 (s36a2 rec n) 1) = (fun (env : Env) (h : Hp) => ifD (opr env (cC c36x10)) (D36 rec n c36x46 (xs x0 0 (K1 (s36a2 rec n) 1)) (K1 (s36a2 rec n) 1) env h) (D36 rec n c36x11 (xs x0 0 (K1 (s36a2 rec n) 1)) (K1 (s36a2 rec n) 1) env h))).trans (by rw [s36a9e rec n]; kernel_rfl)
theorem s36a7p14 : D36 rec n c36x9 (xs x0 0 (K1 (s36a2 rec n) 1)) (K1 (s36a2 rec n) 1) = D36 rec n c36x47 (xs x0 0 (K1 (s36a2 rec n) 1)) (K3 (s36a8 rec n) 1 7 20) :=
  congrArg (fun k => D36 rec n c36x47 (xs x0 0 (K1 (s36a2 rec n) 1)) k) (s36a8e rec n)
theorem s36a7e : D36 rec n c36x9 (xs x0 0 (K1 (s36a2 rec n) 1)) (K1 (s36a2 rec n) 1) = (K2 (s36a7 rec n) 1 7) :=
  (s36a7p14 rec n).trans
  ((by kernel_rfl))
theorem s36a6e : D36 rec n c36x8 (xs x0 0 (K1 (s36a2 rec n) 1)) (K1 (s36a2 rec n) 1) = (K3 (s36a6 rec n) 1 7 13) :=
  (by kernel_rfl : D36 rec n c36x8 (xs x0 0 (K1 (s36a2 rec n) 1)) (K1 (s36a2 rec n) 1) = (fun (env : Env) (h : Hp) => ifD (opr env (cC c36x8)) (D36 rec n c36x48 (xs x0 0 (K1 (s36a2 rec n) 1)) (K1 (s36a2 rec n) 1) env h) (D36 rec n c36x9 (xs x0 0 (K1 (s36a2 rec n) 1)) (K1 (s36a2 rec n) 1) env h))).trans (by rw [s36a7e rec n]; kernel_rfl)
theorem s36a5p15 : D36 rec n c36x7 (xs x0 0 (K1 (s36a2 rec n) 1)) (K1 (s36a2 rec n) 1) = D36 rec n c36x49 (xs x0 0 (K1 (s36a2 rec n) 1)) (K3 (s36a6 rec n) 1 7 13) :=
  congrArg (fun k => D36 rec n c36x49 (xs x0 0 (K1 (s36a2 rec n) 1)) k) (s36a6e rec n)
theorem s36a5e : D36 rec n c36x7 (xs x0 0 (K1 (s36a2 rec n) 1)) (K1 (s36a2 rec n) 1) = (K2 (s36a5 rec n) 1 7) :=
  (s36a5p15 rec n).trans
  ((by kernel_rfl))
theorem s36a4e : D36 rec n c36x6 (xs x0 0 (K1 (s36a2 rec n) 1)) (K1 (s36a2 rec n) 1) = (K3 (s36a4 rec n) 1 7 8) :=
  (by kernel_rfl : D36 rec n c36x6 (xs x0 0 (K1 (s36a2 rec n) 1)) (K1 (s36a2 rec n) 1) = (fun (env : Env) (h : Hp) => ifD (opr env (cC c36x6)) (D36 rec n c36x50 (xs x0 0 (K1 (s36a2 rec n) 1)) (K1 (s36a2 rec n) 1) env h) (D36 rec n c36x7 (xs x0 0 (K1 (s36a2 rec n) 1)) (K1 (s36a2 rec n) 1) env h))).trans (by rw [s36a5e rec n]; kernel_rfl)
theorem s36a3p16 : D36 rec n c36x5 (xs x0 0 (K1 (s36a2 rec n) 1)) (K1 (s36a2 rec n) 1) = D36 rec n c36x51 (xs x0 0 (K1 (s36a2 rec n) 1)) (K3 (s36a4 rec n) 1 7 8) :=
  congrArg (fun k => D36 rec n c36x51 (xs x0 0 (K1 (s36a2 rec n) 1)) k) (s36a4e rec n)
theorem s36a3e : D36 rec n c36x4 x0 (K1 (s36a2 rec n) 1) = (K2 (s36a3 rec n) 1 7) :=
  (by kernel_rfl : D36 rec n c36x4 x0 (K1 (s36a2 rec n) 1) = D36 rec n c36x5 (xs x0 0 (K1 (s36a2 rec n) 1)) (K1 (s36a2 rec n) 1)).trans
  ((s36a3p16 rec n).trans
  ((by kernel_rfl)))
theorem s36a1p17 : D36 rec n c36x1 x0 r36 = D36 rec n c36x3 x0 (K1 (s36a2 rec n) 1) :=
  congrArg (fun k => D36 rec n c36x3 x0 k) (s36a2e rec n)
theorem s36a1p18 : D36 rec n c36x3 x0 (K1 (s36a2 rec n) 1) = D36 rec n c36x52 x0 (K2 (s36a3 rec n) 1 7) :=
  congrArg (fun k => D36 rec n c36x52 x0 k) (s36a3e rec n)
theorem s36a1e : D36 rec n c36x1 x0 r36 = (K1 (s36a1 rec n) 1) :=
  (s36a1p17 rec n).trans
  ((s36a1p18 rec n).trans
  ((by kernel_rfl)))
theorem s36p19 : D36 rec n c36 x0 r36 = D36 rec n c36x53 x0 (K1 (s36a1 rec n) 1) :=
  congrArg (fun k => D36 rec n c36x53 x0 k) (s36a1e rec n)
theorem s36q20 (q0 : TT1) : D36 rec n c36x53 x0 (K1 q0 1) = fun (env : Env) (h : Hp) =>
 bnd (pBox (env 0) h) fun v1 h1 =>
    q0 v1 h1 := by kernel_rfl
theorem s36q20u : (fun (env : Env) (h : Hp) =>
 bnd (pBox (env 0) h) fun v1 h1 =>
    s36a1 rec n v1 h1) = (K1 (s36 rec n) 0) := by kernel_rfl
theorem s36m : D36 rec n c36 x0 r36 = (K1 (s36 rec n) 0) :=
  (s36p19 rec n).trans
  ((s36q20 rec n (s36a1 rec n)).trans (s36q20u rec n))
theorem s36ok (args : List DV) (h : Hp) : bodyD CF rec n 36 args h = s36 rec n (args.getD 0 undefD) h :=
  (by kernel_rfl : bodyD CF rec n 36 args h = D36 rec n c36 x0 r36 (argsE args) h).trans ((congrFun (congrFun (s36m rec n) (argsE args)) h).trans (by kernel_rfl))
/-- parse.Same -/
def s37 (rec : RT) (n : Nat) (x0 x1 : DV) (h0 : Hp) : Res :=
 bnd (pBox x0 h0) fun v1 h1 =>
 bnd (pBox x1 h1) fun v2 h2 =>
 bnd (pField 0 v1 h2) fun v3 h3 =>
 bnd (pLoad1 v3 h3) fun v4 h4 =>
 bnd (pField 0 v2 h4) fun v5 h5 =>
 bnd (pLoad1 v5 h5) fun v6 h6 =>
 bnd (pInt .eql v4 v6 h6) fun v7 h7 =>
 bnd (gD v7 true (pField 1 v1 h7) h7) fun v8 h8 =>
 bnd (gD v7 true (pLoad1 v8 h8) h8) fun v9 h9 =>
 bnd (gD v7 true (pField 1 v2 h9) h9) fun v10 h10 =>
 bnd (gD v7 true (pLoad1 v10 h10) h10) fun v11 h11 =>
 bnd (gD v7 true (pStr .eql v9 v11 h11) h11) fun v12 h12 =>
 bnd (pPick v7 v12 (.b false) h12) fun v13 h13 =>
 bnd (gD v13 true (pField 2 v1 h13) h13) fun v14 h14 =>
 bnd (gD v13 true (pLoad1 v14 h14) h14) fun v15 h15 =>
 bnd (gD v13 true (pField 2 v2 h15) h15) fun v16 h16 =>
 bnd (gD v13 true (pLoad1 v16 h16) h16) fun v17 h17 =>
 bnd (gD v13 true (pInt .eql v15 v17 h17) h17) fun v18 h18 =>
 bnd (pPick v13 v18 (.b false) h18) fun v19 h19 =>
 bnd (gD v19 true (pField 3 v1 h19) h19) fun v20 h20 =>
 bnd (gD v19 true (pLoad1 v20 h20) h20) fun v21 h21 =>
 bnd (gD v19 true (pField 3 v2 h21) h21) fun v22 h22 =>
 bnd (gD v19 true (pLoad1 v22 h22) h22) fun v23 h23 =>
 bnd (gD v19 true (rec 63 [v21, v23] h23) h23) fun v24 h24 =>
 bnd (pPick v19 v24 (.b false) h24) fun v25 h25 =>
 bnd (gD v25 true (pField 4 v1 h25) h25) fun v26 h26 =>
 bnd (gD v25 true (pLoad1 v26 h26) h26) fun v27 h27 =>
 bnd (gD v25 true (pField 4 v2 h27) h27) fun v28 h28 =>
 bnd (gD v25 true (pLoad1 v28 h28) h28) fun v29 h29 =>
 bnd (gD v25 true (rec 63 [v27, v29] h29) h29) fun v30 h30 =>
 bnd (pPick v25 v30 (.b false) h30) fun v31 h31 =>
 bnd (gD v31 true (pField 5 v1 h31) h31) fun v32 h32 =>
 bnd (gD v31 true (pLoad1 v32 h32) h32) fun v33 h33 =>
 bnd (gD v31 true (pField 5 v2 h33) h33) fun v34 h34 =>
 bnd (gD v31 true (pLoad1 v34 h34) h34) fun v35 h35 =>
 bnd (gD v31 true (rec 64 [v33, v35, (.f 37 [] [])] h35) h35) fun v36 h36 =>
 bnd (pPick v31 v36 (.b false) h36) fun v37 h37 =>
 some (v37, h37)
abbrev c37 : Code := cf Tryz.f37
abbrev r37 : K := retK CF Tryz.f37
def D37 (rec : RT) (n : Nat) (c : Code) (X : Nat → K) (k : K) : K := codeD CF rec 47 n c X r37 k
theorem s37m : D37 rec n c37 x0 r37 = (K2 (s37 rec n) 0 1) :=
  (by kernel_rfl)
theorem s37ok (args : List DV) (h : Hp) : bodyD CF rec n 37 args h = s37 rec n (args.getD 0 undefD) (args.getD 1 undefD) h :=
  (by kernel_rfl : bodyD CF rec n 37 args h = D37 rec n c37 x0 r37 (argsE args) h).trans ((congrFun (congrFun (s37m rec n) (argsE args)) h).trans (by kernel_rfl))

end
end Go.Dd

/- Dd, part Q2 (printed by gen.py): functions of the seat's program as Lean functions, linked to Dd. -/
set_option linter.unusedVariables false
set_option maxRecDepth 100000
namespace Go.Dd
open Go.Proofs
noncomputable section

variable (rec : RT) (n : Nat)
def s48a6 (rec : RT) (n : Nat) (x0 x6 : DV) (h0 : Hp) : Res :=
 bnd (pLenS x0 h0) fun v1 h1 =>
 bnd (pBuild [(.i .i64 (Int.ofNat 0)), (.s []), (.i .i64 (Int.ofNat 0)), (.i .i64 (Int.ofNat 0))] [(3, 1, v1)] h1) fun v2 h2 =>
 bnd (pBuildSlice [(.i .i64 (Int.ofNat 0)), (.s []), (.i .i64 (Int.ofNat 0)), (.i .i64 (Int.ofNat 0))] 1 [(0, 4, v2)] h2) fun v3 h3 =>
 bnd (pAppend 4 40 x6 v3 h3) fun v4 h4 =>
 some (.t [v4, (.i .i64 (Int.ofNat 0)), (.i .i64 (Int.ofNat 0))], h4)
def s48a7b (rec : RT) (n : Nat) (kk7 : TT3) (x0 x5 x6 : DV) (h0 : Hp) : Res :=
 bnd (rec 75 [(.s [9, 10, 13, 32])] h0) fun v1 h1 =>
 bnd (pLenS x0 h1) fun v2 h2 =>
 bnd (rec 74 [x5, v1, v2] h2) fun v3 h3 =>
 bnd (pNil x5 h3) fun v4 h4 =>
 bnd (pField 1 v4 h4) fun v5 h5 =>
 bnd (pLoad1 v5 h5) fun v6 h6 =>
 bnd (pLenS x0 h6) fun v7 h7 =>
 bnd (pInt .geq v6 v7 h7) fun v8 h8 =>
 ifD v8 (
      s48a6 rec n x0 x6 h8) (
 bnd (pNil x5 h8) fun v9 h9 =>
 bnd (pField 1 v9 h9) fun v10 h10 =>
 bnd (pLoad1 v10 h10) fun v11 h11 =>
 bnd (pIndexS x0 v11 h11) fun v12 h12 =>
 bnd (pInt .eql v12 (.i .u8 (Int.ofNat 34)) h12) fun v13 h13 =>
 ifD v13 (
 bnd (pNil x5 h13) fun v14 h14 =>
 bnd (pField 1 v14 h14) fun v15 h15 =>
 bnd (pLoad1 v15 h15) fun v16 h16 =>
 bnd (pInt .add v16 (.i .i64 (Int.ofNat 1)) h16) fun v17 h17 =>
 bnd (pSliceS x0 (some v17) none h17) fun v18 h18 =>
 bnd (rec 57 [v18, (.i .u8 (Int.ofNat 34))] h18) fun v19 h19 =>
 bnd (pInt .lss v19 (.i .i64 (Int.ofNat 0)) h19) fun v20 h20 =>
 ifD v20 (
 bnd (pNil x5 h20) fun v21 h21 =>
 bnd (pField 1 v21 h21) fun v22 h22 =>
 bnd (pLoad1 v22 h22) fun v23 h23 =>
 some (.t [.l0, v23, (.i .i64 (Int.ofNat 11))], h23)) (
 bnd (pNil x5 h20) fun v24 h24 =>
 bnd (pField 1 v24 h24) fun v25 h25 =>
 bnd (pLoad1 v25 h25) fun v26 h26 =>
 bnd (pInt .add v19 (.i .i64 (Int.ofNat 2)) h26) fun v27 h27 =>
 bnd (pInt .add v26 v27 h27) fun v28 h28 =>
 bnd (pNil x5 h28) fun v29 h29 =>
 bnd (pField 1 v29 h29) fun v30 h30 =>
 bnd (pStore 1 v30 v28 h30) fun _ h31 =>
          kk7 x0 x5 x6 h31)) (
 bnd (rec 76 [x5] h13) fun v32 h32 =>
 bnd (pExtract 0 v32 h32) fun v33 h33 =>
 bnd (pExtract 1 v32 h33) fun v34 h34 =>
 bnd (pNew [(.i .i64 (Int.ofNat 0)), (.s []), (.i .i64 (Int.ofNat 0)), (.i .i64 (Int.ofNat 0))] h34) fun v35 h35 =>
 bnd (pStore 4 v35 v33 h35) fun _ h36 =>
 bnd (pInt .neq v34 (.i .i64 (Int.ofNat 0)) h36) fun v37 h37 =>
 ifD v37 (
 bnd (pField 3 v35 h37) fun v38 h38 =>
 bnd (pLoad1 v38 h38) fun v39 h39 =>
 some (.t [.l0, v39, v34], h39)) (
 bnd (pLoadA 4 v35 h37) fun v40 h40 =>
 bnd (pBuildSlice [(.i .i64 (Int.ofNat 0)), (.s []), (.i .i64 (Int.ofNat 0)), (.i .i64 (Int.ofNat 0))] 1 [(0, 4, v40)] h40) fun v41 h41 =>
 bnd (pAppend 4 40 x6 v41 h41) fun v42 h42 =>
          kk7 x0 x5 v42 h42)))
def s48a7l (rec : RT) (n : Nat) (m : Nat) : TT3 :=
  Nat.rec (motive := fun _ => TT3) (fun _ _ _ _ => none) (fun _ ih => s48a7b rec n ih) m
def s48a7 (rec : RT) (n : Nat) : TT3 := s48a7l rec n n
def s48a5 (rec : RT) (n : Nat) (x0 x5 x6 : DV) (h0 : Hp) : Res :=
  s48a7 rec n x0 x5 x6 h0
def s48a4 (rec : RT) (n : Nat) (x0 x5 x6 : DV) (h0 : Hp) : Res :=
  s48a5 rec n x0 x5 x6 h0
def s48a3 (rec : RT) (n : Nat) (x0 x5 : DV) (h0 : Hp) : Res :=
  s48a4 rec n x0 x5 .l0 h0
def s48a2 (rec : RT) (n : Nat) (x0 : DV) (h0 : Hp) : Res :=
 bnd (pBuild [(.s []), (.i .i64 (Int.ofNat 0))] [(0, 1, x0)] h0) fun v1 h1 =>
 bnd (pBox v1 h1) fun v2 h2 =>
  s48a3 rec n x0 v2 h2
def s48a1 (rec : RT) (n : Nat) (x0 : DV) (h0 : Hp) : Res :=
 bnd (pLenS x0 h0) fun v1 h1 =>
 bnd (pInt .gtr v1 (.i .i64 (Int.ofNat 2000)) h1) fun v2 h2 =>
 ifD v2 (
 some (.t [.l0, (.i .i64 (Int.ofNat 0)), (.i .i64 (Int.ofNat 12))], h2)) (
    s48a2 rec n x0 h2)
/-- lex.Tokens -/
def s48 (rec : RT) (n : Nat) (x0 : DV) (h0 : Hp) : Res :=
  s48a1 rec n x0 h0
abbrev c48 : Code := cf Tryz.f48
abbrev c48x1 : Code := cR c48
abbrev c48x2 : Code := cL c48x1
abbrev c48x3 : Code := cR c48x2
abbrev c48x4 : Code := cR c48x3
abbrev c48x5 : Code := cR c48x4
abbrev c48x6 : Code := cR c48x5
abbrev c48x7 : Code := cR c48x6
abbrev c48x8 : Code := cL c48x6
abbrev c48x9 : Code := cL c48x8
abbrev c48x10 : Code := cL c48x9
abbrev c48x11 : Code := cL c48x5
abbrev c48x12 : Code := cL c48x4
abbrev c48x13 : Code := cL c48x3
abbrev c48x14 : Code := cL c48x2
abbrev c48x15 : Code := cL c48
abbrev r48 : K := retK CF Tryz.f48
def D48 (rec : RT) (n : Nat) (c : Code) (X : Nat → K) (k : K) : K := codeD CF rec 80 n c X r48 k
theorem s48a6e : D48 rec n c48x7 x0 r48 = (K2 (s48a6 rec n) 0 6) :=
  (by kernel_rfl)
theorem s48a7q1 (kk7 : TT3) (q0 : TT2) : D48 rec n c48x10 (xs x0 0 (K2 q0 0 6)) (K3 kk7 0 5 6) = fun (env : Env) (h : Hp) =>
 bnd (rec 75 [(.s [9, 10, 13, 32])] h) fun v1 h1 =>
 bnd (pLenS (env 0) h1) fun v2 h2 =>
 bnd (rec 74 [(env 5), v1, v2] h2) fun v3 h3 =>
 bnd (pNil (env 5) h3) fun v4 h4 =>
 bnd (pField 1 v4 h4) fun v5 h5 =>
 bnd (pLoad1 v5 h5) fun v6 h6 =>
 bnd (pLenS (env 0) h6) fun v7 h7 =>
 bnd (pInt .geq v6 v7 h7) fun v8 h8 =>
 ifD v8 (
      q0 (env 0) (env 6) h8) (
 bnd (pNil (env 5) h8) fun v9 h9 =>
 bnd (pField 1 v9 h9) fun v10 h10 =>
 bnd (pLoad1 v10 h10) fun v11 h11 =>
 bnd (pIndexS (env 0) v11 h11) fun v12 h12 =>
 bnd (pInt .eql v12 (.i .u8 (Int.ofNat 34)) h12) fun v13 h13 =>
 ifD v13 (
 bnd (pNil (env 5) h13) fun v14 h14 =>
 bnd (pField 1 v14 h14) fun v15 h15 =>
 bnd (pLoad1 v15 h15) fun v16 h16 =>
 bnd (pInt .add v16 (.i .i64 (Int.ofNat 1)) h16) fun v17 h17 =>
 bnd (pSliceS (env 0) (some v17) none h17) fun v18 h18 =>
 bnd (rec 57 [v18, (.i .u8 (Int.ofNat 34))] h18) fun v19 h19 =>
 bnd (pInt .lss v19 (.i .i64 (Int.ofNat 0)) h19) fun v20 h20 =>
 ifD v20 (
 bnd (pNil (env 5) h20) fun v21 h21 =>
 bnd (pField 1 v21 h21) fun v22 h22 =>
 bnd (pLoad1 v22 h22) fun v23 h23 =>
 some (.t [.l0, v23, (.i .i64 (Int.ofNat 11))], h23)) (
 bnd (pNil (env 5) h20) fun v24 h24 =>
 bnd (pField 1 v24 h24) fun v25 h25 =>
 bnd (pLoad1 v25 h25) fun v26 h26 =>
 bnd (pInt .add v19 (.i .i64 (Int.ofNat 2)) h26) fun v27 h27 =>
 bnd (pInt .add v26 v27 h27) fun v28 h28 =>
 bnd (pNil (env 5) h28) fun v29 h29 =>
 bnd (pField 1 v29 h29) fun v30 h30 =>
 bnd (pStore 1 v30 v28 h30) fun _ h31 =>
          kk7 (env 0) (env 5) (env 6) h31)) (
 bnd (rec 76 [(env 5)] h13) fun v32 h32 =>
 bnd (pExtract 0 v32 h32) fun v33 h33 =>
 bnd (pExtract 1 v32 h33) fun v34 h34 =>
 bnd (pNew [(.i .i64 (Int.ofNat 0)), (.s []), (.i .i64 (Int.ofNat 0)), (.i .i64 (Int.ofNat 0))] h34) fun v35 h35 =>
 bnd (pStore 4 v35 v33 h35) fun _ h36 =>
 bnd (pInt .neq v34 (.i .i64 (Int.ofNat 0)) h36) fun v37 h37 =>
 ifD v37 (
 bnd (pField 3 v35 h37) fun v38 h38 =>
 bnd (pLoad1 v38 h38) fun v39 h39 =>
 some (.t [.l0, v39, v34], h39)) (
 bnd (pLoadA 4 v35 h37) fun v40 h40 =>
 bnd (pBuildSlice [(.i .i64 (Int.ofNat 0)), (.s []), (.i .i64 (Int.ofNat 0)), (.i .i64 (Int.ofNat 0))] 1 [(0, 4, v40)] h40) fun v41 h41 =>
 bnd (pAppend 4 40 (env 6) v41 h41) fun v42 h42 =>
          kk7 (env 0) (env 5) v42 h42))) := by kernel_rfl
theorem s48a7q1u (kk7 : TT3) : (fun (env : Env) (h : Hp) =>
 bnd (rec 75 [(.s [9, 10, 13, 32])] h) fun v1 h1 =>
 bnd (pLenS (env 0) h1) fun v2 h2 =>
 bnd (rec 74 [(env 5), v1, v2] h2) fun v3 h3 =>
 bnd (pNil (env 5) h3) fun v4 h4 =>
 bnd (pField 1 v4 h4) fun v5 h5 =>
 bnd (pLoad1 v5 h5) fun v6 h6 =>
 bnd (pLenS (env 0) h6) fun v7 h7 =>
 bnd (pInt .geq v6 v7 h7) fun v8 h8 =>
 ifD v8 (
      s48a6 rec n (env 0) (env 6) h8) (
 bnd (pNil (env 5) h8) fun v9 h9 =>
 bnd (pField 1 v9 h9) fun v10 h10 =>
 bnd (pLoad1 v10 h10) fun v11 h11 =>
 bnd (pIndexS (env 0) v11 h11) fun v12 h12 =>
 bnd (pInt .eql v12 (.i .u8 (Int.ofNat 34)) h12) fun v13 h13 =>
 ifD v13 (
 bnd (pNil (env 5) h13) fun v14 h14 =>
 bnd (pField 1 v14 h14) fun v15 h15 =>
 bnd (pLoad1 v15 h15) fun v16 h16 =>
 bnd (pInt .add v16 (.i .i64 (Int.ofNat 1)) h16) fun v17 h17 =>
 bnd (pSliceS (env 0) (some v17) none h17) fun v18 h18 =>
 bnd (rec 57 [v18, (.i .u8 (Int.ofNat 34))] h18) fun v19 h19 =>
 bnd (pInt .lss v19 (.i .i64 (Int.ofNat 0)) h19) fun v20 h20 =>
 ifD v20 (
 bnd (pNil (env 5) h20) fun v21 h21 =>
 bnd (pField 1 v21 h21) fun v22 h22 =>
 bnd (pLoad1 v22 h22) fun v23 h23 =>
 some (.t [.l0, v23, (.i .i64 (Int.ofNat 11))], h23)) (
 bnd (pNil (env 5) h20) fun v24 h24 =>
 bnd (pField 1 v24 h24) fun v25 h25 =>
 bnd (pLoad1 v25 h25) fun v26 h26 =>
 bnd (pInt .add v19 (.i .i64 (Int.ofNat 2)) h26) fun v27 h27 =>
 bnd (pInt .add v26 v27 h27) fun v28 h28 =>
 bnd (pNil (env 5) h28) fun v29 h29 =>
 bnd (pField 1 v29 h29) fun v30 h30 =>
 bnd (pStore 1 v30 v28 h30) fun _ h31 =>
          kk7 (env 0) (env 5) (env 6) h31)) (
 bnd (rec 76 [(env 5)] h13) fun v32 h32 =>
 bnd (pExtract 0 v32 h32) fun v33 h33 =>
 bnd (pExtract 1 v32 h33) fun v34 h34 =>
 bnd (pNew [(.i .i64 (Int.ofNat 0)), (.s []), (.i .i64 (Int.ofNat 0)), (.i .i64 (Int.ofNat 0))] h34) fun v35 h35 =>
 bnd (pStore 4 v35 v33 h35) fun _ h36 =>
 bnd (pInt .neq v34 (.i .i64 (Int.ofNat 0)) h36) fun v37 h37 =>
 ifD v37 (
 bnd (pField 3 v35 h37) fun v38 h38 =>
 bnd (pLoad1 v38 h38) fun v39 h39 =>
 some (.t [.l0, v39, v34], h39)) (
 bnd (pLoadA 4 v35 h37) fun v40 h40 =>
 bnd (pBuildSlice [(.i .i64 (Int.ofNat 0)), (.s []), (.i .i64 (Int.ofNat 0)), (.i .i64 (Int.ofNat 0))] 1 [(0, 4, v40)] h40) fun v41 h41 =>
 bnd (pAppend 4 40 (env 6) v41 h41) fun v42 h42 =>
          kk7 (env 0) (env 5) v42 h42)))) = (K3 (s48a7b rec n kk7) 0 5 6) := by kernel_rfl
theorem s48a7be (kk7 : TT3) : D48 rec n c48x10 (xs x0 0 (K2 (s48a6 rec n) 0 6)) (K3 kk7 0 5 6) = (K3 (s48a7b rec n kk7) 0 5 6) :=
  (s48a7q1 rec n kk7 (s48a6 rec n)).trans (s48a7q1u rec n kk7)
theorem s48a7le (m : Nat) : loopN (fun kk => D48 rec n c48x10 (xs x0 0 (K2 (s48a6 rec n) 0 6)) kk) m = (K3 (s48a7l rec n m) 0 5 6) := by
  induction m with
  | zero => exact (by kernel_rfl : loopN (fun kk => D48 rec n c48x10 (xs x0 0 (K2 (s48a6 rec n) 0 6)) kk) 0 = (K3 (s48a7l rec n 0) 0 5 6))
  | succ m ih =>
    refine (by kernel_rfl : loopN (fun kk => D48 rec n c48x10 (xs x0 0 (K2 (s48a6 rec n) 0 6)) kk) (m + 1) = D48 rec n c48x10 (xs x0 0 (K2 (s48a6 rec n) 0 6)) (loopN (fun kk => D48 rec n c48x10 (xs x0 0 (K2 (s48a6 rec n) 0 6)) kk) m)).trans ?_
    rw [ih]
    exact (s48a7be rec n (s48a7l rec n m)).trans (by kernel_rfl)
theorem s48a7e : D48 rec n c48x9 (xs x0 0 (K2 (s48a6 rec n) 0 6)) (K2 (s48a6 rec n) 0 6) = (K3 (s48a7 rec n) 0 5 6) :=
  (by kernel_rfl : D48 rec n c48x9 (xs x0 0 (K2 (s48a6 rec n) 0 6)) (K2 (s48a6 rec n) 0 6) = loopN (fun kk => D48 rec n c48x10 (xs x0 0 (K2 (s48a6 rec n) 0 6)) kk) n).trans ((s48a7le rec n n).trans (by kernel_rfl))
theorem s48a5p2 : D48 rec n c48x6 x0 r48 = D48 rec n c48x8 x0 (K2 (s48a6 rec n) 0 6) :=
  congrArg (fun k => D48 rec n c48x8 x0 k) (s48a6e rec n)
theorem s48a5e : D48 rec n c48x6 x0 r48 = (K3 (s48a5 rec n) 0 5 6) :=
  (s48a5p2 rec n).trans
  ((by kernel_rfl : D48 rec n c48x8 x0 (K2 (s48a6 rec n) 0 6) = D48 rec n c48x9 (xs x0 0 (K2 (s48a6 rec n) 0 6)) (K2 (s48a6 rec n) 0 6)).trans
  ((s48a7e rec n).trans (by kernel_rfl)))
theorem s48a4p3 : D48 rec n c48x5 x0 r48 = D48 rec n c48x11 x0 (K3 (s48a5 rec n) 0 5 6) :=
  congrArg (fun k => D48 rec n c48x11 x0 k) (s48a5e rec n)
theorem s48a4e : D48 rec n c48x5 x0 r48 = (K3 (s48a4 rec n) 0 5 6) :=
  (s48a4p3 rec n).trans
  ((by kernel_rfl))
theorem s48a3p4 : D48 rec n c48x4 x0 r48 = D48 rec n c48x12 x0 (K3 (s48a4 rec n) 0 5 6) :=
  congrArg (fun k => D48 rec n c48x12 x0 k) (s48a4e rec n)
theorem s48a3e : D48 rec n c48x4 x0 r48 = (K2 (s48a3 rec n) 0 5) :=
  (s48a3p4 rec n).trans
  ((by kernel_rfl))
theorem s48a2p5 : D48 rec n c48x3 x0 r48 = D48 rec n c48x13 x0 (K2 (s48a3 rec n) 0 5) :=
  congrArg (fun k => D48 rec n c48x13 x0 k) (s48a3e rec n)
theorem s48a2q6 (q0 : TT2) : D48 rec n c48x13 x0 (K2 q0 0 5) = fun (env : Env) (h : Hp) =>
 bnd (pBuild [(.s []), (.i .i64 (Int.ofNat 0))] [(0, 1, (env 0))] h) fun v1 h1 =>
 bnd (pBox v1 h1) fun v2 h2 =>
    q0 (env 0) v2 h2 := by kernel_rfl
theorem s48a2q6u : (fun (env : Env) (h : Hp) =>
 bnd (pBuild [(.s []), (.i .i64 (Int.ofNat 0))] [(0, 1, (env 0))] h) fun v1 h1 =>
 bnd (pBox v1 h1) fun v2 h2 =>
    s48a3 rec n (env 0) v2 h2) = (K1 (s48a2 rec n) 0) := by kernel_rfl
theorem s48a2e : D48 rec n c48x3 x0 r48 = (K1 (s48a2 rec n) 0) :=
  (s48a2p5 rec n).trans
  ((s48a2q6 rec n (s48a3 rec n)).trans (s48a2q6u rec n))
theorem s48a1p7 : D48 rec n c48x2 x0 r48 = D48 rec n c48x14 x0 (K1 (s48a2 rec n) 0) :=
  congrArg (fun k => D48 rec n c48x14 x0 k) (s48a2e rec n)
theorem s48a1e : D48 rec n c48x1 x0 r48 = (K1 (s48a1 rec n) 0) :=
  (by kernel_rfl : D48 rec n c48x1 x0 r48 = D48 rec n c48x2 x0 r48).trans
  ((s48a1p7 rec n).trans
  ((by kernel_rfl)))
theorem s48p8 : D48 rec n c48 x0 r48 = D48 rec n c48x15 x0 (K1 (s48a1 rec n) 0) :=
  congrArg (fun k => D48 rec n c48x15 x0 k) (s48a1e rec n)
theorem s48m : D48 rec n c48 x0 r48 = (K1 (s48 rec n) 0) :=
  (s48p8 rec n).trans
  ((by kernel_rfl))
theorem s48ok (args : List DV) (h : Hp) : bodyD CF rec n 48 args h = s48 rec n (args.getD 0 undefD) h :=
  (by kernel_rfl : bodyD CF rec n 48 args h = D48 rec n c48 x0 r48 (argsE args) h).trans ((congrFun (congrFun (s48m rec n) (argsE args)) h).trans (by kernel_rfl))
def s49a5 (rec : RT) (n : Nat) (x0 x3 : DV) (h0 : Hp) : Res :=
 bnd (rec 51 [x0, (.i .i64 (Int.ofNat 10)), (.s [124])] h0) fun v1 h1 =>
 some (x3, h1)
def s49a6b (rec : RT) (n : Nat) (kk6 : TT2) (x0 x3 : DV) (h0 : Hp) : Res :=
 bnd (rec 77 [x0, (.i .i64 (Int.ofNat 1)), (.s [])] h0) fun v1 h1 =>
 ifD v1 (
 bnd (rec 78 [x0] h1) fun v2 h2 =>
 bnd (pPart1 1 v2 h2) fun v3 h3 =>
 bnd (pBuildSlice [(.s [])] 1 [(0, 1, v3)] h3) fun v4 h4 =>
 bnd (pAppend 1 16 x3 v4 h4) fun v5 h5 =>
      kk6 x0 v5 h5) (
      s49a5 rec n x0 x3 h1)
def s49a6l (rec : RT) (n : Nat) (m : Nat) : TT2 :=
  Nat.rec (motive := fun _ => TT2) (fun _ _ _ => none) (fun _ ih => s49a6b rec n ih) m
def s49a6 (rec : RT) (n : Nat) : TT2 := s49a6l rec n n
def s49a4 (rec : RT) (n : Nat) (x0 x3 : DV) (h0 : Hp) : Res :=
  s49a6 rec n x0 x3 h0
def s49a3 (rec : RT) (n : Nat) (x0 x3 : DV) (h0 : Hp) : Res :=
 bnd (rec 78 [x0] h0) fun v1 h1 =>
  s49a4 rec n x0 x3 h1
def s49a2 (rec : RT) (n : Nat) (x0 x3 : DV) (h0 : Hp) : Res :=
 bnd (rec 77 [x0, (.i .i64 (Int.ofNat 10)), (.s [124])] h0) fun v1 h1 =>
 bnd (pUn .not v1 h1) fun v2 h2 =>
 ifD v2 (
 some (.l0, h2)) (
    s49a3 rec n x0 x3 h2)
def s49a1 (rec : RT) (n : Nat) (x0 : DV) (h0 : Hp) : Res :=
  s49a2 rec n x0 .l0 h0
/-- parse.parser).temps -/
def s49 (rec : RT) (n : Nat) (x0 : DV) (h0 : Hp) : Res :=
  s49a1 rec n x0 h0
abbrev c49 : Code := cf Tryz.f49
abbrev c49x1 : Code := cR c49
abbrev c49x2 : Code := cR c49x1
abbrev c49x3 : Code := cR c49x2
abbrev c49x4 : Code := cR c49x3
abbrev c49x5 : Code := cR c49x4
abbrev c49x6 : Code := cL c49x4
abbrev c49x7 : Code := cL c49x6
abbrev c49x8 : Code := cL c49x7
abbrev c49x9 : Code := cL c49x3
abbrev c49x10 : Code := cL c49x2
abbrev c49x11 : Code := cL c49x1
abbrev c49x12 : Code := cL c49
abbrev r49 : K := retK CF Tryz.f49
def D49 (rec : RT) (n : Nat) (c : Code) (X : Nat → K) (k : K) : K := codeD CF rec 20 n c X r49 k
theorem s49a5e : D49 rec n c49x5 x0 r49 = (K2 (s49a5 rec n) 0 3) :=
  (by kernel_rfl)
theorem s49a6q1 (kk6 : TT2) (q0 : TT2) : D49 rec n c49x8 (xs x0 0 (K2 q0 0 3)) (K2 kk6 0 3) = fun (env : Env) (h : Hp) =>
 bnd (rec 77 [(env 0), (.i .i64 (Int.ofNat 1)), (.s [])] h) fun v1 h1 =>
 ifD v1 (
 bnd (rec 78 [(env 0)] h1) fun v2 h2 =>
 bnd (pPart1 1 v2 h2) fun v3 h3 =>
 bnd (pBuildSlice [(.s [])] 1 [(0, 1, v3)] h3) fun v4 h4 =>
 bnd (pAppend 1 16 (env 3) v4 h4) fun v5 h5 =>
      kk6 (env 0) v5 h5) (
      q0 (env 0) (env 3) h1) := by kernel_rfl
theorem s49a6q1u (kk6 : TT2) : (fun (env : Env) (h : Hp) =>
 bnd (rec 77 [(env 0), (.i .i64 (Int.ofNat 1)), (.s [])] h) fun v1 h1 =>
 ifD v1 (
 bnd (rec 78 [(env 0)] h1) fun v2 h2 =>
 bnd (pPart1 1 v2 h2) fun v3 h3 =>
 bnd (pBuildSlice [(.s [])] 1 [(0, 1, v3)] h3) fun v4 h4 =>
 bnd (pAppend 1 16 (env 3) v4 h4) fun v5 h5 =>
      kk6 (env 0) v5 h5) (
      s49a5 rec n (env 0) (env 3) h1)) = (K2 (s49a6b rec n kk6) 0 3) := by kernel_rfl
theorem s49a6be (kk6 : TT2) : D49 rec n c49x8 (xs x0 0 (K2 (s49a5 rec n) 0 3)) (K2 kk6 0 3) = (K2 (s49a6b rec n kk6) 0 3) :=
  (s49a6q1 rec n kk6 (s49a5 rec n)).trans (s49a6q1u rec n kk6)
theorem s49a6le (m : Nat) : loopN (fun kk => D49 rec n c49x8 (xs x0 0 (K2 (s49a5 rec n) 0 3)) kk) m = (K2 (s49a6l rec n m) 0 3) := by
  induction m with
  | zero => exact (by kernel_rfl : loopN (fun kk => D49 rec n c49x8 (xs x0 0 (K2 (s49a5 rec n) 0 3)) kk) 0 = (K2 (s49a6l rec n 0) 0 3))
  | succ m ih =>
    refine (by kernel_rfl : loopN (fun kk => D49 rec n c49x8 (xs x0 0 (K2 (s49a5 rec n) 0 3)) kk) (m + 1) = D49 rec n c49x8 (xs x0 0 (K2 (s49a5 rec n) 0 3)) (loopN (fun kk => D49 rec n c49x8 (xs x0 0 (K2 (s49a5 rec n) 0 3)) kk) m)).trans ?_
    rw [ih]
    exact (s49a6be rec n (s49a6l rec n m)).trans (by kernel_rfl)
theorem s49a6e : D49 rec n c49x7 (xs x0 0 (K2 (s49a5 rec n) 0 3)) (K2 (s49a5 rec n) 0 3) = (K2 (s49a6 rec n) 0 3) :=
  (by kernel_rfl : D49 rec n c49x7 (xs x0 0 (K2 (s49a5 rec n) 0 3)) (K2 (s49a5 rec n) 0 3) = loopN (fun kk => D49 rec n c49x8 (xs x0 0 (K2 (s49a5 rec n) 0 3)) kk) n).trans ((s49a6le rec n n).trans (by kernel_rfl))
theorem s49a4p2 : D49 rec n c49x4 x0 r49 = D49 rec n c49x6 x0 (K2 (s49a5 rec n) 0 3) :=
  congrArg (fun k => D49 rec n c49x6 x0 k) (s49a5e rec n)
theorem s49a4e : D49 rec n c49x4 x0 r49 = (K2 (s49a4 rec n) 0 3) :=
  (s49a4p2 rec n).trans
  ((by kernel_rfl : D49 rec n c49x6 x0 (K2 (s49a5 rec n) 0 3) = D49 rec n c49x7 (xs x0 0 (K2 (s49a5 rec n) 0 3)) (K2 (s49a5 rec n) 0 3)).trans
  ((s49a6e rec n).trans (by kernel_rfl)))
theorem s49a3p3 : D49 rec n c49x3 x0 r49 = D49 rec n c49x9 x0 (K2 (s49a4 rec n) 0 3) :=
  congrArg (fun k => D49 rec n c49x9 x0 k) (s49a4e rec n)
theorem s49a3e : D49 rec n c49x3 x0 r49 = (K2 (s49a3 rec n) 0 3) :=
  (s49a3p3 rec n).trans
  ((by kernel_rfl))
theorem s49a2p4 : D49 rec n c49x2 x0 r49 = D49 rec n c49x10 x0 (K2 (s49a3 rec n) 0 3) :=
  congrArg (fun k => D49 rec n c49x10 x0 k) (s49a3e rec n)
theorem s49a2e : D49 rec n c49x2 x0 r49 = (K2 (s49a2 rec n) 0 3) :=
  (s49a2p4 rec n).trans
  ((by kernel_rfl))
theorem s49a1p5 : D49 rec n c49x1 x0 r49 = D49 rec n c49x11 x0 (K2 (s49a2 rec n) 0 3) :=
  congrArg (fun k => D49 rec n c49x11 x0 k) (s49a2e rec n)
theorem s49a1e : D49 rec n c49x1 x0 r49 = (K1 (s49a1 rec n) 0) :=
  (s49a1p5 rec n).trans
  ((by kernel_rfl))
theorem s49p6 : D49 rec n c49 x0 r49 = D49 rec n c49x12 x0 (K1 (s49a1 rec n) 0) :=
  congrArg (fun k => D49 rec n c49x12 x0 k) (s49a1e rec n)
theorem s49m : D49 rec n c49 x0 r49 = (K1 (s49 rec n) 0) :=
  (s49p6 rec n).trans
  ((by kernel_rfl))
theorem s49ok (args : List DV) (h : Hp) : bodyD CF rec n 49 args h = s49 rec n (args.getD 0 undefD) h :=
  (by kernel_rfl : bodyD CF rec n 49 args h = D49 rec n c49 x0 r49 (argsE args) h).trans ((congrFun (congrFun (s49m rec n) (argsE args)) h).trans (by kernel_rfl))
def s50a3 (rec : RT) (n : Nat) (x3 : DV) (h0 : Hp) : Res :=
 some (x3, h0)
def s50a6 (rec : RT) (n : Nat) (kk4 : TT2) (x0 x3 : DV) (h0 : Hp) : Res :=
 bnd (rec 79 [x0] h0) fun v1 h1 =>
 bnd (pBuildSlice [(.i .i64 (Int.ofNat 0)), (.s []), (.i .i64 (Int.ofNat 0)), .l0, .l0, .l0] 1 [(0, 6, v1)] h1) fun v2 h2 =>
 bnd (pAppend 6 104 x3 v2 h2) fun v3 h3 =>
 bnd (rec 77 [x0, (.i .i64 (Int.ofNat 10)), (.s [46])] h3) fun v4 h4 =>
 bnd (pUn .not v4 h4) fun v5 h5 =>
 ifD v5 (
 some (v3, h5)) (
 bnd (rec 78 [x0] h5) fun v6 h6 =>
    kk4 x0 v3 h6)
def s50a11 (rec : RT) (n : Nat) (kk4 : TT2) (x3 : DV) (h0 : Hp) : Res :=
 some (x3, h0)
def s50a10 (rec : RT) (n : Nat) (kk4 : TT2) (x0 x3 : DV) (h0 : Hp) : Res :=
 bnd (rec 77 [x0, (.i .i64 (Int.ofNat 10)), (.s [46])] h0) fun v1 h1 =>
 ifD v1 (
 bnd (rec 78 [x0] h1) fun v2 h2 =>
    s50a11 rec n kk4 x3 h2) (
    s50a11 rec n kk4 x3 h1)
def s50a9 (rec : RT) (n : Nat) (kk4 : TT2) (x0 x3 : DV) (h0 : Hp) : Res :=
 bnd (rec 79 [x0] h0) fun v1 h1 =>
 bnd (pBuildSlice [(.i .i64 (Int.ofNat 0)), (.s []), (.i .i64 (Int.ofNat 0)), .l0, .l0, .l0] 1 [(0, 6, v1)] h1) fun v2 h2 =>
 bnd (pBuild [(.i .i64 (Int.ofNat 0)), (.s []), (.i .i64 (Int.ofNat 0)), .l0, .l0, .l0] [(0, 1, (.i .i64 (Int.ofNat 10))), (5, 1, v2)] h2) fun v3 h3 =>
 bnd (pBuildSlice [(.i .i64 (Int.ofNat 0)), (.s []), (.i .i64 (Int.ofNat 0)), .l0, .l0, .l0] 1 [(0, 6, v3)] h3) fun v4 h4 =>
 bnd (pAppend 6 104 x3 v4 h4) fun v5 h5 =>
  s50a10 rec n kk4 x0 v5 h5
def s50a8 (rec : RT) (n : Nat) (kk4 : TT2) (x0 x3 : DV) (h0 : Hp) : Res :=
 bnd (rec 78 [x0] h0) fun v1 h1 =>
  s50a9 rec n kk4 x0 x3 h1
def s50a7 (rec : RT) (n : Nat) (kk4 : TT2) (x0 x3 x20 : DV) (h0 : Hp) : Res :=
 ifD x20 (
    s50a8 rec n kk4 x0 x3 h0) (
    s50a6 rec n kk4 x0 x3 h0)
def s50a5 (rec : RT) (n : Nat) (kk4 : TT2) (x0 x3 : DV) (h0 : Hp) : Res :=
 bnd (rec 77 [x0, (.i .i64 (Int.ofNat 10)), (.s [94])] h0) fun v1 h1 =>
  s50a7 rec n kk4 x0 x3 v1 h1
def s50a4b (rec : RT) (n : Nat) (kk4 : TT2) (x0 x3 : DV) (h0 : Hp) : Res :=
 bnd (pNil x0 h0) fun v1 h1 =>
 bnd (pField 3 v1 h1) fun v2 h2 =>
 bnd (pLoad1 v2 h2) fun v3 h3 =>
 bnd (pInt .eql v3 (.i .i64 (Int.ofNat 0)) h3) fun v4 h4 =>
 bnd (gD v4 true (some (x0, h4)) h4) fun v5 h5 =>
 bnd (gD v4 true (rec 77 [v5, (.i .i64 (Int.ofNat 0)), (.s [])] h5) h5) fun v6 h6 =>
 bnd (gD v4 true (pUn .not v6 h6) h6) fun v7 h7 =>
 bnd (pPick v4 v7 (.b false) h7) fun v8 h8 =>
 bnd (gD v8 true (some (x0, h8)) h8) fun v9 h9 =>
 bnd (gD v8 true (rec 77 [v9, (.i .i64 (Int.ofNat 10)), (.s [93])] h9) h9) fun v10 h10 =>
 bnd (gD v8 true (pUn .not v10 h10) h10) fun v11 h11 =>
 bnd (pPick v8 v11 (.b false) h11) fun v12 h12 =>
 ifD v12 (
      s50a5 rec n kk4 x0 x3 h12) (
      s50a3 rec n x3 h12)
def s50a4l (rec : RT) (n : Nat) (m : Nat) : TT2 :=
  Nat.rec (motive := fun _ => TT2) (fun _ _ _ => none) (fun _ ih => s50a4b rec n ih) m
def s50a4 (rec : RT) (n : Nat) : TT2 := s50a4l rec n n
def s50a2 (rec : RT) (n : Nat) (x0 x3 : DV) (h0 : Hp) : Res :=
  s50a4 rec n x0 x3 h0
def s50a1 (rec : RT) (n : Nat) (x0 : DV) (h0 : Hp) : Res :=
  s50a2 rec n x0 .l0 h0
/-- parse.parser).statements -/
def s50 (rec : RT) (n : Nat) (x0 : DV) (h0 : Hp) : Res :=
  s50a1 rec n x0 h0
abbrev c50 : Code := cf Tryz.f50
abbrev c50x1 : Code := cR c50
abbrev c50x2 : Code := cR c50x1
abbrev c50x3 : Code := cR c50x2
abbrev c50x4 : Code := cL c50x2
abbrev c50x5 : Code := cL c50x4
abbrev c50x6 : Code := cL c50x5
abbrev c50x7 : Code := cR c50x6
abbrev c50x8 : Code := cL c50x7
abbrev c50x9 : Code := cR c50x8
abbrev c50x10 : Code := cL c50x8
abbrev c50x11 : Code := cR c50x10
abbrev c50x12 : Code := cL c50x11
abbrev c50x13 : Code := cR c50x12
abbrev c50x14 : Code := cR c50x13
abbrev c50x15 : Code := cR c50x14
abbrev c50x16 : Code := cL c50x14
abbrev c50x17 : Code := cL c50x13
abbrev c50x18 : Code := cL c50x12
abbrev c50x19 : Code := cR c50x11
abbrev c50x20 : Code := cL c50x10
abbrev c50x21 : Code := cL c50x6
abbrev c50x22 : Code := cL c50x1
abbrev c50x23 : Code := cL c50
abbrev r50 : K := retK CF Tryz.f50
def D50 (rec : RT) (n : Nat) (c : Code) (X : Nat → K) (k : K) : K := codeD CF rec 47 n c X r50 k
theorem s50a3e : D50 rec n c50x3 x0 r50 = (K1 (s50a3 rec n) 3) :=
  (by kernel_rfl)
theorem s50a6q1 (kk4 : TT2) (q0 : TT1) : D50 rec n c50x9 (xs (xs x0 0 (K1 q0 3)) 1 (K2 kk4 0 3)) (K2 kk4 0 3) = fun (env : Env) (h : Hp) =>
 bnd (rec 79 [(env 0)] h) fun v1 h1 =>
 bnd (pBuildSlice [(.i .i64 (Int.ofNat 0)), (.s []), (.i .i64 (Int.ofNat 0)), .l0, .l0, .l0] 1 [(0, 6, v1)] h1) fun v2 h2 =>
 bnd (pAppend 6 104 (env 3) v2 h2) fun v3 h3 =>
 bnd (rec 77 [(env 0), (.i .i64 (Int.ofNat 10)), (.s [46])] h3) fun v4 h4 =>
 bnd (pUn .not v4 h4) fun v5 h5 =>
 ifD v5 (
 some (v3, h5)) (
 bnd (rec 78 [(env 0)] h5) fun v6 h6 =>
      kk4 (env 0) v3 h6) := by kernel_rfl
theorem s50a6q1u (kk4 : TT2) : (fun (env : Env) (h : Hp) =>
 bnd (rec 79 [(env 0)] h) fun v1 h1 =>
 bnd (pBuildSlice [(.i .i64 (Int.ofNat 0)), (.s []), (.i .i64 (Int.ofNat 0)), .l0, .l0, .l0] 1 [(0, 6, v1)] h1) fun v2 h2 =>
 bnd (pAppend 6 104 (env 3) v2 h2) fun v3 h3 =>
 bnd (rec 77 [(env 0), (.i .i64 (Int.ofNat 10)), (.s [46])] h3) fun v4 h4 =>
 bnd (pUn .not v4 h4) fun v5 h5 =>
 ifD v5 (
 some (v3, h5)) (
 bnd (rec 78 [(env 0)] h5) fun v6 h6 =>
      kk4 (env 0) v3 h6)) = (K2 (s50a6 rec n kk4) 0 3) := by kernel_rfl
theorem s50a6e (kk4 : TT2) : D50 rec n c50x9 (xs (xs x0 0 (K1 (s50a3 rec n) 3)) 1 (K2 kk4 0 3)) (K2 kk4 0 3) = (K2 (s50a6 rec n kk4) 0 3) :=
  (s50a6q1 rec n kk4 (s50a3 rec n)).trans (s50a6q1u rec n kk4)
theorem s50a11e (kk4 : TT2) : D50 rec n c50x15 (xs (xs x0 0 (K1 (s50a3 rec n) 3)) 1 (K2 kk4 0 3)) (K2 (s50a6 rec n kk4) 0 3) = (K1 (s50a11 rec n kk4) 3) :=
  (by kernel_rfl)
theorem s50a10p2 (kk4 : TT2) : D50 rec n c50x14 (xs (xs x0 0 (K1 (s50a3 rec n) 3)) 1 (K2 kk4 0 3)) (K2 (s50a6 rec n kk4) 0 3) = D50 rec n c50x16 (xs (xs x0 0 (K1 (s50a3 rec n) 3)) 1 (K2 kk4 0 3)) (K1 (s50a11 rec n kk4) 3) :=
  congrArg (fun k => D50 rec n c50x16 (xs (xs x0 0 (K1 (s50a3 rec n) 3)) 1 (K2 kk4 0 3)) k) (s50a11e rec n kk4)
theorem s50a10e (kk4 : TT2) : D50 rec n c50x14 (xs (xs x0 0 (K1 (s50a3 rec n) 3)) 1 (K2 kk4 0 3)) (K2 (s50a6 rec n kk4) 0 3) = (K2 (s50a10 rec n kk4) 0 3) :=
  (s50a10p2 rec n kk4).trans
  ((by kernel_rfl))
theorem s50a9p3 (kk4 : TT2) : D50 rec n c50x13 (xs (xs x0 0 (K1 (s50a3 rec n) 3)) 1 (K2 kk4 0 3)) (K2 (s50a6 rec n kk4) 0 3) = D50 rec n c50x17 (xs (xs x0 0 (K1 (s50a3 rec n) 3)) 1 (K2 kk4 0 3)) (K2 (s50a10 rec n kk4) 0 3) :=
  congrArg (fun k => D50 rec n c50x17 (xs (xs x0 0 (K1 (s50a3 rec n) 3)) 1 (K2 kk4 0 3)) k) (s50a10e rec n kk4)
theorem s50a9q4 (kk4 : TT2) (q0 : TT2) (q1 : TT1) : D50 rec n c50x17 (xs (xs x0 0 (K1 q1 3)) 1 (K2 kk4 0 3)) (K2 q0 0 3) = fun (env : Env) (h : Hp) =>
 bnd (rec 79 [(env 0)] h) fun v1 h1 =>
 bnd (pBuildSlice [(.i .i64 (Int.ofNat 0)), (.s []), (.i .i64 (Int.ofNat 0)), .l0, .l0, .l0] 1 [(0, 6, v1)] h1) fun v2 h2 =>
 bnd (pBuild [(.i .i64 (Int.ofNat 0)), (.s []), (.i .i64 (Int.ofNat 0)), .l0, .l0, .l0] [(0, 1, (.i .i64 (Int.ofNat 10))), (5, 1, v2)] h2) fun v3 h3 =>
 bnd (pBuildSlice [(.i .i64 (Int.ofNat 0)), (.s []), (.i .i64 (Int.ofNat 0)), .l0, .l0, .l0] 1 [(0, 6, v3)] h3) fun v4 h4 =>
 bnd (pAppend 6 104 (env 3) v4 h4) fun v5 h5 =>
    q0 (env 0) v5 h5 := by kernel_rfl
theorem s50a9q4u (kk4 : TT2) : (fun (env : Env) (h : Hp) =>
 bnd (rec 79 [(env 0)] h) fun v1 h1 =>
 bnd (pBuildSlice [(.i .i64 (Int.ofNat 0)), (.s []), (.i .i64 (Int.ofNat 0)), .l0, .l0, .l0] 1 [(0, 6, v1)] h1) fun v2 h2 =>
 bnd (pBuild [(.i .i64 (Int.ofNat 0)), (.s []), (.i .i64 (Int.ofNat 0)), .l0, .l0, .l0] [(0, 1, (.i .i64 (Int.ofNat 10))), (5, 1, v2)] h2) fun v3 h3 =>
 bnd (pBuildSlice [(.i .i64 (Int.ofNat 0)), (.s []), (.i .i64 (Int.ofNat 0)), .l0, .l0, .l0] 1 [(0, 6, v3)] h3) fun v4 h4 =>
 bnd (pAppend 6 104 (env 3) v4 h4) fun v5 h5 =>
    s50a10 rec n kk4 (env 0) v5 h5) = (K2 (s50a9 rec n kk4) 0 3) := by kernel_rfl
theorem s50a9e (kk4 : TT2) : D50 rec n c50x13 (xs (xs x0 0 (K1 (s50a3 rec n) 3)) 1 (K2 kk4 0 3)) (K2 (s50a6 rec n kk4) 0 3) = (K2 (s50a9 rec n kk4) 0 3) :=
  (s50a9p3 rec n kk4).trans
  ((s50a9q4 rec n kk4 (s50a10 rec n kk4) (s50a3 rec n)).trans (s50a9q4u rec n kk4))
theorem s50a8p5 (kk4 : TT2) : D50 rec n c50x12 (xs (xs x0 0 (K1 (s50a3 rec n) 3)) 1 (K2 kk4 0 3)) (K2 (s50a6 rec n kk4) 0 3) = D50 rec n c50x18 (xs (xs x0 0 (K1 (s50a3 rec n) 3)) 1 (K2 kk4 0 3)) (K2 (s50a9 rec n kk4) 0 3) :=
  congrArg (fun k => D50 rec n c50x18 (xs (xs x0 0 (K1 (s50a3 rec n) 3)) 1 (K2 kk4 0 3)) k) (s50a9e rec n kk4)
theorem s50a8e (kk4 : TT2) : D50 rec n c50x12 (xs (xs x0 0 (K1 (s50a3 rec n) 3)) 1 (K2 kk4 0 3)) (K2 (s50a6 rec n kk4) 0 3) = (K2 (s50a8 rec n kk4) 0 3) :=
  (s50a8p5 rec n kk4).trans
  ((by kernel_rfl))
theorem s50a7e (kk4 : TT2) : D50 rec n c50x11 (xs (xs x0 0 (K1 (s50a3 rec n) 3)) 1 (K2 kk4 0 3)) (K2 (s50a6 rec n kk4) 0 3) = (K3 (s50a7 rec n kk4) 0 3 20) :=
  (by kernel_rfl : D50 rec n c50x11 (xs (xs x0 0 (K1 (s50a3 rec n) 3)) 1 (K2 kk4 0 3)) (K2 (s50a6 rec n kk4) 0 3) = (fun (env : Env) (h : Hp) => ifD (opr env (cC c50x11)) (D50 rec n c50x12 (xs (xs x0 0 (K1 (s50a3 rec n) 3)) 1 (K2 kk4 0 3)) (K2 (s50a6 rec n kk4) 0 3) env h) (D50 rec n c50x19 (xs (xs x0 0 (K1 (s50a3 rec n) 3)) 1 (K2 kk4 0 3)) (K2 (s50a6 rec n kk4) 0 3) env h))).trans (by rw [s50a8e rec n kk4]; kernel_rfl)
theorem s50a5p6 (kk4 : TT2) : D50 rec n c50x8 (xs (xs x0 0 (K1 (s50a3 rec n) 3)) 1 (K2 kk4 0 3)) (K2 kk4 0 3) = D50 rec n c50x10 (xs (xs x0 0 (K1 (s50a3 rec n) 3)) 1 (K2 kk4 0 3)) (K2 (s50a6 rec n kk4) 0 3) :=
  congrArg (fun k => D50 rec n c50x10 (xs (xs x0 0 (K1 (s50a3 rec n) 3)) 1 (K2 kk4 0 3)) k) (s50a6e rec n kk4)
theorem s50a5p7 (kk4 : TT2) : D50 rec n c50x10 (xs (xs x0 0 (K1 (s50a3 rec n) 3)) 1 (K2 kk4 0 3)) (K2 (s50a6 rec n kk4) 0 3) = D50 rec n c50x20 (xs (xs x0 0 (K1 (s50a3 rec n) 3)) 1 (K2 kk4 0 3)) (K3 (s50a7 rec n kk4) 0 3 20) :=
  congrArg (fun k => D50 rec n c50x20 (xs (xs x0 0 (K1 (s50a3 rec n) 3)) 1 (K2 kk4 0 3)) k) (s50a7e rec n kk4)
theorem s50a5e (kk4 : TT2) : D50 rec n c50x7 (xs x0 0 (K1 (s50a3 rec n) 3)) (K2 kk4 0 3) = (K2 (s50a5 rec n kk4) 0 3) :=
  (by kernel_rfl : D50 rec n c50x7 (xs x0 0 (K1 (s50a3 rec n) 3)) (K2 kk4 0 3) = D50 rec n c50x8 (xs (xs x0 0 (K1 (s50a3 rec n) 3)) 1 (K2 kk4 0 3)) (K2 kk4 0 3)).trans
  ((s50a5p6 rec n kk4).trans
  ((s50a5p7 rec n kk4).trans
  ((by kernel_rfl))))
theorem s50a4p8 (kk4 : TT2) : D50 rec n c50x6 (xs x0 0 (K1 (s50a3 rec n) 3)) (K2 kk4 0 3) = D50 rec n c50x21 (xs x0 0 (K1 (s50a3 rec n) 3)) (K2 (s50a5 rec n kk4) 0 3) :=
  congrArg (fun k => D50 rec n c50x21 (xs x0 0 (K1 (s50a3 rec n) 3)) k) (s50a5e rec n kk4)
theorem s50a4be (kk4 : TT2) : D50 rec n c50x6 (xs x0 0 (K1 (s50a3 rec n) 3)) (K2 kk4 0 3) = (K2 (s50a4b rec n kk4) 0 3) :=
  (s50a4p8 rec n kk4).trans
  ((by kernel_rfl))
theorem s50a4le (m : Nat) : loopN (fun kk => D50 rec n c50x6 (xs x0 0 (K1 (s50a3 rec n) 3)) kk) m = (K2 (s50a4l rec n m) 0 3) := by
  induction m with
  | zero => exact (by kernel_rfl : loopN (fun kk => D50 rec n c50x6 (xs x0 0 (K1 (s50a3 rec n) 3)) kk) 0 = (K2 (s50a4l rec n 0) 0 3))
  | succ m ih =>
    refine (by kernel_rfl : loopN (fun kk => D50 rec n c50x6 (xs x0 0 (K1 (s50a3 rec n) 3)) kk) (m + 1) = D50 rec n c50x6 (xs x0 0 (K1 (s50a3 rec n) 3)) (loopN (fun kk => D50 rec n c50x6 (xs x0 0 (K1 (s50a3 rec n) 3)) kk) m)).trans ?_
    rw [ih]
    exact (s50a4be rec n (s50a4l rec n m)).trans (by kernel_rfl)
theorem s50a4e : D50 rec n c50x5 (xs x0 0 (K1 (s50a3 rec n) 3)) (K1 (s50a3 rec n) 3) = (K2 (s50a4 rec n) 0 3) :=
  (by kernel_rfl : D50 rec n c50x5 (xs x0 0 (K1 (s50a3 rec n) 3)) (K1 (s50a3 rec n) 3) = loopN (fun kk => D50 rec n c50x6 (xs x0 0 (K1 (s50a3 rec n) 3)) kk) n).trans ((s50a4le rec n n).trans (by kernel_rfl))
theorem s50a2p9 : D50 rec n c50x2 x0 r50 = D50 rec n c50x4 x0 (K1 (s50a3 rec n) 3) :=
  congrArg (fun k => D50 rec n c50x4 x0 k) (s50a3e rec n)
theorem s50a2e : D50 rec n c50x2 x0 r50 = (K2 (s50a2 rec n) 0 3) :=
  (s50a2p9 rec n).trans
  ((by kernel_rfl : D50 rec n c50x4 x0 (K1 (s50a3 rec n) 3) = D50 rec n c50x5 (xs x0 0 (K1 (s50a3 rec n) 3)) (K1 (s50a3 rec n) 3)).trans
  ((s50a4e rec n).trans (by kernel_rfl)))
theorem s50a1p10 : D50 rec n c50x1 x0 r50 = D50 rec n c50x22 x0 (K2 (s50a2 rec n) 0 3) :=
  congrArg (fun k => D50 rec n c50x22 x0 k) (s50a2e rec n)
theorem s50a1e : D50 rec n c50x1 x0 r50 = (K1 (s50a1 rec n) 0) :=
  (s50a1p10 rec n).trans
  ((by kernel_rfl))
theorem s50p11 : D50 rec n c50 x0 r50 = D50 rec n c50x23 x0 (K1 (s50a1 rec n) 0) :=
  congrArg (fun k => D50 rec n c50x23 x0 k) (s50a1e rec n)
theorem s50m : D50 rec n c50 x0 r50 = (K1 (s50 rec n) 0) :=
  (s50p11 rec n).trans
  ((by kernel_rfl))
theorem s50ok (args : List DV) (h : Hp) : bodyD CF rec n 50 args h = s50 rec n (args.getD 0 undefD) h :=
  (by kernel_rfl : bodyD CF rec n 50 args h = D50 rec n c50 x0 r50 (argsE args) h).trans ((congrFun (congrFun (s50m rec n) (argsE args)) h).trans (by kernel_rfl))
/-- parse.parser).need -/
def s51 (rec : RT) (n : Nat) (x0 x1 x2 : DV) (h0 : Hp) : Res :=
 bnd (pNew [(.i .i64 (Int.ofNat 0)), (.s []), (.i .i64 (Int.ofNat 0)), (.i .i64 (Int.ofNat 0))] h0) fun v1 h1 =>
 bnd (rec 77 [x0, x1, x2] h1) fun v2 h2 =>
 bnd (pUn .not v2 h2) fun v3 h3 =>
 ifD v3 (
 bnd (rec 81 [x0, (.i .i64 (Int.ofNat 0))] h3) fun v4 h4 =>
 bnd (rec 80 [x0, v4, (.i .i64 (Int.ofNat 13))] h4) fun v5 h5 =>
 bnd (pBuild [(.i .i64 (Int.ofNat 0)), (.s []), (.i .i64 (Int.ofNat 0)), (.i .i64 (Int.ofNat 0))] [] h5) fun v6 h6 =>
 bnd (pStore 4 v1 v6 h6) fun _ h7 =>
 bnd (pLoadA 4 v1 h7) fun v8 _ =>
 some (v8, h7)) (
 bnd (rec 78 [x0] h3) fun v9 h9 =>
 bnd (pStore 4 v1 v9 h9) fun _ h10 =>
 bnd (pLoadA 4 v1 h10) fun v11 _ =>
 some (v11, h10))
abbrev c51 : Code := cf Tryz.f51
abbrev r51 : K := retK CF Tryz.f51
def D51 (rec : RT) (n : Nat) (c : Code) (X : Nat → K) (k : K) : K := codeD CF rec 19 n c X r51 k
theorem s51m : D51 rec n c51 x0 r51 = (K3 (s51 rec n) 0 1 2) :=
  (by kernel_rfl)
theorem s51ok (args : List DV) (h : Hp) : bodyD CF rec n 51 args h = s51 rec n (args.getD 0 undefD) (args.getD 1 undefD) (args.getD 2 undefD) h :=
  (by kernel_rfl : bodyD CF rec n 51 args h = D51 rec n c51 x0 r51 (argsE args) h).trans ((congrFun (congrFun (s51m rec n) (argsE args)) h).trans (by kernel_rfl))
/-- strings.IndexByte -/
def s57 (rec : RT) (n : Nat) (x0 x1 : DV) (h0 : Hp) : Res :=
 bnd (rec 85 [x0, x1] h0) fun v1 h1 =>
 some (v1, h1)
abbrev c57 : Code := cf Tryz.f57
abbrev r57 : K := retK CF Tryz.f57
def D57 (rec : RT) (n : Nat) (c : Code) (X : Nat → K) (k : K) : K := codeD CF rec 8 n c X r57 k
theorem s57m : D57 rec n c57 x0 r57 = (K2 (s57 rec n) 0 1) :=
  (by kernel_rfl)
theorem s57ok (args : List DV) (h : Hp) : bodyD CF rec n 57 args h = s57 rec n (args.getD 0 undefD) (args.getD 1 undefD) h :=
  (by kernel_rfl : bodyD CF rec n 57 args h = D57 rec n c57 x0 r57 (argsE args) h).trans ((congrFun (congrFun (s57m rec n) (argsE args)) h).trans (by kernel_rfl))
/-- strings.SplitAfter -/
def s58 (rec : RT) (n : Nat) (x0 x1 : DV) (h0 : Hp) : Res :=
 bnd (pLenS x1 h0) fun v1 h1 =>
 bnd (splitF [x0, x1, v1, (.i .i64 (Int.negSucc 0))] h1) fun v2 h2 =>
 some (v2, h2)
abbrev c58 : Code := cf Tryz.f58
abbrev r58 : K := retK CF Tryz.f58
def D58 (rec : RT) (n : Nat) (c : Code) (X : Nat → K) (k : K) : K := codeD CF rec 10 n c X r58 k
theorem s58m : D58 rec n c58 x0 r58 = (K2 (s58 rec n) 0 1) :=
  (by kernel_rfl)
theorem s58ok (args : List DV) (h : Hp) : bodyD CF rec n 58 args h = s58 rec n (args.getD 0 undefD) (args.getD 1 undefD) h :=
  (by kernel_rfl : bodyD CF rec n 58 args h = D58 rec n c58 x0 r58 (argsE args) h).trans ((congrFun (congrFun (s58m rec n) (argsE args)) h).trans (by kernel_rfl))
def s61a4 (rec : RT) (n : Nat) (x0 x1 x5 : DV) (h0 : Hp) : Res :=
 bnd (rec 89 [x1, (.i .i64 (Int.ofNat 0)), x5] (resv 1 h0)) fun v1 h1 =>
 bnd (pSlice 6 x1 (some (.i .i64 (Int.ofNat 1))) none h1) fun v2 h2 =>
 cnd (sameR (pSlice 6 x1 (some (.i .i64 (Int.ofNat 1))) none (resv 1 h0)) v2 && true) (
 bnd (rec 90 [x0, v2] h2) fun v3 h3 =>
 bnd (pBuildSliceAt (nthPos 0 h0.next) [(.s []), (.s []), (.s [])] 3 [(0, 1, v1), (1, 1, (.s [32])), (2, 1, v3)] h3) fun v4 h4 =>
 bnd (rec 19 [v4] h4) fun v5 h5 =>
 some (v5, h5))
def s61a3 (rec : RT) (n : Nat) (x0 x1 x5 : DV) (h0 : Hp) : Res :=
 bnd (rec 32 [x0] h0) fun v1 h1 =>
 bnd (pInt .eql v1 (.i .i64 (Int.ofNat 1)) h1) fun v2 h2 =>
 ifD v2 (
    s61a4 rec n x0 x1 (.i .i64 (Int.ofNat 1)) h2) (
    s61a4 rec n x0 x1 x5 h2)
def s61a2 (rec : RT) (n : Nat) (x0 x1 : DV) (h0 : Hp) : Res :=
  s61a3 rec n x0 x1 (.i .i64 (Int.ofNat 2)) h0
def s61a1 (rec : RT) (n : Nat) (x0 x1 : DV) (h0 : Hp) : Res :=
 bnd (pLen x1 h0) fun v1 h1 =>
 bnd (pInt .eql v1 (.i .i64 (Int.ofNat 0)) h1) fun v2 h2 =>
 ifD v2 (
 some ((.s []), h2)) (
    s61a2 rec n x0 x1 h2)
/-- show.send -/
def s61 (rec : RT) (n : Nat) (x0 x1 : DV) (h0 : Hp) : Res :=
  s61a1 rec n x0 x1 h0
abbrev c61 : Code := cf Tryz.f61
abbrev c61x1 : Code := cR c61
abbrev c61x2 : Code := cR c61x1
abbrev c61x3 : Code := cR c61x2
abbrev c61x4 : Code := cR c61x3
abbrev c61x5 : Code := cL c61x3
abbrev c61x6 : Code := cL c61x2
abbrev c61x7 : Code := cL c61x1
abbrev c61x8 : Code := cL c61
abbrev r61 : K := retK CF Tryz.f61
def D61 (rec : RT) (n : Nat) (c : Code) (X : Nat → K) (k : K) : K := codeD CF rec 21 n c X r61 k
theorem s61a4e : D61 rec n c61x4 x0 r61 = (K3 (s61a4 rec n) 0 1 5) :=
  (by kernel_rfl)
theorem s61a3p1 : D61 rec n c61x3 x0 r61 = D61 rec n c61x5 x0 (K3 (s61a4 rec n) 0 1 5) :=
  congrArg (fun k => D61 rec n c61x5 x0 k) (s61a4e rec n)
theorem s61a3e : D61 rec n c61x3 x0 r61 = (K3 (s61a3 rec n) 0 1 5) :=
  (s61a3p1 rec n).trans
  ((by kernel_rfl))
theorem s61a2p2 : D61 rec n c61x2 x0 r61 = D61 rec n c61x6 x0 (K3 (s61a3 rec n) 0 1 5) :=
  congrArg (fun k => D61 rec n c61x6 x0 k) (s61a3e rec n)
theorem s61a2e : D61 rec n c61x2 x0 r61 = (K2 (s61a2 rec n) 0 1) :=
  (s61a2p2 rec n).trans
  ((by kernel_rfl))
theorem s61a1p3 : D61 rec n c61x1 x0 r61 = D61 rec n c61x7 x0 (K2 (s61a2 rec n) 0 1) :=
  congrArg (fun k => D61 rec n c61x7 x0 k) (s61a2e rec n)
theorem s61a1e : D61 rec n c61x1 x0 r61 = (K2 (s61a1 rec n) 0 1) :=
  (s61a1p3 rec n).trans
  ((by kernel_rfl))
theorem s61p4 : D61 rec n c61 x0 r61 = D61 rec n c61x8 x0 (K2 (s61a1 rec n) 0 1) :=
  congrArg (fun k => D61 rec n c61x8 x0 k) (s61a1e rec n)
theorem s61m : D61 rec n c61 x0 r61 = (K2 (s61 rec n) 0 1) :=
  (s61p4 rec n).trans
  ((by kernel_rfl))
theorem s61ok (args : List DV) (h : Hp) : bodyD CF rec n 61 args h = s61 rec n (args.getD 0 undefD) (args.getD 1 undefD) h :=
  (by kernel_rfl : bodyD CF rec n 61 args h = D61 rec n c61 x0 r61 (argsE args) h).trans ((congrFun (congrFun (s61m rec n) (argsE args)) h).trans (by kernel_rfl))
/-- show.series -/
def s62 (rec : RT) (n : Nat) (x0 : DV) (h0 : Hp) : Res :=
 bnd (pLen x0 h0) fun v1 h1 =>
 bnd (pInt .lss v1 (.i .i64 (Int.ofNat 2)) h1) fun v2 h2 =>
 ifD v2 (
 some ((.s []), h2)) (
 bnd (pIndexAddr 6 x0 (.i .i64 (Int.ofNat 0)) (resv 1 h2)) fun v3 h3 =>
 bnd (pLoadA 6 v3 h3) fun v4 h4 =>
 bnd (pBuildSliceAt (nthPos 0 h2.next) [(.i .i64 (Int.ofNat 0)), (.s []), (.i .i64 (Int.ofNat 0)), .l0, .l0, .l0] 1 [(0, 6, v4)] h4) fun v5 h5 =>
 bnd (pIndexAddr 6 x0 (.i .i64 (Int.ofNat 1)) h5) fun v6 h6 =>
 bnd (pField 5 v6 h6) fun v7 h7 =>
 bnd (pLoad1 v7 h7) fun v8 h8 =>
 cnd (sameR (pLoad1 v7 (resv 1 h2)) v8 && true) (
 bnd (pAppend 6 104 v5 v8 h8) fun v9 h9 =>
 bnd (pSlice 6 x0 (some (.i .i64 (Int.ofNat 2))) none h9) fun v10 h10 =>
 bnd (rec 35 [v10, (.s []), (.f 91 [] [])] h10) fun v11 h11 =>
 bnd (pIndexAddr 6 x0 (.i .i64 (Int.ofNat 1)) h11) fun v12 h12 =>
 bnd (pField 1 v12 h12) fun v13 h13 =>
 bnd (pLoad1 v13 h13) fun v14 h14 =>
 bnd (rec 61 [v14, v9] h14) fun v15 h15 =>
 bnd (pBuildSlice [(.s []), (.s [])] 2 [(0, 1, v15), (1, 1, v11)] h15) fun v16 h16 =>
 bnd (rec 19 [v16] h16) fun v17 h17 =>
 some (v17, h17)))
abbrev c62 : Code := cf Tryz.f62
abbrev r62 : K := retK CF Tryz.f62
def D62 (rec : RT) (n : Nat) (c : Code) (X : Nat → K) (k : K) : K := codeD CF rec 29 n c X r62 k
theorem s62m : D62 rec n c62 x0 r62 = (K1 (s62 rec n) 0) :=
  (by kernel_rfl)
theorem s62ok (args : List DV) (h : Hp) : bodyD CF rec n 62 args h = s62 rec n (args.getD 0 undefD) h :=
  (by kernel_rfl : bodyD CF rec n 62 args h = D62 rec n c62 x0 r62 (argsE args) h).trans ((congrFun (congrFun (s62m rec n) (argsE args)) h).trans (by kernel_rfl))
def s63a3 (rec : RT) (n : Nat) (h0 : Hp) : Res :=
 some ((.b true), h0)
def s63a5b (rec : RT) (n : Nat) (kk5 : TT4) (x0 x1 x12 x13 : DV) (h0 : Hp) : Res :=
 bnd (pInt .lss x13 x12 h0) fun v1 h1 =>
 ifD v1 (
 bnd (pIndexAddr 1 x0 x13 h1) fun v2 h2 =>
 bnd (pLoad1 v2 h2) fun v3 h3 =>
 bnd (pIndexAddr 1 x1 x13 h3) fun v4 h4 =>
 bnd (pLoad1 v4 h4) fun v5 h5 =>
 bnd (pStr .neq v3 v5 h5) fun v6 h6 =>
 ifD v6 (
 some ((.b false), h6)) (
 bnd (pInt .add x13 (.i .i64 (Int.ofNat 1)) h6) fun v7 h7 =>
        kk5 x0 x1 x12 v7 h7)) (
      s63a3 rec n h1)
def s63a5l (rec : RT) (n : Nat) (m : Nat) : TT4 :=
  Nat.rec (motive := fun _ => TT4) (fun _ _ _ _ _ => none) (fun _ ih => s63a5b rec n ih) m
def s63a5 (rec : RT) (n : Nat) : TT4 := s63a5l rec n n
def s63a4 (rec : RT) (n : Nat) (x0 x1 x12 x13 : DV) (h0 : Hp) : Res :=
  s63a5 rec n x0 x1 x12 x13 h0
def s63a2 (rec : RT) (n : Nat) (x0 x1 : DV) (h0 : Hp) : Res :=
 bnd (pLen x0 h0) fun v1 h1 =>
  s63a4 rec n x0 x1 v1 (.i .i64 (Int.ofNat 0)) h1
def s63a1 (rec : RT) (n : Nat) (x0 x1 : DV) (h0 : Hp) : Res :=
 bnd (pLen x0 h0) fun v1 h1 =>
 bnd (pLen x1 h1) fun v2 h2 =>
 bnd (pInt .neq v1 v2 h2) fun v3 h3 =>
 ifD v3 (
 some ((.b false), h3)) (
    s63a2 rec n x0 x1 h3)
/-- slices.Equal[[]string,string] -/
def s63 (rec : RT) (n : Nat) (x0 x1 : DV) (h0 : Hp) : Res :=
  s63a1 rec n x0 x1 h0
abbrev c63 : Code := cf Tryz.f63
abbrev c63x1 : Code := cR c63
abbrev c63x2 : Code := cR c63x1
abbrev c63x3 : Code := cR c63x2
abbrev c63x4 : Code := cL c63x2
abbrev c63x5 : Code := cR c63x4
abbrev c63x6 : Code := cL c63x5
abbrev c63x7 : Code := cL c63x6
abbrev c63x8 : Code := cL c63x4
abbrev c63x9 : Code := cL c63x1
abbrev c63x10 : Code := cL c63
abbrev r63 : K := retK CF Tryz.f63
def D63 (rec : RT) (n : Nat) (c : Code) (X : Nat → K) (k : K) : K := codeD CF rec 26 n c X r63 k
theorem s63a3e : D63 rec n c63x3 x0 r63 = (K0 (s63a3 rec n)) :=
  (by kernel_rfl)
theorem s63a5be (kk5 : TT4) : D63 rec n c63x7 (xs x0 0 (K0 (s63a3 rec n))) (K4 kk5 0 1 12 13) = (K4 (s63a5b rec n kk5) 0 1 12 13) :=
  (by kernel_rfl)
theorem s63a5le (m : Nat) : loopN (fun kk => D63 rec n c63x7 (xs x0 0 (K0 (s63a3 rec n))) kk) m = (K4 (s63a5l rec n m) 0 1 12 13) := by
  induction m with
  | zero => exact (by kernel_rfl : loopN (fun kk => D63 rec n c63x7 (xs x0 0 (K0 (s63a3 rec n))) kk) 0 = (K4 (s63a5l rec n 0) 0 1 12 13))
  | succ m ih =>
    refine (by kernel_rfl : loopN (fun kk => D63 rec n c63x7 (xs x0 0 (K0 (s63a3 rec n))) kk) (m + 1) = D63 rec n c63x7 (xs x0 0 (K0 (s63a3 rec n))) (loopN (fun kk => D63 rec n c63x7 (xs x0 0 (K0 (s63a3 rec n))) kk) m)).trans ?_
    rw [ih]
    exact (s63a5be rec n (s63a5l rec n m)).trans (by kernel_rfl)
theorem s63a5e : D63 rec n c63x6 (xs x0 0 (K0 (s63a3 rec n))) (K0 (s63a3 rec n)) = (K4 (s63a5 rec n) 0 1 12 13) :=
  (by kernel_rfl : D63 rec n c63x6 (xs x0 0 (K0 (s63a3 rec n))) (K0 (s63a3 rec n)) = loopN (fun kk => D63 rec n c63x7 (xs x0 0 (K0 (s63a3 rec n))) kk) n).trans ((s63a5le rec n n).trans (by kernel_rfl))
theorem s63a4e : D63 rec n c63x5 x0 (K0 (s63a3 rec n)) = (K4 (s63a4 rec n) 0 1 12 13) :=
  (by kernel_rfl : D63 rec n c63x5 x0 (K0 (s63a3 rec n)) = D63 rec n c63x6 (xs x0 0 (K0 (s63a3 rec n))) (K0 (s63a3 rec n))).trans
  ((s63a5e rec n).trans (by kernel_rfl))
theorem s63a2p1 : D63 rec n c63x2 x0 r63 = D63 rec n c63x4 x0 (K0 (s63a3 rec n)) :=
  congrArg (fun k => D63 rec n c63x4 x0 k) (s63a3e rec n)
theorem s63a2p2 : D63 rec n c63x4 x0 (K0 (s63a3 rec n)) = D63 rec n c63x8 x0 (K4 (s63a4 rec n) 0 1 12 13) :=
  congrArg (fun k => D63 rec n c63x8 x0 k) (s63a4e rec n)
theorem s63a2e : D63 rec n c63x2 x0 r63 = (K2 (s63a2 rec n) 0 1) :=
  (s63a2p1 rec n).trans
  ((s63a2p2 rec n).trans
  ((by kernel_rfl)))
theorem s63a1p3 : D63 rec n c63x1 x0 r63 = D63 rec n c63x9 x0 (K2 (s63a2 rec n) 0 1) :=
  congrArg (fun k => D63 rec n c63x9 x0 k) (s63a2e rec n)
theorem s63a1e : D63 rec n c63x1 x0 r63 = (K2 (s63a1 rec n) 0 1) :=
  (s63a1p3 rec n).trans
  ((by kernel_rfl))
theorem s63p4 : D63 rec n c63 x0 r63 = D63 rec n c63x10 x0 (K2 (s63a1 rec n) 0 1) :=
  congrArg (fun k => D63 rec n c63x10 x0 k) (s63a1e rec n)
theorem s63m : D63 rec n c63 x0 r63 = (K2 (s63 rec n) 0 1) :=
  (s63p4 rec n).trans
  ((by kernel_rfl))
theorem s63ok (args : List DV) (h : Hp) : bodyD CF rec n 63 args h = s63 rec n (args.getD 0 undefD) (args.getD 1 undefD) h :=
  (by kernel_rfl : bodyD CF rec n 63 args h = D63 rec n c63 x0 r63 (argsE args) h).trans ((congrFun (congrFun (s63m rec n) (argsE args)) h).trans (by kernel_rfl))
def s64a3 (rec : RT) (n : Nat) (h0 : Hp) : Res :=
 some ((.b true), h0)
def s64a5b (rec : RT) (n : Nat) (kk5 : TT5) (x1 x2 x15 x16 x17 : DV) (h0 : Hp) : Res :=
 bnd (pInt .lss x17 x16 h0) fun v1 h1 =>
 ifD v1 (
 bnd (pIndexAddr 6 x15 x17 h1) fun v2 h2 =>
 bnd (pLoadA 6 v2 h2) fun v3 h3 =>
 bnd (pNew [(.i .i64 (Int.ofNat 0)), (.s []), (.i .i64 (Int.ofNat 0)), .l0, .l0, .l0] h3) fun v4 h4 =>
 bnd (pStore 6 v4 v3 h4) fun _ h5 =>
 bnd (pIndexAddr 6 x1 x17 h5) fun v6 h6 =>
 bnd (pLoadA 6 v6 h6) fun v7 h7 =>
 bnd (pNew [(.i .i64 (Int.ofNat 0)), (.s []), (.i .i64 (Int.ofNat 0)), .l0, .l0, .l0] h7) fun v8 h8 =>
 bnd (pStore 6 v8 v7 h8) fun _ h9 =>
 bnd (pLoadA 6 v4 h9) fun v10 h10 =>
 bnd (pLoadA 6 v8 h10) fun v11 h11 =>
 bnd (pCall CF rec x2 [v10, v11] h11) fun v12 h12 =>
 bnd (pUn .not v12 h12) fun v13 h13 =>
 ifD v13 (
 some ((.b false), h13)) (
 bnd (pInt .add x17 (.i .i64 (Int.ofNat 1)) h13) fun v14 h14 =>
        kk5 x1 x2 x15 x16 v14 h14)) (
      s64a3 rec n h1)
def s64a5l (rec : RT) (n : Nat) (m : Nat) : TT5 :=
  Nat.rec (motive := fun _ => TT5) (fun _ _ _ _ _ _ => none) (fun _ ih => s64a5b rec n ih) m
def s64a5 (rec : RT) (n : Nat) : TT5 := s64a5l rec n n
def s64a4 (rec : RT) (n : Nat) (x1 x2 x15 x16 x17 : DV) (h0 : Hp) : Res :=
  s64a5 rec n x1 x2 x15 x16 x17 h0
def s64a2 (rec : RT) (n : Nat) (x0 x1 x2 : DV) (h0 : Hp) : Res :=
 bnd (pLen x0 h0) fun v1 h1 =>
  s64a4 rec n x1 x2 x0 v1 (.i .i64 (Int.ofNat 0)) h1
def s64a1 (rec : RT) (n : Nat) (x0 x1 x2 : DV) (h0 : Hp) : Res :=
 bnd (pLen x0 h0) fun v1 h1 =>
 bnd (pLen x1 h1) fun v2 h2 =>
 bnd (pInt .neq v1 v2 h2) fun v3 h3 =>
 ifD v3 (
 some ((.b false), h3)) (
    s64a2 rec n x0 x1 x2 h3)
/-- api.Node] -/
def s64 (rec : RT) (n : Nat) (x0 x1 x2 : DV) (h0 : Hp) : Res :=
  s64a1 rec n x0 x1 x2 h0
abbrev c64 : Code := cf Tryz.f64
abbrev c64x1 : Code := cR c64
abbrev c64x2 : Code := cR c64x1
abbrev c64x3 : Code := cR c64x2
abbrev c64x4 : Code := cL c64x2
abbrev c64x5 : Code := cR c64x4
abbrev c64x6 : Code := cL c64x5
abbrev c64x7 : Code := cL c64x6
abbrev c64x8 : Code := cL c64x4
abbrev c64x9 : Code := cL c64x1
abbrev c64x10 : Code := cL c64
abbrev r64 : K := retK CF Tryz.f64
def D64 (rec : RT) (n : Nat) (c : Code) (X : Nat → K) (k : K) : K := codeD CF rec 32 n c X r64 k
theorem s64a3e : D64 rec n c64x3 x0 r64 = (K0 (s64a3 rec n)) :=
  (by kernel_rfl)
theorem s64a5q1 (kk5 : TT5) (q0 : Hp → Res) : D64 rec n c64x7 (xs x0 0 (K0 q0)) (K5 kk5 1 2 15 16 17) = fun (env : Env) (h : Hp) =>
 bnd (pInt .lss (env 17) (env 16) h) fun v1 h1 =>
 ifD v1 (
 bnd (pIndexAddr 6 (env 15) (env 17) h1) fun v2 h2 =>
 bnd (pLoadA 6 v2 h2) fun v3 h3 =>
 bnd (pNew [(.i .i64 (Int.ofNat 0)), (.s []), (.i .i64 (Int.ofNat 0)), .l0, .l0, .l0] h3) fun v4 h4 =>
 bnd (pStore 6 v4 v3 h4) fun _ h5 =>
 bnd (pIndexAddr 6 (env 1) (env 17) h5) fun v6 h6 =>
 bnd (pLoadA 6 v6 h6) fun v7 h7 =>
 bnd (pNew [(.i .i64 (Int.ofNat 0)), (.s []), (.i .i64 (Int.ofNat 0)), .l0, .l0, .l0] h7) fun v8 h8 =>
 bnd (pStore 6 v8 v7 h8) fun _ h9 =>
 bnd (pLoadA 6 v4 h9) fun v10 h10 =>
 bnd (pLoadA 6 v8 h10) fun v11 h11 =>
 bnd (pCall CF rec (env 2) [v10, v11] h11) fun v12 h12 =>
 bnd (pUn .not v12 h12) fun v13 h13 =>
 ifD v13 (
 some ((.b false), h13)) (
 bnd (pInt .add (env 17) (.i .i64 (Int.ofNat 1)) h13) fun v14 h14 =>
        kk5 (env 1) (env 2) (env 15) (env 16) v14 h14)) (
      q0 h1) := by kernel_rfl
theorem s64a5q1u (kk5 : TT5) : (fun (env : Env) (h : Hp) =>
 bnd (pInt .lss (env 17) (env 16) h) fun v1 h1 =>
 ifD v1 (
 bnd (pIndexAddr 6 (env 15) (env 17) h1) fun v2 h2 =>
 bnd (pLoadA 6 v2 h2) fun v3 h3 =>
 bnd (pNew [(.i .i64 (Int.ofNat 0)), (.s []), (.i .i64 (Int.ofNat 0)), .l0, .l0, .l0] h3) fun v4 h4 =>
 bnd (pStore 6 v4 v3 h4) fun _ h5 =>
 bnd (pIndexAddr 6 (env 1) (env 17) h5) fun v6 h6 =>
 bnd (pLoadA 6 v6 h6) fun v7 h7 =>
 bnd (pNew [(.i .i64 (Int.ofNat 0)), (.s []), (.i .i64 (Int.ofNat 0)), .l0, .l0, .l0] h7) fun v8 h8 =>
 bnd (pStore 6 v8 v7 h8) fun _ h9 =>
 bnd (pLoadA 6 v4 h9) fun v10 h10 =>
 bnd (pLoadA 6 v8 h10) fun v11 h11 =>
 bnd (pCall CF rec (env 2) [v10, v11] h11) fun v12 h12 =>
 bnd (pUn .not v12 h12) fun v13 h13 =>
 ifD v13 (
 some ((.b false), h13)) (
 bnd (pInt .add (env 17) (.i .i64 (Int.ofNat 1)) h13) fun v14 h14 =>
        kk5 (env 1) (env 2) (env 15) (env 16) v14 h14)) (
      s64a3 rec n h1)) = (K5 (s64a5b rec n kk5) 1 2 15 16 17) := by kernel_rfl
theorem s64a5be (kk5 : TT5) : D64 rec n c64x7 (xs x0 0 (K0 (s64a3 rec n))) (K5 kk5 1 2 15 16 17) = (K5 (s64a5b rec n kk5) 1 2 15 16 17) :=
  (s64a5q1 rec n kk5 (s64a3 rec n)).trans (s64a5q1u rec n kk5)
theorem s64a5le (m : Nat) : loopN (fun kk => D64 rec n c64x7 (xs x0 0 (K0 (s64a3 rec n))) kk) m = (K5 (s64a5l rec n m) 1 2 15 16 17) := by
  induction m with
  | zero => exact (by kernel_rfl : loopN (fun kk => D64 rec n c64x7 (xs x0 0 (K0 (s64a3 rec n))) kk) 0 = (K5 (s64a5l rec n 0) 1 2 15 16 17))
  | succ m ih =>
    refine (by kernel_rfl : loopN (fun kk => D64 rec n c64x7 (xs x0 0 (K0 (s64a3 rec n))) kk) (m + 1) = D64 rec n c64x7 (xs x0 0 (K0 (s64a3 rec n))) (loopN (fun kk => D64 rec n c64x7 (xs x0 0 (K0 (s64a3 rec n))) kk) m)).trans ?_
    rw [ih]
    exact (s64a5be rec n (s64a5l rec n m)).trans (by kernel_rfl)
theorem s64a5e : D64 rec n c64x6 (xs x0 0 (K0 (s64a3 rec n))) (K0 (s64a3 rec n)) = (K5 (s64a5 rec n) 1 2 15 16 17) :=
  (by kernel_rfl : D64 rec n c64x6 (xs x0 0 (K0 (s64a3 rec n))) (K0 (s64a3 rec n)) = loopN (fun kk => D64 rec n c64x7 (xs x0 0 (K0 (s64a3 rec n))) kk) n).trans ((s64a5le rec n n).trans (by kernel_rfl))
theorem s64a4e : D64 rec n c64x5 x0 (K0 (s64a3 rec n)) = (K5 (s64a4 rec n) 1 2 15 16 17) :=
  (by kernel_rfl : D64 rec n c64x5 x0 (K0 (s64a3 rec n)) = D64 rec n c64x6 (xs x0 0 (K0 (s64a3 rec n))) (K0 (s64a3 rec n))).trans
  ((s64a5e rec n).trans (by kernel_rfl))
theorem s64a2p2 : D64 rec n c64x2 x0 r64 = D64 rec n c64x4 x0 (K0 (s64a3 rec n)) :=
  congrArg (fun k => D64 rec n c64x4 x0 k) (s64a3e rec n)
theorem s64a2p3 : D64 rec n c64x4 x0 (K0 (s64a3 rec n)) = D64 rec n c64x8 x0 (K5 (s64a4 rec n) 1 2 15 16 17) :=
  congrArg (fun k => D64 rec n c64x8 x0 k) (s64a4e rec n)
theorem s64a2e : D64 rec n c64x2 x0 r64 = (K3 (s64a2 rec n) 0 1 2) :=
  (s64a2p2 rec n).trans
  ((s64a2p3 rec n).trans
  ((by kernel_rfl)))
theorem s64a1p4 : D64 rec n c64x1 x0 r64 = D64 rec n c64x9 x0 (K3 (s64a2 rec n) 0 1 2) :=
  congrArg (fun k => D64 rec n c64x9 x0 k) (s64a2e rec n)
theorem s64a1e : D64 rec n c64x1 x0 r64 = (K3 (s64a1 rec n) 0 1 2) :=
  (s64a1p4 rec n).trans
  ((by kernel_rfl))
theorem s64p5 : D64 rec n c64 x0 r64 = D64 rec n c64x10 x0 (K3 (s64a1 rec n) 0 1 2) :=
  congrArg (fun k => D64 rec n c64x10 x0 k) (s64a1e rec n)
theorem s64m : D64 rec n c64 x0 r64 = (K3 (s64 rec n) 0 1 2) :=
  (s64p5 rec n).trans
  ((by kernel_rfl))
theorem s64ok (args : List DV) (h : Hp) : bodyD CF rec n 64 args h = s64 rec n (args.getD 0 undefD) (args.getD 1 undefD) (args.getD 2 undefD) h :=
  (by kernel_rfl : bodyD CF rec n 64 args h = D64 rec n c64 x0 r64 (argsE args) h).trans ((congrFun (congrFun (s64m rec n) (argsE args)) h).trans (by kernel_rfl))

end
end Go.Dd

/- Dd, part Q3 (printed by gen.py): functions of the seat's program as Lean functions, linked to Dd. -/
set_option linter.unusedVariables false
set_option maxRecDepth 100000
namespace Go.Dd
open Go.Proofs
noncomputable section

variable (rec : RT) (n : Nat)



end
end Go.Dd

/- Dd, part Q4 (printed by gen.py): functions of the seat's program as Lean functions, linked to Dd. -/
set_option linter.unusedVariables false
set_option maxRecDepth 100000
namespace Go.Dd
open Go.Proofs
noncomputable section

variable (rec : RT) (n : Nat)
def s74a3 (rec : RT) (n : Nat) (x0 x7 : DV) (h0 : Hp) : Res :=
 bnd (pNil x0 h0) fun v1 h1 =>
 bnd (pField 0 v1 h1) fun v2 h2 =>
 bnd (pLoad1 v2 h2) fun v3 h3 =>
 bnd (pNil x0 h3) fun v4 h4 =>
 bnd (pField 1 v4 h4) fun v5 h5 =>
 bnd (pLoad1 v5 h5) fun v6 h6 =>
 bnd (pSliceS v3 (some x7) (some v6) h6) fun v7 h7 =>
 some (v7, h7)
def s74a4b (rec : RT) (n : Nat) (kk4 : TT4) (x0 x1 x2 x7 : DV) (h0 : Hp) : Res :=
 bnd (pNil x0 h0) fun v1 h1 =>
 bnd (pField 1 v1 h1) fun v2 h2 =>
 bnd (pLoad1 v2 h2) fun v3 h3 =>
 bnd (pNil x0 h3) fun v4 h4 =>
 bnd (pField 0 v4 h4) fun v5 h5 =>
 bnd (pLoad1 v5 h5) fun v6 h6 =>
 bnd (pLenS v6 h6) fun v7 h7 =>
 bnd (pInt .lss v3 v7 h7) fun v8 h8 =>
 bnd (gD v8 true (some (x0, h8)) h8) fun v9 h9 =>
 bnd (gD v8 true (pNil v9 h9) h9) fun v10 h10 =>
 bnd (gD v8 true (pField 1 v10 h10) h10) fun v11 h11 =>
 bnd (gD v8 true (pLoad1 v11 h11) h11) fun v12 h12 =>
 bnd (gD v8 true (some (x7, h12)) h12) fun v13 h13 =>
 bnd (gD v8 true (pInt .sub v12 v13 h13) h13) fun v14 h14 =>
 bnd (gD v8 true (some (x2, h14)) h14) fun v15 h15 =>
 bnd (gD v8 true (pInt .lss v14 v15 h15) h15) fun v16 h16 =>
 bnd (pPick v8 v16 (.b false) h16) fun v17 h17 =>
 bnd (gD v17 true (some (x1, h17)) h17) fun v18 h18 =>
 bnd (gD v17 true (some (x0, h18)) h18) fun v19 h19 =>
 bnd (gD v17 true (pNil v19 h19) h19) fun v20 h20 =>
 bnd (gD v17 true (pField 0 v20 h20) h20) fun v21 h21 =>
 bnd (gD v17 true (pLoad1 v21 h21) h21) fun v22 h22 =>
 bnd (gD v17 true (some (x0, h22)) h22) fun v23 h23 =>
 bnd (gD v17 true (pNil v23 h23) h23) fun v24 h24 =>
 bnd (gD v17 true (pField 1 v24 h24) h24) fun v25 h25 =>
 bnd (gD v17 true (pLoad1 v25 h25) h25) fun v26 h26 =>
 bnd (gD v17 true (pIndexS v22 v26 h26) h26) fun v27 h27 =>
 bnd (gD v17 true (pCall CF rec v18 [v27] h27) h27) fun v28 h28 =>
 bnd (pPick v17 v28 (.b false) h28) fun v29 h29 =>
 ifD v29 (
 bnd (pNil x0 h29) fun v30 h30 =>
 bnd (pField 1 v30 h30) fun v31 h31 =>
 bnd (pLoad1 v31 h31) fun v32 h32 =>
 bnd (pInt .add v32 (.i .i64 (Int.ofNat 1)) h32) fun v33 h33 =>
 bnd (pNil x0 h33) fun v34 h34 =>
 bnd (pField 1 v34 h34) fun v35 h35 =>
 bnd (pStore 1 v35 v33 h35) fun _ h36 =>
      kk4 x0 x1 x2 x7 h36) (
      s74a3 rec n x0 x7 h29)
def s74a4l (rec : RT) (n : Nat) (m : Nat) : TT4 :=
  Nat.rec (motive := fun _ => TT4) (fun _ _ _ _ _ => none) (fun _ ih => s74a4b rec n ih) m
def s74a4 (rec : RT) (n : Nat) : TT4 := s74a4l rec n n
def s74a2 (rec : RT) (n : Nat) (x0 x1 x2 x7 : DV) (h0 : Hp) : Res :=
  s74a4 rec n x0 x1 x2 x7 h0
def s74a1 (rec : RT) (n : Nat) (x0 x1 x2 : DV) (h0 : Hp) : Res :=
 bnd (pNil x0 h0) fun v1 h1 =>
 bnd (pField 1 v1 h1) fun v2 h2 =>
 bnd (pLoad1 v2 h2) fun v3 h3 =>
  s74a2 rec n x0 x1 x2 v3 h3
/-- lex.reader).run -/
def s74 (rec : RT) (n : Nat) (x0 x1 x2 : DV) (h0 : Hp) : Res :=
  s74a1 rec n x0 x1 x2 h0
abbrev c74 : Code := cf Tryz.f74
abbrev c74x1 : Code := cR c74
abbrev c74x2 : Code := cR c74x1
abbrev c74x3 : Code := cR c74x2
abbrev c74x4 : Code := cL c74x2
abbrev c74x5 : Code := cL c74x4
abbrev c74x6 : Code := cL c74x5
abbrev c74x7 : Code := cL c74x1
abbrev c74x8 : Code := cL c74
abbrev r74 : K := retK CF Tryz.f74
def D74 (rec : RT) (n : Nat) (c : Code) (X : Nat → K) (k : K) : K := codeD CF rec 62 n c X r74 k
theorem s74a3e : D74 rec n c74x3 x0 r74 = (K2 (s74a3 rec n) 0 7) :=
  (by kernel_rfl)
theorem s74a4be (kk4 : TT4) : D74 rec n c74x6 (xs x0 0 (K2 (s74a3 rec n) 0 7)) (K4 kk4 0 1 2 7) = (K4 (s74a4b rec n kk4) 0 1 2 7) :=
  (by kernel_rfl)
theorem s74a4le (m : Nat) : loopN (fun kk => D74 rec n c74x6 (xs x0 0 (K2 (s74a3 rec n) 0 7)) kk) m = (K4 (s74a4l rec n m) 0 1 2 7) := by
  induction m with
  | zero => exact (by kernel_rfl : loopN (fun kk => D74 rec n c74x6 (xs x0 0 (K2 (s74a3 rec n) 0 7)) kk) 0 = (K4 (s74a4l rec n 0) 0 1 2 7))
  | succ m ih =>
    refine (by kernel_rfl : loopN (fun kk => D74 rec n c74x6 (xs x0 0 (K2 (s74a3 rec n) 0 7)) kk) (m + 1) = D74 rec n c74x6 (xs x0 0 (K2 (s74a3 rec n) 0 7)) (loopN (fun kk => D74 rec n c74x6 (xs x0 0 (K2 (s74a3 rec n) 0 7)) kk) m)).trans ?_
    rw [ih]
    exact (s74a4be rec n (s74a4l rec n m)).trans (by kernel_rfl)
theorem s74a4e : D74 rec n c74x5 (xs x0 0 (K2 (s74a3 rec n) 0 7)) (K2 (s74a3 rec n) 0 7) = (K4 (s74a4 rec n) 0 1 2 7) :=
  (by kernel_rfl : D74 rec n c74x5 (xs x0 0 (K2 (s74a3 rec n) 0 7)) (K2 (s74a3 rec n) 0 7) = loopN (fun kk => D74 rec n c74x6 (xs x0 0 (K2 (s74a3 rec n) 0 7)) kk) n).trans ((s74a4le rec n n).trans (by kernel_rfl))
theorem s74a2p1 : D74 rec n c74x2 x0 r74 = D74 rec n c74x4 x0 (K2 (s74a3 rec n) 0 7) :=
  congrArg (fun k => D74 rec n c74x4 x0 k) (s74a3e rec n)
theorem s74a2e : D74 rec n c74x2 x0 r74 = (K4 (s74a2 rec n) 0 1 2 7) :=
  (s74a2p1 rec n).trans
  ((by kernel_rfl : D74 rec n c74x4 x0 (K2 (s74a3 rec n) 0 7) = D74 rec n c74x5 (xs x0 0 (K2 (s74a3 rec n) 0 7)) (K2 (s74a3 rec n) 0 7)).trans
  ((s74a4e rec n).trans (by kernel_rfl)))
theorem s74a1p2 : D74 rec n c74x1 x0 r74 = D74 rec n c74x7 x0 (K4 (s74a2 rec n) 0 1 2 7) :=
  congrArg (fun k => D74 rec n c74x7 x0 k) (s74a2e rec n)
theorem s74a1e : D74 rec n c74x1 x0 r74 = (K3 (s74a1 rec n) 0 1 2) :=
  (s74a1p2 rec n).trans
  ((by kernel_rfl))
theorem s74p3 : D74 rec n c74 x0 r74 = D74 rec n c74x8 x0 (K3 (s74a1 rec n) 0 1 2) :=
  congrArg (fun k => D74 rec n c74x8 x0 k) (s74a1e rec n)
theorem s74m : D74 rec n c74 x0 r74 = (K3 (s74 rec n) 0 1 2) :=
  (s74p3 rec n).trans
  ((by kernel_rfl))
theorem s74ok (args : List DV) (h : Hp) : bodyD CF rec n 74 args h = s74 rec n (args.getD 0 undefD) (args.getD 1 undefD) (args.getD 2 undefD) h :=
  (by kernel_rfl : bodyD CF rec n 74 args h = D74 rec n c74 x0 r74 (argsE args) h).trans ((congrFun (congrFun (s74m rec n) (argsE args)) h).trans (by kernel_rfl))
/-- lex.in -/
def s75 (rec : RT) (n : Nat) (x0 : DV) (h0 : Hp) : Res :=
 bnd (pBox x0 h0) fun v1 h1 =>
 some ((.f 105 [] [v1]), h1)
abbrev c75 : Code := cf Tryz.f75
abbrev r75 : K := retK CF Tryz.f75
def D75 (rec : RT) (n : Nat) (c : Code) (X : Nat → K) (k : K) : K := codeD CF rec 4 n c X r75 k
theorem s75m : D75 rec n c75 x0 r75 = (K1 (s75 rec n) 0) :=
  (by kernel_rfl)
theorem s75ok (args : List DV) (h : Hp) : bodyD CF rec n 75 args h = s75 rec n (args.getD 0 undefD) h :=
  (by kernel_rfl : bodyD CF rec n 75 args h = D75 rec n c75 x0 r75 (argsE args) h).trans ((congrFun (congrFun (s75m rec n) (argsE args)) h).trans (by kernel_rfl))
def s76a5 (rec : RT) (n : Nat) (x2 x4 x5 : DV) (h0 : Hp) : Res :=
 bnd (pLoadA 4 x4 h0) fun v1 h1 =>
 bnd (pStore 4 x2 v1 h1) fun _ h2 =>
 bnd (pLoadA 4 x2 h2) fun v3 _ =>
 some (.t [v3, x5], h2)
def s76a4 (rec : RT) (n : Nat) (x0 x2 x4 x5 x6 : DV) (h0 : Hp) : Res :=
 bnd (rec 107 [x6] h0) fun v1 h1 =>
 ifD v1 (
 bnd (pField 0 x4 h1) fun v2 h2 =>
 bnd (pStore 1 v2 (.i .i64 (Int.ofNat 1)) h2) fun _ h3 =>
 bnd (rec 108 [x0] h3) fun v4 h4 =>
 bnd (pExtract 0 v4 h4) fun v5 h5 =>
 bnd (pExtract 1 v4 h5) fun v6 h6 =>
 bnd (pField 1 x4 h6) fun v7 h7 =>
 bnd (pStore 1 v7 v5 h7) fun _ h8 =>
 bnd (pInt .eql v6 (.i .i64 (Int.ofNat 0)) h8) fun v9 h9 =>
 bnd (gD v9 true (some (x0, h9)) h9) fun v10 h10 =>
 bnd (gD v9 true (rec 109 [v10] h10) h10) fun v11 h11 =>
 bnd (pPick v9 v11 (.b false) h11) fun v12 h12 =>
 ifD v12 (
 bnd (pField 1 x4 h12) fun v13 h13 =>
 bnd (pLoad1 v13 h13) fun v14 h14 =>
 bnd (pStr .add v14 (.s [58]) h14) fun v15 h15 =>
 bnd (pField 0 x4 h15) fun v16 h16 =>
 bnd (pStore 1 v16 (.i .i64 (Int.ofNat 2)) h16) fun _ h17 =>
 bnd (pField 1 x4 h17) fun v18 h18 =>
 bnd (pStore 1 v18 v15 h18) fun _ h19 =>
      s76a5 rec n x2 x4 v6 h19) (
      s76a5 rec n x2 x4 v6 h12)) (
 bnd (rec 110 [x6] h1) fun v20 h20 =>
 ifD v20 (
 bnd (pField 0 x4 h20) fun v21 h21 =>
 bnd (pStore 1 v21 (.i .i64 (Int.ofNat 4)) h21) fun _ h22 =>
 bnd (rec 111 [x0] h22) fun v23 h23 =>
 bnd (pExtract 0 v23 h23) fun v24 h24 =>
 bnd (pExtract 1 v23 h24) fun v25 h25 =>
 bnd (pField 2 x4 h25) fun v26 h26 =>
 bnd (pStore 1 v26 v24 h26) fun _ h27 =>
      s76a5 rec n x2 x4 v25 h27) (
 bnd (pInt .eql x6 (.i .u8 (Int.ofNat 39)) h20) fun v28 h28 =>
 ifD v28 (
 bnd (pNil x0 h28) fun v29 h29 =>
 bnd (pField 1 v29 h29) fun v30 h30 =>
 bnd (pLoad1 v30 h30) fun v31 h31 =>
 bnd (pInt .add v31 (.i .i64 (Int.ofNat 1)) h31) fun v32 h32 =>
 bnd (pNil x0 h32) fun v33 h33 =>
 bnd (pField 1 v33 h33) fun v34 h34 =>
 bnd (pStore 1 v34 v32 h34) fun _ h35 =>
 bnd (pField 0 x4 h35) fun v36 h36 =>
 bnd (pStore 1 v36 (.i .i64 (Int.ofNat 5)) h36) fun _ h37 =>
 bnd (rec 112 [x0] h37) fun v38 h38 =>
 bnd (pExtract 0 v38 h38) fun v39 h39 =>
 bnd (pExtract 1 v38 h39) fun v40 h40 =>
 bnd (pField 1 x4 h40) fun v41 h41 =>
 bnd (pStore 1 v41 v39 h41) fun _ h42 =>
        s76a5 rec n x2 x4 v40 h42) (
 bnd (pInt .eql x6 (.i .u8 (Int.ofNat 35)) h28) fun v43 h43 =>
 bnd (gD v43 true (some (x0, h43)) h43) fun v44 h44 =>
 bnd (gD v43 true (rec 106 [v44, (.i .i64 (Int.ofNat 1))] h44) h44) fun v45 h45 =>
 bnd (gD v43 true (pInt .eql v45 (.i .u8 (Int.ofNat 40)) h45) h45) fun v46 h46 =>
 bnd (pPick v43 v46 (.b false) h46) fun v47 h47 =>
 ifD v47 (
 bnd (pNil x0 h47) fun v48 h48 =>
 bnd (pField 1 v48 h48) fun v49 h49 =>
 bnd (pLoad1 v49 h49) fun v50 h50 =>
 bnd (pInt .add v50 (.i .i64 (Int.ofNat 2)) h50) fun v51 h51 =>
 bnd (pNil x0 h51) fun v52 h52 =>
 bnd (pField 1 v52 h52) fun v53 h53 =>
 bnd (pStore 1 v53 v51 h53) fun _ h54 =>
 bnd (pField 0 x4 h54) fun v55 h55 =>
 bnd (pStore 1 v55 (.i .i64 (Int.ofNat 7)) h55) fun _ h56 =>
          s76a5 rec n x2 x4 x5 h56) (
 bnd (pInt .eql x6 (.i .u8 (Int.ofNat 35)) h47) fun v57 h57 =>
 ifD v57 (
 bnd (pNil x0 h57) fun v58 h58 =>
 bnd (pField 1 v58 h58) fun v59 h59 =>
 bnd (pLoad1 v59 h59) fun v60 h60 =>
 bnd (pInt .add v60 (.i .i64 (Int.ofNat 1)) h60) fun v61 h61 =>
 bnd (pNil x0 h61) fun v62 h62 =>
 bnd (pField 1 v62 h62) fun v63 h63 =>
 bnd (pStore 1 v63 v61 h63) fun _ h64 =>
 bnd (pField 0 x4 h64) fun v65 h65 =>
 bnd (pStore 1 v65 (.i .i64 (Int.ofNat 6)) h65) fun _ h66 =>
 bnd (rec 113 [x0] h66) fun v67 h67 =>
 bnd (pExtract 0 v67 h67) fun v68 h68 =>
 bnd (pExtract 1 v67 h68) fun v69 h69 =>
 bnd (pField 1 x4 h69) fun v70 h70 =>
 bnd (pStore 1 v70 v68 h70) fun _ h71 =>
            s76a5 rec n x2 x4 v69 h71) (
 bnd (pInt .eql x6 (.i .u8 (Int.ofNat 58)) h57) fun v72 h72 =>
 bnd (gD v72 true (some (x0, h72)) h72) fun v73 h73 =>
 bnd (gD v72 true (rec 106 [v73, (.i .i64 (Int.ofNat 1))] h73) h73) fun v74 h74 =>
 bnd (gD v72 true (pInt .eql v74 (.i .u8 (Int.ofNat 61)) h74) h74) fun v75 h75 =>
 bnd (pPick v72 v75 (.b false) h75) fun v76 h76 =>
 ifD v76 (
 bnd (pNil x0 h76) fun v77 h77 =>
 bnd (pField 1 v77 h77) fun v78 h78 =>
 bnd (pLoad1 v78 h78) fun v79 h79 =>
 bnd (pInt .add v79 (.i .i64 (Int.ofNat 2)) h79) fun v80 h80 =>
 bnd (pNil x0 h80) fun v81 h81 =>
 bnd (pField 1 v81 h81) fun v82 h82 =>
 bnd (pStore 1 v82 v80 h82) fun _ h83 =>
 bnd (pField 0 x4 h83) fun v84 h84 =>
 bnd (pStore 1 v84 (.i .i64 (Int.ofNat 9)) h84) fun _ h85 =>
              s76a5 rec n x2 x4 x5 h85) (
 bnd (pInt .eql x6 (.i .u8 (Int.ofNat 58)) h76) fun v86 h86 =>
 bnd (gD v86 true (some (x0, h86)) h86) fun v87 h87 =>
 bnd (gD v86 true (rec 106 [v87, (.i .i64 (Int.ofNat 1))] h87) h87) fun v88 h88 =>
 bnd (gD v86 true (rec 107 [v88] h88) h88) fun v89 h89 =>
 bnd (pPick v86 v89 (.b false) h89) fun v90 h90 =>
 ifD v90 (
 bnd (pNil x0 h90) fun v91 h91 =>
 bnd (pField 1 v91 h91) fun v92 h92 =>
 bnd (pLoad1 v92 h92) fun v93 h93 =>
 bnd (pInt .add v93 (.i .i64 (Int.ofNat 1)) h93) fun v94 h94 =>
 bnd (pNil x0 h94) fun v95 h95 =>
 bnd (pField 1 v95 h95) fun v96 h96 =>
 bnd (pStore 1 v96 v94 h96) fun _ h97 =>
 bnd (pField 0 x4 h97) fun v98 h98 =>
 bnd (pStore 1 v98 (.i .i64 (Int.ofNat 8)) h98) fun _ h99 =>
 bnd (rec 108 [x0] h99) fun v100 h100 =>
 bnd (pExtract 0 v100 h100) fun v101 h101 =>
 bnd (pExtract 1 v100 h101) fun v102 h102 =>
 bnd (pField 1 x4 h102) fun v103 h103 =>
 bnd (pStore 1 v103 v101 h103) fun _ h104 =>
                s76a5 rec n x2 x4 v102 h104) (
 bnd (rec 75 [(.s [43, 45, 42, 47, 60, 62, 61, 126, 44, 64, 38, 37])] h90) fun v105 h105 =>
 bnd (pCall CF rec v105 [x6] h105) fun v106 h106 =>
 ifD v106 (
 bnd (rec 75 [(.s [43, 45, 42, 47, 60, 62, 61, 126, 44, 64, 38, 37])] h106) fun v107 h107 =>
 bnd (rec 74 [x0, v107, (.i .i64 (Int.ofNat 2))] h107) fun v108 h108 =>
 bnd (pField 0 x4 h108) fun v109 h109 =>
 bnd (pStore 1 v109 (.i .i64 (Int.ofNat 3)) h109) fun _ h110 =>
 bnd (pField 1 x4 h110) fun v111 h111 =>
 bnd (pStore 1 v111 v108 h111) fun _ h112 =>
                  s76a5 rec n x2 x4 x5 h112) (
 bnd (rec 75 [(.s [94, 46, 59, 40, 41, 91, 93, 124])] h106) fun v113 h113 =>
 bnd (pCall CF rec v113 [x6] h113) fun v114 h114 =>
 ifD v114 (
 bnd (rec 75 [(.s [94, 46, 59, 40, 41, 91, 93, 124])] h114) fun v115 h115 =>
 bnd (rec 74 [x0, v115, (.i .i64 (Int.ofNat 1))] h115) fun v116 h116 =>
 bnd (pField 0 x4 h116) fun v117 h117 =>
 bnd (pStore 1 v117 (.i .i64 (Int.ofNat 10)) h117) fun _ h118 =>
 bnd (pField 1 x4 h118) fun v119 h119 =>
 bnd (pStore 1 v119 v116 h119) fun _ h120 =>
                    s76a5 rec n x2 x4 x5 h120) (
                    s76a5 rec n x2 x4 (.i .i64 (Int.ofNat 10)) h114)))))))))
def s76a3 (rec : RT) (n : Nat) (x0 x2 x4 x5 : DV) (h0 : Hp) : Res :=
 bnd (rec 106 [x0, (.i .i64 (Int.ofNat 0))] h0) fun v1 h1 =>
  s76a4 rec n x0 x2 x4 x5 v1 h1
def s76a2 (rec : RT) (n : Nat) (x0 x2 x4 : DV) (h0 : Hp) : Res :=
  s76a3 rec n x0 x2 x4 (.i .i64 (Int.ofNat 0)) h0
def s76a1 (rec : RT) (n : Nat) (x0 x2 : DV) (h0 : Hp) : Res :=
 bnd (pNil x0 h0) fun v1 h1 =>
 bnd (pField 1 v1 h1) fun v2 h2 =>
 bnd (pLoad1 v2 h2) fun v3 h3 =>
 bnd (pBuild [(.i .i64 (Int.ofNat 0)), (.s []), (.i .i64 (Int.ofNat 0)), (.i .i64 (Int.ofNat 0))] [(3, 1, v3)] h3) fun v4 h4 =>
 bnd (pNew [(.i .i64 (Int.ofNat 0)), (.s []), (.i .i64 (Int.ofNat 0)), (.i .i64 (Int.ofNat 0))] h4) fun v5 h5 =>
 bnd (pStore 4 v5 v4 h5) fun _ h6 =>
  s76a2 rec n x0 x2 v5 h6
/-- lex.reader).token -/
def s76 (rec : RT) (n : Nat) (x0 : DV) (h0 : Hp) : Res :=
 bnd (pNew [(.i .i64 (Int.ofNat 0)), (.s []), (.i .i64 (Int.ofNat 0)), (.i .i64 (Int.ofNat 0))] h0) fun v1 h1 =>
  s76a1 rec n x0 v1 h1
abbrev c76 : Code := cf Tryz.f76
abbrev c76x1 : Code := cR c76
abbrev c76x2 : Code := cR c76x1
abbrev c76x3 : Code := cR c76x2
abbrev c76x4 : Code := cR c76x3
abbrev c76x5 : Code := cR c76x4
abbrev c76x6 : Code := cL c76x4
abbrev c76x7 : Code := cL c76x3
abbrev c76x8 : Code := cL c76x2
abbrev c76x9 : Code := cL c76x1
abbrev c76x10 : Code := cL c76
abbrev r76 : K := retK CF Tryz.f76
def D76 (rec : RT) (n : Nat) (c : Code) (X : Nat → K) (k : K) : K := codeD CF rec 153 n c X r76 k
theorem s76a5e : D76 rec n c76x5 x0 r76 = (K3 (s76a5 rec n) 2 4 5) :=
  (by kernel_rfl)
theorem s76a4p1 : D76 rec n c76x4 x0 r76 = D76 rec n c76x6 x0 (K3 (s76a5 rec n) 2 4 5) :=
  congrArg (fun k => D76 rec n c76x6 x0 k) (s76a5e rec n)
theorem s76a4e : D76 rec n c76x4 x0 r76 = (K5 (s76a4 rec n) 0 2 4 5 6) :=
  (s76a4p1 rec n).trans
  ((by kernel_rfl))
theorem s76a3p2 : D76 rec n c76x3 x0 r76 = D76 rec n c76x7 x0 (K5 (s76a4 rec n) 0 2 4 5 6) :=
  congrArg (fun k => D76 rec n c76x7 x0 k) (s76a4e rec n)
theorem s76a3e : D76 rec n c76x3 x0 r76 = (K4 (s76a3 rec n) 0 2 4 5) :=
  (s76a3p2 rec n).trans
  ((by kernel_rfl))
theorem s76a2p3 : D76 rec n c76x2 x0 r76 = D76 rec n c76x8 x0 (K4 (s76a3 rec n) 0 2 4 5) :=
  congrArg (fun k => D76 rec n c76x8 x0 k) (s76a3e rec n)
theorem s76a2e : D76 rec n c76x2 x0 r76 = (K3 (s76a2 rec n) 0 2 4) :=
  (s76a2p3 rec n).trans
  ((by kernel_rfl))
theorem s76a1p4 : D76 rec n c76x1 x0 r76 = D76 rec n c76x9 x0 (K3 (s76a2 rec n) 0 2 4) :=
  congrArg (fun k => D76 rec n c76x9 x0 k) (s76a2e rec n)
theorem s76a1q5 (q0 : TT3) : D76 rec n c76x9 x0 (K3 q0 0 2 4) = fun (env : Env) (h : Hp) =>
 bnd (pNil (env 0) h) fun v1 h1 =>
 bnd (pField 1 v1 h1) fun v2 h2 =>
 bnd (pLoad1 v2 h2) fun v3 h3 =>
 bnd (pBuild [(.i .i64 (Int.ofNat 0)), (.s []), (.i .i64 (Int.ofNat 0)), (.i .i64 (Int.ofNat 0))] [(3, 1, v3)] h3) fun v4 h4 =>
 bnd (pNew [(.i .i64 (Int.ofNat 0)), (.s []), (.i .i64 (Int.ofNat 0)), (.i .i64 (Int.ofNat 0))] h4) fun v5 h5 =>
 bnd (pStore 4 v5 v4 h5) fun _ h6 =>
    q0 (env 0) (env 2) v5 h6 := by kernel_rfl
theorem s76a1q5u : (fun (env : Env) (h : Hp) =>
 bnd (pNil (env 0) h) fun v1 h1 =>
 bnd (pField 1 v1 h1) fun v2 h2 =>
 bnd (pLoad1 v2 h2) fun v3 h3 =>
 bnd (pBuild [(.i .i64 (Int.ofNat 0)), (.s []), (.i .i64 (Int.ofNat 0)), (.i .i64 (Int.ofNat 0))] [(3, 1, v3)] h3) fun v4 h4 =>
 bnd (pNew [(.i .i64 (Int.ofNat 0)), (.s []), (.i .i64 (Int.ofNat 0)), (.i .i64 (Int.ofNat 0))] h4) fun v5 h5 =>
 bnd (pStore 4 v5 v4 h5) fun _ h6 =>
    s76a2 rec n (env 0) (env 2) v5 h6) = (K2 (s76a1 rec n) 0 2) := by kernel_rfl
theorem s76a1e : D76 rec n c76x1 x0 r76 = (K2 (s76a1 rec n) 0 2) :=
  (s76a1p4 rec n).trans
  ((s76a1q5 rec n (s76a2 rec n)).trans (s76a1q5u rec n))
theorem s76p6 : D76 rec n c76 x0 r76 = D76 rec n c76x10 x0 (K2 (s76a1 rec n) 0 2) :=
  congrArg (fun k => D76 rec n c76x10 x0 k) (s76a1e rec n)
theorem s76q7 (q0 : TT2) : D76 rec n c76x10 x0 (K2 q0 0 2) = fun (env : Env) (h : Hp) =>
 bnd (pNew [(.i .i64 (Int.ofNat 0)), (.s []), (.i .i64 (Int.ofNat 0)), (.i .i64 (Int.ofNat 0))] h) fun v1 h1 =>
    q0 (env 0) v1 h1 := by kernel_rfl
theorem s76q7u : (fun (env : Env) (h : Hp) =>
 bnd (pNew [(.i .i64 (Int.ofNat 0)), (.s []), (.i .i64 (Int.ofNat 0)), (.i .i64 (Int.ofNat 0))] h) fun v1 h1 =>
    s76a1 rec n (env 0) v1 h1) = (K1 (s76 rec n) 0) := by kernel_rfl
theorem s76m : D76 rec n c76 x0 r76 = (K1 (s76 rec n) 0) :=
  (s76p6 rec n).trans
  ((s76q7 rec n (s76a1 rec n)).trans (s76q7u rec n))
theorem s76ok (args : List DV) (h : Hp) : bodyD CF rec n 76 args h = s76 rec n (args.getD 0 undefD) h :=
  (by kernel_rfl : bodyD CF rec n 76 args h = D76 rec n c76 x0 r76 (argsE args) h).trans ((congrFun (congrFun (s76m rec n) (argsE args)) h).trans (by kernel_rfl))
/-- parse.parser).is -/
def s77 (rec : RT) (n : Nat) (x0 x1 x2 : DV) (h0 : Hp) : Res :=
 bnd (rec 81 [x0, (.i .i64 (Int.ofNat 0))] h0) fun v1 h1 =>
 bnd (pNew [(.i .i64 (Int.ofNat 0)), (.s []), (.i .i64 (Int.ofNat 0)), (.i .i64 (Int.ofNat 0))] h1) fun v2 h2 =>
 bnd (pStore 4 v2 v1 h2) fun _ h3 =>
 bnd (pNil x0 h3) fun v4 h4 =>
 bnd (pField 3 v4 h4) fun v5 h5 =>
 bnd (pLoad1 v5 h5) fun v6 h6 =>
 bnd (pInt .eql v6 (.i .i64 (Int.ofNat 0)) h6) fun v7 h7 =>
 bnd (gD v7 true (pField 0 v2 h7) h7) fun v8 h8 =>
 bnd (gD v7 true (pLoad1 v8 h8) h8) fun v9 h9 =>
 bnd (gD v7 true (some (x1, h9)) h9) fun v10 h10 =>
 bnd (gD v7 true (pInt .eql v9 v10 h10) h10) fun v11 h11 =>
 bnd (pPick v7 v11 (.b false) h11) fun v12 h12 =>
 bnd (gD v12 true (some (x2, h12)) h12) fun v13 h13 =>
 bnd (gD v12 true (pStr .eql v13 (.s []) h13) h13) fun v14 h14 =>
 bnd (gD v12 true (some (v14, h14)) h14) fun v15 h15 =>
 bnd (gD v15 false (pField 1 v2 h15) h15) fun v16 h16 =>
 bnd (gD v15 false (pLoad1 v16 h16) h16) fun v17 h17 =>
 bnd (gD v15 false (some (x2, h17)) h17) fun v18 h18 =>
 bnd (gD v15 false (pStr .eql v17 v18 h18) h18) fun v19 h19 =>
 bnd (gD v12 true (pPick v15 (.b true) v19 h19) h19) fun v20 h20 =>
 bnd (pPick v12 v20 (.b false) h20) fun v21 h21 =>
 some (v21, h21)
abbrev c77 : Code := cf Tryz.f77
abbrev r77 : K := retK CF Tryz.f77
def D77 (rec : RT) (n : Nat) (c : Code) (X : Nat → K) (k : K) : K := codeD CF rec 31 n c X r77 k
theorem s77m : D77 rec n c77 x0 r77 = (K3 (s77 rec n) 0 1 2) :=
  (by kernel_rfl)
theorem s77ok (args : List DV) (h : Hp) : bodyD CF rec n 77 args h = s77 rec n (args.getD 0 undefD) (args.getD 1 undefD) (args.getD 2 undefD) h :=
  (by kernel_rfl : bodyD CF rec n 77 args h = D77 rec n c77 x0 r77 (argsE args) h).trans ((congrFun (congrFun (s77m rec n) (argsE args)) h).trans (by kernel_rfl))
def s78a3 (rec : RT) (n : Nat) (x2 x3 : DV) (h0 : Hp) : Res :=
 bnd (pLoadA 4 x3 h0) fun v1 h1 =>
 bnd (pStore 4 x2 v1 h1) fun _ h2 =>
 bnd (pLoadA 4 x2 h2) fun v3 _ =>
 some (v3, h2)
def s78a2 (rec : RT) (n : Nat) (x0 x2 x3 : DV) (h0 : Hp) : Res :=
 bnd (pField 0 x3 h0) fun v1 h1 =>
 bnd (pLoad1 v1 h1) fun v2 h2 =>
 bnd (pInt .neq v2 (.i .i64 (Int.ofNat 0)) h2) fun v3 h3 =>
 ifD v3 (
 bnd (pNil x0 h3) fun v4 h4 =>
 bnd (pField 0 v4 h4) fun v5 h5 =>
 bnd (pLoad1 v5 h5) fun v6 h6 =>
 bnd (pSlice 4 v6 (some (.i .i64 (Int.ofNat 1))) none h6) fun v7 h7 =>
 bnd (pNil x0 h7) fun v8 h8 =>
 bnd (pField 0 v8 h8) fun v9 h9 =>
 bnd (pStore 1 v9 v7 h9) fun _ h10 =>
    s78a3 rec n x2 x3 h10) (
    s78a3 rec n x2 x3 h3)
def s78a1 (rec : RT) (n : Nat) (x0 x2 : DV) (h0 : Hp) : Res :=
 bnd (rec 81 [x0, (.i .i64 (Int.ofNat 0))] h0) fun v1 h1 =>
 bnd (pNew [(.i .i64 (Int.ofNat 0)), (.s []), (.i .i64 (Int.ofNat 0)), (.i .i64 (Int.ofNat 0))] h1) fun v2 h2 =>
 bnd (pStore 4 v2 v1 h2) fun _ h3 =>
  s78a2 rec n x0 x2 v2 h3
/-- parse.parser).take -/
def s78 (rec : RT) (n : Nat) (x0 : DV) (h0 : Hp) : Res :=
 bnd (pNew [(.i .i64 (Int.ofNat 0)), (.s []), (.i .i64 (Int.ofNat 0)), (.i .i64 (Int.ofNat 0))] h0) fun v1 h1 =>
  s78a1 rec n x0 v1 h1
abbrev c78 : Code := cf Tryz.f78
abbrev c78x1 : Code := cR c78
abbrev c78x2 : Code := cR c78x1
abbrev c78x3 : Code := cR c78x2
abbrev c78x4 : Code := cL c78x2
abbrev c78x5 : Code := cL c78x1
abbrev c78x6 : Code := cL c78
abbrev r78 : K := retK CF Tryz.f78
def D78 (rec : RT) (n : Nat) (c : Code) (X : Nat → K) (k : K) : K := codeD CF rec 18 n c X r78 k
theorem s78a3e : D78 rec n c78x3 x0 r78 = (K2 (s78a3 rec n) 2 3) :=
  (by kernel_rfl)
theorem s78a2p1 : D78 rec n c78x2 x0 r78 = D78 rec n c78x4 x0 (K2 (s78a3 rec n) 2 3) :=
  congrArg (fun k => D78 rec n c78x4 x0 k) (s78a3e rec n)
theorem s78a2e : D78 rec n c78x2 x0 r78 = (K3 (s78a2 rec n) 0 2 3) :=
  (s78a2p1 rec n).trans
  ((by kernel_rfl))
theorem s78a1p2 : D78 rec n c78x1 x0 r78 = D78 rec n c78x5 x0 (K3 (s78a2 rec n) 0 2 3) :=
  congrArg (fun k => D78 rec n c78x5 x0 k) (s78a2e rec n)
theorem s78a1q3 (q0 : TT3) : D78 rec n c78x5 x0 (K3 q0 0 2 3) = fun (env : Env) (h : Hp) =>
 bnd (rec 81 [(env 0), (.i .i64 (Int.ofNat 0))] h) fun v1 h1 =>
 bnd (pNew [(.i .i64 (Int.ofNat 0)), (.s []), (.i .i64 (Int.ofNat 0)), (.i .i64 (Int.ofNat 0))] h1) fun v2 h2 =>
 bnd (pStore 4 v2 v1 h2) fun _ h3 =>
    q0 (env 0) (env 2) v2 h3 := by kernel_rfl
theorem s78a1q3u : (fun (env : Env) (h : Hp) =>
 bnd (rec 81 [(env 0), (.i .i64 (Int.ofNat 0))] h) fun v1 h1 =>
 bnd (pNew [(.i .i64 (Int.ofNat 0)), (.s []), (.i .i64 (Int.ofNat 0)), (.i .i64 (Int.ofNat 0))] h1) fun v2 h2 =>
 bnd (pStore 4 v2 v1 h2) fun _ h3 =>
    s78a2 rec n (env 0) (env 2) v2 h3) = (K2 (s78a1 rec n) 0 2) := by kernel_rfl
theorem s78a1e : D78 rec n c78x1 x0 r78 = (K2 (s78a1 rec n) 0 2) :=
  (s78a1p2 rec n).trans
  ((s78a1q3 rec n (s78a2 rec n)).trans (s78a1q3u rec n))
theorem s78p4 : D78 rec n c78 x0 r78 = D78 rec n c78x6 x0 (K2 (s78a1 rec n) 0 2) :=
  congrArg (fun k => D78 rec n c78x6 x0 k) (s78a1e rec n)
theorem s78q5 (q0 : TT2) : D78 rec n c78x6 x0 (K2 q0 0 2) = fun (env : Env) (h : Hp) =>
 bnd (pNew [(.i .i64 (Int.ofNat 0)), (.s []), (.i .i64 (Int.ofNat 0)), (.i .i64 (Int.ofNat 0))] h) fun v1 h1 =>
    q0 (env 0) v1 h1 := by kernel_rfl
theorem s78q5u : (fun (env : Env) (h : Hp) =>
 bnd (pNew [(.i .i64 (Int.ofNat 0)), (.s []), (.i .i64 (Int.ofNat 0)), (.i .i64 (Int.ofNat 0))] h) fun v1 h1 =>
    s78a1 rec n (env 0) v1 h1) = (K1 (s78 rec n) 0) := by kernel_rfl
theorem s78m : D78 rec n c78 x0 r78 = (K1 (s78 rec n) 0) :=
  (s78p4 rec n).trans
  ((s78q5 rec n (s78a1 rec n)).trans (s78q5u rec n))
theorem s78ok (args : List DV) (h : Hp) : bodyD CF rec n 78 args h = s78 rec n (args.getD 0 undefD) h :=
  (by kernel_rfl : bodyD CF rec n 78 args h = D78 rec n c78 x0 r78 (argsE args) h).trans ((congrFun (congrFun (s78m rec n) (argsE args)) h).trans (by kernel_rfl))
/-- parse.parser).expression -/
def s79 (rec : RT) (n : Nat) (x0 : DV) (h0 : Hp) : Res :=
 bnd (pNew [(.i .i64 (Int.ofNat 0)), (.s []), (.i .i64 (Int.ofNat 0)), .l0, .l0, .l0] h0) fun v1 h1 =>
 bnd (rec 77 [x0, (.i .i64 (Int.ofNat 1)), (.s [])] h1) fun v2 h2 =>
 bnd (gD v2 true (some (x0, h2)) h2) fun v3 h3 =>
 bnd (gD v2 true (rec 81 [v3, (.i .i64 (Int.ofNat 1))] h3) h3) fun v4 h4 =>
 bnd (gD v2 true (pPart1 0 v4 h4) h4) fun v5 h5 =>
 bnd (gD v2 true (pInt .eql v5 (.i .i64 (Int.ofNat 9)) h5) h5) fun v6 h6 =>
 bnd (pPick v2 v6 (.b false) h6) fun v7 h7 =>
 ifD v7 (
 bnd (rec 78 [x0] h7) fun v8 h8 =>
 bnd (pPart1 1 v8 h8) fun v9 h9 =>
 bnd (pBuild [(.i .i64 (Int.ofNat 0)), (.s []), (.i .i64 (Int.ofNat 0)), .l0, .l0, .l0] [(0, 1, (.i .i64 (Int.ofNat 6))), (1, 1, v9)] h9) fun v10 h10 =>
 bnd (pNew [(.i .i64 (Int.ofNat 0)), (.s []), (.i .i64 (Int.ofNat 0)), .l0, .l0, .l0] h10) fun v11 h11 =>
 bnd (pStore 6 v11 v10 h11) fun _ h12 =>
 bnd (rec 78 [x0] h12) fun v13 h13 =>
 bnd (rec 79 [x0] h13) fun v14 h14 =>
 bnd (pBuildSlice [(.i .i64 (Int.ofNat 0)), (.s []), (.i .i64 (Int.ofNat 0)), .l0, .l0, .l0] 1 [(0, 6, v14)] h14) fun v15 h15 =>
 bnd (pField 5 v11 h15) fun v16 h16 =>
 bnd (pStore 1 v16 v15 h16) fun _ h17 =>
 bnd (pLoadA 6 v11 h17) fun v18 h18 =>
 bnd (pStore 6 v1 v18 h18) fun _ h19 =>
 bnd (pLoadA 6 v1 h19) fun v20 _ =>
 some (v20, h19)) (
 bnd (rec 114 [x0] h7) fun v21 h21 =>
 bnd (pStore 6 v1 v21 h21) fun _ h22 =>
 bnd (pLoadA 6 v1 h22) fun v23 _ =>
 some (v23, h22))
abbrev c79 : Code := cf Tryz.f79
abbrev r79 : K := retK CF Tryz.f79
def D79 (rec : RT) (n : Nat) (c : Code) (X : Nat → K) (k : K) : K := codeD CF rec 25 n c X r79 k
theorem s79m : D79 rec n c79 x0 r79 = (K1 (s79 rec n) 0) :=
  (by kernel_rfl)
theorem s79ok (args : List DV) (h : Hp) : bodyD CF rec n 79 args h = s79 rec n (args.getD 0 undefD) h :=
  (by kernel_rfl : bodyD CF rec n 79 args h = D79 rec n c79 x0 r79 (argsE args) h).trans ((congrFun (congrFun (s79m rec n) (argsE args)) h).trans (by kernel_rfl))
/-- parse.parser).fail -/
def s80 (rec : RT) (n : Nat) (x0 x1 x2 : DV) (h0 : Hp) : Res :=
 bnd (pBox x1 h0) fun v1 h1 =>
 bnd (pNil x0 h1) fun v2 h2 =>
 bnd (pField 3 v2 h2) fun v3 h3 =>
 bnd (pLoad1 v3 h3) fun v4 h4 =>
 bnd (pInt .eql v4 (.i .i64 (Int.ofNat 0)) h4) fun v5 h5 =>
 ifD v5 (
 bnd (pField 3 v1 h5) fun v6 h6 =>
 bnd (pLoad1 v6 h6) fun v7 h7 =>
 bnd (pNil x0 h7) fun v8 h8 =>
 bnd (pField 2 v8 h8) fun v9 h9 =>
 bnd (pStore 1 v9 v7 h9) fun _ h10 =>
 bnd (pNil x0 h10) fun v11 h11 =>
 bnd (pField 3 v11 h11) fun v12 h12 =>
 bnd (pStore 1 v12 x2 h12) fun _ h13 =>
 some (.t [], h13)) (
 some (.t [], h5))
abbrev c80 : Code := cf Tryz.f80
abbrev r80 : K := retK CF Tryz.f80
def D80 (rec : RT) (n : Nat) (c : Code) (X : Nat → K) (k : K) : K := codeD CF rec 20 n c X r80 k
theorem s80m : D80 rec n c80 x0 r80 = (K3 (s80 rec n) 0 1 2) :=
  (by kernel_rfl)
theorem s80ok (args : List DV) (h : Hp) : bodyD CF rec n 80 args h = s80 rec n (args.getD 0 undefD) (args.getD 1 undefD) (args.getD 2 undefD) h :=
  (by kernel_rfl : bodyD CF rec n 80 args h = D80 rec n c80 x0 r80 (argsE args) h).trans ((congrFun (congrFun (s80m rec n) (argsE args)) h).trans (by kernel_rfl))
/-- parse.parser).look -/
def s81 (rec : RT) (n : Nat) (x0 x1 : DV) (h0 : Hp) : Res :=
 bnd (pNew [(.i .i64 (Int.ofNat 0)), (.s []), (.i .i64 (Int.ofNat 0)), (.i .i64 (Int.ofNat 0))] h0) fun v1 h1 =>
 bnd (pNil x0 h1) fun v2 h2 =>
 bnd (pField 0 v2 h2) fun v3 h3 =>
 bnd (pLoad1 v3 h3) fun v4 h4 =>
 bnd (pNil x0 h4) fun v5 h5 =>
 bnd (pField 0 v5 h5) fun v6 h6 =>
 bnd (pLoad1 v6 h6) fun v7 h7 =>
 bnd (pLen v7 h7) fun v8 h8 =>
 bnd (pInt .sub v8 (.i .i64 (Int.ofNat 1)) h8) fun v9 h9 =>
 bnd (pMin x1 v9 h9) fun v10 h10 =>
 bnd (pIndexAddr 4 v4 v10 h10) fun v11 h11 =>
 bnd (pLoadA 4 v11 h11) fun v12 h12 =>
 bnd (pStore 4 v1 v12 h12) fun v13 h13 =>
 bnd (pLoadA 4 v1 h13) fun v14 _ =>
 some (v14, h13)
abbrev c81 : Code := cf Tryz.f81
abbrev r81 : K := retK CF Tryz.f81
def D81 (rec : RT) (n : Nat) (c : Code) (X : Nat → K) (k : K) : K := codeD CF rec 19 n c X r81 k
theorem s81m : D81 rec n c81 x0 r81 = (K2 (s81 rec n) 0 1) :=
  (by kernel_rfl)
theorem s81ok (args : List DV) (h : Hp) : bodyD CF rec n 81 args h = s81 rec n (args.getD 0 undefD) (args.getD 1 undefD) h :=
  (by kernel_rfl : bodyD CF rec n 81 args h = D81 rec n c81 x0 r81 (argsE args) h).trans ((congrFun (congrFun (s81m rec n) (argsE args)) h).trans (by kernel_rfl))
def s82a3 (rec : RT) (n : Nat) (x7 : DV) (h0 : Hp) : Res :=
 bnd (pField 1 x7 h0) fun v1 h1 =>
 bnd (pLoad1 v1 h1) fun v2 h2 =>
 some (v2, h2)
def s82a2 (rec : RT) (n : Nat) (x0 x2 x7 : DV) (h0 : Hp) : Res :=
 bnd (pLen x2 h0) fun v1 h1 =>
 bnd (pInt .eql v1 (.i .i64 (Int.ofNat 4)) h1) fun v2 h2 =>
 ifD v2 (
 bnd (pLoadA 4 x7 h2) fun v3 h3 =>
 bnd (rec 80 [x0, v3, (.i .i64 (Int.ofNat 18))] h3) fun v4 h4 =>
    s82a3 rec n x7 h4) (
    s82a3 rec n x7 h2)
def s82a1 (rec : RT) (n : Nat) (x0 x1 x2 : DV) (h0 : Hp) : Res :=
 bnd (rec 51 [x0, x1, (.s [])] h0) fun v1 h1 =>
 bnd (pNew [(.i .i64 (Int.ofNat 0)), (.s []), (.i .i64 (Int.ofNat 0)), (.i .i64 (Int.ofNat 0))] h1) fun v2 h2 =>
 bnd (pStore 4 v2 v1 h2) fun _ h3 =>
  s82a2 rec n x0 x2 v2 h3
/-- parse.parser).name -/
def s82 (rec : RT) (n : Nat) (x0 x1 x2 : DV) (h0 : Hp) : Res :=
  s82a1 rec n x0 x1 x2 h0
abbrev c82 : Code := cf Tryz.f82
abbrev c82x1 : Code := cR c82
abbrev c82x2 : Code := cR c82x1
abbrev c82x3 : Code := cR c82x2
abbrev c82x4 : Code := cL c82x2
abbrev c82x5 : Code := cL c82x1
abbrev c82x6 : Code := cL c82
abbrev r82 : K := retK CF Tryz.f82
def D82 (rec : RT) (n : Nat) (c : Code) (X : Nat → K) (k : K) : K := codeD CF rec 19 n c X r82 k
theorem s82a3e : D82 rec n c82x3 x0 r82 = (K1 (s82a3 rec n) 7) :=
  (by kernel_rfl)
theorem s82a2p1 : D82 rec n c82x2 x0 r82 = D82 rec n c82x4 x0 (K1 (s82a3 rec n) 7) :=
  congrArg (fun k => D82 rec n c82x4 x0 k) (s82a3e rec n)
theorem s82a2e : D82 rec n c82x2 x0 r82 = (K3 (s82a2 rec n) 0 2 7) :=
  (s82a2p1 rec n).trans
  ((by kernel_rfl))
theorem s82a1p2 : D82 rec n c82x1 x0 r82 = D82 rec n c82x5 x0 (K3 (s82a2 rec n) 0 2 7) :=
  congrArg (fun k => D82 rec n c82x5 x0 k) (s82a2e rec n)
theorem s82a1q3 (q0 : TT3) : D82 rec n c82x5 x0 (K3 q0 0 2 7) = fun (env : Env) (h : Hp) =>
 bnd (rec 51 [(env 0), (env 1), (.s [])] h) fun v1 h1 =>
 bnd (pNew [(.i .i64 (Int.ofNat 0)), (.s []), (.i .i64 (Int.ofNat 0)), (.i .i64 (Int.ofNat 0))] h1) fun v2 h2 =>
 bnd (pStore 4 v2 v1 h2) fun _ h3 =>
    q0 (env 0) (env 2) v2 h3 := by kernel_rfl
theorem s82a1q3u : (fun (env : Env) (h : Hp) =>
 bnd (rec 51 [(env 0), (env 1), (.s [])] h) fun v1 h1 =>
 bnd (pNew [(.i .i64 (Int.ofNat 0)), (.s []), (.i .i64 (Int.ofNat 0)), (.i .i64 (Int.ofNat 0))] h1) fun v2 h2 =>
 bnd (pStore 4 v2 v1 h2) fun _ h3 =>
    s82a2 rec n (env 0) (env 2) v2 h3) = (K3 (s82a1 rec n) 0 1 2) := by kernel_rfl
theorem s82a1e : D82 rec n c82x1 x0 r82 = (K3 (s82a1 rec n) 0 1 2) :=
  (s82a1p2 rec n).trans
  ((s82a1q3 rec n (s82a2 rec n)).trans (s82a1q3u rec n))
theorem s82p4 : D82 rec n c82 x0 r82 = D82 rec n c82x6 x0 (K3 (s82a1 rec n) 0 1 2) :=
  congrArg (fun k => D82 rec n c82x6 x0 k) (s82a1e rec n)
theorem s82m : D82 rec n c82 x0 r82 = (K3 (s82 rec n) 0 1 2) :=
  (s82p4 rec n).trans
  ((by kernel_rfl))
theorem s82ok (args : List DV) (h : Hp) : bodyD CF rec n 82 args h = s82 rec n (args.getD 0 undefD) (args.getD 1 undefD) (args.getD 2 undefD) h :=
  (by kernel_rfl : bodyD CF rec n 82 args h = D82 rec n c82 x0 r82 (argsE args) h).trans ((congrFun (congrFun (s82m rec n) (argsE args)) h).trans (by kernel_rfl))
/-- stringslite.IndexByte -/
def s85 (rec : RT) (n : Nat) (x0 x1 : DV) (h0 : Hp) : Res :=
 bnd (idxF [x0, x1] h0) fun v1 h1 =>
 some (v1, h1)
abbrev c85 : Code := cf Tryz.f85
abbrev r85 : K := retK CF Tryz.f85
def D85 (rec : RT) (n : Nat) (c : Code) (X : Nat → K) (k : K) : K := codeD CF rec 8 n c X r85 k
theorem s85m : D85 rec n c85 x0 r85 = (K2 (s85 rec n) 0 1) :=
  (by kernel_rfl)
theorem s85ok (args : List DV) (h : Hp) : bodyD CF rec n 85 args h = s85 rec n (args.getD 0 undefD) (args.getD 1 undefD) h :=
  (by kernel_rfl : bodyD CF rec n 85 args h = D85 rec n c85 x0 r85 (argsE args) h).trans ((congrFun (congrFun (s85m rec n) (argsE args)) h).trans (by kernel_rfl))
/-- show.within -/
def s89 (rec : RT) (n : Nat) (x0 x1 x2 : DV) (h0 : Hp) : Res :=
 bnd (pLen x0 h0) fun v1 h1 =>
 bnd (pInt .geq x1 v1 h1) fun v2 h2 =>
 ifD v2 (
 some ((.s []), h2)) (
 bnd (pIndexAddr 6 x0 x1 h2) fun v3 h3 =>
 bnd (pLoadA 6 v3 h3) fun v4 h4 =>
 bnd (rec 126 [v4] h4) fun v5 h5 =>
 bnd (pInt .gtr v5 x2 h5) fun v6 h6 =>
 ifD v6 (
 bnd (pIndexAddr 6 x0 x1 h6) fun v7 h7 =>
 bnd (pLoadA 6 v7 h7) fun v8 h8 =>
 bnd (rec 36 [v8] h8) fun v9 h9 =>
 bnd (pBuildSlice [(.s []), (.s []), (.s [])] 3 [(0, 1, (.s [40])), (1, 1, v9), (2, 1, (.s [41]))] h9) fun v10 h10 =>
 bnd (rec 19 [v10] h10) fun v11 h11 =>
 some (v11, h11)) (
 bnd (pIndexAddr 6 x0 x1 h6) fun v12 h12 =>
 bnd (pLoadA 6 v12 h12) fun v13 h13 =>
 bnd (rec 36 [v13] h13) fun v14 h14 =>
 some (v14, h14)))
abbrev c89 : Code := cf Tryz.f89
abbrev r89 : K := retK CF Tryz.f89
def D89 (rec : RT) (n : Nat) (c : Code) (X : Nat → K) (k : K) : K := codeD CF rec 32 n c X r89 k
theorem s89m : D89 rec n c89 x0 r89 = (K3 (s89 rec n) 0 1 2) :=
  (by kernel_rfl)
theorem s89ok (args : List DV) (h : Hp) : bodyD CF rec n 89 args h = s89 rec n (args.getD 0 undefD) (args.getD 1 undefD) (args.getD 2 undefD) h :=
  (by kernel_rfl : bodyD CF rec n 89 args h = D89 rec n c89 x0 r89 (argsE args) h).trans ((congrFun (congrFun (s89m rec n) (argsE args)) h).trans (by kernel_rfl))
def s90a4 (rec : RT) (n : Nat) (x5 : DV) (h0 : Hp) : Res :=
 bnd (joinF [x5, (.s [32])] h0) fun v1 h1 =>
 some (v1, h1)
def s90a6b (rec : RT) (n : Nat) (kk6 : TT5) (x1 x5 x21 x22 x23 : DV) (h0 : Hp) : Res :=
 bnd (pInt .lss x23 x22 h0) fun v1 h1 =>
 ifD v1 (
 bnd (pIndexAddr 1 x21 x23 h1) fun v2 h2 =>
 bnd (pLoad1 v2 h2) fun v3 h3 =>
 bnd (rec 89 [x1, x23, (.i .i64 (Int.ofNat 2))] h3) fun v4 h4 =>
 bnd (pBuildSlice [(.s []), (.s []), (.s [])] 3 [(0, 1, v3), (1, 1, (.s [32])), (2, 1, v4)] h4) fun v5 h5 =>
 bnd (rec 19 [v5] h5) fun v6 h6 =>
 bnd (pBuildSlice [(.s [])] 1 [(0, 1, v6)] h6) fun v7 h7 =>
 bnd (pAppend 1 16 x5 v7 h7) fun v8 h8 =>
 bnd (pInt .add x23 (.i .i64 (Int.ofNat 1)) h8) fun v9 h9 =>
      kk6 x1 v8 x21 x22 v9 h9) (
      s90a4 rec n x5 h1)
def s90a6l (rec : RT) (n : Nat) (m : Nat) : TT5 :=
  Nat.rec (motive := fun _ => TT5) (fun _ _ _ _ _ _ => none) (fun _ ih => s90a6b rec n ih) m
def s90a6 (rec : RT) (n : Nat) : TT5 := s90a6l rec n n
def s90a5 (rec : RT) (n : Nat) (x1 x5 x21 x22 x23 : DV) (h0 : Hp) : Res :=
  s90a6 rec n x1 x5 x21 x22 x23 h0
def s90a3 (rec : RT) (n : Nat) (x0 x1 x5 : DV) (h0 : Hp) : Res :=
 bnd (rec 33 [x0] h0) fun v1 h1 =>
 bnd (pLen v1 h1) fun v2 h2 =>
  s90a5 rec n x1 x5 v1 v2 (.i .i64 (Int.ofNat 0)) h2
def s90a2 (rec : RT) (n : Nat) (x0 x1 : DV) (h0 : Hp) : Res :=
  s90a3 rec n x0 x1 .l0 h0
def s90a1 (rec : RT) (n : Nat) (x0 x1 : DV) (h0 : Hp) : Res :=
 bnd (rec 32 [x0] h0) fun v1 h1 =>
 bnd (pInt .eql v1 (.i .i64 (Int.ofNat 1)) h1) fun v2 h2 =>
 ifD v2 (
 some (x0, h2)) (
 bnd (pInt .eql v1 (.i .i64 (Int.ofNat 2)) h2) fun v3 h3 =>
 ifD v3 (
 bnd (rec 89 [x1, (.i .i64 (Int.ofNat 0)), (.i .i64 (Int.ofNat 1))] h3) fun v4 h4 =>
 bnd (pBuildSlice [(.s []), (.s []), (.s [])] 3 [(0, 1, x0), (1, 1, (.s [32])), (2, 1, v4)] h4) fun v5 h5 =>
 bnd (rec 19 [v5] h5) fun v6 h6 =>
 some (v6, h6)) (
      s90a2 rec n x0 x1 h3))
/-- show.message -/
def s90 (rec : RT) (n : Nat) (x0 x1 : DV) (h0 : Hp) : Res :=
  s90a1 rec n x0 x1 h0
abbrev c90 : Code := cf Tryz.f90
abbrev c90x1 : Code := cR c90
abbrev c90x2 : Code := cR c90x1
abbrev c90x3 : Code := cR c90x2
abbrev c90x4 : Code := cR c90x3
abbrev c90x5 : Code := cL c90x3
abbrev c90x6 : Code := cR c90x5
abbrev c90x7 : Code := cL c90x6
abbrev c90x8 : Code := cL c90x7
abbrev c90x9 : Code := cL c90x5
abbrev c90x10 : Code := cL c90x2
abbrev c90x11 : Code := cL c90x1
abbrev c90x12 : Code := cL c90
abbrev r90 : K := retK CF Tryz.f90
def D90 (rec : RT) (n : Nat) (c : Code) (X : Nat → K) (k : K) : K := codeD CF rec 40 n c X r90 k
theorem s90a4e : D90 rec n c90x4 x0 r90 = (K1 (s90a4 rec n) 5) :=
  (by kernel_rfl)
theorem s90a6q1 (kk6 : TT5) (q0 : TT1) : D90 rec n c90x8 (xs x0 1 (K1 q0 5)) (K5 kk6 1 5 21 22 23) = fun (env : Env) (h : Hp) =>
 bnd (pInt .lss (env 23) (env 22) h) fun v1 h1 =>
 ifD v1 (
 bnd (pIndexAddr 1 (env 21) (env 23) h1) fun v2 h2 =>
 bnd (pLoad1 v2 h2) fun v3 h3 =>
 bnd (rec 89 [(env 1), (env 23), (.i .i64 (Int.ofNat 2))] h3) fun v4 h4 =>
 bnd (pBuildSlice [(.s []), (.s []), (.s [])] 3 [(0, 1, v3), (1, 1, (.s [32])), (2, 1, v4)] h4) fun v5 h5 =>
 bnd (rec 19 [v5] h5) fun v6 h6 =>
 bnd (pBuildSlice [(.s [])] 1 [(0, 1, v6)] h6) fun v7 h7 =>
 bnd (pAppend 1 16 (env 5) v7 h7) fun v8 h8 =>
 bnd (pInt .add (env 23) (.i .i64 (Int.ofNat 1)) h8) fun v9 h9 =>
      kk6 (env 1) v8 (env 21) (env 22) v9 h9) (
      q0 (env 5) h1) := by kernel_rfl
theorem s90a6q1u (kk6 : TT5) : (fun (env : Env) (h : Hp) =>
 bnd (pInt .lss (env 23) (env 22) h) fun v1 h1 =>
 ifD v1 (
 bnd (pIndexAddr 1 (env 21) (env 23) h1) fun v2 h2 =>
 bnd (pLoad1 v2 h2) fun v3 h3 =>
 bnd (rec 89 [(env 1), (env 23), (.i .i64 (Int.ofNat 2))] h3) fun v4 h4 =>
 bnd (pBuildSlice [(.s []), (.s []), (.s [])] 3 [(0, 1, v3), (1, 1, (.s [32])), (2, 1, v4)] h4) fun v5 h5 =>
 bnd (rec 19 [v5] h5) fun v6 h6 =>
 bnd (pBuildSlice [(.s [])] 1 [(0, 1, v6)] h6) fun v7 h7 =>
 bnd (pAppend 1 16 (env 5) v7 h7) fun v8 h8 =>
 bnd (pInt .add (env 23) (.i .i64 (Int.ofNat 1)) h8) fun v9 h9 =>
      kk6 (env 1) v8 (env 21) (env 22) v9 h9) (
      s90a4 rec n (env 5) h1)) = (K5 (s90a6b rec n kk6) 1 5 21 22 23) := by kernel_rfl
theorem s90a6be (kk6 : TT5) : D90 rec n c90x8 (xs x0 1 (K1 (s90a4 rec n) 5)) (K5 kk6 1 5 21 22 23) = (K5 (s90a6b rec n kk6) 1 5 21 22 23) :=
  (s90a6q1 rec n kk6 (s90a4 rec n)).trans (s90a6q1u rec n kk6)
theorem s90a6le (m : Nat) : loopN (fun kk => D90 rec n c90x8 (xs x0 1 (K1 (s90a4 rec n) 5)) kk) m = (K5 (s90a6l rec n m) 1 5 21 22 23) := by
  induction m with
  | zero => exact (by kernel_rfl : loopN (fun kk => D90 rec n c90x8 (xs x0 1 (K1 (s90a4 rec n) 5)) kk) 0 = (K5 (s90a6l rec n 0) 1 5 21 22 23))
  | succ m ih =>
    refine (by kernel_rfl : loopN (fun kk => D90 rec n c90x8 (xs x0 1 (K1 (s90a4 rec n) 5)) kk) (m + 1) = D90 rec n c90x8 (xs x0 1 (K1 (s90a4 rec n) 5)) (loopN (fun kk => D90 rec n c90x8 (xs x0 1 (K1 (s90a4 rec n) 5)) kk) m)).trans ?_
    rw [ih]
    exact (s90a6be rec n (s90a6l rec n m)).trans (by kernel_rfl)
theorem s90a6e : D90 rec n c90x7 (xs x0 1 (K1 (s90a4 rec n) 5)) (K1 (s90a4 rec n) 5) = (K5 (s90a6 rec n) 1 5 21 22 23) :=
  (by kernel_rfl : D90 rec n c90x7 (xs x0 1 (K1 (s90a4 rec n) 5)) (K1 (s90a4 rec n) 5) = loopN (fun kk => D90 rec n c90x8 (xs x0 1 (K1 (s90a4 rec n) 5)) kk) n).trans ((s90a6le rec n n).trans (by kernel_rfl))
theorem s90a5e : D90 rec n c90x6 x0 (K1 (s90a4 rec n) 5) = (K5 (s90a5 rec n) 1 5 21 22 23) :=
  (by kernel_rfl : D90 rec n c90x6 x0 (K1 (s90a4 rec n) 5) = D90 rec n c90x7 (xs x0 1 (K1 (s90a4 rec n) 5)) (K1 (s90a4 rec n) 5)).trans
  ((s90a6e rec n).trans (by kernel_rfl))
theorem s90a3p2 : D90 rec n c90x3 x0 r90 = D90 rec n c90x5 x0 (K1 (s90a4 rec n) 5) :=
  congrArg (fun k => D90 rec n c90x5 x0 k) (s90a4e rec n)
theorem s90a3p3 : D90 rec n c90x5 x0 (K1 (s90a4 rec n) 5) = D90 rec n c90x9 x0 (K5 (s90a5 rec n) 1 5 21 22 23) :=
  congrArg (fun k => D90 rec n c90x9 x0 k) (s90a5e rec n)
theorem s90a3e : D90 rec n c90x3 x0 r90 = (K3 (s90a3 rec n) 0 1 5) :=
  (s90a3p2 rec n).trans
  ((s90a3p3 rec n).trans
  ((by kernel_rfl)))
theorem s90a2p4 : D90 rec n c90x2 x0 r90 = D90 rec n c90x10 x0 (K3 (s90a3 rec n) 0 1 5) :=
  congrArg (fun k => D90 rec n c90x10 x0 k) (s90a3e rec n)
theorem s90a2e : D90 rec n c90x2 x0 r90 = (K2 (s90a2 rec n) 0 1) :=
  (s90a2p4 rec n).trans
  ((by kernel_rfl))
theorem s90a1p5 : D90 rec n c90x1 x0 r90 = D90 rec n c90x11 x0 (K2 (s90a2 rec n) 0 1) :=
  congrArg (fun k => D90 rec n c90x11 x0 k) (s90a2e rec n)
theorem s90a1q6 (q0 : TT2) : D90 rec n c90x11 x0 (K2 q0 0 1) = fun (env : Env) (h : Hp) =>
 bnd (rec 32 [(env 0)] h) fun v1 h1 =>
 bnd (pInt .eql v1 (.i .i64 (Int.ofNat 1)) h1) fun v2 h2 =>
 ifD v2 (
 some ((env 0), h2)) (
 bnd (pInt .eql v1 (.i .i64 (Int.ofNat 2)) h2) fun v3 h3 =>
 ifD v3 (
 bnd (rec 89 [(env 1), (.i .i64 (Int.ofNat 0)), (.i .i64 (Int.ofNat 1))] h3) fun v4 h4 =>
 bnd (pBuildSlice [(.s []), (.s []), (.s [])] 3 [(0, 1, (env 0)), (1, 1, (.s [32])), (2, 1, v4)] h4) fun v5 h5 =>
 bnd (rec 19 [v5] h5) fun v6 h6 =>
 some (v6, h6)) (
        q0 (env 0) (env 1) h3)) := by kernel_rfl
theorem s90a1q6u : (fun (env : Env) (h : Hp) =>
 bnd (rec 32 [(env 0)] h) fun v1 h1 =>
 bnd (pInt .eql v1 (.i .i64 (Int.ofNat 1)) h1) fun v2 h2 =>
 ifD v2 (
 some ((env 0), h2)) (
 bnd (pInt .eql v1 (.i .i64 (Int.ofNat 2)) h2) fun v3 h3 =>
 ifD v3 (
 bnd (rec 89 [(env 1), (.i .i64 (Int.ofNat 0)), (.i .i64 (Int.ofNat 1))] h3) fun v4 h4 =>
 bnd (pBuildSlice [(.s []), (.s []), (.s [])] 3 [(0, 1, (env 0)), (1, 1, (.s [32])), (2, 1, v4)] h4) fun v5 h5 =>
 bnd (rec 19 [v5] h5) fun v6 h6 =>
 some (v6, h6)) (
        s90a2 rec n (env 0) (env 1) h3))) = (K2 (s90a1 rec n) 0 1) := by kernel_rfl
theorem s90a1e : D90 rec n c90x1 x0 r90 = (K2 (s90a1 rec n) 0 1) :=
  (s90a1p5 rec n).trans
  ((s90a1q6 rec n (s90a2 rec n)).trans (s90a1q6u rec n))
theorem s90p7 : D90 rec n c90 x0 r90 = D90 rec n c90x12 x0 (K2 (s90a1 rec n) 0 1) :=
  congrArg (fun k => D90 rec n c90x12 x0 k) (s90a1e rec n)
theorem s90m : D90 rec n c90 x0 r90 = (K2 (s90 rec n) 0 1) :=
  (s90p7 rec n).trans
  ((by kernel_rfl))
theorem s90ok (args : List DV) (h : Hp) : bodyD CF rec n 90 args h = s90 rec n (args.getD 0 undefD) (args.getD 1 undefD) h :=
  (by kernel_rfl : bodyD CF rec n 90 args h = D90 rec n c90 x0 r90 (argsE args) h).trans ((congrFun (congrFun (s90m rec n) (argsE args)) h).trans (by kernel_rfl))
/-- show.series$1 -/
def s91 (rec : RT) (n : Nat) (x0 : DV) (h0 : Hp) : Res :=
 bnd (pBox x0 h0) fun v1 h1 =>
 bnd (pField 1 v1 h1) fun v2 h2 =>
 bnd (pLoad1 v2 h2) fun v3 h3 =>
 bnd (pField 5 v1 h3) fun v4 h4 =>
 bnd (pLoad1 v4 h4) fun v5 h5 =>
 bnd (rec 90 [v3, v5] h5) fun v6 h6 =>
 bnd (pBuildSlice [(.s []), (.s [])] 2 [(0, 1, (.s [59, 32])), (1, 1, v6)] h6) fun v7 h7 =>
 bnd (rec 19 [v7] h7) fun v8 h8 =>
 some (v8, h8)
abbrev c91 : Code := cf Tryz.f91
abbrev r91 : K := retK CF Tryz.f91
def D91 (rec : RT) (n : Nat) (c : Code) (X : Nat → K) (k : K) : K := codeD CF rec 10 n c X r91 k
theorem s91m : D91 rec n c91 x0 r91 = (K1 (s91 rec n) 0) :=
  (by kernel_rfl)
theorem s91ok (args : List DV) (h : Hp) : bodyD CF rec n 91 args h = s91 rec n (args.getD 0 undefD) h :=
  (by kernel_rfl : bodyD CF rec n 91 args h = D91 rec n c91 x0 r91 (argsE args) h).trans ((congrFun (congrFun (s91m rec n) (argsE args)) h).trans (by kernel_rfl))

end
end Go.Dd

/- Dd, part Q5 (printed by gen.py): functions of the seat's program as Lean functions, linked to Dd. -/
set_option linter.unusedVariables false
set_option maxRecDepth 100000
namespace Go.Dd
open Go.Proofs
noncomputable section

variable (rec : RT) (n : Nat)
/-- lex.in$1 -/
def s105 (rec : RT) (n : Nat) (x0 x1 : DV) (h0 : Hp) : Res :=
 bnd (pLoad1 x1 h0) fun v1 h1 =>
 bnd (rec 57 [v1, x0] h1) fun v2 h2 =>
 bnd (pInt .geq v2 (.i .i64 (Int.ofNat 0)) h2) fun v3 h3 =>
 some (v3, h3)
abbrev c105 : Code := cf Tryz.f105
abbrev r105 : K := retK CF Tryz.f105
def D105 (rec : RT) (n : Nat) (c : Code) (X : Nat → K) (k : K) : K := codeD CF rec 8 n c X r105 k
theorem s105m : D105 rec n c105 x0 r105 = (K2 (s105 rec n) 0 1) :=
  (by kernel_rfl)
theorem s105ok (args : List DV) (h : Hp) : bodyD CF rec n 105 args h = s105 rec n (args.getD 0 undefD) (args.getD 1 undefD) h :=
  (by kernel_rfl : bodyD CF rec n 105 args h = D105 rec n c105 x0 r105 (argsE args) h).trans ((congrFun (congrFun (s105m rec n) (argsE args)) h).trans (by kernel_rfl))
/-- lex.reader).next -/
def s106 (rec : RT) (n : Nat) (x0 x1 : DV) (h0 : Hp) : Res :=
 bnd (pNil x0 h0) fun v1 h1 =>
 bnd (pField 1 v1 h1) fun v2 h2 =>
 bnd (pLoad1 v2 h2) fun v3 h3 =>
 bnd (pInt .add v3 x1 h3) fun v4 h4 =>
 bnd (pNil x0 h4) fun v5 h5 =>
 bnd (pField 0 v5 h5) fun v6 h6 =>
 bnd (pLoad1 v6 h6) fun v7 h7 =>
 bnd (pLenS v7 h7) fun v8 h8 =>
 bnd (pInt .geq v4 v8 h8) fun v9 h9 =>
 ifD v9 (
 some ((.i .u8 (Int.ofNat 0)), h9)) (
 bnd (pNil x0 h9) fun v10 h10 =>
 bnd (pField 0 v10 h10) fun v11 h11 =>
 bnd (pLoad1 v11 h11) fun v12 h12 =>
 bnd (pNil x0 h12) fun v13 h13 =>
 bnd (pField 1 v13 h13) fun v14 h14 =>
 bnd (pLoad1 v14 h14) fun v15 h15 =>
 bnd (pInt .add v15 x1 h15) fun v16 h16 =>
 bnd (pIndexS v12 v16 h16) fun v17 h17 =>
 some (v17, h17))
abbrev c106 : Code := cf Tryz.f106
abbrev r106 : K := retK CF Tryz.f106
def D106 (rec : RT) (n : Nat) (c : Code) (X : Nat → K) (k : K) : K := codeD CF rec 28 n c X r106 k
theorem s106m : D106 rec n c106 x0 r106 = (K2 (s106 rec n) 0 1) :=
  (by kernel_rfl)
theorem s106ok (args : List DV) (h : Hp) : bodyD CF rec n 106 args h = s106 rec n (args.getD 0 undefD) (args.getD 1 undefD) h :=
  (by kernel_rfl : bodyD CF rec n 106 args h = D106 rec n c106 x0 r106 (argsE args) h).trans ((congrFun (congrFun (s106m rec n) (argsE args)) h).trans (by kernel_rfl))
/-- lex.letter -/
def s107 (rec : RT) (n : Nat) (x0 : DV) (h0 : Hp) : Res :=
 bnd (pInt .geq x0 (.i .u8 (Int.ofNat 97)) h0) fun v1 h1 =>
 bnd (gD v1 true (some (x0, h1)) h1) fun v2 h2 =>
 bnd (gD v1 true (pInt .leq v2 (.i .u8 (Int.ofNat 122)) h2) h2) fun v3 h3 =>
 bnd (pPick v1 v3 (.b false) h3) fun v4 h4 =>
 bnd (gD v4 false (some (x0, h4)) h4) fun v5 h5 =>
 bnd (gD v4 false (pInt .geq v5 (.i .u8 (Int.ofNat 65)) h5) h5) fun v6 h6 =>
 bnd (gD v4 false (some (v6, h6)) h6) fun v7 h7 =>
 bnd (gD v7 true (some (x0, h7)) h7) fun v8 h8 =>
 bnd (gD v7 true (pInt .leq v8 (.i .u8 (Int.ofNat 90)) h8) h8) fun v9 h9 =>
 bnd (gD v4 false (pPick v7 v9 (.b false) h9) h9) fun v10 h10 =>
 bnd (pPick v4 (.b true) v10 h10) fun v11 h11 =>
 some (v11, h11)
abbrev c107 : Code := cf Tryz.f107
abbrev r107 : K := retK CF Tryz.f107
def D107 (rec : RT) (n : Nat) (c : Code) (X : Nat → K) (k : K) : K := codeD CF rec 17 n c X r107 k
theorem s107m : D107 rec n c107 x0 r107 = (K1 (s107 rec n) 0) :=
  (by kernel_rfl)
theorem s107ok (args : List DV) (h : Hp) : bodyD CF rec n 107 args h = s107 rec n (args.getD 0 undefD) h :=
  (by kernel_rfl : bodyD CF rec n 107 args h = D107 rec n c107 x0 r107 (argsE args) h).trans ((congrFun (congrFun (s107m rec n) (argsE args)) h).trans (by kernel_rfl))
/-- lex.reader).name -/
def s108 (rec : RT) (n : Nat) (x0 : DV) (h0 : Hp) : Res :=
 bnd (pNil x0 h0) fun v1 h1 =>
 bnd (pField 0 v1 h1) fun v2 h2 =>
 bnd (pLoad1 v2 h2) fun v3 h3 =>
 bnd (pLenS v3 h3) fun v4 h4 =>
 bnd (rec 74 [x0, (.f 132 [] []), v4] h4) fun v5 h5 =>
 bnd (pLenS v5 h5) fun v6 h6 =>
 bnd (pInt .gtr v6 (.i .i64 (Int.ofNat 24)) h6) fun v7 h7 =>
 ifD v7 (
 some (.t [(.s []), (.i .i64 (Int.ofNat 12))], h7)) (
 some (.t [v5, (.i .i64 (Int.ofNat 0))], h7))
abbrev c108 : Code := cf Tryz.f108
abbrev r108 : K := retK CF Tryz.f108
def D108 (rec : RT) (n : Nat) (c : Code) (X : Nat → K) (k : K) : K := codeD CF rec 16 n c X r108 k
theorem s108m : D108 rec n c108 x0 r108 = (K1 (s108 rec n) 0) :=
  (by kernel_rfl)
theorem s108ok (args : List DV) (h : Hp) : bodyD CF rec n 108 args h = s108 rec n (args.getD 0 undefD) h :=
  (by kernel_rfl : bodyD CF rec n 108 args h = D108 rec n c108 x0 r108 (argsE args) h).trans ((congrFun (congrFun (s108m rec n) (argsE args)) h).trans (by kernel_rfl))
/-- lex.reader).colon -/
def s109 (rec : RT) (n : Nat) (x0 : DV) (h0 : Hp) : Res :=
 bnd (rec 106 [x0, (.i .i64 (Int.ofNat 0))] h0) fun v1 h1 =>
 bnd (pInt .neq v1 (.i .u8 (Int.ofNat 58)) h1) fun v2 h2 =>
 bnd (gD v2 false (some (x0, h2)) h2) fun v3 h3 =>
 bnd (gD v2 false (rec 106 [v3, (.i .i64 (Int.ofNat 1))] h3) h3) fun v4 h4 =>
 bnd (gD v2 false (pInt .eql v4 (.i .u8 (Int.ofNat 61)) h4) h4) fun v5 h5 =>
 bnd (pPick v2 (.b true) v5 h5) fun v6 h6 =>
 ifD v6 (
 some ((.b false), h6)) (
 bnd (pNil x0 h6) fun v7 h7 =>
 bnd (pField 1 v7 h7) fun v8 h8 =>
 bnd (pLoad1 v8 h8) fun v9 h9 =>
 bnd (pInt .add v9 (.i .i64 (Int.ofNat 1)) h9) fun v10 h10 =>
 bnd (pNil x0 h10) fun v11 h11 =>
 bnd (pField 1 v11 h11) fun v12 h12 =>
 bnd (pStore 1 v12 v10 h12) fun _ h13 =>
 some ((.b true), h13))
abbrev c109 : Code := cf Tryz.f109
abbrev r109 : K := retK CF Tryz.f109
def D109 (rec : RT) (n : Nat) (c : Code) (X : Nat → K) (k : K) : K := codeD CF rec 18 n c X r109 k
theorem s109m : D109 rec n c109 x0 r109 = (K1 (s109 rec n) 0) :=
  (by kernel_rfl)
theorem s109ok (args : List DV) (h : Hp) : bodyD CF rec n 109 args h = s109 rec n (args.getD 0 undefD) h :=
  (by kernel_rfl : bodyD CF rec n 109 args h = D109 rec n c109 x0 r109 (argsE args) h).trans ((congrFun (congrFun (s109m rec n) (argsE args)) h).trans (by kernel_rfl))
/-- lex.digit -/
def s110 (rec : RT) (n : Nat) (x0 : DV) (h0 : Hp) : Res :=
 bnd (pInt .geq x0 (.i .u8 (Int.ofNat 48)) h0) fun v1 h1 =>
 bnd (gD v1 true (some (x0, h1)) h1) fun v2 h2 =>
 bnd (gD v1 true (pInt .leq v2 (.i .u8 (Int.ofNat 57)) h2) h2) fun v3 h3 =>
 bnd (pPick v1 v3 (.b false) h3) fun v4 h4 =>
 some (v4, h4)
abbrev c110 : Code := cf Tryz.f110
abbrev r110 : K := retK CF Tryz.f110
def D110 (rec : RT) (n : Nat) (c : Code) (X : Nat → K) (k : K) : K := codeD CF rec 9 n c X r110 k
theorem s110m : D110 rec n c110 x0 r110 = (K1 (s110 rec n) 0) :=
  (by kernel_rfl)
theorem s110ok (args : List DV) (h : Hp) : bodyD CF rec n 110 args h = s110 rec n (args.getD 0 undefD) h :=
  (by kernel_rfl : bodyD CF rec n 110 args h = D110 rec n c110 x0 r110 (argsE args) h).trans ((congrFun (congrFun (s110m rec n) (argsE args)) h).trans (by kernel_rfl))
def s111a3 (rec : RT) (n : Nat) (x4 : DV) (h0 : Hp) : Res :=
 some (.t [x4, (.i .i64 (Int.ofNat 0))], h0)
def s111a5b (rec : RT) (n : Nat) (kk5 : TT2) (x4 x14 : DV) (h0 : Hp) : Res :=
 bnd (pNext x14 h0) fun v1 h1 =>
 bnd (pExtract 0 v1 h1) fun v2 h2 =>
 ifD v2 (
 bnd (pExtract 2 v1 h2) fun v3 h3 =>
 bnd (pInt .gtr x4 (.i .i64 (Int.ofNat 115292150460684697)) h3) fun v4 h4 =>
 ifD v4 (
 some (.t [(.i .i64 (Int.ofNat 0)), (.i .i64 (Int.ofNat 2))], h4)) (
 bnd (pInt .mul x4 (.i .i64 (Int.ofNat 10)) h4) fun v5 h5 =>
 bnd (pInt .sub v3 (.i .i32 (Int.ofNat 48)) h5) fun v6 h6 =>
 bnd (pConvI .i64 v6 h6) fun v7 h7 =>
 bnd (pInt .add v5 v7 h7) fun v8 h8 =>
 bnd (pInt .gtr v8 (.i .i64 (Int.ofNat 1152921504606846976)) h8) fun v9 h9 =>
 ifD v9 (
 some (.t [(.i .i64 (Int.ofNat 0)), (.i .i64 (Int.ofNat 2))], h9)) (
          kk5 v8 x14 h9))) (
      s111a3 rec n x4 h2)
def s111a5l (rec : RT) (n : Nat) (m : Nat) : TT2 :=
  Nat.rec (motive := fun _ => TT2) (fun _ _ _ => none) (fun _ ih => s111a5b rec n ih) m
def s111a5 (rec : RT) (n : Nat) : TT2 := s111a5l rec n n
def s111a4 (rec : RT) (n : Nat) (x4 x14 : DV) (h0 : Hp) : Res :=
  s111a5 rec n x4 x14 h0
def s111a2 (rec : RT) (n : Nat) (x0 x4 : DV) (h0 : Hp) : Res :=
 bnd (pNil x0 h0) fun v1 h1 =>
 bnd (pField 0 v1 h1) fun v2 h2 =>
 bnd (pLoad1 v2 h2) fun v3 h3 =>
 bnd (pLenS v3 h3) fun v4 h4 =>
 bnd (rec 74 [x0, (.f 110 [] []), v4] h4) fun v5 h5 =>
 bnd (pRange v5 h5) fun v6 h6 =>
  s111a4 rec n x4 v6 h6
def s111a1 (rec : RT) (n : Nat) (x0 : DV) (h0 : Hp) : Res :=
  s111a2 rec n x0 (.i .i64 (Int.ofNat 0)) h0
/-- lex.reader).number -/
def s111 (rec : RT) (n : Nat) (x0 : DV) (h0 : Hp) : Res :=
  s111a1 rec n x0 h0
abbrev c111 : Code := cf Tryz.f111
abbrev c111x1 : Code := cR c111
abbrev c111x2 : Code := cR c111x1
abbrev c111x3 : Code := cR c111x2
abbrev c111x4 : Code := cL c111x2
abbrev c111x5 : Code := cR c111x4
abbrev c111x6 : Code := cL c111x5
abbrev c111x7 : Code := cL c111x6
abbrev c111x8 : Code := cL c111x4
abbrev c111x9 : Code := cL c111x1
abbrev c111x10 : Code := cL c111
abbrev r111 : K := retK CF Tryz.f111
def D111 (rec : RT) (n : Nat) (c : Code) (X : Nat → K) (k : K) : K := codeD CF rec 29 n c X r111 k
theorem s111a3e : D111 rec n c111x3 x0 r111 = (K1 (s111a3 rec n) 4) :=
  (by kernel_rfl)
theorem s111a5be (kk5 : TT2) : D111 rec n c111x7 (xs x0 0 (K1 (s111a3 rec n) 4)) (K2 kk5 4 14) = (K2 (s111a5b rec n kk5) 4 14) :=
  (by kernel_rfl)
theorem s111a5le (m : Nat) : loopN (fun kk => D111 rec n c111x7 (xs x0 0 (K1 (s111a3 rec n) 4)) kk) m = (K2 (s111a5l rec n m) 4 14) := by
  induction m with
  | zero => exact (by kernel_rfl : loopN (fun kk => D111 rec n c111x7 (xs x0 0 (K1 (s111a3 rec n) 4)) kk) 0 = (K2 (s111a5l rec n 0) 4 14))
  | succ m ih =>
    refine (by kernel_rfl : loopN (fun kk => D111 rec n c111x7 (xs x0 0 (K1 (s111a3 rec n) 4)) kk) (m + 1) = D111 rec n c111x7 (xs x0 0 (K1 (s111a3 rec n) 4)) (loopN (fun kk => D111 rec n c111x7 (xs x0 0 (K1 (s111a3 rec n) 4)) kk) m)).trans ?_
    rw [ih]
    exact (s111a5be rec n (s111a5l rec n m)).trans (by kernel_rfl)
theorem s111a5e : D111 rec n c111x6 (xs x0 0 (K1 (s111a3 rec n) 4)) (K1 (s111a3 rec n) 4) = (K2 (s111a5 rec n) 4 14) :=
  (by kernel_rfl : D111 rec n c111x6 (xs x0 0 (K1 (s111a3 rec n) 4)) (K1 (s111a3 rec n) 4) = loopN (fun kk => D111 rec n c111x7 (xs x0 0 (K1 (s111a3 rec n) 4)) kk) n).trans ((s111a5le rec n n).trans (by kernel_rfl))
theorem s111a4e : D111 rec n c111x5 x0 (K1 (s111a3 rec n) 4) = (K2 (s111a4 rec n) 4 14) :=
  (by kernel_rfl : D111 rec n c111x5 x0 (K1 (s111a3 rec n) 4) = D111 rec n c111x6 (xs x0 0 (K1 (s111a3 rec n) 4)) (K1 (s111a3 rec n) 4)).trans
  ((s111a5e rec n).trans (by kernel_rfl))
theorem s111a2p1 : D111 rec n c111x2 x0 r111 = D111 rec n c111x4 x0 (K1 (s111a3 rec n) 4) :=
  congrArg (fun k => D111 rec n c111x4 x0 k) (s111a3e rec n)
theorem s111a2p2 : D111 rec n c111x4 x0 (K1 (s111a3 rec n) 4) = D111 rec n c111x8 x0 (K2 (s111a4 rec n) 4 14) :=
  congrArg (fun k => D111 rec n c111x8 x0 k) (s111a4e rec n)
theorem s111a2e : D111 rec n c111x2 x0 r111 = (K2 (s111a2 rec n) 0 4) :=
  (s111a2p1 rec n).trans
  ((s111a2p2 rec n).trans
  ((by kernel_rfl)))
theorem s111a1p3 : D111 rec n c111x1 x0 r111 = D111 rec n c111x9 x0 (K2 (s111a2 rec n) 0 4) :=
  congrArg (fun k => D111 rec n c111x9 x0 k) (s111a2e rec n)
theorem s111a1e : D111 rec n c111x1 x0 r111 = (K1 (s111a1 rec n) 0) :=
  (s111a1p3 rec n).trans
  ((by kernel_rfl))
theorem s111p4 : D111 rec n c111 x0 r111 = D111 rec n c111x10 x0 (K1 (s111a1 rec n) 0) :=
  congrArg (fun k => D111 rec n c111x10 x0 k) (s111a1e rec n)
theorem s111m : D111 rec n c111 x0 r111 = (K1 (s111 rec n) 0) :=
  (s111p4 rec n).trans
  ((by kernel_rfl))
theorem s111ok (args : List DV) (h : Hp) : bodyD CF rec n 111 args h = s111 rec n (args.getD 0 undefD) h :=
  (by kernel_rfl : bodyD CF rec n 111 args h = D111 rec n c111 x0 r111 (argsE args) h).trans ((congrFun (congrFun (s111m rec n) (argsE args)) h).trans (by kernel_rfl))
def s112a3b (rec : RT) (n : Nat) (kk3 : TT2) (x0 x4 : DV) (h0 : Hp) : Res :=
 bnd (pNil x0 h0) fun v1 h1 =>
 bnd (pField 0 v1 h1) fun v2 h2 =>
 bnd (pLoad1 v2 h2) fun v3 h3 =>
 bnd (pLenS v3 h3) fun v4 h4 =>
 bnd (rec 74 [x0, (.f 133 [] []), v4] h4) fun v5 h5 =>
 bnd (pStr .add x4 v5 h5) fun v6 h6 =>
 bnd (pNil x0 h6) fun v7 h7 =>
 bnd (pField 1 v7 h7) fun v8 h8 =>
 bnd (pLoad1 v8 h8) fun v9 h9 =>
 bnd (pNil x0 h9) fun v10 h10 =>
 bnd (pField 0 v10 h10) fun v11 h11 =>
 bnd (pLoad1 v11 h11) fun v12 h12 =>
 bnd (pLenS v12 h12) fun v13 h13 =>
 bnd (pInt .geq v9 v13 h13) fun v14 h14 =>
 ifD v14 (
 some (.t [(.s []), (.i .i64 (Int.ofNat 11))], h14)) (
 bnd (pNil x0 h14) fun v15 h15 =>
 bnd (pField 1 v15 h15) fun v16 h16 =>
 bnd (pLoad1 v16 h16) fun v17 h17 =>
 bnd (pInt .add v17 (.i .i64 (Int.ofNat 1)) h17) fun v18 h18 =>
 bnd (pNil x0 h18) fun v19 h19 =>
 bnd (pField 1 v19 h19) fun v20 h20 =>
 bnd (pStore 1 v20 v18 h20) fun _ h21 =>
 bnd (rec 106 [x0, (.i .i64 (Int.ofNat 0))] h21) fun v22 h22 =>
 bnd (pInt .neq v22 (.i .u8 (Int.ofNat 39)) h22) fun v23 h23 =>
 ifD v23 (
 some (.t [v6, (.i .i64 (Int.ofNat 0))], h23)) (
 bnd (pStr .add v6 (.s [39]) h23) fun v24 h24 =>
 bnd (pNil x0 h24) fun v25 h25 =>
 bnd (pField 1 v25 h25) fun v26 h26 =>
 bnd (pLoad1 v26 h26) fun v27 h27 =>
 bnd (pInt .add v27 (.i .i64 (Int.ofNat 1)) h27) fun v28 h28 =>
 bnd (pNil x0 h28) fun v29 h29 =>
 bnd (pField 1 v29 h29) fun v30 h30 =>
 bnd (pStore 1 v30 v28 h30) fun _ h31 =>
        kk3 x0 v24 h31))
def s112a3l (rec : RT) (n : Nat) (m : Nat) : TT2 :=
  Nat.rec (motive := fun _ => TT2) (fun _ _ _ => none) (fun _ ih => s112a3b rec n ih) m
def s112a3 (rec : RT) (n : Nat) : TT2 := s112a3l rec n n
def s112a2 (rec : RT) (n : Nat) (x0 x4 : DV) (h0 : Hp) : Res :=
  s112a3 rec n x0 x4 h0
def s112a1 (rec : RT) (n : Nat) (x0 : DV) (h0 : Hp) : Res :=
  s112a2 rec n x0 (.s []) h0
/-- lex.reader).text -/
def s112 (rec : RT) (n : Nat) (x0 : DV) (h0 : Hp) : Res :=
  s112a1 rec n x0 h0
abbrev c112 : Code := cf Tryz.f112
abbrev c112x1 : Code := cR c112
abbrev c112x2 : Code := cR c112x1
abbrev c112x3 : Code := cL c112x2
abbrev c112x4 : Code := cL c112x3
abbrev c112x5 : Code := cL c112x1
abbrev c112x6 : Code := cL c112
abbrev r112 : K := retK CF Tryz.f112
def D112 (rec : RT) (n : Nat) (c : Code) (X : Nat → K) (k : K) : K := codeD CF rec 44 n c X r112 k
theorem s112a3be (kk3 : TT2) : D112 rec n c112x4 (xs x0 0 r112) (K2 kk3 0 4) = (K2 (s112a3b rec n kk3) 0 4) :=
  (by kernel_rfl)
theorem s112a3le (m : Nat) : loopN (fun kk => D112 rec n c112x4 (xs x0 0 r112) kk) m = (K2 (s112a3l rec n m) 0 4) := by
  induction m with
  | zero => exact (by kernel_rfl : loopN (fun kk => D112 rec n c112x4 (xs x0 0 r112) kk) 0 = (K2 (s112a3l rec n 0) 0 4))
  | succ m ih =>
    refine (by kernel_rfl : loopN (fun kk => D112 rec n c112x4 (xs x0 0 r112) kk) (m + 1) = D112 rec n c112x4 (xs x0 0 r112) (loopN (fun kk => D112 rec n c112x4 (xs x0 0 r112) kk) m)).trans ?_
    rw [ih]
    exact (s112a3be rec n (s112a3l rec n m)).trans (by kernel_rfl)
theorem s112a3e : D112 rec n c112x3 (xs x0 0 r112) r112 = (K2 (s112a3 rec n) 0 4) :=
  (by kernel_rfl : D112 rec n c112x3 (xs x0 0 r112) r112 = loopN (fun kk => D112 rec n c112x4 (xs x0 0 r112) kk) n).trans ((s112a3le rec n n).trans (by kernel_rfl))
theorem s112a2e : D112 rec n c112x2 x0 r112 = (K2 (s112a2 rec n) 0 4) :=
  (by kernel_rfl : D112 rec n c112x2 x0 r112 = D112 rec n c112x3 (xs x0 0 r112) r112).trans
  ((s112a3e rec n).trans (by kernel_rfl))
theorem s112a1p1 : D112 rec n c112x1 x0 r112 = D112 rec n c112x5 x0 (K2 (s112a2 rec n) 0 4) :=
  congrArg (fun k => D112 rec n c112x5 x0 k) (s112a2e rec n)
theorem s112a1e : D112 rec n c112x1 x0 r112 = (K1 (s112a1 rec n) 0) :=
  (s112a1p1 rec n).trans
  ((by kernel_rfl))
theorem s112p2 : D112 rec n c112 x0 r112 = D112 rec n c112x6 x0 (K1 (s112a1 rec n) 0) :=
  congrArg (fun k => D112 rec n c112x6 x0 k) (s112a1e rec n)
theorem s112m : D112 rec n c112 x0 r112 = (K1 (s112 rec n) 0) :=
  (s112p2 rec n).trans
  ((by kernel_rfl))
theorem s112ok (args : List DV) (h : Hp) : bodyD CF rec n 112 args h = s112 rec n (args.getD 0 undefD) h :=
  (by kernel_rfl : bodyD CF rec n 112 args h = D112 rec n c112 x0 r112 (argsE args) h).trans ((congrFun (congrFun (s112m rec n) (argsE args)) h).trans (by kernel_rfl))
def s113a7 (rec : RT) (n : Nat) (x5 : DV) (h0 : Hp) : Res :=
 some (.t [x5, (.i .i64 (Int.ofNat 0))], h0)
def s113a8b (rec : RT) (n : Nat) (kk8 : TT2) (x0 x5 : DV) (h0 : Hp) : Res :=
 bnd (rec 106 [x0, (.i .i64 (Int.ofNat 0))] h0) fun v1 h1 =>
 bnd (rec 107 [v1] h1) fun v2 h2 =>
 ifD v2 (
 bnd (pNil x0 h2) fun v3 h3 =>
 bnd (pField 1 v3 h3) fun v4 h4 =>
 bnd (pLoad1 v4 h4) fun v5 h5 =>
 bnd (rec 108 [x0] h5) fun v6 h6 =>
 bnd (pExtract 0 v6 h6) fun v7 h7 =>
 bnd (pExtract 1 v6 h7) fun v8 h8 =>
 bnd (rec 109 [x0] h8) fun v9 h9 =>
 bnd (pUn .not v9 h9) fun v10 h10 =>
 ifD v10 (
 bnd (pNil x0 h10) fun v11 h11 =>
 bnd (pField 1 v11 h11) fun v12 h12 =>
 bnd (pStore 1 v12 v5 h12) fun _ h13 =>
 some (.t [x5, (.i .i64 (Int.ofNat 0))], h13)) (
 bnd (pInt .neq v8 (.i .i64 (Int.ofNat 0)) h10) fun v14 h14 =>
 ifD v14 (
 some (.t [(.s []), v8], h14)) (
 bnd (pStr .add v7 (.s [58]) h14) fun v15 h15 =>
 bnd (pStr .add x5 v15 h15) fun v16 h16 =>
          kk8 x0 v16 h16))) (
      s113a7 rec n x5 h2)
def s113a8l (rec : RT) (n : Nat) (m : Nat) : TT2 :=
  Nat.rec (motive := fun _ => TT2) (fun _ _ _ => none) (fun _ ih => s113a8b rec n ih) m
def s113a8 (rec : RT) (n : Nat) : TT2 := s113a8l rec n n
def s113a6 (rec : RT) (n : Nat) (x0 x5 : DV) (h0 : Hp) : Res :=
  s113a8 rec n x0 x5 h0
def s113a5 (rec : RT) (n : Nat) (x0 x5 : DV) (h0 : Hp) : Res :=
 bnd (pStr .add x5 (.s [58]) h0) fun v1 h1 =>
  s113a6 rec n x0 v1 h1
def s113a4 (rec : RT) (n : Nat) (x0 x5 x6 : DV) (h0 : Hp) : Res :=
 bnd (pInt .neq x6 (.i .i64 (Int.ofNat 0)) h0) fun v1 h1 =>
 bnd (gD v1 false (some (x0, h1)) h1) fun v2 h2 =>
 bnd (gD v1 false (rec 109 [v2] h2) h2) fun v3 h3 =>
 bnd (gD v1 false (pUn .not v3 h3) h3) fun v4 h4 =>
 bnd (pPick v1 (.b true) v4 h4) fun v5 h5 =>
 ifD v5 (
 some (.t [x5, x6], h5)) (
    s113a5 rec n x0 x5 h5)
def s113a3 (rec : RT) (n : Nat) (x0 : DV) (h0 : Hp) : Res :=
 bnd (rec 108 [x0] h0) fun v1 h1 =>
 bnd (pExtract 0 v1 h1) fun v2 h2 =>
 bnd (pExtract 1 v1 h2) fun v3 h3 =>
  s113a4 rec n x0 v2 v3 h3
def s113a2 (rec : RT) (n : Nat) (x0 : DV) (h0 : Hp) : Res :=
 bnd (rec 106 [x0, (.i .i64 (Int.ofNat 0))] h0) fun v1 h1 =>
 bnd (rec 107 [v1] h1) fun v2 h2 =>
 bnd (pUn .not v2 h2) fun v3 h3 =>
 ifD v3 (
 some (.t [(.s []), (.i .i64 (Int.ofNat 10))], h3)) (
    s113a3 rec n x0 h3)
def s113a1 (rec : RT) (n : Nat) (x0 : DV) (h0 : Hp) : Res :=
 bnd (rec 75 [(.s [43, 45, 42, 47, 60, 62, 61, 126, 44, 64, 38, 37])] h0) fun v1 h1 =>
 bnd (rec 74 [x0, v1, (.i .i64 (Int.ofNat 2))] h1) fun v2 h2 =>
 bnd (pStr .neq v2 (.s []) h2) fun v3 h3 =>
 ifD v3 (
 some (.t [v2, (.i .i64 (Int.ofNat 0))], h3)) (
    s113a2 rec n x0 h3)
/-- lex.reader).symbol -/
def s113 (rec : RT) (n : Nat) (x0 : DV) (h0 : Hp) : Res :=
  s113a1 rec n x0 h0
abbrev c113 : Code := cf Tryz.f113
abbrev c113x1 : Code := cR c113
abbrev c113x2 : Code := cR c113x1
abbrev c113x3 : Code := cR c113x2
abbrev c113x4 : Code := cR c113x3
abbrev c113x5 : Code := cR c113x4
abbrev c113x6 : Code := cR c113x5
abbrev c113x7 : Code := cR c113x6
abbrev c113x8 : Code := cL c113x6
abbrev c113x9 : Code := cL c113x8
abbrev c113x10 : Code := cL c113x9
abbrev c113x11 : Code := cL c113x5
abbrev c113x12 : Code := cL c113x4
abbrev c113x13 : Code := cL c113x3
abbrev c113x14 : Code := cL c113x2
abbrev c113x15 : Code := cL c113x1
abbrev c113x16 : Code := cL c113
abbrev r113 : K := retK CF Tryz.f113
def D113 (rec : RT) (n : Nat) (c : Code) (X : Nat → K) (k : K) : K := codeD CF rec 64 n c X r113 k
theorem s113a7e : D113 rec n c113x7 x0 r113 = (K1 (s113a7 rec n) 5) :=
  (by kernel_rfl)
theorem s113a8be (kk8 : TT2) : D113 rec n c113x10 (xs x0 0 (K1 (s113a7 rec n) 5)) (K2 kk8 0 5) = (K2 (s113a8b rec n kk8) 0 5) :=
  (by kernel_rfl)
theorem s113a8le (m : Nat) : loopN (fun kk => D113 rec n c113x10 (xs x0 0 (K1 (s113a7 rec n) 5)) kk) m = (K2 (s113a8l rec n m) 0 5) := by
  induction m with
  | zero => exact (by kernel_rfl : loopN (fun kk => D113 rec n c113x10 (xs x0 0 (K1 (s113a7 rec n) 5)) kk) 0 = (K2 (s113a8l rec n 0) 0 5))
  | succ m ih =>
    refine (by kernel_rfl : loopN (fun kk => D113 rec n c113x10 (xs x0 0 (K1 (s113a7 rec n) 5)) kk) (m + 1) = D113 rec n c113x10 (xs x0 0 (K1 (s113a7 rec n) 5)) (loopN (fun kk => D113 rec n c113x10 (xs x0 0 (K1 (s113a7 rec n) 5)) kk) m)).trans ?_
    rw [ih]
    exact (s113a8be rec n (s113a8l rec n m)).trans (by kernel_rfl)
theorem s113a8e : D113 rec n c113x9 (xs x0 0 (K1 (s113a7 rec n) 5)) (K1 (s113a7 rec n) 5) = (K2 (s113a8 rec n) 0 5) :=
  (by kernel_rfl : D113 rec n c113x9 (xs x0 0 (K1 (s113a7 rec n) 5)) (K1 (s113a7 rec n) 5) = loopN (fun kk => D113 rec n c113x10 (xs x0 0 (K1 (s113a7 rec n) 5)) kk) n).trans ((s113a8le rec n n).trans (by kernel_rfl))
theorem s113a6p1 : D113 rec n c113x6 x0 r113 = D113 rec n c113x8 x0 (K1 (s113a7 rec n) 5) :=
  congrArg (fun k => D113 rec n c113x8 x0 k) (s113a7e rec n)
theorem s113a6e : D113 rec n c113x6 x0 r113 = (K2 (s113a6 rec n) 0 5) :=
  (s113a6p1 rec n).trans
  ((by kernel_rfl : D113 rec n c113x8 x0 (K1 (s113a7 rec n) 5) = D113 rec n c113x9 (xs x0 0 (K1 (s113a7 rec n) 5)) (K1 (s113a7 rec n) 5)).trans
  ((s113a8e rec n).trans (by kernel_rfl)))
theorem s113a5p2 : D113 rec n c113x5 x0 r113 = D113 rec n c113x11 x0 (K2 (s113a6 rec n) 0 5) :=
  congrArg (fun k => D113 rec n c113x11 x0 k) (s113a6e rec n)
theorem s113a5e : D113 rec n c113x5 x0 r113 = (K2 (s113a5 rec n) 0 5) :=
  (s113a5p2 rec n).trans
  ((by kernel_rfl))
theorem s113a4p3 : D113 rec n c113x4 x0 r113 = D113 rec n c113x12 x0 (K2 (s113a5 rec n) 0 5) :=
  congrArg (fun k => D113 rec n c113x12 x0 k) (s113a5e rec n)
theorem s113a4e : D113 rec n c113x4 x0 r113 = (K3 (s113a4 rec n) 0 5 6) :=
  (s113a4p3 rec n).trans
  ((by kernel_rfl))
theorem s113a3p4 : D113 rec n c113x3 x0 r113 = D113 rec n c113x13 x0 (K3 (s113a4 rec n) 0 5 6) :=
  congrArg (fun k => D113 rec n c113x13 x0 k) (s113a4e rec n)
theorem s113a3e : D113 rec n c113x3 x0 r113 = (K1 (s113a3 rec n) 0) :=
  (s113a3p4 rec n).trans
  ((by kernel_rfl))
theorem s113a2p5 : D113 rec n c113x2 x0 r113 = D113 rec n c113x14 x0 (K1 (s113a3 rec n) 0) :=
  congrArg (fun k => D113 rec n c113x14 x0 k) (s113a3e rec n)
theorem s113a2e : D113 rec n c113x2 x0 r113 = (K1 (s113a2 rec n) 0) :=
  (s113a2p5 rec n).trans
  ((by kernel_rfl))
theorem s113a1p6 : D113 rec n c113x1 x0 r113 = D113 rec n c113x15 x0 (K1 (s113a2 rec n) 0) :=
  congrArg (fun k => D113 rec n c113x15 x0 k) (s113a2e rec n)
theorem s113a1e : D113 rec n c113x1 x0 r113 = (K1 (s113a1 rec n) 0) :=
  (s113a1p6 rec n).trans
  ((by kernel_rfl))
theorem s113p7 : D113 rec n c113 x0 r113 = D113 rec n c113x16 x0 (K1 (s113a1 rec n) 0) :=
  congrArg (fun k => D113 rec n c113x16 x0 k) (s113a1e rec n)
theorem s113m : D113 rec n c113 x0 r113 = (K1 (s113 rec n) 0) :=
  (s113p7 rec n).trans
  ((by kernel_rfl))
theorem s113ok (args : List DV) (h : Hp) : bodyD CF rec n 113 args h = s113 rec n (args.getD 0 undefD) h :=
  (by kernel_rfl : bodyD CF rec n 113 args h = D113 rec n c113 x0 r113 (argsE args) h).trans ((congrFun (congrFun (s113m rec n) (argsE args)) h).trans (by kernel_rfl))
def s114a6 (rec : RT) (n : Nat) (x2 x4 : DV) (h0 : Hp) : Res :=
 bnd (pLoadA 6 x4 h0) fun v1 h1 =>
 bnd (pStore 6 x2 v1 h1) fun _ h2 =>
 bnd (pLoadA 6 x2 h2) fun v3 _ =>
 some (v3, h2)
def s114a7b (rec : RT) (n : Nat) (kk7 : TT3) (x0 x2 x4 : DV) (h0 : Hp) : Res :=
 bnd (rec 77 [x0, (.i .i64 (Int.ofNat 10)), (.s [59])] h0) fun v1 h1 =>
 ifD v1 (
 bnd (rec 78 [x0] h1) fun v2 h2 =>
 bnd (pField 5 x4 (resv 1 h2)) fun v3 h3 =>
 bnd (pLoad1 v3 h3) fun v4 h4 =>
 bnd (rec 139 [x0] h4) fun v5 h5 =>
 cnd (sameR (pLoad1 v3 h5) v4 && true) (
 bnd (rec 138 [v5] h5) fun v6 h6 =>
 cnd (sameR (pLoad1 v3 h6) v4 && true) (
 bnd (pBuildSliceAt (nthPos 0 h2.next) [(.i .i64 (Int.ofNat 0)), (.s []), (.i .i64 (Int.ofNat 0)), .l0, .l0, .l0] 1 [(0, 6, v6)] h6) fun v7 h7 =>
 bnd (pAppend 6 104 v4 v7 h7) fun v8 h8 =>
 bnd (pField 5 x4 h8) fun v9 h9 =>
 bnd (pStore 1 v9 v8 h9) fun v10 h10 =>
      kk7 x0 x2 x4 h10))) (
      s114a6 rec n x2 x4 h1)
def s114a7l (rec : RT) (n : Nat) (m : Nat) : TT3 :=
  Nat.rec (motive := fun _ => TT3) (fun _ _ _ _ => none) (fun _ ih => s114a7b rec n ih) m
def s114a7 (rec : RT) (n : Nat) : TT3 := s114a7l rec n n
def s114a5 (rec : RT) (n : Nat) (x0 x2 x4 : DV) (h0 : Hp) : Res :=
  s114a7 rec n x0 x2 x4 h0
def s114a4 (rec : RT) (n : Nat) (x0 x2 x3 : DV) (h0 : Hp) : Res :=
 bnd (pField 5 x3 (resv 2 h0)) fun v1 h1 =>
 bnd (pLoad1 v1 h1) fun v2 h2 =>
 bnd (pIndexAddr 6 v2 (.i .i64 (Int.ofNat 0)) h2) fun v3 h3 =>
 bnd (pLoadA 6 v3 h3) fun v4 h4 =>
 bnd (pLoadA 6 x3 h4) fun v5 h5 =>
 bnd (rec 138 [v5] h5) fun v6 h6 =>
 cnd (sameR (pLoadA 6 v3 h6) v4 && (sameR (pLoad1 v1 h6) v2 && true)) (
 bnd (pBuildSliceAt (nthPos 0 h0.next) [(.i .i64 (Int.ofNat 0)), (.s []), (.i .i64 (Int.ofNat 0)), .l0, .l0, .l0, (.i .i64 (Int.ofNat 0)), (.s []), (.i .i64 (Int.ofNat 0)), .l0, .l0, .l0] 2 [(0, 6, v4), (6, 6, v6)] h6) fun v7 h7 =>
 bnd (pBuild [(.i .i64 (Int.ofNat 0)), (.s []), (.i .i64 (Int.ofNat 0)), .l0, .l0, .l0] [(0, 1, (.i .i64 (Int.ofNat 8))), (5, 1, v7)] h7) fun v8 h8 =>
 bnd (pNewAt (nthPos 1 h0.next) [(.i .i64 (Int.ofNat 0)), (.s []), (.i .i64 (Int.ofNat 0)), .l0, .l0, .l0] h8) fun v9 h9 =>
 bnd (pStore 6 v9 v8 h9) fun v10 h10 =>
  s114a5 rec n x0 x2 v9 h10)
def s114a3 (rec : RT) (n : Nat) (x0 x2 x3 : DV) (h0 : Hp) : Res :=
 bnd (pField 0 x3 h0) fun v1 h1 =>
 bnd (pLoad1 v1 h1) fun v2 h2 =>
 bnd (pInt .neq v2 (.i .i64 (Int.ofNat 7)) h2) fun v3 h3 =>
 ifD v3 (
 bnd (rec 81 [x0, (.i .i64 (Int.ofNat 0))] h3) fun v4 h4 =>
 bnd (rec 80 [x0, v4, (.i .i64 (Int.ofNat 13))] h4) fun v5 h5 =>
 bnd (pLoadA 6 x3 h5) fun v6 h6 =>
 bnd (pStore 6 x2 v6 h6) fun _ h7 =>
 bnd (pLoadA 6 x2 h7) fun v8 _ =>
 some (v8, h7)) (
    s114a4 rec n x0 x2 x3 h3)
def s114a2 (rec : RT) (n : Nat) (x0 x2 x3 : DV) (h0 : Hp) : Res :=
 bnd (rec 77 [x0, (.i .i64 (Int.ofNat 10)), (.s [59])] h0) fun v1 h1 =>
 bnd (pUn .not v1 h1) fun v2 h2 =>
 ifD v2 (
 bnd (pLoadA 6 x3 h2) fun v3 h3 =>
 bnd (pStore 6 x2 v3 h3) fun _ h4 =>
 bnd (pLoadA 6 x2 h4) fun v5 _ =>
 some (v5, h4)) (
    s114a3 rec n x0 x2 x3 h2)
def s114a1 (rec : RT) (n : Nat) (x0 x2 : DV) (h0 : Hp) : Res :=
 bnd (rec 137 [x0] h0) fun v1 h1 =>
 bnd (rec 136 [x0, v1] h1) fun v2 h2 =>
 bnd (rec 135 [x0, v2] h2) fun v3 h3 =>
 bnd (rec 134 [x0, v3] h3) fun v4 h4 =>
 bnd (pNew [(.i .i64 (Int.ofNat 0)), (.s []), (.i .i64 (Int.ofNat 0)), .l0, .l0, .l0] h4) fun v5 h5 =>
 bnd (pStore 6 v5 v4 h5) fun _ h6 =>
  s114a2 rec n x0 x2 v5 h6
/-- parse.parser).cascade -/
def s114 (rec : RT) (n : Nat) (x0 : DV) (h0 : Hp) : Res :=
 bnd (pNew [(.i .i64 (Int.ofNat 0)), (.s []), (.i .i64 (Int.ofNat 0)), .l0, .l0, .l0] h0) fun v1 h1 =>
  s114a1 rec n x0 v1 h1
abbrev c114 : Code := cf Tryz.f114
abbrev c114x1 : Code := cR c114
abbrev c114x2 : Code := cR c114x1
abbrev c114x3 : Code := cR c114x2
abbrev c114x4 : Code := cR c114x3
abbrev c114x5 : Code := cR c114x4
abbrev c114x6 : Code := cR c114x5
abbrev c114x7 : Code := cL c114x5
abbrev c114x8 : Code := cL c114x7
abbrev c114x9 : Code := cL c114x8
abbrev c114x10 : Code := cL c114x4
abbrev c114x11 : Code := cL c114x3
abbrev c114x12 : Code := cL c114x2
abbrev c114x13 : Code := cL c114x1
abbrev c114x14 : Code := cL c114
abbrev r114 : K := retK CF Tryz.f114
def D114 (rec : RT) (n : Nat) (c : Code) (X : Nat → K) (k : K) : K := codeD CF rec 46 n c X r114 k
theorem s114a6e : D114 rec n c114x6 x0 r114 = (K2 (s114a6 rec n) 2 4) :=
  (by kernel_rfl)
theorem s114a7q1 (kk7 : TT3) (q0 : TT2) : D114 rec n c114x9 (xs x0 0 (K2 q0 2 4)) (K3 kk7 0 2 4) = fun (env : Env) (h : Hp) =>
 bnd (rec 77 [(env 0), (.i .i64 (Int.ofNat 10)), (.s [59])] h) fun v1 h1 =>
 ifD v1 (
 bnd (rec 78 [(env 0)] h1) fun v2 h2 =>
 bnd (pField 5 (env 4) (resv 1 h2)) fun v3 h3 =>
 bnd (pLoad1 v3 h3) fun v4 h4 =>
 bnd (rec 139 [(env 0)] h4) fun v5 h5 =>
 cnd (sameR (pLoad1 v3 h5) v4 && true) (
 bnd (rec 138 [v5] h5) fun v6 h6 =>
 cnd (sameR (pLoad1 v3 h6) v4 && true) (
 bnd (pBuildSliceAt (nthPos 0 h2.next) [(.i .i64 (Int.ofNat 0)), (.s []), (.i .i64 (Int.ofNat 0)), .l0, .l0, .l0] 1 [(0, 6, v6)] h6) fun v7 h7 =>
 bnd (pAppend 6 104 v4 v7 h7) fun v8 h8 =>
 bnd (pField 5 (env 4) h8) fun v9 h9 =>
 bnd (pStore 1 v9 v8 h9) fun v10 h10 =>
      kk7 (env 0) (env 2) (env 4) h10))) (
      q0 (env 2) (env 4) h1) := by kernel_rfl
theorem s114a7q1u (kk7 : TT3) : (fun (env : Env) (h : Hp) =>
 bnd (rec 77 [(env 0), (.i .i64 (Int.ofNat 10)), (.s [59])] h) fun v1 h1 =>
 ifD v1 (
 bnd (rec 78 [(env 0)] h1) fun v2 h2 =>
 bnd (pField 5 (env 4) (resv 1 h2)) fun v3 h3 =>
 bnd (pLoad1 v3 h3) fun v4 h4 =>
 bnd (rec 139 [(env 0)] h4) fun v5 h5 =>
 cnd (sameR (pLoad1 v3 h5) v4 && true) (
 bnd (rec 138 [v5] h5) fun v6 h6 =>
 cnd (sameR (pLoad1 v3 h6) v4 && true) (
 bnd (pBuildSliceAt (nthPos 0 h2.next) [(.i .i64 (Int.ofNat 0)), (.s []), (.i .i64 (Int.ofNat 0)), .l0, .l0, .l0] 1 [(0, 6, v6)] h6) fun v7 h7 =>
 bnd (pAppend 6 104 v4 v7 h7) fun v8 h8 =>
 bnd (pField 5 (env 4) h8) fun v9 h9 =>
 bnd (pStore 1 v9 v8 h9) fun v10 h10 =>
      kk7 (env 0) (env 2) (env 4) h10))) (
      s114a6 rec n (env 2) (env 4) h1)) = (K3 (s114a7b rec n kk7) 0 2 4) := by kernel_rfl
theorem s114a7be (kk7 : TT3) : D114 rec n c114x9 (xs x0 0 (K2 (s114a6 rec n) 2 4)) (K3 kk7 0 2 4) = (K3 (s114a7b rec n kk7) 0 2 4) :=
  (s114a7q1 rec n kk7 (s114a6 rec n)).trans (s114a7q1u rec n kk7)
theorem s114a7le (m : Nat) : loopN (fun kk => D114 rec n c114x9 (xs x0 0 (K2 (s114a6 rec n) 2 4)) kk) m = (K3 (s114a7l rec n m) 0 2 4) := by
  induction m with
  | zero => exact (by kernel_rfl : loopN (fun kk => D114 rec n c114x9 (xs x0 0 (K2 (s114a6 rec n) 2 4)) kk) 0 = (K3 (s114a7l rec n 0) 0 2 4))
  | succ m ih =>
    refine (by kernel_rfl : loopN (fun kk => D114 rec n c114x9 (xs x0 0 (K2 (s114a6 rec n) 2 4)) kk) (m + 1) = D114 rec n c114x9 (xs x0 0 (K2 (s114a6 rec n) 2 4)) (loopN (fun kk => D114 rec n c114x9 (xs x0 0 (K2 (s114a6 rec n) 2 4)) kk) m)).trans ?_
    rw [ih]
    exact (s114a7be rec n (s114a7l rec n m)).trans (by kernel_rfl)
theorem s114a7e : D114 rec n c114x8 (xs x0 0 (K2 (s114a6 rec n) 2 4)) (K2 (s114a6 rec n) 2 4) = (K3 (s114a7 rec n) 0 2 4) :=
  (by kernel_rfl : D114 rec n c114x8 (xs x0 0 (K2 (s114a6 rec n) 2 4)) (K2 (s114a6 rec n) 2 4) = loopN (fun kk => D114 rec n c114x9 (xs x0 0 (K2 (s114a6 rec n) 2 4)) kk) n).trans ((s114a7le rec n n).trans (by kernel_rfl))
theorem s114a5p2 : D114 rec n c114x5 x0 r114 = D114 rec n c114x7 x0 (K2 (s114a6 rec n) 2 4) :=
  congrArg (fun k => D114 rec n c114x7 x0 k) (s114a6e rec n)
theorem s114a5e : D114 rec n c114x5 x0 r114 = (K3 (s114a5 rec n) 0 2 4) :=
  (s114a5p2 rec n).trans
  ((by kernel_rfl : D114 rec n c114x7 x0 (K2 (s114a6 rec n) 2 4) = D114 rec n c114x8 (xs x0 0 (K2 (s114a6 rec n) 2 4)) (K2 (s114a6 rec n) 2 4)).trans
  ((s114a7e rec n).trans (by kernel_rfl)))
theorem s114a4p3 : D114 rec n c114x4 x0 r114 = D114 rec n c114x10 x0 (K3 (s114a5 rec n) 0 2 4) :=
  congrArg (fun k => D114 rec n c114x10 x0 k) (s114a5e rec n)
theorem s114a4q4 (q0 : TT3) : D114 rec n c114x10 x0 (K3 q0 0 2 4) = fun (env : Env) (h : Hp) =>
 bnd (pField 5 (env 3) (resv 2 h)) fun v1 h1 =>
 bnd (pLoad1 v1 h1) fun v2 h2 =>
 bnd (pIndexAddr 6 v2 (.i .i64 (Int.ofNat 0)) h2) fun v3 h3 =>
 bnd (pLoadA 6 v3 h3) fun v4 h4 =>
 bnd (pLoadA 6 (env 3) h4) fun v5 h5 =>
 bnd (rec 138 [v5] h5) fun v6 h6 =>
 cnd (sameR (pLoadA 6 v3 h6) v4 && (sameR (pLoad1 v1 h6) v2 && true)) (
 bnd (pBuildSliceAt (nthPos 0 h.next) [(.i .i64 (Int.ofNat 0)), (.s []), (.i .i64 (Int.ofNat 0)), .l0, .l0, .l0, (.i .i64 (Int.ofNat 0)), (.s []), (.i .i64 (Int.ofNat 0)), .l0, .l0, .l0] 2 [(0, 6, v4), (6, 6, v6)] h6) fun v7 h7 =>
 bnd (pBuild [(.i .i64 (Int.ofNat 0)), (.s []), (.i .i64 (Int.ofNat 0)), .l0, .l0, .l0] [(0, 1, (.i .i64 (Int.ofNat 8))), (5, 1, v7)] h7) fun v8 h8 =>
 bnd (pNewAt (nthPos 1 h.next) [(.i .i64 (Int.ofNat 0)), (.s []), (.i .i64 (Int.ofNat 0)), .l0, .l0, .l0] h8) fun v9 h9 =>
 bnd (pStore 6 v9 v8 h9) fun v10 h10 =>
    q0 (env 0) (env 2) v9 h10) := by kernel_rfl
theorem s114a4q4u : (fun (env : Env) (h : Hp) =>
 bnd (pField 5 (env 3) (resv 2 h)) fun v1 h1 =>
 bnd (pLoad1 v1 h1) fun v2 h2 =>
 bnd (pIndexAddr 6 v2 (.i .i64 (Int.ofNat 0)) h2) fun v3 h3 =>
 bnd (pLoadA 6 v3 h3) fun v4 h4 =>
 bnd (pLoadA 6 (env 3) h4) fun v5 h5 =>
 bnd (rec 138 [v5] h5) fun v6 h6 =>
 cnd (sameR (pLoadA 6 v3 h6) v4 && (sameR (pLoad1 v1 h6) v2 && true)) (
 bnd (pBuildSliceAt (nthPos 0 h.next) [(.i .i64 (Int.ofNat 0)), (.s []), (.i .i64 (Int.ofNat 0)), .l0, .l0, .l0, (.i .i64 (Int.ofNat 0)), (.s []), (.i .i64 (Int.ofNat 0)), .l0, .l0, .l0] 2 [(0, 6, v4), (6, 6, v6)] h6) fun v7 h7 =>
 bnd (pBuild [(.i .i64 (Int.ofNat 0)), (.s []), (.i .i64 (Int.ofNat 0)), .l0, .l0, .l0] [(0, 1, (.i .i64 (Int.ofNat 8))), (5, 1, v7)] h7) fun v8 h8 =>
 bnd (pNewAt (nthPos 1 h.next) [(.i .i64 (Int.ofNat 0)), (.s []), (.i .i64 (Int.ofNat 0)), .l0, .l0, .l0] h8) fun v9 h9 =>
 bnd (pStore 6 v9 v8 h9) fun v10 h10 =>
    s114a5 rec n (env 0) (env 2) v9 h10)) = (K3 (s114a4 rec n) 0 2 3) := by kernel_rfl
theorem s114a4e : D114 rec n c114x4 x0 r114 = (K3 (s114a4 rec n) 0 2 3) :=
  (s114a4p3 rec n).trans
  ((s114a4q4 rec n (s114a5 rec n)).trans (s114a4q4u rec n))
theorem s114a3p5 : D114 rec n c114x3 x0 r114 = D114 rec n c114x11 x0 (K3 (s114a4 rec n) 0 2 3) :=
  congrArg (fun k => D114 rec n c114x11 x0 k) (s114a4e rec n)
theorem s114a3e : D114 rec n c114x3 x0 r114 = (K3 (s114a3 rec n) 0 2 3) :=
  (s114a3p5 rec n).trans
  ((by kernel_rfl))
theorem s114a2p6 : D114 rec n c114x2 x0 r114 = D114 rec n c114x12 x0 (K3 (s114a3 rec n) 0 2 3) :=
  congrArg (fun k => D114 rec n c114x12 x0 k) (s114a3e rec n)
theorem s114a2e : D114 rec n c114x2 x0 r114 = (K3 (s114a2 rec n) 0 2 3) :=
  (s114a2p6 rec n).trans
  ((by kernel_rfl))
theorem s114a1p7 : D114 rec n c114x1 x0 r114 = D114 rec n c114x13 x0 (K3 (s114a2 rec n) 0 2 3) :=
  congrArg (fun k => D114 rec n c114x13 x0 k) (s114a2e rec n)
theorem s114a1q8 (q0 : TT3) : D114 rec n c114x13 x0 (K3 q0 0 2 3) = fun (env : Env) (h : Hp) =>
 bnd (rec 137 [(env 0)] h) fun v1 h1 =>
 bnd (rec 136 [(env 0), v1] h1) fun v2 h2 =>
 bnd (rec 135 [(env 0), v2] h2) fun v3 h3 =>
 bnd (rec 134 [(env 0), v3] h3) fun v4 h4 =>
 bnd (pNew [(.i .i64 (Int.ofNat 0)), (.s []), (.i .i64 (Int.ofNat 0)), .l0, .l0, .l0] h4) fun v5 h5 =>
 bnd (pStore 6 v5 v4 h5) fun _ h6 =>
    q0 (env 0) (env 2) v5 h6 := by kernel_rfl
theorem s114a1q8u : (fun (env : Env) (h : Hp) =>
 bnd (rec 137 [(env 0)] h) fun v1 h1 =>
 bnd (rec 136 [(env 0), v1] h1) fun v2 h2 =>
 bnd (rec 135 [(env 0), v2] h2) fun v3 h3 =>
 bnd (rec 134 [(env 0), v3] h3) fun v4 h4 =>
 bnd (pNew [(.i .i64 (Int.ofNat 0)), (.s []), (.i .i64 (Int.ofNat 0)), .l0, .l0, .l0] h4) fun v5 h5 =>
 bnd (pStore 6 v5 v4 h5) fun _ h6 =>
    s114a2 rec n (env 0) (env 2) v5 h6) = (K2 (s114a1 rec n) 0 2) := by kernel_rfl
theorem s114a1e : D114 rec n c114x1 x0 r114 = (K2 (s114a1 rec n) 0 2) :=
  (s114a1p7 rec n).trans
  ((s114a1q8 rec n (s114a2 rec n)).trans (s114a1q8u rec n))
theorem s114p9 : D114 rec n c114 x0 r114 = D114 rec n c114x14 x0 (K2 (s114a1 rec n) 0 2) :=
  congrArg (fun k => D114 rec n c114x14 x0 k) (s114a1e rec n)
theorem s114q10 (q0 : TT2) : D114 rec n c114x14 x0 (K2 q0 0 2) = fun (env : Env) (h : Hp) =>
 bnd (pNew [(.i .i64 (Int.ofNat 0)), (.s []), (.i .i64 (Int.ofNat 0)), .l0, .l0, .l0] h) fun v1 h1 =>
    q0 (env 0) v1 h1 := by kernel_rfl
theorem s114q10u : (fun (env : Env) (h : Hp) =>
 bnd (pNew [(.i .i64 (Int.ofNat 0)), (.s []), (.i .i64 (Int.ofNat 0)), .l0, .l0, .l0] h) fun v1 h1 =>
    s114a1 rec n (env 0) v1 h1) = (K1 (s114 rec n) 0) := by kernel_rfl
theorem s114m : D114 rec n c114 x0 r114 = (K1 (s114 rec n) 0) :=
  (s114p9 rec n).trans
  ((s114q10 rec n (s114a1 rec n)).trans (s114q10u rec n))
theorem s114ok (args : List DV) (h : Hp) : bodyD CF rec n 114 args h = s114 rec n (args.getD 0 undefD) h :=
  (by kernel_rfl : bodyD CF rec n 114 args h = D114 rec n c114 x0 r114 (argsE args) h).trans ((congrFun (congrFun (s114m rec n) (argsE args)) h).trans (by kernel_rfl))
/-- show.height -/
def s126 (rec : RT) (n : Nat) (x0 : DV) (h0 : Hp) : Res :=
 bnd (pBox x0 h0) fun v1 h1 =>
 bnd (pField 0 v1 h1) fun v2 h2 =>
 bnd (pLoad1 v2 h2) fun v3 h3 =>
 bnd (pInt .eql v3 (.i .i64 (Int.ofNat 7)) h3) fun v4 h4 =>
 ifD v4 (
 bnd (pField 1 v1 h4) fun v5 h5 =>
 bnd (pLoad1 v5 h5) fun v6 h6 =>
 bnd (rec 32 [v6] h6) fun v7 h7 =>
 some (v7, h7)) (
 bnd (pInt .eql v3 (.i .i64 (Int.ofNat 8)) h4) fun v8 h8 =>
 ifD v8 (
 some ((.i .i64 (Int.ofNat 4)), h8)) (
 bnd (pInt .eql v3 (.i .i64 (Int.ofNat 6)) h8) fun v9 h9 =>
 ifD v9 (
 some ((.i .i64 (Int.ofNat 5)), h9)) (
 some ((.i .i64 (Int.ofNat 0)), h9))))
abbrev c126 : Code := cf Tryz.f126
abbrev r126 : K := retK CF Tryz.f126
def D126 (rec : RT) (n : Nat) (c : Code) (X : Nat → K) (k : K) : K := codeD CF rec 14 n c X r126 k
theorem s126m : D126 rec n c126 x0 r126 = (K1 (s126 rec n) 0) :=
  (by kernel_rfl)
theorem s126ok (args : List DV) (h : Hp) : bodyD CF rec n 126 args h = s126 rec n (args.getD 0 undefD) h :=
  (by kernel_rfl : bodyD CF rec n 126 args h = D126 rec n c126 x0 r126 (argsE args) h).trans ((congrFun (congrFun (s126m rec n) (argsE args)) h).trans (by kernel_rfl))

end
end Go.Dd

