/- Dd, part S8: a closed call stands wherever it is called: lives. -/
import Derived.Test.YtliejomdaookoaaDdxS7
set_option linter.unusedVariables false
set_option linter.unusedSimpArgs false
set_option maxRecDepth 100000
namespace Go.Dd
open Go.Proofs Go.RowKit

theorem HR.later {G : Gd} {ρ : Ren} {h : Hp} {w w' : World} (H : HR G ρ h w) (e : Below w.heap.size w w') : HR G ρ h w' where
  sz := ⟨Nat.le_trans H.sz.1 e.size, fun k hk => Nat.lt_of_lt_of_le (H.sz.2 k hk) e.size⟩
  nx := H.nx
  ro := H.ro
  dom := H.dom
  lt := H.lt
  cell := fun b k l L i v h1 h2 h3 h4 => by
    obtain ⟨v', h5, h6⟩ := H.cell b k l L i v h1 h2 h3 h4
    exact ⟨v', by rw [e.cell (cell_lt h5)]; exact h5, h6⟩
  spare := fun b l L es j h1 h2 h3 => by
    obtain ⟨v', h5⟩ := H.spare b l L es j h1 h2 h3
    exact ⟨v', by rw [e.cell (cell_lt h5)]; exact h5⟩
  free := fun b a h1 h2 => by
    obtain ⟨v, hv⟩ := H.lt_cell h1
    rw [e.frozen (cell_lt hv)]
    exact H.free b a h1 h2
  inj := H.inj
  ex := H.ex
  grone := H.grone
  itr := fun b s pos L h1 h2 => by
    obtain ⟨a, b, bs, c, d⟩ := H.itr b s pos L h1 h2
    refine ⟨a, b, bs, ?_, d⟩
    rw [e.block _ (Array.getElem?_eq_some_iff.1 c).1]
    exact c
  itj := H.itj

theorem Kp.later {G : Gd} {ρ : Ren} {h : Hp} {w w' : World} (H : HR G ρ h w) (e : Below w.heap.size w w') : Kp G w w' :=
  ⟨e.mono H.sz.1, fun k hk => e.block k (H.sz.2 k hk)⟩

/-- What a closed call that answers a bool does to any heap: nothing. -/
theorem closed_ok {n : Nat} {f : FuncId} {r : Bool} {h1 : Hp} (hr : shD n f [] h00 = some (.b r, h1)) (fn : Func) (hf : Try.prog.funcs[f]? = some fn) (hb : fn.body.isSome = true) (G : Gd) :
    FnOk CF.P G f (fun args h => match args with
      | [] => some (.b r, h)
      | _ => none) := by
  intro args h v h2 he ρ w args' H hargs
  cases args with
  | cons _ _ => cases he
  | nil =>
    simp only [Option.some.injEq, Prod.mk.injEq] at he
    obtain ⟨rfl, rfl⟩ := he
    have e0 : args' = #[] := by
      obtain ⟨a⟩ := args'
      cases hargs
      rfl
    subst e0
    refine .inl ⟨?_, ?_⟩
    · have hf' : CF.P.funcs[f]? = some fn := hf
      have hn : ¬ fn.name = "runtime.NumGoroutine" := by simpa using Try_ok.names f fn hf'
      have hbn : fn.body ≠ none := by intro e; rw [e] at hb; cases hb
      unfold callFunc
      simp [hf', hn, hbn]
    · refine (top hr fn hf hb w #[] .nil).mono ?_
      rintro e w' ⟨ρ', v', rfl, hv, _, hbel⟩
      cases hv
      exact ⟨ρ, _, rfl, Ex.refl _ _, .b _, H.later hbel, Kp.later H hbel⟩

/-- The calls of a body, one of them by its answer. -/
noncomputable def recL (l : FuncId) (r : Bool) (n : Nat) : FuncId → List DV → Hp → Res := fun g =>
  bif Nat.beq g l then (fun args h => match args with
      | [] => some (.b r, h)
      | _ => none) else shD n g

theorem recL_ok {n m : Nat} {f : FuncId} {r : Bool} {h1 : Hp} (hr : shD m f [] h00 = some (.b r, h1)) (fn : Func) (hf : Try.prog.funcs[f]? = some fn) (hb : fn.body.isSome = true) : OkC CF (recL f r n) := by
  refine ⟨CF_own, fun G g => ?_⟩
  unfold recL
  cases hg : Nat.beq g f with
  | true =>
    cases Nat.eq_of_beq_eq_true hg
    exact closed_ok hr fn hf hb G
  | false =>
    show FnOk CF.P G g (shD n g)
    rw [shD_eq]
    exact fnD_ok Try_ok CF_own n G g

theorem recL_self (l : FuncId) (r : Bool) (n : Nat) (h : Hp) : recL l r n l [] h = some (.b r, h) := by
  unfold recL
  rw [show Nat.beq l l = true from by simp]
  rfl

theorem recL_other {l g : FuncId} (r : Bool) (n : Nat) (e : Nat.beq g l = false) : recL l r n g = shD n g := by
  unfold recL
  rw [e]
  rfl

end Go.Dd
