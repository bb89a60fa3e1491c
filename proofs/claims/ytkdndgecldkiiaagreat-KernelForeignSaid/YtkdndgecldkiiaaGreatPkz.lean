/-
  Proved here: vivariumlaw12.KernelForeign returns true for every input: a memory of any things is no world: any few objects, any roots. Conditions: none.
-/
import Derived.Test.YtkdndgecldkiiaaGreatPk9
import Derived.Test.YtkdndgecldkiiaaGreatRows
import Derived.WalkKit
import Derived.ProofKit
import Derived.OpenShut
import Derived.ChangeMaps5
import Derived.Carry
set_option linter.unusedVariables false
namespace Go.Proofs.YtkdndgecldkiiaaGreat.kernelForeign
open Go.ChangeShapes Go.WideShapes Go.ChangeAt Go.RowKit Go.ChangeMaps

theorem own : ownKnob Tryz.prog.godebug = none := by kernel_rfl

theorem dDw : laidOutB Tryz.prog = true := by kernel_rfl

theorem dFr {H : Type} {enc : TypeId × Value → H} (a0 : Int) (w0 : (Lit.int .i64 a0).wf = true) (v1 : Value) (w : World) {n : Nat} {x : DataW H × List MemPlace} (hx : DataW.trod enc Tryz.prog w 0 (fun _ => true) true n 41 [v1] = some x) :
    Calls Tryz.prog 6 #[.int .i64 a0, v1] w fun e w' => e = .returned (.bool true) ∧ Below w.heap.size w w' := by
  obtain ⟨ρ, h0, L, R, hv, T⟩ := Go.Dd.aLx hx
  exact Go.Dd.bYd (Go.Dd.aMl (Go.bounds_i64 w0) T) Tryz.f6 Tryz.func6 (by kernel_rfl) w R _ (.cons _ _ _ _ (.i _ _) (.cons _ _ _ _ hv .nil))

set_option maxRecDepth 100000 in
theorem lifted (os : Os) (started : os.Started) (H : Type) (enc : TypeId × Value → H) :
    ReturnsInHanded {} Tryz.checked os 6 .any (Rows.kernelForeignSpec.pre6 enc Tryz.prog Tryz.f6 Rows.kernelForeignRow.domain false) (Rows.kernelForeignSpec.post enc Tryz.prog Tryz.f6 false true false false) := by
  refine returnsInHanded_of_change (C := Tryz.checked) own started (by kernel_rfl) Tryz.func6
    (ChangeSpec.witness6 (enc := enc) (C := Tryz.checked) false ⟨#[], #[.int .i64 0, .slice none 0 0], []⟩ 8 (by kernel_rfl) (by kernel_rfl) (by kernel_rfl) (by kernel_rfl)) ?_
  intro W base args ds gs before hval0 hW hcnd _
  have hval : ∀ (j : Nat) t v, Tryz.f6.params[j]? = some t → args[j]? = some v → Value.okWide Tryz.prog W .any base t v := hval0
  have hW' := hW
  obtain ⟨p, q, hA0, hV, rfl, hfz, hnd⟩ := hW
  have hA : DataW.TrodAll enc Tryz.prog W 0 (fun _ => true) true Tryz.f6.params.toList args.toList ds p := hA0
  rw [Tryz.params6] at hA hval
  obtain ⟨v0, vs0, d0, ds0, p0, q0, hargs, rfl, rfl, h0, r0⟩ := trodAll_cons hA
  obtain ⟨v1, vs1, d1, ds1, p1, q1, rfl, rfl, rfl, h1, r1⟩ := trodAll_cons r0
  obtain ⟨rfl, rfl, rfl⟩ := trodAll_nil r1
  obtain rfl : args = #[v0, v1] := by cases args; simp_all
  obtain ⟨rfl, rfl⟩ := trodVars_none hV
  obtain ⟨a0, rfl, rfl, rfl, w0⟩ := open_int Tryz.underlying3 (hval 0 3 v0 rfl rfl) h0
  obtain ⟨a1, len1, cap1, rfl⟩ := okWide_slice Tryz.underlying41 (hval 1 41 v1 rfl rfl)
  clear hA0 hval0
  have hlt := hW'.lt
  obtain ⟨n1, t1⟩ := id h1
  refine (dFr a0 w0 _ W t1).mono fun e W' ⟨he, hg⟩ => ?_
  subst he
  have k1 := Below.trod dDw (by kernel_rfl) (of_decide_eq_true (by kernel_rfl)) h1 hg (fun x hx => hlt x (by simp [hx]))
  exact ⟨_, rfl, _, _, _, [], _, [], hW', trodAll_cons_mk (shut_bool Tryz.underlying4 _) trodAll_mk0, trodAll_cons_mk (shut_int Tryz.underlying3 w0) (trodAll_cons_mk k1 trodAll_mk0), rfl, hg.frame _, fun h => by cases h⟩

theorem over : Rows.kernelForeignRow.holds Tryz.pinned (OpenSpec.ofChange Rows.kernelForeignSpec) :=
  OpenClaim.holds_of_wide 6 Tryz.f6 rfl rfl rfl rfl rfl rfl rfl ⟨rfl, rfl, rfl, rfl, rfl⟩ rfl rfl rfl rfl rfl (by kernel_rfl) Tryz.func6 (by kernel_rfl)
    (of_decide_eq_true (by kernel_rfl)) (by unfold Func.isWrapper; first | (rw [if_pos (by decide +kernel)]; kernel_rfl) | (rw [if_neg (by decide +kernel)]; exact ⟨rfl, rfl⟩))
    (fun os started H enc _ => lifted os started H enc)

/-- ████ THE STATEMENT ████ -/
theorem proved : Rows.KernelForeignSaid :=
  over
#print axioms proved
end Go.Proofs.YtkdndgecldkiiaaGreat.kernelForeign
