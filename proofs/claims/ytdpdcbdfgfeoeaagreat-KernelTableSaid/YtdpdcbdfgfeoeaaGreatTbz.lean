/-
  Proved here: vivariumlaw12.KernelTable returns true for every input: the methods that each world has are the document's, and each is told again: any row of the table. Conditions: none.
-/
import Derived.Test.YtdpdcbdfgfeoeaaGreatTb25
import Derived.Test.YtdpdcbdfgfeoeaaGreatRows
import Derived.WalkKit
import Derived.ProofKit
import Derived.OpenShut
import Derived.ChangeMaps5
set_option linter.unusedVariables false
namespace Go.Proofs.YtdpdcbdfgfeoeaaGreat.kernelTable
open Go.ChangeShapes Go.WideShapes Go.ChangeAt Go.RowKit Go.ChangeMaps

theorem own : ownKnob Tryz.prog.godebug = none := by kernel_rfl

theorem eJm (a0 : Int) (w0 : (Lit.int .i64 a0).wf = true) (w : World) :
    Calls Tryz.prog 8 #[.int .i64 a0] w fun e w' => e = .returned (.bool true) ∧ Below w.heap.size w w' :=
  Go.Dd.dJi (Go.Dd.bRf (Go.bounds_i64 w0)) Tryz.f8 Tryz.func8 (by kernel_rfl) w (Go.Dd.Ro.none w _) _ (.cons _ _ _ _ (.i _ _) .nil)

set_option maxRecDepth 100000 in
theorem lifted (os : Os) (started : os.Started) (H : Type) (enc : TypeId × Value → H) :
    ReturnsInHanded {} Tryz.checked os 8 .any (Rows.kernelTableSpec.pre6 enc Tryz.prog Tryz.f8 Rows.kernelTableRow.domain false) (Rows.kernelTableSpec.post enc Tryz.prog Tryz.f8 false true false false) := by
  refine returnsInHanded_of_change (C := Tryz.checked) own started (by kernel_rfl) Tryz.func8
    (ChangeSpec.witness6 (enc := enc) (C := Tryz.checked) false ⟨#[], #[.int .i64 0], []⟩ 8 (by kernel_rfl) (by kernel_rfl) (by kernel_rfl) (by kernel_rfl)) ?_
  intro W base args ds gs before hval0 hW hcnd _
  have hval : ∀ (j : Nat) t v, Tryz.f8.params[j]? = some t → args[j]? = some v → Value.okWide Tryz.prog W .any base t v := hval0
  have hW' := hW
  obtain ⟨p, q, hA0, hV, rfl, hfz, hnd⟩ := hW
  have hA : DataW.TrodAll enc Tryz.prog W 0 (fun _ => true) true Tryz.f8.params.toList args.toList ds p := hA0
  rw [Tryz.params8] at hA hval
  obtain ⟨v0, vs0, d0, ds0, p0, q0, hargs, rfl, rfl, h0, r0⟩ := trodAll_cons hA
  obtain ⟨rfl, rfl, rfl⟩ := trodAll_nil r0
  obtain rfl : args = #[v0] := by cases args; simp_all
  obtain ⟨rfl, rfl⟩ := trodVars_none hV
  obtain ⟨a0, rfl, rfl, rfl, w0⟩ := open_int Tryz.underlying3 (hval 0 3 v0 rfl rfl) h0
  clear hA0 hval0
  simp only [List.append_nil] at hW'
  refine (eJm a0 w0 W).mono fun e W' ⟨he, hg⟩ => ?_
  subst he
  exact ⟨_, rfl, _, _, _, [], [], [], hW', trodAll_cons_mk (shut_bool Tryz.underlying4 _) trodAll_mk0, trodAll_cons_mk (shut_int Tryz.underlying3 w0) trodAll_mk0, rfl, hg.frame _, fun h => by cases h⟩

/-! The row's closed dGi, four of them apart (each alone is checked in less memory). -/
theorem dKi : (Rows.kernelTableRow.inPlace == Tryz.prog.inPlace 8) = true := by kernel_rfl
theorem dRm : (Rows.kernelTableRow.unfollowed == Tryz.prog.unfollowed 8) = true := by kernel_rfl
theorem dRo : (Rows.kernelTableRow.recurses == Tryz.prog.recurses 8) = true := by kernel_rfl
theorem dLq : (Rows.kernelTableRow.named == Tryz.prog.varsNamed 8) = true := by kernel_rfl
theorem dGi : joinedFacts Tryz.prog 8 Tryz.f8 Rows.kernelTableSpec Rows.kernelTableRow = true := by
  unfold joinedFacts
  simp only [Bool.and_eq_true]
  and_intros
  rotate_left 9
  exact dKi
  exact dRm
  exact dRo
  exact dLq
  all_goals kernel_rfl

theorem over : Rows.kernelTableRow.holds Tryz.pinned (OpenSpec.ofChange Rows.kernelTableSpec) :=
  OpenClaim.holds_of_wide 8 Tryz.f8 rfl rfl rfl rfl rfl rfl rfl ⟨rfl, rfl, rfl, rfl, rfl⟩ rfl rfl rfl rfl rfl (by kernel_rfl) Tryz.func8 dGi
    (of_decide_eq_true (by kernel_rfl)) (by unfold Func.isWrapper; first | (rw [if_pos (by decide +kernel)]; kernel_rfl) | (rw [if_neg (by decide +kernel)]; exact ⟨rfl, rfl⟩))
    (fun os started H enc _ => lifted os started H enc)

/-- ████ THE STATEMENT ████ -/
theorem proved : Rows.KernelTableSaid :=
  over
#print axioms proved
end Go.Proofs.YtdpdcbdfgfeoeaaGreat.kernelTable
