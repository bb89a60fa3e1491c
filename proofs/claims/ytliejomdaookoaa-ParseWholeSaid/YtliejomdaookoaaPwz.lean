/-
  Proved here: vivariumlaw07.ParseWhole returns true for every string: what is read has just the names and literals of its source. Conditions: none.
-/
import Derived.Test.YtliejomdaookoaaPw4
import Derived.Test.YtliejomdaookoaaRows
import Derived.WalkKit
import Derived.ProofKit
import Derived.OpenShut
import Derived.ChangeMaps5
set_option linter.unusedVariables false
namespace Go.Dd
open Go.Proofs Go.RowKit

theorem Sy.start : Sy (fun _ => none) [] [] [] h00 where
  wf := fun b o e => by cases b <;> cases e
  im := fun b o e => by cases e
  loc := fun b o m => by simp at m
  lt := fun b o m => by simp at m
  nd := by simp
  dj := fun b o m => by simp at m

/-- A law of a text that runs to true, its lives answered, returns true. -/
theorem run_text {f : FuncId} {s : ByteArray} {F : Nat → Res} (e : ∀ n, bodyD CF (recL 9 true n) n f [.s (s.data.toList.map (·.toNat))] h00 = F n) (H : Ev F (fun v _ => v = .b true)) (fn : Func) (hf : Try.prog.funcs[f]? = some fn) (hb : fn.body.isSome = true) (w : World) :
    Calls Try.prog f #[.string s] w fun e w' => e = .returned (.bool true) ∧ Below w.heap.size w w' := by
  obtain ⟨v, h1, N, rfl, hN⟩ := H
  have hr := (e N).trans (hN N (Nat.le_refl _))
  obtain ⟨hl, el⟩ := lives9
  rcases body_ok (recL_ok el Try.f9 Try.func9 (by kernel_rfl)) Try_ok N f _ h00 _ h1 hr _ w #[.string s] (Ro.none w).hr (.cons _ _ _ _ (.s _ s rfl) .nil) with ⟨_, h⟩ | ⟨ρ', w', v', h, _⟩
  · refine h.mono ?_
    rintro e w' ⟨ρ', v', rfl, h2, h3, h4, h5⟩
    cases h3
    exact ⟨rfl, h5.low⟩
  · exfalso
    have hf' : CF.P.funcs[f]? = some fn := hf
    have hn : ¬ fn.name = "runtime.NumGoroutine" := by simpa using Try_ok.names f fn hf'
    have hbn : fn.body ≠ none := by intro e; rw [e] at hb; cases hb
    unfold callFunc at h
    simp [hf', hn, hbn] at h

theorem bytes_lt (s : ByteArray) : ∀ c ∈ s.data.toList.map (·.toNat), c < 256 := by
  intro c hc
  obtain ⟨b, _, rfl⟩ := List.mem_map.1 hc
  exact b.toNat_lt

theorem run5 (s : ByteArray) (w : World) : Calls Try.prog 5 #[.string s] w fun e w' => e = .returned (.bool true) ∧ Below w.heap.size w w' :=
  run_text (fun n => s5ok _ n _ h00) (whole_ok (bytes_lt s) Sy.start) Try.f5 Try.func5 (by kernel_rfl) w

end Go.Dd

namespace Go.Proofs.Ytliejomdaookoaa.parseWhole
open Go.ChangeShapes Go.WideShapes Go.ChangeAt Go.RowKit Go.ChangeMaps

theorem own : ownKnob Try.prog.godebug = none := by kernel_rfl

set_option maxRecDepth 100000 in
theorem lifted (os : Os) (started : os.Started) (H : Type) (enc : TypeId × Value → H) :
    ReturnsInHanded {} Try.checked os 5 .any (Rows.parseWholeSpec.pre6 enc Try.prog Try.f5 Rows.parseWholeRow.domain false) (Rows.parseWholeSpec.post enc Try.prog Try.f5 false true false false) := by
  refine returnsInHanded_of_change (C := Try.checked) own started (by kernel_rfl) Try.func5
    (ChangeSpec.witness6 (enc := enc) (C := Try.checked) false ⟨#[], #[.string ⟨#[]⟩], []⟩ 8 (by kernel_rfl) (by kernel_rfl) (by kernel_rfl) (by kernel_rfl)) ?_
  intro W base args ds gs before hval0 hW hcnd _
  have hval : ∀ (j : Nat) t v, Try.f5.params[j]? = some t → args[j]? = some v → Value.okWide Try.prog W .any base t v := hval0
  have hW' := hW
  obtain ⟨p, q, hA0, hV, rfl, hfz, hnd⟩ := hW
  have hA : DataW.TrodAll enc Try.prog W 0 (fun _ => true) true Try.f5.params.toList args.toList ds p := hA0
  rw [Try.params5] at hA hval
  obtain ⟨v0, vs0, d0, ds0, p0, q0, hargs, rfl, rfl, h0, r0⟩ := trodAll_cons hA
  obtain ⟨rfl, rfl, rfl⟩ := trodAll_nil r0
  obtain rfl : args = #[v0] := by cases args; simp_all
  obtain ⟨rfl, rfl⟩ := trodVars_none hV
  obtain ⟨s, rfl, rfl, rfl, hs⟩ := open_string Try.underlying9 (hval 0 9 v0 rfl rfl) h0
  clear hA0 hval0
  simp only [List.append_nil] at hW'
  refine (Go.Dd.run5 s W).mono fun e W' ⟨he, hg⟩ => ?_
  subst he
  exact ⟨_, rfl, _, _, _, [], [], [], hW', trodAll_cons_mk (shut_bool Try.underlying4 _) trodAll_mk0, trodAll_cons_mk (shut_string Try.underlying9 hs) trodAll_mk0, rfl, hg.frame _, fun h => by cases h⟩

theorem over : Rows.parseWholeRow.holds Try.pinned (OpenSpec.ofChange Rows.parseWholeSpec) :=
  OpenClaim.holds_of_wide 5 Try.f5 rfl rfl rfl rfl rfl rfl rfl ⟨rfl, rfl, rfl, rfl, rfl⟩ rfl rfl rfl rfl rfl (by kernel_rfl) Try.func5 (by kernel_rfl)
    (of_decide_eq_true (by kernel_rfl)) (by unfold Func.isWrapper; first | (rw [if_pos (by decide +kernel)]; kernel_rfl) | (rw [if_neg (by decide +kernel)]; exact ⟨rfl, rfl⟩))
    (fun os started H enc _ => lifted os started H enc)

/-- ████ THE STATEMENT ████ -/
theorem proved : Rows.ParseWholeSaid :=
  over
#print axioms proved
end Go.Proofs.Ytliejomdaookoaa.parseWhole
