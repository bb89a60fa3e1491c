/-
  Proved here: vivariumlaw21.LinesParses returns true for every input: a script's lines read as the document says. The listed variables are tied by the card.
-/
import Derived.Test.YtjfmbeinhhdapaaGreatDoorPB9
import Derived.Test.YtjfmbeinhhdapaaGreatDoorPBtF3
import Derived.Test.YtjfmbeinhhdapaaGreatDoorPBtL
import Derived.Test.YtjfmbeinhhdapaaGreatDoorPBtG
set_option linter.unusedVariables false
namespace Go.Dd
open Go.Proofs Go.RowKit
theorem dKb {w : World} (F : Facts w) (s : ByteArray) : Calls Tryz.prog 3 #[.string s] w fun e w' => e = .returned (.bool true) ∧ Below w.heap.size w w' :=
  aKo (bEg _ _) Tryz.f3 Tryz.func3 (by kernel_rfl) w F _ (.cons _ _ _ _ (.s _ s rfl) .nil)
end Go.Dd

namespace Go.Proofs.YtjfmbeinhhdapaaGreatDoor.linesParses
open Go.ChangeShapes Go.WideShapes Go.ChangeAt Go.RowKit Go.ChangeMaps

set_option maxRecDepth 100000 in
theorem lifted (os : Os) (started : os.Started) (H : Type) (enc : TypeId × Value → H) :
    ReturnsInHanded {} Tryz.checked os 3 .any (fun w args => (Rows.linesParsesSpec.pre enc Tryz.prog Tryz.f3 [] false w args ∧ laidMetH Tryz.prog Rows.linesParsesRow.laid w) ∧ sizedMet enc Tryz.prog Tryz.f3 (OpenSpec.ofChange Rows.linesParsesSpec) false w args)
      (Rows.linesParsesSpec.post enc Tryz.prog Tryz.f3 false true false false) := by
  refine Go.Dd.jX (C := Tryz.checked) (X := fun w _ => laidMetH Tryz.prog Rows.linesParsesRow.laid w) (fun _ _ _ hh h => h.of_heap hh) Go.Dd.own started (by kernel_rfl) Tryz.func3
    (ChangeSpec.witness_shaped (enc := enc) (C := Tryz.checked) (os := os) (X := fun w _ => laidMetH Tryz.prog Rows.linesParsesRow.laid w) false (World.laidAll Tryz.prog os Rows.linesParsesRow.laid) #[.string ⟨#[]⟩] 3 (World.laidAll_os _ _ _)
      (World.shaped_of_ZipB (by kernel_rfl) (by kernel_rfl)) (by kernel_rfl) (by kernel_rfl) (by kernel_rfl)
      (by rw [MakeChecks.laidMetH_plain _ _ _ (by kernel_rfl)]; exact laidMet_laidAll _ (by kernel_rfl) (by kernel_rfl))) ?_
  intro W base args ds gs before hval0 hW hL hsh
  have hval : ∀ (j : Nat) t v, Tryz.f3.params[j]? = some t → args[j]? = some v → Value.okWide Tryz.prog W .any base t v := hval0
  have hW' := hW
  obtain ⟨p, q, hA0, hV, rfl, hfz, hnd⟩ := hW
  have hA : DataW.TrodAll enc Tryz.prog W 0 (fun _ => true) true Tryz.f3.params.toList args.toList ds p := hA0
  rw [Tryz.params3] at hA hval
  obtain ⟨v0, vs0, d0, ds0, p0, q0, hargs, rfl, rfl, h0, r0⟩ := trodAll_cons hA
  obtain ⟨rfl, rfl, rfl⟩ := trodAll_nil r0
  obtain rfl : args = #[v0] := by cases args; simp_all
  obtain ⟨rfl, rfl⟩ := trodVars_none hV
  obtain ⟨s, rfl, rfl, rfl, hs⟩ := open_string Tryz.underlying9 (hval 0 9 v0 rfl rfl) h0
  clear hA0 hval0
  simp only [List.append_nil] at hW'
  rw [MakeChecks.laidMetH_plain _ _ _ (by kernel_rfl)] at hL
  have F : Go.Dd.Facts W := Go.Dd.aFd hL hsh
  refine (Go.Dd.dKb F s).mono fun e W' ⟨he, hg⟩ => ?_
  subst he
  exact ⟨_, rfl, _, _, _, [], [], [], hW', trodAll_cons_mk (shut_bool Tryz.underlying4 _) trodAll_mk0, trodAll_cons_mk (shut_string Tryz.underlying9 hs) trodAll_mk0, rfl, hg.frame _, fun h => by cases h⟩

theorem over : Rows.linesParsesRow.holds Tryz.pinned (OpenSpec.ofChange Rows.linesParsesSpec) :=
  OpenClaim.holds_of_wide 3 Tryz.f3 rfl rfl rfl rfl rfl rfl rfl ⟨rfl, rfl, rfl, rfl, rfl⟩ rfl rfl rfl rfl rfl (by kernel_rfl) Tryz.func3 joined3
    (of_decide_eq_true (by kernel_rfl)) (by unfold Func.isWrapper; first | (rw [if_pos (by decide +kernel)]; kernel_rfl) | (rw [if_neg (by decide +kernel)]; exact ⟨rfl, rfl⟩))
    (fun os started H enc _ => lifted os started H enc)

/-- ████ THE STATEMENT ████ -/
theorem proved : Rows.LinesParsesCardSaid :=
  Claim7.holds_tied_plain_at .later [] [.pinned, .data, .sentinel, .sentinel, .data, .data, .data] true (true, "02820d94b491d53b168e7dea868416746a53553cd31a3ff8709cc2ef223cba14") true over (fun _ h => by cases h) (by kernel_rfl) (fun _ h => by cases h) linesParses_row_tie rfl ⟨rfl, rfl⟩ pMain rfl
    (fun f fn hf hfn => by
      obtain rfl : f = 3 := Option.some.inj ((show Tryz.prog.funcNamed "vivarium/vivariumlaw21.LinesParses" = some 3 by kernel_rfl).symm.trans hf) |>.symm
      obtain rfl : fn = Tryz.f3 := (Option.some.inj (Tryz.func3.symm.trans hfn)).symm
      exact ⟨pLooks, fun j t ht => by
        rw [Tryz.params3] at ht
        have hm : t ∈ [9] := by simpa using Array.mem_of_getElem? ht
        simp only [List.mem_cons, List.not_mem_nil, or_false] at hm
        rcases hm with rfl <;> exact pWants (by simp)⟩)
    (goesBy_none pNoGo rfl)
#print axioms proved
end Go.Proofs.YtjfmbeinhhdapaaGreatDoor.linesParses
