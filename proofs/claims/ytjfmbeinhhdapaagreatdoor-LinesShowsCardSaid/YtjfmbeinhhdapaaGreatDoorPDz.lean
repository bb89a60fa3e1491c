/-
  Proved here: vivariumlaw21.LinesShows returns true for every input: an answer is shown on one line as the document says. The listed variables are tied by the card.
-/
import Derived.Test.YtjfmbeinhhdapaaGreatDoorPD10
import Derived.Test.YtjfmbeinhhdapaaGreatDoorPDtF5
import Derived.Test.YtjfmbeinhhdapaaGreatDoorPDtL
import Derived.Test.YtjfmbeinhhdapaaGreatDoorPDtG
set_option linter.unusedVariables false
namespace Go.Dd
open Go.Proofs Go.RowKit

theorem bNi : laidOutB Tryz.prog = true := by kernel_rfl

theorem dZq {H : Type} {enc : TypeId × Value → H} {w : World} (F : Facts w) {n : Nat} {cs : Array Value} {x : DataW H × List MemPlace} (hx : DataW.trod enc Tryz.prog w 0 (fun _ => true) true n 32 cs.toList = some x) :
    Calls Tryz.prog 5 #[.agg cs] w fun e w' => e = .returned (.bool true) ∧ Below w.heap.size w w' := by
  obtain ⟨e, p, f, sh, tx, h1, he, hp, hf⟩ := cCe hx
  obtain ⟨cs⟩ := cs
  cases h1
  exact dJz (cCs e p _ _ f he hp hf _) Tryz.f5 Tryz.func5 (by kernel_rfl) w F _ (.cons _ _ _ _ (.a _ _ (.cons _ _ _ _ (.i _ _) (.cons _ _ _ _ (.i _ _) (.cons _ _ _ _ (.s _ sh rfl) (.cons _ _ _ _ (.s _ tx rfl) (.cons _ _ _ _ (.i _ _) .nil)))))) .nil)
end Go.Dd

namespace Go.Proofs.YtjfmbeinhhdapaaGreatDoor.linesShows
open Go.ChangeShapes Go.WideShapes Go.ChangeAt Go.RowKit Go.ChangeMaps

set_option maxRecDepth 100000 in
theorem lifted (os : Os) (started : os.Started) (H : Type) (enc : TypeId × Value → H) :
    ReturnsInHanded {} Tryz.checked os 5 .any (fun w args => (Rows.linesShowsSpec.pre enc Tryz.prog Tryz.f5 [] false w args ∧ laidMetH Tryz.prog Rows.linesShowsRow.laid w) ∧ sizedMet enc Tryz.prog Tryz.f5 (OpenSpec.ofChange Rows.linesShowsSpec) false w args)
      (Rows.linesShowsSpec.post enc Tryz.prog Tryz.f5 false true false false) := by
  refine Go.Dd.aLk (C := Tryz.checked) (X := fun w _ => laidMetH Tryz.prog Rows.linesShowsRow.laid w) (fun _ _ _ hh h => h.of_heap hh) Go.Dd.own started (by kernel_rfl) Tryz.func5
    (ChangeSpec.witness_shaped (enc := enc) (C := Tryz.checked) (os := os) (X := fun w _ => laidMetH Tryz.prog Rows.linesShowsRow.laid w) false (World.laidAll Tryz.prog os Rows.linesShowsRow.laid) #[.agg #[.int .i64 0, .int .i64 0, .string ⟨#[]⟩, .string ⟨#[]⟩, .int .i64 0]] 5 (World.laidAll_os _ _ _)
      (World.shaped_of_ZipB (by kernel_rfl) (by kernel_rfl)) (by kernel_rfl) (by kernel_rfl) (by kernel_rfl)
      (by rw [MakeChecks.laidMetH_plain _ _ _ (by kernel_rfl)]; exact laidMet_laidAll _ (by kernel_rfl) (by kernel_rfl))) ?_
  intro W base args ds gs before hval0 hW hL hsh
  have hval : ∀ (j : Nat) t v, Tryz.f5.params[j]? = some t → args[j]? = some v → Value.okWide Tryz.prog W .any base t v := hval0
  have hW' := hW
  obtain ⟨p, q, hA0, hV, rfl, hfz, hnd⟩ := hW
  have hA : DataW.TrodAll enc Tryz.prog W 0 (fun _ => true) true Tryz.f5.params.toList args.toList ds p := hA0
  rw [Tryz.params5] at hA hval
  obtain ⟨v0, vs0, d0, ds0, p0, q0, hargs, rfl, rfl, h0, r0⟩ := trodAll_cons hA
  obtain ⟨rfl, rfl, rfl⟩ := trodAll_nil r0
  obtain rfl : args = #[v0] := by cases args; simp_all
  obtain ⟨rfl, rfl⟩ := trodVars_none hV
  obtain ⟨cs0, rfl⟩ := Go.Dd.bRp Tryz.underlying32 (hval 0 32 v0 rfl rfl)
  clear hA0 hval0
  obtain ⟨n0, t0⟩ := id h0
  have hlt := hW'.lt
  rw [MakeChecks.laidMetH_plain _ _ _ (by kernel_rfl)] at hL
  have F : Go.Dd.Facts W := Go.Dd.cKj hL hsh
  refine (Go.Dd.dZq F t0).mono fun e W' ⟨he, hg⟩ => ?_
  subst he
  have k0 := Below.trod Go.Dd.bNi (by kernel_rfl) (of_decide_eq_true (by kernel_rfl)) h0 hg (fun x hx => hlt x (by simp [hx]))
  exact ⟨_, rfl, _, _, _, [], _, [], hW', trodAll_cons_mk (shut_bool Tryz.underlying4 _) trodAll_mk0, trodAll_cons_mk k0 trodAll_mk0, rfl, hg.frame _, fun h => by cases h⟩

theorem over : Rows.linesShowsRow.holds Tryz.pinned (OpenSpec.ofChange Rows.linesShowsSpec) :=
  OpenClaim.holds_of_wide 5 Tryz.f5 rfl rfl rfl rfl rfl rfl rfl ⟨rfl, rfl, rfl, rfl, rfl⟩ rfl rfl rfl rfl rfl (by kernel_rfl) Tryz.func5 joined5
    (of_decide_eq_true (by kernel_rfl)) (by unfold Func.isWrapper; first | (rw [if_pos (by decide +kernel)]; kernel_rfl) | (rw [if_neg (by decide +kernel)]; exact ⟨rfl, rfl⟩))
    (fun os started H enc _ => lifted os started H enc)

/-- ████ THE STATEMENT ████ -/
theorem proved : Rows.LinesShowsCardSaid :=
  Claim7.holds_tied_plain_at .later [] [.data, .data, .data, .pinned, .data, .sentinel, .sentinel] true (true, "02820d94b491d53b168e7dea868416746a53553cd31a3ff8709cc2ef223cba14") true over (fun _ h => by cases h) (by kernel_rfl) (fun _ h => by cases h) linesShows_row_tie rfl ⟨rfl, rfl⟩ pMain rfl
    (fun f fn hf hfn => by
      obtain rfl : f = 5 := Option.some.inj ((show Tryz.prog.funcNamed "vivarium/vivariumlaw21.LinesShows" = some 5 by kernel_rfl).symm.trans hf) |>.symm
      obtain rfl : fn = Tryz.f5 := (Option.some.inj (Tryz.func5.symm.trans hfn)).symm
      exact ⟨pLooks, fun j t ht => by
        rw [Tryz.params5] at ht
        have hm : t ∈ [32] := by simpa using Array.mem_of_getElem? ht
        simp only [List.mem_cons, List.not_mem_nil, or_false] at hm
        rcases hm with rfl <;> exact pWants (by simp)⟩)
    (goesBy_none pNoGo rfl)
#print axioms proved
end Go.Proofs.YtjfmbeinhhdapaaGreatDoor.linesShows
