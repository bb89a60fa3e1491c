/-
  Proved here: vivariumlaw08.ShowMethods returns true for every node: a method's node has just the document's text, or none. Conditions: none (the listed tables of Go's library are tied by the card).
-/
import Derived.Test.YtliejomdaookoaaGreatDoorSm5
set_option linter.unusedVariables false
namespace Go.Dd
open Go.Proofs Go.RowKit

theorem eAg {H : Type} {enc : TypeId × Value → H} {w : World} (F : Facts w) {n0 : Nat} {cs0 : Array Value} {x0 : DataW H × List MemPlace}
    (h0 : DataW.trod enc Tryz.prog w 0 (fun _ => true) true n0 25 cs0.toList = some x0) :
    Calls Tryz.prog 3 #[.agg cs0] w fun e w' => e = .returned (.bool true) ∧ Below w.heap.size w w' := by
  obtain ⟨ρ1, g1, d0, z0, R1, G1, E1, V1, N1, B1, M1⟩ := aCw n0 _ _ h0 (Ro.none w)
  obtain ⟨v, h3, N, rfl, hN⟩ := aWh R1.sy N1 B1 M1
  obtain ⟨hl, el⟩ := cRu
  have hr : aL CF (yK 10 true N) N 3 [.a d0] g1 = some (.b true, h3) := by
    rw [dPb]; exact hN N (Nat.le_refl _)
  refine (bYe (cMf el Tryz.f10 Tryz.func10 (by kernel_rfl)) hr Tryz.f3 Tryz.func3 (by kernel_rfl) F R1 _ (.cons _ _ _ _ (.a _ _ V1) .nil)).mono ?_
  rintro e w' ⟨ρ', v', rfl, hv, hbel⟩
  cases hv
  exact ⟨rfl, hbel⟩

end Go.Dd

namespace Go.Proofs.YtliejomdaookoaaGreatDoor.showMethods
open Go.ChangeShapes Go.WideShapes Go.ChangeAt Go.RowKit

set_option maxRecDepth 100000 in
theorem lifted (os : Os) (started : os.Started) (H : Type) (enc : TypeId × Value → H) :
    ReturnsInHanded {} Tryz.checked os 3 .any (fun w args => (Rows.showMethodsSpec.pre enc Tryz.prog Tryz.f3 [] false w args ∧ laidMetH Tryz.prog Rows.showMethodsRow.laid w) ∧ sizedMet enc Tryz.prog Tryz.f3 (OpenSpec.ofChange Rows.showMethodsSpec) false w args)
      (Rows.showMethodsSpec.post enc Tryz.prog Tryz.f3 false true false false) := by
  refine Go.Dd.aLz (C := Tryz.checked) (X := fun w _ => laidMetH Tryz.prog Rows.showMethodsRow.laid w) (fun _ _ _ hh h => h.of_heap hh) Go.Dd.own started (by kernel_rfl) Tryz.func3
    (ChangeSpec.witness_shaped (enc := enc) (C := Tryz.checked) (os := os) (X := fun w _ => laidMetH Tryz.prog Rows.showMethodsRow.laid w) false (World.laidAll Tryz.prog os Rows.showMethodsRow.laid) #[Go.Dd.zn] 8 (World.laidAll_os _ _ _)
      (World.shaped_of_ZipB (by kernel_rfl) (by kernel_rfl)) (by kernel_rfl) (by kernel_rfl) (by kernel_rfl)
      (by rw [MakeChecks.laidMetH_plain _ _ _ (by kernel_rfl)]; exact laidMet_laidAll _ (by kernel_rfl) (by kernel_rfl))) ?_
  intro W base args ds gs before hval0 hW hL hsh
  have hval : ∀ (j : Nat) t v, Tryz.f3.params[j]? = some t → args[j]? = some v → Value.okWide Tryz.prog W .any base t v := hval0
  have hW' := hW
  obtain ⟨p, q, hA0, hV, rfl, hfz, hnd⟩ := hW
  have hA : DataW.TrodAll enc Tryz.prog W 0 (fun _ => true) true Tryz.f3.params.toList args.toList ds p := hA0
  rw [Tryz.params3] at hA hval
  obtain ⟨v0, vs0, d0, ds0, p0, q0, hargs, rfl, rfl, h0, r0⟩ := trodAll_cons hA
  obtain ⟨rfl, rfl, rfl⟩ := trodAll_nil r0
  obtain rfl : args = #[v0] := by cases args; simp_all
  obtain ⟨rfl, rfl⟩ := trodVars_none hV
  obtain ⟨cs0, rfl⟩ := Go.Dd.cDu Tryz.underlying25 (hval 0 25 v0 rfl rfl)
  clear hA0 hval0
  rw [MakeChecks.laidMetH_plain _ _ _ (by kernel_rfl)] at hL
  have F : Go.Dd.Facts W := Go.Dd.cDg hL hsh
  obtain ⟨n0, t0⟩ := id h0
  have hlt := hW'.lt
  refine (Go.Dd.eAg F (cs0 := cs0) t0).mono fun e W' ⟨he, hg⟩ => ?_
  subst he
  have k0 := Below.trod Go.Dd.bSq (by kernel_rfl) (of_decide_eq_true (by kernel_rfl)) h0 hg (fun x hx => hlt x (by simp [hx]))
  exact ⟨_, rfl, _, _, _, [], _, [], hW', trodAll_cons_mk (shut_bool Tryz.underlying4 _) trodAll_mk0, trodAll_cons_mk k0 trodAll_mk0, rfl, hg.frame _, fun h => by cases h⟩

theorem over : Rows.showMethodsRow.holds Tryz.pinned (OpenSpec.ofChange Rows.showMethodsSpec) :=
  OpenClaim.holds_of_wide 3 Tryz.f3 rfl rfl rfl rfl rfl rfl rfl ⟨rfl, rfl, rfl, rfl, rfl⟩ rfl rfl rfl rfl rfl (by kernel_rfl) Tryz.func3 (by kernel_rfl)
    (of_decide_eq_true (by kernel_rfl)) (by unfold Func.isWrapper; first | (rw [if_pos (by decide +kernel)]; kernel_rfl) | (rw [if_neg (by decide +kernel)]; exact ⟨rfl, rfl⟩))
    (fun os started H enc _ => lifted os started H enc)

/-- ████ THE STATEMENT ████ -/
theorem proved : Rows.ShowMethodsCardSaid :=
  Claim7.holds_tied_plain_at .later [] [.data, .data, .data, .data, .pinned] true (true, "f792231021fc3ed74947b46c2d5db0e919859c610e5f68a48338efb6f64eab9b") false over (fun _ h => by cases h) (by kernel_rfl) (fun _ h => by cases h) showMethods_row_tie rfl ⟨rfl, rfl⟩ (by kernel_rfl) rfl
    (fun f fn hf hfn => by
      obtain rfl : f = 3 := Option.some.inj ((show Tryz.prog.funcNamed "vivarium/vivariumlaw08.ShowMethods" = some 3 by kernel_rfl).symm.trans hf) |>.symm
      obtain rfl : fn = Tryz.f3 := (Option.some.inj (Tryz.func3.symm.trans hfn)).symm
      exact ⟨by kernel_rfl, fun j t ht => by
        rw [Tryz.params3] at ht
        have hm : t ∈ [25] := by simpa using Array.mem_of_getElem? ht
        have hall : ([25].all fun u => !Tryz.prog.wantsStandIn u) = true := by kernel_rfl
        exact (show Tryz.prog.wantsStandIn t = false by simpa using List.all_eq_true.1 hall t hm)⟩)
    (by kernel_rfl)
#print axioms proved
end Go.Proofs.YtliejomdaookoaaGreatDoor.showMethods
