/-
 Proved here: vivariumlaw17.InterpEnsures returns true for every input; the listed variables are tied by the card.
-/
import Derived.Test.YtfakmddlgjngnaaGreatDoorIA16
import Derived.Test.YtfakmddlgjngnaaGreatDoorIAtF4
import Derived.Test.YtfakmddlgjngnaaGreatDoorIAtL
import Derived.Test.YtfakmddlgjngnaaGreatDoorIAtG
namespace Go.Dd
open Go.Proofs Go.RowKit
theorem eXp {w : World} (F : Facts w) (n : Int) (b : Bool) (hn : -9223372036854775808 ≤ n ∧ n ≤ 9223372036854775807) : Calls Tryz.prog 4 #[.int .i64 n, .bool b] w fun e w' => e = .returned (.bool true) ∧ Below w.heap.size w w' :=
 fCr dYk (eDl hn b) Tryz.f4 Tryz.func4 (by kernel_rfl) w F (Ro.none w (aL 1)) _ (.cons _ _ _ _ (.i _ _) (.cons _ _ _ _ (.b _) .nil))
end Go.Dd

namespace Go.Proofs.YtfakmddlgjngnaaGreatDoor.interpEnsures
open Go.ChangeShapes Go.WideShapes Go.ChangeAt Go.RowKit Go.ChangeMaps

set_option maxRecDepth 100000 in
theorem lifted (os : Os) (started : os.Started) (H : Type) (enc : TypeId × Value → H) :
  ReturnsInHanded {} Tryz.checked os 4 .any (fun w args => (Rows.interpEnsuresSpec.pre enc Tryz.prog Tryz.f4 [] false w args ∧ laidMetH Tryz.prog Rows.interpEnsuresRow.laid w) ∧ sizedMet enc Tryz.prog Tryz.f4 (OpenSpec.ofChange Rows.interpEnsuresSpec) false w args)
   (Rows.interpEnsuresSpec.post enc Tryz.prog Tryz.f4 false true false false) := by
 refine Go.Dd.aOj (C := Tryz.checked) (X := fun w _ => laidMetH Tryz.prog Rows.interpEnsuresRow.laid w) (fun _ _ _ hh h => h.of_heap hh) Go.Dd.own started (by kernel_rfl) Tryz.func4
  (ChangeSpec.witness_shaped (enc := enc) (C := Tryz.checked) (os := os) (X := fun w _ => laidMetH Tryz.prog Rows.interpEnsuresRow.laid w) false (World.laidAll Tryz.prog os Rows.interpEnsuresRow.laid) #[.int .i64 0, .bool false] 4 (World.laidAll_os _ _ _)
   (World.shaped_of_ZipB (by kernel_rfl) (by kernel_rfl)) (by kernel_rfl) (by kernel_rfl) (by kernel_rfl)
   (by rw [MakeChecks.laidMetH_plain _ _ _ (by kernel_rfl)]; exact laidMet_laidAll _ (by kernel_rfl) (by kernel_rfl))) ?_
 intro W base args ds gs before hval0 hW hL hsh
 have hval : ∀ (j : Nat) t v, Tryz.f4.params[j]? = some t → args[j]? = some v → Value.okWide Tryz.prog W .any base t v := hval0
 have hW' := hW
 obtain ⟨p, q, hA0, hV, rfl, hfz, hnd⟩ := hW
 have hA : DataW.TrodAll enc Tryz.prog W 0 (fun _ => true) true Tryz.f4.params.toList args.toList ds p := hA0
 rw [Tryz.params4] at hA hval
 obtain ⟨v0, vs0, d0, ds0, p0, q0, hargs, rfl, rfl, h0, r0⟩ := trodAll_cons hA
 obtain ⟨v1, vs1, d1, ds1, p1, q1, hargs1, rfl, rfl, h1, r1⟩ := trodAll_cons r0
 obtain ⟨rfl, rfl, rfl⟩ := trodAll_nil r1
 obtain rfl : args = #[v0, v1] := by cases args; simp_all
 obtain ⟨rfl, rfl⟩ := trodVars_none hV
 obtain ⟨n, rfl, rfl, rfl, hn⟩ := open_int Tryz.underlying3 (hval 0 3 v0 rfl rfl) h0
 obtain ⟨b, rfl, rfl, rfl⟩ := open_bool Tryz.underlying4 (hval 1 4 v1 rfl rfl) h1
 clear hA0 hval0
 simp only [List.append_nil] at hW'
 rw [MakeChecks.laidMetH_plain _ _ _ (by kernel_rfl)] at hL
 have F : Go.Dd.Facts W := Go.Dd.dFg hL hsh
 refine (Go.Dd.eXp F n b (by simpa [Lit.wf, IntKind.min, IntKind.max, IntKind.bits, IntKind.signed] using hn)).mono fun e W' ⟨he, hg⟩ => ?_
 subst he
 exact ⟨_, rfl, _, _, _, [], [], [], hW', trodAll_cons_mk (shut_bool Tryz.underlying4 _) trodAll_mk0, trodAll_cons_mk (shut_int Tryz.underlying3 hn) (trodAll_cons_mk (shut_bool Tryz.underlying4 _) trodAll_mk0), rfl, hg.frame _, fun h => by cases h⟩

theorem over : Rows.interpEnsuresRow.holds Tryz.pinned (OpenSpec.ofChange Rows.interpEnsuresSpec) :=
 OpenClaim.holds_of_wide 4 Tryz.f4 rfl rfl rfl rfl rfl rfl rfl ⟨rfl, rfl, rfl, rfl, rfl⟩ rfl rfl rfl rfl rfl (by kernel_rfl) Tryz.func4 joined4
  (of_decide_eq_true (by kernel_rfl)) (by unfold Func.isWrapper; first | (rw [if_pos (by decide +kernel)]; kernel_rfl) | (rw [if_neg (by decide +kernel)]; exact ⟨rfl, rfl⟩))
  (fun os started H enc _ => lifted os started H enc)

/-- ████ THE STATEMENT ████ -/
theorem proved : Rows.InterpEnsuresCardSaid :=
 Claim7.holds_tied_plain_at .later [] [.data, .data, .data, .data, .pinned] true (true, "d8897b90254764dc82d3f586c56767f6ac90df73c92a62e604fc4d3b94a1a579") false over (fun _ h => by cases h) (by kernel_rfl) (fun _ h => by cases h) interpEnsures_row_tie rfl ⟨rfl, rfl⟩ pMain rfl
  (fun f fn hf hfn => by
   obtain rfl : f = 4 := Option.some.inj ((show Tryz.prog.funcNamed "vivarium/vivariumlaw17.InterpEnsures" = some 4 by kernel_rfl).symm.trans hf) |>.symm
   obtain rfl : fn = Tryz.f4 := (Option.some.inj (Tryz.func4.symm.trans hfn)).symm
   exact ⟨pLooks, fun j t ht => by
    rw [Tryz.params4] at ht
    have hm : t ∈ [3, 4] := by simpa using Array.mem_of_getElem? ht
    simp only [List.mem_cons, List.not_mem_nil, or_false] at hm
    rcases hm with rfl | rfl <;> exact pWants (by simp)⟩)
  (goesBy_none pNoGo rfl)
#print axioms proved
end Go.Proofs.YtfakmddlgjngnaaGreatDoor.interpEnsures
