/-
  Proved here: vivariumlaw14.PrimsElse returns true for every input: no other primitive is one, and none with another number of arguments; then nothing is made or changed: any number, any things. Conditions: none.
-/
import Derived.Test.YtilmobdncapnbaaGreatPe9
import Derived.Test.YtilmobdncapnbaaGreatRows
import Derived.WalkKit
import Derived.ProofKit
import Derived.OpenShut
import Derived.ChangeMaps5
set_option linter.unusedVariables false
namespace Go.Proofs.YtilmobdncapnbaaGreat.primsElse
open Go.ChangeShapes Go.WideShapes Go.ChangeAt Go.RowKit Go.ChangeMaps

theorem own : ownKnob Tryz.prog.godebug = none := by kernel_rfl

theorem dPv : laidOutB Tryz.prog = true := by kernel_rfl

theorem dMz {H : Type} {enc : TypeId × Value → H} (a0 : Int) (k1 n1 : Int) (s1 : ByteArray) (w1 : (Lit.int .i64 n1).wf = true) (v2 : Value) (w : World) {n : Nat} {x : DataW H × List MemPlace} (hx : DataW.trod enc Tryz.prog w 0 (fun _ => true) true n 51 [v2] = some x) :
    Calls Tryz.prog 11 #[.int .i64 a0, .agg #[.int .i64 k1, .int .i64 n1, .string s1], v2] w fun e w' => e = .returned (.bool true) ∧ Below w.heap.size w w' := by
  obtain ⟨ρ, bl, L, l, R, hv, T, hl, ob⟩ := Go.Dd.aMh hx
  exact Go.Dd.cXk (Go.Dd.cOa (n := a0) (Go.Dd.bHh w1) (Go.Dd.aKe s1) hl T ob) Tryz.f11 Tryz.func11 (by kernel_rfl) w R _ (.cons _ _ _ _ (.i _ _) (.cons _ _ _ _ (Go.Dd.bRm _ _ _) (.cons _ _ _ _ hv .nil)))

set_option maxRecDepth 100000 in
theorem lifted (os : Os) (started : os.Started) (H : Type) (enc : TypeId × Value → H) :
    ReturnsInHanded {} Tryz.checked os 11 .any (Rows.primsElseSpec.pre6 enc Tryz.prog Tryz.f11 Rows.primsElseRow.domain false) (Rows.primsElseSpec.post enc Tryz.prog Tryz.f11 false true false false) := by
  refine returnsInHanded_of_change (C := Tryz.checked) own started (by kernel_rfl) Tryz.func11
    (ChangeSpec.witness6 (enc := enc) (C := Tryz.checked) false ⟨#[], #[.int .i64 0, .agg #[.int .i64 0, .int .i64 0, .string ⟨#[]⟩], .slice none 0 0], []⟩ 8 (by kernel_rfl) (by kernel_rfl) (by kernel_rfl) (by kernel_rfl)) ?_
  intro W base args ds gs before hval0 hW hcnd _
  have hval : ∀ (j : Nat) t v, Tryz.f11.params[j]? = some t → args[j]? = some v → Value.okWide Tryz.prog W .any base t v := hval0
  have hW' := hW
  obtain ⟨p, q, hA0, hV, rfl, hfz, hnd⟩ := hW
  have hA : DataW.TrodAll enc Tryz.prog W 0 (fun _ => true) true Tryz.f11.params.toList args.toList ds p := hA0
  rw [Tryz.params11] at hA hval
  obtain ⟨v0, vs0, d0, ds0, p0, q0, hargs, rfl, rfl, h0, r0⟩ := trodAll_cons hA
  obtain ⟨v1, vs1, d1, ds1, p1, q1, rfl, rfl, rfl, h1, r1⟩ := trodAll_cons r0
  obtain ⟨v2, vs2, d2, ds2, p2, q2, rfl, rfl, rfl, h2, r2⟩ := trodAll_cons r1
  obtain ⟨rfl, rfl, rfl⟩ := trodAll_nil r2
  obtain rfl : args = #[v0, v1, v2] := by cases args; simp_all
  obtain ⟨rfl, rfl⟩ := trodVars_none hV
  obtain ⟨a0, rfl, rfl, rfl, w0⟩ := open_int Tryz.underlying3 (hval 0 3 v0 rfl rfl) h0
  obtain ⟨k1, n1, s1, rfl, rfl, w1, u1⟩ := Go.Dd.aPi (hval 1 23 v1 rfl rfl) h1
  obtain ⟨a2, len2, cap2, rfl⟩ := okWide_slice Tryz.underlying51 (hval 2 51 v2 rfl rfl)
  clear hA0 hval0
  have hlt := hW'.lt
  obtain ⟨n2, t2⟩ := id h2
  refine (dMz a0 k1 n1 s1 w1 _ W t2).mono fun e W' ⟨he, hg⟩ => ?_
  subst he
  have k2 := Below.trod dPv (by kernel_rfl) (of_decide_eq_true (by kernel_rfl)) h2 hg (fun x hx => hlt x (by simp [hx]))
  exact ⟨_, rfl, _, _, _, [], _, [], hW', trodAll_cons_mk (shut_bool Tryz.underlying4 _) trodAll_mk0, trodAll_cons_mk (shut_int Tryz.underlying3 w0) (trodAll_cons_mk (u1 _ _ _) (trodAll_cons_mk k2 trodAll_mk0)), rfl, hg.frame _, fun h => by cases h⟩

theorem over : Rows.primsElseRow.holds Tryz.pinned (OpenSpec.ofChange Rows.primsElseSpec) :=
  OpenClaim.holds_of_wide 11 Tryz.f11 rfl rfl rfl rfl rfl rfl rfl ⟨rfl, rfl, rfl, rfl, rfl⟩ rfl rfl rfl rfl rfl (by kernel_rfl) Tryz.func11 (by kernel_rfl)
    (of_decide_eq_true (by kernel_rfl)) (by unfold Func.isWrapper; first | (rw [if_pos (by decide +kernel)]; kernel_rfl) | (rw [if_neg (by decide +kernel)]; exact ⟨rfl, rfl⟩))
    (fun os started H enc _ => lifted os started H enc)

/-- ████ THE STATEMENT ████ -/
theorem proved : Rows.PrimsElseSaid :=
  over
#print axioms proved
end Go.Proofs.YtilmobdncapnbaaGreat.primsElse
