/-
  Proved here: vivariumlaw07.ParseSame returns true for every two nodes: whether two nodes are the same is told as the document says. Conditions: none.
-/
import Derived.Test.YtliejomdaookoaaRows
import Derived.Test.YtliejomdaookoaaDdxS10
import Derived.WalkKit
import Derived.ProofKit
import Derived.OpenShut
import Derived.Carry
set_option linter.unusedVariables false
namespace Go.Dd
open Go.Proofs Go.RowKit

theorem ND.deeper : ∀ (p q : Nat) (hp : Hp) (u : List DV), p ≤ q → ND hp p u → ND hp q u
  | 0, q, hp, u, _, hh => hh.elim
  | p + 1, 0, hp, u, hq, _ => by omega
  | p + 1, q + 1, hp, u, hq, ⟨k, t, m, s1, s2, s3, l1, l2, ks, e, a, b, c, f⟩ =>
    ⟨k, t, m, s1, s2, s3, l1, l2, ks, e, a, b, c, fun y hy => ND.deeper p q hp y (by omega) (f y hy)⟩

/-- A run of one body over what is handed in, its calls answered otherwise, is a call of the program. -/
theorem top_body {rec : FuncId → List DV → Hp → Res} (K : OkC CF rec) {n : Nat} {f : FuncId} {args : List DV} {v : DV} {h h1 : Hp} (hr : bodyD CF rec n f args h = some (v, h1)) (fn : Func) (hf : Try.prog.funcs[f]? = some fn) (hb : fn.body.isSome = true)
    {ρ : Ren} {w : World} (R : Ro w ρ h) (args' : Array Value) (hargs : VRs ρ args args'.toList) :
    Calls Try.prog f args' w fun e w' => ∃ ρ' v', e = .returned v' ∧ VR ρ' v v' ∧ Below w.heap.size w w' := by
  rcases body_ok K Try_ok n f args h v h1 hr ρ w args' R.hr hargs with ⟨_, h⟩ | ⟨ρ', w', v', h, _⟩
  · refine h.mono ?_
    rintro e w' ⟨ρ', v', h1, h2, h3, h4, h5⟩
    exact ⟨ρ', v', h1, h3, h5.low⟩
  · exfalso
    have hf' : CF.P.funcs[f]? = some fn := hf
    have hn : ¬ fn.name = "runtime.NumGoroutine" := by simpa using Try_ok.names f fn hf'
    have hbn : fn.body ≠ none := by intro e; rw [e] at hb; cases hb
    unfold callFunc at h
    simp [hf', hn, hbn] at h

theorem run6 {H : Type} {enc : TypeId × Value → H} {w : World} {n0 n1 : Nat} {cs0 cs1 : Array Value} {x0 x1 : DataW H × List MemPlace}
    (h0 : DataW.trod enc Try.prog w 0 (fun _ => true) true n0 25 cs0.toList = some x0) (h1 : DataW.trod enc Try.prog w 0 (fun _ => true) true n1 25 cs1.toList = some x1) :
    Calls Try.prog 6 #[.agg cs0, .agg cs1] w fun e w' => e = .returned (.bool true) ∧ Below w.heap.size w w' := by
  obtain ⟨ρ1, g1, d0, R1, G1, E1, V1, N1⟩ := open_node n0 _ _ h0 (Ro.none w)
  obtain ⟨ρ2, g2, d1, R2, G2, E2, V2, N2⟩ := open_node n1 _ _ h1 R1
  obtain ⟨N, hN⟩ := s6_ok R2.wf (ND.deeper n0 (n0 + n1) g2 d0 (by omega) (N1.mono G2)) (ND.deeper n1 (n0 + n1) g2 d1 (by omega) N2)
  obtain ⟨h3, e3, _, _⟩ := hN N (Nat.le_refl _)
  obtain ⟨hl, el⟩ := lives9
  have hr : bodyD CF (recL 9 true N) N 6 [.a d0, .a d1] g2 = some (.b true, h3) := by
    rw [s6ok]; exact e3
  refine (top_body (recL_ok el Try.f9 Try.func9 (by kernel_rfl)) hr Try.f6 Try.func6 (by kernel_rfl) R2 _ (.cons _ _ _ _ (.a _ _ (V1.mono E2)) (.cons _ _ _ _ (.a _ _ V2) .nil))).mono ?_
  rintro e w' ⟨ρ', v', rfl, hv, hbel⟩
  cases hv
  exact ⟨rfl, hbel⟩

end Go.Dd

namespace Go.Proofs.Ytliejomdaookoaa.parseSame
open Go.ChangeShapes Go.WideShapes Go.ChangeAt Go.RowKit

theorem own : ownKnob Try.prog.godebug = none := by kernel_rfl
theorem laid : laidOutB Try.prog = true := by kernel_rfl

def zn : Value := .agg #[.int .i64 0, .string ⟨#[]⟩, .int .i64 0, .slice none 0 0, .slice none 0 0, .slice none 0 0]

theorem open_agg {P : Program} {W : World} {base : Nat} {t : TypeId} {v : Value} {fs : Array Field} (ht : P.underlying t = some (.struct fs)) (h : Value.okWide P W .any base t v) : ∃ cs, v = .agg cs := by
  unfold Value.okWide at h
  rw [ht] at h
  obtain ⟨cs, e, _⟩ := h
  exact ⟨cs, e⟩

set_option maxRecDepth 100000 in
theorem lifted (os : Os) (started : os.Started) (H : Type) (enc : TypeId × Value → H) :
    ReturnsInHanded {} Try.checked os 6 .any (Rows.parseSameSpec.pre6 enc Try.prog Try.f6 Rows.parseSameRow.domain false) (Rows.parseSameSpec.post enc Try.prog Try.f6 false true false false) := by
  refine returnsInHanded_of_change (C := Try.checked) own started (by kernel_rfl) Try.func6
    (ChangeSpec.witness6 (enc := enc) (C := Try.checked) false ⟨#[], #[zn, zn], []⟩ 8 (by kernel_rfl) (by kernel_rfl) (by kernel_rfl) (by kernel_rfl)) ?_
  intro W base args ds gs before hval0 hW hcnd _
  have hval : ∀ (j : Nat) t v, Try.f6.params[j]? = some t → args[j]? = some v → Value.okWide Try.prog W .any base t v := hval0
  have hW' := hW
  obtain ⟨p, q, hA0, hV, rfl, hfz, hnd⟩ := hW
  have hA : DataW.TrodAll enc Try.prog W 0 (fun _ => true) true Try.f6.params.toList args.toList ds p := hA0
  rw [Try.params6] at hA hval
  obtain ⟨v0, vs0, d0, ds0, p0, q0, hargs, rfl, rfl, h0, r0⟩ := trodAll_cons hA
  obtain ⟨v1, vs1, d1, ds1, p1, q1, rfl, rfl, rfl, h1, r1⟩ := trodAll_cons r0
  obtain ⟨rfl, rfl, rfl⟩ := trodAll_nil r1
  obtain rfl : args = #[v0, v1] := by cases args; simp_all
  obtain ⟨rfl, rfl⟩ := trodVars_none hV
  obtain ⟨cs0, rfl⟩ := open_agg Try.underlying25 (hval 0 25 v0 rfl rfl)
  obtain ⟨cs1, rfl⟩ := open_agg Try.underlying25 (hval 1 25 v1 rfl rfl)
  clear hA0 hval0
  obtain ⟨n0, t0⟩ := id h0
  obtain ⟨n1, t1⟩ := id h1
  have hlt := hW'.lt
  refine (Go.Dd.run6 (cs0 := cs0) (cs1 := cs1) t0 t1).mono fun e W' ⟨he, hg⟩ => ?_
  subst he
  have k0 := Below.trod laid (by kernel_rfl) (of_decide_eq_true (by kernel_rfl)) h0 hg (fun x hx => hlt x (by simp [hx]))
  have k1 := Below.trod laid (by kernel_rfl) (of_decide_eq_true (by kernel_rfl)) h1 hg (fun x hx => hlt x (by simp [hx]))
  exact ⟨_, rfl, _, _, _, [], _, [], hW', trodAll_cons_mk (shut_bool Try.underlying4 _) trodAll_mk0, trodAll_cons_mk k0 (trodAll_cons_mk k1 trodAll_mk0), rfl, hg.frame _, fun h => by cases h⟩

theorem over : Rows.parseSameRow.holds Try.pinned (OpenSpec.ofChange Rows.parseSameSpec) :=
  OpenClaim.holds_of_wide 6 Try.f6 rfl rfl rfl rfl rfl rfl rfl ⟨rfl, rfl, rfl, rfl, rfl⟩ rfl rfl rfl rfl rfl (by kernel_rfl) Try.func6 (by kernel_rfl)
    (of_decide_eq_true (by kernel_rfl)) (by unfold Func.isWrapper; first | (rw [if_pos (by decide +kernel)]; kernel_rfl) | (rw [if_neg (by decide +kernel)]; exact ⟨rfl, rfl⟩))
    (fun os started H enc _ => lifted os started H enc)

/-- ████ THE STATEMENT ████ -/
theorem proved : Rows.ParseSameSaid :=
  over
#print axioms proved
end Go.Proofs.Ytliejomdaookoaa.parseSame
