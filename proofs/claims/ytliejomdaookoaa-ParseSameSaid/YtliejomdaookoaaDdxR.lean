/- Dd, part R: from a run of Dd to a call of the program. -/
import Derived.Test.YtliejomdaookoaaDdxQt
import Derived.Lib.Bytealg
set_option linter.unusedVariables false
set_option linter.unusedSimpArgs false
set_option maxRecDepth 100000
namespace Go.Dd
open Go.Proofs Go.Lib Go.RowKit

theorem idxGo_eq (c : Nat) (hc : c < 256) : ∀ (l : List UInt8) (i : Nat), idxGo c (l.map (·.toNat)) i = if indexByte l c.toUInt8 = -1 then -1 else indexByte l c.toUInt8 + i
  | [], i => rfl
  | b :: l, i => by
    have hb : Nat.beq b.toNat c = (b == c.toUInt8) := by
      rw [Bool.eq_iff_iff]
      constructor
      · intro h
        have := Nat.eq_of_beq_eq_true h
        simp [← this]
      · intro h
        have h2 : b = c.toUInt8 := by simpa using h
        rw [h2]
        have : (c.toUInt8).toNat = c := by simp [Nat.toUInt8]; omega
        rw [this]; simp
    show (bif Nat.beq b.toNat c then Int.ofNat i else idxGo c (l.map (·.toNat)) (i + 1)) = _
    rw [hb]
    unfold indexByte
    cases h : (b == c.toUInt8) with
    | true => simp
    | false =>
      have ih := idxGo_eq c hc l (i + 1)
      have hge := indexByte_ge l c.toUInt8
      simp only [cond_false, Bool.false_eq_true, if_false]
      rw [ih]
      by_cases h1 : indexByte l c.toUInt8 = -1
      · simp [h1]
      · simp only [h1, if_false, beq_iff_eq]
        rw [if_neg (by omega)]
        omega

theorem idx_ok (G : Gd) : FnOk CF.P G 77 idxF := by
  intro args h v h1 hr ρ w args' H hargs
  unfold idxF at hr
  split at hr <;> (try (cases hr; done))
  rename_i l c
  cases hc : Nat.blt c 256 with
  | false => rw [hc] at hr; cases hr
  | true =>
    rw [hc] at hr
    have hc' : c < 256 := by simpa using hc
    simp only [cond_true, Option.some.injEq, Prod.mk.injEq] at hr
    obtain ⟨rfl, rfl⟩ := hr
    obtain ⟨a⟩ := args'
    cases hargs with
    | cons x x' l1 l1' hx hxs =>
    cases hxs with
    | cons y y' l2 l2' hy hys =>
    cases hys
    cases hx with
    | s l bs hbs =>
    cases hy with
    | i k n =>
    refine .inr ⟨ρ, w, .int .i64 (indexByte bs.data.toList c.toUInt8), ?_, Ex.refl _ _, ?_, H, Kp.refl _ _⟩
    · rw [run_callFunc_extern (fn := Try.f77) (e := Extern.BytealgIndexByte.indexByte) (by kernel_rfl) (by kernel_rfl) (by kernel_rfl) (by kernel_rfl) (by kernel_rfl)]
      rw [run_indexByteString bs (Int.ofNat c) w]
      rfl
    · have e := idxGo_eq c hc' bs.data.toList 0
      rw [hbs] at e
      have e2 : idxGo c l 0 = indexByte bs.data.toList c.toUInt8 := by
        rw [e]
        split
        · rename_i h; exact h.symm
        · simp
      rw [e2]
      exact .i _ _

theorem CF_own (G : Gd) (g : FuncId) (F : List DV → Hp → Res) (h : CF.I g = some F) : FnOk CF.P G g F := by
  have e : CF.I g = bif Nat.beq g 77 then some idxF else none := rfl
  rw [e] at h
  cases hg : Nat.beq g 77 with
  | false => rw [hg] at h; cases h
  | true =>
    rw [hg] at h
    cases h
    cases Nat.eq_of_beq_eq_true hg
    exact idx_ok G

theorem names_all : (Try.prog.funcs.toList.all fun fn => !(fn.name == "runtime.NumGoroutine")) = true := by kernel_rfl

theorem Try_ok : POk CF.P where
  mixed := by kernel_rfl
  names := by
    intro f fn hf
    have h := List.all_eq_true.1 names_all fn (by
      have : Try.prog.funcs[f]? = some fn := hf
      obtain ⟨hlt, rfl⟩ := Array.getElem?_eq_some_iff.1 this
      simp)
    simpa using h

def h00 : Hp := ⟨.h, .e⟩

/-- A run of Dd from nothing is a call of the program. -/
theorem top {n : Nat} {f : FuncId} {args : List DV} {v : DV} {h1 : Hp} (hr : shD n f args h00 = some (v, h1)) (fn : Func) (hf : Try.prog.funcs[f]? = some fn) (hb : fn.body.isSome = true)
    (w : World) (args' : Array Value) (hargs : VRs (fun _ => none) args args'.toList) :
    Calls Try.prog f args' w fun e w' => ∃ ρ' v', e = .returned v' ∧ VR ρ' v v' ∧ HR ⟨w.heap.size, fun _ => False, 0⟩ ρ' h1 w' ∧ Below w.heap.size w w' := by
  rw [shD_eq] at hr
  have H : HR ⟨w.heap.size, fun _ => False, 0⟩ (fun _ => none) h00 w := by
    constructor
    · exact ⟨Nat.le_refl _, fun _ h => h.elim⟩
    · exact Nat.zero_le _
    · rintro b a ⟨k, l, L, _, h2, _⟩; cases h2
    · intro b o h; cases b <;> cases h
    · intro b L h; cases h
    · intro b k l L i v h h2; cases h2
    · intro b l L es j h h2; cases h2
    · rintro b a ⟨k, l, L, _, h2, _⟩; cases h2
    · rintro b b' a ⟨k, l, L, _, h2, _⟩; cases h2
    · intro b l L h h2; cases h2
    · intro b es l i v h; cases b <;> cases h
    · intro b s pos L h h2; cases h2
    · intro b s pos b' s' pos' L L' h h' h2; cases h2
  rcases fnD_ok (C := CF) Try_ok CF_own n _ f args h00 v h1 hr _ w args' H hargs with ⟨_, h⟩ | ⟨ρ', w', v', h, _⟩
  · refine h.mono ?_
    rintro e w' ⟨ρ', v', h1, h2, h3, h4, h5⟩
    exact ⟨ρ', v', h1, h3, h4, h5.low⟩
  · exfalso
    have hf' : CF.P.funcs[f]? = some fn := hf
    have hn : ¬ fn.name = "runtime.NumGoroutine" := by simpa using Try_ok.names f fn hf'
    have hbn : fn.body ≠ none := by intro e; rw [e] at hb; cases hb
    unfold callFunc at h
    simp [hf', hn, hbn] at h

end Go.Dd
