/- Dd, part CLO: what a function comes to by plain names, reckoned once, with a mask of what was seen. -/
import Derived.Test.YtfakmddlgjngnaaGreatDoorRows
set_option linter.unusedVariables false
namespace Go.Dd
open Go

/-- The closure, told only where it is done in time. -/
noncomputable def cloO (P : Program) (n : Nat) : List Nat → List Nat → Nat → Option (List Nat) :=
  Nat.rec (motive := fun _ => List Nat → List Nat → Nat → Option (List Nat)) (fun _ _ _ => none)
    (fun _ ih todo seen m => match todo with
      | [] => some seen.reverse
      | f :: todo => bif Nat.testBit m f then ih todo seen m else ih ((P.funcs[f]?).elim [] P.leadsTo ++ todo) (f :: seen) (Nat.lor m (Nat.shiftLeft 1 f))) n

/-- Calls that stand in functions not seen yet. -/
def cloU (P : Program) (seen : List Nat) : Nat → Nat
  | 0 => 0
  | k + 1 => (if seen.contains k then 0 else ((P.funcs[k]?).elim [] P.leadsTo).length) + cloU P seen k

theorem cloU_cons_out (P : Program) (seen : List Nat) (f : Nat) : ∀ k, k ≤ f → cloU P (f :: seen) k = cloU P seen k
  | 0, _ => rfl
  | k + 1, h => by
    unfold cloU
    rw [cloU_cons_out P seen f k (by omega)]
    have : (f :: seen).contains k = seen.contains k := by
      rw [List.contains_cons]
      have : (k == f) = false := by simp; omega
      rw [this, Bool.false_or]
    rw [this]

theorem cloU_cons_in (P : Program) (seen : List Nat) (f : Nat) (hs : seen.contains f = false) : ∀ k, f < k → cloU P (f :: seen) k + ((P.funcs[f]?).elim [] P.leadsTo).length = cloU P seen k
  | 0, h => by omega
  | k + 1, h => by
    unfold cloU
    by_cases e : f = k
    · subst e
      rw [cloU_cons_out P seen f f (Nat.le_refl _), hs, show (f :: seen).contains f = true by simp]
      simp only [if_true, Bool.false_eq_true, if_false]
      omega
    · have ih := cloU_cons_in P seen f hs k (by omega)
      have : (f :: seen).contains k = seen.contains k := by
        rw [List.contains_cons]
        have : (k == f) = false := by simp; omega
        rw [this, Bool.false_or]
      rw [this]
      omega

theorem clo_step (P : Program) (seen : List Nat) (f : Nat) (hs : seen.contains f = false) : cloU P (f :: seen) P.funcs.size + ((P.funcs[f]?).elim [] P.leadsTo).length = cloU P seen P.funcs.size := by
  by_cases h : f < P.funcs.size
  · exact cloU_cons_in P seen f hs _ h
  · rw [cloU_cons_out P seen f _ (by omega), Array.getElem?_eq_none (by omega)]
    simp

theorem clo_done (P : Program) : ∀ (N : Nat) (todo seen : List Nat) (m : Nat) (L : List Nat), (∀ f, Nat.testBit m f = seen.contains f) → cloO P N todo seen m = some L →
    ∀ n, todo.length + cloU P seen P.funcs.size ≤ n → P.closureVia n todo seen = L
  | 0, _, _, _, _, _, h, _, _ => by cases h
  | N + 1, [], seen, m, L, hm, h, n, _ => by
    have h' : some seen.reverse = some L := h
    cases h'
    cases n <;> rfl
  | N + 1, f :: todo, seen, m, L, hm, h, n, hn => by
    change (bif Nat.testBit m f then cloO P N todo seen m else cloO P N ((P.funcs[f]?).elim [] P.leadsTo ++ todo) (f :: seen) (Nat.lor m (Nat.shiftLeft 1 f))) = some L at h
    obtain ⟨n, rfl⟩ : ∃ k, n = k + 1 := ⟨n - 1, by simp only [List.length_cons] at hn; omega⟩
    unfold Program.closureVia
    rw [hm f] at h
    cases hc : seen.contains f with
    | true =>
      rw [hc, cond_true] at h
      rw [if_pos rfl]
      exact clo_done P N todo seen m L hm h n (by simp only [List.length_cons] at hn; omega)
    | false =>
      rw [hc, cond_false] at h
      rw [if_neg (by decide)]
      refine clo_done P N _ _ _ L (fun g => ?_) h n ?_
      · show Nat.testBit (m ||| (1 <<< f)) g = _
        rw [Nat.testBit_or, hm g, Nat.one_shiftLeft, Nat.testBit_two_pow, List.contains_cons, Bool.or_comm]
        congr 1
        by_cases e : f = g
        · subst e; simp
        · simp [e, Ne.symm e]
      · have := clo_step P seen f hc
        simp only [List.length_cons, List.length_append] at hn ⊢
        omega

theorem cloU_le (P : Program) : cloU P [] P.funcs.size ≤ (P.funcs.toList.map fun g => (P.leadsTo g).length + 1).sum := by
  have key : ∀ (k : Nat) (l : List Func), (∀ i, i < k → (P.funcs[i]?) = l[i]?) → l.length = k → cloU P [] k ≤ (l.map fun g => (P.leadsTo g).length + 1).sum := by
    intro k
    induction k with
    | zero => intro l _ hl; unfold cloU; omega
    | succ k ih =>
      intro l h hl
      have hne : l ≠ [] := by intro e; subst e; simp at hl
      have e := List.dropLast_concat_getLast hne
      have h1 := ih l.dropLast (fun i hi => by
        rw [h i (by omega), ← e, List.getElem?_append_left (by rw [List.length_dropLast]; omega)]
        simp) (by rw [List.length_dropLast]; omega)
      have h2 : P.funcs[k]? = some (l.getLast hne) := by
        rw [h k (by omega), List.getElem?_eq_getElem (by omega), List.getLast_eq_getElem]
        congr 2
        omega
      rw [← e, List.map_append, List.sum_append]
      unfold cloU
      rw [h2]
      simp only [List.contains_nil, Bool.false_eq_true, if_false, List.map_cons, List.map_nil, List.sum_cons, List.sum_nil]
      show (P.leadsTo (l.getLast hne)).length + _ ≤ _
      omega
  exact key _ P.funcs.toList (fun i _ => by simp) (by simp)

theorem closure_is (P : Program) (f : Nat) (N : Nat) (L : List Nat) (h : cloO P N [f] [] 0 = some L) : P.closure f = L := by
  unfold Program.closure
  refine clo_done P N [f] [] 0 L (fun g => by simp) h _ ?_
  have := cloU_le P
  simp only [List.length_cons, List.length_nil]
  omega

/-- What is reckoned over the closure. -/
theorem closure_via (P : Program) (f : Nat) (N : Nat) {α : Type} (φ : List Nat → α) (v : α) (h : (cloO P N [f] [] 0).map φ = some v) : φ (P.closure f) = v := by
  cases e : cloO P N [f] [] 0 with
  | none => rw [e] at h; cases h
  | some L =>
    rw [e] at h
    rw [closure_is P f N L e]
    exact Option.some.inj h

/-- The cells of a row that are reckoned over the closure. -/
def cloF (P : Program) (L : List Nat) : List String × Bool × List String :=
  (P.inPlaceOf L, L.any (fun g => (P.funcs[g]?).any fun fn => match fn.body with | some c => c.unfollowed | none => entryCalls fn), P.varsOf L)

theorem clo_inPlace {P : Program} {f : Nat} {a : List String} {b : Bool} {c : List String} (h : cloF P (P.closure f) = (a, b, c)) : P.inPlace f = a := congrArg (·.1) h
theorem clo_unfollowed {P : Program} {f : Nat} {a : List String} {b : Bool} {c : List String} (h : cloF P (P.closure f) = (a, b, c)) : P.unfollowed f = b := congrArg (·.2.1) h
theorem clo_named {P : Program} {f : Nat} {a : List String} {b : Bool} {c : List String} (h : cloF P (P.closure f) = (a, b, c)) : P.varsNamed f = c := congrArg (·.2.2) h
theorem clo_recurses {P : Program} {f : Nat} (h : P.unfollowed f = true) : P.recurses f = true := by unfold Program.recurses; rw [h]; rfl
end Go.Dd
