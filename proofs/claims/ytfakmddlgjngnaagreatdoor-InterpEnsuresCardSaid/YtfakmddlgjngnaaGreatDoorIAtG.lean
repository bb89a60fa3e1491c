/- Lines, part JG: no function of the program starts another goroutine. -/
import Derived.Test.YtfakmddlgjngnaaGreatDoorRows
import Derived.SevenTiedAt
namespace Go.Proofs.YtfakmddlgjngnaaGreatDoor
open Go
theorem pNoGo : Tryz.prog.funcs.any Func.goes = false := by kernel_rfl
theorem goes_none {P : Program} (h : P.funcs.any Func.goes = false) (f : FuncId) : P.goes f = false := by
  unfold Program.goes
  rw [h, Bool.and_false, Bool.or_false, List.any_eq_false]
  intro g _
  cases e : P.funcs[g]? with
  | none => simp
  | some fn =>
    have hm : fn ∈ P.funcs := Array.mem_of_getElem? e
    have := Array.any_eq_false'.1 h fn hm
    simpa using this
theorem goesBy_none {c : OpenClaim} {P : Program} (h : P.funcs.any Func.goes = false) (hs : c.start = .entering) : false = c.goesBy P := by
  unfold OpenClaim.goesBy Program.goesAt Program.goesFrom
  rw [hs]
  cases P.funcNamed c.func with
  | none => rfl
  | some f => simp [goes_none h f]
end Go.Proofs.YtfakmddlgjngnaaGreatDoor
