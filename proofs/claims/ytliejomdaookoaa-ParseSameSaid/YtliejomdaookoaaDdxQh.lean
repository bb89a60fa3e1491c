/- Dd, part Q (printed by gen.py): the functions of the seat's program as Lean functions, linked to Dd. -/
import Derived.Test.YtliejomdaookoaaDdxO
import Derived.Test.YtliejomdaookoaaProg
import Derived.KernelRfl
set_option linter.unusedVariables false
set_option maxRecDepth 100000
namespace Go.Dd
open Go.Proofs

def cf (f : Func) : Code := match f.body with
  | some c => c
  | none => .skip
def cL : Code → Code
  | .seq a _ => a
  | .cond _ a _ => a
  | .block _ a => a
  | .loop a => a
  | .scope a => a
  | c => c
def cR : Code → Code
  | .seq _ b => b
  | .cond _ _ b => b
  | c => c
def cC : Code → Operand
  | .cond c _ _ => c
  | _ => .const .nilFunc

def x0 : Nat → K := fun _ => failK
def xs (X : Nat → K) (i : Nat) (k : K) : Nat → K := fun j => bif Nat.beq j i then k else X j

def idxGo (c : Nat) : List Nat → Nat → Int
  | [], _ => .negSucc 0
  | x :: l, i => bif Nat.beq x c then .ofNat i else idxGo c l (i + 1)

def idxF (args : List DV) (h : Hp) : Res :=
  match args with
  | [.s l, .i .u8 (.ofNat c)] => bif Nat.blt c 256 then some (.i .i64 (idxGo c l 0), h) else none
  | _ => none

noncomputable def CF : Cfg := ⟨Try.prog, fun g => bif Nat.beq g 77 then some idxF else none⟩

