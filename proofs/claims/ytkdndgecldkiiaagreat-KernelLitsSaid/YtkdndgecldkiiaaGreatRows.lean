/-
  NARROWER THAN 'FOR EVERY INPUT', by the rows' own cells (each row's printed sentence says how): KernelLits: loops.
  DERIVED. THE GIVEN ROWS OF THIS SEAT. 4 by the template 'for every input the law returns true; each argument reads behind the call as it read before'; 0 by the template 'total and deterministic' (their statements: YtkdndgecldkiiaaGreatTotals.lean).
  GIVEN WITH THE SEED: the statements are not yours to turn. If you find one false, say at which input.
  Laid BY PROGRAM, IN A SANDBOX (cutbox-rows.mjs): the forced cells as the released guide's own fill.sh prints them over the translation ad264b0a2fe6a624… (all of the seat's roots in one cut). By AI agents, Wed Nov 11 2026. No macro, syntax, notation, axiom, sorry.
-/
import Derived.Test.YtkdndgecldkiiaaGreatChecked
import GoSem.Claim
import GoSem.ClaimJoined
import GoSem.ClaimMapViews
import Derived.JoinedTies
import Derived.KernelRfl
namespace Go.Proofs.YtkdndgecldkiiaaGreat
/- THE CELL 'sum', in the pinned program and in every row, IS THE sha256 OF THE DUMP (.gsa) THAT YtkdndgecldkiiaaGreatProg.lean LOADS. Nothing in Lean hashes anything: it is a label: what it is worth is what the hold of that sum in a sandbox is worth. -/
noncomputable def Tryz.pinned : Pinned := { name := "ytkdndgecldkiiaagreat", sum := "ad264b0a2fe6a6243f32b193b31eea253f51eff1e4c288bf640b850266068aa4", checked := Tryz.checked }
namespace Rows
def none {H : Type} : Left H := { results := [], args := [] }

/-- 'vivariumlaw13.FindHits': WHATEVER THE INPUT: true; the input reads as it did. -/
def findHitsSpec : ChangeSpec := { name := "findHits", fn := fun _ => fun
  | [d1, d2, d3, d4] => { results := [.lit (.bool true)], args := [d1, d2, d3, d4] }
  | _ => none }
def findHitsRow : OpenClaim := { program := "ytkdndgecldkiiaagreat", sum := "ad264b0a2fe6a6243f32b193b31eea253f51eff1e4c288bf640b850266068aa4", func := "vivarium/vivariumlaw13.FindHits", spec := "findHits", inPlace := ["internal/bytealg.IndexByteString"], unfollowed := true, recurses := true, apart := false }
def FindHitsSaid : Prop := findHitsRow.holds Tryz.pinned (OpenSpec.ofChange findHitsSpec)

/-- ITS FALSE NEIGHBOUR: 'it returns false'. Refute it at one input. -/
def findHitsWrong : ChangeSpec := { name := "findHits", fn := fun _ => fun
  | [d1, d2, d3, d4] => { results := [.lit (.bool false)], args := [d1, d2, d3, d4] }
  | _ => none }
def FindHitsWrongFalsely : Prop := findHitsRow.holds Tryz.pinned (OpenSpec.ofChange findHitsWrong)

/-- 'vivariumlaw16.FrameLimits': WHATEVER THE INPUT: true; the input reads as it did. -/
def frameLimitsSpec : ChangeSpec := { name := "frameLimits", fn := fun _ => fun
  | [d1, d2] => { results := [.lit (.bool true)], args := [d1, d2] }
  | _ => none }
def frameLimitsRow : OpenClaim := { program := "ytkdndgecldkiiaagreat", sum := "ad264b0a2fe6a6243f32b193b31eea253f51eff1e4c288bf640b850266068aa4", func := "vivarium/vivariumlaw16.FrameLimits", spec := "frameLimits", inPlace := ["internal/bytealg.IndexByteString"], unfollowed := true, recurses := true, apart := false }
def FrameLimitsSaid : Prop := frameLimitsRow.holds Tryz.pinned (OpenSpec.ofChange frameLimitsSpec)

/-- ITS FALSE NEIGHBOUR: 'it returns false'. Refute it at one input. -/
def frameLimitsWrong : ChangeSpec := { name := "frameLimits", fn := fun _ => fun
  | [d1, d2] => { results := [.lit (.bool false)], args := [d1, d2] }
  | _ => none }
def FrameLimitsWrongFalsely : Prop := frameLimitsRow.holds Tryz.pinned (OpenSpec.ofChange frameLimitsWrong)

/-- 'vivariumlaw12.KernelLits': WHATEVER THE INPUT: true; the input reads as it did. -/
def kernelLitsSpec : ChangeSpec := { name := "kernelLits", fn := fun _ => fun
  | [d] => { results := [.lit (.bool true)], args := [d] }
  | _ => none }
def kernelLitsRow : OpenClaim := { program := "ytkdndgecldkiiaagreat", sum := "ad264b0a2fe6a6243f32b193b31eea253f51eff1e4c288bf640b850266068aa4", func := "vivarium/vivariumlaw12.KernelLits", spec := "kernelLits", inPlace := ["internal/bytealg.IndexByteString"], unfollowed := true, recurses := true, loops := true, apart := false }
def KernelLitsSaid : Prop := kernelLitsRow.holds Tryz.pinned (OpenSpec.ofChange kernelLitsSpec)

/-- ITS FALSE NEIGHBOUR: 'it returns false'. Refute it at one input. -/
def kernelLitsWrong : ChangeSpec := { name := "kernelLits", fn := fun _ => fun
  | [d] => { results := [.lit (.bool false)], args := [d] }
  | _ => none }
def KernelLitsWrongFalsely : Prop := kernelLitsRow.holds Tryz.pinned (OpenSpec.ofChange kernelLitsWrong)

/-- 'vivariumlaw12.KernelForeign': WHATEVER THE INPUT: true; the input reads as it did. -/
def kernelForeignSpec : ChangeSpec := { name := "kernelForeign", fn := fun _ => fun
  | [d1, d2] => { results := [.lit (.bool true)], args := [d1, d2] }
  | _ => none }
def kernelForeignRow : OpenClaim := { program := "ytkdndgecldkiiaagreat", sum := "ad264b0a2fe6a6243f32b193b31eea253f51eff1e4c288bf640b850266068aa4", func := "vivarium/vivariumlaw12.KernelForeign", spec := "kernelForeign", inPlace := ["internal/bytealg.IndexByteString"], unfollowed := true, recurses := true, apart := false }
def KernelForeignSaid : Prop := kernelForeignRow.holds Tryz.pinned (OpenSpec.ofChange kernelForeignSpec)

/-- ITS FALSE NEIGHBOUR: 'it returns false'. Refute it at one input. -/
def kernelForeignWrong : ChangeSpec := { name := "kernelForeign", fn := fun _ => fun
  | [d1, d2] => { results := [.lit (.bool false)], args := [d1, d2] }
  | _ => none }
def KernelForeignWrongFalsely : Prop := kernelForeignRow.holds Tryz.pinned (OpenSpec.ofChange kernelForeignWrong)

/- THE SECOND FORM. 'bulk': how many values and letters a reading holds, each counted each time it is reached (what is shared counts as often as it is met; a slice's spare places count too). A statement '..UptoSaid' is the law's where the arguments, and the package variables that the reading takes, are together of bulk at most 1048576: NARROWER than '..Said'. Prove '..Said' where nothing that the law and all that it calls make is longer than what came in: it says more and counts as full. Else prove '..UptoSaid'. A law counts once. -/
mutual
def uptoBulk {H : Type} : DataW H → Nat
  | .lit (.string bytes) => bytes.length + 1
  | .lit _ => 1
  | .nil => 1
  | .ptr d => uptoBulk d + 1
  | .slice elems spare => uptoBulkAll elems + uptoBulkAll spare + 1
  | .agg parts => uptoBulkAll parts + 1
  | .iface _ d => uptoBulk d + 1
  | .map entries => uptoBulkEntries entries + 1
  | .held _ => 1
def uptoBulkAll {H : Type} : List (DataW H) → Nat
  | [] => 0
  | d :: r => uptoBulk d + uptoBulkAll r
def uptoBulkEntries {H : Type} : List (Lit × DataW H) → Nat
  | [] => 0
  | x :: r => uptoBulkEntry x + uptoBulkEntries r
def uptoBulkEntry {H : Type} : Lit × DataW H → Nat
  | (.string bytes, d) => bytes.length + uptoBulk d + 1
  | (_, d) => uptoBulk d + 1
 end
def uptoSmall : (H : Type) → List (DataW H) → Bool := fun _ ds => decide (uptoBulkAll ds ≤ 1048576)
def OpenSpec.upto (s : _root_.Go.ChangeSpec) : _root_.Go.OpenSpec := { _root_.Go.OpenSpec.ofChange s with cond := some uptoSmall }

/-- 'vivariumlaw13.FindHits', WHERE WHAT IT READS IS OF BULK AT MOST 1048576: true; the input reads as it did. -/
def findHitsUptoRow : OpenClaim := { program := "ytkdndgecldkiiaagreat", sum := "ad264b0a2fe6a6243f32b193b31eea253f51eff1e4c288bf640b850266068aa4", func := "vivarium/vivariumlaw13.FindHits", spec := "findHits", inPlace := ["internal/bytealg.IndexByteString"], unfollowed := true, recurses := true, apart := false, narrowed := true }
def FindHitsUptoSaid : Prop := findHitsUptoRow.holds Tryz.pinned (OpenSpec.upto findHitsSpec)

/-- 'vivariumlaw16.FrameLimits', WHERE WHAT IT READS IS OF BULK AT MOST 1048576: true; the input reads as it did. -/
def frameLimitsUptoRow : OpenClaim := { program := "ytkdndgecldkiiaagreat", sum := "ad264b0a2fe6a6243f32b193b31eea253f51eff1e4c288bf640b850266068aa4", func := "vivarium/vivariumlaw16.FrameLimits", spec := "frameLimits", inPlace := ["internal/bytealg.IndexByteString"], unfollowed := true, recurses := true, apart := false, narrowed := true }
def FrameLimitsUptoSaid : Prop := frameLimitsUptoRow.holds Tryz.pinned (OpenSpec.upto frameLimitsSpec)

/-- 'vivariumlaw12.KernelLits', WHERE WHAT IT READS IS OF BULK AT MOST 1048576: true; the input reads as it did. -/
def kernelLitsUptoRow : OpenClaim := { program := "ytkdndgecldkiiaagreat", sum := "ad264b0a2fe6a6243f32b193b31eea253f51eff1e4c288bf640b850266068aa4", func := "vivarium/vivariumlaw12.KernelLits", spec := "kernelLits", inPlace := ["internal/bytealg.IndexByteString"], unfollowed := true, recurses := true, loops := true, apart := false, narrowed := true }
def KernelLitsUptoSaid : Prop := kernelLitsUptoRow.holds Tryz.pinned (OpenSpec.upto kernelLitsSpec)

/-- 'vivariumlaw12.KernelForeign', WHERE WHAT IT READS IS OF BULK AT MOST 1048576: true; the input reads as it did. -/
def kernelForeignUptoRow : OpenClaim := { program := "ytkdndgecldkiiaagreat", sum := "ad264b0a2fe6a6243f32b193b31eea253f51eff1e4c288bf640b850266068aa4", func := "vivarium/vivariumlaw12.KernelForeign", spec := "kernelForeign", inPlace := ["internal/bytealg.IndexByteString"], unfollowed := true, recurses := true, apart := false, narrowed := true }
def KernelForeignUptoSaid : Prop := kernelForeignUptoRow.holds Tryz.pinned (OpenSpec.upto kernelForeignSpec)

end Rows
end Go.Proofs.YtkdndgecldkiiaaGreat
