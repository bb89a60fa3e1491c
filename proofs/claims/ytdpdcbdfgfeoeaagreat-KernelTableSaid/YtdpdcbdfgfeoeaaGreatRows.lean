/-
  NARROWER THAN 'FOR EVERY INPUT', by the rows' own cells (each row's printed sentence says how): KernelLits: loops · KernelFull: loops.
  DERIVED. THE GIVEN ROWS OF THIS SEAT. 7 by the template 'for every input the law returns true; each argument reads behind the call as it read before'; 0 by the template 'total and deterministic' (their statements: YtdpdcbdfgfeoeaaGreatTotals.lean).
  GIVEN WITH THE SEED: the statements are not yours to turn. If you find one false, say at which input.
  Laid BY PROGRAM, IN A SANDBOX (cutbox-rows.mjs): the forced cells as the released guide's own fill.sh prints them over the translation f5a2eb0ca9138044… (all of the seat's roots in one cut). By AI agents, Wed Nov 11 2026. No macro, syntax, notation, axiom, sorry.
-/
import Derived.Test.YtdpdcbdfgfeoeaaGreatChecked
import GoSem.Claim
import GoSem.ClaimJoined
import GoSem.ClaimMapViews
import Derived.JoinedTies
import Derived.KernelRfl
namespace Go.Proofs.YtdpdcbdfgfeoeaaGreat
/- THE CELL 'sum', in the pinned program and in every row, IS THE sha256 OF THE DUMP (.gsa) THAT YtdpdcbdfgfeoeaaGreatProg.lean LOADS. Nothing in Lean hashes anything: it is a label: what it is worth is what the hold of that sum in a sandbox is worth. -/
noncomputable def Tryz.pinned : Pinned := { name := "ytdpdcbdfgfeoeaagreat", sum := "f5a2eb0ca913804452992a9ed27ef6ab5b590babe9e3dd9d782891b4f2912427", checked := Tryz.checked }
namespace Rows
def none {H : Type} : Left H := { results := [], args := [] }

/-- 'vivariumlaw12.KernelTexts': WHATEVER THE INPUT: true; the input reads as it did. -/
def kernelTextsSpec : ChangeSpec := { name := "kernelTexts", fn := fun _ => fun
  | [d1, d2] => { results := [.lit (.bool true)], args := [d1, d2] }
  | _ => none }
def kernelTextsRow : OpenClaim := { program := "ytdpdcbdfgfeoeaagreat", sum := "f5a2eb0ca913804452992a9ed27ef6ab5b590babe9e3dd9d782891b4f2912427", func := "vivarium/vivariumlaw12.KernelTexts", spec := "kernelTexts", inPlace := ["internal/bytealg.IndexByteString"], unfollowed := true, recurses := true, apart := false }
def KernelTextsSaid : Prop := kernelTextsRow.holds Tryz.pinned (OpenSpec.ofChange kernelTextsSpec)

/-- ITS FALSE NEIGHBOUR: 'it returns false'. Refute it at one input. -/
def kernelTextsWrong : ChangeSpec := { name := "kernelTexts", fn := fun _ => fun
  | [d1, d2] => { results := [.lit (.bool false)], args := [d1, d2] }
  | _ => none }
def KernelTextsWrongFalsely : Prop := kernelTextsRow.holds Tryz.pinned (OpenSpec.ofChange kernelTextsWrong)

/-- 'vivariumlaw12.KernelNumbers': WHATEVER THE INPUT: true; the input reads as it did. -/
def kernelNumbersSpec : ChangeSpec := { name := "kernelNumbers", fn := fun _ => fun
  | [d1, d2] => { results := [.lit (.bool true)], args := [d1, d2] }
  | _ => none }
def kernelNumbersRow : OpenClaim := { program := "ytdpdcbdfgfeoeaagreat", sum := "f5a2eb0ca913804452992a9ed27ef6ab5b590babe9e3dd9d782891b4f2912427", func := "vivarium/vivariumlaw12.KernelNumbers", spec := "kernelNumbers", inPlace := ["internal/bytealg.IndexByteString"], unfollowed := true, recurses := true, apart := false }
def KernelNumbersSaid : Prop := kernelNumbersRow.holds Tryz.pinned (OpenSpec.ofChange kernelNumbersSpec)

/-- ITS FALSE NEIGHBOUR: 'it returns false'. Refute it at one input. -/
def kernelNumbersWrong : ChangeSpec := { name := "kernelNumbers", fn := fun _ => fun
  | [d1, d2] => { results := [.lit (.bool false)], args := [d1, d2] }
  | _ => none }
def KernelNumbersWrongFalsely : Prop := kernelNumbersRow.holds Tryz.pinned (OpenSpec.ofChange kernelNumbersWrong)

/-- 'vivariumlaw12.KernelRoom': WHATEVER THE INPUT: true; the input reads as it did. -/
def kernelRoomSpec : ChangeSpec := { name := "kernelRoom", fn := fun _ => fun
  | [d] => { results := [.lit (.bool true)], args := [d] }
  | _ => none }
def kernelRoomRow : OpenClaim := { program := "ytdpdcbdfgfeoeaagreat", sum := "f5a2eb0ca913804452992a9ed27ef6ab5b590babe9e3dd9d782891b4f2912427", func := "vivarium/vivariumlaw12.KernelRoom", spec := "kernelRoom", inPlace := ["internal/bytealg.IndexByteString"], unfollowed := true, recurses := true, apart := false }
def KernelRoomSaid : Prop := kernelRoomRow.holds Tryz.pinned (OpenSpec.ofChange kernelRoomSpec)

/-- ITS FALSE NEIGHBOUR: 'it returns false'. Refute it at one input. -/
def kernelRoomWrong : ChangeSpec := { name := "kernelRoom", fn := fun _ => fun
  | [d] => { results := [.lit (.bool false)], args := [d] }
  | _ => none }
def KernelRoomWrongFalsely : Prop := kernelRoomRow.holds Tryz.pinned (OpenSpec.ofChange kernelRoomWrong)

/-- 'vivariumlaw12.KernelLits': WHATEVER THE INPUT: true; the input reads as it did. -/
def kernelLitsSpec : ChangeSpec := { name := "kernelLits", fn := fun _ => fun
  | [d] => { results := [.lit (.bool true)], args := [d] }
  | _ => none }
def kernelLitsRow : OpenClaim := { program := "ytdpdcbdfgfeoeaagreat", sum := "f5a2eb0ca913804452992a9ed27ef6ab5b590babe9e3dd9d782891b4f2912427", func := "vivarium/vivariumlaw12.KernelLits", spec := "kernelLits", inPlace := ["internal/bytealg.IndexByteString"], unfollowed := true, recurses := true, loops := true, apart := false }
def KernelLitsSaid : Prop := kernelLitsRow.holds Tryz.pinned (OpenSpec.ofChange kernelLitsSpec)

/-- ITS FALSE NEIGHBOUR: 'it returns false'. Refute it at one input. -/
def kernelLitsWrong : ChangeSpec := { name := "kernelLits", fn := fun _ => fun
  | [d] => { results := [.lit (.bool false)], args := [d] }
  | _ => none }
def KernelLitsWrongFalsely : Prop := kernelLitsRow.holds Tryz.pinned (OpenSpec.ofChange kernelLitsWrong)

/-- 'vivariumlaw12.KernelFull': WHATEVER THE INPUT: true; the input reads as it did. -/
def kernelFullSpec : ChangeSpec := { name := "kernelFull", fn := fun _ => fun
  | [d1, d2] => { results := [.lit (.bool true)], args := [d1, d2] }
  | _ => none }
def kernelFullRow : OpenClaim := { program := "ytdpdcbdfgfeoeaagreat", sum := "f5a2eb0ca913804452992a9ed27ef6ab5b590babe9e3dd9d782891b4f2912427", func := "vivarium/vivariumlaw12.KernelFull", spec := "kernelFull", inPlace := ["internal/bytealg.IndexByteString"], unfollowed := true, recurses := true, loops := true, apart := false }
def KernelFullSaid : Prop := kernelFullRow.holds Tryz.pinned (OpenSpec.ofChange kernelFullSpec)

/-- ITS FALSE NEIGHBOUR: 'it returns false'. Refute it at one input. -/
def kernelFullWrong : ChangeSpec := { name := "kernelFull", fn := fun _ => fun
  | [d1, d2] => { results := [.lit (.bool false)], args := [d1, d2] }
  | _ => none }
def KernelFullWrongFalsely : Prop := kernelFullRow.holds Tryz.pinned (OpenSpec.ofChange kernelFullWrong)

/-- 'vivariumlaw12.KernelTable': WHATEVER THE INPUT: true; the input reads as it did. -/
def kernelTableSpec : ChangeSpec := { name := "kernelTable", fn := fun _ => fun
  | [d] => { results := [.lit (.bool true)], args := [d] }
  | _ => none }
def kernelTableRow : OpenClaim := { program := "ytdpdcbdfgfeoeaagreat", sum := "f5a2eb0ca913804452992a9ed27ef6ab5b590babe9e3dd9d782891b4f2912427", func := "vivarium/vivariumlaw12.KernelTable", spec := "kernelTable", inPlace := ["internal/bytealg.IndexByteString"], unfollowed := true, recurses := true, apart := false }
def KernelTableSaid : Prop := kernelTableRow.holds Tryz.pinned (OpenSpec.ofChange kernelTableSpec)

/-- ITS FALSE NEIGHBOUR: 'it returns false'. Refute it at one input. -/
def kernelTableWrong : ChangeSpec := { name := "kernelTable", fn := fun _ => fun
  | [d] => { results := [.lit (.bool false)], args := [d] }
  | _ => none }
def KernelTableWrongFalsely : Prop := kernelTableRow.holds Tryz.pinned (OpenSpec.ofChange kernelTableWrong)

/-- 'vivariumlaw12.KernelForeign': WHATEVER THE INPUT: true; the input reads as it did. -/
def kernelForeignSpec : ChangeSpec := { name := "kernelForeign", fn := fun _ => fun
  | [d1, d2] => { results := [.lit (.bool true)], args := [d1, d2] }
  | _ => none }
def kernelForeignRow : OpenClaim := { program := "ytdpdcbdfgfeoeaagreat", sum := "f5a2eb0ca913804452992a9ed27ef6ab5b590babe9e3dd9d782891b4f2912427", func := "vivarium/vivariumlaw12.KernelForeign", spec := "kernelForeign", inPlace := ["internal/bytealg.IndexByteString"], unfollowed := true, recurses := true, apart := false }
def KernelForeignSaid : Prop := kernelForeignRow.holds Tryz.pinned (OpenSpec.ofChange kernelForeignSpec)

/-- ITS FALSE NEIGHBOUR: 'it returns false'. Refute it at one input. -/
def kernelForeignWrong : ChangeSpec := { name := "kernelForeign", fn := fun _ => fun
  | [d1, d2] => { results := [.lit (.bool false)], args := [d1, d2] }
  | _ => none }
def KernelForeignWrongFalsely : Prop := kernelForeignRow.holds Tryz.pinned (OpenSpec.ofChange kernelForeignWrong)

/- THE SECOND FORM. 'bulk': how many values and letters a reading holds, each counted each time it is reached (what is shared counts as often as it is met; a slice's spare places count too). A statement '..UptoSaid' is the law's where the arguments, and the package variables that the reading takes, are together of bulk at most 1048576: NARROWER than '..Said'. Prove '..Said' where nothing that the law and all that it calls make is longer than what came in: it says more and counts as full. Else prove '..UptoSaid'. A law counts once. -/
mutual
def uptoBulk {H : Type} : DataW H → Nat
  | .lit (.string bytes) => bytes.length + 1
  | .lit _ => 1
  | .nil => 1
  | .ptr d => uptoBulk d + 1
  | .slice elems spare => uptoBulkAll elems + uptoBulkAll spare + 1
  | .agg parts => uptoBulkAll parts + 1
  | .iface _ d => uptoBulk d + 1
  | .map entries => uptoBulkEntries entries + 1
  | .held _ => 1
def uptoBulkAll {H : Type} : List (DataW H) → Nat
  | [] => 0
  | d :: r => uptoBulk d + uptoBulkAll r
def uptoBulkEntries {H : Type} : List (Lit × DataW H) → Nat
  | [] => 0
  | x :: r => uptoBulkEntry x + uptoBulkEntries r
def uptoBulkEntry {H : Type} : Lit × DataW H → Nat
  | (.string bytes, d) => bytes.length + uptoBulk d + 1
  | (_, d) => uptoBulk d + 1
 end
def uptoSmall : (H : Type) → List (DataW H) → Bool := fun _ ds => decide (uptoBulkAll ds ≤ 1048576)
def OpenSpec.upto (s : _root_.Go.ChangeSpec) : _root_.Go.OpenSpec := { _root_.Go.OpenSpec.ofChange s with cond := some uptoSmall }

/-- 'vivariumlaw12.KernelTexts', WHERE WHAT IT READS IS OF BULK AT MOST 1048576: true; the input reads as it did. -/
def kernelTextsUptoRow : OpenClaim := { program := "ytdpdcbdfgfeoeaagreat", sum := "f5a2eb0ca913804452992a9ed27ef6ab5b590babe9e3dd9d782891b4f2912427", func := "vivarium/vivariumlaw12.KernelTexts", spec := "kernelTexts", inPlace := ["internal/bytealg.IndexByteString"], unfollowed := true, recurses := true, apart := false, narrowed := true }
def KernelTextsUptoSaid : Prop := kernelTextsUptoRow.holds Tryz.pinned (OpenSpec.upto kernelTextsSpec)

/-- 'vivariumlaw12.KernelNumbers', WHERE WHAT IT READS IS OF BULK AT MOST 1048576: true; the input reads as it did. -/
def kernelNumbersUptoRow : OpenClaim := { program := "ytdpdcbdfgfeoeaagreat", sum := "f5a2eb0ca913804452992a9ed27ef6ab5b590babe9e3dd9d782891b4f2912427", func := "vivarium/vivariumlaw12.KernelNumbers", spec := "kernelNumbers", inPlace := ["internal/bytealg.IndexByteString"], unfollowed := true, recurses := true, apart := false, narrowed := true }
def KernelNumbersUptoSaid : Prop := kernelNumbersUptoRow.holds Tryz.pinned (OpenSpec.upto kernelNumbersSpec)

/-- 'vivariumlaw12.KernelRoom', WHERE WHAT IT READS IS OF BULK AT MOST 1048576: true; the input reads as it did. -/
def kernelRoomUptoRow : OpenClaim := { program := "ytdpdcbdfgfeoeaagreat", sum := "f5a2eb0ca913804452992a9ed27ef6ab5b590babe9e3dd9d782891b4f2912427", func := "vivarium/vivariumlaw12.KernelRoom", spec := "kernelRoom", inPlace := ["internal/bytealg.IndexByteString"], unfollowed := true, recurses := true, apart := false, narrowed := true }
def KernelRoomUptoSaid : Prop := kernelRoomUptoRow.holds Tryz.pinned (OpenSpec.upto kernelRoomSpec)

/-- 'vivariumlaw12.KernelLits', WHERE WHAT IT READS IS OF BULK AT MOST 1048576: true; the input reads as it did. -/
def kernelLitsUptoRow : OpenClaim := { program := "ytdpdcbdfgfeoeaagreat", sum := "f5a2eb0ca913804452992a9ed27ef6ab5b590babe9e3dd9d782891b4f2912427", func := "vivarium/vivariumlaw12.KernelLits", spec := "kernelLits", inPlace := ["internal/bytealg.IndexByteString"], unfollowed := true, recurses := true, loops := true, apart := false, narrowed := true }
def KernelLitsUptoSaid : Prop := kernelLitsUptoRow.holds Tryz.pinned (OpenSpec.upto kernelLitsSpec)

/-- 'vivariumlaw12.KernelFull', WHERE WHAT IT READS IS OF BULK AT MOST 1048576: true; the input reads as it did. -/
def kernelFullUptoRow : OpenClaim := { program := "ytdpdcbdfgfeoeaagreat", sum := "f5a2eb0ca913804452992a9ed27ef6ab5b590babe9e3dd9d782891b4f2912427", func := "vivarium/vivariumlaw12.KernelFull", spec := "kernelFull", inPlace := ["internal/bytealg.IndexByteString"], unfollowed := true, recurses := true, loops := true, apart := false, narrowed := true }
def KernelFullUptoSaid : Prop := kernelFullUptoRow.holds Tryz.pinned (OpenSpec.upto kernelFullSpec)

/-- 'vivariumlaw12.KernelTable', WHERE WHAT IT READS IS OF BULK AT MOST 1048576: true; the input reads as it did. -/
def kernelTableUptoRow : OpenClaim := { program := "ytdpdcbdfgfeoeaagreat", sum := "f5a2eb0ca913804452992a9ed27ef6ab5b590babe9e3dd9d782891b4f2912427", func := "vivarium/vivariumlaw12.KernelTable", spec := "kernelTable", inPlace := ["internal/bytealg.IndexByteString"], unfollowed := true, recurses := true, apart := false, narrowed := true }
def KernelTableUptoSaid : Prop := kernelTableUptoRow.holds Tryz.pinned (OpenSpec.upto kernelTableSpec)

/-- 'vivariumlaw12.KernelForeign', WHERE WHAT IT READS IS OF BULK AT MOST 1048576: true; the input reads as it did. -/
def kernelForeignUptoRow : OpenClaim := { program := "ytdpdcbdfgfeoeaagreat", sum := "f5a2eb0ca913804452992a9ed27ef6ab5b590babe9e3dd9d782891b4f2912427", func := "vivarium/vivariumlaw12.KernelForeign", spec := "kernelForeign", inPlace := ["internal/bytealg.IndexByteString"], unfollowed := true, recurses := true, apart := false, narrowed := true }
def KernelForeignUptoSaid : Prop := kernelForeignUptoRow.holds Tryz.pinned (OpenSpec.upto kernelForeignSpec)

end Rows
end Go.Proofs.YtdpdcbdfgfeoeaaGreat
