/-
  No cell of these rows narrows 'for every input' (looked for: loops, veiled, ifaces, maps, wideKeys, modest, calm, conditions, laid).
  DERIVED. THE GIVEN ROWS OF THIS SEAT. 9 by the template 'for every input the law returns true; each argument reads behind the call as it read before'; 0 by the template 'total and deterministic' (their statements: YtilmobdncapnbaaGreatTotals.lean).
  GIVEN WITH THE SEED: the statements are not yours to turn. If you find one false, say at which input.
  Laid BY PROGRAM, IN A SANDBOX (cutbox-rows.mjs): the forced cells as the released guide's own fill.sh prints them over the translation c2fa36803c900481… (all of the seat's roots in one cut). By AI agents, Wed Nov 11 2026. No macro, syntax, notation, axiom, sorry.
-/
import Derived.Test.YtilmobdncapnbaaGreatChecked
import GoSem.Claim
import GoSem.ClaimJoined
import GoSem.ClaimMapViews
import Derived.JoinedTies
import Derived.KernelRfl
namespace Go.Proofs.YtilmobdncapnbaaGreat
/- THE CELL 'sum', in the pinned program and in every row, IS THE sha256 OF THE DUMP (.gsa) THAT YtilmobdncapnbaaGreatProg.lean LOADS. Nothing in Lean hashes anything: it is a label: what it is worth is what the hold of that sum in a sandbox is worth. -/
noncomputable def Tryz.pinned : Pinned := { name := "ytilmobdncapnbaagreat", sum := "c2fa36803c90048173567c13e0a85723e25bbad736155f1de5f95a859c7436a9", checked := Tryz.checked }
namespace Rows
def none {H : Type} : Left H := { results := [], args := [] }

/-- 'vivariumlaw14.PrimsNumbers': WHATEVER THE INPUT: true; the input reads as it did. -/
def primsNumbersSpec : ChangeSpec := { name := "primsNumbers", fn := fun _ => fun
  | [d1, d2, d3] => { results := [.lit (.bool true)], args := [d1, d2, d3] }
  | _ => none }
def primsNumbersRow : OpenClaim := { program := "ytilmobdncapnbaagreat", sum := "c2fa36803c90048173567c13e0a85723e25bbad736155f1de5f95a859c7436a9", func := "vivarium/vivariumlaw14.PrimsNumbers", spec := "primsNumbers", inPlace := ["internal/bytealg.IndexByteString"], unfollowed := true, recurses := true, apart := false }
def PrimsNumbersSaid : Prop := primsNumbersRow.holds Tryz.pinned (OpenSpec.ofChange primsNumbersSpec)

/-- ITS FALSE NEIGHBOUR: 'it returns false'. Refute it at one input. -/
def primsNumbersWrong : ChangeSpec := { name := "primsNumbers", fn := fun _ => fun
  | [d1, d2, d3] => { results := [.lit (.bool false)], args := [d1, d2, d3] }
  | _ => none }
def PrimsNumbersWrongFalsely : Prop := primsNumbersRow.holds Tryz.pinned (OpenSpec.ofChange primsNumbersWrong)

/-- 'vivariumlaw14.PrimsAny': WHATEVER THE INPUT: true; the input reads as it did. -/
def primsAnySpec : ChangeSpec := { name := "primsAny", fn := fun _ => fun
  | [d1, d2] => { results := [.lit (.bool true)], args := [d1, d2] }
  | _ => none }
def primsAnyRow : OpenClaim := { program := "ytilmobdncapnbaagreat", sum := "c2fa36803c90048173567c13e0a85723e25bbad736155f1de5f95a859c7436a9", func := "vivarium/vivariumlaw14.PrimsAny", spec := "primsAny", inPlace := ["internal/bytealg.IndexByteString"], unfollowed := true, recurses := true, apart := false }
def PrimsAnySaid : Prop := primsAnyRow.holds Tryz.pinned (OpenSpec.ofChange primsAnySpec)

/-- ITS FALSE NEIGHBOUR: 'it returns false'. Refute it at one input. -/
def primsAnyWrong : ChangeSpec := { name := "primsAny", fn := fun _ => fun
  | [d1, d2] => { results := [.lit (.bool false)], args := [d1, d2] }
  | _ => none }
def PrimsAnyWrongFalsely : Prop := primsAnyRow.holds Tryz.pinned (OpenSpec.ofChange primsAnyWrong)

/-- 'vivariumlaw14.PrimsFields': WHATEVER THE INPUT: true; the input reads as it did. -/
def primsFieldsSpec : ChangeSpec := { name := "primsFields", fn := fun _ => fun
  | [d1, d2] => { results := [.lit (.bool true)], args := [d1, d2] }
  | _ => none }
def primsFieldsRow : OpenClaim := { program := "ytilmobdncapnbaagreat", sum := "c2fa36803c90048173567c13e0a85723e25bbad736155f1de5f95a859c7436a9", func := "vivarium/vivariumlaw14.PrimsFields", spec := "primsFields", inPlace := ["internal/bytealg.IndexByteString"], unfollowed := true, recurses := true, apart := false }
def PrimsFieldsSaid : Prop := primsFieldsRow.holds Tryz.pinned (OpenSpec.ofChange primsFieldsSpec)

/-- ITS FALSE NEIGHBOUR: 'it returns false'. Refute it at one input. -/
def primsFieldsWrong : ChangeSpec := { name := "primsFields", fn := fun _ => fun
  | [d1, d2] => { results := [.lit (.bool false)], args := [d1, d2] }
  | _ => none }
def PrimsFieldsWrongFalsely : Prop := primsFieldsRow.holds Tryz.pinned (OpenSpec.ofChange primsFieldsWrong)

/-- 'vivariumlaw14.PrimsPuts': WHATEVER THE INPUT: true; the input reads as it did. -/
def primsPutsSpec : ChangeSpec := { name := "primsPuts", fn := fun _ => fun
  | [d1, d2, d3] => { results := [.lit (.bool true)], args := [d1, d2, d3] }
  | _ => none }
def primsPutsRow : OpenClaim := { program := "ytilmobdncapnbaagreat", sum := "c2fa36803c90048173567c13e0a85723e25bbad736155f1de5f95a859c7436a9", func := "vivarium/vivariumlaw14.PrimsPuts", spec := "primsPuts", inPlace := ["internal/bytealg.IndexByteString"], unfollowed := true, recurses := true, apart := false }
def PrimsPutsSaid : Prop := primsPutsRow.holds Tryz.pinned (OpenSpec.ofChange primsPutsSpec)

/-- ITS FALSE NEIGHBOUR: 'it returns false'. Refute it at one input. -/
def primsPutsWrong : ChangeSpec := { name := "primsPuts", fn := fun _ => fun
  | [d1, d2, d3] => { results := [.lit (.bool false)], args := [d1, d2, d3] }
  | _ => none }
def PrimsPutsWrongFalsely : Prop := primsPutsRow.holds Tryz.pinned (OpenSpec.ofChange primsPutsWrong)

/-- 'vivariumlaw14.PrimsPlain': WHATEVER THE INPUT: true; the input reads as it did. -/
def primsPlainSpec : ChangeSpec := { name := "primsPlain", fn := fun _ => fun
  | [d1, d2, d3] => { results := [.lit (.bool true)], args := [d1, d2, d3] }
  | _ => none }
def primsPlainRow : OpenClaim := { program := "ytilmobdncapnbaagreat", sum := "c2fa36803c90048173567c13e0a85723e25bbad736155f1de5f95a859c7436a9", func := "vivarium/vivariumlaw14.PrimsPlain", spec := "primsPlain", inPlace := ["internal/bytealg.IndexByteString"], unfollowed := true, recurses := true, apart := false }
def PrimsPlainSaid : Prop := primsPlainRow.holds Tryz.pinned (OpenSpec.ofChange primsPlainSpec)

/-- ITS FALSE NEIGHBOUR: 'it returns false'. Refute it at one input. -/
def primsPlainWrong : ChangeSpec := { name := "primsPlain", fn := fun _ => fun
  | [d1, d2, d3] => { results := [.lit (.bool false)], args := [d1, d2, d3] }
  | _ => none }
def PrimsPlainWrongFalsely : Prop := primsPlainRow.holds Tryz.pinned (OpenSpec.ofChange primsPlainWrong)

/-- 'vivariumlaw14.PrimsTexts': WHATEVER THE INPUT: true; the input reads as it did. -/
def primsTextsSpec : ChangeSpec := { name := "primsTexts", fn := fun _ => fun
  | [d1, d2] => { results := [.lit (.bool true)], args := [d1, d2] }
  | _ => none }
def primsTextsRow : OpenClaim := { program := "ytilmobdncapnbaagreat", sum := "c2fa36803c90048173567c13e0a85723e25bbad736155f1de5f95a859c7436a9", func := "vivarium/vivariumlaw14.PrimsTexts", spec := "primsTexts", inPlace := ["internal/bytealg.IndexByteString"], unfollowed := true, recurses := true, apart := false }
def PrimsTextsSaid : Prop := primsTextsRow.holds Tryz.pinned (OpenSpec.ofChange primsTextsSpec)

/-- ITS FALSE NEIGHBOUR: 'it returns false'. Refute it at one input. -/
def primsTextsWrong : ChangeSpec := { name := "primsTexts", fn := fun _ => fun
  | [d1, d2] => { results := [.lit (.bool false)], args := [d1, d2] }
  | _ => none }
def PrimsTextsWrongFalsely : Prop := primsTextsRow.holds Tryz.pinned (OpenSpec.ofChange primsTextsWrong)

/-- 'vivariumlaw14.PrimsClasses': WHATEVER THE INPUT: true; the input reads as it did. -/
def primsClassesSpec : ChangeSpec := { name := "primsClasses", fn := fun _ => fun
  | [d] => { results := [.lit (.bool true)], args := [d] }
  | _ => none }
def primsClassesRow : OpenClaim := { program := "ytilmobdncapnbaagreat", sum := "c2fa36803c90048173567c13e0a85723e25bbad736155f1de5f95a859c7436a9", func := "vivarium/vivariumlaw14.PrimsClasses", spec := "primsClasses", inPlace := ["internal/bytealg.IndexByteString"], unfollowed := true, recurses := true, apart := false }
def PrimsClassesSaid : Prop := primsClassesRow.holds Tryz.pinned (OpenSpec.ofChange primsClassesSpec)

/-- ITS FALSE NEIGHBOUR: 'it returns false'. Refute it at one input. -/
def primsClassesWrong : ChangeSpec := { name := "primsClasses", fn := fun _ => fun
  | [d] => { results := [.lit (.bool false)], args := [d] }
  | _ => none }
def PrimsClassesWrongFalsely : Prop := primsClassesRow.holds Tryz.pinned (OpenSpec.ofChange primsClassesWrong)

/-- 'vivariumlaw14.PrimsNew': WHATEVER THE INPUT: true; the input reads as it did. -/
def primsNewSpec : ChangeSpec := { name := "primsNew", fn := fun _ => fun
  | [d1, d2] => { results := [.lit (.bool true)], args := [d1, d2] }
  | _ => none }
def primsNewRow : OpenClaim := { program := "ytilmobdncapnbaagreat", sum := "c2fa36803c90048173567c13e0a85723e25bbad736155f1de5f95a859c7436a9", func := "vivarium/vivariumlaw14.PrimsNew", spec := "primsNew", inPlace := ["internal/bytealg.IndexByteString"], unfollowed := true, recurses := true, apart := false }
def PrimsNewSaid : Prop := primsNewRow.holds Tryz.pinned (OpenSpec.ofChange primsNewSpec)

/-- ITS FALSE NEIGHBOUR: 'it returns false'. Refute it at one input. -/
def primsNewWrong : ChangeSpec := { name := "primsNew", fn := fun _ => fun
  | [d1, d2] => { results := [.lit (.bool false)], args := [d1, d2] }
  | _ => none }
def PrimsNewWrongFalsely : Prop := primsNewRow.holds Tryz.pinned (OpenSpec.ofChange primsNewWrong)

/-- 'vivariumlaw14.PrimsElse': WHATEVER THE INPUT: true; the input reads as it did. -/
def primsElseSpec : ChangeSpec := { name := "primsElse", fn := fun _ => fun
  | [d1, d2, d3] => { results := [.lit (.bool true)], args := [d1, d2, d3] }
  | _ => none }
def primsElseRow : OpenClaim := { program := "ytilmobdncapnbaagreat", sum := "c2fa36803c90048173567c13e0a85723e25bbad736155f1de5f95a859c7436a9", func := "vivarium/vivariumlaw14.PrimsElse", spec := "primsElse", inPlace := ["internal/bytealg.IndexByteString"], unfollowed := true, recurses := true, apart := false }
def PrimsElseSaid : Prop := primsElseRow.holds Tryz.pinned (OpenSpec.ofChange primsElseSpec)

/-- ITS FALSE NEIGHBOUR: 'it returns false'. Refute it at one input. -/
def primsElseWrong : ChangeSpec := { name := "primsElse", fn := fun _ => fun
  | [d1, d2, d3] => { results := [.lit (.bool false)], args := [d1, d2, d3] }
  | _ => none }
def PrimsElseWrongFalsely : Prop := primsElseRow.holds Tryz.pinned (OpenSpec.ofChange primsElseWrong)

/- THE SECOND FORM. 'bulk': how many values and letters a reading holds, each counted each time it is reached (what is shared counts as often as it is met; a slice's spare places count too). A statement '..UptoSaid' is the law's where the arguments, and the package variables that the reading takes, are together of bulk at most 1048576: NARROWER than '..Said'. Prove '..Said' where nothing that the law and all that it calls make is longer than what came in: it says more and counts as full. Else prove '..UptoSaid'. A law counts once. -/
mutual
def uptoBulk {H : Type} : DataW H → Nat
  | .lit (.string bytes) => bytes.length + 1
  | .lit _ => 1
  | .nil => 1
  | .ptr d => uptoBulk d + 1
  | .slice elems spare => uptoBulkAll elems + uptoBulkAll spare + 1
  | .agg parts => uptoBulkAll parts + 1
  | .iface _ d => uptoBulk d + 1
  | .map entries => uptoBulkEntries entries + 1
  | .held _ => 1
def uptoBulkAll {H : Type} : List (DataW H) → Nat
  | [] => 0
  | d :: r => uptoBulk d + uptoBulkAll r
def uptoBulkEntries {H : Type} : List (Lit × DataW H) → Nat
  | [] => 0
  | x :: r => uptoBulkEntry x + uptoBulkEntries r
def uptoBulkEntry {H : Type} : Lit × DataW H → Nat
  | (.string bytes, d) => bytes.length + uptoBulk d + 1
  | (_, d) => uptoBulk d + 1
 end
def uptoSmall : (H : Type) → List (DataW H) → Bool := fun _ ds => decide (uptoBulkAll ds ≤ 1048576)
def OpenSpec.upto (s : _root_.Go.ChangeSpec) : _root_.Go.OpenSpec := { _root_.Go.OpenSpec.ofChange s with cond := some uptoSmall }

/-- 'vivariumlaw14.PrimsNumbers', WHERE WHAT IT READS IS OF BULK AT MOST 1048576: true; the input reads as it did. -/
def primsNumbersUptoRow : OpenClaim := { program := "ytilmobdncapnbaagreat", sum := "c2fa36803c90048173567c13e0a85723e25bbad736155f1de5f95a859c7436a9", func := "vivarium/vivariumlaw14.PrimsNumbers", spec := "primsNumbers", inPlace := ["internal/bytealg.IndexByteString"], unfollowed := true, recurses := true, apart := false, narrowed := true }
def PrimsNumbersUptoSaid : Prop := primsNumbersUptoRow.holds Tryz.pinned (OpenSpec.upto primsNumbersSpec)

/-- 'vivariumlaw14.PrimsAny', WHERE WHAT IT READS IS OF BULK AT MOST 1048576: true; the input reads as it did. -/
def primsAnyUptoRow : OpenClaim := { program := "ytilmobdncapnbaagreat", sum := "c2fa36803c90048173567c13e0a85723e25bbad736155f1de5f95a859c7436a9", func := "vivarium/vivariumlaw14.PrimsAny", spec := "primsAny", inPlace := ["internal/bytealg.IndexByteString"], unfollowed := true, recurses := true, apart := false, narrowed := true }
def PrimsAnyUptoSaid : Prop := primsAnyUptoRow.holds Tryz.pinned (OpenSpec.upto primsAnySpec)

/-- 'vivariumlaw14.PrimsFields', WHERE WHAT IT READS IS OF BULK AT MOST 1048576: true; the input reads as it did. -/
def primsFieldsUptoRow : OpenClaim := { program := "ytilmobdncapnbaagreat", sum := "c2fa36803c90048173567c13e0a85723e25bbad736155f1de5f95a859c7436a9", func := "vivarium/vivariumlaw14.PrimsFields", spec := "primsFields", inPlace := ["internal/bytealg.IndexByteString"], unfollowed := true, recurses := true, apart := false, narrowed := true }
def PrimsFieldsUptoSaid : Prop := primsFieldsUptoRow.holds Tryz.pinned (OpenSpec.upto primsFieldsSpec)

/-- 'vivariumlaw14.PrimsPuts', WHERE WHAT IT READS IS OF BULK AT MOST 1048576: true; the input reads as it did. -/
def primsPutsUptoRow : OpenClaim := { program := "ytilmobdncapnbaagreat", sum := "c2fa36803c90048173567c13e0a85723e25bbad736155f1de5f95a859c7436a9", func := "vivarium/vivariumlaw14.PrimsPuts", spec := "primsPuts", inPlace := ["internal/bytealg.IndexByteString"], unfollowed := true, recurses := true, apart := false, narrowed := true }
def PrimsPutsUptoSaid : Prop := primsPutsUptoRow.holds Tryz.pinned (OpenSpec.upto primsPutsSpec)

/-- 'vivariumlaw14.PrimsPlain', WHERE WHAT IT READS IS OF BULK AT MOST 1048576: true; the input reads as it did. -/
def primsPlainUptoRow : OpenClaim := { program := "ytilmobdncapnbaagreat", sum := "c2fa36803c90048173567c13e0a85723e25bbad736155f1de5f95a859c7436a9", func := "vivarium/vivariumlaw14.PrimsPlain", spec := "primsPlain", inPlace := ["internal/bytealg.IndexByteString"], unfollowed := true, recurses := true, apart := false, narrowed := true }
def PrimsPlainUptoSaid : Prop := primsPlainUptoRow.holds Tryz.pinned (OpenSpec.upto primsPlainSpec)

/-- 'vivariumlaw14.PrimsTexts', WHERE WHAT IT READS IS OF BULK AT MOST 1048576: true; the input reads as it did. -/
def primsTextsUptoRow : OpenClaim := { program := "ytilmobdncapnbaagreat", sum := "c2fa36803c90048173567c13e0a85723e25bbad736155f1de5f95a859c7436a9", func := "vivarium/vivariumlaw14.PrimsTexts", spec := "primsTexts", inPlace := ["internal/bytealg.IndexByteString"], unfollowed := true, recurses := true, apart := false, narrowed := true }
def PrimsTextsUptoSaid : Prop := primsTextsUptoRow.holds Tryz.pinned (OpenSpec.upto primsTextsSpec)

/-- 'vivariumlaw14.PrimsClasses', WHERE WHAT IT READS IS OF BULK AT MOST 1048576: true; the input reads as it did. -/
def primsClassesUptoRow : OpenClaim := { program := "ytilmobdncapnbaagreat", sum := "c2fa36803c90048173567c13e0a85723e25bbad736155f1de5f95a859c7436a9", func := "vivarium/vivariumlaw14.PrimsClasses", spec := "primsClasses", inPlace := ["internal/bytealg.IndexByteString"], unfollowed := true, recurses := true, apart := false, narrowed := true }
def PrimsClassesUptoSaid : Prop := primsClassesUptoRow.holds Tryz.pinned (OpenSpec.upto primsClassesSpec)

/-- 'vivariumlaw14.PrimsNew', WHERE WHAT IT READS IS OF BULK AT MOST 1048576: true; the input reads as it did. -/
def primsNewUptoRow : OpenClaim := { program := "ytilmobdncapnbaagreat", sum := "c2fa36803c90048173567c13e0a85723e25bbad736155f1de5f95a859c7436a9", func := "vivarium/vivariumlaw14.PrimsNew", spec := "primsNew", inPlace := ["internal/bytealg.IndexByteString"], unfollowed := true, recurses := true, apart := false, narrowed := true }
def PrimsNewUptoSaid : Prop := primsNewUptoRow.holds Tryz.pinned (OpenSpec.upto primsNewSpec)

/-- 'vivariumlaw14.PrimsElse', WHERE WHAT IT READS IS OF BULK AT MOST 1048576: true; the input reads as it did. -/
def primsElseUptoRow : OpenClaim := { program := "ytilmobdncapnbaagreat", sum := "c2fa36803c90048173567c13e0a85723e25bbad736155f1de5f95a859c7436a9", func := "vivarium/vivariumlaw14.PrimsElse", spec := "primsElse", inPlace := ["internal/bytealg.IndexByteString"], unfollowed := true, recurses := true, apart := false, narrowed := true }
def PrimsElseUptoSaid : Prop := primsElseUptoRow.holds Tryz.pinned (OpenSpec.upto primsElseSpec)

end Rows
end Go.Proofs.YtilmobdncapnbaaGreat
