/-
  NARROWER THAN 'FOR EVERY INPUT', by the rows' own cells (each row's printed sentence says how): ParseSame: loops.
  DERIVED. THE GIVEN ROWS OF THIS SEAT. 5 by the template 'for every input the law returns true; each argument reads behind the call as it read before'; 0 by the template 'total and deterministic' (their statements: YtliejomdaookoaaTotals.lean).
  GIVEN WITH THE SEED: the statements are not yours to turn. If you find one false, say at which input.
  Laid BY PROGRAM, IN A SANDBOX (cutbox-rows.mjs): the forced cells as the released guide's own fill.sh prints them over the translation 335bcbedb22d6af6… (all of the seat's roots in one cut). By AI agents, Wed Nov 11 2026. No macro, syntax, notation, axiom, sorry.
-/
import Derived.Test.YtliejomdaookoaaChecked
import GoSem.Claim
import GoSem.ClaimJoined
import GoSem.ClaimMapViews
import Derived.JoinedTies
import Derived.KernelRfl
namespace Go.Proofs.Ytliejomdaookoaa
/- THE CELL 'sum', in the pinned program and in every row, IS THE sha256 OF THE DUMP (.gsa) THAT YtliejomdaookoaaProg.lean LOADS. Nothing in Lean hashes anything: it is a label: what it is worth is what the hold of that sum in a sandbox is worth. -/
noncomputable def Try.pinned : Pinned := { name := "ytliejomdaookoaa", sum := "335bcbedb22d6af61ee51783b4dfab677c442debdb2ac3144543056402497a26", checked := Try.checked }
namespace Rows
def none {H : Type} : Left H := { results := [], args := [] }

/-- 'vivariumlaw07.ParseDeep': WHATEVER THE INPUT: true; the input reads as it did. -/
def parseDeepSpec : ChangeSpec := { name := "parseDeep", fn := fun _ => fun
  | [d1, d2] => { results := [.lit (.bool true)], args := [d1, d2] }
  | _ => none }
def parseDeepRow : OpenClaim := { program := "ytliejomdaookoaa", sum := "335bcbedb22d6af61ee51783b4dfab677c442debdb2ac3144543056402497a26", func := "vivarium/vivariumlaw07.ParseDeep", spec := "parseDeep", inPlace := ["internal/bytealg.IndexByteString"], unfollowed := true, recurses := true, apart := false }
def ParseDeepSaid : Prop := parseDeepRow.holds Try.pinned (OpenSpec.ofChange parseDeepSpec)

/-- ITS FALSE NEIGHBOUR: 'it returns false'. Refute it at one input. -/
def parseDeepWrong : ChangeSpec := { name := "parseDeep", fn := fun _ => fun
  | [d1, d2] => { results := [.lit (.bool false)], args := [d1, d2] }
  | _ => none }
def ParseDeepWrongFalsely : Prop := parseDeepRow.holds Try.pinned (OpenSpec.ofChange parseDeepWrong)

/-- 'vivariumlaw07.ParseBlanks': WHATEVER THE INPUT: true; the input reads as it did. -/
def parseBlanksSpec : ChangeSpec := { name := "parseBlanks", fn := fun _ => fun
  | [d] => { results := [.lit (.bool true)], args := [d] }
  | _ => none }
def parseBlanksRow : OpenClaim := { program := "ytliejomdaookoaa", sum := "335bcbedb22d6af61ee51783b4dfab677c442debdb2ac3144543056402497a26", func := "vivarium/vivariumlaw07.ParseBlanks", spec := "parseBlanks", inPlace := ["internal/bytealg.IndexByteString"], unfollowed := true, recurses := true, apart := false }
def ParseBlanksSaid : Prop := parseBlanksRow.holds Try.pinned (OpenSpec.ofChange parseBlanksSpec)

/-- ITS FALSE NEIGHBOUR: 'it returns false'. Refute it at one input. -/
def parseBlanksWrong : ChangeSpec := { name := "parseBlanks", fn := fun _ => fun
  | [d] => { results := [.lit (.bool false)], args := [d] }
  | _ => none }
def ParseBlanksWrongFalsely : Prop := parseBlanksRow.holds Try.pinned (OpenSpec.ofChange parseBlanksWrong)

/-- 'vivariumlaw07.ParseWhole': WHATEVER THE INPUT: true; the input reads as it did. -/
def parseWholeSpec : ChangeSpec := { name := "parseWhole", fn := fun _ => fun
  | [d] => { results := [.lit (.bool true)], args := [d] }
  | _ => none }
def parseWholeRow : OpenClaim := { program := "ytliejomdaookoaa", sum := "335bcbedb22d6af61ee51783b4dfab677c442debdb2ac3144543056402497a26", func := "vivarium/vivariumlaw07.ParseWhole", spec := "parseWhole", inPlace := ["internal/bytealg.IndexByteString"], unfollowed := true, recurses := true, apart := false }
def ParseWholeSaid : Prop := parseWholeRow.holds Try.pinned (OpenSpec.ofChange parseWholeSpec)

/-- ITS FALSE NEIGHBOUR: 'it returns false'. Refute it at one input. -/
def parseWholeWrong : ChangeSpec := { name := "parseWhole", fn := fun _ => fun
  | [d] => { results := [.lit (.bool false)], args := [d] }
  | _ => none }
def ParseWholeWrongFalsely : Prop := parseWholeRow.holds Try.pinned (OpenSpec.ofChange parseWholeWrong)

/-- 'vivariumlaw07.ParseSame': WHATEVER THE INPUT: true; the input reads as it did. -/
def parseSameSpec : ChangeSpec := { name := "parseSame", fn := fun _ => fun
  | [d1, d2] => { results := [.lit (.bool true)], args := [d1, d2] }
  | _ => none }
def parseSameRow : OpenClaim := { program := "ytliejomdaookoaa", sum := "335bcbedb22d6af61ee51783b4dfab677c442debdb2ac3144543056402497a26", func := "vivarium/vivariumlaw07.ParseSame", spec := "parseSame", inPlace := ["internal/bytealg.IndexByteString"], unfollowed := true, recurses := true, loops := true, apart := false }
def ParseSameSaid : Prop := parseSameRow.holds Try.pinned (OpenSpec.ofChange parseSameSpec)

/-- ITS FALSE NEIGHBOUR: 'it returns false'. Refute it at one input. -/
def parseSameWrong : ChangeSpec := { name := "parseSame", fn := fun _ => fun
  | [d1, d2] => { results := [.lit (.bool false)], args := [d1, d2] }
  | _ => none }
def ParseSameWrongFalsely : Prop := parseSameRow.holds Try.pinned (OpenSpec.ofChange parseSameWrong)

/-- 'vivariumlaw07.ParseLike': WHATEVER THE INPUT: true; the input reads as it did. -/
def parseLikeSpec : ChangeSpec := { name := "parseLike", fn := fun _ => fun
  | [d] => { results := [.lit (.bool true)], args := [d] }
  | _ => none }
def parseLikeRow : OpenClaim := { program := "ytliejomdaookoaa", sum := "335bcbedb22d6af61ee51783b4dfab677c442debdb2ac3144543056402497a26", func := "vivarium/vivariumlaw07.ParseLike", spec := "parseLike", inPlace := ["internal/bytealg.IndexByteString"], unfollowed := true, recurses := true, apart := false }
def ParseLikeSaid : Prop := parseLikeRow.holds Try.pinned (OpenSpec.ofChange parseLikeSpec)

/-- ITS FALSE NEIGHBOUR: 'it returns false'. Refute it at one input. -/
def parseLikeWrong : ChangeSpec := { name := "parseLike", fn := fun _ => fun
  | [d] => { results := [.lit (.bool false)], args := [d] }
  | _ => none }
def ParseLikeWrongFalsely : Prop := parseLikeRow.holds Try.pinned (OpenSpec.ofChange parseLikeWrong)

/- THE SECOND FORM. 'bulk': how many values and letters a reading holds, each counted each time it is reached (what is shared counts as often as it is met; a slice's spare places count too). A statement '..UptoSaid' is the law's where the arguments, and the package variables that the reading takes, are together of bulk at most 1048576: NARROWER than '..Said'. Prove '..Said' where nothing that the law and all that it calls make is longer than what came in: it says more and counts as full. Else prove '..UptoSaid'. A law counts once. -/
mutual
def uptoBulk {H : Type} : DataW H → Nat
  | .lit (.string bytes) => bytes.length + 1
  | .lit _ => 1
  | .nil => 1
  | .ptr d => uptoBulk d + 1
  | .slice elems spare => uptoBulkAll elems + uptoBulkAll spare + 1
  | .agg parts => uptoBulkAll parts + 1
  | .iface _ d => uptoBulk d + 1
  | .map entries => uptoBulkEntries entries + 1
  | .held _ => 1
def uptoBulkAll {H : Type} : List (DataW H) → Nat
  | [] => 0
  | d :: r => uptoBulk d + uptoBulkAll r
def uptoBulkEntries {H : Type} : List (Lit × DataW H) → Nat
  | [] => 0
  | x :: r => uptoBulkEntry x + uptoBulkEntries r
def uptoBulkEntry {H : Type} : Lit × DataW H → Nat
  | (.string bytes, d) => bytes.length + uptoBulk d + 1
  | (_, d) => uptoBulk d + 1
 end
def uptoSmall : (H : Type) → List (DataW H) → Bool := fun _ ds => decide (uptoBulkAll ds ≤ 1048576)
def OpenSpec.upto (s : _root_.Go.ChangeSpec) : _root_.Go.OpenSpec := { _root_.Go.OpenSpec.ofChange s with cond := some uptoSmall }

/-- 'vivariumlaw07.ParseDeep', WHERE WHAT IT READS IS OF BULK AT MOST 1048576: true; the input reads as it did. -/
def parseDeepUptoRow : OpenClaim := { program := "ytliejomdaookoaa", sum := "335bcbedb22d6af61ee51783b4dfab677c442debdb2ac3144543056402497a26", func := "vivarium/vivariumlaw07.ParseDeep", spec := "parseDeep", inPlace := ["internal/bytealg.IndexByteString"], unfollowed := true, recurses := true, apart := false, narrowed := true }
def ParseDeepUptoSaid : Prop := parseDeepUptoRow.holds Try.pinned (OpenSpec.upto parseDeepSpec)

/-- 'vivariumlaw07.ParseBlanks', WHERE WHAT IT READS IS OF BULK AT MOST 1048576: true; the input reads as it did. -/
def parseBlanksUptoRow : OpenClaim := { program := "ytliejomdaookoaa", sum := "335bcbedb22d6af61ee51783b4dfab677c442debdb2ac3144543056402497a26", func := "vivarium/vivariumlaw07.ParseBlanks", spec := "parseBlanks", inPlace := ["internal/bytealg.IndexByteString"], unfollowed := true, recurses := true, apart := false, narrowed := true }
def ParseBlanksUptoSaid : Prop := parseBlanksUptoRow.holds Try.pinned (OpenSpec.upto parseBlanksSpec)

/-- 'vivariumlaw07.ParseWhole', WHERE WHAT IT READS IS OF BULK AT MOST 1048576: true; the input reads as it did. -/
def parseWholeUptoRow : OpenClaim := { program := "ytliejomdaookoaa", sum := "335bcbedb22d6af61ee51783b4dfab677c442debdb2ac3144543056402497a26", func := "vivarium/vivariumlaw07.ParseWhole", spec := "parseWhole", inPlace := ["internal/bytealg.IndexByteString"], unfollowed := true, recurses := true, apart := false, narrowed := true }
def ParseWholeUptoSaid : Prop := parseWholeUptoRow.holds Try.pinned (OpenSpec.upto parseWholeSpec)

/-- 'vivariumlaw07.ParseSame', WHERE WHAT IT READS IS OF BULK AT MOST 1048576: true; the input reads as it did. -/
def parseSameUptoRow : OpenClaim := { program := "ytliejomdaookoaa", sum := "335bcbedb22d6af61ee51783b4dfab677c442debdb2ac3144543056402497a26", func := "vivarium/vivariumlaw07.ParseSame", spec := "parseSame", inPlace := ["internal/bytealg.IndexByteString"], unfollowed := true, recurses := true, loops := true, apart := false, narrowed := true }
def ParseSameUptoSaid : Prop := parseSameUptoRow.holds Try.pinned (OpenSpec.upto parseSameSpec)

/-- 'vivariumlaw07.ParseLike', WHERE WHAT IT READS IS OF BULK AT MOST 1048576: true; the input reads as it did. -/
def parseLikeUptoRow : OpenClaim := { program := "ytliejomdaookoaa", sum := "335bcbedb22d6af61ee51783b4dfab677c442debdb2ac3144543056402497a26", func := "vivarium/vivariumlaw07.ParseLike", spec := "parseLike", inPlace := ["internal/bytealg.IndexByteString"], unfollowed := true, recurses := true, apart := false, narrowed := true }
def ParseLikeUptoSaid : Prop := parseLikeUptoRow.holds Try.pinned (OpenSpec.upto parseLikeSpec)

end Rows
end Go.Proofs.Ytliejomdaookoaa
