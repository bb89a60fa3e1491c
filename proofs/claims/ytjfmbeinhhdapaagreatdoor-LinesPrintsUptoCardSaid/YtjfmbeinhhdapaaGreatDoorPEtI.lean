/- The ties of this seat's listed variables, fact by fact. -/
import Derived.Test.YtjfmbeinhhdapaaGreatDoorRows
import Derived.LaidByTextLater
import Derived.SevenTiedAt
namespace Go.Proofs.YtjfmbeinhhdapaaGreatDoor
open Go
abbrev tiA : List (String × DataW Unit) := [("unicode/utf8.acceptRanges", Rows.laid_unicode_utf8_acceptRanges), ("strconv.ErrSyntax", Rows.laid_strconv_ErrSyntax), ("strconv.ErrRange", Rows.laid_strconv_ErrRange), ("internal/strconv.uint64pow10", Rows.laid_internal_strconv_uint64pow10), ("math/bits.deBruijn32tab", Rows.laid_math_bits_deBruijn32tab), ("math/bits.deBruijn64tab", Rows.laid_math_bits_deBruijn64tab)]
abbrev tiB : List (String × DataW Unit) := [("internal/strconv.uint64pow10", Rows.laid_internal_strconv_uint64pow10), ("math/bits.deBruijn32tab", Rows.laid_math_bits_deBruijn32tab), ("math/bits.deBruijn64tab", Rows.laid_math_bits_deBruijn64tab), ("unicode/utf8.acceptRanges", Rows.laid_unicode_utf8_acceptRanges), ("strconv.ErrSyntax", Rows.laid_strconv_ErrSyntax), ("strconv.ErrRange", Rows.laid_strconv_ErrRange)]
theorem tiA1 : Tryz.prog.worded (varsWordLater true) = true := by kernel_rfl
theorem tiA2 : Tryz.prog.worded (varsWordLater !true) = false := by kernel_rfl
theorem tiA3 : Tryz.prog.worded rootWordLater = true := by kernel_rfl
theorem tiA4 : tiA.map (fun x => Tryz.prog.kindOfLater x.1) = ([.data, .sentinel, .sentinel, .data, .data, .data] : List LaidKind).map some := by kernel_rfl
theorem tiB4 : tiB.map (fun x => Tryz.prog.kindOfLater x.1) = ([.data, .data, .data, .data, .sentinel, .sentinel] : List LaidKind).map some := by kernel_rfl
theorem tiA5 : (Tryz.prog.funcNamed "gosem.cut.vars").isSome = true := by kernel_rfl
theorem tiA6 : varsNamedLaterB Tryz.prog (varsId Tryz.prog) tiA = true := by kernel_rfl
theorem tiB6 : varsNamedLaterB Tryz.prog (varsId Tryz.prog) tiB = true := by kernel_rfl
end Go.Proofs.YtjfmbeinhhdapaaGreatDoor
