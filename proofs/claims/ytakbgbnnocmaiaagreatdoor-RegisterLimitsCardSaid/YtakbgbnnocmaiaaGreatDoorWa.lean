/- The list of the laid variables. -/
import Derived.Test.YtakbgbnnocmaiaaGreatDoorRows
import Derived.LaidByTextLater
set_option linter.all false
section
namespace Go.Proofs.YtakbgbnnocmaiaaGreatDoor
open Go
abbrev Tryz.laidL : List (String × DataW Unit) := [("internal/strconv.uint64pow10", Rows.laid_internal_strconv_uint64pow10), ("math/bits.deBruijn32tab", Rows.laid_math_bits_deBruijn32tab), ("math/bits.deBruijn64tab", Rows.laid_math_bits_deBruijn64tab), ("strconv.ErrSyntax", Rows.laid_strconv_ErrSyntax), ("strconv.ErrRange", Rows.laid_strconv_ErrRange)]
end Go.Proofs.YtakbgbnnocmaiaaGreatDoor
end
section
/- The tie, closed facts. -/
namespace Go.Proofs.YtakbgbnnocmaiaaGreatDoor
open Go
theorem tfA1 : Tryz.prog.worded (varsWordLater true) = true := by kernel_rfl
theorem tfA2 : Tryz.prog.worded (varsWordLater !true) = false := by kernel_rfl
theorem tfA3 : Tryz.prog.worded rootWordLater = true := by kernel_rfl
theorem tfA4 : Tryz.laidL.map (fun x => Tryz.prog.kindOfLater x.1) = ([.data, .data, .data, .sentinel, .sentinel] : List LaidKind).map some := by kernel_rfl
theorem tfA5 : (Tryz.prog.funcNamed "gosem.cut.vars").isSome = true := by kernel_rfl
theorem tfA6 : (Tryz.laidL.all fun x => x.2.handleName?.isNone) = true := by kernel_rfl
end Go.Proofs.YtakbgbnnocmaiaaGreatDoor
end
