/- The card: no go statement stands in the translation. -/
import Derived.Test.YtakbgbnnocmaiaaGreatDoorRows
import Derived.SevenTiedAt
set_option linter.all false
section
namespace Go.Proofs.YtakbgbnnocmaiaaGreatDoor
open Go
theorem kt_none : Tryz.prog.funcs.any Func.goes = false := by kernel_rfl
theorem kt_named : Tryz.prog.funcNamed Rows.registerLimitsRow.func = some 3 := by kernel_rfl
end Go.Proofs.YtakbgbnnocmaiaaGreatDoor
end
