/- The card: closed facts. -/
import Derived.Test.YtakbgbnnocmaiaaGreatDoorRows
import Derived.SevenTiedAt
set_option linter.all false
section
namespace Go.Proofs.YtakbgbnnocmaiaaGreatDoor
open Go
theorem kt_wf : Rows.registerLimitsRow.wfByText (OpenSpec.ofChange Rows.registerLimitsSpec) = true := by kernel_rfl
theorem kt_main : Tryz.prog.mainIs = some (true, "452ea1e39d0bf75657c3e1f458f11303998062f79bf9155e2fb3413e39f4d6db".toList) := by kernel_rfl
theorem kt_22 : Tryz.prog.wantsStandIn 22 = false := by kernel_rfl
theorem kt_3 : Tryz.prog.wantsStandIn 3 = false := by kernel_rfl
end Go.Proofs.YtakbgbnnocmaiaaGreatDoor
end
section
/- The card: closed facts. -/
namespace Go.Proofs.YtakbgbnnocmaiaaGreatDoor
open Go
theorem kt_looks : true = Tryz.prog.looks [] := by kernel_rfl
end Go.Proofs.YtakbgbnnocmaiaaGreatDoor
end
