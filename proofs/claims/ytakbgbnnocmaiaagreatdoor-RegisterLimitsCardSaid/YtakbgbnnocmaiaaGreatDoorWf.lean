/- The tie of the laid variables to the program's text, out of its closed facts; the row's tie. -/
import Derived.Test.YtakbgbnnocmaiaaGreatDoorWa
import Derived.Test.YtakbgbnnocmaiaaGreatDoorWb
import Derived.Test.YtakbgbnnocmaiaaGreatDoorWc
import Derived.Test.YtakbgbnnocmaiaaGreatDoorWd
import Derived.Test.YtakbgbnnocmaiaaGreatDoorWe
import Derived.SevenTiedAt
set_option linter.all false
section
namespace Go.Proofs.YtakbgbnnocmaiaaGreatDoor
open Go
theorem noOwnUnsafe : Tryz.pinned.checked.prog.headLifts.contains "ownunsafe" = false := by kernel_rfl
theorem tie : Tryz.prog.laidByTextLater Tryz.laidL [.data, .data, .data, .sentinel, .sentinel] true :=
  Program.laidByTextLater_by_run 400 8 tfA1 tfA2 tfA3 tfA4 tfA5 tfB tfC tfD tfE tfA6
theorem registerLimits_row_tie : Rows.registerLimitsRow.laidByTextAt .later Tryz.pinned [.data, .data, .data, .sentinel, .sentinel] true :=
  OpenClaim.laidByTextAt_later rfl rfl tie noOwnUnsafe
end Go.Proofs.YtakbgbnnocmaiaaGreatDoor
end
