/- The tie, closed facts. -/
import Derived.Test.YtakbgbnnocmaiaaGreatDoorWa
import Derived.Test.YtakbgbnnocmaiaaGreatDoorRows
import Derived.LaidByTextLater
set_option linter.all false
section
namespace Go.Proofs.YtakbgbnnocmaiaaGreatDoor
open Go
theorem tfB : varsNamedLaterB Tryz.prog (varsId Tryz.prog) Tryz.laidL = true := by kernel_rfl
end Go.Proofs.YtakbgbnnocmaiaaGreatDoor
end
