/- The tie, closed facts. -/
import Derived.Test.YtakbgbnnocmaiaaGreatDoorWa
import Derived.Test.YtakbgbnnocmaiaaGreatDoorRows
import Derived.LaidByTextLater
set_option linter.all false
section
namespace Go.Proofs.YtakbgbnnocmaiaaGreatDoor
open Go
theorem tfC : ∀ os tape, varsDone Tryz.prog 400 (varsId Tryz.prog) os tape = true := fun _ _ => by kernel_rfl
end Go.Proofs.YtakbgbnnocmaiaaGreatDoor
end
