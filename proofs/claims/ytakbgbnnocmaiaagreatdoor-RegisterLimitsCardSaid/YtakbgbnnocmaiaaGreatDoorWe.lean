/- The tie, closed facts. -/
import Derived.Test.YtakbgbnnocmaiaaGreatDoorWa
import Derived.Test.YtakbgbnnocmaiaaGreatDoorRows
import Derived.LaidByTextLater
set_option linter.all false
section
namespace Go.Proofs.YtakbgbnnocmaiaaGreatDoor
open Go
theorem tfE : ∀ os tape, (DataW.laidRun Tryz.prog (varsWorld Tryz.prog 400 (varsId Tryz.prog) os tape).memory 8 (Tryz.laidL.map (·.1))).map (fun x => decide x.2.Nodup && laidRowsB Tryz.prog (varsWorld Tryz.prog 400 (varsId Tryz.prog) os tape).memory x.2) = some true := fun _ _ => by kernel_rfl
end Go.Proofs.YtakbgbnnocmaiaaGreatDoor
end
