/- A part of the proof. -/
import Derived.Test.YtakbgbnnocmaiaaGreatDoorRows
import Derived.ProofKit
set_option linter.all false
section
namespace Go.Proofs.YtakbgbnnocmaiaaGreatDoor
open Go
theorem jf25 : (Tryz.prog.mayEnter) = true := by kernel_rfl
end Go.Proofs.YtakbgbnnocmaiaaGreatDoor
end
