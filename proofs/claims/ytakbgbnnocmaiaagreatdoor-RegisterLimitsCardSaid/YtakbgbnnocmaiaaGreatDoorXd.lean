/- RegisterLimits: the row, and its card. -/
import Derived.Test.YtakbgbnnocmaiaaGreatDoorUf
import Derived.Test.YtakbgbnnocmaiaaGreatDoorVa
import Derived.Test.YtakbgbnnocmaiaaGreatDoorVe
import Derived.Test.YtakbgbnnocmaiaaGreatDoorVb
import Derived.Test.YtakbgbnnocmaiaaGreatDoorVc
import Derived.Test.YtakbgbnnocmaiaaGreatDoorWf
import Derived.Test.YtakbgbnnocmaiaaGreatDoorCards
import Derived.SevenTiedAt
set_option linter.all false
section
namespace Go.Proofs.YtakbgbnnocmaiaaGreatDoor
open Go
set_option maxRecDepth 100000 in
theorem closed : joinedFacts Tryz.prog 3 Tryz.f3 Rows.registerLimitsSpec Rows.registerLimitsRow = true := (and2 (and2 (and2 (and2 (and2 (and2 (and2 (and2 (and2 (and2 (and2 (and2 (and2 (and2 (and2 (and2 (and2 (and2 (and2 (and2 (and2 (and2 (and2 (and2 (and2 (and2 (and2 (and2 (and2 (and2 (and2 jf0 jf1) jf2) jf3) jf4) jf5) jf6) jf7) jf8) jf9) jf10) jf11) jf12) jf13) jf14) jf15) jf16) jf17) jf18) jf19) jf20) jf21) jf22) jf23) jf24) jf25) jf26) jf27) jf28) jf29) jf30) jf31)
theorem law_named : Tryz.prog.funcNamed "boundstone/boundstonelaw09.RegisterLimits" = some 3 := by kernel_rfl
theorem registerLimits_said : Rows.RegisterLimitsSaid :=
  OpenClaim.holds_of_wide 3 Tryz.f3 rfl rfl rfl rfl rfl rfl rfl ⟨rfl, rfl, rfl, rfl, rfl⟩ rfl rfl rfl rfl rfl law_named Tryz.func3 closed
    (of_decide_eq_true (by kernel_rfl)) (by unfold Func.isWrapper; rw [if_neg (of_decide_eq_false (by kernel_rfl))]; exact ⟨rfl, rfl⟩)
    (fun os started H enc _ => lifted os started H enc)
end Go.Proofs.YtakbgbnnocmaiaaGreatDoor
end
