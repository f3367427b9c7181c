/- RegisterLimits: the run of sanity. -/
import Derived.Test.YtakbgbnnocmaiaaGreatDoorTa
set_option linter.all false
section
namespace Go.Proofs
open Go.Sim
noncomputable def pows : Nat → Nat → List AVal
  | 0, _ => []
  | n + 1, p => .int .u64 (Int.ofNat p) :: pows n (Nat.mul p 10)
noncomputable def h0 : H := ⟨(putE 10 3).run (some .dead) ((putE 10 2).run (some .dead) ((putE 10 1).run (some .dead) ((putE 10 0).run (some (.cells (pows 20 1) 20 false true [])) (E.empty AObj 10)))), 4, big⟩
noncomputable def sanityChk : CR → Bool
  | .ok (.bool b) h => sel b (Nat.ble 4 h.lo) false
  | _ => false
set_option maxRecDepth 100000 in
theorem sanity_run : sanityChk (callN (cx ov1) 2000 (59 + 1) 4 [] h0) = true := by kernel_rfl
end Go.Proofs
end
