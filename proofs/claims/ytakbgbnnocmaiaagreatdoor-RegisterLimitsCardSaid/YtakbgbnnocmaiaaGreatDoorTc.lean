/- RegisterLimits: the answer of register.usual. -/
import Derived.Test.YtakbgbnnocmaiaaGreatDoorTa
set_option linter.all false
section
namespace Go.Proofs
open Go.Sim
set_option maxRecDepth 100000 in
theorem usual_run : memoChk usualS usualF usualV (callN (cx ov0) 2000 (39 + 1) 214 [] hbase) = true := by kernel_rfl

theorem ov1_ok : ∀ p ∈ ov1, OvOk Tryz.prog p.1 p.2 := by
  intro p hp
  rcases List.mem_cons.1 hp with rfl | hp
  · exact fun call _ args h => memo_ov (K_ok ov0) (O_ok ov0_ok) rfl usual_run call args h
  · exact ov0_ok p hp
end Go.Proofs
end
