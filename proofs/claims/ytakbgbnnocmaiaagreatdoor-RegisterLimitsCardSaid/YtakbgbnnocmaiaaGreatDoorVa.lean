/- RegisterLimits: the row: closed facts. -/
import Derived.Test.YtakbgbnnocmaiaaGreatDoorRows
import Derived.ProofKit
set_option linter.all false
section
namespace Go.Proofs.YtakbgbnnocmaiaaGreatDoor
open Go
theorem jf0 : (Rows.registerLimitsRow.wf (OpenSpec.ofChange Rows.registerLimitsSpec)) = true := by kernel_rfl
theorem jf3 : (Tryz.f3.params.all (Tryz.prog.readableRec ·)) = true := by kernel_rfl
theorem jf4 : (namedTie Tryz.prog Rows.registerLimitsRow.named Rows.registerLimitsSpec.vars) = true := by kernel_rfl
theorem jf5 : ((Rows.registerLimitsRow.stops == [])) = true := by kernel_rfl
theorem jf6 : ((Tryz.prog.stops == [])) = true := by kernel_rfl
theorem jf7 : ((Rows.registerLimitsRow.knobs == [])) = true := by kernel_rfl
theorem jf8 : ((Tryz.prog.stopKnobs == [])) = true := by kernel_rfl
theorem jf13 : ((Rows.registerLimitsRow.maps == (Tryz.f3.params.toList ++ Rows.registerLimitsSpec.plain.varTypes Tryz.prog).any (Tryz.prog.mapsRec ·))) = true := by kernel_rfl
theorem jf14 : ((Rows.registerLimitsRow.ifaces == (Tryz.f3.params.toList ++ Rows.registerLimitsSpec.plain.varTypes Tryz.prog).any (Tryz.prog.ifacesRec ·))) = true := by kernel_rfl
theorem jf15 : ((Rows.registerLimitsRow.mapsOut == Tryz.prog.mapsAmong Tryz.f3.resultTypes.toList)) = true := by kernel_rfl
theorem jf16 : ((Rows.registerLimitsRow.loops == (Tryz.f3.params.toList ++ Rows.registerLimitsSpec.plain.varTypes Tryz.prog).any (Tryz.prog.loopsFrom ·))) = true := by kernel_rfl
theorem jf17 : ((Rows.registerLimitsRow.wideKeys == (Tryz.f3.params.toList ++ Rows.registerLimitsSpec.plain.varTypes Tryz.prog ++ Tryz.f3.resultTypes.toList).any (Tryz.prog.wideKeysFrom ·))) = true := by kernel_rfl
theorem jf18 : (Rows.registerLimitsSpec.vars.all (Tryz.prog.varReadable ·)) = true := by kernel_rfl
theorem jf19 : (Tryz.f3.resultTypes.all (fun t => Tryz.prog.readableRec t && decide (t < Tryz.prog.types.size))) = true := by kernel_rfl
theorem jf20 : ((Rows.registerLimitsRow.ifacesOut == Tryz.f3.resultTypes.toList.any (Tryz.prog.ifacesRec ·))) = true := by kernel_rfl
theorem jf21 : ((Rows.registerLimitsRow.loopsOut == Tryz.f3.resultTypes.toList.any (Tryz.prog.loopsFrom ·))) = true := by kernel_rfl
theorem jf22 : ((Rows.registerLimitsRow.plainKeys == Tryz.prog.plainKeys)) = true := by kernel_rfl
theorem jf23 : (Rows.registerLimitsRow.shortTexts.isNone) = true := by kernel_rfl
theorem jf26 : ((Rows.registerLimitsRow.lifted == Tryz.prog.liftsFinal)) = true := by kernel_rfl
theorem jf27 : ((Tryz.prog.make == some Rows.registerLimitsRow.make)) = true := by kernel_rfl
theorem jf28 : ((Rows.registerLimitsRow.kinds == (if Rows.registerLimitsRow.domain.isEmpty then [] else Tryz.f3.params.toList.map fun t => match Tryz.prog.underlying t with | some (.int k) => some k | _ => none))) = true := by kernel_rfl
theorem jf29 : ((Rows.registerLimitsRow.pinned == Rows.registerLimitsRow.pinnedBy)) = true := by kernel_rfl
theorem jf30 : ((Rows.registerLimitsRow.veiled == (Tryz.f3.params.toList ++ Rows.registerLimitsSpec.plain.varTypes Tryz.prog ++ Tryz.f3.resultTypes.toList).any (Tryz.prog.veiledRec ·))) = true := by kernel_rfl
theorem jf31 : (Rows.registerLimitsRow.veiledFits Tryz.prog Tryz.f3.params.toList (Tryz.f3.params.toList ++ Rows.registerLimitsSpec.plain.varTypes Tryz.prog ++ Tryz.f3.resultTypes.toList)) = true := by kernel_rfl
end Go.Proofs.YtakbgbnnocmaiaaGreatDoor
end
