/- What RegisterLimits comes to: the variables that it names; what is answered in place. (Printed by mkclo.py.) -/
import Derived.Test.YtakbgbnnocmaiaaGreatDoorVd
import Derived.Test.YtakbgbnnocmaiaaGreatDoorRows
set_option linter.all false
section
namespace Go.Proofs.YtakbgbnnocmaiaaGreatDoor
open Go
noncomputable def gF (g : FuncId) : List Nat := ((Tryz.prog.funcs[g]?).bind (·.body)).elim [] Code.globalsNamed
noncomputable def eF (g : FuncId) : Option String := (Tryz.prog.funcs[g]?).bind fun fn => if fn.body.isNone then entryReads.lookup fn.name else none
noncomputable def iF (g : FuncId) : Option String := (Tryz.prog.funcs[g]?).bind fun fn => if fn.ours || fn.body.isNone || fn.name == "runtime.NumGoroutine" then some fn.name else none
noncomputable def uF (g : FuncId) : Bool := (Tryz.prog.funcs[g]?).any fun fn => match fn.body with | some c => c.unfollowed | none => entryCalls fn
theorem g0 : cl0.flatMap gF = [0, 1, 2, 3, 4] := by kernel_rfl
theorem e0 : cl0.filterMap eF = [] := by kernel_rfl
theorem i0 : cl0.filterMap iF = [] := by kernel_rfl
theorem g1 : cl1.flatMap gF = [] := by kernel_rfl
theorem e1 : cl1.filterMap eF = [] := by kernel_rfl
theorem i1 : cl1.filterMap iF = ["internal/bytealg.IndexByteString"] := by kernel_rfl
theorem g2 : cl2.flatMap gF = [] := by kernel_rfl
theorem e2 : cl2.filterMap eF = [] := by kernel_rfl
theorem i2 : cl2.filterMap iF = [] := by kernel_rfl
theorem g3 : cl3.flatMap gF = [] := by kernel_rfl
theorem e3 : cl3.filterMap eF = [] := by kernel_rfl
theorem i3 : cl3.filterMap iF = ["slices.overlaps[boundstone/api.Sight]"] := by kernel_rfl
theorem g4 : cl4.flatMap gF = [] := by kernel_rfl
theorem e4 : cl4.filterMap eF = [] := by kernel_rfl
theorem i4 : cl4.filterMap iF = [] := by kernel_rfl
theorem g5 : cl5.flatMap gF = [] := by kernel_rfl
theorem e5 : cl5.filterMap eF = [] := by kernel_rfl
theorem i5 : cl5.filterMap iF = [] := by kernel_rfl
theorem g6 : cl6.flatMap gF = [] := by kernel_rfl
theorem e6 : cl6.filterMap eF = [] := by kernel_rfl
theorem i6 : cl6.filterMap iF = [] := by kernel_rfl
theorem g7 : cl7.flatMap gF = [] := by kernel_rfl
theorem e7 : cl7.filterMap eF = [] := by kernel_rfl
theorem i7 : cl7.filterMap iF = [] := by kernel_rfl
theorem g8 : cl8.flatMap gF = [] := by kernel_rfl
theorem e8 : cl8.filterMap eF = [] := by kernel_rfl
theorem i8 : cl8.filterMap iF = ["internal/abi.NoEscape", "internal/bytealg.MakeNoZero"] := by kernel_rfl
theorem g9 : cl9.flatMap gF = [] := by kernel_rfl
theorem e9 : cl9.filterMap eF = [] := by kernel_rfl
theorem i9 : cl9.filterMap iF = [] := by kernel_rfl
theorem gAll : clL.flatMap gF = [0, 1, 2, 3, 4] := by
  unfold clL
  simp only [List.flatMap_append, g0, g1, g2, g3, g4, g5, g6, g7, g8, g9]
  rfl
theorem eAll : clL.filterMap eF = [] := by
  unfold clL
  simp only [List.filterMap_append, e0, e1, e2, e3, e4, e5, e6, e7, e8, e9]
  rfl
theorem iAll : clL.filterMap iF = ["internal/bytealg.IndexByteString", "slices.overlaps[boundstone/api.Sight]", "internal/abi.NoEscape", "internal/bytealg.MakeNoZero"] := by
  unfold clL
  simp only [List.filterMap_append, i0, i1, i2, i3, i4, i5, i6, i7, i8, i9]
  rfl
theorem vars_eq : Tryz.prog.varsNamed 3 = ((((clL.flatMap gF).eraseDups).filterMap (fun g => (Tryz.prog.globals[g]?).map (·.name)) ++ clL.filterMap eF).eraseDups) := by
  unfold Program.varsNamed
  rw [clo]
  rfl
theorem jf12 : (Rows.registerLimitsRow.named == Tryz.prog.varsNamed 3) = true := by
  rw [vars_eq, gAll, eAll]
  kernel_rfl
theorem inPlace_eq : Tryz.prog.inPlace 3 = clL.filterMap iF := by
  unfold Program.inPlace
  rw [clo]
  rfl
theorem jf9 : (Rows.registerLimitsRow.inPlace == Tryz.prog.inPlace 3) = true := by
  rw [inPlace_eq, iAll]
  kernel_rfl
theorem unfollowed_eq : Tryz.prog.unfollowed 3 = clL.any uF := by
  unfold Program.unfollowed
  rw [clo]
  rfl
theorem u9 : uF 9 = true := by kernel_rfl
theorem unfollowed3 : Tryz.prog.unfollowed 3 = true := by
  rw [unfollowed_eq]
  exact List.any_eq_true.2 ⟨9, by decide, u9⟩
theorem jf10 : (Rows.registerLimitsRow.unfollowed == Tryz.prog.unfollowed 3) = true := by
  rw [unfollowed3]
  rfl
theorem jf11 : (Rows.registerLimitsRow.recurses == Tryz.prog.recurses 3) = true := by
  unfold Program.recurses
  rw [unfollowed3]
  rfl
end Go.Proofs.YtakbgbnnocmaiaaGreatDoor
end
