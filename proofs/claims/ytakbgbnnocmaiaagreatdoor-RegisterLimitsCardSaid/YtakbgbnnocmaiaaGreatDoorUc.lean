/- RegisterLimits: a start that fits the row. (Printed by mkww.py.) -/
import Derived.Test.YtakbgbnnocmaiaaGreatDoorRows
import Derived.ProofKit
import Derived.LaidMore
import Derived.Lay
set_option linter.all false
section
namespace Go.Proofs.YtakbgbnnocmaiaaGreatDoor
open Go Go.ChangeShapes Go.WideShapes Go.ChangeAt Go.RowKit
abbrev laid5 : List (String × DataW Unit) := Rows.registerLimitsRow.laid
noncomputable def heap0 : Array Obj := (begin Tryz.prog (fun _ _ => 0) default).world.heap
noncomputable def top5 : List Obj := [
  .cells #[.int .u64 1, .int .u64 10, .int .u64 100, .int .u64 1000, .int .u64 10000, .int .u64 100000, .int .u64 1000000, .int .u64 10000000, .int .u64 100000000, .int .u64 1000000000, .int .u64 10000000000, .int .u64 100000000000, .int .u64 1000000000000, .int .u64 10000000000000, .int .u64 100000000000000, .int .u64 1000000000000000, .int .u64 10000000000000000, .int .u64 100000000000000000, .int .u64 1000000000000000000, .int .u64 10000000000000000000] 485,
  .cells #[.int .u8 0, .int .u8 1, .int .u8 28, .int .u8 2, .int .u8 29, .int .u8 14, .int .u8 24, .int .u8 3, .int .u8 30, .int .u8 22, .int .u8 20, .int .u8 15, .int .u8 25, .int .u8 17, .int .u8 4, .int .u8 8, .int .u8 31, .int .u8 27, .int .u8 13, .int .u8 23, .int .u8 21, .int .u8 19, .int .u8 16, .int .u8 7, .int .u8 26, .int .u8 12, .int .u8 18, .int .u8 6, .int .u8 11, .int .u8 5, .int .u8 10, .int .u8 9] 643,
  .cells #[.int .u8 0, .int .u8 1, .int .u8 56, .int .u8 2, .int .u8 57, .int .u8 49, .int .u8 28, .int .u8 3, .int .u8 61, .int .u8 58, .int .u8 42, .int .u8 50, .int .u8 38, .int .u8 29, .int .u8 17, .int .u8 4, .int .u8 62, .int .u8 47, .int .u8 59, .int .u8 36, .int .u8 45, .int .u8 43, .int .u8 51, .int .u8 22, .int .u8 53, .int .u8 39, .int .u8 33, .int .u8 30, .int .u8 24, .int .u8 18, .int .u8 12, .int .u8 5, .int .u8 63, .int .u8 55, .int .u8 48, .int .u8 27, .int .u8 60, .int .u8 41, .int .u8 37, .int .u8 16, .int .u8 46, .int .u8 35, .int .u8 44, .int .u8 21, .int .u8 52, .int .u8 32, .int .u8 23, .int .u8 11, .int .u8 54, .int .u8 26, .int .u8 40, .int .u8 15, .int .u8 34, .int .u8 20, .int .u8 31, .int .u8 10, .int .u8 25, .int .u8 14, .int .u8 19, .int .u8 9, .int .u8 13, .int .u8 8, .int .u8 7, .int .u8 6] 644,
  .cells #[.iface 690 (.pointer (some ⟨11, 0, none⟩))] 396,
  .cells #[.iface 690 (.pointer (some ⟨12, 0, none⟩))] 396]
noncomputable def end2 : List Obj := [.cells #[.string ⟨#[105, 110, 118, 97, 108, 105, 100, 32, 115, 121, 110, 116, 97, 120]⟩] 692, .cells #[.string ⟨#[118, 97, 108, 117, 101, 32, 111, 117, 116, 32, 111, 102, 32, 114, 97, 110, 103, 101]⟩] 692]
noncomputable def heap1 : Array Obj := ⟨top5 ++ (heap0.toList.drop 5 ++ end2)⟩
noncomputable def wit0 (os : Os) : World := { heap := heap1, tape := fun _ _ => 0, drawn := 0, os := os, output := #[] }
noncomputable def wit1 (os : Os) : World := (wit0 os).forCall (fun _ _ => 0) ⟨#[], #[.slice none 0 0, .int .i64 0], []⟩
theorem wit1_heap (os : Os) : (wit1 os).heap = heap1 := by
  show (⟨#[], #[.slice none 0 0, .int .i64 0], []⟩ : Input).heap heap1 = heap1
  rw [Input.heap_fresh rfl]
  simp
theorem globals6 : Tryz.prog.globals.size = 6 := by
  have : Nat.beq Tryz.prog.globals.size 6 = true := by kernel_rfl
  exact Nat.eq_of_beq_eq_true this
theorem heap0_size : heap0.size = 11 := by
  have : Nat.beq heap0.size 11 = true := by kernel_rfl
  exact Nat.eq_of_beq_eq_true this
/-- what lies behind the listed variables lies as at the start -/
theorem heap1_at {k : Nat} (h5 : 5 ≤ k) (h : k < 11) : heap1[k]? = heap0[k]? := by
  have e : heap1[k]? = (top5 ++ (heap0.toList.drop 5 ++ end2))[k]? := by
    unfold heap1
    exact List.getElem?_toArray
  have hl : (heap0.toList.drop 5).length = 6 := by rw [List.length_drop, Array.length_toList, heap0_size]
  rw [e, List.getElem?_append_right (show top5.length ≤ k from h5), List.getElem?_append_left (show k - top5.length < _ by rw [hl]; show k - 5 < 6; omega), List.getElem?_drop]
  show heap0.toList[5 + (k - 5)]? = _
  rw [Nat.add_sub_cancel' h5, Array.getElem?_toList]
/-- one variable -/
noncomputable def gB (g : Nat) : Bool :=
  match (heap0[g]?).bind Obj.row? with
    | none => true
    | some (zero, t) =>
      match heap1[g]? with
      | some (.cells cs t' frozen) => decide (t' = t) && decide (frozen = (0, 0)) && cs.size == zero.size && (!Tryz.prog.buildable t || match Tryz.prog.cellTypes Tryz.prog.depth t with | some ts => Lay.zipOk Tryz.prog (wit0 default) cs.toList ts | none => false)
      | _ => false
theorem gB0 : gB 0 = true := by kernel_rfl
theorem gB1 : gB 1 = true := by kernel_rfl
theorem gB2 : gB 2 = true := by kernel_rfl
theorem gB3 : gB 3 = true := by kernel_rfl
theorem gB4 : gB 4 = true := by kernel_rfl
theorem gB5 : gB 5 = true := by kernel_rfl
end Go.Proofs.YtakbgbnnocmaiaaGreatDoor
end
