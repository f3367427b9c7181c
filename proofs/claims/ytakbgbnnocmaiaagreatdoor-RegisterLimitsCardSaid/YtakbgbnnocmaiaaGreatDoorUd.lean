/- RegisterLimits: a start that fits the row: the listed variables. -/
import Derived.Test.YtakbgbnnocmaiaaGreatDoorUc
set_option linter.all false
section
namespace Go.Proofs.YtakbgbnnocmaiaaGreatDoor
open Go Go.ChangeShapes Go.WideShapes Go.ChangeAt Go.RowKit
noncomputable def mem0 : World := { heap := heap1, tape := fun _ _ => 0, drawn := 0, os := default, output := #[] }
theorem mem0_eq (os : Os) : (wit1 os).memory = mem0 := by
  unfold World.memory mem0
  rw [wit1_heap]
theorem lay1 : (DataW.laidRun Tryz.prog mem0 8 (laid5.map (·.1))).map (·.1) = some laid5 := by kernel_rfl
theorem lay2 : (DataW.laidRun Tryz.prog mem0 8 (laid5.map (·.1))).map (fun x => decide x.2.Nodup && laidRowsB Tryz.prog mem0 x.2) = some true := by kernel_rfl
theorem wit_plain : (laid5.all fun x => x.2.handleName?.isNone) = true := by kernel_rfl
theorem wit_laid (os : Os) : laidMetH Tryz.prog laid5 (wit1 os).memory := by
  rw [mem0_eq, MakeChecks.laidMetH_plain _ _ _ wit_plain]
  exact laidMet_of_run' 8 lay1 lay2
end Go.Proofs.YtakbgbnnocmaiaaGreatDoor
end
section
/- RegisterLimits: a start that fits the row: its shape, the arguments. -/
namespace Go.Proofs.YtakbgbnnocmaiaaGreatDoor
open Go Go.ChangeShapes Go.WideShapes Go.ChangeAt Go.RowKit
theorem cellOk_world {P : Program} {w w' : World} (h : w.heap = w'.heap) {u : TypeId} {v : Value} (hk : Cell.okRefB P w u v = true) : Cell.okRefB P w' u v = true := by
  cases w; cases w'
  cases h
  exact hk
theorem gB_of (g : Nat) (hg : g < 6) : gB g = true := by
  have : g = 0 ∨ g = 1 ∨ g = 2 ∨ g = 3 ∨ g = 4 ∨ g = 5 := by omega
  rcases this with rfl | rfl | rfl | rfl | rfl | rfl
  · exact gB0
  · exact gB1
  · exact gB2
  · exact gB3
  · exact gB4
  · exact gB5
theorem wit_heaps (os : Os) : (wit0 default).heap = (wit1 os).heap := (show (wit0 default).heap = heap1 from by unfold wit0; exact Eq.refl heap1).trans (wit1_heap os).symm
set_option maxRecDepth 100000 in
theorem wit_shaped (os : Os) : (wit1 os).Shaped Tryz.prog := by
  refine ⟨fun g zero t hg hz => ?_, fun k h1 h2 => ?_⟩
  · have hz : (heap0[g]?).bind Obj.row? = some (zero, t) := hz
    have := gB_of g (by rw [globals6] at hg; exact hg)
    unfold gB at this
    rw [hz] at this
    simp only at this
    rw [wit1_heap]
    split at this
    · rename_i cs t' fr hw
      simp only [Bool.and_eq_true, decide_eq_true_eq, beq_iff_eq, Bool.or_eq_true, Bool.not_eq_true'] at this
      obtain ⟨⟨⟨rfl, rfl⟩, hs⟩, hb⟩ := this
      refine ⟨cs, hw, hs, fun hbuild => ?_⟩
      rcases hb with hb | hb
      · rw [hbuild] at hb; cases hb
      · split at hb
        · rename_i ts hts
          obtain ⟨a, b⟩ := Lay.zipOk_at _ _ hb
          have a' : cs.size = ts.length := by simpa using a
          refine ⟨ts, hts, ⟨1, by omega⟩, fun i v hi => ?_⟩
          have hlt : i < cs.size := (Array.getElem?_eq_some_iff.1 hi).1
          obtain ⟨u, hu, hok⟩ := b i v (by simpa using hi)
          exact ⟨u, by rw [Nat.mod_eq_of_lt (by omega)]; exact hu, Cell.ok_of_okRefB (cellOk_world (w' := wit1 os) (wit_heaps os) hok)⟩
        · cases hb
    · cases this
  · have h2 : k < heap0.size := h2
    rw [heap0_size] at h2
    rw [globals6] at h1
    rw [wit1_heap]
    exact heap1_at (by omega) h2
theorem wit_own : ownKnob Tryz.prog.godebug = none := by kernel_rfl
theorem wit_init : Tryz.checked.prog.inits.idxOf? 3 = none := by kernel_rfl
theorem wit_ok (os : Os) : Input.okWideB Tryz.checked.prog (wit1 os) 3 ⟨#[], #[.slice none 0 0, .int .i64 0], []⟩ = true := by kernel_rfl
theorem wit_pre (os : Os) (H : Type) (enc : TypeId × Value → H) : Rows.registerLimitsSpec.preB enc Tryz.checked.prog Tryz.f3 [] false (wit1 os).memory #[.slice none 0 0, .int .i64 0] 8 = true := by kernel_rfl
theorem wit_size (os : Os) (H : Type) (enc : TypeId × Value → H) : Rows.registerLimitsSpec.sizedB enc Tryz.checked.prog Tryz.f3 false (wit1 os).memory #[.slice none 0 0, .int .i64 0] 8 = true := by kernel_rfl
end Go.Proofs.YtakbgbnnocmaiaaGreatDoor
end
