/- The card: no go statement stands in the translation. -/
import Derived.Test.YtakbgbnnocmaiaaGreatDoorXb
import Derived.Test.YtakbgbnnocmaiaaGreatDoorRows
import Derived.SevenTiedAt
set_option linter.all false
section
namespace Go.Proofs.YtakbgbnnocmaiaaGreatDoor
open Go
theorem kt_goes : false = Rows.registerLimitsRow.goesBy Tryz.prog := by
  have h1 : ∀ g : Nat, ((Tryz.prog.funcs[g]?).any Func.goes) = false := fun g => by
    cases hg : Tryz.prog.funcs[g]? with
    | none => rfl
    | some fn =>
      have := kt_none
      rw [Array.any_eq_false'] at this
      have h2 := this fn (Array.mem_of_getElem? hg)
      simpa using h2
  have h3 : (Tryz.prog.closure 3).any (fun g => (Tryz.prog.funcs[g]?).any Func.goes) = false := by
    rw [List.any_eq_false]
    intro g _
    rw [h1 g]; simp
  have h4 : Tryz.prog.goes 3 = false := by
    unfold Program.goes
    rw [h3, kt_none, Bool.and_false]; rfl
  have h5 : Tryz.prog.goesFrom Rows.registerLimitsRow.func = false := by
    unfold Program.goesFrom
    rw [kt_named, Option.any_some]
    exact h4
  unfold OpenClaim.goesBy Program.goesAt
  rw [h5]
  rfl
end Go.Proofs.YtakbgbnnocmaiaaGreatDoor
end
