/- RegisterLimits: the card: for every register the law returns true, and the arguments read as before; the listed variables are tied to the program's text. -/
import Derived.Test.YtakbgbnnocmaiaaGreatDoorXd
import Derived.Test.YtakbgbnnocmaiaaGreatDoorXa
import Derived.Test.YtakbgbnnocmaiaaGreatDoorXc
set_option linter.all false
section
namespace Go.Proofs.YtakbgbnnocmaiaaGreatDoor
open Go
theorem registerLimits_card : Rows.RegisterLimitsCardSaid :=
  Claim7.holds_tied_plain_at .later [] [.data, .data, .data, .sentinel, .sentinel] true (true, "452ea1e39d0bf75657c3e1f458f11303998062f79bf9155e2fb3413e39f4d6db") true
    registerLimits_said (fun _ h => by cases h) kt_wf (fun _ h => by cases h) registerLimits_row_tie rfl ⟨rfl, rfl⟩ kt_main rfl
    (fun f fn hf hfn => by
      obtain rfl : f = 3 := Option.some.inj (law_named.symm.trans hf) |>.symm
      obtain rfl : fn = Tryz.f3 := (Option.some.inj (Tryz.func3.symm.trans hfn)).symm
      exact ⟨kt_looks, fun j t ht => by
        rw [Tryz.params3] at ht
        rcases j with _ | _ | j
        · obtain rfl : t = 22 := by simpa using ht.symm
          exact kt_22
        · obtain rfl : t = 3 := by simpa using ht.symm
          exact kt_3
        · simp at ht⟩)
    kt_goes
end Go.Proofs.YtakbgbnnocmaiaaGreatDoor
end
