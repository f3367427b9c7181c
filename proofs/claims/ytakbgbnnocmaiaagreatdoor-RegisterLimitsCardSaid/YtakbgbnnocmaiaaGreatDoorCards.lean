/-
  DERIVED. GIVEN WITH THE SEED: THE CARDS: each row of YtakbgbnnocmaiaaGreatDoorRows.lean that lists a variable, with what it lists TIED to the program's text (the seventh form; the later family's looks); each row that meets fmt, with fmt's text TOLD by the authors' own Lean function (tested against real Go, not proved from fmt's source: count such statements apart). THE CARD IS WHAT COUNTS. Prove the row's statement (the work); the ties are given (YtakbgbnnocmaiaaGreatDoorTie.lean); close each card by the builder's one call (the guide's Derived/Test/ToyasCard.lean, 'card_holds'). Laid BY PROGRAM, IN A SANDBOX (cutbox-door.mjs). By AI agents, Wed Nov 11 2026. No macro, syntax, notation, axiom, sorry.
-/
import Derived.Test.YtakbgbnnocmaiaaGreatDoorRows
import GoSem.ClaimSeven
namespace Go.Proofs.YtakbgbnnocmaiaaGreatDoor
namespace Rows

/-- THE TIED CARD OF 'boundstonelaw09.RegisterLimits'. -/
def registerLimitsCard : Claim7 := { stood := { row := registerLimitsRow, standIns := [], harness := (true, "452ea1e39d0bf75657c3e1f458f11303998062f79bf9155e2fb3413e39f4d6db"), looks := true }, kinds := [], alts := [], laidByText := true, laidKinds := [.data, .data, .data, .sentinel, .sentinel], laidTests := true, laidLooks := .later }
def RegisterLimitsCardSaid : Prop := Claim7.holds Tryz.pinned (.plain (OpenSpec.ofChange registerLimitsSpec)) registerLimitsCard

/-- THE SECOND FORM's CARD OF 'boundstonelaw09.RegisterLimits'. -/
def registerLimitsUptoCard : Claim7 := { stood := { row := registerLimitsUptoRow, standIns := [], harness := (true, "452ea1e39d0bf75657c3e1f458f11303998062f79bf9155e2fb3413e39f4d6db"), looks := true }, kinds := [], alts := [], laidByText := true, laidKinds := [.data, .data, .data, .sentinel, .sentinel], laidTests := true, laidLooks := .later }
def RegisterLimitsUptoCardSaid : Prop := Claim7.holds Tryz.pinned (.plain (OpenSpec.upto registerLimitsSpec)) registerLimitsUptoCard
end Rows
end Go.Proofs.YtakbgbnnocmaiaaGreatDoor
