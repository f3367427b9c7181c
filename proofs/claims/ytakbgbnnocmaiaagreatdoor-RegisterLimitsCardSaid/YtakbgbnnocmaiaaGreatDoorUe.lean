/- The types' rows are laid out: thirty by thirty. (Printed by mklo.py.) -/
import Derived.Test.YtakbgbnnocmaiaaGreatDoorRows
import Derived.ProofKit
set_option linter.all false
section
namespace Go.Proofs.YtakbgbnnocmaiaaGreatDoor
open Go
theorem all_app {p : Nat → Bool} {a m k : Nat} (h : (List.range' a m).all p = true) (h2 : (List.range' (a + m) k).all p = true) : (List.range' a (m + k)).all p = true := by
  rw [← List.range'_append_1, List.all_append, h, h2]; rfl
theorem lo0 : (List.range' 0 30).all (rowFine Tryz.prog) = true := by kernel_rfl
theorem lo30 : (List.range' 30 30).all (rowFine Tryz.prog) = true := by kernel_rfl
theorem lo60 : (List.range' 60 30).all (rowFine Tryz.prog) = true := by kernel_rfl
theorem lo90 : (List.range' 90 30).all (rowFine Tryz.prog) = true := by kernel_rfl
theorem lo120 : (List.range' 120 30).all (rowFine Tryz.prog) = true := by kernel_rfl
theorem lo150 : (List.range' 150 30).all (rowFine Tryz.prog) = true := by kernel_rfl
theorem lo180 : (List.range' 180 30).all (rowFine Tryz.prog) = true := by kernel_rfl
theorem lo210 : (List.range' 210 30).all (rowFine Tryz.prog) = true := by kernel_rfl
theorem lo240 : (List.range' 240 30).all (rowFine Tryz.prog) = true := by kernel_rfl
theorem lo270 : (List.range' 270 30).all (rowFine Tryz.prog) = true := by kernel_rfl
theorem lo300 : (List.range' 300 30).all (rowFine Tryz.prog) = true := by kernel_rfl
theorem lo330 : (List.range' 330 30).all (rowFine Tryz.prog) = true := by kernel_rfl
theorem lo360 : (List.range' 360 30).all (rowFine Tryz.prog) = true := by kernel_rfl
theorem lo390 : (List.range' 390 30).all (rowFine Tryz.prog) = true := by kernel_rfl
theorem lo420 : (List.range' 420 30).all (rowFine Tryz.prog) = true := by kernel_rfl
theorem lo450 : (List.range' 450 30).all (rowFine Tryz.prog) = true := by kernel_rfl
theorem lo480 : (List.range' 480 30).all (rowFine Tryz.prog) = true := by kernel_rfl
theorem lo510 : (List.range' 510 30).all (rowFine Tryz.prog) = true := by kernel_rfl
theorem lo540 : (List.range' 540 30).all (rowFine Tryz.prog) = true := by kernel_rfl
theorem lo570 : (List.range' 570 30).all (rowFine Tryz.prog) = true := by kernel_rfl
theorem lo600 : (List.range' 600 30).all (rowFine Tryz.prog) = true := by kernel_rfl
theorem lo630 : (List.range' 630 30).all (rowFine Tryz.prog) = true := by kernel_rfl
theorem lo660 : (List.range' 660 30).all (rowFine Tryz.prog) = true := by kernel_rfl
theorem lo690 : (List.range' 690 30).all (rowFine Tryz.prog) = true := by kernel_rfl
theorem lo720 : (List.range' 720 30).all (rowFine Tryz.prog) = true := by kernel_rfl
theorem lo750 : (List.range' 750 30).all (rowFine Tryz.prog) = true := by kernel_rfl
theorem lo780 : (List.range' 780 30).all (rowFine Tryz.prog) = true := by kernel_rfl
theorem lo_types : (List.range' 0 810).all (rowFine Tryz.prog) = true := (all_app (a := 0) (m := 780) (k := 30) (all_app (a := 0) (m := 750) (k := 30) (all_app (a := 0) (m := 720) (k := 30) (all_app (a := 0) (m := 690) (k := 30) (all_app (a := 0) (m := 660) (k := 30) (all_app (a := 0) (m := 630) (k := 30) (all_app (a := 0) (m := 600) (k := 30) (all_app (a := 0) (m := 570) (k := 30) (all_app (a := 0) (m := 540) (k := 30) (all_app (a := 0) (m := 510) (k := 30) (all_app (a := 0) (m := 480) (k := 30) (all_app (a := 0) (m := 450) (k := 30) (all_app (a := 0) (m := 420) (k := 30) (all_app (a := 0) (m := 390) (k := 30) (all_app (a := 0) (m := 360) (k := 30) (all_app (a := 0) (m := 330) (k := 30) (all_app (a := 0) (m := 300) (k := 30) (all_app (a := 0) (m := 270) (k := 30) (all_app (a := 0) (m := 240) (k := 30) (all_app (a := 0) (m := 210) (k := 30) (all_app (a := 0) (m := 180) (k := 30) (all_app (a := 0) (m := 150) (k := 30) (all_app (a := 0) (m := 120) (k := 30) (all_app (a := 0) (m := 90) (k := 30) (all_app (a := 0) (m := 60) (k := 30) (all_app (a := 0) (m := 30) (k := 30) lo0 lo30) lo60) lo90) lo120) lo150) lo180) lo210) lo240) lo270) lo300) lo330) lo360) lo390) lo420) lo450) lo480) lo510) lo540) lo570) lo600) lo630) lo660) lo690) lo720) lo750) lo780)
theorem mr0 : (List.range' 0 30).all (fun t => match Tryz.prog.underlying t with | some (.map _ e) => decide (e < Tryz.prog.types.size) | _ => true) = true := by kernel_rfl
theorem mr30 : (List.range' 30 30).all (fun t => match Tryz.prog.underlying t with | some (.map _ e) => decide (e < Tryz.prog.types.size) | _ => true) = true := by kernel_rfl
theorem mr60 : (List.range' 60 30).all (fun t => match Tryz.prog.underlying t with | some (.map _ e) => decide (e < Tryz.prog.types.size) | _ => true) = true := by kernel_rfl
theorem mr90 : (List.range' 90 30).all (fun t => match Tryz.prog.underlying t with | some (.map _ e) => decide (e < Tryz.prog.types.size) | _ => true) = true := by kernel_rfl
theorem mr120 : (List.range' 120 30).all (fun t => match Tryz.prog.underlying t with | some (.map _ e) => decide (e < Tryz.prog.types.size) | _ => true) = true := by kernel_rfl
theorem mr150 : (List.range' 150 30).all (fun t => match Tryz.prog.underlying t with | some (.map _ e) => decide (e < Tryz.prog.types.size) | _ => true) = true := by kernel_rfl
theorem mr180 : (List.range' 180 30).all (fun t => match Tryz.prog.underlying t with | some (.map _ e) => decide (e < Tryz.prog.types.size) | _ => true) = true := by kernel_rfl
theorem mr210 : (List.range' 210 30).all (fun t => match Tryz.prog.underlying t with | some (.map _ e) => decide (e < Tryz.prog.types.size) | _ => true) = true := by kernel_rfl
theorem mr240 : (List.range' 240 30).all (fun t => match Tryz.prog.underlying t with | some (.map _ e) => decide (e < Tryz.prog.types.size) | _ => true) = true := by kernel_rfl
theorem mr270 : (List.range' 270 30).all (fun t => match Tryz.prog.underlying t with | some (.map _ e) => decide (e < Tryz.prog.types.size) | _ => true) = true := by kernel_rfl
theorem mr300 : (List.range' 300 30).all (fun t => match Tryz.prog.underlying t with | some (.map _ e) => decide (e < Tryz.prog.types.size) | _ => true) = true := by kernel_rfl
theorem mr330 : (List.range' 330 30).all (fun t => match Tryz.prog.underlying t with | some (.map _ e) => decide (e < Tryz.prog.types.size) | _ => true) = true := by kernel_rfl
theorem mr360 : (List.range' 360 30).all (fun t => match Tryz.prog.underlying t with | some (.map _ e) => decide (e < Tryz.prog.types.size) | _ => true) = true := by kernel_rfl
theorem mr390 : (List.range' 390 30).all (fun t => match Tryz.prog.underlying t with | some (.map _ e) => decide (e < Tryz.prog.types.size) | _ => true) = true := by kernel_rfl
theorem mr420 : (List.range' 420 30).all (fun t => match Tryz.prog.underlying t with | some (.map _ e) => decide (e < Tryz.prog.types.size) | _ => true) = true := by kernel_rfl
theorem mr450 : (List.range' 450 30).all (fun t => match Tryz.prog.underlying t with | some (.map _ e) => decide (e < Tryz.prog.types.size) | _ => true) = true := by kernel_rfl
theorem mr480 : (List.range' 480 30).all (fun t => match Tryz.prog.underlying t with | some (.map _ e) => decide (e < Tryz.prog.types.size) | _ => true) = true := by kernel_rfl
theorem mr510 : (List.range' 510 30).all (fun t => match Tryz.prog.underlying t with | some (.map _ e) => decide (e < Tryz.prog.types.size) | _ => true) = true := by kernel_rfl
theorem mr540 : (List.range' 540 30).all (fun t => match Tryz.prog.underlying t with | some (.map _ e) => decide (e < Tryz.prog.types.size) | _ => true) = true := by kernel_rfl
theorem mr570 : (List.range' 570 30).all (fun t => match Tryz.prog.underlying t with | some (.map _ e) => decide (e < Tryz.prog.types.size) | _ => true) = true := by kernel_rfl
theorem mr600 : (List.range' 600 30).all (fun t => match Tryz.prog.underlying t with | some (.map _ e) => decide (e < Tryz.prog.types.size) | _ => true) = true := by kernel_rfl
theorem mr630 : (List.range' 630 30).all (fun t => match Tryz.prog.underlying t with | some (.map _ e) => decide (e < Tryz.prog.types.size) | _ => true) = true := by kernel_rfl
theorem mr660 : (List.range' 660 30).all (fun t => match Tryz.prog.underlying t with | some (.map _ e) => decide (e < Tryz.prog.types.size) | _ => true) = true := by kernel_rfl
theorem mr690 : (List.range' 690 30).all (fun t => match Tryz.prog.underlying t with | some (.map _ e) => decide (e < Tryz.prog.types.size) | _ => true) = true := by kernel_rfl
theorem mr720 : (List.range' 720 30).all (fun t => match Tryz.prog.underlying t with | some (.map _ e) => decide (e < Tryz.prog.types.size) | _ => true) = true := by kernel_rfl
theorem mr750 : (List.range' 750 30).all (fun t => match Tryz.prog.underlying t with | some (.map _ e) => decide (e < Tryz.prog.types.size) | _ => true) = true := by kernel_rfl
theorem mr780 : (List.range' 780 30).all (fun t => match Tryz.prog.underlying t with | some (.map _ e) => decide (e < Tryz.prog.types.size) | _ => true) = true := by kernel_rfl
theorem mr_types : (List.range' 0 810).all (fun t => match Tryz.prog.underlying t with | some (.map _ e) => decide (e < Tryz.prog.types.size) | _ => true) = true := (all_app (a := 0) (m := 780) (k := 30) (all_app (a := 0) (m := 750) (k := 30) (all_app (a := 0) (m := 720) (k := 30) (all_app (a := 0) (m := 690) (k := 30) (all_app (a := 0) (m := 660) (k := 30) (all_app (a := 0) (m := 630) (k := 30) (all_app (a := 0) (m := 600) (k := 30) (all_app (a := 0) (m := 570) (k := 30) (all_app (a := 0) (m := 540) (k := 30) (all_app (a := 0) (m := 510) (k := 30) (all_app (a := 0) (m := 480) (k := 30) (all_app (a := 0) (m := 450) (k := 30) (all_app (a := 0) (m := 420) (k := 30) (all_app (a := 0) (m := 390) (k := 30) (all_app (a := 0) (m := 360) (k := 30) (all_app (a := 0) (m := 330) (k := 30) (all_app (a := 0) (m := 300) (k := 30) (all_app (a := 0) (m := 270) (k := 30) (all_app (a := 0) (m := 240) (k := 30) (all_app (a := 0) (m := 210) (k := 30) (all_app (a := 0) (m := 180) (k := 30) (all_app (a := 0) (m := 150) (k := 30) (all_app (a := 0) (m := 120) (k := 30) (all_app (a := 0) (m := 90) (k := 30) (all_app (a := 0) (m := 60) (k := 30) (all_app (a := 0) (m := 30) (k := 30) mr0 mr30) mr60) mr90) mr120) mr150) mr180) mr210) mr240) mr270) mr300) mr330) mr360) mr390) mr420) mr450) mr480) mr510) mr540) mr570) mr600) mr630) mr660) mr690) mr720) mr750) mr780)
theorem types810 : Tryz.prog.types.size = 810 := Nat.eq_of_beq_eq_true (by kernel_rfl)
theorem lo_globals : Tryz.prog.globals.all (fun g => decide (g.type < Tryz.prog.types.size)) = true := by kernel_rfl
theorem lo_funcs : Tryz.prog.funcs.all (fun f => f.params.all fun t => decide (t < Tryz.prog.types.size)) = true := by kernel_rfl
theorem and2 {a b : Bool} (h : a = true) (k : b = true) : (a && b) = true := by rw [h, k]; rfl
theorem jf1 : laidOutB Tryz.prog = true := by
  refine and2 (and2 ?_ lo_globals) lo_funcs
  rw [types810, List.range_eq_range']
  exact lo_types
theorem jf2 : mapsRowed Tryz.prog = true := by
  unfold mapsRowed
  rw [List.all_eq_true]
  intro t ht
  have h := List.all_eq_true.1 mr_types t (by rw [← List.range_eq_range', ← types810]; exact ht)
  revert h
  generalize Tryz.prog.underlying t = u
  generalize Tryz.prog.types.size = n
  intro h
  exact h
end Go.Proofs.YtakbgbnnocmaiaaGreatDoor
end
