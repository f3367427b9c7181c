/-
  DERIVED: THE SHELF's CONTRACTS AT THIS DUMP, IN PLAIN WORDS (tools/lay-plain.mjs out of 'TryzJoinShelf.lean', which tools/lay-shelf.mjs wrote): THE SAME DECLARATIONS UNDER THE SAME NAMES: 'import', 'namespace', 'open', 'def', 'theorem' AND NOTHING ELSE: no command of the shelf's: FOR A HAND-IN. Each laying: the table of numbers ('.._ren') and one theorem, a field a fact of the dump's own or the kernel's comparison; each contract: ONE APPLICATION.
-/
import Derived.Shelf.Strings.OnBuilder
import Derived.Test.YtakbgbnnocmaiaaGreatDoorProg
import Derived.Test.YtakbgbnnocmaiaaGreatDoorSn
import Derived.WalkKit
import Derived.KernelRfl
set_option linter.all false
section
namespace Go.Proofs
open Go.Shelf
def Tryz.lays156_ren : Go.Shelf.Ren := ⟨fun | 156 => 365 | 165 => 430 | 166 => 431 | 169 => 432 | 240 => 471 | 241 => 472 | 276 => 517 | 277 => 518 | n => n, fun | 31 => 72 | 9 => 9 | 3 => 3 | 4 => 4 | 0 => 0 | 20 => 20 | 72 => 641 | 76 => 397 | 70 => 639 | 37 => 392 | 75 => 396 | 127 => 688 | 164 => 726 | 5 => 5 | 80 => 222 | n => n, fun | n => n⟩
theorem Tryz.lays156 : Go.Proofs.Lays.n156 Tryz.prog Tryz.lays156_ren := {
  mixed := by kernel_rfl
  f156 := Tryz.func365.trans (congrArg some (by kernel_rfl))
  f165 := Tryz.func430.trans (congrArg some (by kernel_rfl))
  f166 := Tryz.func431.trans (congrArg some (by kernel_rfl))
  f169 := Tryz.func432.trans (congrArg some (by kernel_rfl))
  f240 := Tryz.func471.trans (congrArg some (by kernel_rfl))
  f241 := Tryz.func472.trans (congrArg some (by kernel_rfl))
  f276 := Tryz.func517.trans (congrArg some (by kernel_rfl))
  f277 := Tryz.func518.trans (congrArg some (by kernel_rfl))
  t0 := Tryz.underlying0
  a0 := Tryz.isAgg0
  z0 := Tryz.sizeOf0
  v0 := Tryz.zeroValue0
  t3 := Tryz.underlying3
  a3 := Tryz.isAgg3
  z3 := Tryz.sizeOf3
  v3 := Tryz.zeroValue3
  t4 := Tryz.underlying4
  a4 := Tryz.isAgg4
  z4 := Tryz.sizeOf4
  v4 := Tryz.zeroValue4
  t9 := Tryz.underlying9
  a9 := Tryz.isAgg9
  z9 := Tryz.sizeOf9
  v9 := Tryz.zeroValue9
  t20 := Tryz.underlying20
  a20 := Tryz.isAgg20
  z20 := Tryz.sizeOf20
  v20 := Tryz.zeroValue20
  t31 := Tryz.underlying72
  a31 := Tryz.isAgg72
  z31 := Tryz.sizeOf72
  v31 := Tryz.zeroValue72
  t37 := Tryz.underlying392
  a37 := Tryz.isAgg392
  z37 := Tryz.sizeOf392
  v37 := Tryz.zeroValue392
  t70 := Tryz.underlying639
  a70 := Tryz.isAgg639
  z70 := Tryz.sizeOf639
  v70 := Tryz.zeroValue639
  t72 := Tryz.underlying641
  a72 := Tryz.isAgg641
  z72 := Tryz.sizeOf641
  v72 := Tryz.zeroValue641
  t75 := Tryz.underlying396
  a75 := Tryz.isAgg396
  z75 := Tryz.sizeOf396
  v75 := Tryz.zeroValue396
  t76 := Tryz.underlying397
  a76 := Tryz.isAgg397
  z76 := Tryz.sizeOf397
  v76 := Tryz.zeroValue397
  t127 := Tryz.underlying688
  a127 := Tryz.isAgg688
  z127 := Tryz.sizeOf688
  v127 := Tryz.zeroValue688
  t164 := Tryz.underlying726
  a164 := Tryz.isAgg726
  z164 := Tryz.sizeOf726
  v164 := Tryz.zeroValue726 }
theorem Tryz.Builder_Extra_156 : Builder.Extra Tryz.prog Tryz.lays156_ren := {
  sizeBuilder := by kernel_rfl
  liesBuilder := by kernel_rfl
  t5 := Tryz.underlying5
  a5 := Tryz.isAgg5
  z5 := Tryz.sizeOf5
  v5 := Tryz.zeroValue5
  infoByte := by kernel_rfl
  cellsByte := by kernel_rfl
  sizeByte := by kernel_rfl
  neB5 := by decide }
end Go.Proofs
end
section
/- RegisterLimits: the executor over the program: its tables, and the answers that it knows. -/
namespace Go.Proofs
open Go.RowKit Go.Sim

/-! ### Tests of one byte -/

set_option maxHeartbeats 400000 in
theorem small_c (n : Int) (w : World) : Calls Tryz.prog 289 #[.int .u8 n] w fun e w' => e = .returned (.bool (decide (97 ≤ n) && decide (n ≤ 122))) ∧ w' = w := by
  go_enter Tryz.func289, Tryz.ntmps289
  go_wp2
  · go_ret; refine ⟨?_, rfl⟩; simp [*]
  · go_ret; refine ⟨?_, rfl⟩; rename_i h; have : ¬ 97 ≤ n := by omega
    simp [this]
set_option maxHeartbeats 400000 in
theorem capital_c (n : Int) (w : World) : Calls Tryz.prog 370 #[.int .u8 n] w fun e w' => e = .returned (.bool (decide (65 ≤ n) && decide (n ≤ 90))) ∧ w' = w := by
  go_enter Tryz.func370, Tryz.ntmps370
  go_wp2
  · go_ret; refine ⟨?_, rfl⟩; simp [*]
  · go_ret; refine ⟨?_, rfl⟩; rename_i h; have : ¬ 65 ≤ n := by omega
    simp [this]
set_option maxHeartbeats 400000 in
theorem digit_c (n : Int) (w : World) : Calls Tryz.prog 369 #[.int .u8 n] w fun e w' => e = .returned (.bool (decide (48 ≤ n) && decide (n ≤ 57))) ∧ w' = w := by
  go_enter Tryz.func369, Tryz.ntmps369
  go_wp2
  · go_ret; refine ⟨?_, rfl⟩; simp [*]
  · go_ret; refine ⟨?_, rfl⟩; rename_i h; have : ¬ 48 ≤ n := by omega
    simp [this]
set_option maxHeartbeats 400000 in
theorem letter_c (n : Int) (w : World) : Calls Tryz.prog 368 #[.int .u8 n] w fun e w' => e = .returned (.bool ((decide (97 ≤ n) && decide (n ≤ 122)) || (decide (65 ≤ n) && decide (n ≤ 90)))) ∧ w' = w := by
  go_enter Tryz.func368, Tryz.ntmps368
  go_wp2_with (first
    | (go_at_call 289; refine (small_c _ _).mono ?_; rintro e w' ⟨rfl, rfl⟩)
    | (go_at_call 370; refine (capital_c _ _).mono ?_; rintro e w' ⟨rfl, rfl⟩))
  all_goals go_ret; refine ⟨?_, rfl⟩
  all_goals simp_all

theorem rng (a b n : Nat) : (decide (((a : Nat) : Int) ≤ (n : Int)) && decide ((n : Int) ≤ ((b : Nat) : Int))) = sel (Nat.ble a n) (Nat.ble n b) false := by
  have e1 : decide (((a : Nat) : Int) ≤ (n : Int)) = decide (a ≤ n) := decide_eq_decide.2 (by omega)
  have e2 : decide ((n : Int) ≤ ((b : Nat) : Int)) = decide (n ≤ b) := decide_eq_decide.2 (by omega)
  rw [e1, e2, natBle, natBle, sel_eq]
  cases decide (a ≤ n) <;> simp

theorem small_ov : OvOk Tryz.prog 289 (byteF fun n => sel (Nat.ble 97 n) (Nat.ble n 122) false) :=
  byteF_ok (fun n w => (small_c n w).mono fun e w' ⟨h1, h2⟩ => ⟨by rw [h1, ← rng 97 122 n]; rfl, h2⟩) fun args w => callFunc_enter Tryz.func289 (by kernel_rfl) rfl args w
theorem capital_ov : OvOk Tryz.prog 370 (byteF fun n => sel (Nat.ble 65 n) (Nat.ble n 90) false) :=
  byteF_ok (fun n w => (capital_c n w).mono fun e w' ⟨h1, h2⟩ => ⟨by rw [h1, ← rng 65 90 n]; rfl, h2⟩) fun args w => callFunc_enter Tryz.func370 (by kernel_rfl) rfl args w
theorem digit_ov : OvOk Tryz.prog 369 (byteF fun n => sel (Nat.ble 48 n) (Nat.ble n 57) false) :=
  byteF_ok (fun n w => (digit_c n w).mono fun e w' ⟨h1, h2⟩ => ⟨by rw [h1, ← rng 48 57 n]; rfl, h2⟩) fun args w => callFunc_enter Tryz.func369 (by kernel_rfl) rfl args w
theorem letter_ov : OvOk Tryz.prog 368 (byteF fun n => sel (sel (Nat.ble 97 n) (Nat.ble n 122) false) true (sel (Nat.ble 65 n) (Nat.ble n 90) false)) :=
  byteF_ok (fun n w => (letter_c n w).mono fun e w' ⟨h1, h2⟩ => ⟨by
    rw [h1]
    have e1 := rng 97 122 n
    have e2 := rng 65 90 n
    rw [← e1, ← e2, sel_eq]
    show Ending.returned (.bool ((decide ((97 : Int) ≤ n) && decide ((n : Int) ≤ 122)) || (decide ((65 : Int) ≤ n) && decide ((n : Int) ≤ 90)))) = Ending.returned (.bool (if (decide ((97 : Int) ≤ n) && decide ((n : Int) ≤ 122)) = true then true else (decide ((65 : Int) ≤ n) && decide ((n : Int) ≤ 90))))
    cases (decide ((97 : Int) ≤ n) && decide ((n : Int) ≤ 122)) <;> simp, h2⟩) fun args w => callFunc_enter Tryz.func368 (by kernel_rfl) rfl args w

theorem join_ov' : OvOk Tryz.prog 365 joinF := fun call _ args h =>
  ⟨join_ov Tryz.lays156 Tryz.Builder_Extra_156 rfl call args h, fun _ args w => callFunc_enter Tryz.func365 (by kernel_rfl) rfl args w⟩

/-! ### The tables -/

noncomputable def ov0 : List (Nat × Ov) := [(289, byteF fun n => sel (Nat.ble 97 n) (Nat.ble n 122) false), (368, byteF fun n => sel (sel (Nat.ble 97 n) (Nat.ble n 122) false) true (sel (Nat.ble 65 n) (Nat.ble n 90) false)), (370, byteF fun n => sel (Nat.ble 65 n) (Nat.ble n 90) false), (369, byteF fun n => sel (Nat.ble 48 n) (Nat.ble n 57) false), (365, joinF)]
def eqs : List (Nat × List Nat) := [(150, [0, 0, 0, 0, 0, 0, 0, 0]), (153, [0, 0, 0, 2]), (336, [1, 0]), (296, [0, 0, 1]), (25, [0, 0]), (58, [0, 0, 0]), (56, [0, 0, 1]), (54, [0, 0, 0, 0]), (52, [0, 0, 0, 0]), (44, [0, 0, 0]), (41, [0, 0, 0, 0]), (39, [0, 0, 0, 0, 0, 0, 1, 0, 0]), (35, [0, 0, 0]), (33, [0, 0, 0, 0, 0]), (31, [0, 0, 0, 0, 0]), (29, [0, 0, 0, 0, 0]), (106, [0, 0, 0, 0, 0])]
noncomputable def ext0 (f : FuncId) : Option (List AVal → Option AVal) := sel (Nat.beq f 381) (some ibF) none
noncomputable def cx (l : List (Nat × Ov)) : Ctx := { P := Tryz.prog, tt := tyTree Tryz.prog, ft := fnTree Tryz.prog, ov := ovOf l, ext := ext0, eqT := eqOf eqs }

set_option maxRecDepth 100000 in
theorem tyAll : Tryz.prog.types.toList.all (tyChk1 Tryz.prog) = true := by kernel_rfl
set_option maxRecDepth 100000 in
theorem fldAll : Tryz.prog.types.toList.all (fldChk1 Tryz.prog Tryz.prog.types.size) = true := by kernel_rfl
set_option maxRecDepth 100000 in
theorem eqAll : eqs.all (eqChk1 Tryz.prog) = true := by kernel_rfl
set_option maxRecDepth 100000 in
theorem fnAll : Tryz.prog.funcs.toList.all (fun fn => !(fn.name == "runtime.NumGoroutine")) = true := by kernel_rfl

theorem K_ok (l : List (Nat × Ov)) : COk (cx l) Tryz.prog := by
  refine cok rfl rfl tyAll fldAll (of_decide_eq_true (by kernel_rfl)) eqAll fun f F vs v hF hv ι w cargs hr => ?_
  have hF : ext0 f = some F := hF
  unfold ext0 at hF
  rw [natBeq, sel_eq] at hF
  split at hF
  · rename_i hf
    have hf : f = 381 := by simpa using hf
    subst hf
    cases hF
    exact ib_ext Tryz.func381 (by kernel_rfl) (by kernel_rfl) (by kernel_rfl) (by kernel_rfl) hv ι w cargs hr
  · cases hF

theorem O_ok {l : List (Nat × Ov)} (h : ∀ p ∈ l, OvOk Tryz.prog p.1 p.2) : FOk (cx l) Tryz.prog := fok rfl rfl fnAll (by kernel_rfl) h

theorem ov0_ok : ∀ p ∈ ov0, OvOk Tryz.prog p.1 p.2 := by
  intro p hp
  simp only [ov0, List.mem_cons, List.not_mem_nil, or_false] at hp
  rcases hp with rfl | rfl | rfl | rfl | rfl
  · exact small_ov
  · exact letter_ov
  · exact capital_ov
  · exact digit_ov
  · exact join_ov'

/-! ### register.usual, whose answer is known -/

def usualS : List Nat := [495, 331, 351, 362, 382, 397, 430, 445, 491, 347, 378, 413, 426, 457, 474, 487]
def usualV : AVal := .slc (some (0, 0)) 4 4
def usualF : List FO := [
  ⟨[.str [116, 97, 107, 101, 115], .slc (some (1, 0)) 2 2, .slc (some (2, 0)) 1 1, .str [104, 101, 108, 100], .slc (some (3, 0)) 1 1, .slc (some (4, 0)) 1 1, .str [116, 97, 107, 101, 115], .slc (some (5, 0)) 2 2, .slc (some (6, 0)) 2 2, .str [116, 97, 107, 101, 115], .slc (some (7, 0)) 2 2, .slc (some (8, 0)) 3 3], 3, true⟩,
  ⟨[.int .i64 (3), .int .i64 (0), .str [70], .int .i64 (3), .int .i64 (0), .str [86]], 3, true⟩,
  ⟨[.int .i64 (1), .str [104, 111, 108, 100, 101, 114], .slc (some (9, 0)) 2 2, .int .i64 (0), .int .i64 (0), .str [], .int .i64 (0), .int .i64 (0), .str []], 9, true⟩,
  ⟨[.int .i64 (3), .int .i64 (0), .str [70]], 3, true⟩,
  ⟨[.int .i64 (1), .str [104, 111, 108, 100, 101, 114], .slc (some (10, 0)) 2 2, .int .i64 (0), .int .i64 (0), .str [], .int .i64 (0), .int .i64 (0), .str []], 9, true⟩,
  ⟨[.int .i64 (3), .int .i64 (0), .str [70], .int .i64 (3), .int .i64 (0), .str [86]], 3, true⟩,
  ⟨[.int .i64 (1), .str [115, 105, 100, 101], .slc (some (11, 0)) 2 2, .int .i64 (0), .int .i64 (0), .str [], .int .i64 (0), .int .i64 (0), .str [], .int .i64 (2), .str [104, 101, 108, 100], .slc (some (12, 0)) 1 1, .int .i64 (0), .int .i64 (0), .str [], .int .i64 (0), .int .i64 (0), .str []], 9, true⟩,
  ⟨[.int .i64 (3), .int .i64 (0), .str [70], .int .i64 (3), .int .i64 (0), .str [86]], 3, true⟩,
  ⟨[.int .i64 (1), .str [111, 112, 101, 110], .slc (some (13, 0)) 1 1, .int .i64 (0), .int .i64 (0), .str [], .int .i64 (0), .int .i64 (0), .str [], .int .i64 (1), .str [104, 97, 100], .slc (some (14, 0)) 2 2, .int .i64 (0), .int .i64 (0), .str [], .int .i64 (0), .int .i64 (0), .str [], .int .i64 (2), .str [104, 101, 108, 100], .slc (some (15, 0)) 1 1, .int .i64 (0), .int .i64 (0), .str [], .int .i64 (0), .int .i64 (0), .str []], 9, true⟩,
  ⟨[.int .i64 (3), .int .i64 (0), .str [70], .int .i64 (3), .int .i64 (0), .str [86]], 3, true⟩,
  ⟨[.int .i64 (3), .int .i64 (0), .str [70], .int .i64 (3), .int .i64 (0), .str [86]], 3, true⟩,
  ⟨[.int .i64 (3), .int .i64 (0), .str [70], .int .i64 (3), .int .i64 (0), .str [86]], 3, true⟩,
  ⟨[.int .i64 (3), .int .i64 (0), .str [70]], 3, true⟩,
  ⟨[.int .i64 (3), .int .i64 (0), .str [70]], 3, true⟩,
  ⟨[.int .i64 (3), .int .i64 (0), .str [70], .int .i64 (3), .int .i64 (0), .str [86]], 3, true⟩,
  ⟨[.int .i64 (3), .int .i64 (0), .str [70]], 3, true⟩]

noncomputable def ov1 : List (Nat × Ov) := (214, memoF usualF usualV) :: ov0

end Go.Proofs
end
