/- RegisterLimits: the row. -/
import Derived.Test.YtakbgbnnocmaiaaGreatDoorUe
import Derived.Test.YtakbgbnnocmaiaaGreatDoorUd
import Derived.Test.YtakbgbnnocmaiaaGreatDoorUb
import Derived.OpenShut
import Derived.Lib.LaidTab
import Derived.Stop.Joined
set_option linter.all false
section
namespace Go.Proofs.YtakbgbnnocmaiaaGreatDoor
open Go Go.ChangeShapes Go.WideShapes Go.ChangeAt Go.RowKit

def powZ : List Int := [1, 10, 100, 1000, 10000, 100000, 1000000, 10000000, 100000000, 1000000000, 10000000000, 100000000000, 1000000000000, 10000000000000, 100000000000000, 1000000000000000, 10000000000000000, 100000000000000000, 1000000000000000000, 10000000000000000000]

theorem Tryz.laidOut : laidOutB Tryz.prog = true := jf1
theorem gPow : Tryz.prog.globalNamed "internal/strconv.uint64pow10" = some 0 := by kernel_rfl
theorem gSyn : Tryz.prog.globalNamed "strconv.ErrSyntax" = some 3 := by kernel_rfl
theorem tPow : (Tryz.prog.globals[0]?).map (·.type) = some 485 := by kernel_rfl
theorem leaves22 : leaves Tryz.prog 1 22 = some [.slc 62] := by kernel_rfl
theorem powZ_at : ∀ k, k < 20 → powZ.getD k 0 = ((10 ^ k : Nat) : Int) := by decide


theorem var_block {P : Program} {W : World} {n : String} {g : Nat} {cs : Array Value} (hg : P.globalNamed n = some g) (h : W.var? P n = some cs) : ∃ T fz, W.heap[g]? = some (.cells cs T fz) := by
  unfold World.var? at h
  rw [hg] at h
  simp only [Option.bind_some] at h
  split at h
  · rename_i c T fz hb
    cases h
    exact ⟨T, fz, hb⟩
  · cases h

theorem laid_pows {W : World} (h : laidMetH Tryz.prog laid5 W) : PowsLaid W := by
  rw [MakeChecks.laidMetH_plain _ _ _ wit_plain] at h
  have hT : Lib.TabIs Tryz.prog W "internal/strconv.uint64pow10" .u64 powZ :=
    Lib.tabIs_of_head gPow tPow Tryz.underlying485 (show Tryz.prog.underlying 357 = some (.int .u64) by kernel_rfl) (by kernel_rfl) (by kernel_rfl) h
  obtain ⟨ps, hl, _, _⟩ := h
  obtain ⟨g0, t0, cs0, f0, p0, q0, hg0, ht0, hv0, hd0, hl, _⟩ := hl
  obtain ⟨g1, t1, cs1, f1, p1, q1, _, _, _, _, hl, _⟩ := hl
  obtain ⟨g2, t2, cs2, f2, p2, q2, _, _, _, _, hl, _⟩ := hl
  obtain ⟨g3, t3, cs3, f3, p3, q3, hg3, _, hv3, _, _, _⟩ := hl
  obtain rfl := Option.some.inj (gPow.symm.trans hg0)
  obtain rfl := Option.some.inj (gSyn.symm.trans hg3)
  obtain ⟨T3, fz3, hb3⟩ := var_block hg3 hv3
  obtain ⟨T0, fz0, hb0⟩ := var_block hg0 hv0
  refine ⟨(Array.getElem?_eq_some_iff.1 hb3).1, cs0, T0, fz0, hb0, fun k hk => ?_⟩
  have hc := hT.cell gPow k hk
  obtain ⟨cs', T', fz', hb', h5⟩ := cell_heap hc
  rw [hb0] at hb'
  cases hb'
  rw [h5]
  exact congrArg (fun z => some (Value.int .u64 z)) (powZ_at k hk)

set_option maxRecDepth 100000 in
theorem lifted (os : Os) (started : os.Started) (H : Type) (enc : TypeId × Value → H) :
    ReturnsInHanded {} Tryz.checked os 3 .any (fun w args => (Rows.registerLimitsSpec.pre enc Tryz.prog Tryz.f3 [] false w args ∧ laidMetH Tryz.prog laid5 w) ∧ sizedMet enc Tryz.prog Tryz.f3 (OpenSpec.ofChange Rows.registerLimitsSpec) false w args)
      (Rows.registerLimitsSpec.post enc Tryz.prog Tryz.f3 false true false false) := by
  refine returnsInHanded_of_change_and (C := Tryz.checked) (X := fun w _ => laidMetH Tryz.prog laid5 w) (fun _ _ _ hh h => h.of_heap hh) wit_own started wit_init Tryz.func3
    (ChangeSpec.witness_shaped (enc := enc) (C := Tryz.checked) (os := os) (X := fun w _ => laidMetH Tryz.prog laid5 w) false (wit0 os) #[.slice none 0 0, .int .i64 0] 8 rfl
      (wit_shaped os) (wit_ok os) (wit_pre os H enc) (wit_size os H enc) (wit_laid os)) ?_
  intro W base args ds gs before hval0 hW _ _ hL _
  have hval : ∀ (j : Nat) t v, Tryz.f3.params[j]? = some t → args[j]? = some v → Value.okWide Tryz.prog W .any base t v := hval0
  have hW' := hW
  obtain ⟨p, q, hA0, hV, rfl, hfz, hnd⟩ := hW
  have hlt := hW'.lt
  have hA : DataW.TrodAll enc Tryz.prog W 0 (fun _ => true) true Tryz.f3.params.toList args.toList ds p := hA0
  rw [Tryz.params3] at hA hval
  obtain ⟨v0, v1, d0, d1, p0, p1, rfl, rfl, rfl, h0, h1⟩ := trodAll_two hA
  obtain ⟨rfl, rfl⟩ := trodVars_none hV
  obtain ⟨n, rfl, rfl, rfl, wn⟩ := open_int Tryz.underlying3 (hval 1 3 v1 rfl rfl) h1
  have hP := laid_pows hL
  have h22 : Tryz.prog.readableRec 22 = true := by kernel_rfl
  have hleaf : Leaf.ok enc Tryz.prog W (.slc 62) v0 := by
    obtain ⟨a, len, cap, rfl⟩ := okWide_slice Tryz.underlying22 (hval 0 22 v0 rfl rfl)
    obtain ⟨fuel, hf⟩ := h0
    have := leaves_ok 1 22 [.slc 62] [.slice a len cap] leaves22 ⟨fuel, _, hf⟩
    obtain ⟨b, bs, e1, e2, _⟩ := this.uncons
    cases e1
    exact e2
  refine (limits_c hP hleaf n).mono fun e W' ⟨he, hw⟩ => ?_
  subst he
  simp only [List.append_nil] at hW' hlt ⊢
  have hB : DataW.Trod enc Tryz.prog W' 0 (fun b => decide (b < W.heap.size)) true 22 v0 d0 p0 := Below.trod Tryz.laidOut h22 (of_decide_eq_true (by kernel_rfl)) h0 hw hlt
  refine ⟨_, rfl, [d0, .lit (.int .i64 n)], [], p0, [], p0 ++ [], [], hW', trodAll_mk1 (shut_bool Tryz.underlying4 _), ?_, rfl, hw.frame _, fun h => by cases h⟩
  have : DataW.TrodAll enc Tryz.prog W' 0 (fun b => decide (b < W.heap.size)) true #[22, 3].toList [v0, .int .i64 n] [d0, .lit (.int .i64 n)] (p0 ++ []) := trodAll_mk2 hB (shut_int Tryz.underlying3 wn)
  rw [← Tryz.params3] at this
  exact this
end Go.Proofs.YtakbgbnnocmaiaaGreatDoor
end
