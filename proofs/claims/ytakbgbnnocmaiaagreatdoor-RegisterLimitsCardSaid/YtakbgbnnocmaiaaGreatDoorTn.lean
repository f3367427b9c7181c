/- The specification's CheckEntry. -/
import Derived.Test.YtakbgbnnocmaiaaGreatDoorTm
set_option linter.all false
section
namespace Go.Proofs
open Go.Sim Go.SortL
variable {D : Nat}

structure OkS (D : ED) : Prop where
  written : (leI 0 D.e.written && leI D.e.written 4000) = true
  kind : (leI 1 D.e.kind && leI D.e.kind 16) = true
  same : EqD D (pureD D)

/-- an entry that the specification's CheckEntry takes -/
structure OkQ (D : ED) : Prop where
  s : OkS D
  legs : ∀ l ∈ D.legs, l.year = D.e.waYear
  line : tgtB D.e.kind = true → (leI 1 D.e.taLine && leI D.e.taLine 400) = true

set_option maxRecDepth 1000000 in
set_option maxHeartbeats 2000000 in
theorem rcheck_x (A : ED) (h : H) (hn : h.next + 40 ≤ 1048576) (ha : EAt h A) (hs : EShort A) (hD : 5 ≤ D) :
    ∃ r h', (GX D).call 49 [.agg A.e.cells] h = .ok (.int .i64 r) h' ∧ Kept 40 h h' ∧ ((r = 0 ∧ OkQ A) ∨ (r = 1 ∧ ¬ OkQ A)) := by
  obtain ⟨d, rfl, hd⟩ := dsucc hD
  have : ∃ v h', (GX (d + 1)).call 49 [.agg A.e.cells] h = .ok v h' ∧ ∃ r, v = .int .i64 r ∧ Kept 40 h h' ∧ ((r = 0 ∧ OkQ A) ∨ (r = 1 ∧ ¬ OkQ A)) := by
    refine call_run Tryz.func49 rfl rfl (Nat.le_of_ble_eq_true rfl) (by decide) ?_
    refine wRun_seq svx (by decide) ?_
    refine ⟨(room_iff h).2 (by omega), ?_⟩
    intro p h1 hp hh
    obtain ⟨G, K1⟩ := At.new (by omega) hp hh
    clear hh
    have E1 := ha.kept K1
    have n1 := K1.few
    refine wRun_mid (σ := Unit) (fun _ => [(1, .ptr (some (p, 0)))]) (fun _ h2 => Kept 30 h1 h2 ∧ OkS A) ?_ ?_
    · refine wRun_mid (σ := Bool) (fun b => [(1, .ptr (some (p, 0))), (21, .bool b)]) (fun b h2 => Kept 30 h1 h2 ∧ (b = true ↔ ¬ OkS A)) ?_ ?_
      · refine wRun_of svx (by decide) ?_
        refine ⟨_, G.ld rfl, ?_⟩
        refine ⟨_, _, in_D (by omega) _ _ _ _, ?_⟩
        rintro (_ | _) c1
        · refine hv (k := 0) (by omega) (Kept.refl _) (fun h2 K2 _ => ?_)
          have n2 := K2.few
          refine hv (k := 0) (by omega) (Kept.refl _) (fun h3 K3 _ => ?_)
          have n3 := K3.few
          refine hv (k := 0) (by omega) (Kept.refl _) (fun h4 K4 _ => ?_)
          exact ⟨true, ⟨rfl, rfl, trivial⟩, ((K2.trans K3).trans K4).mono (by omega), by simp only [true_iff]; intro O; rw [O.written] at c1; cases c1⟩
        · refine hv (k := 0) (by omega) (Kept.refl _) (fun h2 K2 _ => ?_)
          have n2 := K2.few
          refine ⟨_, (G.kept K2).ld rfl, ?_⟩
          refine ⟨_, _, in_D (by omega) _ _ _ _, ?_⟩
          rintro (_ | _) c2
          · refine hv (k := 0) (by omega) (Kept.refl _) (fun h3 K3 _ => ?_)
            have n3 := K3.few
            refine hv (k := 0) (by omega) (Kept.refl _) (fun h4 K4 _ => ?_)
            exact ⟨true, ⟨rfl, rfl, trivial⟩, ((K2.trans K3).trans K4).mono (by omega), by simp only [true_iff]; intro O; rw [O.kind] at c2; cases c2⟩
          · refine hv (k := 0) (by omega) (Kept.refl _) (fun h3 K3 _ => ?_)
            have n3 := K3.few
            have G3 := (G.kept K2).kept K3
            have E3 := (E1.kept K2).kept K3
            refine ⟨_, G3.ld rfl, _, G3.ld rfl, ?_⟩
            obtain ⟨h4', hb, Kb⟩ := pure_x (D := d) (by omega) A.e (h3.withLo Sim.big) (by rw [withLo_next]; omega)
            refine ⟨_, _, hb, ?_⟩
            refine hv (by omega) Kb (fun h4 K4 _ => ?_)
            have n4 := K4.few
            have E4 := E3.kept K4
            obtain ⟨r, h5, hc, K5, ir⟩ := rsame_x (D := d) (by omega) A (pureD A) h4 (by omega) E4 (pureD_at E4) hs
            refine ⟨_, _, hc, ?_⟩
            rintro (_ | _) c3
            · exact ⟨true, ⟨rfl, rfl, trivial⟩, (((K2.trans K3).trans K4).trans K5).mono (by omega), by simp only [true_iff]; intro O; rw [ir.2 O.same] at c3; cases c3⟩
            · exact ⟨false, ⟨rfl, rfl, trivial⟩, (((K2.trans K3).trans K4).trans K5).mono (by omega), by simp only [Bool.false_eq_true, false_iff, Classical.not_not]; exact ⟨c1, c2, ir.1 c3⟩⟩
      rintro b h2 ⟨K2, ib⟩
      refine wRun_cond (t := b) rfl (fun hb => ?_) (fun hb => ?_)
      · refine wRun_of svx (by decide) ?_
        exact ⟨1, rfl, (K1.trans K2).mono (by omega), .inr ⟨rfl, fun O => ib.1 hb O.s⟩⟩
      · refine wRun_of svx (by decide) ?_
        exact ⟨(), ⟨rfl, trivial⟩, K2, Classical.byContradiction fun hne => by rw [ib.2 hne] at hb; cases hb⟩
    rintro _ h2 ⟨K2, OS⟩
    have n2 := K2.few
    have G2 := G.kept K2
    have E2 := E1.kept K2
    have K12 := K1.trans K2
    refine wRun_mid (σ := Unit) (fun _ => [(1, .ptr (some (p, 0)))]) (fun _ h3 => h3 = h2 ∧ ∀ l ∈ A.legs, l.year = A.e.waYear) ?_ ?_
    · refine wRun_seq svx (by decide) ?_
      refine wRun_block rfl ?_
      refine wLoopR (σ := Nat) (fun i => [(1, .ptr (some (p, 0))), (3, .int .i64 (Int.ofNat i))]) (fun i h3 => h3 = h2 ∧ i ≤ A.legs.length ∧ ∀ j l, j < i → A.legs[j]? = some l → l.year = A.e.waYear) (fun i => A.legs.length - i) 0
        (by rw [gN_fuel]; show A.legs.length - 0 < 1000000; have := hs.2.1; omega) ⟨rfl, rfl, trivial⟩ ⟨rfl, Nat.zero_le _, fun j l hj => absurd hj (Nat.not_lt_zero _)⟩ ?_
      rintro i h3 ⟨rfl, hi, hall⟩
      have hll := E2.legs.1
      refine wRun_mid (σ := Unit) (fun _ => [(1, .ptr (some (p, 0))), (3, .int .i64 (Int.ofNat i))]) (fun _ h4 => h4 = h3 ∧ i < A.legs.length) ?_ ?_
      · refine wRun_of svx (by decide) ?_
        refine ⟨_, G2.ld rfl, ?_⟩
        rintro (_ | _) c1
        · have hge := natGe c1
          refine ⟨(), ⟨rfl, trivial⟩, rfl, fun l hl => ?_⟩
          obtain ⟨j, hj, rfl⟩ := List.getElem_of_mem hl
          exact hall j _ (by omega) (List.getElem?_eq_getElem hj)
        · have hlt := natLt c1
          exact ⟨(), ⟨rfl, rfl, trivial⟩, rfl, by omega⟩
      rintro _ h4 ⟨rfl, hin⟩
      obtain ⟨b', o, ea, la⟩ := E2.legs.at hin
      refine wRun_mid (σ := Unit) (fun _ => [(1, .ptr (some (p, 0))), (3, .int .i64 (Int.ofNat i))]) (fun _ h5 => h5 = h4 ∧ A.legs[i].year = A.e.waYear) ?_ ?_
      · refine wRun_block rfl ?_
        refine wRun_of svx (by decide) ?_
        have hload : loadP h4 false 1 (.ptr (some (p, 42))) = some (.slc (some (b', o)) A.e.legsN A.e.legsC) := by rw [← ea]; exact G2.ld rfl
        refine ⟨_, hload, ?_⟩
        refine ⟨i, rfl, by omega, _, la.ld (f := 4) rfl (by decide) (by decide), _, G2.ld rfl, ?_⟩
        rintro (_ | _) c2
        · exact ⟨(), ⟨rfl, rfl, trivial⟩, rfl, neF c2⟩
        · exact ⟨1, rfl, K12.mono (by omega), .inr ⟨rfl, fun O => neT c2 (O.legs _ (List.getElem_mem hin))⟩⟩
      rintro _ h5 ⟨rfl, hyr⟩
      refine wRun_of svx (by decide) ?_
      refine ⟨i + 1, by omega, ⟨rfl, slot (add64 (a := i) (b := 1) (by have := hs.2.1; omega)), trivial⟩, rfl, hin, fun j l hj hl => ?_⟩
      by_cases hji : j = i
      · subst hji; rw [List.getElem?_eq_getElem hin] at hl; cases hl; exact hyr
      · exact hall j l (by omega) hl
    rintro _ h3 ⟨rfl, OL⟩
    refine wRun_mid (σ := Bool) (fun b => [(1, .ptr (some (p, 0))), (4, .bool b)]) (fun b h4 => h4 = h3 ∧ b = tgtB A.e.kind) ?_ ?_
    · refine wRun_of svx (by decide) ?_
      refine ⟨_, G2.ld rfl, ?_⟩
      rintro (_ | _) k1
      · refine ⟨_, G2.ld rfl, ?_⟩
        rintro (_ | _) k2
        · refine ⟨_, G2.ld rfl, ?_⟩
          rintro (_ | _) k3
          · exact ⟨false, ⟨rfl, rfl, trivial⟩, rfl, by simp only [tgtB, k1, k2, k3]; rfl⟩
          · exact ⟨true, ⟨rfl, rfl, trivial⟩, rfl, by simp only [tgtB, k1, k2, k3]; rfl⟩
        · exact ⟨true, ⟨rfl, rfl, trivial⟩, rfl, by simp only [tgtB, k1, k2]; rfl⟩
      · exact ⟨true, ⟨rfl, rfl, trivial⟩, rfl, by simp only [tgtB, k1]; rfl⟩
    rintro tg h4 ⟨rfl, htg⟩
    refine wRun_of svx (by decide) ?_
    cases tg with
    | false => exact ⟨0, rfl, K12.mono (by omega), .inl ⟨rfl, OS, OL, fun ht => by rw [← htg] at ht; cases ht⟩⟩
    | true =>
      refine ⟨_, G2.ld rfl, ?_⟩
      refine ⟨_, _, in_D (by omega) _ _ _ _, ?_⟩
      rintro (_ | _) c5
      · exact ⟨1, rfl, K12.mono (by omega), .inr ⟨rfl, fun O => by rw [O.line htg.symm] at c5; cases c5⟩⟩
      · exact ⟨0, rfl, K12.mono (by omega), .inl ⟨rfl, OS, OL, fun _ => c5⟩⟩
  obtain ⟨v, h', h1, r, rfl, h2, h3⟩ := this
  exact ⟨r, h', h1, h2, h3⟩
end Go.Proofs
end
section
/- The two ways of checking an entry agree. -/
namespace Go.Proofs
open Go.Sim Go.SortL
variable {D : Nat}

theorem pure_ids (e : EV) : (pureE e).prID = 0 ∧ (pureE e).reID = 0 ∧ (pureE e).siID = 0 ∧ (pureE e).noID = 0 ∧ (pureE e).waID = 0 ∧ (e.kind = 16 → (pureE e).taVestry = 0) := by
  have P := pureE_of e
  rcases kinds e.kind with k | k | k | k | k | k | k | k | k | k | k | k | k | k | k | k | k
  · rw [(P.1 k).1]; exact ⟨rfl, rfl, rfl, rfl, rfl, fun h => by omega⟩
  · rw [(P.2.1 k).1]; exact ⟨rfl, rfl, rfl, rfl, rfl, fun h => by omega⟩
  · rw [(P.2.2.1 k).1]; exact ⟨rfl, rfl, rfl, rfl, rfl, fun h => by omega⟩
  · rw [(P.2.2.2.1 k).1]; exact ⟨rfl, rfl, rfl, rfl, rfl, fun h => by omega⟩
  · rw [(P.2.2.2.2.1 k).1]; exact ⟨rfl, rfl, rfl, rfl, rfl, fun h => by omega⟩
  · rw [(P.2.2.2.2.2.1 k).1]; exact ⟨rfl, rfl, rfl, rfl, rfl, fun h => by omega⟩
  · rw [(P.2.2.2.2.2.2.1 k).1]; exact ⟨rfl, rfl, rfl, rfl, rfl, fun h => by omega⟩
  · rw [(P.2.2.2.2.2.2.2.1 k).1]; exact ⟨rfl, rfl, rfl, rfl, rfl, fun h => by omega⟩
  · rw [(P.2.2.2.2.2.2.2.2.1 k).1]; exact ⟨rfl, rfl, rfl, rfl, rfl, fun h => by omega⟩
  · rw [(P.2.2.2.2.2.2.2.2.2.1 k).1]; exact ⟨rfl, rfl, rfl, rfl, rfl, fun h => by omega⟩
  · rw [(P.2.2.2.2.2.2.2.2.2.2.1 k).1]; exact ⟨rfl, rfl, rfl, rfl, rfl, fun h => by omega⟩
  · rw [(P.2.2.2.2.2.2.2.2.2.2.2.1 k).1]; exact ⟨rfl, rfl, rfl, rfl, rfl, fun h => by omega⟩
  · rw [(P.2.2.2.2.2.2.2.2.2.2.2.2.1 k).1]; exact ⟨rfl, rfl, rfl, rfl, rfl, fun h => by omega⟩
  · rw [(P.2.2.2.2.2.2.2.2.2.2.2.2.2.1 k).1]; exact ⟨rfl, rfl, rfl, rfl, rfl, fun h => by omega⟩
  · rw [(P.2.2.2.2.2.2.2.2.2.2.2.2.2.2.1 k).1]; exact ⟨rfl, rfl, rfl, rfl, rfl, fun h => by omega⟩
  · rw [(P.2.2.2.2.2.2.2.2.2.2.2.2.2.2.2 k).1]; exact ⟨rfl, rfl, rfl, rfl, rfl, fun _ => rfl⟩
  · rw [pureE_else e k]; exact ⟨rfl, rfl, rfl, rfl, rfl, fun _ => rfl⟩

theorem pure_bare (e : EV) (h1 : 1 ≤ e.kind) (h2 : e.kind ≤ 16) (pr : e.prID = 0) (re : e.reID = 0) (si : e.siID = 0) (no : e.noID = 0) (wa : e.waID = 0) (ta : e.kind = 16 → e.taVestry = 0) : pureE e = bareE e := by
  have P := pureE_of e
  rcases kinds e.kind with k | k | k | k | k | k | k | k | k | k | k | k | k | k | k | k | k
  · rw [(P.1 k).1, (P.1 k).2]
  · rw [(P.2.1 k).1, (P.2.1 k).2, pr]; rfl
  · rw [(P.2.2.1 k).1, (P.2.2.1 k).2, re]; rfl
  · rw [(P.2.2.2.1 k).1, (P.2.2.2.1 k).2, si]; rfl
  · rw [(P.2.2.2.2.1 k).1, (P.2.2.2.2.1 k).2, si]; rfl
  · rw [(P.2.2.2.2.2.1 k).1, (P.2.2.2.2.2.1 k).2, no]; rfl
  · rw [(P.2.2.2.2.2.2.1 k).1, (P.2.2.2.2.2.2.1 k).2]
  · rw [(P.2.2.2.2.2.2.2.1 k).1, (P.2.2.2.2.2.2.2.1 k).2]
  · rw [(P.2.2.2.2.2.2.2.2.1 k).1, (P.2.2.2.2.2.2.2.2.1 k).2, wa]; rfl
  · rw [(P.2.2.2.2.2.2.2.2.2.1 k).1, (P.2.2.2.2.2.2.2.2.2.1 k).2]
  · rw [(P.2.2.2.2.2.2.2.2.2.2.1 k).1, (P.2.2.2.2.2.2.2.2.2.2.1 k).2]
  · rw [(P.2.2.2.2.2.2.2.2.2.2.2.1 k).1, (P.2.2.2.2.2.2.2.2.2.2.2.1 k).2]
  · rw [(P.2.2.2.2.2.2.2.2.2.2.2.2.1 k).1, (P.2.2.2.2.2.2.2.2.2.2.2.2.1 k).2]
  · rw [(P.2.2.2.2.2.2.2.2.2.2.2.2.2.1 k).1, (P.2.2.2.2.2.2.2.2.2.2.2.2.2.1 k).2]
  · rw [(P.2.2.2.2.2.2.2.2.2.2.2.2.2.2.1 k).1, (P.2.2.2.2.2.2.2.2.2.2.2.2.2.2.1 k).2]
  · rw [(P.2.2.2.2.2.2.2.2.2.2.2.2.2.2.2 k).1, (P.2.2.2.2.2.2.2.2.2.2.2.2.2.2.2 k).2, ta k]; rfl
  · omega

theorem lists_same (A : ED) (h1 : 1 ≤ A.e.kind) (h2 : A.e.kind ≤ 16) : (pureD A).ring = (bareD A).ring ∧ (pureD A).legs = (bareD A).legs ∧ (pureD A).offs = (bareD A).offs := by
  rcases kinds A.e.kind with k | k | k | k | k | k | k | k | k | k | k | k | k | k | k | k | k
  · refine ⟨?_, ?_, ?_⟩ <;> (unfold pureD bareD; simp only; rw [k]; rfl)
  · refine ⟨?_, ?_, ?_⟩ <;> (unfold pureD bareD; simp only; rw [k]; rfl)
  · refine ⟨?_, ?_, ?_⟩ <;> (unfold pureD bareD; simp only; rw [k]; rfl)
  · refine ⟨?_, ?_, ?_⟩ <;> (unfold pureD bareD; simp only; rw [k]; rfl)
  · refine ⟨?_, ?_, ?_⟩ <;> (unfold pureD bareD; simp only; rw [k]; rfl)
  · refine ⟨?_, ?_, ?_⟩ <;> (unfold pureD bareD; simp only; rw [k]; rfl)
  · refine ⟨?_, ?_, ?_⟩ <;> (unfold pureD bareD; simp only; rw [k]; rfl)
  · refine ⟨?_, ?_, ?_⟩ <;> (unfold pureD bareD; simp only; rw [k]; rfl)
  · refine ⟨?_, ?_, ?_⟩ <;> (unfold pureD bareD; simp only; rw [k]; rfl)
  · refine ⟨?_, ?_, ?_⟩ <;> (unfold pureD bareD; simp only; rw [k]; rfl)
  · refine ⟨?_, ?_, ?_⟩ <;> (unfold pureD bareD; simp only; rw [k]; rfl)
  · refine ⟨?_, ?_, ?_⟩ <;> (unfold pureD bareD; simp only; rw [k]; rfl)
  · refine ⟨?_, ?_, ?_⟩ <;> (unfold pureD bareD; simp only; rw [k]; rfl)
  · refine ⟨?_, ?_, ?_⟩ <;> (unfold pureD bareD; simp only; rw [k]; rfl)
  · refine ⟨?_, ?_, ?_⟩ <;> (unfold pureD bareD; simp only; rw [k]; rfl)
  · refine ⟨?_, ?_, ?_⟩ <;> (unfold pureD bareD; simp only; rw [k]; rfl)
  · omega

theorem okq_iff (A : ED) : OkQ A ↔ OkP A := by
  constructor
  · intro Q
    have hk := Q.s.kind
    have hk1 : 1 ≤ A.e.kind := by
      simp only [Bool.and_eq_true] at hk; exact leI_iff.1 hk.1
    have hk2 : A.e.kind ≤ 16 := by
      simp only [Bool.and_eq_true] at hk; exact leI_iff.1 hk.2
    have hs : A.e.scal = (pureE A.e).scal := Q.s.same.1
    have comp : ∀ i : Nat, (A.e.scal[i]? : Option AVal) = (pureE A.e).scal[i]? := fun i => by rw [hs]
    have inj : ∀ {a b : Int}, (some (AVal.int .i64 a) : Option AVal) = some (AVal.int .i64 b) → a = b := fun h => by cases h; rfl
    obtain ⟨i1, i2, i3, i4, i5, i6⟩ := pure_ids A.e
    have pr : A.e.prID = 0 := (inj (comp 7)).trans i1
    have re : A.e.reID = 0 := (inj (comp 12)).trans i2
    have si : A.e.siID = 0 := (inj (comp 21)).trans i3
    have no : A.e.noID = 0 := (inj (comp 30)).trans i4
    have wa : A.e.waID = 0 := (inj (comp 39)).trans i5
    have ta : A.e.kind = 16 → A.e.taVestry = 0 := fun h => (inj (comp 55)).trans (i6 h)
    have pb := pure_bare A.e hk1 hk2 pr re si no wa ta
    obtain ⟨l1, l2, l3⟩ := lists_same A hk1 hk2
    exact ⟨⟨Q.s.written, Q.s.kind, by rw [hs, pb]; rfl, Q.s.same.2.1.trans l1, Q.s.same.2.2.1.trans l2, Q.s.same.2.2.2.trans l3⟩, ⟨pr, re, si, no, wa⟩, Q.legs, Q.line, ta⟩
  · intro P
    have hk := P.r.kind
    have hk1 : 1 ≤ A.e.kind := by
      simp only [Bool.and_eq_true] at hk; exact leI_iff.1 hk.1
    have hk2 : A.e.kind ≤ 16 := by
      simp only [Bool.and_eq_true] at hk; exact leI_iff.1 hk.2
    have pb := pure_bare A.e hk1 hk2 P.i.pr P.i.re P.i.si P.i.no P.i.wa P.back
    obtain ⟨l1, l2, l3⟩ := lists_same A hk1 hk2
    refine ⟨⟨P.r.written, P.r.kind, ?_, P.r.same.2.1.trans l1.symm, P.r.same.2.2.1.trans l2.symm, P.r.same.2.2.2.trans l3.symm⟩, P.legs, P.line⟩
    show A.e.scal = (pureE A.e).scal
    rw [pb]; exact P.r.same.1
end Go.Proofs
end
