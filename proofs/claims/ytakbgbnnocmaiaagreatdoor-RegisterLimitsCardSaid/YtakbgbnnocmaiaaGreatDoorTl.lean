/- The specification's equality of entries. -/
import Derived.Test.YtakbgbnnocmaiaaGreatDoorTk
import Derived.Test.YtakbgbnnocmaiaaGreatDoorTe
set_option linter.all false
section
namespace Go.Proofs
open Go.Sim Go.SortL
variable {D : Nat}

theorem ints_D (hD : 1 ≤ D) (h : H) (a b : SL) (ca cb n m : Nat) (xs ys : List Int) (ha : SlR h 1 intC a n xs) (hb : SlR h 1 intC b m ys) (hF : xs.length < 1000000) :
    ∃ r, (GX D).call 52 [.slc a n ca, .slc b m cb] h = .ok (.bool r) h ∧ (r = true ↔ xs = ys) := by
  obtain ⟨d, rfl⟩ : ∃ d, D = d + 1 := ⟨D - 1, by omega⟩
  exact ints_x h a b ca cb n m xs ys ha hb hF
theorem legs_D (hD : 1 ≤ D) (h : H) (a b : SL) (ca cb n m : Nat) (xs ys : List LegV) (ha : SlR h 8 LegV.cells a n xs) (hb : SlR h 8 LegV.cells b m ys) (hF : xs.length < 1000000) :
    ∃ r, (GX D).call 83 [.slc a n ca, .slc b m cb] h = .ok (.bool r) h ∧ (r = true ↔ xs = ys) := by
  obtain ⟨d, rfl⟩ : ∃ d, D = d + 1 := ⟨D - 1, by omega⟩
  exact legs_x h a b ca cb n m xs ys ha hb hF
theorem offsets_D (hD : 1 ≤ D) (h : H) (a b : SL) (ca cb n m : Nat) (xs ys : List OffV) (ha : SlR h 4 OffV.cells a n xs) (hb : SlR h 4 OffV.cells b m ys) (hF : xs.length < 1000000) :
    ∃ r, (GX D).call 84 [.slc a n ca, .slc b m cb] h = .ok (.bool r) h ∧ (r = true ↔ xs = ys) := by
  obtain ⟨d, rfl⟩ : ∃ d, D = d + 1 := ⟨D - 1, by omega⟩
  exact offsets_x h a b ca cb n m xs ys ha hb hF
theorem in_D (hD : 1 ≤ D) (n lo hi : Int) (h : H) : (GX D).call 48 [.int .i64 n, .int .i64 lo, .int .i64 hi] h = .ok (.bool (leI lo n && leI n hi)) h := by
  obtain ⟨d, rfl⟩ : ∃ d, D = d + 1 := ⟨D - 1, by omega⟩
  exact in_x n lo hi h

def wkC (e : EV) : List AVal := [.int .i64 e.waID, .int .i64 e.waYear, .slc e.legsA e.legsN e.legsC, .slc e.offsetsA e.offsetsN e.offsetsC]

set_option maxRecDepth 1000000 in
set_option maxHeartbeats 1000000 in
theorem sameWalk_x (hD : 2 ≤ D) (a b : ED) (h : H) (hn : h.next + 2 ≤ 1048576) (ha : EAt h a) (hb : EAt h b) (hs : EShort a) :
    ∃ r h', (GX D).call 53 [.agg (wkC a.e), .agg (wkC b.e)] h = .ok (.bool r) h' ∧ Kept 2 h h' ∧ (r = true ↔ a.e.waID = b.e.waID ∧ a.e.waYear = b.e.waYear ∧ a.legs = b.legs ∧ a.offs = b.offs) := by
  obtain ⟨d, rfl, hd⟩ := dsucc hD
  have : ∃ v h', (GX (d + 1)).call 53 [.agg (wkC a.e), .agg (wkC b.e)] h = .ok v h' ∧ ∃ r, v = .bool r ∧ Kept 2 h h' ∧ (r = true ↔ a.e.waID = b.e.waID ∧ a.e.waYear = b.e.waYear ∧ a.legs = b.legs ∧ a.offs = b.offs) := by
    refine call_w Tryz.func53 rfl ?_
    refine ⟨(room_iff h).2 (by omega), ?_⟩
    intro p1 h1 hp1 hh1
    obtain ⟨A1, K1⟩ := At.new (by omega) hp1 hh1
    have n1 := K1.few
    refine ⟨(room_iff h1).2 (by omega), ?_⟩
    intro p2 h2 hp2 hh2
    obtain ⟨A2, K2⟩ := At.new (by omega) hp2 hh2
    replace A1 := A1.kept K2
    have K := K1.trans K2
    clear hh1 hh2
    have no : ∀ {P : Prop}, ¬ P → ∃ r, packA [AVal.bool false] = .bool r ∧ Kept 2 h h2 ∧ (r = true ↔ P) := fun hne => ⟨false, rfl, K, by simp [hne]⟩
    refine ⟨_, A1.ld rfl, _, A2.ld rfl, ?_⟩
    rintro (_ | _) k1
    · exact no fun E => eqF k1 E.1
    refine ⟨_, A1.ld rfl, _, A2.ld rfl, ?_⟩
    rintro (_ | _) k2
    · exact no fun E => eqF k2 E.2.1
    refine ⟨_, A1.ld rfl, _, A2.ld rfl, ?_⟩
    obtain ⟨r3, c3, i3⟩ := legs_D (D := d) (by omega) h2 a.e.legsA b.e.legsA a.e.legsC b.e.legsC _ _ a.legs b.legs (ha.legs.kept K) (hb.legs.kept K) hs.2.1
    refine ⟨_, _, c3, ?_⟩
    rintro (_ | _) k3
    · exact no fun E => by rw [i3.2 E.2.2.1] at k3; cases k3
    refine ⟨_, A1.ld rfl, _, A2.ld rfl, ?_⟩
    obtain ⟨r4, c4, i4⟩ := offsets_D (D := d) (by omega) h2 a.e.offsetsA b.e.offsetsA a.e.offsetsC b.e.offsetsC _ _ a.offs b.offs (ha.offs.kept K) (hb.offs.kept K) hs.2.2
    refine ⟨_, _, c4, ?_⟩
    rintro (_ | _) k4
    · exact no fun E => by rw [i4.2 E.2.2.2] at k4; cases k4
    exact ⟨true, rfl, K, by simp only [true_iff]; exact ⟨eqT k1, eqT k2, i3.1 k3, i4.1 k4⟩⟩
  obtain ⟨v, h', h1, r, rfl, h2, h3⟩ := this
  exact ⟨r, h', h1, h2, h3⟩

def EHead (a b : ED) : Prop := a.e.scal.take 17 = b.e.scal.take 17
def EStone (a b : ED) : Prop := (a.e.scal.drop 17).take 18 = (b.e.scal.drop 17).take 18 ∧ a.ring = b.ring
def EWalk (a b : ED) : Prop := (a.e.scal.drop 35).take 6 = (b.e.scal.drop 35).take 6 ∧ a.legs = b.legs ∧ a.offs = b.offs
def ERest (a b : ED) : Prop := (a.e.scal.drop 41).take 17 = (b.e.scal.drop 41).take 17
theorem eqD_iff {a b : ED} : EqD a b ↔ EHead a b ∧ EStone a b ∧ EWalk a b ∧ ERest a b := by
  constructor
  · intro E
    exact ⟨congrArg (fun l : List AVal => l.take 17) E.1, ⟨congrArg (fun l : List AVal => (l.drop 17).take 18) E.1, E.2.1⟩, ⟨congrArg (fun l : List AVal => (l.drop 35).take 6) E.1, E.2.2.1, E.2.2.2⟩, congrArg (fun l : List AVal => (l.drop 41).take 17) E.1⟩
  · rintro ⟨h1, ⟨h2, h3⟩, ⟨h4, h5, h6⟩, h7⟩
    exact ⟨app2 h1 (app2 h2 (app2 h4 h7)), h3, h5, h6⟩

set_option maxRecDepth 1000000 in
set_option maxHeartbeats 8000000 in
theorem rsame_x (hD : 3 ≤ D) (a b : ED) (h : H) (hn : h.next + 4 ≤ 1048576) (ha : EAt h a) (hb : EAt h b) (hs : EShort a) :
    ∃ r h', (GX D).call 21 [.agg a.e.cells, .agg b.e.cells] h = .ok (.bool r) h' ∧ Kept 4 h h' ∧ (r = true ↔ EqD a b) := by
  obtain ⟨d, rfl, hd⟩ := dsucc hD
  have : ∃ v h', (GX (d + 1)).call 21 [.agg a.e.cells, .agg b.e.cells] h = .ok v h' ∧ ∃ r, v = .bool r ∧ Kept 4 h h' ∧ (r = true ↔ EqD a b) := by
    refine call_run Tryz.func21 rfl rfl (Nat.le_of_ble_eq_true rfl) (by decide) ?_
    refine wRun_seq svx (by decide) ?_
    refine ⟨(room_iff h).2 (by omega), ?_⟩
    intro p1 h1 hp1 hh1
    obtain ⟨A1, K1⟩ := At.new (by omega) hp1 hh1
    have n1 := K1.few
    refine ⟨(room_iff h1).2 (by omega), ?_⟩
    intro p2 h2 hp2 hh2
    obtain ⟨A2, K2⟩ := At.new (by omega) hp2 hh2
    replace A1 := A1.kept K2
    have K := K1.trans K2
    have n2 := K.few
    clear hh1 hh2
    refine wRun_mid (σ := Bool) (fun b1 => [(2, .ptr (some (p1, 0))), (3, .ptr (some (p2, 0))), (5, .bool b1)]) (fun b1 h3 => h3 = h2 ∧ (b1 = true ↔ EHead a b)) ?_ ?_
    · refine wRun_of svx (by decide) ?_
      have no : ∀ {l : Pv}, Sim.Sub l [(2, .ptr (some (p1, 0))), (3, .ptr (some (p2, 0))), (5, .bool false)] → ¬ EHead a b → ∃ b1, Sim.Sub l [(2, .ptr (some (p1, 0))), (3, .ptr (some (p2, 0))), (5, .bool b1)] ∧ h2 = h2 ∧ (b1 = true ↔ EHead a b) := fun hl hne => ⟨false, hl, rfl, by simp [hne]⟩
      refine ⟨_, A1.ld rfl, _, A2.ld rfl, ?_⟩
      rintro (_ | _) k0
      · exact no ⟨rfl, rfl, rfl, trivial⟩ fun E => int_ne k0 (congrArg (fun l => (l.drop 0).take 1) E)
      refine ⟨_, A1.ld rfl, _, A2.ld rfl, ?_⟩
      rintro (_ | _) k1
      · exact no ⟨rfl, rfl, rfl, trivial⟩ fun E => int_ne k1 (congrArg (fun l => (l.drop 1).take 1) E)
      refine ⟨_, A1.ld rfl, _, A2.ld rfl, ?_⟩
      refine eq_step rfl rfl rfl (fun k2 => ?_) (fun k2 => no ⟨rfl, rfl, rfl, trivial⟩ fun E => k2 (congrArg (fun l => (l.drop 2).take 5) E))
      refine ⟨_, A1.ld rfl, _, A2.ld rfl, ?_⟩
      refine eq_step rfl rfl rfl (fun k3 => ?_) (fun k3 => no ⟨rfl, rfl, rfl, trivial⟩ fun E => k3 (congrArg (fun l => (l.drop 7).take 5) E))
      refine ⟨_, A1.ld rfl, _, A2.ld rfl, ?_⟩
      refine eq_step rfl rfl rfl (fun k4 => ?_) (fun k4 => no ⟨rfl, rfl, rfl, trivial⟩ fun E => k4 (congrArg (fun l => (l.drop 12).take 5) E))
      exact ⟨true, ⟨rfl, rfl, rfl, trivial⟩, rfl, by simp only [true_iff]; exact (app2 (congrArg (fun v => [v]) (int_eq k0)) (app2 (congrArg (fun v => [v]) (int_eq k1)) (app2 k2 (app2 k3 k4))))⟩
    rintro b1 h3 ⟨rfl, i1⟩
    refine wRun_mid (σ := Bool) (fun b2 => [(2, .ptr (some (p1, 0))), (3, .ptr (some (p2, 0))), (5, .bool b1), (6, .bool b2)]) (fun b2 h4 => h4 = h3 ∧ (b2 = true ↔ EStone a b)) ?_ ?_
    · refine wRun_of svx (by decide) ?_
      have no : ∀ {l : Pv}, Sim.Sub l [(2, .ptr (some (p1, 0))), (3, .ptr (some (p2, 0))), (5, .bool b1), (6, .bool false)] → ¬ EStone a b → ∃ b2, Sim.Sub l [(2, .ptr (some (p1, 0))), (3, .ptr (some (p2, 0))), (5, .bool b1), (6, .bool b2)] ∧ h3 = h3 ∧ (b2 = true ↔ EStone a b) := fun hl hne => ⟨false, hl, rfl, by simp [hne]⟩
      refine ⟨_, A1.ld rfl, _, A2.ld rfl, ?_⟩
      rintro (_ | _) k0
      · exact no ⟨rfl, rfl, rfl, rfl, trivial⟩ fun E => int_ne k0 (congrArg (fun l => (l.drop 0).take 1) E.1)
      refine ⟨_, A1.ld rfl, _, A2.ld rfl, ?_⟩
      refine eq_step rfl rfl rfl (fun k1 => ?_) (fun k1 => no ⟨rfl, rfl, rfl, rfl, trivial⟩ fun E => k1 (congrArg (fun l => (l.drop 1).take 3) E.1))
      refine ⟨_, A1.ld rfl, _, A2.ld rfl, ?_⟩
      refine eq_step rfl rfl rfl (fun k2 => ?_) (fun k2 => no ⟨rfl, rfl, rfl, rfl, trivial⟩ fun E => k2 (congrArg (fun l => (l.drop 4).take 9) E.1))
      refine ⟨_, A1.ld rfl, _, A2.ld rfl, ?_⟩
      refine eq_step rfl rfl rfl (fun k3 => ?_) (fun k3 => no ⟨rfl, rfl, rfl, rfl, trivial⟩ fun E => k3 (congrArg (fun l => (l.drop 13).take 4) E.1))
      refine ⟨_, A1.ld rfl, _, A2.ld rfl, ?_⟩
      rintro (_ | _) k4
      · exact no ⟨rfl, rfl, rfl, rfl, trivial⟩ fun E => int_ne k4 (congrArg (fun l => (l.drop 17).take 1) E.1)
      refine ⟨_, A1.ld rfl, _, A2.ld rfl, ?_⟩
      obtain ⟨r1, c1, j1⟩ := ints_D (D := d) (by omega) h3 a.e.ringA b.e.ringA a.e.ringC b.e.ringC _ _ a.ring b.ring (ha.ring.kept K) (hb.ring.kept K) hs.1
      refine ⟨_, _, c1, ?_⟩
      rintro (_ | _) k5
      · exact no ⟨rfl, rfl, rfl, rfl, trivial⟩ fun E => by rw [j1.2 E.2] at k5; cases k5
      exact ⟨true, ⟨rfl, rfl, rfl, rfl, trivial⟩, rfl, by simp only [true_iff]; exact ⟨(app2 (congrArg (fun v => [v]) (int_eq k0)) (app2 k1 (app2 k2 (app2 k3 (congrArg (fun v => [v]) (int_eq k4)))))), j1.1 k5⟩⟩
    rintro b2 h4 ⟨rfl, i2⟩
    refine wRun_mid (σ := Bool) (fun b3 => [(2, .ptr (some (p1, 0))), (3, .ptr (some (p2, 0))), (5, .bool b1), (6, .bool b2), (7, .bool b3)]) (fun b3 h5 => Kept 2 h4 h5 ∧ (b3 = true ↔ EWalk a b)) ?_ ?_
    · refine wRun_of svx (by decide) ?_
      have no : ∀ {l : Pv} {h5 : H}, Sim.Sub l [(2, .ptr (some (p1, 0))), (3, .ptr (some (p2, 0))), (5, .bool b1), (6, .bool b2), (7, .bool false)] → Kept 2 h4 h5 → ¬ EWalk a b → ∃ b3, Sim.Sub l [(2, .ptr (some (p1, 0))), (3, .ptr (some (p2, 0))), (5, .bool b1), (6, .bool b2), (7, .bool b3)] ∧ Kept 2 h4 h5 ∧ (b3 = true ↔ EWalk a b) := fun hl hk hne => ⟨false, hl, hk, by simp [hne]⟩
      refine ⟨_, A1.ld rfl, _, A2.ld rfl, ?_⟩
      refine eq_step rfl rfl rfl (fun k0 => ?_) (fun k0 => no ⟨rfl, rfl, rfl, rfl, rfl, trivial⟩ (Kept.refl _) fun E => k0 (congrArg (fun l => (l.drop 0).take 3) E.1))
      refine ⟨_, A1.ld rfl, _, A2.ld rfl, ?_⟩
      rintro (_ | _) k1
      · exact no ⟨rfl, rfl, rfl, rfl, rfl, trivial⟩ (Kept.refl _) fun E => int_ne k1 (congrArg (fun l => (l.drop 3).take 1) E.1)
      refine ⟨_, A1.ld rfl, _, A2.ld rfl, ?_⟩
      obtain ⟨r2, h5, c2, K5, j2⟩ := sameWalk_x (D := d) (by omega) a b h4 (by omega) (ha.kept K) (hb.kept K) hs
      refine ⟨_, _, c2, ?_⟩
      rintro (_ | _) k2
      · exact no ⟨rfl, rfl, rfl, rfl, rfl, trivial⟩ K5 fun E => by rw [j2.2 ⟨by have := congrArg (fun l => (l.drop 4).take 1) E.1; simpa [EV.scal] using this, by have := congrArg (fun l => (l.drop 5).take 1) E.1; simpa [EV.scal] using this, E.2.1, E.2.2⟩] at k2; cases k2
      exact ⟨true, ⟨rfl, rfl, rfl, rfl, rfl, trivial⟩, K5, by simp only [true_iff]; exact ⟨app2 k0 (app2 (congrArg (fun v => [v]) (int_eq k1)) (app2 (congrArg (fun v => [AVal.int .i64 v]) (j2.1 k2).1) (congrArg (fun v => [AVal.int .i64 v]) (j2.1 k2).2.1))), (j2.1 k2).2.2.1, (j2.1 k2).2.2.2⟩⟩
    rintro b3 h5 ⟨K5, i3⟩
    replace A1 := A1.kept K5
    replace A2 := A2.kept K5
    refine wRun_of svx (by decide) ?_
    have no : ¬ EqD a b → ∃ r, packA [AVal.bool false] = .bool r ∧ Kept 4 h h5 ∧ (r = true ↔ EqD a b) := fun hne => ⟨false, rfl, (K.trans K5), by simp [hne]⟩
    cases b1 with
    | false => exact no fun E => by have := i1.2 (eqD_iff.1 E).1; cases this
    | true =>
    cases b2 with
    | false => exact no fun E => by have := i2.2 (eqD_iff.1 E).2.1; cases this
    | true =>
    cases b3 with
    | false => exact no fun E => by have := i3.2 (eqD_iff.1 E).2.2.1; cases this
    | true =>
    refine ⟨_, A1.ld rfl, _, A2.ld rfl, ?_⟩
    refine eq_step rfl rfl rfl (fun k0 => ?_) (fun k0 => no fun E => k0 (congrArg (fun l => (l.drop 0).take 4) (eqD_iff.1 E).2.2.2))
    refine ⟨_, A1.ld rfl, _, A2.ld rfl, ?_⟩
    refine eq_step rfl rfl rfl (fun k1 => ?_) (fun k1 => no fun E => k1 (congrArg (fun l => (l.drop 4).take 4) (eqD_iff.1 E).2.2.2))
    refine ⟨_, A1.ld rfl, _, A2.ld rfl, ?_⟩
    refine eq_step rfl rfl rfl (fun k2 => ?_) (fun k2 => no fun E => k2 (congrArg (fun l => (l.drop 8).take 3) (eqD_iff.1 E).2.2.2))
    refine ⟨_, A1.ld rfl, _, A2.ld rfl, ?_⟩
    refine eq_step rfl rfl rfl (fun k3 => ?_) (fun k3 => no fun E => k3 (congrArg (fun l => (l.drop 11).take 3) (eqD_iff.1 E).2.2.2))
    refine ⟨_, A1.ld rfl, _, A2.ld rfl, ?_⟩
    refine eq_step rfl rfl rfl (fun k4 => ?_) (fun k4 => no fun E => k4 (congrArg (fun l => (l.drop 14).take 2) (eqD_iff.1 E).2.2.2))
    refine ⟨_, A1.ld rfl, _, A2.ld rfl, ?_⟩
    rintro (_ | _) k5
    · exact no fun E => int_ne k5 (congrArg (fun l => (l.drop 16).take 1) (eqD_iff.1 E).2.2.2)
    exact ⟨true, rfl, K.trans K5, by simp only [true_iff]; exact eqD_iff.2 ⟨i1.1 rfl, i2.1 rfl, i3.1 rfl, (app2 k0 (app2 k1 (app2 k2 (app2 k3 (app2 k4 (congrArg (fun v => [v]) (int_eq k5)))))))⟩⟩
  obtain ⟨v, h', h1, r, rfl, h2, h3⟩ := this
  exact ⟨r, h', h1, h2, h3⟩
end Go.Proofs
end
