/- register.same. -/
import Derived.Test.YtakbgbnnocmaiaaGreatDoorTe
import Derived.Test.YtakbgbnnocmaiaaGreatDoorTf
import Derived.Test.YtakbgbnnocmaiaaGreatDoorSp
set_option linter.all false
section
namespace Go.Proofs
open Go.Sim
variable {d : Nat}

theorem int_ne {x y : Int} (h : eqI x y = false) (e : [AVal.int .i64 x] = [AVal.int .i64 y]) : False := by
  simp at e
  rw [eqI_iff.2 e] at h; cases h
theorem app2 {x y u v : List AVal} (h : x = y) (k : u = v) : x ++ u = y ++ v := by rw [h, k]
theorem int_eq {x y : Int} (h : eqI x y = true) : AVal.int .i64 x = AVal.int .i64 y := by rw [eqI_iff.1 h]

set_option maxHeartbeats 8000000 in
set_option maxRecDepth 100000 in
theorem same_x (a b : ED) (h : H) (hn : h.next + 2 ≤ 1048576) (ha : EAt h a) (hb : EAt h b) (hF : a.ring.length < 1000000 ∧ a.legs.length < 1000000 ∧ a.offs.length < 1000000) :
    ∃ r h', (GX (d + 2)).call 42 [.agg a.e.cells, .agg b.e.cells] h = .ok (.bool r) h' ∧ Kept 2 h h' ∧ (r = true ↔ EqD a b) := by
  have : ∃ v h', (GX (d + 2)).call 42 [.agg a.e.cells, .agg b.e.cells] h = .ok v h' ∧ ∃ r, v = .bool r ∧ Kept 2 h h' ∧ (r = true ↔ EqD a b) := by
    refine call_w Tryz.func42 rfl ?_
    refine ⟨(room_iff h).2 (by omega), ?_⟩
    intro p1 h1 hp1 hh1
    refine ⟨(room_iff h1).2 (by rw [hh1, alloc_next]; omega), ?_⟩
    intro p2 h2 hp2 hh2
    have e1 : h1.next = h.next + 1 := by rw [hh1, alloc_next]
    have G1 : h2.get p1 = some (.cells a.e.cells 61 false false []) := by
      rw [hh2, H.alloc_get _ _ (by omega) (by omega), if_neg (by omega), hh1, hp1]; exact alloc_get_new (by omega) _
    have G2 : h2.get p2 = some (.cells b.e.cells 61 false false []) := by
      rw [hh2, hp2]; exact alloc_get_new (by omega) _
    have K : Kept 2 h h2 := by
      have a1 : Kept 1 h h1 := by rw [hh1]; exact Kept.alloc (by omega) _
      have a2 : Kept 1 h1 h2 := by rw [hh2]; exact Kept.alloc (by omega) _
      exact a1.trans a2
    clear hh1 hh2
    obtain ⟨r1, c1, i1⟩ := equalInts_x (d := d) h2 a.e.ringA b.e.ringA a.e.ringC b.e.ringC _ _ a.ring b.ring (ha.ring.kept K) (hb.ring.kept K) hF.1
    obtain ⟨r2, c2, i2⟩ := equalLegs_x (d := d) h2 a.e.legsA b.e.legsA a.e.legsC b.e.legsC _ _ a.legs b.legs (ha.legs.kept K) (hb.legs.kept K) hF.2.1
    obtain ⟨r3, c3, i3⟩ := equalOffs_x (d := d) h2 a.e.offsetsA b.e.offsetsA a.e.offsetsC b.e.offsetsC _ _ a.offs b.offs (ha.offs.kept K) (hb.offs.kept K) hF.2.2
    have no : ¬ EqD a b → ∃ r, packA [AVal.bool false] = .bool r ∧ Kept 2 h h2 ∧ (r = true ↔ EqD a b) := fun hne => ⟨false, rfl, K, by simp [hne]⟩
    refine ⟨_, ldg G1 rfl, _, ldg G2 rfl, ?_⟩
    rintro (_ | _) k0
    · exact cast (by kernel_rfl) (no fun E => int_ne k0 (congrArg (fun l => (l.drop 0).take 1) E.1))
    refine ⟨_, ldg G1 rfl, _, ldg G2 rfl, ?_⟩
    rintro (_ | _) k1
    · exact cast (by kernel_rfl) (no fun E => int_ne k1 (congrArg (fun l => (l.drop 1).take 1) E.1))
    refine ⟨_, ldg G1 rfl, _, ldg G2 rfl, ?_⟩
    refine eq_step rfl rfl rfl (fun k2 => ?_) (fun k2 => cast (by kernel_rfl) (no fun E => k2 (congrArg (fun l => (l.drop 2).take 5) E.1)))
    refine ⟨_, ldg G1 rfl, _, ldg G2 rfl, ?_⟩
    refine eq_step rfl rfl rfl (fun k3 => ?_) (fun k3 => cast (by kernel_rfl) (no fun E => k3 (congrArg (fun l => (l.drop 7).take 5) E.1)))
    refine ⟨_, ldg G1 rfl, _, ldg G2 rfl, ?_⟩
    refine eq_step rfl rfl rfl (fun k4 => ?_) (fun k4 => cast (by kernel_rfl) (no fun E => k4 (congrArg (fun l => (l.drop 12).take 5) E.1)))
    refine ⟨_, ldg G1 rfl, _, ldg G2 rfl, ?_⟩
    rintro (_ | _) k5
    · exact cast (by kernel_rfl) (no fun E => int_ne k5 (congrArg (fun l => (l.drop 17).take 1) E.1))
    refine ⟨_, ldg G1 rfl, _, ldg G2 rfl, ?_⟩
    refine eq_step rfl rfl rfl (fun k6 => ?_) (fun k6 => cast (by kernel_rfl) (no fun E => k6 (congrArg (fun l => (l.drop 18).take 3) E.1)))
    refine ⟨_, ldg G1 rfl, _, ldg G2 rfl, ?_⟩
    refine eq_step rfl rfl rfl (fun k7 => ?_) (fun k7 => cast (by kernel_rfl) (no fun E => k7 (congrArg (fun l => (l.drop 21).take 9) E.1)))
    refine ⟨_, ldg G1 rfl, _, ldg G2 rfl, ?_⟩
    refine eq_step rfl rfl rfl (fun k8 => ?_) (fun k8 => cast (by kernel_rfl) (no fun E => k8 (congrArg (fun l => (l.drop 30).take 4) E.1)))
    refine ⟨_, ldg G1 rfl, _, ldg G2 rfl, _, _, c1, ?_⟩
    rintro (_ | _) k9
    · exact cast (by kernel_rfl) (no fun E => by rw [i1.2 E.2.1] at k9; cases k9)
    refine ⟨_, ldg G1 rfl, _, ldg G2 rfl, ?_⟩
    rintro (_ | _) k10
    · exact cast (by kernel_rfl) (no fun E => int_ne k10 (congrArg (fun l => (l.drop 34).take 1) E.1))
    refine ⟨_, ldg G1 rfl, _, ldg G2 rfl, ?_⟩
    refine eq_step rfl rfl rfl (fun k11 => ?_) (fun k11 => cast (by kernel_rfl) (no fun E => k11 (congrArg (fun l => (l.drop 35).take 3) E.1)))
    refine ⟨_, ldg G1 rfl, _, ldg G2 rfl, ?_⟩
    rintro (_ | _) k12
    · exact cast (by kernel_rfl) (no fun E => int_ne k12 (congrArg (fun l => (l.drop 38).take 1) E.1))
    refine ⟨_, ldg G1 rfl, _, ldg G2 rfl, ?_⟩
    rintro (_ | _) k13
    · exact cast (by kernel_rfl) (no fun E => int_ne k13 (congrArg (fun l => (l.drop 39).take 1) E.1))
    refine ⟨_, ldg G1 rfl, _, ldg G2 rfl, ?_⟩
    rintro (_ | _) k14
    · exact cast (by kernel_rfl) (no fun E => int_ne k14 (congrArg (fun l => (l.drop 40).take 1) E.1))
    refine ⟨_, ldg G1 rfl, _, ldg G2 rfl, _, _, c2, ?_⟩
    rintro (_ | _) k15
    · exact cast (by kernel_rfl) (no fun E => by rw [i2.2 E.2.2.1] at k15; cases k15)
    refine ⟨_, ldg G1 rfl, _, ldg G2 rfl, _, _, c3, ?_⟩
    rintro (_ | _) k16
    · exact cast (by kernel_rfl) (no fun E => by rw [i3.2 E.2.2.2] at k16; cases k16)
    refine ⟨_, ldg G1 rfl, _, ldg G2 rfl, ?_⟩
    refine eq_step rfl rfl rfl (fun k17 => ?_) (fun k17 => cast (by kernel_rfl) (no fun E => k17 (congrArg (fun l => (l.drop 41).take 4) E.1)))
    refine ⟨_, ldg G1 rfl, _, ldg G2 rfl, ?_⟩
    refine eq_step rfl rfl rfl (fun k18 => ?_) (fun k18 => cast (by kernel_rfl) (no fun E => k18 (congrArg (fun l => (l.drop 45).take 4) E.1)))
    refine ⟨_, ldg G1 rfl, _, ldg G2 rfl, ?_⟩
    refine eq_step rfl rfl rfl (fun k19 => ?_) (fun k19 => cast (by kernel_rfl) (no fun E => k19 (congrArg (fun l => (l.drop 49).take 3) E.1)))
    refine ⟨_, ldg G1 rfl, _, ldg G2 rfl, ?_⟩
    refine eq_step rfl rfl rfl (fun k20 => ?_) (fun k20 => cast (by kernel_rfl) (no fun E => k20 (congrArg (fun l => (l.drop 52).take 3) E.1)))
    refine ⟨_, ldg G1 rfl, _, ldg G2 rfl, ?_⟩
    refine eq_step rfl rfl rfl (fun k21 => ?_) (fun k21 => cast (by kernel_rfl) (no fun E => k21 (congrArg (fun l => (l.drop 55).take 2) E.1)))
    refine ⟨_, ldg G1 rfl, _, ldg G2 rfl, ?_⟩
    rintro (_ | _) k22
    · exact cast (by kernel_rfl) (no fun E => int_ne k22 (congrArg (fun l => (l.drop 57).take 1) E.1))
    have hs : a.e.scal = b.e.scal := (app2 (congrArg (fun v => [v]) (int_eq k0)) (app2 (congrArg (fun v => [v]) (int_eq k1)) (app2 k2 (app2 k3 (app2 k4 (app2 (congrArg (fun v => [v]) (int_eq k5)) (app2 k6 (app2 k7 (app2 k8 (app2 (congrArg (fun v => [v]) (int_eq k10)) (app2 k11 (app2 (congrArg (fun v => [v]) (int_eq k12)) (app2 (congrArg (fun v => [v]) (int_eq k13)) (app2 (congrArg (fun v => [v]) (int_eq k14)) (app2 k17 (app2 k18 (app2 k19 (app2 k20 (app2 k21 (congrArg (fun v => [v]) (int_eq k22)))))))))))))))))))))
    exact ⟨true, rfl, K, by simp only [true_iff]; exact ⟨hs, i1.1 (by assumption), i2.1 (by assumption), i3.1 (by assumption)⟩⟩
  obtain ⟨v, h', h1, r, rfl, h2, h3⟩ := this
  exact ⟨r, h', h1, h2, h3⟩
end Go.Proofs
end
section
/- slices.ContainsFunc over the legs of an entry. -/
namespace Go.Proofs
open Go.Sim
variable {D : Nat}
theorem dsucc {D k : Nat} (h : k + 1 ≤ D) : ∃ d, D = d + 1 ∧ k ≤ d := ⟨D - 1, by omega, by omega⟩

set_option maxRecDepth 1000000 in
theorem closure_x (e : EV) (l : LegV) (h : H) (pe : Nat) (hp : pe < h.next) (G : h.get pe = some (.cells e.cells 61 false false [])) (hn : h.next < 1048576) (hD : 1 ≤ D) :
    ∃ r h', (GX D).call 56 [.agg l.cells, .ptr (some (pe, 0))] h = .ok (.bool r) h' ∧ Kept 1 h h' ∧ (r = true ↔ l.year ≠ e.waYear) := by
  obtain ⟨d, rfl, hd⟩ := dsucc hD
  have : ∃ v h', (GX (d + 1)).call 56 [.agg l.cells, .ptr (some (pe, 0))] h = .ok v h' ∧ ∃ r, v = .bool r ∧ Kept 1 h h' ∧ (r = true ↔ l.year ≠ e.waYear) := by
    refine call_w Tryz.func56 rfl ?_
    refine ⟨(room_iff h).2 hn, ?_⟩
    intro p h1 hp1 hh
    have K : Kept 1 h h1 := by rw [hh]; exact Kept.alloc hn _
    have G1 : h1.get p = some (.cells l.cells 8 false false []) := by rw [hh, hp1]; exact alloc_get_new hn _
    have G2 : h1.get pe = some (.cells e.cells 61 false false []) := (K.get pe hp).trans G
    clear hh
    refine ⟨_, ldg G1 rfl, _, ldg G2 rfl, ?_⟩
    rintro (_ | _) hb
    · exact ⟨false, rfl, K, by simp [eqI_iff.1 (by simpa using hb)]⟩
    · refine ⟨true, rfl, K, by simp only [true_iff]; intro he; rw [eqI_iff.2 he] at hb; cases hb⟩
  obtain ⟨v, h', h1, r, rfl, h2, h3⟩ := this
  exact ⟨r, h', h1, h2, h3⟩

set_option maxRecDepth 1000000 in
theorem indexFunc_x (e : EV) (h : H) (a : SL) (n c : Nat) (legs : List LegV) (ha : SlR h 8 LegV.cells a n legs) (pe : Nat) (hp : pe < h.next) (G : h.get pe = some (.cells e.cells 61 false false [])) (hn : h.next + legs.length ≤ 1048576) (hF : legs.length < 1000000) (hD : 2 ≤ D) :
    ∃ r h', (GX D).call 85 [.slc a n c, .func 56 [.ptr (some (pe, 0))]] h = .ok (.int .i64 r) h' ∧ Kept legs.length h h' ∧ (leI 0 r = true ↔ ∃ l ∈ legs, l.year ≠ e.waYear) := by
  obtain ⟨d, rfl, hd⟩ := dsucc hD
  have : ∃ v h', (GX (d + 1)).call 85 [.slc a n c, .func 56 [.ptr (some (pe, 0))]] h = .ok v h' ∧ ∃ r, v = .int .i64 r ∧ Kept legs.length h h' ∧ (leI 0 r = true ↔ ∃ l ∈ legs, l.year ≠ e.waYear) := by
    obtain ⟨rfl, -⟩ := id ha
    refine call_w Tryz.func85 rfl ?_
    refine wLoopS (σ := Nat) svx (fun i => [(0, .slc a legs.length c), (1, .func 56 [.ptr (some (pe, 0))]), (7, .int .i64 (Int.ofNat legs.length)), (8, .int .i64 (Int.ofNat i))])
      (fun i h' => Kept i h h' ∧ i ≤ legs.length ∧ (∀ j l, j < i → legs[j]? = some l → l.year = e.waYear)) (fun i => legs.length - i) (by decide) 0 hF ⟨rfl, rfl, rfl, rfl, trivial⟩ ⟨Kept.refl h, Nat.zero_le _, fun j _ hj => absurd hj (Nat.not_lt_zero _)⟩ ?_
    rintro i h' ⟨K, hi, hall⟩
    rintro (_ | _) h2
    · have hle : legs.length ≤ i := leI_len.1 (by simpa using h2)
      refine ⟨_, rfl, K.mono hi, ?_⟩
      constructor
      · intro hq; cases hq
      · rintro ⟨l, hl, hne⟩
        obtain ⟨j, hj, rfl⟩ := List.getElem_of_mem hl
        exact absurd (hall j _ (by omega) (by simp [hj])) hne
    · have hlt : i < legs.length := by
        have : ¬ leI (Int.ofNat legs.length) (Int.ofNat i) = true := by simpa using h2
        rw [leI_len] at this
        omega
      obtain ⟨ba, oa, rfl, la⟩ := (ha.kept K).at hlt
      have hfew := K.few
      obtain ⟨r, h3, hc, K3, hr⟩ := closure_x e legs[i] h' pe (Nat.lt_of_lt_of_le hp K.next) ((K.get pe hp).trans G) (by omega) hd
      refine ⟨i, rfl, hlt, _, la.ld0 rfl (by decide) (by decide), _, _, hc, ?_⟩
      rintro (_ | _) hb
      · refine ⟨i + 1, by omega, ⟨rfl, rfl, rfl, congrArg (fun z => some (AVal.int .i64 z)) (inc64 (by omega)), trivial⟩, K.trans K3, hlt, fun j l hj hl => ?_⟩
        by_cases hji : j = i
        · subst hji
          rw [List.getElem?_eq_getElem hlt] at hl
          cases hl
          apply Classical.byContradiction
          intro hne
          have := hr.2 hne
          rw [hb] at this; cases this
        · exact hall j l (by omega) hl
      · refine ⟨_, rfl, (K.trans K3).mono (by omega), ?_⟩
        constructor
        · intro _
          exact ⟨legs[i], List.getElem_mem hlt, hr.1 hb⟩
        · intro _; exact leI_iff.2 (Int.natCast_nonneg i)
  obtain ⟨v, h', h1, r, rfl, h2, h3⟩ := this
  exact ⟨r, h', h1, h2, h3⟩

set_option maxRecDepth 1000000 in
theorem containsFunc_x (e : EV) (h : H) (a : SL) (n c : Nat) (legs : List LegV) (ha : SlR h 8 LegV.cells a n legs) (pe : Nat) (hp : pe < h.next) (G : h.get pe = some (.cells e.cells 61 false false [])) (hn : h.next + legs.length ≤ 1048576) (hF : legs.length < 1000000) (hD : 3 ≤ D) :
    ∃ r h', (GX D).call 55 [.slc a n c, .func 56 [.ptr (some (pe, 0))]] h = .ok (.bool r) h' ∧ Kept legs.length h h' ∧ (r = true ↔ ∃ l ∈ legs, l.year ≠ e.waYear) := by
  obtain ⟨d, rfl, hd⟩ := dsucc hD
  have : ∃ v h', (GX (d + 1)).call 55 [.slc a n c, .func 56 [.ptr (some (pe, 0))]] h = .ok v h' ∧ ∃ r, v = .bool r ∧ Kept legs.length h h' ∧ (r = true ↔ ∃ l ∈ legs, l.year ≠ e.waYear) := by
    refine call_w Tryz.func55 rfl ?_
    obtain ⟨r, h1, hc, K, hr⟩ := indexFunc_x e h a n c legs ha pe hp G hn hF hd
    refine ⟨_, _, hc, ?_⟩
    rintro (_ | _) hb
    · exact ⟨false, rfl, K, by rw [← hr, hb]⟩
    · exact ⟨true, rfl, K, by rw [← hr, hb]⟩
  obtain ⟨v, h', h1, r, rfl, h2, h3⟩ := this
  exact ⟨r, h', h1, h2, h3⟩
end Go.Proofs
end
section
/- register.CheckEntry. -/
namespace Go.Proofs
open Go.Sim
variable {D : Nat}

theorem call_run {d f : Nat} {fn : Func} (hf : Tryz.prog.funcs[f]? = some fn) (hov : CX.ov f = none) {c : Code} (hc : fn.body = some c) {args : List AVal} (e1 : args.length ≤ fn.ntmps) (e2 : fn.ntmps ≤ 256) {h : H} {R : R2}
    (hw : wRun CX (GX d) fn.ntmps c (setP args 0) h (wEnd sv fn R)) : ∃ v h', (GX (d + 1)).call f args h = .ok v h' ∧ R v h' := by
  obtain ⟨v, h', h1, h2⟩ := wFn_run svx (ft_get hf) hc e1 e2 hw
  refine ⟨v, h', ?_, h2⟩
  have : (GX (d + 1)).call f args h = oe (CX.ov f) (callB CX (gN CX 1000000 d) f args h) (fun F' => F' (gN CX 1000000 d).call args h) := rfl
  rw [this, hov]; exact h1

/-- a block of one's own, closed -/
structure At (h : H) (p : Nat) (vs : List AVal) (n : Nat) : Prop where
  lt : p < h.next
  get : h.get p = some (.cells vs n false false [])
theorem At.kept {k : Nat} {h h' : H} (K : Kept k h h') {p n : Nat} {vs : List AVal} (A : At h p vs n) : At h' p vs n := ⟨Nat.lt_of_lt_of_le A.lt K.next, (K.get p A.lt).trans A.get⟩
theorem At.new {h h' : H} (hn : h.next < 1048576) {p n : Nat} {vs : List AVal} (hp : p = h.next) (hh : h' = h.alloc (.cells vs n false false [])) : At h' p vs n ∧ Kept 1 h h' := by
  subst hp hh
  exact ⟨⟨by rw [alloc_next]; omega, alloc_get_new hn _⟩, Kept.alloc hn _⟩

theorem big_next {h : H} (hn : h.next ≤ 1048576) : h.next ≤ big := Nat.le_trans hn (by decide)

/-- a call in a part that draws: what was there stays -/
theorem hv {k : Nat} {h h' : H} (hn : h.next ≤ 1048576) (K : Kept k (h.withLo big) h') {P : H → Prop} (hP : ∀ h2, Kept k h h2 → (∀ b, h2.get b = h'.get b) → P h2) {W : Prop} : (h.next ≤ h'.lo ∨ W) ∧ ∀ h2, h2 = h'.withLo (minN h.lo h'.lo) → P h2 :=
  ⟨.inl (heavy_lo (big_next hn) K), fun h2 hh => hP h2 (hh ▸ K.heavy (big_next hn)) fun b => by rw [hh, withLo_get]⟩

theorem Kept.big {k : Nat} {h h' : H} (hn : h.next ≤ 1048576) (K : Kept k h h') : Kept k (h.withLo big) (h'.withLo big) := by
  refine ⟨by rw [withLo_next, withLo_next]; exact K.next, by rw [withLo_next, withLo_next]; exact K.few, fun b hb => ?_, by rw [withLo_lo, withLo_lo]; exact Nat.min_le_left _ _⟩
  rw [withLo_next] at hb
  rw [withLo_get, withLo_get]; exact K.get b hb

theorem ARows.lo {h : H} {k : Nat} {a : Option (Nat × Nat)} {rows : List (List AVal)} (E : ARows h k a rows) (n : Nat) : ARows (h.withLo n) k a rows := by
  rcases E with E | ⟨b, off, vs, esz, opn, frz, pars, h1, h2, h3, h4⟩
  · exact .inl E
  · exact .inr ⟨b, off, vs, esz, opn, frz, pars, h1, by rw [withLo_next]; exact h2, by rw [withLo_get]; exact h3, h4⟩
theorem SlR.lo {α : Type} {h : H} {k : Nat} {enc : α → List AVal} {a : SL} {n : Nat} {xs : List α} (R : SlR h k enc a n xs) (m : Nat) : SlR (h.withLo m) k enc a n xs := ⟨R.1, ARows.lo R.2 m⟩
theorem EAt.lo {h : H} {D : ED} (E : EAt h D) (m : Nat) : EAt (h.withLo m) D := ⟨SlR.lo E.ring m, SlR.lo E.legs m, SlR.lo E.offs m⟩
theorem At.lo {h : H} {p n : Nat} {vs : List AVal} (A : At h p vs n) (m : Nat) : At (h.withLo m) p vs n := ⟨by rw [withLo_next]; exact A.lt, by rw [withLo_get]; exact A.get⟩
theorem At.ld {h : H} {p n : Nat} {vs : List AVal} (A : At h p vs n) {agg : Bool} {m off : Nat} {v : AVal} (hv : loadC (some vs) agg m off = some v) : loadP h agg m (.ptr (some (p, off))) = some v := ldg A.get hv

/-- what an entry's 'bare' is -/
noncomputable def bareD (D : ED) : ED := ⟨bareE D.e, sel (Nat.beq (ctk D.e.kind) 170) D.ring [], sel (Nat.beq (ctk D.e.kind) 173) D.legs [], sel (Nat.beq (ctk D.e.kind) 173) D.offs []⟩

theorem SlR.none {α : Type} {h : H} {k : Nat} {enc : α → List AVal} : SlR h k enc none 0 [] := ⟨rfl, .inl rfl⟩

theorem bareD_at {h : H} {D : ED} (E : EAt h D) : EAt h (bareD D) := by
  have hm := ctk_mem D.e.kind
  have hb : bareE D.e = bareT (ctk D.e.kind) D.e := rfl
  unfold bareD
  rw [hb]
  generalize ctk D.e.kind = t at hm ⊢
  rcases hm with rfl | rfl | rfl | rfl | rfl | rfl | rfl | rfl | rfl | rfl | rfl | rfl | rfl | rfl | rfl | rfl
  all_goals first
    | exact ⟨SlR.none, SlR.none, SlR.none⟩
    | exact ⟨E.ring, SlR.none, SlR.none⟩
    | exact ⟨SlR.none, E.legs, E.offs⟩

noncomputable def tgtB (k : Int) : Bool := eqI k 14 || eqI k 15 || eqI k 16
/-- no list is too long to be walked -/
def EShort (D : ED) : Prop := D.ring.length < 1000000 ∧ D.legs.length < 1000000 ∧ D.offs.length < 1000000

structure OkR (D : ED) : Prop where
  written : (leI 0 D.e.written && leI D.e.written 4000) = true
  kind : (leI 1 D.e.kind && leI D.e.kind 16) = true
  same : EqD D (bareD D)

structure OkI (D : ED) : Prop where
  pr : D.e.prID = 0
  re : D.e.reID = 0
  si : D.e.siID = 0
  no : D.e.noID = 0
  wa : D.e.waID = 0

/-- an entry that register.CheckEntry takes -/
structure OkP (D : ED) : Prop where
  r : OkR D
  i : OkI D
  legs : ∀ l ∈ D.legs, l.year = D.e.waYear
  line : tgtB D.e.kind = true → (leI 1 D.e.taLine && leI D.e.taLine 400) = true
  back : D.e.kind = 16 → D.e.taVestry = 0

theorem eqF {x y : Int} (h : eqI x y = false) : x ≠ y := fun he => by rw [eqI_iff.2 he] at h; cases h
theorem eqT {x y : Int} (h : eqI x y = true) : x = y := eqI_iff.1 h
theorem neT {x y : Int} (h : (!eqI x y) = true) : x ≠ y := eqF (by simpa using h)
theorem neF {x y : Int} (h : (!eqI x y) = false) : x = y := eqT (by simpa using h)

theorem bare_D (hD : 2 ≤ D) (e : EV) (h : H) (hn : h.next + 4 ≤ 1048576) : ∃ h', (GX D).call 54 [.agg e.cells] h = .ok (.agg (bareE e).cells) h' ∧ Kept 4 h h' := by
  obtain ⟨d, rfl⟩ : ∃ d, D = d + 2 := ⟨D - 2, by omega⟩
  exact bare_x e h hn
theorem same_D (hD : 2 ≤ D) (a b : ED) (h : H) (hn : h.next + 2 ≤ 1048576) (ha : EAt h a) (hb : EAt h b) (hF : EShort a) :
    ∃ r h', (GX D).call 42 [.agg a.e.cells, .agg b.e.cells] h = .ok (.bool r) h' ∧ Kept 2 h h' ∧ (r = true ↔ EqD a b) := by
  obtain ⟨d, rfl⟩ : ∃ d, D = d + 2 := ⟨D - 2, by omega⟩
  exact same_x a b h hn ha hb hF
theorem within_D (hD : 1 ≤ D) (n lo hi : Int) (h : H) : (GX D).call 37 [.int .i64 n, .int .i64 lo, .int .i64 hi] h = .ok (.bool (leI lo n && leI n hi)) h := by
  obtain ⟨d, rfl⟩ : ∃ d, D = d + 1 := ⟨D - 1, by omega⟩
  exact within_x n lo hi h

set_option maxRecDepth 1000000 in
set_option maxHeartbeats 1000000 in
theorem checkEntry_x (A : ED) (h : H) (hn : h.next + 40 + A.legs.length ≤ 1048576) (ha : EAt h A) (hs : EShort A) (hD : 5 ≤ D) :
    ∃ r h', (GX D).call 22 [.agg A.e.cells] h = .ok (.int .i64 r) h' ∧ Kept (40 + A.legs.length) h h' ∧ ((r = 0 ∧ OkP A) ∨ (r = 1 ∧ ¬ OkP A)) := by
  obtain ⟨d, rfl, hd⟩ := dsucc hD
  have : ∃ v h', (GX (d + 1)).call 22 [.agg A.e.cells] h = .ok v h' ∧ ∃ r, v = .int .i64 r ∧ Kept (40 + A.legs.length) h h' ∧ ((r = 0 ∧ OkP A) ∨ (r = 1 ∧ ¬ OkP A)) := by
    refine call_run Tryz.func22 rfl rfl (Nat.le_of_ble_eq_true rfl) (by decide) ?_
    refine wRun_seq svx (by decide) ?_
    refine ⟨(room_iff h).2 (by omega), ?_⟩
    intro p h1 hp hh
    obtain ⟨G, K1⟩ := At.new (by omega) hp hh
    clear hh
    have E1 := ha.kept K1
    have n1 := K1.few
    refine wRun_mid (σ := Bool) (fun b => [(1, .ptr (some (p, 0))), (3, .bool b)]) (fun b h' => h' = h1 ∧ b = tgtB A.e.kind) ?_ ?_
    · refine wRun_of svx (by decide) ?_
      refine ⟨_, G.ld rfl, ?_⟩
      rintro (_ | _) k1
      · refine ⟨_, G.ld rfl, ?_⟩
        rintro (_ | _) k2
        · refine ⟨_, G.ld rfl, ?_⟩
          rintro (_ | _) k3
          · exact ⟨false, ⟨rfl, rfl, trivial⟩, rfl, by simp only [tgtB, k1, k2, k3]; rfl⟩
          · exact ⟨true, ⟨rfl, rfl, trivial⟩, rfl, by simp only [tgtB, k1, k2, k3]; rfl⟩
        · exact ⟨true, ⟨rfl, rfl, trivial⟩, rfl, by simp only [tgtB, k1, k2]; rfl⟩
      · exact ⟨true, ⟨rfl, rfl, trivial⟩, rfl, by simp only [tgtB, k1]; rfl⟩
    rintro tg h' ⟨rfl, htg⟩
    refine wRun_mid (σ := Unit) (fun _ => []) (fun _ h' => Kept (40 + A.legs.length) h h' ∧ OkP A) ?_ ?_
    · refine wRun_block rfl ?_
      refine wRun_mid (σ := Bool) (fun b => [(17, .bool b)]) (fun b h' => Kept (40 + A.legs.length) h h' ∧ (b = true ↔ ¬ OkP A)) ?_ ?_
      · refine wRun_mid (σ := Bool) (fun b => [(1, .ptr (some (p, 0))), (3, .bool tg), (17, .bool b)]) (fun b h2 => Kept 30 h' h2 ∧ (b = true ↔ ¬ OkR A)) ?_ ?_
        · refine wRun_of svx (by decide) ?_
          refine ⟨_, G.ld rfl, ?_⟩
          refine ⟨_, _, within_D (by omega) _ _ _ _, ?_⟩
          rintro (_ | _) c1
          · refine hv (k := 0) (by omega) (Kept.refl _) (fun h2 K2 _ => ?_)
            have n2 := K2.few
            refine hv (k := 0) (by omega) (Kept.refl _) (fun h3 K3 _ => ?_)
            have n3 := K3.few
            refine hv (k := 0) (by omega) (Kept.refl _) (fun h4 K4 _ => ?_)
            exact ⟨true, ⟨rfl, rfl, rfl, trivial⟩, ((K2.trans K3).trans K4).mono (by omega), by simp only [true_iff]; intro O; rw [O.written] at c1; cases c1⟩
          · refine hv (k := 0) (by omega) (Kept.refl _) (fun h2 K2 _ => ?_)
            have n2 := K2.few
            refine ⟨_, (G.kept K2).ld rfl, ?_⟩
            refine ⟨_, _, within_D (by omega) _ _ _ _, ?_⟩
            rintro (_ | _) c2
            · refine hv (k := 0) (by omega) (Kept.refl _) (fun h3 K3 _ => ?_)
              have n3 := K3.few
              refine hv (k := 0) (by omega) (Kept.refl _) (fun h4 K4 _ => ?_)
              exact ⟨true, ⟨rfl, rfl, rfl, trivial⟩, ((K2.trans K3).trans K4).mono (by omega), by simp only [true_iff]; intro O; rw [O.kind] at c2; cases c2⟩
            · refine hv (k := 0) (by omega) (Kept.refl _) (fun h3 K3 _ => ?_)
              have n3 := K3.few
              have G3 := (G.kept K2).kept K3
              have E3 := (E1.kept K2).kept K3
              refine ⟨_, G3.ld rfl, _, G3.ld rfl, ?_⟩
              obtain ⟨h4', hb, Kb⟩ := bare_D (D := d) (by omega) A.e (h3.withLo Sim.big) (by rw [withLo_next]; omega)
              refine ⟨_, _, hb, ?_⟩
              refine hv (by omega) Kb (fun h4 K4 _ => ?_)
              have n4 := K4.few
              have E4 := E3.kept K4
              obtain ⟨r, h5, hc, K5, ir⟩ := same_D (D := d) (by omega) A (bareD A) h4 (by omega) E4 (bareD_at E4) hs
              refine ⟨_, _, hc, ?_⟩
              rintro (_ | _) c3
              · exact ⟨true, ⟨rfl, rfl, rfl, trivial⟩, (((K2.trans K3).trans K4).trans K5).mono (by omega), by simp only [true_iff]; intro O; rw [ir.2 O.same] at c3; cases c3⟩
              · exact ⟨false, ⟨rfl, rfl, rfl, trivial⟩, (((K2.trans K3).trans K4).trans K5).mono (by omega), by simp only [Bool.false_eq_true, false_iff, Classical.not_not]; exact ⟨c1, c2, ir.1 c3⟩⟩
        rintro b h2 ⟨K2, ib⟩
        have n2 := K2.few
        have G2 := G.kept K2
        have E2 := E1.kept K2
        refine wRun_cond (t := b) rfl (fun hb => ?_) (fun hb => ?_)
        · refine wRun_of svx (by decide) ?_
          exact ⟨b, ⟨rfl, trivial⟩, (K1.trans K2).mono (by omega), by simp only [hb, true_iff]; exact fun O => ib.1 hb O.r⟩
        have OR : OkR A := Classical.byContradiction fun hne => by rw [ib.2 hne] at hb; cases hb
        refine wRun_mid (σ := Bool) (fun b => [(1, .ptr (some (p, 0))), (3, .bool tg), (17, .bool b)]) (fun b h3 => h3 = h2 ∧ (b = true ↔ ¬ OkI A)) ?_ ?_
        · refine wRun_of svx (by decide) ?_
          refine ⟨_, G2.ld rfl, ?_⟩
          rintro (_ | _) i1
          · refine ⟨_, G2.ld rfl, ?_⟩
            rintro (_ | _) i2
            · refine ⟨_, G2.ld rfl, ?_⟩
              rintro (_ | _) i3
              · refine ⟨_, G2.ld rfl, ?_⟩
                rintro (_ | _) i4
                · refine ⟨_, G2.ld rfl, ?_⟩
                  rintro (_ | _) i5
                  · exact ⟨false, ⟨rfl, rfl, rfl, trivial⟩, rfl, by simp only [Bool.false_eq_true, false_iff, Classical.not_not]; exact ⟨neF i1, neF i2, neF i3, neF i4, neF i5⟩⟩
                  · exact ⟨true, ⟨rfl, rfl, rfl, trivial⟩, rfl, by simp only [true_iff]; intro O; exact neT i5 O.wa⟩
                · exact ⟨true, ⟨rfl, rfl, rfl, trivial⟩, rfl, by simp only [true_iff]; intro O; exact neT i4 O.no⟩
              · exact ⟨true, ⟨rfl, rfl, rfl, trivial⟩, rfl, by simp only [true_iff]; intro O; exact neT i3 O.si⟩
            · exact ⟨true, ⟨rfl, rfl, rfl, trivial⟩, rfl, by simp only [true_iff]; intro O; exact neT i2 O.re⟩
          · exact ⟨true, ⟨rfl, rfl, rfl, trivial⟩, rfl, by simp only [true_iff]; intro O; exact neT i1 O.pr⟩
        rintro b3 h3 ⟨rfl, ib3⟩
        refine wRun_cond (t := b3) rfl (fun hb3 => ?_) (fun hb3 => ?_)
        · refine wRun_of svx (by decide) ?_
          exact ⟨b3, ⟨rfl, trivial⟩, (K1.trans K2).mono (by omega), by simp only [hb3, true_iff]; exact fun O => ib3.1 hb3 O.i⟩
        have OI : OkI A := Classical.byContradiction fun hne => by rw [ib3.2 hne] at hb3; cases hb3
        refine wRun_mid (σ := Bool) (fun b => [(1, .ptr (some (p, 0))), (3, .bool tg), (17, .bool b)]) (fun b h4 => Kept A.legs.length h3 h4 ∧ (b = true ↔ ∃ l ∈ A.legs, l.year ≠ A.e.waYear)) ?_ ?_
        · refine wRun_of svx (by decide) ?_
          refine ⟨_, G2.ld rfl, ?_⟩
          obtain ⟨r, h4, hc, K4, ir⟩ := containsFunc_x (D := d) A.e h3 A.e.legsA A.e.legsN A.e.legsC A.legs E2.legs p G2.lt G2.get (by omega) hs.2.1 (by omega)
          refine ⟨_, _, hc, ?_⟩
          rintro (_ | _) c4
          · exact ⟨false, ⟨rfl, rfl, rfl, trivial⟩, K4, by rw [← ir, c4]⟩
          · exact ⟨true, ⟨rfl, rfl, rfl, trivial⟩, K4, by rw [← ir, c4]⟩
        rintro b4 h4 ⟨K4, ib4⟩
        have n4 := K4.few
        have G4 := G2.kept K4
        refine wRun_cond (t := b4) rfl (fun hb4 => ?_) (fun hb4 => ?_)
        · refine wRun_of svx (by decide) ?_
          refine ⟨b4, ⟨rfl, trivial⟩, ((K1.trans K2).trans K4).mono (by omega), ?_⟩
          simp only [hb4, true_iff]
          intro O
          obtain ⟨l, hl, hne⟩ := ib4.1 hb4
          exact hne (O.legs l hl)
        have OL : ∀ l ∈ A.legs, l.year = A.e.waYear := fun l hl => Classical.byContradiction fun hne => by rw [ib4.2 ⟨l, hl, hne⟩] at hb4; cases hb4
        refine wRun_mid (σ := Bool) (fun b => [(1, .ptr (some (p, 0))), (17, .bool b)]) (fun b h5 => h5 = h4 ∧ (b = true ↔ ¬ (tg = true → (leI 1 A.e.taLine && leI A.e.taLine 400) = true))) ?_ ?_
        · refine wRun_of svx (by decide) ?_
          cases tg with
          | false => exact ⟨false, ⟨rfl, rfl, trivial⟩, rfl, by simp⟩
          | true =>
            refine ⟨_, G4.ld rfl, ?_⟩
            refine ⟨_, _, within_D (by omega) _ _ _ _, ?_⟩
            rintro (_ | _) c5
            · exact ⟨true, ⟨rfl, rfl, trivial⟩, rfl, by simp only [true_iff]; intro O; rw [O trivial] at c5; cases c5⟩
            · exact ⟨false, ⟨rfl, rfl, trivial⟩, rfl, by simp only [Bool.false_eq_true, false_iff, Classical.not_not]; exact fun _ => c5⟩
        rintro b5 h5 ⟨rfl, ib5⟩
        refine wRun_cond (t := b5) rfl (fun hb5 => ?_) (fun hb5 => ?_)
        · refine wRun_of svx (by decide) ?_
          exact ⟨b5, ⟨rfl, trivial⟩, ((K1.trans K2).trans K4).mono (by omega), by simp only [hb5, true_iff]; exact fun O => ib5.1 hb5 (htg ▸ O.line)⟩
        have OT : tg = true → (leI 1 A.e.taLine && leI A.e.taLine 400) = true := Classical.byContradiction fun hne => by rw [ib5.2 hne] at hb5; cases hb5
        refine wRun_of svx (by decide) ?_
        refine ⟨_, G4.ld rfl, ?_⟩
        rintro (_ | _) k6
        · exact ⟨false, ⟨rfl, trivial⟩, ((K1.trans K2).trans K4).mono (by omega), by simp only [Bool.false_eq_true, false_iff, Classical.not_not]; exact ⟨OR, OI, OL, htg ▸ OT, fun he => absurd he (eqF k6)⟩⟩
        · refine ⟨_, G4.ld rfl, ?_⟩
          rintro (_ | _) k7
          · exact ⟨false, ⟨rfl, trivial⟩, ((K1.trans K2).trans K4).mono (by omega), by simp only [Bool.false_eq_true, false_iff, Classical.not_not]; exact ⟨OR, OI, OL, htg ▸ OT, fun _ => neF k7⟩⟩
          · exact ⟨true, ⟨rfl, trivial⟩, ((K1.trans K2).trans K4).mono (by omega), by simp only [true_iff]; intro O; exact neT k7 (O.back (eqT k6))⟩
      rintro b6 h6 ⟨K6, ib6⟩
      refine wRun_cond (t := b6) rfl (fun hb6 => ?_) (fun hb6 => ?_)
      · refine wRun_of svx (by decide) ?_
        exact ⟨1, rfl, K6, .inr ⟨rfl, ib6.1 hb6⟩⟩
      · refine wRun_of svx (by decide) ?_
        exact ⟨(), trivial, K6, Classical.byContradiction fun hne => by rw [ib6.2 hne] at hb6; cases hb6⟩
    rintro _ h7 ⟨K7, O⟩
    refine wRun_of svx (by decide) ?_
    exact ⟨0, rfl, K7, .inl ⟨rfl, O⟩⟩
  obtain ⟨v, h', h1, r, rfl, h2, h3⟩ := this
  exact ⟨r, h', h1, h2, h3⟩
end Go.Proofs
end
