/- The specification's 'counting'. -/
import Derived.Test.YtakbgbnnocmaiaaGreatDoorTo
set_option linter.all false
section
namespace Go.Proofs
open Go.Sim Go.SortL
variable {D : Nat}

/-- is an entry out of count, as far as the first 'k' entries tell? -/
def GoneK (known : Int) (ys : List XD) (y : XD) (k : Nat) : Prop := known < y.d.e.written ∨ y.d.e.kind = 16 ∨ ∃ (j : Nat) (z : XD), j < k ∧ ys[j]? = some z ∧ IsBack known z ∧ z.v = y.v ∧ z.d.e.taLine = y.l

theorem goneK_counts {known : Int} {ys : List XD} {y : XD} {n : Nat} (hn : ys.length = n) : ¬ GoneK known ys y n ↔ Counts known ys y := by
  unfold GoneK Counts Gone
  constructor
  · intro h
    refine ⟨fun h1 => h (.inr (.inl h1)), by
      apply Classical.byContradiction
      intro hc; exact h (.inl (by omega)), fun ⟨z, hz, hb, e1, e2⟩ => ?_⟩
    obtain ⟨j, hj, rfl⟩ := List.getElem_of_mem hz
    exact h (.inr (.inr ⟨j, _, by omega, List.getElem?_eq_getElem hj, hb, e1, e2⟩))
  · rintro ⟨h1, h2, h3⟩ (h | h | ⟨j, z, _, hz, hb, e1, e2⟩)
    · omega
    · exact h1 h
    · exact h3 ⟨z, List.mem_of_getElem? hz, hb, e1, e2⟩

set_option maxRecDepth 1000000 in
set_option maxHeartbeats 2000000 in
theorem counting_x (hD : 2 ≤ D) (a : SL) (n c : Nat) (ys : List XD) (known : Int) (h : H) (hx : SlR h 63 XD.cells a n ys) (hn3 : n ≤ 120) (hn : h.next + 15000 ≤ 1048576) :
    ∃ h' a' , (GX D).call 20 [.slc a n c, .int .i64 known] h = .ok (.slc a' (cnt known ys n).length (cnt known ys n).length) h' ∧ Kept 15000 h h' ∧ Made h' a' (cnt known ys n).length (cnt known ys n) ∧ (∀ b, a' = some (b, 0) → h.next ≤ b) := by
  obtain ⟨d, rfl, hd⟩ := dsucc hD
  have : ∃ v h', (GX (d + 1)).call 20 [.slc a n c, .int .i64 known] h = .ok v h' ∧ ∃ a', v = .slc a' (cnt known ys n).length (cnt known ys n).length ∧ Kept 15000 h h' ∧ Made h' a' (cnt known ys n).length (cnt known ys n) ∧ (∀ b, a' = some (b, 0) → h.next ≤ b) := by
    have hxl := hx.1
    refine call_run Tryz.func20 rfl rfl (Nat.le_of_ble_eq_true rfl) (by decide) ?_
    refine wRun_seq svx (by decide) ?_
    refine wRun_seq svx (by decide) ?_
    refine wRun_mid (σ := SL) (fun s => [(5, .slc s (cnt known ys n).length (cnt known ys n).length)]) (fun s h1 => Kept (122 * n) h h1 ∧ Made h1 s (cnt known ys n).length (cnt known ys n) ∧ (∀ b, s = some (b, 0) → h.next ≤ b)) ?_ ?_
    · refine wRun_seq svx (by decide) ?_
      refine wRun_block rfl ?_
      refine wLoopR (σ := Nat × SL) (fun s => [(0, .slc a n c), (1, .int .i64 known), (5, .slc s.2 (cnt known ys s.1).length (cnt known ys s.1).length), (6, .int .i64 (Int.ofNat s.1))])
        (fun s h1 => s.1 ≤ n ∧ Kept (122 * s.1) h h1 ∧ Made h1 s.2 (cnt known ys s.1).length (cnt known ys s.1) ∧ (∀ b, s.2 = some (b, 0) → h.next ≤ b)) (fun s => n - s.1) (0, none)
        (by rw [gN_fuel]; show n - 0 < 1000000; omega) ⟨rfl, rfl, rfl, rfl, trivial⟩ ⟨Nat.zero_le _, Kept.refl h, ⟨⟨rfl, rfl, .inl ⟨rfl, rfl⟩, fun r hr => by cases hr⟩, fun h => absurd rfl h⟩, fun b hb => (by cases hb)⟩ ?_
      rintro ⟨i, s⟩ h1 ⟨hi, K1, M1, O1⟩
      simp only at hi K1 M1 O1
      have n1 := K1.few
      have hcl : (cnt known ys i).length ≤ i := by
        unfold cnt
        exact Nat.le_trans (List.length_filter_le _ _) (by rw [List.length_take]; omega)
      refine wRun_mid (σ := Unit) (fun _ => [(0, .slc a n c), (1, .int .i64 known), (5, .slc s (cnt known ys i).length (cnt known ys i).length), (6, .int .i64 (Int.ofNat i))]) (fun _ h2 => h2 = h1 ∧ i < n) ?_ ?_
      · refine wRun_of svx (by decide) ?_
        rintro (_ | _) c1
        · have hge : n ≤ i := natGe c1
          have : i = n := by omega
          subst this
          exact ⟨s, ⟨rfl, trivial⟩, K1, M1, O1⟩
        · exact ⟨(), ⟨rfl, rfl, rfl, rfl, trivial⟩, rfl, natLt c1⟩
      rintro _ h2 ⟨rfl, hin⟩
      obtain ⟨y, hyi⟩ : ∃ y, ys[i]? = some y := ⟨_, List.getElem?_eq_getElem (by omega)⟩
      obtain ⟨b', o, ea, la⟩ := (hx.kept K1).at (i := i) (by omega)
      rw [(List.getElem?_eq_some_iff.1 hyi).2] at la
      refine wRun_mid (σ := SL) (fun s' => [(0, .slc a n c), (1, .int .i64 known), (5, .slc s' (cnt known ys (i + 1)).length (cnt known ys (i + 1)).length), (6, .int .i64 (Int.ofNat i))])
        (fun s' h3 => Kept (122 * i + 122) h h3 ∧ Made h3 s' (cnt known ys (i + 1)).length (cnt known ys (i + 1)) ∧ (∀ b, s' = some (b, 0) → h.next ≤ b)) ?_ ?_
      · subst ea
        refine wRun_block rfl ?_
        refine wRun_mid (σ := Bool) (fun g => [(0, .slc (some (b', o)) n c), (1, .int .i64 known), (5, .slc s (cnt known ys i).length (cnt known ys i).length), (6, .int .i64 (Int.ofNat i)), (7, .bool g)]) (fun g h3 => h3 = h2 ∧ (g = true ↔ GoneK known ys y 0)) ?_ ?_
        · refine wRun_of svx (by decide) ?_
          refine ⟨i, rfl, hin, _, la.ld (f := 2) rfl (by decide) (by decide), ?_⟩
          rintro (_ | _) c2
          · have hw := leI_iff.1 (by simpa using c2 : leI y.d.e.written known = true)
            refine ⟨i, rfl, hin, _, la.ld (f := 3) rfl (by decide) (by decide), ?_⟩
            rintro (_ | _) c3
            · refine ⟨false, ⟨rfl, rfl, rfl, rfl, rfl, trivial⟩, rfl, ?_⟩
              simp only [Bool.false_eq_true, false_iff]
              rintro (h | h | ⟨j, _, hj, _⟩)
              · omega
              · exact eqF c3 h
              · exact absurd hj (Nat.not_lt_zero _)
            · exact ⟨true, ⟨rfl, rfl, rfl, rfl, rfl, trivial⟩, rfl, by simp only [true_iff]; exact .inr (.inl (eqT c3))⟩
          · exact ⟨true, ⟨rfl, rfl, rfl, rfl, rfl, trivial⟩, rfl, by simp only [true_iff]; exact .inl (leI_f (by simpa using c2))⟩
        rintro g h3 ⟨rfl, ig⟩
        refine wRun_mid (σ := Bool) (fun g => [(0, .slc (some (b', o)) n c), (1, .int .i64 known), (5, .slc s (cnt known ys i).length (cnt known ys i).length), (6, .int .i64 (Int.ofNat i)), (7, .bool g)]) (fun g h4 => Kept n h3 h4 ∧ (g = true ↔ GoneK known ys y n)) ?_ ?_
        · refine wRun_seq svx (by decide) ?_
          refine wRun_block rfl ?_
          refine wLoopR (σ := Nat × Bool) (fun s2 => [(0, .slc (some (b', o)) n c), (1, .int .i64 known), (5, .slc s (cnt known ys i).length (cnt known ys i).length), (6, .int .i64 (Int.ofNat i)), (7, .bool s2.2), (8, .int .i64 (Int.ofNat s2.1))])
            (fun s2 h4 => s2.1 ≤ n ∧ Kept s2.1 h3 h4 ∧ (s2.2 = true ↔ GoneK known ys y s2.1)) (fun s2 => n - s2.1) (0, g) (by rw [gN_fuel]; show n - 0 < 1000000; omega) ⟨rfl, rfl, rfl, rfl, rfl, rfl, trivial⟩ ⟨Nat.zero_le _, Kept.refl h3, ig⟩ ?_
          rintro ⟨k, g⟩ h4 ⟨hk, K4, ig⟩
          simp only at hk K4 ig
          have n4 := K4.few
          refine wRun_mid (σ := Unit) (fun _ => [(0, .slc (some (b', o)) n c), (1, .int .i64 known), (5, .slc s (cnt known ys i).length (cnt known ys i).length), (6, .int .i64 (Int.ofNat i)), (7, .bool g), (8, .int .i64 (Int.ofNat k))]) (fun _ h5 => h5 = h4 ∧ k < n) ?_ ?_
          · refine wRun_of svx (by decide) ?_
            rintro (_ | _) c1
            · have hge : n ≤ k := natGe c1
              have : k = n := by omega
              subst this
              exact ⟨g, ⟨rfl, rfl, rfl, rfl, rfl, trivial⟩, K4, ig⟩
            · exact ⟨(), ⟨rfl, rfl, rfl, rfl, rfl, rfl, trivial⟩, rfl, natLt c1⟩
          rintro _ h5 ⟨rfl, hkn⟩
          obtain ⟨z, hzk⟩ : ∃ z, ys[k]? = some z := ⟨_, List.getElem?_eq_getElem (by omega)⟩
          obtain ⟨b2, o2, ea2, lb⟩ := ((hx.kept K1).kept K4).at (i := k) (by omega)
          rw [(List.getElem?_eq_some_iff.1 hzk).2] at lb
          cases ea2
          have la4 := la.kept K4
          have step : GoneK known ys y (k + 1) ↔ GoneK known ys y k ∨ (IsBack known z ∧ z.v = y.v ∧ z.d.e.taLine = y.l) := by
            unfold GoneK
            constructor
            · rintro (h | h | ⟨j, w, hj, hw, r⟩)
              · exact .inl (.inl h)
              · exact .inl (.inr (.inl h))
              · by_cases hjk : j = k
                · subst hjk; rw [hzk] at hw; cases hw; exact .inr r
                · exact .inl (.inr (.inr ⟨j, w, by omega, hw, r⟩))
            · rintro ((h | h | ⟨j, w, hj, r⟩) | r)
              · exact .inl h
              · exact .inr (.inl h)
              · exact .inr (.inr ⟨j, w, by omega, r⟩)
              · exact .inr (.inr ⟨k, z, by omega, hzk, r⟩)
          refine wRun_mid (σ := Bool) (fun g => [(0, .slc (some (b', o)) n c), (1, .int .i64 known), (5, .slc s (cnt known ys i).length (cnt known ys i).length), (6, .int .i64 (Int.ofNat i)), (7, .bool g), (8, .int .i64 (Int.ofNat k))]) (fun g h6 => Kept 1 h5 h6 ∧ (g = true ↔ GoneK known ys y (k + 1))) ?_ ?_
          · refine wRun_block rfl ?_
            refine wRun_seq svx (by decide) ?_
            refine ⟨k, rfl, hkn, _, lb.ld (f := 2) rfl (by decide) (by decide), ?_⟩
            refine ⟨(room_iff h5).2 (by omega), ?_⟩
            intro p h6 hp hh6
            obtain ⟨A6, K6⟩ := At.new (by omega) hp hh6
            have n6 := K6.few
            refine ⟨rfl, ?_⟩
            obtain ⟨vs0, esz, opn, pars, vs', e1, e2, e3, e4⟩ := A6.store (w := z.d.e.cells) (by omega) rfl rfl
            refine ⟨vs0, esz, opn, pars, vs', e1, e2, e3, ?_⟩
            intro h7 hh7
            obtain ⟨A7, K7⟩ := e4 h7 hh7
            rw [hp] at K7
            have K57 : Kept (1 + 0) h5 h7 := Kept.one K6 K7
            have la7 := la4.kept K57
            have lb7 := lb.kept K57
            refine wRun_of svx (by decide) ?_
            cases g with
            | true => exact ⟨true, ⟨rfl, rfl, rfl, rfl, rfl, rfl, trivial⟩, K57.mono (by omega), by simp only [true_iff]; exact step.2 (.inl (ig.1 rfl))⟩
            | false =>
              have hng : ¬ GoneK known ys y k := fun hg => by have := ig.2 hg; cases this
              refine ⟨_, A7.ld rfl, ?_⟩
              rintro (_ | _) c2
              · refine ⟨false, ⟨rfl, rfl, rfl, rfl, rfl, rfl, trivial⟩, K57.mono (by omega), ?_⟩
                simp only [Bool.false_eq_true, false_iff]; intro hg
                rcases step.1 hg with hg | ⟨hb, _⟩
                · exact hng hg
                · exact eqF c2 hb.1
              · refine ⟨_, A7.ld rfl, ?_⟩
                rintro (_ | _) c3
                · refine ⟨false, ⟨rfl, rfl, rfl, rfl, rfl, rfl, trivial⟩, K57.mono (by omega), ?_⟩
                  simp only [Bool.false_eq_true, false_iff]; intro hg
                  rcases step.1 hg with hg | ⟨hb, _⟩
                  · exact hng hg
                  · have := leI_f c3; have := hb.2; omega
                · refine ⟨k, rfl, hkn, _, lb7.ld (f := 0) rfl (by decide) (by decide), i, rfl, hin, _, la7.ld (f := 0) rfl (by decide) (by decide), ?_⟩
                  rintro (_ | _) c4
                  · refine ⟨false, ⟨rfl, rfl, rfl, rfl, rfl, rfl, trivial⟩, K57.mono (by omega), ?_⟩
                    simp only [Bool.false_eq_true, false_iff]; intro hg
                    rcases step.1 hg with hg | ⟨_, hb, _⟩
                    · exact hng hg
                    · exact eqF c4 hb
                  · refine ⟨_, A7.ld rfl, i, rfl, hin, _, la7.ld (f := 1) rfl (by decide) (by decide), ?_⟩
                    rintro (_ | _) c5
                    · refine ⟨false, ⟨rfl, rfl, rfl, rfl, rfl, rfl, trivial⟩, K57.mono (by omega), ?_⟩
                      simp only [Bool.false_eq_true, false_iff]; intro hg
                      rcases step.1 hg with hg | ⟨_, _, hb⟩
                      · exact hng hg
                      · exact eqF c5 hb
                    · exact ⟨true, ⟨rfl, rfl, rfl, rfl, rfl, rfl, trivial⟩, K57.mono (by omega), by simp only [true_iff]; exact step.2 (.inr ⟨⟨eqT c2, leI_iff.1 c3⟩, eqT c4, eqT c5⟩)⟩
          rintro g' h6 ⟨K6, ig'⟩
          refine wRun_of svx (by decide) ?_
          exact ⟨(k + 1, g'), by simp; omega, ⟨rfl, rfl, rfl, rfl, rfl, slot (add64 (a := k) (b := 1) (by omega)), trivial⟩, by simp; omega, K4.trans K6, ig'⟩
        rintro g h4 ⟨K4, ig⟩
        have n4 := K4.few
        have K14 := K1.trans K4
        obtain ⟨cs1, cs2⟩ := cnt_succ (known := known) hyi
        refine wRun_of svx (by decide) ?_
        cases g with
        | true =>
          have hc : ¬ Counts known ys y := fun hc => (goneK_counts hxl).2 hc (ig.1 rfl)
          rw [cs2 hc]
          exact ⟨s, ⟨rfl, rfl, rfl, rfl, trivial⟩, K14.mono (by omega), M1.kept K4, O1⟩
        | false =>
          have hc : Counts known ys y := (goneK_counts hxl).1 fun hg => by have := ig.2 hg; cases this
          have la4 := la.kept K4
          refine ⟨i, rfl, hin, _, la4.ld0 rfl (by decide) (by decide), ?_⟩
          refine ⟨_, _, buildSl_run el22 rfl rfl (by decide) ((room_iff h4).2 (by omega)), ?_⟩
          obtain ⟨A5, K5⟩ := At.new (h := h4) (h' := h4.alloc (.cells y.cells 63 false false [])) (by omega) rfl rfl
          have n5 := K5.few
          have r2 : readSl (h4.alloc (.cells y.cells 63 false false [])) 63 (.slc (some (h4.next, 0)) 1 1) = some ([y].length, ([y].map XD.cells).flatten) :=
            slr_read (xs := [y]) (enc := XD.cells) ⟨rfl, rows_ok A5.lt (by rw [A5.get]; rfl) XA.rowlen⟩
          have K15 := K14.trans K5
          obtain ⟨h6, s', q6, M6, K6, O6⟩ := ((M1.kept K4).kept K5).app (h0 := h) (by omega) K15.next O1 [y] (by simp; omega)
          refine ⟨_, _, appF_run rfl rfl rfl el22 sec22 rfl rfl r2 q6, ?_⟩
          have hlen : (cnt known ys (i + 1)).length = (cnt known ys i).length + 1 := by rw [cs1 hc]; simp
          refine ⟨s', ⟨rfl, rfl, congrArg (fun k => some (AVal.slc s' k k)) hlen.symm, rfl, trivial⟩, (K15.thenX K6 fun b hb => O1 b hb).mono (by omega), ?_, O6⟩
          rw [hlen, cs1 hc]; exact M6
      rintro s' h3 ⟨K3, M3, O3⟩
      refine wRun_of svx (by decide) ?_
      exact ⟨(i + 1, s'), by simp; omega, ⟨rfl, rfl, rfl, slot (add64 (a := i) (b := 1) (by omega)), trivial⟩, by simp; omega, K3.mono (by simp; omega), M3, O3⟩
    rintro s h1 ⟨K1, M1, O1⟩
    refine wRun_of svx (by decide) ?_
    exact ⟨s, rfl, K1.mono (by omega), M1, O1⟩
  obtain ⟨v, h', h1, a', rfl, h2⟩ := this
  exact ⟨h', a', h1, h2⟩
end Go.Proofs
end
section
/- The specification's Effective, and its equality of lists. -/
namespace Go.Proofs
open Go.Sim Go.SortL
variable {D : Nat}

/-- what the specification's Effective returns -/
def RRes (xs : List XD) (n : Nat) (known : Int) (h' : H) (a : SL) (m : Nat) (e : Int) : Prop :=
  (Err xs n e ∧ a = none ∧ m = 0) ∨ (e = 0 ∧ ∃ ys, Suc xs n ys ∧ SlR h' 63 XD.cells a m (cnt known ys ys.length))

set_option maxRecDepth 1000000 in
set_option maxHeartbeats 1000000 in
theorem reffective_x (hD : 8 ≤ D) (a : SL) (n c : Nat) (xs : List XD) (known : Int) (h : H) (hx : SlR h 63 XD.cells a n xs) (hE : EList h xs) (hn4 : n ≤ 400) (hn : h.next + 340000 ≤ 1048576) :
    ∃ h' a' m c' e, (GX D).call 7 [.slc a n c, .int .i64 known] h = .ok (.agg [.slc a' m c', .int .i64 e]) h' ∧ Kept 340000 h h' ∧ RRes xs n known h' a' m e := by
  obtain ⟨d, rfl, hd⟩ := dsucc hD
  have : ∃ v h', (GX (d + 1)).call 7 [.slc a n c, .int .i64 known] h = .ok v h' ∧ ∃ a' m c' e, v = .agg [.slc a' m c', .int .i64 e] ∧ Kept 340000 h h' ∧ RRes xs n known h' a' m e := by
    refine call_w Tryz.func7 rfl ?_
    refine ⟨(room_iff h).2 (by omega), ?_⟩
    intro p h1 hp hh
    obtain ⟨A1, K1⟩ := At.new (by omega) hp hh
    clear hh
    have n1 := K1.few
    have lp := A1.lt
    obtain ⟨h2, a', m, c', e, hc, K2, hr⟩ := different_x hd a n c xs h1 (hx.kept K1) (hE.kept K1) hn4 (by omega)
    refine ⟨_, _, hc, ?_⟩
    have n2 := K2.few
    have A2 := A1.kept K2
    refine ⟨(room_iff h2).2 (by omega), ?_⟩
    intro p5 h3 hp5 hh3
    obtain ⟨B3, K3⟩ := At.new (by omega) hp5 hh3
    clear hh3
    have n3 := K3.few
    have A3 := A2.kept K3
    have lpp : p ≠ p5 := by have := A2.lt; omega
    refine ⟨rfl, _, _, _, _, _, B3.get, rfl, rfl, ?_⟩
    intro h4 hh4
    obtain ⟨B4, K4⟩ := B3.st (by omega) hh4
    clear hh4
    have A4 := A3.keptX K4 lpp
    rw [hp5] at K4
    have K24 : Kept (1 + 0) h2 h4 := Kept.one K3 K4
    have n4 := K24.few
    have K04 := (K1.trans K2).trans K24
    refine ⟨_, B4.ld rfl, ?_⟩
    rintro (_ | _) c1
    · have he := neF c1
      rcases hr with hr | ⟨_, ys, hs, hsl⟩
      · exact absurd he hr.1.ne
      refine ⟨_, B4.ld rfl, ?_⟩
      have hm : m ≤ 120 := by have := hs.2.2.2.2; have := hsl.1; omega
      obtain ⟨h5, a2, hc2, K5, M5, O5⟩ := counting_x (D := d) (by omega) a' m c' ys known h4 (hsl.kept K24) hm (by omega)
      refine ⟨_, _, hc2, ?_⟩
      have n5 := K5.few
      have A5 := A4.kept K5
      refine ⟨rfl, _, _, _, _, _, A5.get, rfl, rfl, ?_⟩
      intro h6 hh6
      obtain ⟨A6, K6⟩ := A5.st (by omega) hh6
      have M6 := M5.keptX K6 (fun b hb he => by have := O5 b hb; have := A4.lt; omega)
      refine ⟨_, A6.ld rfl, ?_⟩
      have := hsl.1
      exact ⟨a2, _, _, 0, rfl, ((K04.trans K5).thenX K6 fun i hi => by rw [hi, hp]; exact Nat.le_refl _).mono (by omega), .inr ⟨rfl, ys, hs, by rw [this]; exact M6.slr⟩⟩
    · have he := neT c1
      rcases hr with hr | ⟨h0, _⟩
      · refine ⟨_, B4.ld rfl, ?_⟩
        refine ⟨rfl, _, _, _, _, _, A4.get, rfl, rfl, ?_⟩
        intro h6 hh6
        obtain ⟨A6, K6⟩ := A4.st (by omega) hh6
        refine ⟨_, A6.ld rfl, ?_⟩
        exact ⟨a', m, c', e, rfl, (K04.thenX K6 fun i hi => by rw [hi, hp]; exact Nat.le_refl _).mono (by omega), .inl hr⟩
      · exact absurd h0 he
  obtain ⟨v, h', h1, a', m, c', e, rfl, h2, h3⟩ := this
  exact ⟨h', a', m, c', e, h1, h2, h3⟩

set_option maxRecDepth 1000000 in
set_option maxHeartbeats 1000000 in
theorem sameEntered_x (hD : 4 ≤ D) (a b : SL) (n m ca cb : Nat) (zs ws : List XD) (h : H) (ha : SlR h 63 XD.cells a n zs) (hb : SlR h 63 XD.cells b m ws) (hEa : EList h zs) (hEb : EList h ws) (hn3 : n ≤ 1000) (hn : h.next + 4 * n + 4 ≤ 1048576) :
    ∃ r h', (GX D).call 8 [.slc a n ca, .slc b m cb] h = .ok (.bool r) h' ∧ Kept (4 * n + 4) h h' ∧ (r = true ↔ PW EqX zs ws) := by
  obtain ⟨d, rfl, hd⟩ := dsucc hD
  have : ∃ v h', (GX (d + 1)).call 8 [.slc a n ca, .slc b m cb] h = .ok v h' ∧ ∃ r, v = .bool r ∧ Kept (4 * n + 4) h h' ∧ (r = true ↔ PW EqX zs ws) := by
    have hal := ha.1
    have hbl := hb.1
    refine call_run Tryz.func8 rfl rfl (Nat.le_of_ble_eq_true rfl) (by decide) ?_
    refine wRun_seq svx (by decide) ?_
    refine wRun_mid (σ := Unit) (fun _ => [(0, .slc a n ca), (1, .slc b m cb)]) (fun _ h1 => h1 = h ∧ n = m) ?_ ?_
    · refine wRun_of svx (by decide) ?_
      rintro (_ | _) c1
      · exact ⟨(), ⟨rfl, rfl, trivial⟩, rfl, eqI_len.1 (by simpa using c1)⟩
      · refine ⟨false, rfl, Kept.refl _, ?_⟩
        simp only [Bool.false_eq_true, false_iff]
        intro P
        have : eqI (Int.ofNat n) (Int.ofNat m) = true := eqI_len.2 (by rw [← hal, ← hbl]; exact P.1)
        rw [this] at c1; cases c1
    rintro _ h1 ⟨rfl, hnm⟩
    refine wRun_mid (σ := Unit) (fun _ => []) (fun _ h2 => Kept (4 * n) h1 h2 ∧ PW EqX zs ws) ?_ ?_
    · refine wRun_seq svx (by decide) ?_
      refine wRun_block rfl ?_
      refine wLoopR (σ := Nat) (fun i => [(0, .slc a n ca), (1, .slc b m cb), (5, .int .i64 (Int.ofNat i))]) (fun i h2 => i ≤ n ∧ Kept (4 * i) h1 h2 ∧ ∀ (j : Nat) (x y : XD), j < i → zs[j]? = some x → ws[j]? = some y → EqX x y) (fun i => n - i) 0
        (by rw [gN_fuel]; show n - 0 < 1000000; omega) ⟨rfl, rfl, rfl, trivial⟩ ⟨Nat.zero_le _, Kept.refl h1, fun j x y hj => absurd hj (Nat.not_lt_zero _)⟩ ?_
      rintro i h2 ⟨hi, K2, hall⟩
      have n2 := K2.few
      refine wRun_mid (σ := Unit) (fun _ => [(0, .slc a n ca), (1, .slc b m cb), (5, .int .i64 (Int.ofNat i))]) (fun _ h3 => h3 = h2 ∧ i < n) ?_ ?_
      · refine wRun_of svx (by decide) ?_
        rintro (_ | _) c1
        · have hge := natGe c1
          exact ⟨(), trivial, K2.mono (by omega), by rw [hal, hbl]; exact hnm, fun j x y hx hy => hall j x y (by have := (List.getElem?_eq_some_iff.1 hx).1; omega) hx hy⟩
        · exact ⟨(), ⟨rfl, rfl, rfl, trivial⟩, rfl, natLt c1⟩
      rintro _ h3 ⟨rfl, hin⟩
      obtain ⟨x, hxi⟩ : ∃ x, zs[i]? = some x := ⟨_, List.getElem?_eq_getElem (by omega)⟩
      obtain ⟨y, hyi⟩ : ∃ y, ws[i]? = some y := ⟨_, List.getElem?_eq_getElem (by omega)⟩
      obtain ⟨hex, hsx, _⟩ := (hEa.kept K2) x (List.mem_of_getElem? hxi)
      obtain ⟨hey, hsy, _⟩ := (hEb.kept K2) y (List.mem_of_getElem? hyi)
      obtain ⟨b1, o1, ea, la⟩ := (ha.kept K2).at (i := i) (by omega)
      obtain ⟨b2, o2, eb, lb⟩ := (hb.kept K2).at (i := i) (by omega)
      rw [(List.getElem?_eq_some_iff.1 hxi).2] at la
      rw [(List.getElem?_eq_some_iff.1 hyi).2] at lb
      subst ea eb
      refine wRun_mid (σ := Unit) (fun _ => [(0, .slc (some (b1, o1)) n ca), (1, .slc (some (b2, o2)) m cb), (5, .int .i64 (Int.ofNat i))]) (fun _ h4 => Kept 4 h3 h4 ∧ EqX x y) ?_ ?_
      · refine wRun_block rfl ?_
        refine wRun_mid (σ := Bool) (fun r => [(0, .slc (some (b1, o1)) n ca), (1, .slc (some (b2, o2)) m cb), (5, .int .i64 (Int.ofNat i)), (6, .bool r)]) (fun r h4 => Kept 4 h3 h4 ∧ (r = true ↔ EqD x.d y.d)) ?_ ?_
        · refine wRun_of svx (by decide) ?_
          refine ⟨i, rfl, hin, _, la.ld (f := 2) rfl (by decide) (by decide), i, rfl, by omega, _, lb.ld (f := 2) rfl (by decide) (by decide), ?_⟩
          obtain ⟨r, h4, hc, K4, ir⟩ := rsame_x (D := d) (by omega) x.d y.d h3 (by omega) hex hey hsx
          refine ⟨_, _, hc, ?_⟩
          rintro _ rfl
          exact ⟨r, ⟨rfl, rfl, rfl, rfl, trivial⟩, K4, ir⟩
        rintro r h4 ⟨K4, ir⟩
        have la4 := la.kept K4
        have lb4 := lb.kept K4
        have no : ¬ EqX x y → ∃ r', packA [AVal.bool false] = .bool r' ∧ Kept (4 * n + 4) h1 h4 ∧ (r' = true ↔ PW EqX zs ws) := fun hne => ⟨false, rfl, (K2.trans K4).mono (by omega), by
          simp only [Bool.false_eq_true, false_iff]; exact fun P => hne (P.2 i x y hxi hyi)⟩
        refine wRun_of svx (by decide) ?_
        cases r with
        | false => exact no fun E => by have := ir.2 E.2; cases this
        | true =>
          refine ⟨i, rfl, hin, _, la4.ld (f := 0) rfl (by decide) (by decide), i, rfl, by omega, _, lb4.ld (f := 0) rfl (by decide) (by decide), ?_⟩
          refine ne_step rfl rfl rfl (fun he => ?_) (fun he => ?_)
          · exact ⟨(), ⟨rfl, rfl, rfl, trivial⟩, K4, by simpa [SameN] using he, ir.1 rfl⟩
          · exact no fun E => he (by rw [E.1.1, E.1.2])
      rintro _ h4 ⟨K4, hq⟩
      refine wRun_of svx (by decide) ?_
      refine ⟨i + 1, by omega, ⟨rfl, rfl, slot (add64 (a := i) (b := 1) (by omega)), trivial⟩, hin, (K2.trans K4).mono (by omega), fun j u w hj hu hw => ?_⟩
      by_cases hji : j = i
      · subst hji; rw [hxi] at hu; rw [hyi] at hw; cases hu; cases hw; exact hq
      · exact hall j u w (by omega) hu hw
    rintro _ h2 ⟨K2, hP⟩
    refine wRun_of svx (by decide) ?_
    exact ⟨true, rfl, K2.mono (by omega), by simp [hP]⟩
  obtain ⟨v, h', h1, r, rfl, h2, h3⟩ := this
  exact ⟨r, h', h1, h2, h3⟩
end Go.Proofs
end
section
/- The program's Effective and the specification's agree. -/
namespace Go.Proofs
open Go.Sim Go.SortL
variable {D : Nat}

theorem EqX.trans {x y z : XD} (h : EqX x y) (k : EqX y z) : EqX x z := ⟨h.1.trans k.1, h.2.trans k.2⟩
theorem PW.trans {α β γ : Type} {R : α → β → Prop} {S : β → γ → Prop} {T : α → γ → Prop} (hT : ∀ x y z, R x y → S y z → T x z) {xs : List α} {ys : List β} {zs : List γ} (h : PW R xs ys) (k : PW S ys zs) : PW T xs zs := by
  refine ⟨h.1.trans k.1, fun i x z hx hz => ?_⟩
  obtain ⟨y, hy⟩ : ∃ y, ys[i]? = some y := ⟨_, List.getElem?_eq_getElem (by have := (List.getElem?_eq_some_iff.1 hx).1; rw [← h.1]; exact this)⟩
  exact hT x y z (h.2 i x y hx hy) (k.2 i y z hy hz)
theorem PW.tail {α β : Type} {R : α → β → Prop} {x : α} {y : β} {xs : List α} {ys : List β} (hxy : R x y) (h : PW R xs ys) : PW R (x :: xs) (y :: ys) := by
  refine ⟨by simp [h.1], fun i u v hu hv => ?_⟩
  cases i with
  | zero => simp at hu hv; subst hu hv; exact hxy
  | succ i => simp at hu hv; exact h.2 i u v hu hv

/-- two lists in strict order of the same names -/
theorem pw_same : ∀ {ys zs : List XD}, ys.Pairwise ltN → zs.Pairwise ltN → (∀ y ∈ ys, ∃ z ∈ zs, SameN y z) → (∀ z ∈ zs, ∃ y ∈ ys, SameN y z) → PW SameN ys zs
  | [], [], _, _, _, _ => PW.nil
  | [], z :: zs, _, _, _, h => by obtain ⟨y, hy, _⟩ := h z (List.mem_cons_self ..); cases hy
  | y :: ys, [], _, _, h, _ => by obtain ⟨z, hz, _⟩ := h y (List.mem_cons_self ..); cases hz
  | y :: ys, z :: zs, P, Q, h, k => by
    obtain ⟨p1, p2⟩ := List.pairwise_cons.1 P
    obtain ⟨q1, q2⟩ := List.pairwise_cons.1 Q
    have hs : SameN y z := by
      obtain ⟨z', hz', e1⟩ := h y (List.mem_cons_self ..)
      obtain ⟨y', hy', e2⟩ := k z (List.mem_cons_self ..)
      rcases List.mem_cons.1 hz' with rfl | hz'
      · exact e1
      · rcases List.mem_cons.1 hy' with rfl | hy'
        · exact e2
        · have a1 := q1 z' hz'
          have a2 := p1 y' hy'
          unfold ltN SameN at *; omega
    refine PW.tail hs (pw_same p2 q2 (fun u hu => ?_) (fun w hw => ?_))
    · obtain ⟨w, hw, e⟩ := h u (List.mem_cons_of_mem _ hu)
      rcases List.mem_cons.1 hw with rfl | hw
      · exact absurd (hs.trans e.symm) (ltN_ne (p1 u hu))
      · exact ⟨w, hw, e⟩
    · obtain ⟨u, hu, e⟩ := k w (List.mem_cons_of_mem _ hw)
      rcases List.mem_cons.1 hu with rfl | hu
      · exact absurd (hs.symm.trans e) (ltN_ne (q1 w hw))
      · exact ⟨u, hu, e⟩

theorem diff_pw {xs ys zs : List XD} (C : Consist xs) (h : Diff xs ys) (k : Diff xs zs) : PW EqX ys zs := by
  have P := pw_same h.sorted k.sorted (fun y hy => k.all y (h.sub y hy)) (fun z hz => by
    obtain ⟨y, hy, e⟩ := h.all z (k.sub z hz); exact ⟨y, hy, e.symm⟩)
  refine ⟨P.1, fun i y z hy hz => ?_⟩
  have e := P.2 i y z hy hz
  exact ⟨e, C y (h.sub y (List.mem_of_getElem? hy)) z (k.sub z (List.mem_of_getElem? hz)) e⟩

theorem Err.unique {xs : List XD} {n : Nat} {e e' : Int} (h : Err xs n e) (k : Err xs n e') : e = e' := by
  rcases h with ⟨h1, rfl⟩ | ⟨h1, ⟨x, hx, hb⟩, rfl⟩ | ⟨h1, h2, h3⟩
  · rcases k with ⟨_, rfl⟩ | ⟨k1, _⟩ | ⟨k1, _⟩
    · rfl
    · omega
    · omega
  · rcases k with ⟨k1, _⟩ | ⟨_, _, rfl⟩ | ⟨_, k2, _⟩
    · omega
    · rfl
    · exact absurd (k2 x hx) hb
  · rcases k with ⟨k1, _⟩ | ⟨_, ⟨x, hx, hb⟩, _⟩ | ⟨_, _, k3⟩
    · omega
    · exact absurd (h2 x hx) hb
    · rcases h3 with ⟨h3, rfl⟩ | ⟨h3, _, _, _, rfl⟩
      · rcases k3 with ⟨_, rfl⟩ | ⟨k3, _⟩
        · rfl
        · exact absurd k3 h3
      · rcases k3 with ⟨k3, _⟩ | ⟨_, _, _, _, rfl⟩
        · exact absurd h3 k3
        · rfl

theorem Err.not_suc {xs ys : List XD} {n : Nat} {e : Int} (h : Err xs n e) (k : Suc xs n ys) : False := by
  obtain ⟨k1, k2, k3, k4, k5⟩ := k
  rcases h with ⟨h1, _⟩ | ⟨_, ⟨x, hx, hb⟩, _⟩ | ⟨_, _, ⟨h3, _⟩ | ⟨_, zs, h4, h5, _⟩⟩
  · omega
  · exact hb (k2 x hx)
  · exact h3 k3
  · have := (diff_pw k3 k4 h4).1; omega

theorem eqx_kind {x y : XD} (h : EqX x y) : x.d.e.kind = y.d.e.kind ∧ x.d.e.written = y.d.e.written ∧ x.d.e.taLine = y.d.e.taLine := by
  have hs := h.2.1
  have comp : ∀ i : Nat, (x.d.e.scal[i]? : Option AVal) = y.d.e.scal[i]? := fun i => by rw [hs]
  have inj : ∀ {a b : Int}, (some (AVal.int .i64 a) : Option AVal) = some (AVal.int .i64 b) → a = b := fun h => by cases h; rfl
  exact ⟨inj (comp 1), inj (comp 0), inj (comp 56)⟩

theorem gone_eqx {known : Int} {ys zs : List XD} (P : PW EqX ys zs) {y z : XD} (h : EqX y z) : Gone known ys y ↔ Gone known zs z := by
  constructor
  · rintro ⟨u, hu, hb, e1, e2⟩
    obtain ⟨i, hi, rfl⟩ := List.getElem_of_mem hu
    obtain ⟨w, hw⟩ : ∃ w, zs[i]? = some w := ⟨_, List.getElem?_eq_getElem (by rw [← P.1]; exact hi)⟩
    have hq := P.2 i _ w (List.getElem?_eq_getElem hi) hw
    obtain ⟨q1, q2, q3⟩ := eqx_kind hq
    exact ⟨w, List.mem_of_getElem? hw, ⟨q1 ▸ hb.1, q2 ▸ hb.2⟩, by rw [← hq.1.1, e1, h.1.1], by rw [← q3, e2, h.1.2]⟩
  · rintro ⟨w, hw, hb, e1, e2⟩
    obtain ⟨i, hi, rfl⟩ := List.getElem_of_mem hw
    obtain ⟨u, hu⟩ : ∃ u, ys[i]? = some u := ⟨_, List.getElem?_eq_getElem (by rw [P.1]; exact hi)⟩
    have hq := P.2 i u _ hu (List.getElem?_eq_getElem hi)
    obtain ⟨q1, q2, q3⟩ := eqx_kind hq
    exact ⟨u, List.mem_of_getElem? hu, ⟨by rw [q1]; exact hb.1, by rw [q2]; exact hb.2⟩, by rw [hq.1.1, e1, h.1.1], by rw [q3, e2, h.1.2]⟩

theorem counts_eqx {known : Int} {ys zs : List XD} (P : PW EqX ys zs) {y z : XD} (h : EqX y z) : Counts known ys y ↔ Counts known zs z := by
  obtain ⟨q1, q2, _⟩ := eqx_kind h
  unfold Counts
  rw [q1, q2, gone_eqx P h]

theorem cnt_pw {known : Int} {ys zs : List XD} (P : PW EqX ys zs) : ∀ i, i ≤ ys.length → PW EqX (cnt known ys i) (cnt known zs i)
  | 0, _ => PW.nil
  | i + 1, hi => by
    have ih := cnt_pw (known := known) P i (by omega)
    obtain ⟨y, hy⟩ : ∃ y, ys[i]? = some y := ⟨_, List.getElem?_eq_getElem (by omega)⟩
    obtain ⟨z, hz⟩ : ∃ z, zs[i]? = some z := ⟨_, List.getElem?_eq_getElem (by rw [← P.1]; omega)⟩
    have hq := P.2 i y z hy hz
    obtain ⟨a1, a2⟩ := cnt_succ (known := known) hy
    obtain ⟨b1, b2⟩ := cnt_succ (known := known) hz
    by_cases hc : Counts known ys y
    · rw [a1 hc, b1 ((counts_eqx P hq).1 hc)]; exact ih.snoc hq
    · rw [a2 hc, b2 (fun h => hc ((counts_eqx P hq).2 h))]; exact ih

/-- THE LAW: the same error, or the same entries -/
theorem agree {xs : List XD} {n : Nat} {known : Int} {h1 h2 : H} {a1 a2 : SL} {m1 m2 : Nat} {e1 e2 : Int} (h : ERes xs n known h1 a1 m1 e1) (k : RRes xs n known h2 a2 m2 e2) :
    e1 = e2 ∧ ∃ zs ws, SlR h1 63 XD.cells a1 m1 zs ∧ SlR h2 63 XD.cells a2 m2 ws ∧ EList h1 zs ∧ (∀ w ∈ ws, w ∈ xs) ∧ PW EqX zs ws ∧ m1 ≤ 120 := by
  rcases h with ⟨h, rfl, rfl⟩ | ⟨rfl, ys, zs, hs, hp, hsl, hE⟩
  · rcases k with ⟨k, rfl, rfl⟩ | ⟨_, ys', ks, _⟩
    · exact ⟨h.unique k, [], [], SlR.none, SlR.none, fun x hx => (by cases hx), fun x hx => (by cases hx), PW.nil, Nat.zero_le _⟩
    · exact (h.not_suc ks).elim
  · rcases k with ⟨k, _⟩ | ⟨rfl, ys', ks, ksl⟩
    · exact (k.not_suc hs).elim
    · have P := diff_pw hs.2.2.1 hs.2.2.2.1 ks.2.2.2.1
      refine ⟨rfl, zs, _, hsl, ksl, hE, fun w hw => ks.2.2.2.1.sub w ?_, PW.trans (R := EqX) (S := EqX) (T := EqX) (fun _ _ _ a b => EqX.trans a b) hp ?_, ?_⟩
      · unfold cnt at hw
        exact List.mem_of_mem_take (List.mem_filter.1 hw).1
      · rw [P.1]; have := cnt_pw (known := known) P ys.length (Nat.le_refl _); rw [P.1] at this; exact this
      · have h1 := hsl.1
        have h2 := hp.1
        have h3 : (cnt known ys ys.length).length ≤ ys.length := by
          unfold cnt
          exact Nat.le_trans (List.length_filter_le _ _) (by rw [List.length_take]; omega)
        have h4 := hs.2.2.2.2
        omega
end Go.Proofs
end
