/- slices.SortStableFunc over entries. -/
import Derived.Test.YtakbgbnnocmaiaaGreatDoorTh
set_option linter.all false
section
namespace Go.Proofs
open Go.Sim Go.SortL
variable {D : Nat}

theorem mul2l {a : Nat} (h : 2 * a ≤ 9223372036854775807) : wrapK .i64 (Int.mul 2 (Int.ofNat a)) = Int.ofNat (2 * a) := mul64 (a := 2) h
theorem mul2r {a : Nat} (h : 2 * a ≤ 9223372036854775807) : wrapK .i64 (Int.mul (Int.ofNat a) 2) = Int.ofNat (2 * a) := (mul64 (b := 2) (by omega)).trans (by congr 1; omega)

set_option maxRecDepth 1000000 in
set_option maxHeartbeats 2000000 in
theorem stable_x (hD : 17 ≤ D) (p c : Nat) (xs : List XD) (n : Nat) (hxl : xs.length = n) (hn3 : n ≤ 360) (h : H) (hn : h.next + (325 * n + 2000) ≤ 1048576) (hX : XA h p xs) :
    ∃ h' ys, (GX D).call 75 [.slc (some (p, 0)) n c, .int .i64 (Int.ofNat n), .func 40 []] h = .ok .undef h' ∧ XA h' p ys ∧ KeptX (fun x => x = p) (325 * n + 2000) h h' ∧ RP 0 n xs ys ∧ SR leN 0 n ys := by
  obtain ⟨d, rfl, hd⟩ := dsucc hD
  have : ∃ v h', (GX (d + 1)).call 75 [.slc (some (p, 0)) n c, .int .i64 (Int.ofNat n), .func 40 []] h = .ok v h' ∧
      (v = .undef ∧ ∃ ys, XA h' p ys ∧ KeptX (fun x => x = p) (325 * n + 2000) h h' ∧ RP 0 n xs ys ∧ SR leN 0 n ys) := by
    refine call_run Tryz.func75 rfl rfl (Nat.le_of_ble_eq_true rfl) (by decide) ?_
    refine wRun_seq svx (by decide) ?_
    refine wRun_seq svx (by decide) ?_
    -- blocks of twenty
    refine wRun_mid (σ := Nat × List XD) (fun s => [(0, .slc (some (p, 0)) n c), (1, .int .i64 (Int.ofNat n)), (2, .func 40 []), (6, .int .i64 (Int.ofNat 20)), (7, .int .i64 (Int.ofNat (s.1 * 20)))])
      (fun s h1 => s.1 * 20 ≤ n ∧ n < s.1 * 20 + 20 ∧ XA h1 p s.2 ∧ KeptX (fun x => x = p) (100 * (s.1 * 20)) h h1 ∧ RP 0 n xs s.2 ∧ ∀ k, k < s.1 → SR leN (k * 20) (k * 20 + 20) s.2) ?_ ?_
    · refine wRun_block rfl ?_
      refine wLoopR (σ := Nat × List XD) (fun s => [(0, .slc (some (p, 0)) n c), (1, .int .i64 (Int.ofNat n)), (2, .func 40 []), (6, .int .i64 (Int.ofNat 20)), (7, .int .i64 (Int.ofNat (s.1 * 20))), (8, .int .i64 (Int.ofNat (s.1 * 20 + 20)))])
        (fun s h1 => s.1 * 20 ≤ n ∧ XA h1 p s.2 ∧ KeptX (fun x => x = p) (100 * (s.1 * 20)) h h1 ∧ RP 0 n xs s.2 ∧ ∀ k, k < s.1 → SR leN (k * 20) (k * 20 + 20) s.2)
        (fun s => n - s.1 * 20) (0, xs) (by rw [gN_fuel]; show n - 0 * 20 < 1000000; omega) ⟨rfl, rfl, rfl, rfl, rfl, rfl, trivial⟩ ⟨by simp, hX, KeptX.refl h, RP.refl (by omega) (by omega), fun k hk => absurd hk (Nat.not_lt_zero _)⟩ ?_
      rintro ⟨k, ys⟩ h1 ⟨hk, A1, K1, P1, S1⟩
      simp only at hk A1 K1 P1 S1
      have n1 := K1.few
      have hyl : ys.length = n := by rw [P1.len]; exact hxl
      refine wRun_mid (σ := Unit) (fun _ => [(0, .slc (some (p, 0)) n c), (1, .int .i64 (Int.ofNat n)), (2, .func 40 []), (6, .int .i64 (Int.ofNat 20)), (7, .int .i64 (Int.ofNat (k * 20))), (8, .int .i64 (Int.ofNat (k * 20 + 20)))])
        (fun _ h2 => h2 = h1 ∧ k * 20 + 20 ≤ n) ?_ ?_
      · refine wRun_of svx (by decide) ?_
        rintro (_ | _) c1
        · have : ¬ leI (Int.ofNat (k * 20 + 20)) (Int.ofNat n) = true := by rw [c1]; decide
          rw [leI_len] at this
          exact ⟨(k, ys), ⟨rfl, rfl, rfl, rfl, rfl, trivial⟩, hk, by simp; omega, A1, K1, P1, S1⟩
        · exact ⟨(), ⟨rfl, rfl, rfl, rfl, rfl, rfl, trivial⟩, rfl, leI_len.1 c1⟩
      rintro _ h2 ⟨rfl, hk2⟩
      refine wRun_block rfl ?_
      refine wRun_of svx (by decide) ?_
      have hsq : (k * 20 + 20 - k * 20) * (k * 20 + 20 - k * 20) = 400 := by rw [Nat.add_sub_cancel_left]
      obtain ⟨h3, zs, hc, A3, K3, P3, S3⟩ := insSort_x (D := d) (by omega) p c ys (k * 20) (k * 20 + 20) (by omega) (by omega) (by omega) h2 (by rw [hsq]; omega) A1
      rw [hyl] at hc
      rw [hsq] at K3
      refine ⟨_, _, hc, ?_⟩
      refine ⟨(k + 1, zs), by simp; omega, ⟨rfl, rfl, rfl, rfl, slot (by congr 1; show k * 20 + 20 = (k + 1) * 20; omega), slot ((add64 (a := k * 20 + 20) (b := 20) (by omega)).trans (by congr 1; show k * 20 + 20 + 20 = (k + 1) * 20 + 20; omega)), trivial⟩, by simp; omega, A3, (K1.trans K3).mono (fun _ _ h => h) (by simp; omega), P1.trans (P3.mono (by omega) (by omega) (by omega)), fun j hj => ?_⟩
      by_cases hjk : j = k
      · subst hjk; exact S3
      · have hj : j < k + 1 := hj
        exact (S1 j (by omega)).eq fun i hi1 hi2 => P3.out (.inl (by omega))
    rintro ⟨k, ys⟩ h1 ⟨hk, hk2, A1, K1, P1, S1⟩
    simp only at hk hk2 A1 K1 P1 S1
    have n1 := K1.few
    have hyl : ys.length = n := by rw [P1.len]; exact hxl
    -- the rest
    refine wRun_mid (σ := List XD) (fun _ => [(0, .slc (some (p, 0)) n c), (1, .int .i64 (Int.ofNat n)), (2, .func 40 []), (6, .int .i64 (Int.ofNat 20))])
      (fun zs h2 => XA h2 p zs ∧ KeptX (fun x => x = p) (100 * n + 2000) h h2 ∧ RP 0 n xs zs ∧ ∀ k, SR leN (k * 20) (min (k * 20 + 20) n) zs) ?_ ?_
    · refine wRun_of svx (by decide) ?_
      have hsq : (n - k * 20) * (n - k * 20) ≤ 20 * 20 := Nat.mul_le_mul (by omega) (by omega)
      obtain ⟨h3, zs, hc, A3, K3, P3, S3⟩ := insSort_x (D := d) (by omega) p c ys (k * 20) n (by omega) (by omega) (by omega) h1 (by omega) A1
      rw [hyl] at hc
      refine ⟨_, _, hc, ?_⟩
      refine ⟨zs, ⟨rfl, rfl, rfl, rfl, trivial⟩, A3, (K1.trans K3).mono (fun _ _ h => h) (by omega), P1.trans (P3.mono (by omega) (by omega) (by omega)), fun j => ?_⟩
      by_cases hj : j < k
      · exact ((S1 j hj).eq fun i hi1 hi2 => P3.out (.inl (by omega))).sub (Nat.le_refl _) (by omega)
      · exact S3.sub (by omega) (by omega)
    rintro zs h2 ⟨A2, K2, P2, S2⟩
    -- merging
    refine wRun_block rfl ?_
    refine wLoopR (σ := Nat × Nat × List XD) (fun s => [(0, .slc (some (p, 0)) n c), (1, .int .i64 (Int.ofNat n)), (2, .func 40 []), (6, .int .i64 (Int.ofNat s.2.1))])
      (fun s h3 => s.2.1 = 20 * 2 ^ s.1 ∧ s.1 ≤ 5 ∧ XA h3 p s.2.2 ∧ KeptX (fun x => x = p) (45 * n * s.1) h2 h3 ∧ RP 0 n xs s.2.2 ∧ ∀ k, SR leN (k * s.2.1) (min (k * s.2.1 + s.2.1) n) s.2.2)
      (fun s => n - s.2.1) (0, 20, zs) (by rw [gN_fuel]; show n - 20 < 1000000; omega) ⟨rfl, rfl, rfl, rfl, trivial⟩ ⟨rfl, by simp, A2, KeptX.refl h2, P2, S2⟩ ?_
    rintro ⟨t, bs, ys⟩ h3 ⟨hbs, ht, A3, K3, P3, S3⟩
    simp only at hbs ht A3 K3 P3 S3
    have n2 := K2.few
    have n3 := K3.few
    have hyl : ys.length = n := by rw [P3.len]; exact hxl
    have ht5 : 45 * n * t ≤ 45 * n * 5 := Nat.mul_le_mul_left _ ht
    have hbs0 : 20 ≤ bs := by rw [hbs]; have := Nat.one_le_two_pow (n := t); omega
    refine wRun_mid (σ := Unit) (fun _ => [(0, .slc (some (p, 0)) n c), (1, .int .i64 (Int.ofNat n)), (2, .func 40 []), (6, .int .i64 (Int.ofNat bs))]) (fun _ h4 => h4 = h3 ∧ bs < n) ?_ ?_
    · refine wRun_of svx (by decide) ?_
      rintro (_ | _) c1
      · have hge : n ≤ bs := natGe c1
        refine ⟨rfl, ys, A3, (K2.trans K3).mono (fun _ _ h => h) (by omega), P3, ?_⟩
        exact (S3 0).sub (by omega) (by omega)
      · exact ⟨(), ⟨rfl, rfl, rfl, rfl, trivial⟩, rfl, natLt c1⟩
    rintro _ h4 ⟨rfl, hbn⟩
    have ht4 : t ≤ 4 := by
      apply Classical.byContradiction
      intro hne
      have : t = 5 := by omega
      subst this
      omega
    have ht4' : 45 * n * t ≤ 45 * n * 4 := Nat.mul_le_mul_left _ ht4
    refine wRun_block rfl ?_
    refine wRun_seq svx (by decide) ?_
    refine wRun_mid (σ := Nat × List XD) (fun s => [(0, .slc (some (p, 0)) n c), (1, .int .i64 (Int.ofNat n)), (2, .func 40 []), (6, .int .i64 (Int.ofNat bs)), (7, .int .i64 (Int.ofNat (s.1 * (2 * bs))))])
      (fun s h5 => s.1 * (2 * bs) ≤ n ∧ n < s.1 * (2 * bs) + 2 * bs ∧ XA h5 p s.2 ∧ KeptX (fun x => x = p) (45 * (s.1 * (2 * bs))) h4 h5 ∧ RP 0 (s.1 * (2 * bs)) ys s.2 ∧ ∀ k, k < s.1 → SR leN (k * (2 * bs)) (k * (2 * bs) + 2 * bs) s.2) ?_ ?_
    · refine wRun_block rfl ?_
      refine wLoopR (σ := Nat × List XD) (fun s => [(0, .slc (some (p, 0)) n c), (1, .int .i64 (Int.ofNat n)), (2, .func 40 []), (6, .int .i64 (Int.ofNat bs)), (7, .int .i64 (Int.ofNat (s.1 * (2 * bs)))), (8, .int .i64 (Int.ofNat (s.1 * (2 * bs) + 2 * bs)))])
        (fun s h5 => s.1 * (2 * bs) ≤ n ∧ XA h5 p s.2 ∧ KeptX (fun x => x = p) (45 * (s.1 * (2 * bs))) h4 h5 ∧ RP 0 (s.1 * (2 * bs)) ys s.2 ∧ ∀ k, k < s.1 → SR leN (k * (2 * bs)) (k * (2 * bs) + 2 * bs) s.2)
        (fun s => n - s.1 * (2 * bs)) (0, ys) (by rw [gN_fuel]; show n - 0 * (2 * bs) < 1000000; omega) ⟨rfl, rfl, rfl, rfl, slot (by simp), slot ((mul2l (by omega)).trans (by simp)), trivial⟩
        ⟨by simp, A3, KeptX.refl h4, (by simp only [Nat.zero_mul]; exact RP.refl (Nat.le_refl _) (Nat.zero_le _)), fun k hk => absurd hk (Nat.not_lt_zero _)⟩ ?_
      rintro ⟨k, zs⟩ h5 ⟨hk, A5, K5, P5, S5⟩
      simp only at hk A5 K5 P5 S5
      have n5 := K5.few
      have hzl : zs.length = n := by rw [P5.len]; exact hyl
      have e1 : (2 * k) * bs = k * (2 * bs) := by rw [Nat.mul_comm 2 k, Nat.mul_assoc]
      have e2 : (2 * k + 1) * bs = k * (2 * bs) + bs := by rw [Nat.add_mul, e1, Nat.one_mul]
      have e3 : (k + 1) * (2 * bs) = k * (2 * bs) + 2 * bs := Nat.succ_mul _ _
      have s1 := S3 (2 * k)
      have s2 := S3 (2 * k + 1)
      rw [e1] at s1
      rw [e2] at s2
      refine wRun_mid (σ := Unit) (fun _ => [(0, .slc (some (p, 0)) n c), (1, .int .i64 (Int.ofNat n)), (2, .func 40 []), (6, .int .i64 (Int.ofNat bs)), (7, .int .i64 (Int.ofNat (k * (2 * bs)))), (8, .int .i64 (Int.ofNat (k * (2 * bs) + 2 * bs)))])
        (fun _ h6 => h6 = h5 ∧ k * (2 * bs) + 2 * bs ≤ n) ?_ ?_
      · refine wRun_of svx (by decide) ?_
        rintro (_ | _) c1
        · have : ¬ leI (Int.ofNat (k * (2 * bs) + 2 * bs)) (Int.ofNat n) = true := by rw [c1]; decide
          rw [leI_len] at this
          exact ⟨(k, zs), ⟨rfl, rfl, rfl, rfl, rfl, trivial⟩, hk, by simp; omega, A5, K5, P5, S5⟩
        · exact ⟨(), ⟨rfl, rfl, rfl, rfl, rfl, rfl, trivial⟩, rfl, leI_len.1 c1⟩
      rintro _ h6 ⟨rfl, hk2⟩
      refine wRun_block rfl ?_
      refine wRun_of svx (by decide) ?_
      have hcost : (k * (2 * bs) + 2 * bs - k * (2 * bs)) * 9 = 18 * bs := by rw [Nat.add_sub_cancel_left]; omega
      obtain ⟨v, h7, hc, rfl, ws, A7, K7, P7, S7⟩ := symMerge_x p c n (by omega) 9 d (k * (2 * bs)) (k * (2 * bs) + bs) (k * (2 * bs) + 2 * bs) zs h6 hzl (by omega) (by omega) hk2 (by rw [Nat.add_sub_cancel_left]; omega) (by omega) (by rw [hcost]; omega) A5
        ((s1.eq fun i h1 _ => P5.out (.inr h1)).sub (Nat.le_refl _) (by omega)) ((s2.eq fun i h1 _ => P5.out (.inr (by omega))).sub (Nat.le_refl _) (by omega))
      rw [hcost] at K7
      rw [← add64 (a := k * (2 * bs)) (b := bs) (by omega)] at hc
      refine ⟨_, _, hc, ?_⟩
      have hP : RP 0 (k * (2 * bs) + 2 * bs) ys ws := (P5.mono (Nat.le_refl _) (by omega) (by omega)).trans (P7.mono (by omega) (Nat.le_refl _) (by omega))
      refine ⟨(k + 1, ws), ?_, ⟨rfl, rfl, rfl, rfl, slot (congrArg Int.ofNat e3.symm), slot (?_), trivial⟩, ?_, A7, ?_, ?_, fun j hj => ?_⟩
      · show n - (k + 1) * (2 * bs) < n - k * (2 * bs); omega
      · rw [mul2l (by omega), add64 (by omega)]
        congr 1
        show k * (2 * bs) + 2 * bs + 2 * bs = (k + 1) * (2 * bs) + 2 * bs
        omega
      · show (k + 1) * (2 * bs) ≤ n; omega
      · refine (K5.trans K7).mono (fun _ _ h => h) ?_
        show _ ≤ 45 * ((k + 1) * (2 * bs)); omega
      · show RP 0 ((k + 1) * (2 * bs)) ys ws
        rw [e3]; exact hP
      · by_cases hjk : j = k
        · subst hjk; exact S7
        · have hj : j < k + 1 := hj
          have : (j + 1) * (2 * bs) ≤ k * (2 * bs) := Nat.mul_le_mul_right _ (by omega)
          rw [Nat.succ_mul] at this
          exact (S5 j (by omega)).eq fun i hi1 hi2 => P7.out (.inl (by omega))
    rintro ⟨k, zs⟩ h5 ⟨hk, hk2, A5, K5, P5, S5⟩
    simp only at hk hk2 A5 K5 P5 S5
    have n5 := K5.few
    have hzl : zs.length = n := by rw [P5.len]; exact hyl
    have e1 : (2 * k) * bs = k * (2 * bs) := by rw [Nat.mul_comm 2 k, Nat.mul_assoc]
    have e2 : (2 * k + 1) * bs = k * (2 * bs) + bs := by rw [Nat.add_mul, e1, Nat.one_mul]
    have s1 := (S3 (2 * k))
    have s2 := (S3 (2 * k + 1))
    rw [e1] at s1
    rw [e2] at s2
    have s1 : SR leN (k * (2 * bs)) (min (k * (2 * bs) + bs) n) zs := s1.eq fun i h1 _ => P5.out (.inr h1)
    have s2 : SR leN (k * (2 * bs) + bs) (min (k * (2 * bs) + bs + bs) n) zs := s2.eq fun i h1 _ => P5.out (.inr (by omega))
    refine wRun_mid (σ := List XD) (fun _ => [(0, .slc (some (p, 0)) n c), (1, .int .i64 (Int.ofNat n)), (2, .func 40 []), (6, .int .i64 (Int.ofNat bs))])
      (fun ws h6 => XA h6 p ws ∧ KeptX (fun x => x = p) (45 * n) h4 h6 ∧ RP 0 n ys ws ∧ ∀ j, SR leN (j * (2 * bs)) (min (j * (2 * bs) + 2 * bs) n) ws) ?_ ?_
    · refine wRun_seq svx (by decide) ?_
      refine wRun_of svx (by decide) ?_
      rintro (_ | _) c1
      · rw [add64 (a := k * (2 * bs)) (b := bs) (by omega)] at c1
        have hge := natGe c1
        refine ⟨zs, ⟨rfl, rfl, rfl, rfl, trivial⟩, A5, K5.mono (fun _ _ h => h) (by omega), P5.mono (Nat.le_refl _) hk (by omega), fun j => ?_⟩
        by_cases hj : j < k
        · exact (S5 j hj).sub (Nat.le_refl _) (by omega)
        · have : k * (2 * bs) ≤ j * (2 * bs) := Nat.mul_le_mul_right _ (by omega)
          exact s1.sub this (by omega)
      · rw [add64 (a := k * (2 * bs)) (b := bs) (by omega)] at c1
        have hlt := natLt c1
        have hcost : (n - k * (2 * bs)) * 9 ≤ 18 * bs := by omega
        obtain ⟨v, h7, hc, rfl, ws, A7, K7, P7, S7⟩ := symMerge_x p c n (by omega) 9 d (k * (2 * bs)) (k * (2 * bs) + bs) n zs h5 hzl (by omega) hlt (Nat.le_refl _) (by omega) (by omega) (by omega) A5
          (s1.sub (Nat.le_refl _) (by omega)) (s2.sub (Nat.le_refl _) (by omega))
        rw [← add64 (a := k * (2 * bs)) (b := bs) (by omega)] at hc
        refine ⟨_, _, hc, ?_⟩
        refine ⟨ws, ⟨rfl, rfl, rfl, rfl, trivial⟩, A7, (K5.trans K7).mono (fun _ _ h => h) (by omega), (P5.mono (Nat.le_refl _) hk (by omega)).trans (P7.mono (Nat.zero_le _) (Nat.le_refl _) (by omega)), fun j => ?_⟩
        by_cases hj : j < k
        · have : (j + 1) * (2 * bs) ≤ k * (2 * bs) := Nat.mul_le_mul_right _ (by omega)
          rw [Nat.succ_mul] at this
          exact ((S5 j hj).eq fun i hi1 hi2 => P7.out (.inl (by omega))).sub (Nat.le_refl _) (by omega)
        · have : k * (2 * bs) ≤ j * (2 * bs) := Nat.mul_le_mul_right _ (by omega)
          exact S7.sub this (by omega)
    rintro ws h6 ⟨A6, K6, P6, S6⟩
    refine wRun_of svx (by decide) ?_
    refine ⟨(t + 1, 2 * bs, ws), by simp; omega, ⟨rfl, rfl, rfl, slot (mul2r (by omega)), trivial⟩, ?_, by simp; omega, A6, ?_, P3.trans P6, S6⟩
    · show 2 * bs = 20 * 2 ^ (t + 1)
      rw [Nat.pow_succ, hbs]; omega
    · refine (K3.trans K6).mono (fun _ _ h => h) ?_
      show _ ≤ 45 * n * (t + 1)
      rw [Nat.mul_succ]; omega
  obtain ⟨v, h', h1, rfl, ys, h2⟩ := this
  exact ⟨h', ys, h1, h2⟩

set_option maxRecDepth 1000000 in
theorem sort_x (hD : 18 ≤ D) (p c : Nat) (xs : List XD) (n : Nat) (hxl : xs.length = n) (hn3 : n ≤ 360) (h : H) (hn : h.next + (325 * n + 2000) ≤ 1048576) (hX : XA h p xs) :
    ∃ h' ys, (GX D).call 39 [.slc (some (p, 0)) n c, .func 40 []] h = .ok .undef h' ∧ XA h' p ys ∧ KeptX (fun x => x = p) (325 * n + 2000) h h' ∧ RP 0 n xs ys ∧ SR leN 0 n ys := by
  obtain ⟨d, rfl, hd⟩ := dsucc hD
  have : ∃ v h', (GX (d + 1)).call 39 [.slc (some (p, 0)) n c, .func 40 []] h = .ok v h' ∧
      (v = .undef ∧ ∃ ys, XA h' p ys ∧ KeptX (fun x => x = p) (325 * n + 2000) h h' ∧ RP 0 n xs ys ∧ SR leN 0 n ys) := by
    refine call_w Tryz.func39 rfl ?_
    obtain ⟨h', ys, hc, h2⟩ := stable_x hd p c xs n hxl hn3 h hn hX
    refine ⟨_, _, hc, ?_⟩
    exact ⟨rfl, ys, h2⟩
  obtain ⟨v, h', h1, rfl, ys, h2⟩ := this
  exact ⟨h', ys, h1, h2⟩
end Go.Proofs
end
section
/- slices.Clone. -/
namespace Go.Proofs
open Go.Sim Go.SortL
variable {D : Nat}

theorem rows_read {k : Nat} {vs : List AVal} : ∀ {rows : List (List AVal)} {off : Nat}, (∀ i r, rows[i]? = some r → r.length = k ∧ takeX k (dropX (Nat.add off (Nat.mul i k)) vs) = some r) → takeX (Nat.mul rows.length k) (dropX off vs) = some rows.flatten
  | [], off, _ => by
    show takeX (Nat.mul 0 k) (dropX off vs) = some []
    rw [natMul, Nat.zero_mul, takeX_eq, if_pos (Nat.zero_le _), List.take_zero]
  | r :: rs, off, h => by
    have h0 := h 0 r rfl
    have ih := rows_read (rows := rs) (off := off + k) (fun i q hq => by
      have := h (i + 1) q (by simpa using hq)
      refine ⟨this.1, ?_⟩
      have e : Nat.add off (Nat.mul (i + 1) k) = Nat.add (off + k) (Nat.mul i k) := by simp only [natAdd, natMul, Nat.add_mul]; omega
      rw [← e]; exact this.2)
    rw [natMul, takeX_eq, dropX_eq] at ih ⊢
    have h1 := h0.2
    rw [natAdd, natMul, Nat.zero_mul, Nat.add_zero, takeX_eq, dropX_eq] at h1
    split at h1
    · rename_i hk
      split at ih
      · rename_i hr
        have ih := Option.some.inj ih
        have h1 := Option.some.inj h1
        have e : (r :: rs).length * k = k + rs.length * k := by rw [List.length_cons, Nat.succ_mul]; omega
        rw [e, if_pos (by simp only [List.length_drop] at *; omega), List.flatten_cons, ← h1, ← ih, ← List.drop_drop, ← List.take_add]
      · cases ih
    · cases h1

theorem slr_read {α : Type} {h : H} {k : Nat} {enc : α → List AVal} {a : SL} {n c : Nat} {xs : List α} (R : SlR h k enc a n xs) : readSl h k (.slc a n c) = some (n, (xs.map enc).flatten) := by
  obtain ⟨hn, R⟩ := R
  rcases R with h0 | ⟨b, off, vs, esz, opn, frz, pars, rfl, h2, h3, h4⟩
  · have : xs = [] := by simpa using h0
    subst this
    have : n = 0 := by simpa using hn.symm
    subst this
    cases a with
    | none => rfl
    | some p => rfl
  · cases n with
    | zero =>
      have : xs = [] := List.eq_nil_of_length_eq_zero hn
      subst this; rfl
    | succ n =>
      show sel (Nat.beq (n + 1) 0) (some (0, [])) (ob (cellsOf (h.get b)) (fun vs => ob (takeX (Nat.mul (n + 1) k) (dropX off vs)) (fun q => some (n + 1, q)))) = _
      rw [h3]
      have := rows_read (rows := xs.map enc) (fun i r hi => h4 i r hi)
      rw [List.length_map, hn] at this
      show ob (takeX (Nat.mul (n + 1) k) (dropX off vs)) (fun q => some (n + 1, q)) = _
      rw [this, ob_some]

theorem SlR.rowlen {α : Type} {k : Nat} {enc : α → List AVal} (hk : ∀ x, (enc x).length = k) {xs : List α} : ∀ r ∈ xs.map enc, r.length = k := fun r hr => by
  obtain ⟨x, _, rfl⟩ := List.mem_map.1 hr; exact hk x

theorem plains_app : ∀ {a b : List AVal}, plains a = true → plains b = true → plains (a ++ b) = true
  | [], _, _, h => h
  | x :: a, b, h1, h2 => by
    rw [plains_cons] at h1
    rw [List.cons_append, plains_cons]
    simp only [Bool.and_eq_true] at h1 ⊢
    exact ⟨h1.1, plains_app h1.2 h2⟩
theorem plains_flat {α : Type} {enc : α → List AVal} (hp : ∀ x, plains (enc x) = true) : ∀ (xs : List α), plains (xs.map enc).flatten = true
  | [] => rfl
  | x :: xs => by rw [List.map_cons, List.flatten_cons]; exact plains_app (hp x) (plains_flat hp xs)

/-- elements are appended to a closed block without any -/
theorem append_fresh {h : H} (hc : h.next < 1048576) {b sz bytes n : Nat} (hg : h.get b = some (.cells [] sz false false [])) {new : List AVal} (hn : n ≠ 0) (hl : new.length = n * sz) (hb1 : 1 ≤ bytes) (hb2 : bytes ≤ 1073741824) (hbig : n * bytes ≤ 1099511627776) :
    ∀ d x e kk, appendA d x e h kk sz bytes (some (b, 0)) 0 0 n new = (putF d).run (.slc (some (h.next, 0)) n n) x e (h.alloc (.cells new sz true false [])) kk := by
  intro d x e kk
  have q0 : Nat.beq n 0 = false := by rw [natBeq]; exact decide_eq_false hn
  have q1 : Nat.ble (Nat.mul (Nat.add 0 n) bytes) 1099511627776 = true := by rw [natBle, natMul, natAdd, Nat.zero_add]; exact decide_eq_true hbig
  have q2 : Nat.ble 1 bytes = true := by rw [natBle]; exact decide_eq_true hb1
  have q3 : Nat.ble bytes 1073741824 = true := by rw [natBle]; exact decide_eq_true hb2
  have q4 : Nat.beq (Sim.len new) (Nat.mul n sz) = true := by rw [natBeq, len_eq, natMul]; exact decide_eq_true hl
  have q5 : Nat.ble (Nat.add 0 n) 0 = false := by rw [natBle, natAdd]; exact decide_eq_false (by omega)
  show sel (Nat.beq n 0) _ (sel (Nat.ble (Nat.mul (Nat.add 0 n) bytes) 1099511627776 && Nat.ble 1 bytes && Nat.ble bytes 1073741824 && Nat.beq (Sim.len new) (Nat.mul n sz)) (appendB d x e h kk sz (some (b, 0)) 0 0 n new) .bad) = _
  rw [q0, q1, q2, q3, q4]
  show sel (Nat.ble (Nat.add 0 n) 0) _ (onCells (h.get b) _) = _
  rw [q5, hg]
  show ox (takeX (Nat.mul 0 sz) (dropX 0 [])) _ = _
  have q6 : takeX (Nat.mul 0 sz) (dropX 0 ([] : List AVal)) = some [] := by rw [natMul, Nat.zero_mul]; rfl
  rw [q6, ox_some]
  have q7 : closedEnd h sz (some (b, 0)) 0 = true := by
    show sel (Nat.ble amb 0) false (closedE sz 0 0 (h.get b)) = true
    rw [hg]; rfl
  rw [q7]
  show sel h.room _ _ = _
  rw [(room_iff h).2 hc]
  show (putF d).run (.slc (some (h.next, 0)) (Nat.add 0 n) (Nat.add 0 n)) x e _ kk = _
  rw [natAdd, Nat.zero_add]
  rfl

/-- a list of one's own: nothing, or a block that was not there, which may be written -/
structure OwnL {α : Type} (h0 h : H) (k : Nat) (enc : α → List AVal) (a : SL) (n c : Nat) (xs : List α) : Prop where
  len : xs.length = n
  cap : c = n
  blk : (a = none ∧ xs = []) ∨ ∃ b, a = some (b, 0) ∧ h0.next ≤ b ∧ Ary h b k (xs.map enc)

theorem OwnL.slr {α : Type} {h0 h : H} {k : Nat} {enc : α → List AVal} {a : SL} {n c : Nat} {xs : List α} (O : OwnL h0 h k enc a n c xs) : SlR h k enc a n xs := by
  refine ⟨O.len, ?_⟩
  rcases O.blk with ⟨rfl, rfl⟩ | ⟨b, rfl, _, A⟩
  · exact .inl rfl
  · exact A.rows

theorem sec22 : secondT CX [22, 22] = true := by kernel_rfl
theorem sec42 : secondT CX [42, 42] = true := by kernel_rfl
theorem sec45 : secondT CX [45, 45] = true := by kernel_rfl
theorem sec46 : secondT CX [46, 46] = true := by kernel_rfl

set_option maxRecDepth 1000000 in
set_option maxHeartbeats 1000000 in
theorem cloneEnts_x (hD : 1 ≤ D) (a : SL) (n c : Nat) (xs : List XD) (h : H) (hn : h.next + 2 ≤ 1048576) (hx : SlR h 63 XD.cells a n xs) (hF : n < 1000000) :
    ∃ h' a' c', (GX D).call 38 [.slc a n c] h = .ok (.slc a' n c') h' ∧ OwnL h h' 63 XD.cells a' n c' xs ∧ Kept 2 h h' := by
  obtain ⟨d, rfl, hd⟩ := dsucc hD
  have : ∃ v h', (GX (d + 1)).call 38 [.slc a n c] h = .ok v h' ∧ ∃ a' c', v = .slc a' n c' ∧ OwnL h h' 63 XD.cells a' n c' xs ∧ Kept 2 h h' := by
    refine call_w Tryz.func38 rfl ?_
    cases a with
    | none =>
      have h0 : xs = [] := by
        rcases hx.2 with h | ⟨b, off, _, _, _, _, _, h, _⟩
        · simpa using h
        · cases h
      subst h0
      have hn0 : n = 0 := hx.1.symm
      subst hn0
      rintro _ rfl
      exact ⟨none, 0, rfl, ⟨rfl, rfl, .inl ⟨rfl, rfl⟩⟩, Kept.refl h⟩
    | some p =>
      rintro _ rfl
      refine ⟨_, _, buildSl_run el22 rfl rfl (by decide) ((room_iff h).2 (by omega)), ?_⟩
      have K1 : Kept 1 h (h.alloc (.cells [] 63 false false [])) := Kept.alloc (by omega) _
      have g1 : (h.alloc (.cells [] 63 false false [])).get h.next = some (.cells [] 63 false false []) := alloc_get_new (by omega) _
      have n1 : (h.alloc (.cells [] 63 false false [])).next = h.next + 1 := alloc_next _ _
      have hr := slr_read (c := c) (hx.kept K1)
      cases hxs : xs with
      | nil =>
        have hn0 : n = 0 := by rw [← hx.1, hxs]; rfl
        subst hn0
        rw [hxs] at hr
        refine ⟨_, _, appF_run rfl rfl rfl el22 sec22 rfl rfl hr (append_zero (Nat.le_refl 0)), ?_⟩
        exact ⟨some (h.next, 0), 0, rfl, ⟨rfl, rfl, .inr ⟨h.next, rfl, Nat.le_refl _, by show h.next < (h.alloc (.cells [] 63 false false [])).next; rw [n1]; omega, ⟨false, g1⟩, fun r hr => by cases hr⟩⟩, K1.mono (by omega)⟩
      | cons x ys =>
        have hl : ((xs.map XD.cells).flatten).length = n * 63 := by rw [flatten_len (sz := 63) (SlR.rowlen (enc := XD.cells) fun _ => rfl), List.length_map, hx.1]
        have hn0 : n ≠ 0 := by rw [← hx.1, hxs]; simp
        have n2 : ((h.alloc (.cells [] 63 false false [])).alloc (.cells (xs.map XD.cells).flatten 63 true false [])).next = h.next + 2 := by rw [alloc_next, n1]
        refine ⟨_, _, appF_run rfl rfl rfl el22 sec22 rfl rfl hr (append_fresh (h := h.alloc (.cells [] 63 false false [])) (by rw [n1]; omega) g1 hn0 hl (by decide) (by decide) (by omega)), ?_⟩
        refine ⟨_, _, rfl, ⟨by rw [← hxs]; exact hx.1, rfl, .inr ⟨_, rfl, by rw [n1]; omega, ?_, ⟨true, ?_⟩, SlR.rowlen (enc := XD.cells) fun _ => rfl⟩⟩, K1.trans (Kept.alloc (by rw [n1]; omega) _)⟩
        · show _ < ((h.alloc (.cells [] 63 false false [])).alloc (.cells (xs.map XD.cells).flatten 63 true false [])).next
          rw [n2, n1]; omega
        · rw [← hxs]; exact alloc_get_new (by rw [n1]; omega) _
  obtain ⟨v, h', h1, a', c', rfl, h2, h3⟩ := this
  exact ⟨h', a', c', h1, h2, h3⟩

set_option maxRecDepth 1000000 in
set_option maxHeartbeats 1000000 in
theorem cloneInts_x (hD : 1 ≤ D) (a : SL) (n c : Nat) (xs : List Int) (h : H) (hn : h.next + 2 ≤ 1048576) (hx : SlR h 1 intC a n xs) (hF : n < 1000000) :
    ∃ h' a' c', (GX D).call 45 [.slc a n c] h = .ok (.slc a' n c') h' ∧ OwnL h h' 1 intC a' n c' xs ∧ Kept 2 h h' := by
  obtain ⟨d, rfl, hd⟩ := dsucc hD
  have : ∃ v h', (GX (d + 1)).call 45 [.slc a n c] h = .ok v h' ∧ ∃ a' c', v = .slc a' n c' ∧ OwnL h h' 1 intC a' n c' xs ∧ Kept 2 h h' := by
    refine call_w Tryz.func45 rfl ?_
    cases a with
    | none =>
      have h0 : xs = [] := by
        rcases hx.2 with h | ⟨b, off, _, _, _, _, _, h, _⟩
        · simpa using h
        · cases h
      subst h0
      have hn0 : n = 0 := hx.1.symm
      subst hn0
      rintro _ rfl
      exact ⟨none, 0, rfl, ⟨rfl, rfl, .inl ⟨rfl, rfl⟩⟩, Kept.refl h⟩
    | some p =>
      rintro _ rfl
      refine ⟨_, _, buildSl_run el42 rfl rfl (by decide) ((room_iff h).2 (by omega)), ?_⟩
      have K1 : Kept 1 h (h.alloc (.cells [] 1 false false [])) := Kept.alloc (by omega) _
      have g1 : (h.alloc (.cells [] 1 false false [])).get h.next = some (.cells [] 1 false false []) := alloc_get_new (by omega) _
      have n1 : (h.alloc (.cells [] 1 false false [])).next = h.next + 1 := alloc_next _ _
      have hr := slr_read (c := c) (hx.kept K1)
      cases hxs : xs with
      | nil =>
        have hn0 : n = 0 := by rw [← hx.1, hxs]; rfl
        subst hn0
        rw [hxs] at hr
        refine ⟨_, _, appF_run rfl rfl rfl el42 sec42 rfl rfl hr (append_zero (Nat.le_refl 0)), ?_⟩
        exact ⟨some (h.next, 0), 0, rfl, ⟨rfl, rfl, .inr ⟨h.next, rfl, Nat.le_refl _, by show h.next < (h.alloc (.cells [] 1 false false [])).next; rw [n1]; omega, ⟨false, g1⟩, fun r hr => by cases hr⟩⟩, K1.mono (by omega)⟩
      | cons x ys =>
        have hl : ((xs.map intC).flatten).length = n * 1 := by rw [flatten_len (sz := 1) (SlR.rowlen (enc := intC) fun _ => rfl), List.length_map, hx.1]
        have hn0 : n ≠ 0 := by rw [← hx.1, hxs]; simp
        have n2 : ((h.alloc (.cells [] 1 false false [])).alloc (.cells (xs.map intC).flatten 1 true false [])).next = h.next + 2 := by rw [alloc_next, n1]
        refine ⟨_, _, appF_run rfl rfl rfl el42 sec42 rfl rfl hr (append_fresh (h := h.alloc (.cells [] 1 false false [])) (by rw [n1]; omega) g1 hn0 hl (by decide) (by decide) (by omega)), ?_⟩
        refine ⟨_, _, rfl, ⟨by rw [← hxs]; exact hx.1, rfl, .inr ⟨_, rfl, by rw [n1]; omega, ?_, ⟨true, ?_⟩, SlR.rowlen (enc := intC) fun _ => rfl⟩⟩, K1.trans (Kept.alloc (by rw [n1]; omega) _)⟩
        · show _ < ((h.alloc (.cells [] 1 false false [])).alloc (.cells (xs.map intC).flatten 1 true false [])).next
          rw [n2, n1]; omega
        · rw [← hxs]; exact alloc_get_new (by rw [n1]; omega) _
  obtain ⟨v, h', h1, a', c', rfl, h2, h3⟩ := this
  exact ⟨h', a', c', h1, h2, h3⟩

set_option maxRecDepth 1000000 in
set_option maxHeartbeats 1000000 in
theorem cloneLegs_x (hD : 1 ≤ D) (a : SL) (n c : Nat) (xs : List LegV) (h : H) (hn : h.next + 2 ≤ 1048576) (hx : SlR h 8 LegV.cells a n xs) (hF : n < 1000000) :
    ∃ h' a' c', (GX D).call 46 [.slc a n c] h = .ok (.slc a' n c') h' ∧ OwnL h h' 8 LegV.cells a' n c' xs ∧ Kept 2 h h' := by
  obtain ⟨d, rfl, hd⟩ := dsucc hD
  have : ∃ v h', (GX (d + 1)).call 46 [.slc a n c] h = .ok v h' ∧ ∃ a' c', v = .slc a' n c' ∧ OwnL h h' 8 LegV.cells a' n c' xs ∧ Kept 2 h h' := by
    refine call_w Tryz.func46 rfl ?_
    cases a with
    | none =>
      have h0 : xs = [] := by
        rcases hx.2 with h | ⟨b, off, _, _, _, _, _, h, _⟩
        · simpa using h
        · cases h
      subst h0
      have hn0 : n = 0 := hx.1.symm
      subst hn0
      rintro _ rfl
      exact ⟨none, 0, rfl, ⟨rfl, rfl, .inl ⟨rfl, rfl⟩⟩, Kept.refl h⟩
    | some p =>
      rintro _ rfl
      refine ⟨_, _, buildSl_run el45 rfl rfl (by decide) ((room_iff h).2 (by omega)), ?_⟩
      have K1 : Kept 1 h (h.alloc (.cells [] 8 false false [])) := Kept.alloc (by omega) _
      have g1 : (h.alloc (.cells [] 8 false false [])).get h.next = some (.cells [] 8 false false []) := alloc_get_new (by omega) _
      have n1 : (h.alloc (.cells [] 8 false false [])).next = h.next + 1 := alloc_next _ _
      have hr := slr_read (c := c) (hx.kept K1)
      cases hxs : xs with
      | nil =>
        have hn0 : n = 0 := by rw [← hx.1, hxs]; rfl
        subst hn0
        rw [hxs] at hr
        refine ⟨_, _, appF_run rfl rfl rfl el45 sec45 rfl rfl hr (append_zero (Nat.le_refl 0)), ?_⟩
        exact ⟨some (h.next, 0), 0, rfl, ⟨rfl, rfl, .inr ⟨h.next, rfl, Nat.le_refl _, by show h.next < (h.alloc (.cells [] 8 false false [])).next; rw [n1]; omega, ⟨false, g1⟩, fun r hr => by cases hr⟩⟩, K1.mono (by omega)⟩
      | cons x ys =>
        have hl : ((xs.map LegV.cells).flatten).length = n * 8 := by rw [flatten_len (sz := 8) (SlR.rowlen (enc := LegV.cells) fun _ => rfl), List.length_map, hx.1]
        have hn0 : n ≠ 0 := by rw [← hx.1, hxs]; simp
        have n2 : ((h.alloc (.cells [] 8 false false [])).alloc (.cells (xs.map LegV.cells).flatten 8 true false [])).next = h.next + 2 := by rw [alloc_next, n1]
        refine ⟨_, _, appF_run rfl rfl rfl el45 sec45 rfl rfl hr (append_fresh (h := h.alloc (.cells [] 8 false false [])) (by rw [n1]; omega) g1 hn0 hl (by decide) (by decide) (by omega)), ?_⟩
        refine ⟨_, _, rfl, ⟨by rw [← hxs]; exact hx.1, rfl, .inr ⟨_, rfl, by rw [n1]; omega, ?_, ⟨true, ?_⟩, SlR.rowlen (enc := LegV.cells) fun _ => rfl⟩⟩, K1.trans (Kept.alloc (by rw [n1]; omega) _)⟩
        · show _ < ((h.alloc (.cells [] 8 false false [])).alloc (.cells (xs.map LegV.cells).flatten 8 true false [])).next
          rw [n2, n1]; omega
        · rw [← hxs]; exact alloc_get_new (by rw [n1]; omega) _
  obtain ⟨v, h', h1, a', c', rfl, h2, h3⟩ := this
  exact ⟨h', a', c', h1, h2, h3⟩

set_option maxRecDepth 1000000 in
set_option maxHeartbeats 1000000 in
theorem cloneOffs_x (hD : 1 ≤ D) (a : SL) (n c : Nat) (xs : List OffV) (h : H) (hn : h.next + 2 ≤ 1048576) (hx : SlR h 4 OffV.cells a n xs) (hF : n < 1000000) :
    ∃ h' a' c', (GX D).call 47 [.slc a n c] h = .ok (.slc a' n c') h' ∧ OwnL h h' 4 OffV.cells a' n c' xs ∧ Kept 2 h h' := by
  obtain ⟨d, rfl, hd⟩ := dsucc hD
  have : ∃ v h', (GX (d + 1)).call 47 [.slc a n c] h = .ok v h' ∧ ∃ a' c', v = .slc a' n c' ∧ OwnL h h' 4 OffV.cells a' n c' xs ∧ Kept 2 h h' := by
    refine call_w Tryz.func47 rfl ?_
    cases a with
    | none =>
      have h0 : xs = [] := by
        rcases hx.2 with h | ⟨b, off, _, _, _, _, _, h, _⟩
        · simpa using h
        · cases h
      subst h0
      have hn0 : n = 0 := hx.1.symm
      subst hn0
      rintro _ rfl
      exact ⟨none, 0, rfl, ⟨rfl, rfl, .inl ⟨rfl, rfl⟩⟩, Kept.refl h⟩
    | some p =>
      rintro _ rfl
      refine ⟨_, _, buildSl_run el46 rfl rfl (by decide) ((room_iff h).2 (by omega)), ?_⟩
      have K1 : Kept 1 h (h.alloc (.cells [] 4 false false [])) := Kept.alloc (by omega) _
      have g1 : (h.alloc (.cells [] 4 false false [])).get h.next = some (.cells [] 4 false false []) := alloc_get_new (by omega) _
      have n1 : (h.alloc (.cells [] 4 false false [])).next = h.next + 1 := alloc_next _ _
      have hr := slr_read (c := c) (hx.kept K1)
      cases hxs : xs with
      | nil =>
        have hn0 : n = 0 := by rw [← hx.1, hxs]; rfl
        subst hn0
        rw [hxs] at hr
        refine ⟨_, _, appF_run rfl rfl rfl el46 sec46 rfl rfl hr (append_zero (Nat.le_refl 0)), ?_⟩
        exact ⟨some (h.next, 0), 0, rfl, ⟨rfl, rfl, .inr ⟨h.next, rfl, Nat.le_refl _, by show h.next < (h.alloc (.cells [] 4 false false [])).next; rw [n1]; omega, ⟨false, g1⟩, fun r hr => by cases hr⟩⟩, K1.mono (by omega)⟩
      | cons x ys =>
        have hl : ((xs.map OffV.cells).flatten).length = n * 4 := by rw [flatten_len (sz := 4) (SlR.rowlen (enc := OffV.cells) fun _ => rfl), List.length_map, hx.1]
        have hn0 : n ≠ 0 := by rw [← hx.1, hxs]; simp
        have n2 : ((h.alloc (.cells [] 4 false false [])).alloc (.cells (xs.map OffV.cells).flatten 4 true false [])).next = h.next + 2 := by rw [alloc_next, n1]
        refine ⟨_, _, appF_run rfl rfl rfl el46 sec46 rfl rfl hr (append_fresh (h := h.alloc (.cells [] 4 false false [])) (by rw [n1]; omega) g1 hn0 hl (by decide) (by decide) (by omega)), ?_⟩
        refine ⟨_, _, rfl, ⟨by rw [← hxs]; exact hx.1, rfl, .inr ⟨_, rfl, by rw [n1]; omega, ?_, ⟨true, ?_⟩, SlR.rowlen (enc := OffV.cells) fun _ => rfl⟩⟩, K1.trans (Kept.alloc (by rw [n1]; omega) _)⟩
        · show _ < ((h.alloc (.cells [] 4 false false [])).alloc (.cells (xs.map OffV.cells).flatten 4 true false [])).next
          rw [n2, n1]; omega
        · rw [← hxs]; exact alloc_get_new (by rw [n1]; omega) _
  obtain ⟨v, h', h1, a', c', rfl, h2, h3⟩ := this
  exact ⟨h', a', c', h1, h2, h3⟩
end Go.Proofs
end
section
/- slices.CompactFunc over entries. -/
namespace Go.Proofs
open Go.Sim Go.SortL
variable {D : Nat}

def SameN (x y : XD) : Prop := x.v = y.v ∧ x.l = y.l
open Classical in
/-- the elements of a list but for those that have the name of the one ahead of them -/
noncomputable def ddx (xs : List XD) : Nat → List XD
  | 0 => []
  | n + 1 => ddx xs n ++ (match xs[n]? with
    | some x => if n = 0 then [x] else match xs[n - 1]? with
      | some y => if SameN x y then [] else [x]
      | none => []
    | none => [])

theorem ddx_keep {xs : List XD} {n : Nat} {x y : XD} (hx : xs[n]? = some x) (hn : n ≠ 0) (hy : xs[n - 1]? = some y) (h : ¬ SameN x y) : ddx xs (n + 1) = ddx xs n ++ [x] := by
  simp only [ddx, hx, if_neg hn, hy, if_neg h]
theorem ddx_drop {xs : List XD} {n : Nat} {x y : XD} (hx : xs[n]? = some x) (hn : n ≠ 0) (hy : xs[n - 1]? = some y) (h : SameN x y) : ddx xs (n + 1) = ddx xs n := by
  simp only [ddx, hx, if_neg hn, hy, if_pos h, List.append_nil]
theorem ddx_zero {xs : List XD} {x : XD} (hx : xs[0]? = some x) : ddx xs 1 = [x] := by
  simp only [ddx, hx, if_pos, List.nil_append]
theorem ddx_len {xs : List XD} : ∀ n, (ddx xs n).length ≤ n
  | 0 => Nat.le_refl _
  | n + 1 => by
    have := ddx_len (xs := xs) n
    simp only [ddx, List.length_append]
    split
    · split
      · simp; omega
      · split
        · split <;> simp <;> omega
        · simp; omega
    · simp; omega

theorem slice_from {h : H} {p n c i : Nat} {xs : List XD} (hX : XA h p xs) (hc : i < c) (hn : i ≤ n) (hnc : n ≤ c) :
    sliceA h 63 (some (p, 0)) n c (some (Int.ofNat i)) none none = some (.slc (some (p, Nat.add 0 (Nat.mul i 63))) (Nat.sub n i) (Nat.sub c i)) := by
  have hb : bounds2 n c (some (Int.ofNat i)) none = some (i, n) := by
    show ob (sel (Nat.ble i n) (some i) none) (fun q => some (q, n)) = _
    rw [natBle, decide_eq_true hn]
  show ob (bounds2 n c (some (Int.ofNat i)) none) (fun p' => slice2 h 63 (some (p, 0)) c p'.1 p'.2) = _
  rw [hb]
  show sel (Nat.beq c i) _ (sel (Nat.ble i c && eszOk h 63 (some (p, 0))) _ none) = _
  have q1 : Nat.beq c i = false := by rw [natBeq]; exact decide_eq_false (by omega)
  have q2 : Nat.ble i c = true := by rw [natBle]; exact decide_eq_true (by omega)
  have q3 : eszOk h 63 (some (p, 0)) = true := by
    obtain ⟨opn, hg⟩ := hX.blk
    have : eszE 63 (some (AObj.cells (xs.map XD.cells).flatten 63 opn false [])) = true := by cases opn <;> rfl
    rw [← hg] at this; exact this
  rw [q1, q2, q3]
  rfl

theorem slice_to {h : H} {p n c i : Nat} {xs : List XD} (hX : XA h p xs) (hc : 0 < c) (hi : i ≤ c) :
    sliceA h 63 (some (p, 0)) n c none (some (Int.ofNat i)) none = some (.slc (some (p, 0)) i c) := by
  have hb : bounds2 n c none (some (Int.ofNat i)) = some (0, i) := by
    show ob (sel (Nat.ble i c) (some i) none) (fun h => some (0, h)) = _
    rw [natBle, decide_eq_true hi]
  show ob (bounds2 n c none (some (Int.ofNat i))) (fun p' => slice2 h 63 (some (p, 0)) c p'.1 p'.2) = _
  rw [hb]
  show sel (Nat.beq c 0) _ (sel (Nat.ble 0 c && eszOk h 63 (some (p, 0))) _ none) = _
  have q1 : Nat.beq c 0 = false := by rw [natBeq]; exact decide_eq_false (by omega)
  have q2 : Nat.ble 0 c = true := by rw [natBle]; exact decide_eq_true (by omega)
  have q3 : eszOk h 63 (some (p, 0)) = true := by
    obtain ⟨opn, hg⟩ := hX.blk
    have : eszE 63 (some (AObj.cells (xs.map XD.cells).flatten 63 opn false [])) = true := by cases opn <;> rfl
    rw [← hg] at this; exact this
  rw [q1, q2, q3]
  rfl

/-- the first elements of a block -/
theorem XA.front {h : H} {p : Nat} {xs : List XD} (A : XA h p xs) {ys zs : List XD} (e : xs = ys ++ zs) : SlR h 63 XD.cells (some (p, 0)) ys.length ys := by
  subst e
  refine ⟨rfl, ?_⟩
  rcases A.rows with h0 | ⟨b, off, vs, esz, opn, frz, pars, h1, h2, h3, h4⟩
  · have : ys = [] := by
      have h0 : (ys ++ zs).map XD.cells = [] := h0
      simp at h0; exact h0.1
    subst this; exact .inl rfl
  · refine .inr ⟨b, off, vs, esz, opn, frz, pars, h1, h2, h3, fun i r hr => h4 i r ?_⟩
    rw [List.map_append, List.getElem?_append_left (List.getElem?_eq_some_iff.1 hr).1]
    exact hr

theorem putX_tail {A B C : List AVal} {k : Nat} (hA : A.length = k) (hBC : C.length = B.length) : putX (Nat.add 0 k) C (A ++ B) = some (A ++ C) := by
  rw [natAdd, Nat.zero_add, putX_eq, if_pos (by rw [List.length_append]; omega), ← hA, List.take_left, hBC, ← List.length_append, List.drop_length, List.append_nil]

theorem tail_get {ys xs : List XD} {j : Nat} (h : ys.length ≤ j) : (ys ++ xs.drop ys.length)[j]? = xs[j]? := by
  rw [List.getElem?_append_right h, List.getElem?_drop]; congr 1; omega

theorem plains_rep : ∀ m, plains (rep zXC m) = true
  | 0 => rfl
  | m + 1 => by rw [rep_succ]; exact plains_app rfl (plains_rep m)

def zX : XD := ⟨0, 0, ⟨zE, [], [], []⟩⟩
theorem zX_cells : zX.cells = zXC := rfl
theorem rep_flat : ∀ (k : Nat), rep zXC k = ((List.replicate k zX).map XD.cells).flatten
  | 0 => rfl
  | k + 1 => by rw [rep_succ, rep_flat k, List.replicate_succ, List.map_cons, List.flatten_cons, zX_cells]

set_option maxRecDepth 1000000 in
set_option maxHeartbeats 1000000 in
theorem compact_x (hD : 2 ≤ D) (p : Nat) (xs : List XD) (n : Nat) (hxl : xs.length = n) (hF : n < 100000) (h : H) (hn : h.next + 2 * n ≤ 1048576) (hX : XA h p xs) :
    ∃ h', (GX D).call 43 [.slc (some (p, 0)) n n, .func 44 []] h = .ok (.slc (some (p, 0)) (ddx xs n).length n) h' ∧ SlR h' 63 XD.cells (some (p, 0)) (ddx xs n).length (ddx xs n) ∧ KeptX (fun x => x = p) (2 * n) h h' := by
  obtain ⟨d, rfl, hd⟩ := dsucc hD
  have : ∃ v h', (GX (d + 1)).call 43 [.slc (some (p, 0)) n n, .func 44 []] h = .ok v h' ∧ (v = .slc (some (p, 0)) (ddx xs n).length n ∧ SlR h' 63 XD.cells (some (p, 0)) (ddx xs n).length (ddx xs n) ∧ KeptX (fun x => x = p) (2 * n) h h') := by
    refine call_run Tryz.func43 rfl rfl (Nat.le_of_ble_eq_true rfl) (by decide) ?_
    refine wRun_seq svx (by decide) ?_
    refine wRun_mid (σ := Unit) (fun _ => [(0, .slc (some (p, 0)) n n), (1, .func 44 [])]) (fun _ h1 => h1 = h ∧ 2 ≤ n) ?_ ?_
    · refine wRun_of svx (by decide) ?_
      rintro (_ | _) c1
      · exact ⟨(), ⟨rfl, rfl, trivial⟩, rfl, natGe c1⟩
      · have hlt : n < 2 := natLt c1
        have hdd : ddx xs n = xs := by
          cases hn0 : n with
          | zero =>
            have : xs = [] := List.eq_nil_of_length_eq_zero (by omega)
            subst this; rfl
          | succ m =>
            have : m = 0 := by omega
            subst this
            obtain ⟨x, rfl⟩ := List.length_eq_one_iff.1 (hxl.trans hn0)
            exact ddx_zero rfl
        rw [hdd, hxl]
        exact ⟨rfl, hxl ▸ hX.front (List.append_nil xs).symm, KeptX.refl h⟩
    rintro _ h1 ⟨rfl, hn2⟩
    refine wRun_mid (σ := Unit) (fun _ => [(0, .slc (some (p, 0)) n n)]) (fun _ h2 => KeptX (fun x => x = p) (2 * n) h1 h2 ∧ ddx xs n = xs ∧ XA h2 p xs) ?_ ?_
    · refine wRun_seq svx (by decide) ?_
      refine wRun_block rfl ?_
      refine wLoopR (σ := Nat) (fun i => [(0, .slc (some (p, 0)) n n), (1, .func 44 []), (5, .int .i64 (Int.ofNat i))]) (fun i h2 => 1 ≤ i ∧ i ≤ n ∧ Kept (2 * i) h1 h2 ∧ ddx xs i = xs.take i) (fun i => n - i) 1
        (by rw [gN_fuel]; show n - 1 < 1000000; omega) ⟨rfl, rfl, rfl, trivial⟩ ⟨Nat.le_refl _, by omega, Kept.refl h1, ?_⟩ ?_
      · obtain ⟨x, hx⟩ : ∃ x, xs[0]? = some x := ⟨_, List.getElem?_eq_getElem (by omega)⟩
        rw [ddx_zero hx]
        cases xs with
        | nil => simp at hx
        | cons y r => simp at hx; subst hx; rfl
      rintro i h2 ⟨hi1, hi2, K2, hdd⟩
      have n2 := K2.few
      have X2 := Ary.kept K2 hX
      refine wRun_mid (σ := Unit) (fun _ => [(0, .slc (some (p, 0)) n n), (1, .func 44 []), (5, .int .i64 (Int.ofNat i))]) (fun _ h3 => h3 = h2 ∧ i < n) ?_ ?_
      · refine wRun_of svx (by decide) ?_
        rintro (_ | _) c1
        · have : i = n := by have := natGe c1; omega
          subst this
          rw [List.take_of_length_le (by omega)] at hdd
          exact ⟨(), ⟨rfl, trivial⟩, K2.toX, hdd, X2⟩
        · exact ⟨(), ⟨rfl, rfl, rfl, trivial⟩, rfl, natLt c1⟩
      rintro _ h3 ⟨rfl, hin⟩
      obtain ⟨x, hx⟩ : ∃ x, xs[i]? = some x := ⟨_, List.getElem?_eq_getElem (by omega)⟩
      obtain ⟨y, hy⟩ : ∃ y, xs[i - 1]? = some y := ⟨_, List.getElem?_eq_getElem (by omega)⟩
      refine wRun_mid (σ := Unit) (fun _ => [(0, .slc (some (p, 0)) n n), (1, .func 44 []), (5, .int .i64 (Int.ofNat i))]) (fun _ h4 => Kept 2 h3 h4 ∧ ¬ SameN x y) ?_ ?_
      · refine wRun_block rfl ?_
        refine wRun_mid (σ := Bool) (fun b => [(0, .slc (some (p, 0)) n n), (1, .func 44 []), (5, .int .i64 (Int.ofNat i)), (28, .bool b)]) (fun b h4 => Kept 2 h3 h4 ∧ (b = true ↔ SameN x y)) ?_ ?_
        · refine wRun_of svx (by decide) ?_
          refine ⟨i, rfl, hin, _, XA.ld X2 hx rfl (by decide) (by decide), i - 1, sub1 (by omega) (by omega), by omega, _, XA.ld X2 hy rfl (by decide) (by decide), ?_⟩
          obtain ⟨r, h4, hc, K4, ir⟩ := sameName_x (D := d) (by omega) x y h3 (by omega)
          refine ⟨_, _, hc, ?_⟩
          rintro _ rfl
          exact ⟨r, ⟨rfl, rfl, rfl, rfl, trivial⟩, K4, ir⟩
        rintro b h4 ⟨K4, ib⟩
        have n4 := K4.few
        refine wRun_cond (t := b) rfl (fun hb => ?_) (fun hb => ?_)
        · have hsame := ib.1 hb
          have X4 := Ary.kept K4 X2
          have hd1 : ddx xs (i + 1) = xs.take i := by rw [ddx_drop hx (by omega) hy hsame, hdd]
          refine wRun_seq svx (by decide) ?_
          refine ⟨_, slice_from X4 hin (by omega) (Nat.le_refl n), ?_⟩
          refine wRun_mid (σ := Unit) (fun _ => [(0, .slc (some (p, 0)) n n), (5, .int .i64 (Int.ofNat (ddx xs n).length))]) (fun _ h5 => (ddx xs n).length < n ∧ XA h5 p (ddx xs n ++ xs.drop (ddx xs n).length) ∧ KeptX (fun x => x = p) (2 * (n - i - 1)) h4 h5) ?_ ?_
          · refine wRun_seq svx (by decide) ?_
            refine wRun_block rfl ?_
            refine wLoopR (σ := Nat) (fun k => [(0, .slc (some (p, 0)) n n), (1, .func 44 []), (6, .slc (some (p, Nat.add 0 (Nat.mul i 63))) (Nat.sub n i) (Nat.sub n i)), (5, .int .i64 (Int.ofNat (ddx xs (i + k)).length)), (7, .int .i64 (Int.ofNat k))])
              (fun k h5 => 1 ≤ k ∧ i + k ≤ n ∧ XA h5 p (ddx xs (i + k) ++ xs.drop (ddx xs (i + k)).length) ∧ KeptX (fun x => x = p) (2 * (k - 1)) h4 h5 ∧ (ddx xs (i + k)).length < i + k) (fun k => n - i - k) 1
              (by rw [gN_fuel]; show n - i - 1 < 1000000; omega) ⟨rfl, rfl, rfl, by rw [hd1, List.length_take, hxl, Nat.min_eq_left (by omega)]; rfl, rfl, trivial⟩
              ⟨Nat.le_refl _, by omega, by rw [hd1, List.length_take, hxl, Nat.min_eq_left (by omega), List.take_append_drop]; exact X4, KeptX.refl h4, by rw [hd1, List.length_take]; omega⟩ ?_
            rintro k h5 ⟨hk1, hk2, X5, K5, hlen⟩
            have n5 := K5.few
            have hcl : (ddx xs (i + k) ++ xs.drop (ddx xs (i + k)).length).length = n := by rw [List.length_append, List.length_drop, hxl]; omega
            refine wRun_mid (σ := Unit) (fun _ => [(0, .slc (some (p, 0)) n n), (1, .func 44 []), (6, .slc (some (p, Nat.add 0 (Nat.mul i 63))) (Nat.sub n i) (Nat.sub n i)), (5, .int .i64 (Int.ofNat (ddx xs (i + k)).length)), (7, .int .i64 (Int.ofNat k))]) (fun _ h6 => h6 = h5 ∧ k < n - i) ?_ ?_
            · refine wRun_of svx (by decide) ?_
              rintro (_ | _) c2
              · have hge : n - i ≤ k := natGe c2
                have : i + k = n := by omega
                rw [this] at X5 hlen ⊢
                exact ⟨(), ⟨rfl, rfl, trivial⟩, hlen, X5, K5.mono (fun _ _ h => h) (by omega)⟩
              · have hlt : k < n - i := natLt c2
                exact ⟨(), ⟨rfl, rfl, rfl, rfl, rfl, trivial⟩, rfl, hlt⟩
            rintro _ h6 ⟨rfl, hkn⟩
            obtain ⟨u, hu⟩ : ∃ u, xs[i + k]? = some u := ⟨_, List.getElem?_eq_getElem (by omega)⟩
            obtain ⟨w, hw⟩ : ∃ w, xs[i + k - 1]? = some w := ⟨_, List.getElem?_eq_getElem (by omega)⟩
            have gu := (tail_get (ys := ddx xs (i + k)) (xs := xs) (j := i + k) (by omega)).trans hu
            have gw := (tail_get (ys := ddx xs (i + k)) (xs := xs) (j := i + k - 1) (by omega)).trans hw
            have a1 : Nat.add (Nat.add 0 (Nat.mul i 63)) (Nat.mul k 63) = Nat.add 0 (Nat.mul (i + k) 63) := by simp only [natAdd, natMul]; omega
            have a2 : Nat.add (Nat.add 0 (Nat.mul i 63)) (Nat.mul (k - 1) 63) = Nat.add 0 (Nat.mul (i + k - 1) 63) := by simp only [natAdd, natMul]; omega
            have lu : loadP h6 true 63 (.ptr (some (p, Nat.add (Nat.add 0 (Nat.mul i 63)) (Nat.mul k 63)))) = some (.agg u.cells) := by rw [a1]; exact X5.ld gu rfl (by decide) (by decide)
            have lw : loadP h6 true 63 (.ptr (some (p, Nat.add (Nat.add 0 (Nat.mul i 63)) (Nat.mul (k - 1) 63)))) = some (.agg w.cells) := by rw [a2]; exact X5.ld gw rfl (by decide) (by decide)
            refine wRun_mid (σ := Unit) (fun _ => [(0, .slc (some (p, 0)) n n), (1, .func 44 []), (6, .slc (some (p, Nat.add 0 (Nat.mul i 63))) (Nat.sub n i) (Nat.sub n i)), (5, .int .i64 (Int.ofNat (ddx xs (i + k + 1)).length)), (7, .int .i64 (Int.ofNat k))])
              (fun _ h7 => XA h7 p (ddx xs (i + k + 1) ++ xs.drop (ddx xs (i + k + 1)).length) ∧ KeptX (fun x => x = p) 2 h6 h7 ∧ (ddx xs (i + k + 1)).length < i + k + 1) ?_ ?_
            · refine wRun_block rfl ?_
              refine wRun_mid (σ := Bool) (fun b => [(0, .slc (some (p, 0)) n n), (1, .func 44 []), (6, .slc (some (p, Nat.add 0 (Nat.mul i 63))) (Nat.sub n i) (Nat.sub n i)), (5, .int .i64 (Int.ofNat (ddx xs (i + k)).length)), (7, .int .i64 (Int.ofNat k)), (49, .bool b)])
                (fun b h7 => Kept 2 h6 h7 ∧ (b = false ↔ SameN u w)) ?_ ?_
              · refine wRun_of svx (by decide) ?_
                refine ⟨k, rfl, hkn, _, lu, k - 1, sub1 (by omega) (by omega), (by show k - 1 < n - i; omega), _, lw, ?_⟩
                obtain ⟨r, h7, hc, K7, ir⟩ := sameName_x (D := d) (by omega) u w h6 (by omega)
                refine ⟨_, _, hc, ?_⟩
                rintro _ rfl
                exact ⟨!r, ⟨rfl, rfl, rfl, rfl, rfl, rfl, trivial⟩, K7, by rw [← show (r = true ↔ SameN u w) from ir]; cases r <;> simp⟩
              rintro b2 h7 ⟨K7, ib2⟩
              have n7 := K7.few
              have X7 := Ary.kept K7 X5
              refine wRun_cond (t := b2) rfl (fun hb2 => ?_) (fun hb2 => ?_)
              · have hne : ¬ SameN u w := fun hh => by rw [ib2.2 hh] at hb2; cases hb2
                have hkeep : ddx xs (i + k + 1) = ddx xs (i + k) ++ [u] := ddx_keep hu (by omega) hw hne
                have hset : (ddx xs (i + k) ++ xs.drop (ddx xs (i + k)).length).set (ddx xs (i + k)).length u = ddx xs (i + k + 1) ++ xs.drop (ddx xs (i + k + 1)).length := by
                  rw [List.set_append, if_neg (Nat.lt_irrefl _), Nat.sub_self, hkeep, List.length_append]
                  obtain ⟨z, hz⟩ : ∃ z, xs[(ddx xs (i + k)).length]? = some z := ⟨_, List.getElem?_eq_getElem (by omega)⟩
                  obtain ⟨hz1, hz2⟩ := List.getElem?_eq_some_iff.1 hz
                  rw [List.drop_eq_getElem_cons hz1, List.set_cons_zero]
                  simp
                refine wRun_of svx (by decide) ?_
                have lu' : loadP h7 true 63 (.ptr (some (p, Nat.add (Nat.add 0 (Nat.mul i 63)) (Nat.mul k 63)))) = some (.agg u.cells) := by rw [a1]; exact XA.ld X7 gu rfl (by decide) (by decide)
                refine ⟨k, rfl, hkn, _, lu', (ddx xs (i + k)).length, rfl, by omega, rfl, ?_⟩
                obtain ⟨vs, esz, opn, pars, vs', e1, e2, e3, e4⟩ := XA.set (by omega) X7 (i := (ddx xs (i + k)).length) (by omega) u
                refine ⟨vs, esz, opn, pars, vs', e1, e2, e3, ?_⟩
                intro h8 hh8
                obtain ⟨A8, K8⟩ := e4 h8 hh8
                rw [hset] at A8
                refine ⟨(), ⟨rfl, rfl, rfl, ?_, rfl, trivial⟩, A8, K7.toX.trans K8, by rw [hkeep, List.length_append]; simp; omega⟩
                exact slot ((add64 (a := (ddx xs (i + k)).length) (b := 1) (by omega)).trans (by rw [hkeep, List.length_append]; rfl))
              · have hs2 := ib2.1 hb2
                have hdrop : ddx xs (i + k + 1) = ddx xs (i + k) := ddx_drop hu (by omega) hw hs2
                refine wRun_of svx (by decide) ?_
                rw [hdrop]
                exact ⟨(), ⟨rfl, rfl, rfl, rfl, rfl, trivial⟩, X7, K7.toX, by omega⟩
            rintro _ h7 ⟨X7, K7, hl7⟩
            refine wRun_of svx (by decide) ?_
            exact ⟨k + 1, by omega, ⟨rfl, rfl, rfl, rfl, slot (add64 (a := k) (b := 1) (by omega)), trivial⟩, by omega, by omega, X7, (K5.trans K7).mono (fun _ _ h => h) (by omega), hl7⟩
          rintro _ h5 ⟨hl5, X5, K5⟩
          have n5 := K5.few
          obtain ⟨opn, hg⟩ := X5.blk
          refine wRun_of svx (by decide) ?_
          refine ⟨_, slice_from X5 hl5 (by omega) (Nat.le_refl n), ?_⟩
          have hput : putX (Nat.add 0 (Nat.mul (ddx xs n).length 63)) (rep zXC (n - (ddx xs n).length)) ((ddx xs n ++ xs.drop (ddx xs n).length).map XD.cells).flatten = some ((ddx xs n ++ List.replicate (n - (ddx xs n).length) zX).map XD.cells).flatten := by
            rw [List.map_append, List.flatten_append, List.map_append, List.flatten_append, rep_flat]
            refine putX_tail ?_ ?_
            · rw [flatten_len (sz := 63) XA.rowlen, List.length_map]; rfl
            · rw [flatten_len (sz := 63) XA.rowlen, flatten_len (sz := 63) XA.rowlen, List.length_map, List.length_map, List.length_replicate, List.length_drop, hxl]
          refine ⟨_, _, clear_run rfl rfl rfl el22 rfl (by show n - (ddx xs n).length ≠ 0; omega) hg (plains_rep _) hput, ?_⟩
          have hX6 : XA (h5.setO p (.cells ((ddx xs n ++ List.replicate (n - (ddx xs n).length) zX).map XD.cells).flatten 63 opn false [])) p (ddx xs n ++ List.replicate (n - (ddx xs n).length) zX) :=
            ⟨by rw [Sim.setO_next]; exact X5.lt, ⟨opn, Sim.setO_self (by omega) X5.lt _⟩, XA.rowlen⟩
          have K6 := KeptX.setO (by omega) X5.lt (.cells ((ddx xs n ++ List.replicate (n - (ddx xs n).length) zX).map XD.cells).flatten 63 opn false [])
          refine ⟨_, slice_to hX6 (by omega) (by omega), ?_⟩
          refine ⟨rfl, hX6.front rfl, ((((K2.trans K4).toX.trans K5)).trans K6).mono (fun _ _ h => h) (by omega)⟩
        · refine wRun_of svx (by decide) ?_
          exact ⟨(), ⟨rfl, rfl, rfl, trivial⟩, K4, fun hh => by rw [ib.2 hh] at hb; cases hb⟩
      rintro _ h4 ⟨K4, hne⟩
      refine wRun_of svx (by decide) ?_
      refine ⟨i + 1, by omega, ⟨rfl, rfl, slot (add64 (a := i) (b := 1) (by omega)), trivial⟩, by omega, by omega, (K2.trans K4).mono (by omega), ?_⟩
      rw [ddx_keep hx (by omega) hy hne, hdd, List.take_add_one, hx]; rfl
    rintro _ h2 ⟨K2, hdd, X2⟩
    refine wRun_of svx (by decide) ?_
    rw [hdd, hxl]
    exact ⟨rfl, hxl ▸ X2.front (List.append_nil xs).symm, K2⟩
  obtain ⟨v, h', h1, rfl, h2⟩ := this
  exact ⟨h', h1, h2⟩
end Go.Proofs
end
