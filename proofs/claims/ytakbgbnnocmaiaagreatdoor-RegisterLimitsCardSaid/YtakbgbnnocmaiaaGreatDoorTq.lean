/- RegisterLimits in the executor: it returns true. -/
import Derived.Test.YtakbgbnnocmaiaaGreatDoorTp
set_option linter.all false
section
namespace Go.Proofs
open Go.Sim Go.SortL
variable {D : Nat}

def PowsAt (h : H) : Prop := 0 < h.next ∧ ∃ e o f p, h.get 0 = some (.cells (pows 20 1) e o f p)
theorem PowsAt.kept {k : Nat} {h h' : H} (K : Kept k h h') (P : PowsAt h) : PowsAt h' := by
  obtain ⟨h0, e, o, f, p, hg⟩ := P
  exact ⟨Nat.lt_of_lt_of_le h0 K.next, e, o, f, p, (K.get 0 h0).trans hg⟩

theorem sanity_D (hD : 1 ≤ D) (h : H) (P : PowsAt h) : (GX D).call 4 [] h = .ok (.bool true) h := by
  obtain ⟨d, rfl⟩ : ∃ d, D = d + 1 := ⟨D - 1, by omega⟩
  have e1 : (GX (d + 1)).call 4 [] h = oe (CX.ov 4) (callB CX (gN CX 1000000 d) 4 [] h) (fun F => F (gN CX 1000000 d).call [] h) := rfl
  have e2 : CX.ov 4 = some sanityF := rfl
  rw [e1, e2, oe_some]
  show sanityF (gN CX 1000000 d).call [] h = _
  unfold sanityF
  rw [if_pos ⟨rfl, P.2⟩]

theorem light_D (hD : 1 ≤ D) (e : EV) (h : H) (hn : h.next < 1048576) : ∃ h', (GX D).call 5 [.agg e.cells] h = .ok (.bool (lightB e)) h' ∧ Kept 1 h h' := by
  obtain ⟨d, rfl⟩ : ∃ d, D = d + 1 := ⟨D - 1, by omega⟩
  exact light_x e h hn

theorem light_short {h : H} {A : ED} (E : EAt h A) (hl : lightB A.e = true) : EShort A ∧ A.legs.length ≤ 12 := by
  simp only [lightB, Bool.and_eq_true] at hl
  obtain ⟨⟨⟨⟨h1, h2⟩, h3⟩, _⟩, _⟩ := hl
  have h1 : A.e.legsN ≤ 12 := leI_len.1 h1
  have h2 : A.e.offsetsN ≤ 12 := leI_len.1 h2
  have h3 : A.e.ringN ≤ 12 := leI_len.1 h3
  have := E.ring.1
  have := E.legs.1
  have := E.offs.1
  exact ⟨⟨by omega, by omega, by omega⟩, by omega⟩

set_option maxRecDepth 1000000 in
set_option maxHeartbeats 1000000 in
theorem limits_x (hD : 23 ≤ D) (a : SL) (n c : Nat) (xs : List XD) (known : Int) (h : H) (hx : SlR h 63 XD.cells a n xs) (hE : ∀ x ∈ xs, EAt h x.d) (hP : PowsAt h) (hn : h.next + 600000 ≤ 1048576) :
    ∃ h', (GX D).call 3 [.slc a n c, .int .i64 known] h = .ok (.bool true) h' ∧ Kept 600000 h h' := by
  obtain ⟨d, rfl, hd⟩ := dsucc hD
  have : ∃ v h', (GX (d + 1)).call 3 [.slc a n c, .int .i64 known] h = .ok v h' ∧ v = .bool true ∧ Kept 600000 h h' := by
    have hxl := hx.1
    refine call_run Tryz.func3 rfl rfl (Nat.le_of_ble_eq_true rfl) (by decide) ?_
    refine wRun_seq svx (by decide) ?_
    refine wRun_mid (σ := Unit) (fun _ => [(0, .slc a n c), (1, .int .i64 known)]) (fun _ h1 => h1 = h ∧ n ≤ 400) ?_ ?_
    · refine wRun_of svx (by decide) ?_
      rintro (_ | _) c1
      · exact ⟨(), ⟨rfl, rfl, trivial⟩, rfl, leI_len.1 (by simpa using c1)⟩
      · refine ⟨_, _, sanity_D (by omega) h hP, ?_⟩
        rintro _ rfl
        exact ⟨rfl, Kept.refl h⟩
    rintro _ h1 ⟨rfl, hn4⟩
    refine wRun_mid (σ := Unit) (fun _ => [(0, .slc a n c), (1, .int .i64 known)]) (fun _ h2 => Kept (2 * n) h1 h2 ∧ ∀ x ∈ xs, lightB x.d.e = true) ?_ ?_
    · refine wRun_seq svx (by decide) ?_
      refine wRun_block rfl ?_
      refine wLoopR (σ := Nat) (fun i => [(0, .slc a n c), (1, .int .i64 known), (14, .slc a n c), (15, .int .i64 (Int.ofNat n)), (16, .int .i64 (Int.ofNat i))]) (fun i h2 => i ≤ n ∧ Kept (2 * i) h1 h2 ∧ ∀ (j : Nat) (x : XD), j < i → xs[j]? = some x → lightB x.d.e = true) (fun i => n - i) 0
        (by rw [gN_fuel]; show n - 0 < 1000000; omega) ⟨rfl, rfl, rfl, rfl, rfl, trivial⟩ ⟨Nat.zero_le _, Kept.refl h1, fun j x hj => absurd hj (Nat.not_lt_zero _)⟩ ?_
      rintro i h2 ⟨hi, K2, hall⟩
      have n2 := K2.few
      refine wRun_mid (σ := Bool) (fun b => [(0, .slc a n c), (1, .int .i64 known), (14, .slc a n c), (15, .int .i64 (Int.ofNat n)), (16, .int .i64 (Int.ofNat i)), (17, .bool b)]) (fun b h3 => h3 = h2 ∧ (b = true ↔ i < n)) ?_ ?_
      · refine wRun_of svx (by decide) ?_
        rintro (_ | _) c1
        · have := natGe c1
          exact ⟨false, ⟨rfl, rfl, rfl, rfl, rfl, rfl, trivial⟩, rfl, by simp; omega⟩
        · have := natLt c1
          exact ⟨true, ⟨rfl, rfl, rfl, rfl, rfl, rfl, trivial⟩, rfl, by simp; omega⟩
      rintro b h3 ⟨rfl, ib⟩
      refine wRun_mid (σ := Unit) (fun _ => [(0, .slc a n c), (1, .int .i64 known), (14, .slc a n c), (15, .int .i64 (Int.ofNat n)), (16, .int .i64 (Int.ofNat i))]) (fun _ h4 => h4 = h3 ∧ i < n) ?_ ?_
      · refine wRun_cond (t := b) rfl (fun hb => ?_) (fun hb => ?_)
        · refine wRun_of svx (by decide) ?_
          exact ⟨(), ⟨rfl, rfl, rfl, rfl, rfl, trivial⟩, rfl, ib.1 hb⟩
        · refine wRun_of svx (by decide) ?_
          have hge : ¬ i < n := fun hh => by rw [ib.2 hh] at hb; cases hb
          have : i = n := by omega
          subst this
          refine ⟨(), ⟨rfl, rfl, trivial⟩, K2, fun x hxm => ?_⟩
          obtain ⟨j, hj, rfl⟩ := List.getElem_of_mem hxm
          exact hall j _ (by omega) (List.getElem?_eq_getElem hj)
      rintro _ h4 ⟨rfl, hin⟩
      obtain ⟨x, hxi⟩ : ∃ x, xs[i]? = some x := ⟨_, List.getElem?_eq_getElem (by omega)⟩
      obtain ⟨b', o, ea, la⟩ := (hx.kept K2).at (i := i) (by omega)
      rw [(List.getElem?_eq_some_iff.1 hxi).2] at la
      subst ea
      refine wRun_mid (σ := Unit) (fun _ => [(0, .slc (some (b', o)) n c), (1, .int .i64 known), (14, .slc (some (b', o)) n c), (15, .int .i64 (Int.ofNat n)), (16, .int .i64 (Int.ofNat i))]) (fun _ h5 => Kept 2 h4 h5 ∧ lightB x.d.e = true) ?_ ?_
      · refine wRun_block rfl ?_
        refine wRun_seq svx (by decide) ?_
        refine ⟨i, rfl, hin, _, la.ld0 rfl (by decide) (by decide), ?_⟩
        refine ⟨(room_iff h4).2 (by omega), ?_⟩
        intro p h5 hp hh5
        obtain ⟨A5, K5⟩ := At.new (by omega) hp hh5
        have n5 := K5.few
        refine ⟨rfl, ?_⟩
        obtain ⟨vs0, esz, opn, pars, vs', e1, e2, e3, e4⟩ := A5.store (w := x.cells) (by omega) rfl rfl
        refine ⟨vs0, esz, opn, pars, vs', e1, e2, e3, ?_⟩
        intro h6 hh6
        obtain ⟨A6, K6⟩ := e4 h6 hh6
        rw [hp] at K6
        have K46 : Kept (1 + 0) h4 h6 := Kept.one K5 K6
        have n6 := K46.few
        refine wRun_of svx (by decide) ?_
        refine ⟨_, A6.ld rfl, ?_⟩
        obtain ⟨h7, hc, K7⟩ := light_D (D := d) (by omega) x.d.e h6 (by omega)
        refine ⟨_, _, hc, ?_⟩
        have K47 := K46.trans K7
        rintro (_ | _) c2
        · refine ⟨_, _, sanity_D (by omega) h7 ((hP.kept K2).kept K47), ?_⟩
          rintro _ rfl
          exact ⟨rfl, (K2.trans K47).mono (by omega)⟩
        · exact ⟨(), ⟨rfl, rfl, rfl, rfl, rfl, trivial⟩, K47, c2⟩
      rintro _ h5 ⟨K5, hg⟩
      refine wRun_of svx (by decide) ?_
      refine ⟨i + 1, by omega, ⟨rfl, rfl, rfl, rfl, slot (add64 (a := i) (b := 1) (by omega)), trivial⟩, by omega, (K2.trans K5).mono (by omega), fun j y hj hy => ?_⟩
      by_cases hji : j = i
      · subst hji; rw [hxi] at hy; cases hy; exact hg
      · exact hall j y (by omega) hy
    rintro _ h2 ⟨K2, hlight⟩
    have n2 := K2.few
    have hEL : EList h2 xs := fun x hx => ⟨(hE x hx).kept K2, light_short (hE x hx) (hlight x hx)⟩
    refine wRun_of svx (by decide) ?_
    obtain ⟨h3, a1, m1, c1, e1, hc3, K3, r3⟩ := effective_x (D := d) (by omega) a n c xs known h2 (hx.kept K2) hEL hn4 (by omega)
    refine ⟨_, _, hc3, ?_⟩
    have n3 := K3.few
    obtain ⟨h4, a2, m2, c2, e2, hc4, K4, r4⟩ := reffective_x (D := d) (by omega) a n c xs known h3 ((hx.kept K2).kept K3) (hEL.kept K3) hn4 (by omega)
    refine ⟨_, _, hc4, ?_⟩
    have n4 := K4.few
    refine ⟨(room_iff h4).2 (by omega), ?_⟩
    intro p h5 hp hh5
    obtain ⟨A5, K5⟩ := At.new (by omega) hp hh5
    have n5 := K5.few
    clear hh5
    refine ⟨rfl, _, _, _, _, _, A5.get, rfl, rfl, ?_⟩
    intro h6 hh6
    obtain ⟨A6, K6⟩ := A5.st (by omega) hh6
    rw [hp] at K6
    have K46 : Kept (1 + 0) h4 h6 := Kept.one K5 K6
    have n6 := K46.few
    have K06 := ((K2.trans K3).trans K4).trans K46
    refine ⟨_, _, sanity_D (by omega) h6 (hP.kept K06), ?_⟩
    rintro _ rfl
    obtain ⟨he, zs, ws, s1, s2, E1, hsub, P, hm120⟩ := agree r3 r4
    refine ⟨_, A6.ld rfl, ?_⟩
    rintro (_ | _) c3
    · exact absurd he (eqF c3)
    refine ⟨_, A6.ld rfl, ?_⟩
    have hEw : EList h6 ws := (((hEL.kept K3).kept K4).kept K46).sub hsub
    have hm1 : m1 ≤ 1000 := by omega
    obtain ⟨r, h7, hc7, K7, ir⟩ := sameEntered_x (D := d) (by omega) a1 a2 m1 m2 c1 c2 zs ws h6 ((s1.kept K4).kept K46) (s2.kept K46) ((E1.kept K4).kept K46) hEw hm1 (by omega)
    refine ⟨_, _, hc7, ?_⟩
    rintro _ rfl
    have hr : r = true := ir.2 P
    subst hr
    exact ⟨rfl, (K06.trans K7).mono (by omega)⟩
  obtain ⟨v, h', h1, rfl, h2⟩ := this
  exact ⟨h', h1, h2⟩
end Go.Proofs
end
section
/- RegisterLimits in the executor: a long list: it returns true, and reads nothing. -/
namespace Go.Proofs
open Go.Sim Go.SortL
variable {D : Nat}

set_option maxRecDepth 1000000 in
set_option maxHeartbeats 1000000 in
theorem limits_long (hD : 2 ≤ D) (a : SL) (n c : Nat) (known : Int) (h : H) (hP : PowsAt h) (hn : 400 < n) :
    ∃ h', (GX D).call 3 [.slc a n c, .int .i64 known] h = .ok (.bool true) h' ∧ Kept 600000 h h' := by
  obtain ⟨d, rfl, hd⟩ := dsucc (k := 1) (by omega : 1 + 1 ≤ D)
  have : ∃ v h', (GX (d + 1)).call 3 [.slc a n c, .int .i64 known] h = .ok v h' ∧ v = .bool true ∧ Kept 600000 h h' := by
    refine call_run Tryz.func3 rfl rfl (Nat.le_of_ble_eq_true rfl) (by decide) ?_
    refine wRun_seq svx (by decide) ?_
    refine wRun_mid (σ := Unit) (fun _ => [(0, .slc a n c), (1, .int .i64 known)]) (fun _ _ => False) ?_ ?_
    · refine wRun_of svx (by decide) ?_
      rintro (_ | _) c1
      · have := leI_len.1 (show leI (Int.ofNat n) (Int.ofNat 400) = true by simpa using c1)
        omega
      · refine ⟨_, _, sanity_D (by omega) h hP, ?_⟩
        rintro _ rfl
        exact ⟨rfl, Kept.refl h⟩
    rintro _ h1 hf
    exact hf.elim
  obtain ⟨v, h', h1, rfl, h2⟩ := this
  exact ⟨h', h1, h2⟩
end Go.Proofs
end
