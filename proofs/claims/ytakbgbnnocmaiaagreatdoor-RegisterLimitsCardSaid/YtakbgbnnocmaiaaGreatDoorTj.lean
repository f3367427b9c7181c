/- Sorted lists of entries, by names: plain facts; the sort of nothing. -/
import Derived.Test.YtakbgbnnocmaiaaGreatDoorTi
set_option linter.all false
section
namespace Go.Proofs
open Go.Sim Go.SortL
variable {D : Nat}

def ltN (x y : XD) : Prop := x.v < y.v ∨ (x.v = y.v ∧ x.l < y.l)
theorem SameN.refl (x : XD) : SameN x x := ⟨rfl, rfl⟩
theorem SameN.symm {x y : XD} (h : SameN x y) : SameN y x := ⟨h.1.symm, h.2.symm⟩
theorem SameN.trans {x y z : XD} (h : SameN x y) (k : SameN y z) : SameN x z := ⟨h.1.trans k.1, h.2.trans k.2⟩
theorem leN_lt {x y : XD} (h : leN x y) (hn : ¬ SameN x y) : ltN x y := by unfold leN SameN ltN at *; omega
theorem leN_ltN {x y z : XD} (h : leN x y) (k : ltN y z) : ltN x z := by unfold leN ltN at *; omega
theorem leN_anti {x y : XD} (h : leN x y) (k : leN y x) : SameN x y := by unfold leN SameN at *; omega
theorem ltN_ne {x y : XD} (h : ltN x y) : ¬ SameN x y := by unfold ltN SameN at *; omega
theorem ltN_le {x y : XD} (h : ltN x y) : leN x y := by unfold ltN leN at *; omega

theorem EqD.refl (a : ED) : EqD a a := ⟨rfl, rfl, rfl, rfl⟩
theorem EqD.symm {a b : ED} (h : EqD a b) : EqD b a := ⟨h.1.symm, h.2.1.symm, h.2.2.1.symm, h.2.2.2.symm⟩
theorem EqD.trans {a b c : ED} (h : EqD a b) (k : EqD b c) : EqD a c := ⟨h.1.trans k.1, h.2.1.trans k.2.1, h.2.2.1.trans k.2.2.1, h.2.2.2.trans k.2.2.2⟩

/-- entries of one name are the same -/
def Consist (xs : List XD) : Prop := ∀ x ∈ xs, ∀ y ∈ xs, SameN x y → EqD x.d y.d

theorem consist_of_adj {zs : List XD} {n : Nat} (hl : zs.length = n) (S : SR leN 0 n zs) (hadj : ∀ i, 1 ≤ i → i < n → ∀ x y, zs[i]? = some x → zs[i - 1]? = some y → SameN x y → EqD x.d y.d) : Consist zs := by
  have key : ∀ (k u : Nat) (x y : XD), zs[u]? = some x → zs[u + k]? = some y → SameN x y → EqD x.d y.d := by
    intro k
    induction k with
    | zero => intro u x y hx hy _; rw [Nat.add_zero, hx] at hy; cases hy; exact EqD.refl _
    | succ k ih =>
      intro u x y hx hy hs
      have hlt := (List.getElem?_eq_some_iff.1 hy).1
      obtain ⟨z, hz⟩ : ∃ z, zs[u + k]? = some z := ⟨_, List.getElem?_eq_getElem (by omega)⟩
      have h1 : leN x z := S.le' ordN (Nat.zero_le _) (Nat.le_add_right _ _) (by omega) hx hz
      have h2 : leN z y := S.le' ordN (Nat.zero_le _) (by omega) (by omega) hz hy
      have h3 : leN y x := by have := hs; unfold SameN at this; unfold leN; omega
      have hzx : SameN x z := leN_anti h1 (ordN.trans _ _ _ h2 h3)
      have hzy : SameN y z := hs.symm.trans hzx
      exact (ih u x z hx hz hzx).trans (hadj (u + (k + 1)) (by omega) (by omega) y z hy (by rw [show u + (k + 1) - 1 = u + k by omega]; exact hz) hzy).symm
  intro x hx y hy hs
  obtain ⟨u, hu, rfl⟩ := List.getElem_of_mem hx
  obtain ⟨v, hv, rfl⟩ := List.getElem_of_mem hy
  rcases Nat.le_total u v with h | h
  · exact key (v - u) u _ _ (List.getElem?_eq_getElem hu) (by rw [show u + (v - u) = v by omega]; exact List.getElem?_eq_getElem hv) hs
  · exact (key (u - v) v _ _ (List.getElem?_eq_getElem hv) (by rw [show v + (u - v) = u by omega]; exact List.getElem?_eq_getElem hu) hs.symm).symm

/-- the different elements of a list that is sorted -/
theorem ddx_props {zs : List XD} {n : Nat} (hl : zs.length = n) (S : SR leN 0 n zs) : ∀ m, m ≤ n → (ddx zs m).Pairwise ltN ∧ (∀ y ∈ ddx zs m, ∃ k, k < m ∧ zs[k]? = some y) ∧ (∀ k x, k < m → zs[k]? = some x → ∃ y ∈ ddx zs m, SameN x y)
  | 0, _ => ⟨List.Pairwise.nil, (fun y hy => (by simp [ddx] at hy)), fun k x hk => absurd hk (Nat.not_lt_zero _)⟩
  | m + 1, hm => by
    obtain ⟨h1, h2, h3⟩ := ddx_props hl S m (by omega)
    obtain ⟨x, hx⟩ : ∃ x, zs[m]? = some x := ⟨_, List.getElem?_eq_getElem (by omega)⟩
    by_cases hm0 : m = 0
    · subst hm0
      rw [ddx_zero hx]
      refine ⟨List.pairwise_singleton _ _, fun y hy => ⟨0, by omega, by rw [List.mem_singleton] at hy; rw [hy]; exact hx⟩, fun k z hk hz => ⟨x, List.mem_singleton_self _, ?_⟩⟩
      have : k = 0 := by omega
      subst this; rw [hx] at hz; cases hz; exact SameN.refl _
    · obtain ⟨y, hy⟩ : ∃ y, zs[m - 1]? = some y := ⟨_, List.getElem?_eq_getElem (by omega)⟩
      by_cases hs : SameN x y
      · rw [ddx_drop hx hm0 hy hs]
        refine ⟨h1, fun z hz => ?_, fun k z hk hz => ?_⟩
        · obtain ⟨k, hk, e⟩ := h2 z hz; exact ⟨k, by omega, e⟩
        · by_cases hkm : k = m
          · subst hkm
            rw [hx] at hz; cases hz
            obtain ⟨w, hw, hsw⟩ := h3 (k - 1) y (by omega) hy
            exact ⟨w, hw, hs.trans hsw⟩
          · exact h3 k z (by omega) hz
      · rw [ddx_keep hx hm0 hy hs]
        refine ⟨?_, fun z hz => ?_, fun k z hk hz => ?_⟩
        · rw [List.pairwise_append]
          refine ⟨h1, List.pairwise_singleton _ _, fun z hz w hw => ?_⟩
          rw [List.mem_singleton] at hw; subst hw
          obtain ⟨k, hk, e⟩ := h2 z hz
          have a1 : leN z y := S.le' ordN (Nat.zero_le _) (by omega) (by omega) e hy
          have a2 : leN y w := S.le' ordN (Nat.zero_le _) (by omega) (by omega) hy hx
          exact leN_ltN a1 (leN_lt a2 fun h => hs h.symm)
        · rcases List.mem_append.1 hz with hz | hz
          · obtain ⟨k, hk, e⟩ := h2 z hz; exact ⟨k, by omega, e⟩
          · rw [List.mem_singleton] at hz; subst hz; exact ⟨m, by omega, hx⟩
        · by_cases hkm : k = m
          · subst hkm
            rw [hx] at hz; cases hz
            exact ⟨x, by simp, SameN.refl _⟩
          · obtain ⟨w, hw, hsw⟩ := h3 k z (by omega) hz
            exact ⟨w, List.mem_append_left _ hw, hsw⟩

/-! ### The sort of nothing -/

set_option maxRecDepth 1000000 in
theorem ins0_x (hD : 1 ≤ D) (a : SL) (c : Nat) (fv : AVal) (h : H) : (GX D).call 151 [.slc a 0 c, .int .i64 (Int.ofNat 0), .int .i64 (Int.ofNat 0), fv] h = .ok .undef h := by
  obtain ⟨d, rfl, hd⟩ := dsucc hD
  have : ∃ v h', (GX (d + 1)).call 151 [.slc a 0 c, .int .i64 (Int.ofNat 0), .int .i64 (Int.ofNat 0), fv] h = .ok v h' ∧ v = .undef ∧ h' = h := by
    refine call_run Tryz.func151 rfl rfl (Nat.le_of_ble_eq_true rfl) (by decide) ?_
    refine wRun_seq svx (by decide) ?_
    refine wRun_block rfl ?_
    refine wLoopR (σ := Unit) (fun _ => [(2, .int .i64 (Int.ofNat 0)), (8, .int .i64 (Int.ofNat 1))]) (fun _ h' => h' = h) (fun _ => 0) () (by rw [gN_fuel]; decide) ⟨rfl, rfl, trivial⟩ rfl ?_
    rintro _ h1 rfl
    refine wRun_mid (σ := Unit) (fun _ => []) (fun _ _ => False) ?_ (fun _ _ h => h.elim)
    refine wRun_of svx (by decide) ?_
    rintro _ rfl
    exact ⟨rfl, rfl⟩
  obtain ⟨v, h', h1, rfl, rfl⟩ := this
  exact h1

set_option maxRecDepth 1000000 in
theorem stable0_x (hD : 2 ≤ D) (a : SL) (c : Nat) (fv : AVal) (h : H) : (GX D).call 75 [.slc a 0 c, .int .i64 (Int.ofNat 0), fv] h = .ok .undef h := by
  obtain ⟨d, rfl, hd⟩ := dsucc hD
  have : ∃ v h', (GX (d + 1)).call 75 [.slc a 0 c, .int .i64 (Int.ofNat 0), fv] h = .ok v h' ∧ v = .undef ∧ h' = h := by
    refine call_run Tryz.func75 rfl rfl (Nat.le_of_ble_eq_true rfl) (by decide) ?_
    refine wRun_seq svx (by decide) ?_
    refine wRun_seq svx (by decide) ?_
    refine wRun_mid (σ := Unit) (fun _ => [(0, .slc a 0 c), (1, .int .i64 (Int.ofNat 0)), (2, fv), (6, .int .i64 (Int.ofNat 20)), (7, .int .i64 (Int.ofNat 0))]) (fun _ h1 => h1 = h) ?_ ?_
    · refine wRun_block rfl ?_
      refine wLoopR (σ := Unit) (fun _ => [(0, .slc a 0 c), (1, .int .i64 (Int.ofNat 0)), (2, fv), (6, .int .i64 (Int.ofNat 20)), (7, .int .i64 (Int.ofNat 0)), (8, .int .i64 (Int.ofNat 20))]) (fun _ h' => h' = h) (fun _ => 0) () (by rw [gN_fuel]; decide) ⟨rfl, rfl, rfl, rfl, rfl, rfl, trivial⟩ rfl ?_
      rintro _ h1 rfl
      refine wRun_mid (σ := Unit) (fun _ => []) (fun _ _ => False) ?_ (fun _ _ h => h.elim)
      refine wRun_of svx (by decide) ?_
      rintro _ rfl
      exact ⟨(), ⟨rfl, rfl, rfl, rfl, rfl, trivial⟩, rfl⟩
    rintro _ h1 rfl
    refine wRun_mid (σ := Unit) (fun _ => [(1, .int .i64 (Int.ofNat 0)), (6, .int .i64 (Int.ofNat 20))]) (fun _ h2 => h2 = h1) ?_ ?_
    · refine wRun_of svx (by decide) ?_
      refine ⟨_, _, ins0_x hd a c fv h1, ?_⟩
      exact ⟨(), ⟨rfl, rfl, trivial⟩, rfl⟩
    rintro _ h2 rfl
    refine wRun_block rfl ?_
    refine wLoopR (σ := Unit) (fun _ => [(1, .int .i64 (Int.ofNat 0)), (6, .int .i64 (Int.ofNat 20))]) (fun _ h' => h' = h2) (fun _ => 0) () (by rw [gN_fuel]; decide) ⟨rfl, rfl, trivial⟩ rfl ?_
    rintro _ h3 rfl
    refine wRun_mid (σ := Unit) (fun _ => []) (fun _ _ => False) ?_ (fun _ _ h => h.elim)
    refine wRun_of svx (by decide) ?_
    rintro _ rfl
    exact ⟨rfl, rfl⟩
  obtain ⟨v, h', h1, rfl, rfl⟩ := this
  exact h1

set_option maxRecDepth 1000000 in
theorem sort0_x (hD : 3 ≤ D) (a : SL) (c : Nat) (fv : AVal) (h : H) : (GX D).call 39 [.slc a 0 c, fv] h = .ok .undef h := by
  obtain ⟨d, rfl, hd⟩ := dsucc hD
  refine call_eq Tryz.func39 rfl ?_
  refine ⟨_, _, stable0_x hd a c fv h, ?_⟩
  exact ⟨rfl, rfl⟩

set_option maxRecDepth 1000000 in
theorem compact0_x (hD : 1 ≤ D) (a : SL) (c : Nat) (fv : AVal) (h : H) : (GX D).call 43 [.slc a 0 c, fv] h = .ok (.slc a 0 c) h := by
  obtain ⟨d, rfl, hd⟩ := dsucc hD
  refine call_eq Tryz.func43 rfl ?_
  rintro _ rfl
  exact ⟨rfl, rfl⟩
end Go.Proofs
end
section
/- register.sorted. -/
namespace Go.Proofs
open Go.Sim Go.SortL
variable {D : Nat}

structure Good (x : XD) : Prop where
  v : (leI 0 x.v && leI x.v 2) = true
  l : (leI 1 x.l && leI x.l 400) = true
  e : OkP x.d

/-- the different entries of a list, in order -/
structure Diff (xs ys : List XD) : Prop where
  sorted : ys.Pairwise ltN
  sub : ∀ y ∈ ys, y ∈ xs
  all : ∀ x ∈ xs, ∃ y ∈ ys, SameN x y

def EList (h : H) (xs : List XD) : Prop := ∀ x ∈ xs, EAt h x.d ∧ EShort x.d ∧ x.d.legs.length ≤ 12
theorem EList.kept {k : Nat} {h h' : H} (K : Kept k h h') {xs : List XD} (E : EList h xs) : EList h' xs := fun x hx => ⟨(E x hx).1.kept K, (E x hx).2⟩
theorem EList.sub {h : H} {xs ys : List XD} (E : EList h xs) (hs : ∀ y ∈ ys, y ∈ xs) : EList h ys := fun y hy => E y (hs y hy)

/-- what 'sorted' returns -/
def SRes (xs : List XD) (n : Nat) (h' : H) (a : SL) (m : Nat) (e : Int) : Prop :=
  (360 < n ∧ e = 2) ∨ (n ≤ 360 ∧ (∃ x ∈ xs, ¬ Good x) ∧ e = 1) ∨ (n ≤ 360 ∧ (∀ x ∈ xs, Good x) ∧ ((¬ Consist xs ∧ e = 6) ∨ (Consist xs ∧ ∃ ys, Diff xs ys ∧ ((120 < ys.length ∧ e = 2) ∨ (ys.length ≤ 120 ∧ e = 0 ∧ SlR h' 63 XD.cells a m ys)))))

theorem At.store {h : H} (hc : h.next ≤ 1048576) {p n : Nat} {vs w : List AVal} (A : At h p vs n) (hl : w.length = vs.length) (hp : plains w = true) :
    ∃ vs0 esz opn pars vs', h.get p = some (.cells vs0 esz opn false pars) ∧ plains w = true ∧ putX 0 w vs0 = some vs' ∧
      ∀ h', h' = (kill h pars).setO p (.cells vs' esz opn false []) → At h' p w n ∧ KeptX (fun x => x = p) 0 h h' := by
  refine ⟨vs, n, false, [], w, A.get, hp, ?_, fun h' hh => ?_⟩
  · rw [putX_eq, if_pos (by omega), Nat.zero_add, List.take_zero, hl, List.drop_length, List.append_nil, List.nil_append]
  · have hh : h' = h.setO p (.cells w n false false []) := hh
    subst hh
    exact ⟨⟨by rw [Sim.setO_next]; exact A.lt, Sim.setO_self hc A.lt _⟩, KeptX.setO hc A.lt _⟩

theorem Kept.one {k : Nat} {h h1 h2 : H} (K1 : Kept 1 h h1) (K2 : KeptX (fun x => x = h.next) k h1 h2) : Kept (1 + k) h h2 := K1.thenX K2 fun i hi => by rw [hi]; exact Nat.le_refl _

theorem sortO (hD : 18 ≤ D) {h0 h : H} {a : SL} {n c : Nat} {xs : List XD} (O : OwnL h0 h 63 XD.cells a n c xs) (hn3 : n ≤ 360) (hn : h.next + (325 * n + 2000) ≤ 1048576) :
    ∃ h' zs, (GX D).call 39 [.slc a n c, .func 40 []] h = .ok .undef h' ∧ OwnL h0 h' 63 XD.cells a n c zs ∧ KeptX (fun x => h0.next ≤ x) (325 * n + 2000) h h' ∧ zs.Perm xs ∧ SR leN 0 n zs := by
  rcases O.blk with ⟨rfl, rfl⟩ | ⟨b, rfl, hb, A⟩
  · have hn0 : n = 0 := O.len.symm
    subst hn0
    exact ⟨h, [], sort0_x (by omega) none c _ h, O, KeptX.refl h, List.Perm.refl _, SR.triv (by omega)⟩
  · obtain ⟨h', zs, hc, A', K', P', S'⟩ := sort_x hD b c xs n O.len hn3 h hn A
    exact ⟨h', zs, hc, ⟨by rw [P'.len]; exact O.len, O.cap, .inr ⟨b, rfl, hb, A'⟩⟩, K'.mono (fun x _ hx => by rw [hx]; exact hb) (Nat.le_refl _), P'.perm, S'⟩

theorem compactO (hD : 2 ≤ D) {h0 h : H} {a : SL} {n c : Nat} {zs : List XD} (O : OwnL h0 h 63 XD.cells a n c zs) (hF : n < 100000) (hn : h.next + 2 * n ≤ 1048576) :
    ∃ h', (GX D).call 43 [.slc a n c, .func 44 []] h = .ok (.slc a (ddx zs n).length c) h' ∧ SlR h' 63 XD.cells a (ddx zs n).length (ddx zs n) ∧ KeptX (fun x => h0.next ≤ x) (2 * n) h h' := by
  rcases O.blk with ⟨rfl, rfl⟩ | ⟨b, rfl, hb, A⟩
  · have hn0 : n = 0 := O.len.symm
    subst hn0
    exact ⟨h, compact0_x (by omega) none c _ h, SlR.none, KeptX.refl h⟩
  · obtain rfl := O.cap
    obtain ⟨h', hc, S', K'⟩ := compact_x hD b zs _ O.len hF h hn A
    exact ⟨h', hc, S', K'.mono (fun x _ hx => by rw [hx]; exact hb) (Nat.le_refl _)⟩

set_option maxRecDepth 1000000 in
set_option maxHeartbeats 2000000 in
theorem sorted_x (hD : 20 ≤ D) (a : SL) (n c : Nat) (xs : List XD) (h : H) (hx : SlR h 63 XD.cells a n xs) (hE : EList h xs) (hn4 : n ≤ 400) (hn : h.next + 200000 ≤ 1048576) :
    ∃ h' a' m c' e, (GX D).call 17 [.slc a n c] h = .ok (.tup [.slc a' m c', .int .i64 e]) h' ∧ Kept 200000 h h' ∧ SRes xs n h' a' m e := by
  obtain ⟨d, rfl, hd⟩ := dsucc hD
  have : ∃ v h', (GX (d + 1)).call 17 [.slc a n c] h = .ok v h' ∧ ∃ a' m c' e, v = .tup [.slc a' m c', .int .i64 e] ∧ Kept 200000 h h' ∧ SRes xs n h' a' m e := by
    have hxl := hx.1
    refine call_run Tryz.func17 rfl rfl (Nat.le_of_ble_eq_true rfl) (by decide) ?_
    refine wRun_seq svx (by decide) ?_
    refine wRun_mid (σ := Unit) (fun _ => [(0, .slc a n c)]) (fun _ h1 => h1 = h ∧ n ≤ 360) ?_ ?_
    · refine wRun_of svx (by decide) ?_
      rintro (_ | _) c1
      · exact ⟨(), ⟨rfl, trivial⟩, rfl, leI_len.1 (by simpa using c1)⟩
      · refine ⟨none, 0, 0, 2, rfl, Kept.refl h, .inl ⟨?_, rfl⟩⟩
        have : ¬ leI (Int.ofNat n) (Int.ofNat 360) = true := by simpa using c1
        rw [leI_len] at this; omega
    rintro _ h1 ⟨rfl, hn3⟩
    refine wRun_mid (σ := Unit) (fun _ => [(0, .slc a n c)]) (fun _ h2 => Kept (60 * n) h1 h2 ∧ ∀ x ∈ xs, Good x) ?_ ?_
    · refine wRun_seq svx (by decide) ?_
      refine wRun_block rfl ?_
      refine wLoopR (σ := Nat) (fun i => [(0, .slc a n c), (12, .slc a n c), (13, .int .i64 (Int.ofNat n)), (14, .int .i64 (Int.ofNat i))]) (fun i h2 => i ≤ n ∧ Kept (60 * i) h1 h2 ∧ ∀ j x, j < i → xs[j]? = some x → Good x) (fun i => n - i) 0
        (by rw [gN_fuel]; show n - 0 < 1000000; omega) ⟨rfl, rfl, rfl, rfl, trivial⟩ ⟨Nat.zero_le _, Kept.refl h1, fun j x hj => absurd hj (Nat.not_lt_zero _)⟩ ?_
      rintro i h2 ⟨hin', K2, hall⟩
      have n2 := K2.few
      refine wRun_mid (σ := Bool) (fun b => [(0, .slc a n c), (12, .slc a n c), (13, .int .i64 (Int.ofNat n)), (14, .int .i64 (Int.ofNat i)), (15, .bool b)]) (fun b h3 => h3 = h2 ∧ (b = true ↔ i < n)) ?_ ?_
      · refine wRun_of svx (by decide) ?_
        rintro (_ | _) c1
        · have := natGe c1
          exact ⟨false, ⟨rfl, rfl, rfl, rfl, rfl, trivial⟩, rfl, by simp; omega⟩
        · have := natLt c1
          exact ⟨true, ⟨rfl, rfl, rfl, rfl, rfl, trivial⟩, rfl, by simp; omega⟩
      rintro b h3 ⟨rfl, ib⟩
      refine wRun_mid (σ := Unit) (fun _ => [(0, .slc a n c), (12, .slc a n c), (13, .int .i64 (Int.ofNat n)), (14, .int .i64 (Int.ofNat i))]) (fun _ h4 => h4 = h3 ∧ i < n) ?_ ?_
      · refine wRun_cond (t := b) rfl (fun hb => ?_) (fun hb => ?_)
        · refine wRun_of svx (by decide) ?_
          exact ⟨(), ⟨rfl, rfl, rfl, rfl, trivial⟩, rfl, ib.1 hb⟩
        · refine wRun_of svx (by decide) ?_
          have hge : ¬ i < n := fun hh => by rw [ib.2 hh] at hb; cases hb
          have : i = n := by omega
          subst this
          refine ⟨(), ⟨rfl, trivial⟩, K2, fun x hxm => ?_⟩
          obtain ⟨j, hj, rfl⟩ := List.getElem_of_mem hxm
          exact hall j _ (by omega) (List.getElem?_eq_getElem hj)
      rintro _ h4 ⟨rfl, hin⟩
      obtain ⟨x, hxi⟩ : ∃ x, xs[i]? = some x := ⟨_, List.getElem?_eq_getElem (by omega)⟩
      have hxm : x ∈ xs := List.mem_of_getElem? hxi
      obtain ⟨hea, hes, hlg⟩ := hE x hxm
      have hexi : xs[i] = x := (List.getElem?_eq_some_iff.1 hxi).2
      refine wRun_mid (σ := Unit) (fun _ => [(0, .slc a n c), (12, .slc a n c), (13, .int .i64 (Int.ofNat n)), (14, .int .i64 (Int.ofNat i))]) (fun _ h5 => Kept 60 h4 h5 ∧ Good x) ?_ ?_
      · refine wRun_block rfl ?_
        refine wRun_seq svx (by decide) ?_
        obtain ⟨b', o, ea, la⟩ := (hx.kept K2).at (hxl ▸ hin)
        rw [hexi] at la
        rw [ea]
        refine ⟨i, rfl, hin, _, la.ld0 rfl (by decide) (by decide), ?_⟩
        refine ⟨(room_iff h4).2 (by omega), ?_⟩
        intro p h5 hp hh5
        obtain ⟨A5, K5⟩ := At.new (by omega) hp hh5
        have n5 := K5.few
        refine ⟨rfl, ?_⟩
        obtain ⟨vs0, esz, opn, pars, vs', e1, e2, e3, e4⟩ := A5.store (w := x.cells) (by omega) rfl rfl
        refine ⟨vs0, esz, opn, pars, vs', e1, e2, e3, ?_⟩
        intro h6 hh6
        obtain ⟨A6, K6⟩ := e4 h6 hh6
        rw [hp] at K6
        have K46 := Kept.one K5 K6
        have n6 := K46.few
        refine wRun_mid (σ := Unit) (fun _ => [(0, .slc (some (b', o)) n c), (12, .slc (some (b', o)) n c), (13, .int .i64 (Int.ofNat n)), (14, .int .i64 (Int.ofNat i)), (5, .ptr (some (p, 0)))]) (fun _ h7 => h7 = h6 ∧ (leI 0 x.v && leI x.v 2) = true ∧ (leI 1 x.l && leI x.l 400) = true) ?_ ?_
        · refine wRun_of svx (by decide) ?_
          refine ⟨_, A6.ld rfl, ?_⟩
          refine ⟨_, _, within_D (by omega) _ _ _ _, ?_⟩
          rintro (_ | _) c2
          · exact ⟨none, 0, 0, 1, rfl, (K2.trans K46).mono (by omega), .inr (.inl ⟨hn3, ⟨x, hxm, fun g => by rw [g.v] at c2; cases c2⟩, rfl⟩)⟩
          · refine ⟨_, A6.ld rfl, ?_⟩
            refine ⟨_, _, within_D (by omega) _ _ _ _, ?_⟩
            rintro (_ | _) c3
            · exact ⟨none, 0, 0, 1, rfl, (K2.trans K46).mono (by omega), .inr (.inl ⟨hn3, ⟨x, hxm, fun g => by rw [g.l] at c3; cases c3⟩, rfl⟩)⟩
            · exact ⟨(), ⟨rfl, rfl, rfl, rfl, rfl, trivial⟩, rfl, c2, c3⟩
        rintro _ h7 ⟨rfl, gv, gl⟩
        refine wRun_of svx (by decide) ?_
        refine ⟨_, A6.ld rfl, ?_⟩
        obtain ⟨r, h8, hc, K8, hr⟩ := checkEntry_x (D := d) x.d h7 (by omega) ((hea.kept K2).kept K46) hes (by omega)
        refine ⟨_, _, hc, ?_⟩
        rintro (_ | _) c4
        · rcases hr with ⟨hr, ok⟩ | ⟨hr, ok⟩
          · exact ⟨(), ⟨rfl, rfl, rfl, rfl, trivial⟩, (K46.trans K8).mono (by omega), gv, gl, ok⟩
          · rw [hr] at c4; exact absurd (neF c4) (by decide)
        · rcases hr with ⟨hr, ok⟩ | ⟨hr, ok⟩
          · rw [hr] at c4; exact absurd rfl (neT c4)
          · exact ⟨none, 0, 0, r, rfl, ((K2.trans K46).trans K8).mono (by omega), .inr (.inl ⟨hn3, ⟨x, hxm, fun g => ok g.e⟩, hr⟩)⟩
      rintro _ h5 ⟨K5, hg⟩
      refine wRun_of svx (by decide) ?_
      refine ⟨i + 1, by omega, ⟨rfl, rfl, rfl, slot (add64 (a := i) (b := 1) (by omega)), trivial⟩, by omega, (K2.trans K5).mono (by omega), fun j y hj hy => ?_⟩
      by_cases hji : j = i
      · subst hji; rw [hxi] at hy; cases hy; exact hg
      · exact hall j y (by omega) hy
    rintro _ h2 ⟨K2, hgood⟩
    have n2 := K2.few
    refine wRun_mid (σ := SL × Nat) (fun s => [(7, .slc s.1 n s.2)]) (fun s h3 => OwnL h2 h3 63 XD.cells s.1 n s.2 xs ∧ Kept 2 h2 h3) ?_ ?_
    · refine wRun_of svx (by decide) ?_
      obtain ⟨h3, a', c', hc, O3, K3⟩ := cloneEnts_x (D := d) (by omega) a n c xs h2 (by omega) (hx.kept K2) (by omega)
      refine ⟨_, _, hc, ?_⟩
      exact ⟨(a', c'), ⟨rfl, trivial⟩, O3, K3⟩
    rintro ⟨a', c'⟩ h3 ⟨O3, K3⟩
    simp only at O3
    have n3 := K3.few
    refine wRun_mid (σ := List XD) (fun _ => [(7, .slc a' n c')]) (fun zs h4 => OwnL h2 h4 63 XD.cells a' n c' zs ∧ KeptX (fun x => h2.next ≤ x) (325 * n + 2000) h3 h4 ∧ zs.Perm xs ∧ SR leN 0 n zs) ?_ ?_
    · refine wRun_of svx (by decide) ?_
      obtain ⟨h4, zs, hc, O4, K4, P4, S4⟩ := sortO (D := d) (by omega) O3 hn3 (by omega)
      refine ⟨_, _, hc, ?_⟩
      exact ⟨zs, ⟨rfl, trivial⟩, O4, K4, P4, S4⟩
    rintro zs h4 ⟨O4, K4', P4, S4⟩
    have K4 : Kept (2 + (325 * n + 2000)) h2 h4 := K3.thenX K4' fun i hi => hi
    have n4 := K4.few
    have hzl := O4.len
    have hsub : ∀ y ∈ zs, y ∈ xs := fun y hy => P4.mem_iff.1 hy
    have hEz : EList h4 zs := ((hE.kept K2).kept K4).sub hsub
    refine wRun_mid (σ := Unit) (fun _ => [(7, .slc a' n c')]) (fun _ h5 => Kept (2 * n) h4 h5 ∧ ∀ i, 1 ≤ i → i < n → ∀ x y, zs[i]? = some x → zs[i - 1]? = some y → SameN x y → EqD x.d y.d) ?_ ?_
    · refine wRun_seq svx (by decide) ?_
      refine wRun_block rfl ?_
      refine wLoopR (σ := Nat) (fun i => [(7, .slc a' n c'), (8, .int .i64 (Int.ofNat i))]) (fun i h5 => 1 ≤ i ∧ Kept (2 * (i - 1)) h4 h5 ∧ (i ≤ n ∨ i = 1) ∧ ∀ j, 1 ≤ j → j < i → ∀ x y, zs[j]? = some x → zs[j - 1]? = some y → SameN x y → EqD x.d y.d) (fun i => n - i) 1
        (by rw [gN_fuel]; show n - 1 < 1000000; omega) ⟨rfl, rfl, trivial⟩ ⟨Nat.le_refl _, Kept.refl h4, .inr rfl, fun j h1 h2 => by omega⟩ ?_
      rintro i h5 ⟨hi1, K5, hi2, hadj⟩
      have n5 := K5.few
      refine wRun_mid (σ := Unit) (fun _ => [(7, .slc a' n c'), (8, .int .i64 (Int.ofNat i))]) (fun _ h6 => h6 = h5 ∧ i < n) ?_ ?_
      · refine wRun_of svx (by decide) ?_
        rintro (_ | _) c1
        · have hge := natGe c1
          exact ⟨(), ⟨rfl, trivial⟩, K5.mono (by omega), fun j h1 h2 => hadj j h1 (by omega)⟩
        · exact ⟨(), ⟨rfl, rfl, trivial⟩, rfl, natLt c1⟩
      rintro _ h6 ⟨rfl, hin⟩
      obtain ⟨x, hxi⟩ : ∃ x, zs[i]? = some x := ⟨_, List.getElem?_eq_getElem (by omega)⟩
      obtain ⟨y, hyi⟩ : ∃ y, zs[i - 1]? = some y := ⟨_, List.getElem?_eq_getElem (by omega)⟩
      obtain ⟨hex, hsx, _⟩ := (hEz.kept K5) x (List.mem_of_getElem? hxi)
      obtain ⟨hey, hsy, _⟩ := (hEz.kept K5) y (List.mem_of_getElem? hyi)
      refine wRun_mid (σ := Unit) (fun _ => [(7, .slc a' n c'), (8, .int .i64 (Int.ofNat i))]) (fun _ h7 => Kept 2 h6 h7 ∧ (SameN x y → EqD x.d y.d)) ?_ ?_
      · refine wRun_block rfl ?_
        refine wRun_mid (σ := Bool) (fun b => [(7, .slc a' n c'), (8, .int .i64 (Int.ofNat i)), (73, .bool b)]) (fun b h7 => Kept 2 h6 h7 ∧ (b = true ↔ SameN x y ∧ ¬ EqD x.d y.d)) ?_ ?_
        · refine wRun_of svx (by decide) ?_
          have hsl := O4.slr.kept K5
          obtain ⟨b', o, ea, la⟩ := hsl.at (i := i) (by omega)
          obtain ⟨b2, o2, ea2, lb⟩ := hsl.at (i := i - 1) (by omega)
          rw [ea] at ea2; cases ea2
          rw [(List.getElem?_eq_some_iff.1 hxi).2] at la
          rw [(List.getElem?_eq_some_iff.1 hyi).2] at lb
          rw [ea]
          refine ⟨i, rfl, hin, _, la.ld (f := 0) rfl (by decide) (by decide), i - 1, sub1 (by omega) (by omega), by omega, _, lb.ld (f := 0) rfl (by decide) (by decide), ?_⟩
          refine eq_step rfl rfl rfl (fun he => ?_) (fun he => ?_)
          · have hs : SameN x y := by simpa [SameN] using he
            refine ⟨i, rfl, hin, _, la.ld (f := 2) rfl (by decide) (by decide), i - 1, sub1 (by omega) (by omega), by omega, _, lb.ld (f := 2) rfl (by decide) (by decide), ?_⟩
            obtain ⟨r, h7, hc, K7, ir⟩ := same_D (D := d) (by omega) x.d y.d h6 (by omega) hex hey hsx
            refine ⟨_, _, hc, ?_⟩
            rintro _ rfl
            exact ⟨!r, ⟨rfl, rfl, rfl, trivial⟩, K7, by rw [← ir]; cases r <;> simp [hs]⟩
          · exact ⟨false, ⟨rfl, rfl, rfl, trivial⟩, Kept.refl _, by simp only [Bool.false_eq_true, false_iff]; exact fun hh => he (by rw [hh.1.1, hh.1.2])⟩
        rintro b h7 ⟨K7, ib⟩
        refine wRun_cond (t := b) rfl (fun hb => ?_) (fun hb => ?_)
        · refine wRun_of svx (by decide) ?_
          obtain ⟨hs, hne⟩ := ib.1 hb
          exact ⟨none, 0, 0, 6, rfl, (((K2.trans K4).trans K5).trans K7).mono (by omega), .inr (.inr ⟨hn3, hgood, .inl ⟨fun C => hne (C x (hsub x (List.mem_of_getElem? hxi)) y (hsub y (List.mem_of_getElem? hyi)) hs), rfl⟩⟩)⟩
        · refine wRun_of svx (by decide) ?_
          exact ⟨(), ⟨rfl, rfl, trivial⟩, K7, fun hs => Classical.byContradiction fun hne => by rw [ib.2 ⟨hs, hne⟩] at hb; cases hb⟩
      rintro _ h7 ⟨K7, hok⟩
      refine wRun_of svx (by decide) ?_
      refine ⟨i + 1, by omega, ⟨rfl, slot (add64 (a := i) (b := 1) (by omega)), trivial⟩, by omega, (K5.trans K7).mono (by omega), .inl (by omega), fun j h1 h2 u w hu hw => ?_⟩
      by_cases hji : j = i
      · subst hji; rw [hxi] at hu; rw [hyi] at hw; cases hu; cases hw; exact hok
      · exact hadj j h1 (by omega) u w hu hw
    rintro _ h5 ⟨K5, hadj⟩
    have n5 := K5.few
    have hC : Consist xs := fun x hx y hy => consist_of_adj hzl S4 hadj x (P4.mem_iff.2 hx) y (P4.mem_iff.2 hy)
    obtain ⟨d1, d2, d3⟩ := ddx_props hzl S4 n (Nat.le_refl n)
    have hDiff : Diff xs (ddx zs n) := ⟨d1, fun y hy => by
      obtain ⟨k, _, e⟩ := d2 y hy
      exact hsub y (List.mem_of_getElem? e), fun x hx => by
      obtain ⟨k, hk, e⟩ := List.getElem_of_mem (P4.mem_iff.2 hx)
      exact d3 k x (by omega) (by rw [← e]; exact List.getElem?_eq_getElem hk)⟩
    have O5 : OwnL h2 h5 63 XD.cells a' n c' zs := ⟨O4.len, O4.cap, by
      rcases O4.blk with q | ⟨b, q1, q2, q3⟩
      · exact .inl q
      · exact .inr ⟨b, q1, q2, q3.kept K5⟩⟩
    refine wRun_mid (σ := Unit) (fun _ => [(7, .slc a' (ddx zs n).length c')]) (fun _ h6 => SlR h6 63 XD.cells a' (ddx zs n).length (ddx zs n) ∧ KeptX (fun x => h2.next ≤ x) (2 * n) h5 h6) ?_ ?_
    · refine wRun_of svx (by decide) ?_
      obtain ⟨h6, hc, S6, K6⟩ := compactO (D := d) (by omega) O5 (by omega) (by omega)
      refine ⟨_, _, hc, ?_⟩
      exact ⟨(), ⟨rfl, trivial⟩, S6, K6⟩
    rintro _ h6 ⟨S6, K6⟩
    have Kall : Kept 200000 h1 h6 := (K2.trans ((K4.trans K5).thenX K6 fun i hi => hi)).mono (by omega)
    refine wRun_of svx (by decide) ?_
    rintro (_ | _) c1
    · have hle : (ddx zs n).length ≤ 120 := leI_len.1 (by simpa using c1)
      exact ⟨a', _, c', 0, rfl, Kall, .inr (.inr ⟨hn3, hgood, .inr ⟨hC, _, hDiff, .inr ⟨hle, rfl, S6⟩⟩⟩)⟩
    · have hlt : 120 < (ddx zs n).length := by
        have : ¬ leI (Int.ofNat (ddx zs n).length) (Int.ofNat 120) = true := by simpa using c1
        rw [leI_len] at this; omega
      exact ⟨none, 0, 0, 2, rfl, Kall, .inr (.inr ⟨hn3, hgood, .inr ⟨hC, _, hDiff, .inl ⟨hlt, rfl⟩⟩⟩)⟩
  obtain ⟨v, h', h1, a', m, c', e, rfl, h2, h3⟩ := this
  exact ⟨h', a', m, c', e, h1, h2, h3⟩
end Go.Proofs
end
