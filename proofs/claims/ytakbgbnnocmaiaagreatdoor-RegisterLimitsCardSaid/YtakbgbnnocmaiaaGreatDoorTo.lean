/- The specification's names: before, nameAt, placed. -/
import Derived.Test.YtakbgbnnocmaiaaGreatDoorTn
set_option linter.all false
section
namespace Go.Proofs
open Go.Sim Go.SortL
variable {D : Nat}

noncomputable def befB (v l v' l' : Int) : Bool := !leI v' v || (eqI v v' && !leI l' l)
theorem befB_iff {x y : XD} : befB x.v x.l y.v y.l = true ↔ ltN x y := by
  unfold befB ltN
  rw [Bool.or_eq_true, Bool.and_eq_true, eqI_iff]
  constructor
  · rintro (h | ⟨h1, h2⟩)
    · have := leI_f (by simpa using h : leI y.v x.v = false); omega
    · have := leI_f (by simpa using h2 : leI y.l x.l = false); omega
  · rintro (h | ⟨h1, h2⟩)
    · left
      cases hb : leI y.v x.v with
      | false => rfl
      | true => have := leI_iff.1 hb; omega
    · right
      refine ⟨h1, ?_⟩
      cases hb : leI y.l x.l with
      | false => rfl
      | true => have := leI_iff.1 hb; omega

set_option maxRecDepth 1000000 in
theorem before_x (hD : 1 ≤ D) (v l v' l' : Int) (h : H) (hn : h.next + 2 ≤ 1048576) : ∃ h', (GX D).call 82 [.agg (nmC v l), .agg (nmC v' l')] h = .ok (.bool (befB v l v' l')) h' ∧ Kept 2 h h' := by
  obtain ⟨d, rfl, hd⟩ := dsucc hD
  have : ∃ u h', (GX (d + 1)).call 82 [.agg (nmC v l), .agg (nmC v' l')] h = .ok u h' ∧ u = .bool (befB v l v' l') ∧ Kept 2 h h' := by
    refine call_w Tryz.func82 rfl ?_
    refine ⟨(room_iff h).2 (by omega), ?_⟩
    intro p1 h1 hp1 hh1
    obtain ⟨A1, K1⟩ := At.new (by omega) hp1 hh1
    have n1 := K1.few
    refine ⟨(room_iff h1).2 (by omega), ?_⟩
    intro p2 h2 hp2 hh2
    obtain ⟨A2, K2⟩ := At.new (by omega) hp2 hh2
    replace A1 := A1.kept K2
    have K := K1.trans K2
    clear hh1 hh2
    refine ⟨_, A1.ld rfl, _, A2.ld rfl, ?_⟩
    rintro (_ | _) k1
    · refine ⟨_, A1.ld rfl, _, A2.ld rfl, ?_⟩
      rintro (_ | _) k2
      · exact ⟨by simp only [befB, packA, k1, k2]; rfl, K⟩
      · refine ⟨_, A1.ld rfl, _, A2.ld rfl, ?_⟩
        rintro (_ | _) k3
        · exact ⟨by simp only [befB, packA, k1, k2, k3]; rfl, K⟩
        · exact ⟨by simp only [befB, packA, k1, k2, k3]; rfl, K⟩
    · exact ⟨by simp only [befB, packA, k1]; rfl, K⟩
  obtain ⟨u, h', h1, rfl, h2⟩ := this
  exact ⟨h', h1, h2⟩

set_option maxRecDepth 1000000 in
theorem nameAt_x (hD : 1 ≤ D) (a : SL) (n c : Nat) (xs : List XD) (y : XD) (h : H) (hn : h.next + 1 ≤ 1048576) (hx : SlR h 63 XD.cells a n xs) (hF : n < 100000) :
    ∃ r h', (GX D).call 50 [.slc a n c, .agg (nmC y.v y.l)] h = .ok (.int .i64 r) h' ∧ Kept 1 h h' ∧ ((∃ (i : Nat) (x : XD), r = Int.ofNat i ∧ xs[i]? = some x ∧ SameN x y) ∨ (r = -1 ∧ ∀ x ∈ xs, ¬ SameN x y)) := by
  obtain ⟨d, rfl, hd⟩ := dsucc hD
  have hxl := hx.1
  have : ∃ u h', (GX (d + 1)).call 50 [.slc a n c, .agg (nmC y.v y.l)] h = .ok u h' ∧ ∃ r, u = .int .i64 r ∧ Kept 1 h h' ∧ ((∃ (i : Nat) (x : XD), r = Int.ofNat i ∧ xs[i]? = some x ∧ SameN x y) ∨ (r = -1 ∧ ∀ x ∈ xs, ¬ SameN x y)) := by
    refine call_run Tryz.func50 rfl rfl (Nat.le_of_ble_eq_true rfl) (by decide) ?_
    refine wRun_seq svx (by decide) ?_
    refine ⟨(room_iff h).2 (by omega), ?_⟩
    intro p h1 hp hh
    obtain ⟨A1, K1⟩ := At.new (by omega) hp hh
    have hx1 := hx.kept K1
    clear hh
    refine wRun_mid (σ := Unit) (fun _ => []) (fun _ h2 => h2 = h1 ∧ ∀ x ∈ xs, ¬ SameN x y) ?_ ?_
    · refine wRun_seq svx (by decide) ?_
      refine wRun_block rfl ?_
      refine wLoopR (σ := Nat) (fun i => [(0, .slc a n c), (3, .ptr (some (p, 0))), (5, .int .i64 (Int.ofNat i))]) (fun i h2 => h2 = h1 ∧ i ≤ n ∧ ∀ (j : Nat) (x : XD), j < i → xs[j]? = some x → ¬ SameN x y) (fun i => n - i) 0
        (by rw [gN_fuel]; show n - 0 < 1000000; omega) ⟨rfl, rfl, rfl, trivial⟩ ⟨rfl, Nat.zero_le _, fun j x hj => absurd hj (Nat.not_lt_zero _)⟩ ?_
      rintro i h2 ⟨rfl, hi, hall⟩
      refine wRun_mid (σ := Unit) (fun _ => [(0, .slc a n c), (3, .ptr (some (p, 0))), (5, .int .i64 (Int.ofNat i))]) (fun _ h3 => h3 = h2 ∧ i < n) ?_ ?_
      · refine wRun_of svx (by decide) ?_
        rintro (_ | _) c1
        · have hge := natGe c1
          refine ⟨(), trivial, rfl, fun x hx => ?_⟩
          obtain ⟨j, hj, rfl⟩ := List.getElem_of_mem hx
          exact hall j _ (by omega) (List.getElem?_eq_getElem hj)
        · exact ⟨(), ⟨rfl, rfl, rfl, trivial⟩, rfl, natLt c1⟩
      rintro _ h3 ⟨rfl, hin⟩
      obtain ⟨x, hxi⟩ : ∃ x, xs[i]? = some x := ⟨_, List.getElem?_eq_getElem (by omega)⟩
      obtain ⟨b', o, ea, la⟩ := hx1.at (i := i) (by omega)
      rw [(List.getElem?_eq_some_iff.1 hxi).2] at la
      subst ea
      refine wRun_mid (σ := Unit) (fun _ => [(0, .slc (some (b', o)) n c), (3, .ptr (some (p, 0))), (5, .int .i64 (Int.ofNat i))]) (fun _ h4 => h4 = h3 ∧ ¬ SameN x y) ?_ ?_
      · refine wRun_block rfl ?_
        refine wRun_of svx (by decide) ?_
        refine ⟨i, rfl, hin, _, la.ld (f := 0) rfl (by decide) (by decide), _, A1.ld rfl, ?_⟩
        refine eq_step rfl rfl rfl (fun he => ?_) (fun he => ?_)
        · exact ⟨Int.ofNat i, rfl, K1, .inl ⟨i, x, rfl, hxi, by simpa [SameN, nmC] using he⟩⟩
        · exact ⟨(), ⟨rfl, rfl, rfl, trivial⟩, rfl, fun hs => he (by rw [hs.1, hs.2])⟩
      rintro _ h4 ⟨rfl, hne⟩
      refine wRun_of svx (by decide) ?_
      refine ⟨i + 1, by omega, ⟨rfl, rfl, slot (add64 (a := i) (b := 1) (by omega)), trivial⟩, rfl, hin, fun j z hj hz => ?_⟩
      by_cases hji : j = i
      · subst hji; rw [hxi] at hz; cases hz; exact hne
      · exact hall j z (by omega) hz
    rintro _ h2 ⟨rfl, hno⟩
    refine wRun_of svx (by decide) ?_
    exact ⟨-1, rfl, K1, .inr ⟨rfl, hno⟩⟩
  obtain ⟨u, h', h1, r, rfl, h2, h3⟩ := this
  exact ⟨r, h', h1, h2, h3⟩
end Go.Proofs
end
section
/- The specification's 'placed'. -/
namespace Go.Proofs
open Go.Sim Go.SortL
variable {D : Nat}

theorem ARows.take {h : H} {k : Nat} {a : SL} {rows : List (List AVal)} (E : ARows h k a rows) (i : Nat) : ARows h k a (rows.take i) := by
  rcases E with E | ⟨b, off, vs, esz, opn, frz, pars, h1, h2, h3, h4⟩
  · left; rw [E, List.take_nil]
  · refine .inr ⟨b, off, vs, esz, opn, frz, pars, h1, h2, h3, fun j r hr => h4 j r ?_⟩
    rw [List.getElem?_take] at hr
    split at hr
    · exact hr
    · cases hr

theorem ARows.drop {h : H} {k b off : Nat} {rows : List (List AVal)} (E : ARows h k (some (b, off)) rows) (i : Nat) : ARows h k (some (b, Nat.add off (Nat.mul i k))) (rows.drop i) := by
  rcases E with E | ⟨b', off', vs, esz, opn, frz, pars, h1, h2, h3, h4⟩
  · left; rw [E, List.drop_nil]
  · cases h1
    refine .inr ⟨b, _, vs, esz, opn, frz, pars, rfl, h2, h3, fun j r hr => ?_⟩
    rw [List.getElem?_drop] at hr
    obtain ⟨q1, q2⟩ := h4 (i + j) r hr
    refine ⟨q1, ?_⟩
    have e : Nat.add (Nat.add off (Nat.mul i k)) (Nat.mul j k) = Nat.add off (Nat.mul (i + j) k) := by simp only [natAdd, natMul, Nat.add_mul]; omega
    rw [e]; exact q2

theorem SlR.take {α : Type} {h : H} {k : Nat} {enc : α → List AVal} {a : SL} {n : Nat} {xs : List α} (R : SlR h k enc a n xs) {i : Nat} (hi : i ≤ n) : SlR h k enc a i (xs.take i) :=
  ⟨by rw [List.length_take, R.1]; omega, by rw [List.map_take]; exact ARows.take R.2 i⟩
theorem SlR.drop {α : Type} {h : H} {k b off : Nat} {enc : α → List AVal} {n : Nat} {xs : List α} (R : SlR h k enc (some (b, off)) n xs) (i : Nat) : SlR h k enc (some (b, Nat.add off (Nat.mul i k))) (n - i) (xs.drop i) :=
  ⟨by rw [List.length_drop, R.1], by rw [List.map_drop]; exact ARows.drop R.2 i⟩

/-- a list that was made by appending: nothing, or some elements in a block -/
structure Made (h : H) (a : SL) (n : Nat) (xs : List XD) : Prop where
  g : Grow h 63 a n n (xs.map XD.cells)
  ne : a ≠ none → 1 ≤ n

theorem Made.slr {h : H} {a : SL} {n : Nat} {xs : List XD} (M : Made h a n xs) : SlR h 63 XD.cells a n xs := ⟨by have := M.g.len; simpa using this.symm, M.g.rows⟩
theorem Made.kept {k : Nat} {h h' : H} (K : Kept k h h') {a : SL} {n : Nat} {xs : List XD} (M : Made h a n xs) : Made h' a n xs := ⟨Grow.kept K M.g, M.ne⟩

theorem Made.front {h : H} {a : SL} {n : Nat} {xs : List XD} (M : Made h a n xs) {i : Nat} (hi : i ≤ n) : ∃ c, sliceA h 63 a n n none (some (Int.ofNat i)) none = some (.slc a i c) := by
  have hb : bounds2 n n none (some (Int.ofNat i)) = some (0, i) := by
    show ob (sel (Nat.ble i n) (some i) none) (fun h => some (0, h)) = _
    rw [natBle, decide_eq_true hi]
  have hs : sliceA h 63 a n n none (some (Int.ofNat i)) none = slice2 h 63 a n 0 i := by
    show ob (bounds2 n n none (some (Int.ofNat i))) (fun p' => slice2 h 63 a n p'.1 p'.2) = _
    rw [hb]
  rw [hs]
  rcases M.g.blk with ⟨rfl, hr⟩ | ⟨b, opn, pars, rfl, hlt, hg⟩
  · have hn0 : n = 0 := by rw [M.g.len, hr]; rfl
    subst hn0
    have : i = 0 := by omega
    subst this
    exact ⟨0, rfl⟩
  · have h1 := M.ne (by simp)
    refine ⟨n, ?_⟩
    show sel (Nat.beq n 0) _ (sel (Nat.ble 0 n && eszOk h 63 (some (b, 0))) _ none) = _
    have q1 : Nat.beq n 0 = false := by rw [natBeq]; exact decide_eq_false (by omega)
    have q2 : Nat.ble 0 n = true := by rw [natBle]; exact decide_eq_true (by omega)
    have q3 : eszOk h 63 (some (b, 0)) = true := by
      have : eszE 63 (some (AObj.cells (xs.map XD.cells).flatten 63 opn false pars)) = true := by cases opn <;> rfl
      rw [← hg] at this; exact this
    rw [q1, q2, q3]
    rfl

theorem Made.back {h : H} {a : SL} {n : Nat} {xs : List XD} (M : Made h a n xs) {i : Nat} (hi : i ≤ n) : ∃ a' c, sliceA h 63 a n n (some (Int.ofNat i)) none none = some (.slc a' (n - i) c) ∧ SlR h 63 XD.cells a' (n - i) (xs.drop i) := by
  have hb : bounds2 n n (some (Int.ofNat i)) none = some (i, n) := by
    show ob (sel (Nat.ble i n) (some i) none) (fun q => some (q, n)) = _
    rw [natBle, decide_eq_true hi]
  have hs : sliceA h 63 a n n (some (Int.ofNat i)) none none = slice2 h 63 a n i n := by
    show ob (bounds2 n n (some (Int.ofNat i)) none) (fun p' => slice2 h 63 a n p'.1 p'.2) = _
    rw [hb]
  rw [hs]
  have hxl := M.slr.1
  rcases M.g.blk with ⟨rfl, hr⟩ | ⟨b, opn, pars, rfl, hlt, hg⟩
  · have hn0 : n = 0 := by rw [M.g.len, hr]; rfl
    subst hn0
    have : i = 0 := by omega
    subst this
    exact ⟨none, 0, rfl, by have : xs = [] := List.eq_nil_of_length_eq_zero hxl
                            subst this; exact SlR.none⟩
  · by_cases hin : i = n
    · subst hin
      have hd : xs.drop i = [] := List.drop_eq_nil_of_le (by omega)
      have q1 : Nat.beq i i = true := by rw [natBeq]; exact decide_eq_true rfl
      have hsl : slice2 h 63 (some (b, 0)) i i i = sel (closedEnd h 63 (some (b, 0)) i) (some (AVal.slc (some (b, 0)) (Nat.sub i i) (Nat.sub i i))) (ambEnd h 63 (some (b, 0)) i) := by
        show sel (Nat.beq i i) (sel (closedEnd h 63 (some (b, 0)) i) (some (AVal.slc (some (b, 0)) (Nat.sub i i) (Nat.sub i i))) (sel (Nat.beq i i) (ambEnd h 63 (some (b, 0)) i) none)) _ = _
        rw [q1]
      have e0 : Nat.sub i i = 0 := Nat.sub_self i
      rw [hsl, e0, hd, Nat.sub_self]
      cases hc : closedEnd h 63 (some (b, 0)) i with
      | true => exact ⟨some (b, 0), 0, rfl, ⟨rfl, .inl rfl⟩⟩
      | false =>
        cases opn with
        | false =>
          have : closedEnd h 63 (some (b, 0)) i = true := by
            show sel (Nat.ble amb 0) false (closedE 63 0 i (h.get b)) = true
            rw [hg]; rfl
          rw [hc] at this; cases this
        | true =>
          refine ⟨some (b, amb), 0, ?_, ⟨rfl, .inl rfl⟩⟩
          show sel (ambOk 63 i (h.get b)) (some (AVal.slc (some (b, amb)) 0 0)) none = _
          rw [hg]
          show sel (sel true (sel (Nat.beq 63 63) (Nat.beq (Nat.mul i 63) (Sim.len (xs.map XD.cells).flatten)) false) false) _ none = _
          have : Nat.beq (Nat.mul i 63) (Sim.len (xs.map XD.cells).flatten) = true := by
            rw [natBeq, len_eq, natMul, flatten_len (sz := 63) XA.rowlen, List.length_map]; exact decide_eq_true (by rw [hxl])
          rw [this]; rfl
    · refine ⟨some (b, Nat.add 0 (Nat.mul i 63)), n - i, ?_, SlR.drop M.slr i⟩
      show sel (Nat.beq n i) _ (sel (Nat.ble i n && eszOk h 63 (some (b, 0))) _ none) = _
      have q1 : Nat.beq n i = false := by rw [natBeq]; exact decide_eq_false (by omega)
      have q2 : Nat.ble i n = true := by rw [natBle]; exact decide_eq_true (by omega)
      have q3 : eszOk h 63 (some (b, 0)) = true := by
        have : eszE 63 (some (AObj.cells (xs.map XD.cells).flatten 63 opn false pars)) = true := by cases opn <;> rfl
        rw [← hg] at this; exact this
      rw [q1, q2, q3]
      rfl

/-- any number of elements is appended -/
theorem Made.app {h0 h : H} {a : SL} {n : Nat} {xs : List XD} (M : Made h a n xs) (hc : h.next < 1048576) (h0n : h0.next ≤ h.next) (hown : ∀ b, a = some (b, 0) → h0.next ≤ b) (ys : List XD) (hsm : n + ys.length ≤ 1000000) :
    ∃ h' a', (∀ d x e kk, appendA d x e h kk 63 568 a n n ys.length (ys.map XD.cells).flatten = (putF d).run (.slc a' (n + ys.length) (n + ys.length)) x e h' kk) ∧ Made h' a' (n + ys.length) (xs ++ ys) ∧
      KeptX (fun b => a = some (b, 0)) 1 h h' ∧ ∀ b, a' = some (b, 0) → h0.next ≤ b := by
  by_cases hy : ys = []
  · subst hy
    exact ⟨h, a, append_zero (Nat.le_refl n), by simpa using M, KeptX.refl h, hown⟩
  · have hl : (xs.map XD.cells).length = n := M.g.len.symm
    obtain ⟨h', a', hq, G', K', rfl, _⟩ := M.g.app (bytes := 568) (new := ys.map XD.cells) hc XA.rowlen (by simpa using hy) (by decide) (by decide) (by decide)
      (by rw [List.length_map]; omega) (by rw [hl]; exact Nat.lt_of_le_of_lt (Nat.mul_le_mul_right 63 (by omega : n ≤ 1000000)) (by decide)) (plains_flat (fun _ => rfl) ys)
    rw [List.length_map] at hq G'
    refine ⟨h', _, hq, ⟨by rw [List.map_append]; exact G', fun _ => ?_⟩, K', fun b hb => by cases hb; exact h0n⟩
    have : ys.length ≠ 0 := fun he => hy (List.eq_nil_of_length_eq_zero he)
    omega

set_option maxRecDepth 1000000 in
set_option maxHeartbeats 2000000 in
theorem placed_x (hD : 2 ≤ D) (a : SL) (n : Nat) (xs : List XD) (x : XD) (h : H) (M : Made h a n xs) (hn3 : n ≤ 1000) (hn : h.next + (2 * n + 10) ≤ 1048576) :
    ∃ h' a' k, (GX D).call 51 [.slc a n n, .agg x.cells] h = .ok (.slc a' (n + 1) (n + 1)) h' ∧ Kept (2 * n + 10) h h' ∧ Made h' a' (n + 1) (xs.take k ++ x :: xs.drop k) ∧ k ≤ n ∧ (∀ (j : Nat) (y : XD), j < k → xs[j]? = some y → ltN y x) ∧ (∀ y, xs[k]? = some y → ¬ ltN y x) ∧ (∀ b, a' = some (b, 0) → h.next ≤ b) := by
  obtain ⟨d, rfl, hd⟩ := dsucc hD
  have hxl := M.slr.1
  have : ∃ u h', (GX (d + 1)).call 51 [.slc a n n, .agg x.cells] h = .ok u h' ∧ ∃ a' k, u = .slc a' (n + 1) (n + 1) ∧ Kept (2 * n + 10) h h' ∧ Made h' a' (n + 1) (xs.take k ++ x :: xs.drop k) ∧ k ≤ n ∧ (∀ (j : Nat) (y : XD), j < k → xs[j]? = some y → ltN y x) ∧ (∀ y, xs[k]? = some y → ¬ ltN y x) ∧ (∀ b, a' = some (b, 0) → h.next ≤ b) := by
    refine call_run Tryz.func51 rfl rfl (Nat.le_of_ble_eq_true rfl) (by decide) ?_
    refine wRun_seq svx (by decide) ?_
    refine ⟨(room_iff h).2 (by omega), ?_⟩
    intro p h1 hp hh
    obtain ⟨A1, K1⟩ := At.new (by omega) hp hh
    clear hh
    have n1 := K1.few
    refine wRun_seq svx (by decide) ?_
    refine wRun_mid (σ := Nat) (fun k => [(0, .slc a n n), (3, .ptr (some (p, 0))), (5, .int .i64 (Int.ofNat k))]) (fun k h2 => Kept (2 * n) h1 h2 ∧ k ≤ n ∧ (∀ (j : Nat) (y : XD), j < k → xs[j]? = some y → ltN y x) ∧ (∀ y, xs[k]? = some y → ¬ ltN y x)) ?_ ?_
    · refine wRun_block rfl ?_
      refine wLoopR (σ := Nat) (fun k => [(0, .slc a n n), (3, .ptr (some (p, 0))), (5, .int .i64 (Int.ofNat k))]) (fun k h2 => Kept (2 * k) h1 h2 ∧ k ≤ n ∧ (∀ (j : Nat) (y : XD), j < k → xs[j]? = some y → ltN y x)) (fun k => n - k) 0
        (by rw [gN_fuel]; show n - 0 < 1000000; omega) ⟨rfl, rfl, rfl, trivial⟩ ⟨Kept.refl h1, Nat.zero_le _, fun j y hj => absurd hj (Nat.not_lt_zero _)⟩ ?_
      rintro k h2 ⟨K2, hk, hall⟩
      have n2 := K2.few
      refine wRun_mid (σ := Unit) (fun _ => [(0, .slc a n n), (3, .ptr (some (p, 0))), (5, .int .i64 (Int.ofNat k))]) (fun _ h3 => Kept 2 h2 h3 ∧ k < n ∧ ∀ y, xs[k]? = some y → ltN y x) ?_ ?_
      · refine wRun_mid (σ := Bool) (fun b => [(0, .slc a n n), (3, .ptr (some (p, 0))), (5, .int .i64 (Int.ofNat k)), (20, .bool b)]) (fun b h3 => ((b = true ∧ Kept 2 h2 h3 ∧ k < n ∧ ∀ y, xs[k]? = some y → ltN y x) ∨ (b = false ∧ (k < n → Kept 2 h2 h3) ∧ (n ≤ k → h3 = h2) ∧ ∀ y, xs[k]? = some y → ¬ ltN y x))) ?_ ?_
        · refine wRun_of svx (by decide) ?_
          rintro (_ | _) c1
          · have hge := natGe c1
            exact ⟨false, ⟨rfl, rfl, rfl, rfl, trivial⟩, .inr ⟨rfl, fun h => by omega, fun _ => rfl, fun y hy => by have := (List.getElem?_eq_some_iff.1 hy).1; omega⟩⟩
          · have hlt := natLt c1
            obtain ⟨y, hy⟩ : ∃ y, xs[k]? = some y := ⟨_, List.getElem?_eq_getElem (by omega)⟩
            obtain ⟨b', o, ea, la⟩ := ((M.slr.kept K1).kept K2).at (i := k) (by omega)
            rw [(List.getElem?_eq_some_iff.1 hy).2] at la
            subst ea
            refine ⟨k, rfl, hlt, _, la.ld (f := 0) rfl (by decide) (by decide), _, (A1.kept K2).ld rfl, ?_⟩
            obtain ⟨h3, hc, K3⟩ := before_x (D := d) (by omega) y.v y.l x.v x.l h2 (by omega)
            refine ⟨_, _, hc, ?_⟩
            rintro (_ | _) c2
            · exact ⟨false, ⟨rfl, rfl, rfl, rfl, trivial⟩, .inr ⟨rfl, fun _ => K3, fun h => by omega, fun z hz hl => by rw [hy] at hz; cases hz; rw [befB_iff.2 hl] at c2; cases c2⟩⟩
            · exact ⟨true, ⟨rfl, rfl, rfl, rfl, trivial⟩, .inl ⟨rfl, K3, hlt, fun z hz => by rw [hy] at hz; cases hz; exact befB_iff.1 c2⟩⟩
        rintro b h3 hor
        refine wRun_cond (t := b) rfl (fun hb => ?_) (fun hb => ?_)
        · refine wRun_of svx (by decide) ?_
          rcases hor with ⟨_, q⟩ | ⟨q, _⟩
          · exact ⟨(), ⟨rfl, rfl, rfl, trivial⟩, q⟩
          · rw [hb] at q; cases q
        · refine wRun_of svx (by decide) ?_
          rcases hor with ⟨q, _⟩ | ⟨_, q1, q2, q3⟩
          · rw [hb] at q; cases q
          · refine ⟨k, ⟨rfl, rfl, rfl, trivial⟩, ?_, hk, hall, q3⟩
            by_cases hkn : k < n
            · exact (K2.trans (q1 hkn)).mono (by omega)
            · rw [q2 (by omega)]; exact K2.mono (by omega)
      rintro _ h3 ⟨K3, hkn, hlt⟩
      refine wRun_block rfl ?_
      refine wRun_of svx (by decide) ?_
      refine ⟨k + 1, by omega, ⟨rfl, rfl, slot (add64 (a := k) (b := 1) (by omega)), trivial⟩, (K2.trans K3).mono (by omega), hkn, fun j y hj hy => ?_⟩
      by_cases hjk : j = k
      · subst hjk; exact hlt y hy
      · exact hall j y (by omega) hy
    rintro k h2 ⟨K2, hk, hall, hnot⟩
    have n2 := K2.few
    have K12 := K1.trans K2
    have M2 := M.kept K12
    refine wRun_seq svx (by decide) ?_
    -- the first part
    obtain ⟨c1, hs1⟩ := M2.front hk
    have M0 : Made h2 none 0 [] := ⟨⟨rfl, rfl, .inl ⟨rfl, rfl⟩, fun r hr => by cases hr⟩, fun h => absurd rfl h⟩
    have r1 := slr_read (c := c1) (M2.slr.take hk)
    obtain ⟨h3, a3, q3, M3, K3, o3⟩ := M0.app (h0 := h1) (by omega) K2.next (fun b hb => by cases hb) (xs.take k) (by rw [List.length_take]; omega)
    have n3 := K3.few
    have e3 : (xs.take k).length = k := by rw [List.length_take]; omega
    rw [e3, Nat.zero_add] at q3 M3
    rw [List.nil_append] at M3
    have Kh3 : Kept (1 + 2 * n + 1) h h3 := K12.thenX K3 fun i hi => (by cases hi)
    have A3 : At h3 p x.cells 63 := (A1.kept K2).keptX K3 (fun he => by cases he)
    have l1 := A1.lt
    have hp1 : h.next ≤ h1.next := K1.next
    have hp3 : h1.next ≤ h3.next := Nat.le_trans K2.next K3.next
    refine wRun_mid (σ := Unit) (fun _ => [(0, .slc a n n), (3, .ptr (some (p, 0))), (5, .int .i64 (Int.ofNat k)), (6, .slc a3 k k)]) (fun _ h' => h' = h3) ?_ ?_
    · refine wRun_of svx (by decide) ?_
      refine ⟨_, hs1, ?_⟩
      refine ⟨_, _, appF_run rfl rfl rfl el22 sec22 rfl rfl r1 q3, ?_⟩
      exact ⟨(), ⟨rfl, rfl, rfl, rfl, trivial⟩, rfl⟩
    rintro _ h3 rfl
    -- the element
    obtain ⟨A4, K4⟩ := At.new (h := h3) (h' := h3.alloc (.cells x.cells 63 false false [])) (by omega) rfl rfl
    have n4 := K4.few
    have r2 : readSl (h3.alloc (.cells x.cells 63 false false [])) 63 (.slc (some (h3.next, 0)) 1 1) = some ([x].length, ([x].map XD.cells).flatten) :=
      slr_read (xs := [x]) (enc := XD.cells) ⟨rfl, rows_ok A4.lt (by rw [A4.get]; rfl) XA.rowlen⟩
    obtain ⟨h5, a5, q5, M5, K5, o5⟩ := (M3.kept K4).app (h0 := h1) (by omega) (Nat.le_trans hp3 K4.next) o3 [x] (by simp; omega)
    have n5 := K5.few
    have Kh5 : Kept (1 + 2 * n + 1 + 1 + 1) h h5 := (Kh3.trans K4).thenX K5 fun i hi => by have := o3 i hi; omega
    have hp5 : h1.next ≤ h5.next := Nat.le_trans hp3 (Nat.le_trans K4.next K5.next)
    refine wRun_mid (σ := Unit) (fun _ => [(0, .slc a n n), (5, .int .i64 (Int.ofNat k)), (6, .slc a5 (k + 1) (k + 1))]) (fun _ h' => h' = h5) ?_ ?_
    · refine wRun_of svx (by decide) ?_
      refine ⟨_, A3.ld rfl, ?_⟩
      refine ⟨_, _, buildSl_run el22 rfl rfl (by decide) ((room_iff h3).2 (by omega)), ?_⟩
      refine ⟨_, _, appF_run rfl rfl rfl el22 sec22 rfl rfl r2 q5, ?_⟩
      exact ⟨(), ⟨rfl, rfl, rfl, trivial⟩, rfl⟩
    rintro _ h5 rfl
    -- the rest
    have Mk := M.kept Kh5
    obtain ⟨a6, c6, hs6, R6⟩ := Mk.back hk
    have r3 := slr_read (c := c6) R6
    have e6 : (xs.drop k).length = n - k := by rw [List.length_drop, hxl]
    obtain ⟨h7, a7, q7, M7, K7, o7⟩ := M5.app (h0 := h1) (by omega) hp5 o5 (xs.drop k) (by rw [e6]; simp; omega)
    have hlen : k + [x].length + (xs.drop k).length = n + 1 := by rw [e6]; simp; omega
    rw [hlen] at M7
    rw [hlen] at q7
    rw [e6] at q7
    have hlist : xs.take k ++ [x] ++ xs.drop k = xs.take k ++ x :: xs.drop k := by simp
    rw [hlist] at M7
    refine wRun_of svx (by decide) ?_
    refine ⟨_, hs6, ?_⟩
    refine ⟨_, _, appF_run rfl rfl rfl el22 sec22 rfl rfl r3 q7, ?_⟩
    refine ⟨a7, k, rfl, (Kh5.thenX K7 fun i hi => by have := o5 i hi; omega).mono (by omega), M7, hk, hall, hnot, fun b hb => by have := o7 b hb; omega⟩
  obtain ⟨u, h', h1, a', k, rfl, h2⟩ := this
  exact ⟨h', a', k, h1, h2⟩
end Go.Proofs
end
section
/- The specification's 'Different'. -/
namespace Go.Proofs
open Go.Sim Go.SortL
variable {D : Nat}

theorem pw_unique {ys : List XD} (P : ys.Pairwise ltN) {x y : XD} (hx : x ∈ ys) (hy : y ∈ ys) (h : SameN x y) : x = y := by
  obtain ⟨i, hi, rfl⟩ := List.getElem_of_mem hx
  obtain ⟨j, hj, rfl⟩ := List.getElem_of_mem hy
  rcases Nat.lt_trichotomy i j with q | q | q
  · exact absurd h (ltN_ne (List.pairwise_iff_getElem.1 P i j hi hj q))
  · subst q; rfl
  · exact absurd h.symm (ltN_ne (List.pairwise_iff_getElem.1 P j i hj hi q))

/-- an element is put into its place -/
theorem pw_insert {ys : List XD} (P : ys.Pairwise ltN) {x : XD} {k : Nat} (h1 : ∀ (j : Nat) (y : XD), j < k → ys[j]? = some y → ltN y x) (h2 : ∀ y, ys[k]? = some y → ¬ ltN y x) (hne : ∀ y ∈ ys, ¬ SameN y x) : (ys.take k ++ x :: ys.drop k).Pairwise ltN := by
  have htot : ∀ y, y ∈ ys → ¬ ltN y x → ltN x y := fun y hy hn => by
    have := hne y hy
    unfold ltN SameN at *; omega
  have hP : (ys.take k ++ ys.drop k).Pairwise ltN := by rw [List.take_append_drop]; exact P
  obtain ⟨p1, p2, p3⟩ := List.pairwise_append.1 hP
  refine List.pairwise_append.2 ⟨p1, List.pairwise_cons.2 ⟨fun y hy => ?_, p2⟩, fun y hy z hz => ?_⟩
  · cases hd : ys.drop k with
    | nil => rw [hd] at hy; cases hy
    | cons w r =>
      have hwk : ys[k]? = some w := by
        have : (ys.drop k)[0]? = some w := by rw [hd]; rfl
        rw [List.getElem?_drop, Nat.add_zero] at this; exact this
      have hwm : w ∈ ys := List.mem_of_getElem? hwk
      have hxw := htot w hwm (h2 w hwk)
      rw [hd] at hy p2
      rcases List.mem_cons.1 hy with rfl | hy
      · exact hxw
      · exact leN_ltN (ltN_le hxw) ((List.pairwise_cons.1 p2).1 y hy)
  · have hyx : ltN y x := by
      obtain ⟨j, hj, rfl⟩ := List.getElem_of_mem hy
      rw [List.length_take] at hj
      refine h1 j _ (by omega) ?_
      rw [List.getElem_take]
      exact List.getElem?_eq_getElem _
    rcases List.mem_cons.1 hz with rfl | hz
    · exact hyx
    · exact p3 y hy z hz

/-- what Different returns -/
def DRes (xs : List XD) (n : Nat) (h' : H) (a : SL) (m : Nat) (e : Int) : Prop := (Err xs n e ∧ a = none ∧ m = 0) ∨ (e = 0 ∧ ∃ ys, Suc xs n ys ∧ SlR h' 63 XD.cells a m ys)

theorem Made.keptX {X : Nat → Prop} {k : Nat} {h h' : H} (K : KeptX X k h h') {a : SL} {n : Nat} {xs : List XD} (M : Made h a n xs) (hX : ∀ b, a = some (b, 0) → ¬ X b) : Made h' a n xs := by
  refine ⟨⟨M.g.len, M.g.cap, ?_, M.g.row⟩, M.ne⟩
  rcases M.g.blk with q | ⟨b, o, p, q1, q2, q3⟩
  · exact .inl q
  · exact .inr ⟨b, o, p, q1, Nat.lt_of_lt_of_le q2 K.next, (K.get b q2 (hX b q1)).trans q3⟩

set_option maxRecDepth 1000000 in
set_option maxHeartbeats 2000000 in
theorem different_x (hD : 7 ≤ D) (a : SL) (n c : Nat) (xs : List XD) (h : H) (hx : SlR h 63 XD.cells a n xs) (hE : EList h xs) (hn4 : n ≤ 400) (hn : h.next + 320000 ≤ 1048576) :
    ∃ h' a' m c' e, (GX D).call 19 [.slc a n c] h = .ok (.agg [.slc a' m c', .int .i64 e]) h' ∧ Kept 320000 h h' ∧ DRes xs n h' a' m e := by
  obtain ⟨d, rfl, hd⟩ := dsucc hD
  have : ∃ v h', (GX (d + 1)).call 19 [.slc a n c] h = .ok v h' ∧ ∃ a' m c' e, v = .agg [.slc a' m c', .int .i64 e] ∧ Kept 320000 h h' ∧ DRes xs n h' a' m e := by
    have hxl := hx.1
    refine call_run Tryz.func19 rfl rfl (Nat.le_of_ble_eq_true rfl) (by decide) ?_
    refine wRun_seq svx (by decide) ?_
    refine ⟨(room_iff h).2 (by omega), ?_⟩
    intro p h1 hp hh
    obtain ⟨A1, K1⟩ := At.new (by omega) hp hh
    clear hh
    have n1 := K1.few
    have lp := A1.lt
    -- an error: it is written, and returned
    have ret : ∀ (h2 h3 : H) (vs : List AVal) (a' : SL) (m c' : Nat) (e : Int), a' = none → m = 0 → Kept 300000 h1 h2 → At h2 p vs 2 → h3 = (kill h2 []).setO p (.cells [.slc a' m c', .int .i64 e] 2 false false []) → Err xs n e →
        (At h3 p [.slc a' m c', .int .i64 e] 2 ∧ Kept 320000 h h3 ∧ DRes xs n h3 a' m e) := fun h2 h3 vs a' m c' e ha hm K2 A2 hh hE => by
      have n2 := K2.few
      obtain ⟨A3, K3⟩ := A2.st (by omega) hh
      have K12 : Kept (1 + 300000) h h2 := K1.trans K2
      exact ⟨A3, (K12.thenX K3 fun i hi => by rw [hi, hp]; exact Nat.le_refl _).mono (by omega), .inl ⟨hE, ha, hm⟩⟩
    refine wRun_mid (σ := Unit) (fun _ => [(0, .slc a n c), (2, .ptr (some (p, 0)))]) (fun _ h2 => h2 = h1 ∧ n ≤ 360) ?_ ?_
    · refine wRun_of svx (by decide) ?_
      rintro (_ | _) c1
      · exact ⟨(), ⟨rfl, rfl, trivial⟩, rfl, leI_len.1 (by simpa using c1)⟩
      · have hlt : 360 < n := by
          have : ¬ leI (Int.ofNat n) (Int.ofNat 360) = true := by simpa using c1
          rw [leI_len] at this; omega
        refine ⟨rfl, _, _, _, _, _, A1.get, rfl, rfl, ?_⟩
        intro h2 hh2
        obtain ⟨A2, K2, r⟩ := ret h1 h2 _ none 0 0 2 rfl rfl (Kept.refl _) A1 hh2 (.inl ⟨hlt, rfl⟩)
        exact ⟨_, A2.ld rfl, none, 0, 0, 2, rfl, K2, r⟩
    rintro _ h2 ⟨rfl, hn3⟩
    refine wRun_mid (σ := Unit) (fun _ => [(0, .slc a n c), (2, .ptr (some (p, 0)))]) (fun _ h3 => Kept (41 * n) h2 h3 ∧ ∀ x ∈ xs, Good x) ?_ ?_
    · refine wRun_seq svx (by decide) ?_
      refine wRun_block rfl ?_
      refine wLoopR (σ := Nat) (fun i => [(0, .slc a n c), (2, .ptr (some (p, 0))), (3, .int .i64 (Int.ofNat i))]) (fun i h3 => i ≤ n ∧ Kept (41 * i) h2 h3 ∧ ∀ (j : Nat) (x : XD), j < i → xs[j]? = some x → Good x) (fun i => n - i) 0
        (by rw [gN_fuel]; show n - 0 < 1000000; omega) ⟨rfl, rfl, rfl, trivial⟩ ⟨Nat.zero_le _, Kept.refl h2, fun j x hj => absurd hj (Nat.not_lt_zero _)⟩ ?_
      rintro i h3 ⟨hi, K3, hall⟩
      have n3 := K3.few
      refine wRun_mid (σ := Unit) (fun _ => [(0, .slc a n c), (2, .ptr (some (p, 0))), (3, .int .i64 (Int.ofNat i))]) (fun _ h4 => h4 = h3 ∧ i < n) ?_ ?_
      · refine wRun_of svx (by decide) ?_
        rintro (_ | _) c1
        · have hge := natGe c1
          refine ⟨(), ⟨rfl, rfl, trivial⟩, K3.mono (by omega), fun x hx => ?_⟩
          obtain ⟨j, hj, rfl⟩ := List.getElem_of_mem hx
          exact hall j _ (by omega) (List.getElem?_eq_getElem hj)
        · exact ⟨(), ⟨rfl, rfl, rfl, trivial⟩, rfl, natLt c1⟩
      rintro _ h4 ⟨rfl, hin⟩
      obtain ⟨x, hxi⟩ : ∃ x, xs[i]? = some x := ⟨_, List.getElem?_eq_getElem (by omega)⟩
      have hxm : x ∈ xs := List.mem_of_getElem? hxi
      obtain ⟨hea, hes, hlg⟩ := hE x hxm
      have A4 := A1.kept K3
      obtain ⟨b', o, ea, la⟩ := ((hx.kept K1).kept K3).at (i := i) (by omega)
      rw [(List.getElem?_eq_some_iff.1 hxi).2] at la
      subst ea
      refine wRun_mid (σ := Unit) (fun _ => [(0, .slc (some (b', o)) n c), (2, .ptr (some (p, 0))), (3, .int .i64 (Int.ofNat i))]) (fun _ h5 => Kept 41 h4 h5 ∧ Good x) ?_ ?_
      · refine wRun_block rfl ?_
        refine wRun_mid (σ := Unit) (fun _ => [(0, .slc (some (b', o)) n c), (2, .ptr (some (p, 0))), (3, .int .i64 (Int.ofNat i))]) (fun _ h5 => h5 = h4 ∧ (leI 0 x.v && leI x.v 2) = true ∧ (leI 1 x.l && leI x.l 400) = true) ?_ ?_
        · refine wRun_of svx (by decide) ?_
          refine ⟨i, rfl, hin, _, la.ld (f := 0) rfl (by decide) (by decide), ?_⟩
          refine ⟨_, _, in_D (by omega) _ _ _ _, ?_⟩
          rintro (_ | _) c2
          · refine ⟨rfl, _, _, _, _, _, A4.get, rfl, rfl, ?_⟩
            intro h5 hh5
            obtain ⟨A5, K5, r⟩ := ret h4 h5 _ none 0 0 1 rfl rfl (K3.mono (by omega)) A4 hh5 (.inr (.inl ⟨hn3, ⟨x, hxm, fun g => by rw [g.v] at c2; cases c2⟩, rfl⟩))
            exact ⟨_, A5.ld rfl, none, 0, 0, 1, rfl, K5, r⟩
          · refine ⟨i, rfl, hin, _, la.ld (f := 1) rfl (by decide) (by decide), ?_⟩
            refine ⟨_, _, in_D (by omega) _ _ _ _, ?_⟩
            rintro (_ | _) c3
            · refine ⟨rfl, _, _, _, _, _, A4.get, rfl, rfl, ?_⟩
              intro h5 hh5
              obtain ⟨A5, K5, r⟩ := ret h4 h5 _ none 0 0 1 rfl rfl (K3.mono (by omega)) A4 hh5 (.inr (.inl ⟨hn3, ⟨x, hxm, fun g => by rw [g.l] at c3; cases c3⟩, rfl⟩))
              exact ⟨_, A5.ld rfl, none, 0, 0, 1, rfl, K5, r⟩
            · exact ⟨(), ⟨rfl, rfl, rfl, trivial⟩, rfl, c2, c3⟩
        rintro _ h5 ⟨rfl, gv, gl⟩
        refine wRun_of svx (by decide) ?_
        refine ⟨i, rfl, hin, _, la.ld (f := 2) rfl (by decide) (by decide), ?_⟩
        obtain ⟨r, h6, hc, K6, hr⟩ := rcheck_x (D := d) x.d h5 (by omega) ((hea.kept K1).kept K3) hes (by omega)
        refine ⟨_, _, hc, ?_⟩
        rintro (_ | _) c4
        · rcases hr with ⟨hr, ok⟩ | ⟨hr, ok⟩
          · exact ⟨(), ⟨rfl, rfl, rfl, trivial⟩, K6.mono (by omega), gv, gl, (okq_iff _).1 ok⟩
          · rw [hr] at c4; exact absurd (neF c4) (by decide)
        · rcases hr with ⟨hr, ok⟩ | ⟨hr, ok⟩
          · rw [hr] at c4; exact absurd rfl (neT c4)
          · have A6 := A4.kept K6
            refine ⟨rfl, _, _, _, _, _, A6.get, rfl, rfl, ?_⟩
            intro h7 hh7
            obtain ⟨A7, K7, rr⟩ := ret h6 h7 _ none 0 0 r rfl rfl ((K3.trans K6).mono (by omega)) A6 hh7 (.inr (.inl ⟨hn3, ⟨x, hxm, fun g => ok ((okq_iff _).2 g.e)⟩, hr⟩))
            exact ⟨_, A7.ld rfl, none, 0, 0, r, rfl, K7, rr⟩
      rintro _ h5 ⟨K5, hg⟩
      refine wRun_of svx (by decide) ?_
      refine ⟨i + 1, by omega, ⟨rfl, rfl, slot (add64 (a := i) (b := 1) (by omega)), trivial⟩, by omega, (K3.trans K5).mono (by omega), fun j y hj hy => ?_⟩
      by_cases hji : j = i
      · subst hji; rw [hxi] at hy; cases hy; exact hg
      · exact hall j y (by omega) hy
    rintro _ h3 ⟨K3, hgood⟩
    have n3 := K3.few
    have A3 := A1.kept K3
    -- the list that grows
    refine wRun_seq svx (by decide) ?_
    refine ⟨(room_iff h3).2 (by omega), ?_⟩
    intro p5 h4 hp5 hh4
    obtain ⟨B4, K4⟩ := At.new (by omega) hp5 hh4
    clear hh4
    have n4 := K4.few
    have lp5 : p < p5 := by have := A3.lt; omega
    refine ⟨rfl, _, _, _, _, _, B4.get, rfl, rfl, ?_⟩
    intro h5 hh5
    obtain ⟨B5, K5⟩ := B4.st (by omega) hh5
    rw [hp5] at K5
    have K35 : Kept (1 + 0) h3 h5 := Kept.one K4 K5
    clear hh5
    have K25 := K3.trans K35
    have e5 : h3.next < h5.next := by have := B5.lt; omega
    refine wRun_mid (σ := SL × List XD) (fun q => [(2, .ptr (some (p, 0))), (5, .ptr (some (p5, 0)))]) (fun q h6 => Kept (41 * n + 1 + 740 * n) h2 h6 ∧ At h6 p5 [.slc q.1 q.2.length q.2.length, .int .i64 0] 2 ∧ Made h6 q.1 q.2.length q.2 ∧
      q.2.Pairwise ltN ∧ (∀ y ∈ q.2, y ∈ xs) ∧ (∀ x ∈ xs, ∃ y ∈ q.2, SameN x y ∧ EqD x.d y.d) ∧ ∀ b, q.1 = some (b, 0) → p5 < b) ?_ ?_
    · refine wRun_seq svx (by decide) ?_
      refine wRun_block rfl ?_
      refine wLoopR (σ := Nat × SL × List XD) (fun s => [(0, .slc a n c), (2, .ptr (some (p, 0))), (5, .ptr (some (p5, 0))), (6, .int .i64 (Int.ofNat s.1))])
        (fun s h6 => s.1 ≤ n ∧ Kept (41 * n + 1 + 740 * s.1) h2 h6 ∧ At h6 p5 [.slc s.2.1 s.2.2.length s.2.2.length, .int .i64 0] 2 ∧ Made h6 s.2.1 s.2.2.length s.2.2 ∧ s.2.2.Pairwise ltN ∧ (∀ y ∈ s.2.2, y ∈ xs) ∧
          (∀ (j : Nat) (x : XD), j < s.1 → xs[j]? = some x → ∃ y ∈ s.2.2, SameN x y ∧ EqD x.d y.d) ∧ s.2.2.length ≤ s.1 ∧ ∀ b, s.2.1 = some (b, 0) → p5 < b) (fun s => n - s.1) (0, none, [])
        (by rw [gN_fuel]; show n - 0 < 1000000; omega) ⟨rfl, rfl, rfl, rfl, trivial⟩
        ⟨Nat.zero_le _, K25.mono (by omega), B5, ⟨⟨rfl, rfl, .inl ⟨rfl, rfl⟩, fun r hr => by cases hr⟩, fun h => absurd rfl h⟩, List.Pairwise.nil, fun y hy => (by cases hy), fun j x hj => absurd hj (Nat.not_lt_zero _), Nat.le_refl _, fun b hb => (by cases hb)⟩ ?_
      rintro ⟨i, s, ys⟩ h6 ⟨hi, K6, B6, M6, P6, S6, C6, L6, O6⟩
      simp only at hi K6 B6 M6 P6 S6 C6 L6 O6
      have n6 := K6.few
      refine wRun_mid (σ := Unit) (fun _ => [(0, .slc a n c), (2, .ptr (some (p, 0))), (5, .ptr (some (p5, 0))), (6, .int .i64 (Int.ofNat i))]) (fun _ h7 => h7 = h6 ∧ i < n) ?_ ?_
      · refine wRun_of svx (by decide) ?_
        rintro (_ | _) c1
        · have hge : n ≤ i := natGe c1
          refine ⟨(s, ys), ⟨rfl, rfl, trivial⟩, K6.mono (by omega), B6, M6, P6, S6, fun x hx => ?_, O6⟩
          obtain ⟨j, hj, rfl⟩ := List.getElem_of_mem hx
          exact C6 j _ (by omega) (List.getElem?_eq_getElem hj)
        · exact ⟨(), ⟨rfl, rfl, rfl, rfl, trivial⟩, rfl, natLt c1⟩
      rintro _ h7 ⟨rfl, hin⟩
      obtain ⟨x, hxi⟩ : ∃ x, xs[i]? = some x := ⟨_, List.getElem?_eq_getElem (by omega)⟩
      have hxm : x ∈ xs := List.mem_of_getElem? hxi
      obtain ⟨b', o, ea, la⟩ := ((hx.kept K1).kept K6).at (i := i) (by omega)
      rw [(List.getElem?_eq_some_iff.1 hxi).2] at la
      subst ea
      have A7 := A1.kept K6
      refine wRun_mid (σ := SL × List XD) (fun q => [(0, .slc (some (b', o)) n c), (2, .ptr (some (p, 0))), (5, .ptr (some (p5, 0))), (6, .int .i64 (Int.ofNat i))])
        (fun q h8 => Kept (41 * n + 1 + 740 * i + 740) h2 h8 ∧ At h8 p5 [.slc q.1 q.2.length q.2.length, .int .i64 0] 2 ∧ Made h8 q.1 q.2.length q.2 ∧ q.2.Pairwise ltN ∧ (∀ y ∈ q.2, y ∈ xs) ∧
          (∀ (j : Nat) (x : XD), j < i + 1 → xs[j]? = some x → ∃ y ∈ q.2, SameN x y ∧ EqD x.d y.d) ∧ q.2.length ≤ i + 1 ∧ ∀ b, q.1 = some (b, 0) → p5 < b) ?_ ?_
      · refine wRun_block rfl ?_
        refine wRun_mid (σ := Int) (fun r => [(0, .slc (some (b', o)) n c), (2, .ptr (some (p, 0))), (5, .ptr (some (p5, 0))), (6, .int .i64 (Int.ofNat i)), (7, .int .i64 r)])
          (fun r h8 => Kept 1 h7 h8 ∧ ((∃ (k : Nat) (y : XD), r = Int.ofNat k ∧ ys[k]? = some y ∧ SameN y x) ∨ (r = -1 ∧ ∀ y ∈ ys, ¬ SameN y x))) ?_ ?_
        · refine wRun_of svx (by decide) ?_
          refine ⟨_, B6.ld rfl, i, rfl, hin, _, la.ld (f := 0) rfl (by decide) (by decide), ?_⟩
          obtain ⟨r, h8, hc, K8, hr⟩ := nameAt_x (D := d) (by omega) s ys.length ys.length ys x h7 (by omega) M6.slr (by omega)
          refine ⟨_, _, hc, ?_⟩
          exact ⟨r, ⟨rfl, rfl, rfl, rfl, rfl, trivial⟩, K8, hr⟩
        rintro r h8 ⟨K8, hr⟩
        have n8 := K8.few
        have A8 := A7.kept K8
        have B8 := B6.kept K8
        have M8 := M6.kept K8
        have K28 := K6.trans K8
        have la8 := la.kept K8
        refine wRun_mid (σ := Nat) (fun k => [(0, .slc (some (b', o)) n c), (2, .ptr (some (p, 0))), (5, .ptr (some (p5, 0))), (6, .int .i64 (Int.ofNat i)), (7, .int .i64 (Int.ofNat k))])
          (fun k h9 => h9 = h8 ∧ ∃ y, ys[k]? = some y ∧ SameN y x) ?_ ?_
        · refine wRun_of svx (by decide) ?_
          rintro (_ | _) c2
          · rcases hr with ⟨k, y, rfl, hy, hs⟩ | ⟨rfl, _⟩
            · exact ⟨k, ⟨rfl, rfl, rfl, rfl, rfl, trivial⟩, rfl, y, hy, hs⟩
            · exact absurd (leI_iff.1 (by simpa using c2 : leI 0 (-1) = true)) (by decide)
          · have hno : ∀ y ∈ ys, ¬ SameN y x := by
              rcases hr with ⟨k, y, rfl, hy, hs⟩ | ⟨_, h⟩
              · have : leI 0 (Int.ofNat k) = true := leI_iff.2 (Int.natCast_nonneg k)
                rw [this] at c2; cases c2
              · exact h
            refine ⟨_, B8.ld rfl, i, rfl, hin, _, la8.ld0 rfl (by decide) (by decide), ?_⟩
            obtain ⟨h9, s', k, hc, K9, M9, hk, hall, hnot, O9⟩ := placed_x (D := d) (by omega) s ys.length ys x h8 M8 (by omega) (by omega)
            refine ⟨_, _, hc, ?_⟩
            have n9 := K9.few
            have B9 := B8.kept K9
            refine ⟨rfl, _, _, _, _, _, B9.get, rfl, rfl, ?_⟩
            intro h10 hh10
            obtain ⟨B10, K10⟩ := B9.st (by omega) hh10
            have hp58 : p5 < h8.next := B8.lt
            have M10 := M9.keptX K10 (fun b hb he => by have := O9 b hb; omega)
            have hlen : (ys.take k ++ x :: ys.drop k).length = ys.length + 1 := by simp; omega
            have hp52 : h2.next ≤ p5 := by rw [hp5]; exact K3.next
            refine ⟨(s', ys.take k ++ x :: ys.drop k), ⟨rfl, rfl, rfl, rfl, trivial⟩, ((K28.trans K9).thenX K10 fun i hi => by rw [hi]; exact hp52).mono (by omega), ?_, ?_, pw_insert P6 hall hnot hno, ?_, ?_, by rw [hlen]; omega, fun b hb => by have := O9 b hb; omega⟩
            · show At h10 p5 [.slc s' (ys.take k ++ x :: ys.drop k).length (ys.take k ++ x :: ys.drop k).length, .int .i64 0] 2
              rw [hlen]; exact B10
            · show Made h10 s' (ys.take k ++ x :: ys.drop k).length (ys.take k ++ x :: ys.drop k)
              rw [hlen]; exact M10
            · intro y hy
              rcases List.mem_append.1 hy with hy | hy
              · exact S6 y (List.mem_of_mem_take hy)
              · rcases List.mem_cons.1 hy with rfl | hy
                · exact hxm
                · exact S6 y (List.mem_of_mem_drop hy)
            · intro j z hj hz
              have hmem : ∀ y ∈ ys, y ∈ ys.take k ++ x :: ys.drop k := fun y hy => by
                rw [← List.take_append_drop k ys] at hy
                rcases List.mem_append.1 hy with hy | hy
                · exact List.mem_append_left _ hy
                · exact List.mem_append_right _ (List.mem_cons_of_mem _ hy)
              by_cases hji : j = i
              · subst hji; rw [hxi] at hz; cases hz
                exact ⟨x, by simp, SameN.refl _, EqD.refl _⟩
              · obtain ⟨y, hy, hq⟩ := C6 j z (by omega) hz
                exact ⟨y, hmem y hy, hq⟩
        rintro k h9 ⟨rfl, y, hy, hs⟩
        have hym : y ∈ ys := List.mem_of_getElem? hy
        have hkl : k < ys.length := (List.getElem?_eq_some_iff.1 hy).1
        obtain ⟨hea, hes, hlg⟩ := hE x hxm
        obtain ⟨heb, hbs, hlb⟩ := hE y (S6 y hym)
        have Kh9 := K1.trans K28
        refine wRun_mid (σ := Bool) (fun r => [(0, .slc (some (b', o)) n c), (2, .ptr (some (p, 0))), (5, .ptr (some (p5, 0))), (6, .int .i64 (Int.ofNat i)), (8, .bool r)]) (fun r h10 => Kept 4 h9 h10 ∧ (r = true ↔ EqD y.d x.d)) ?_ ?_
        · refine wRun_of svx (by decide) ?_
          obtain ⟨b2, o2, ea2, lb⟩ := M8.slr.at (i := k) hkl
          rw [(List.getElem?_eq_some_iff.1 hy).2] at lb
          subst ea2
          refine ⟨_, B8.ld rfl, k, rfl, hkl, _, lb.ld (f := 2) rfl (by decide) (by decide), i, rfl, hin, _, la8.ld (f := 2) rfl (by decide) (by decide), ?_⟩
          obtain ⟨r, h10, hc, K10, ir⟩ := rsame_x (D := d) (by omega) y.d x.d h9 (by omega) (heb.kept Kh9) (hea.kept Kh9) hbs
          refine ⟨_, _, hc, ?_⟩
          rintro _ rfl
          exact ⟨r, ⟨rfl, rfl, rfl, rfl, rfl, trivial⟩, K10, ir⟩
        rintro r h10 ⟨K10, ir⟩
        have n10 := K10.few
        refine wRun_of svx (by decide) ?_
        cases r with
        | false =>
          have A10 := A8.kept K10
          refine ⟨rfl, _, _, _, _, _, A10.get, rfl, rfl, ?_⟩
          intro h11 hh11
          obtain ⟨A11, K11, rr⟩ := ret h10 h11 _ none 0 0 6 rfl rfl ((K28.trans K10).mono (by omega)) A10 hh11 (.inr (.inr ⟨hn3, hgood, .inl ⟨(fun C => (by have := ir.2 (C y (S6 y hym) x hxm hs); cases this)), rfl⟩⟩))
          exact ⟨_, A11.ld rfl, none, 0, 0, 6, rfl, K11, rr⟩
        | true =>
          refine ⟨(s, ys), ⟨rfl, rfl, rfl, rfl, trivial⟩, (K28.trans K10).mono (by omega), B8.kept K10, M8.kept K10, P6, S6, fun j z hj hz => ?_, (by show ys.length ≤ i + 1; omega), O6⟩
          by_cases hji : j = i
          · subst hji; rw [hxi] at hz; cases hz
            exact ⟨y, hym, hs.symm, (ir.1 rfl).symm⟩
          · exact C6 j z (by omega) hz
      rintro ⟨s', ys'⟩ h8 ⟨K8, B8, M8, P8, S8, C8, L8, O8⟩
      refine wRun_of svx (by decide) ?_
      exact ⟨(i + 1, s', ys'), by simp; omega, ⟨rfl, rfl, rfl, slot (add64 (a := i) (b := 1) (by omega)), trivial⟩, by simp; omega, K8.mono (by simp; omega), B8, M8, P8, S8, C8, L8, O8⟩
    rintro ⟨s, ys⟩ h6 ⟨K6, B6, M6, P6, S6, C6, O6⟩
    simp only at B6 M6 P6 S6 C6 O6
    have n6 := K6.few
    have A6 := A1.kept K6
    have hDiff : Diff xs ys := ⟨P6, S6, fun x hx => by obtain ⟨y, hy, hs, _⟩ := C6 x hx; exact ⟨y, hy, hs⟩⟩
    have hC : Consist xs := fun x hx y hy hs => by
      obtain ⟨u, hu, hxu, exu⟩ := C6 x hx
      obtain ⟨w, hw, hyw, eyw⟩ := C6 y hy
      have : u = w := pw_unique P6 hu hw (hxu.symm.trans (hs.trans hyw))
      subst this
      exact exu.trans eyw.symm
    refine wRun_of svx (by decide) ?_
    refine ⟨_, B6.ld rfl, ?_⟩
    rintro (_ | _) c1
    · have hle : ys.length ≤ 120 := leI_len.1 (by simpa using c1)
      refine ⟨_, B6.ld rfl, ?_⟩
      refine ⟨rfl, _, _, _, _, _, A6.get, rfl, rfl, ?_⟩
      intro h7 hh7
      obtain ⟨A7, K7⟩ := A6.st (by omega) hh7
      have M7 : SlR h7 63 XD.cells s ys.length ys := (M6.keptX K7 (fun b hb he => by have := O6 b hb; omega)).slr
      exact ⟨_, A7.ld rfl, s, _, _, 0, rfl, ((K1.trans K6).thenX K7 fun i hi => by rw [hi, hp]; exact Nat.le_refl _).mono (by omega), .inr ⟨rfl, ys, ⟨hn3, hgood, hC, hDiff, hle⟩, M7⟩⟩
    · have hlt : 120 < ys.length := by
        have : ¬ leI (Int.ofNat ys.length) (Int.ofNat 120) = true := by simpa using c1
        rw [leI_len] at this; omega
      refine ⟨rfl, _, _, _, _, _, A6.get, rfl, rfl, ?_⟩
      intro h7 hh7
      obtain ⟨A7, K7, rr⟩ := ret h6 h7 _ none 0 0 2 rfl rfl (K6.mono (by omega)) A6 hh7 (.inr (.inr ⟨hn3, hgood, .inr ⟨hC, ys, hDiff, hlt, rfl⟩⟩))
      exact ⟨_, A7.ld rfl, none, 0, 0, 2, rfl, K7, rr⟩
  obtain ⟨v, h', h1, a', m, c', e, rfl, h2, h3⟩ := this
  exact ⟨h', a', m, c', e, h1, h2, h3⟩
end Go.Proofs
end
