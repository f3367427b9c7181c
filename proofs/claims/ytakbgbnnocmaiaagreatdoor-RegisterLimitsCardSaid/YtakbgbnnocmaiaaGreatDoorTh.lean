/- The order of entries by their names. -/
import Derived.Test.YtakbgbnnocmaiaaGreatDoorTg
set_option linter.all false
section
namespace Go.Proofs
open Go.Sim
variable {D : Nat}

/-- an entry with its name -/
structure XD where
  v : Int
  l : Int
  d : ED
def XD.cells (x : XD) : List AVal := .int .i64 x.v :: .int .i64 x.l :: x.d.e.cells
theorem XD.len (x : XD) : x.cells.length = 63 := rfl

def zXC : List AVal := .int .i64 0 :: .int .i64 0 :: zE.cells
def zLegC : List AVal := [.int .i64 0, .int .i64 0, .int .i64 0, .int .i64 0, .int .i64 0, .int .i64 0, .int .i64 0, .int .i64 0]
def zOffC : List AVal := [.int .i64 0, .int .i64 0, .int .i64 0, .bool false]
set_option maxRecDepth 100000 in
theorem el42 : ElOk CX 42 1 8 [.int .i64 0] := elz_ok (by kernel_rfl)
set_option maxRecDepth 100000 in
theorem el22 : ElOk CX 22 63 568 zXC := elz_ok (by kernel_rfl)
set_option maxRecDepth 100000 in
theorem el45 : ElOk CX 45 8 64 zLegC := elz_ok (by kernel_rfl)
set_option maxRecDepth 100000 in
theorem el46 : ElOk CX 46 4 32 zOffC := elz_ok (by kernel_rfl)

theorem eqI_refl (a : Int) : eqI a a = true := eqI_iff.2 rfl

set_option maxRecDepth 100000 in
theorem isNaN_x (hD : 1 ≤ D) (a : Int) (h : H) : (GX D).call 153 [.int .i64 a] h = .ok (.bool false) h := by
  obtain ⟨d, rfl, hd⟩ := dsucc hD
  refine call_eq Tryz.func153 rfl ?_
  rintro (_ | _) h1
  · exact ⟨rfl, rfl⟩
  · rw [eqI_refl] at h1; cases h1

noncomputable def cmpI (a b : Int) : Int := sel (!leI b a) (-1) (sel (!leI a b) 1 0)

set_option maxRecDepth 100000 in
theorem compare_x (hD : 2 ≤ D) (a b : Int) (h : H) : (GX D).call 77 [.int .i64 a, .int .i64 b] h = .ok (.int .i64 (cmpI a b)) h := by
  obtain ⟨d, rfl, hd⟩ := dsucc hD
  refine call_eq Tryz.func77 rfl ?_
  refine ⟨_, _, isNaN_x hd a h, ?_⟩
  rintro _ rfl
  refine ⟨_, _, isNaN_x hd b h, ?_⟩
  rintro _ rfl
  rintro (_ | _) h1
  · rintro (_ | _) h2
    · exact ⟨rfl, by simp only [cmpI, h1, h2]; rfl⟩
    · exact ⟨rfl, by simp only [cmpI, h1, h2]; rfl⟩
  · exact ⟨rfl, by simp only [cmpI, h1]; rfl⟩

noncomputable def orI (x y : Int) : Int := sel (eqI x 0) (sel (eqI y 0) 0 y) x

set_option maxRecDepth 100000 in
theorem or_x (hD : 1 ≤ D) (a : SL) (c : Nat) (x y : Int) (h : H) (ha : SlR h 1 intC a 2 [x, y]) : (GX D).call 76 [.slc a 2 c] h = .ok (.int .i64 (orI x y)) h := by
  obtain ⟨d, rfl, hd⟩ := dsucc hD
  refine call_eq Tryz.func76 rfl ?_
  refine wLoopS (σ := Nat) svx (fun i => [(3, .int .i64 0), (6, .slc a 2 c), (7, .int .i64 (Int.ofNat 2)), (8, .int .i64 (Int.ofNat i))])
    (fun i h' => h' = h ∧ i ≤ 2 ∧ (0 < i → x = 0) ∧ (1 < i → y = 0)) (fun i => 2 - i) (by decide) 0 (by decide) ⟨rfl, rfl, rfl, rfl, trivial⟩ ⟨rfl, by decide, by omega, by omega⟩ ?_
  rintro i h' ⟨rfl, hi, hx, hy⟩
  rintro (_ | _) h2
  · have h2 : 2 ≤ i := by
      have h2 : leI (Int.ofNat 2) (Int.ofNat i) = true := by simpa using h2
      exact leI_len.1 h2
    refine ⟨rfl, ?_⟩
    simp only [packA, orI, hx (by omega), hy (by omega)]; rfl
  · have hlt : i < 2 := by
      have : ¬ leI (Int.ofNat 2) (Int.ofNat i) = true := by simpa using h2
      rw [leI_len] at this
      omega
    obtain ⟨b, o, rfl, la⟩ := ha.at hlt
    refine ⟨i, rfl, hlt, _, la.ld0 rfl (by decide) (by decide), ?_⟩
    rintro (_ | _) h3
    · refine ⟨i + 1, by omega, ⟨rfl, rfl, rfl, congrArg (fun z => some (AVal.int .i64 z)) (inc64 (by omega)), trivial⟩, rfl, hlt, fun _ => ?_, fun _ => ?_⟩
      · by_cases h0 : i = 0
        · subst h0; exact neF h3
        · exact hx (by omega)
      · have : i = 1 := by omega
        subst this; exact neF h3
    · refine ⟨rfl, ?_⟩
      have hne := neT h3
      by_cases h0 : i = 0
      · subst h0
        have : eqI x 0 = false := by
          cases hb : eqI x 0 with
          | true => exact absurd (eqT hb) hne
          | false => rfl
        simp only [packA, orI, this]; rfl
      · have : i = 1 := by omega
        subst this
        have h1 : eqI y 0 = false := by
          cases hb : eqI y 0 with
          | true => exact absurd (eqT hb) hne
          | false => rfl
        simp only [packA, orI, hx (by omega), h1]; rfl

noncomputable def cmpN (x y : XD) : Int := orI (cmpI x.v y.v) (cmpI x.l y.l)
def nmC (v l : Int) : List AVal := [.int .i64 v, .int .i64 l]

set_option maxRecDepth 1000000 in
theorem byName_x (hD : 3 ≤ D) (v l v' l' : Int) (h : H) (hn : h.next + 3 ≤ 1048576) :
    ∃ h', (GX D).call 41 [.agg (nmC v l), .agg (nmC v' l')] h = .ok (.int .i64 (orI (cmpI v v') (cmpI l l'))) h' ∧ Kept 3 h h' := by
  obtain ⟨d, rfl, hd⟩ := dsucc hD
  have : ∃ u h', (GX (d + 1)).call 41 [.agg (nmC v l), .agg (nmC v' l')] h = .ok u h' ∧ u = .int .i64 (orI (cmpI v v') (cmpI l l')) ∧ Kept 3 h h' := by
    refine call_w Tryz.func41 rfl ?_
    refine ⟨(room_iff h).2 (by omega), ?_⟩
    intro p1 h1 hp1 hh1
    obtain ⟨A1, K1⟩ := At.new (by omega) hp1 hh1
    have n1 := K1.few
    refine ⟨(room_iff h1).2 (by omega), ?_⟩
    intro p2 h2 hp2 hh2
    obtain ⟨A2, K2⟩ := At.new (by omega) hp2 hh2
    have n2 := K2.few
    replace A1 := A1.kept K2
    clear hh1 hh2
    refine ⟨_, A1.ld rfl, _, A2.ld rfl, ?_⟩
    refine ⟨_, _, compare_x hd _ _ _, ?_⟩
    refine hv (k := 0) (by omega) (Kept.refl _) (fun h3 K3 _ => ?_)
    have n3 := K3.few
    replace A1 := A1.kept K3
    replace A2 := A2.kept K3
    refine ⟨_, A1.ld rfl, _, A2.ld rfl, ?_⟩
    refine ⟨_, _, compare_x hd _ _ _, ?_⟩
    refine ⟨_, _, buildSl_run el42 rfl rfl (by decide) ((room_iff h3).2 (by omega)), ?_⟩
    obtain ⟨A5, K5⟩ := At.new (h' := h3.alloc (.cells [.int .i64 (cmpI v v'), .int .i64 (cmpI l l')] 1 false false [])) (by omega) rfl rfl
    have hsl : SlR (h3.alloc (.cells [.int .i64 (cmpI v v'), .int .i64 (cmpI l l')] 1 false false [])) 1 intC (some (h3.next, 0)) 2 [cmpI v v', cmpI l l'] :=
      ⟨rfl, rows_ok A5.lt A5.get (by simp [intC])⟩
    refine ⟨_, _, or_x (by omega) _ _ _ _ _ hsl, ?_⟩
    exact ⟨rfl, (((K1.trans K2).trans K3).trans K5).mono (by omega)⟩
  obtain ⟨u, h', h1, rfl, h2⟩ := this
  exact ⟨h', h1, h2⟩

set_option maxRecDepth 1000000 in
theorem less_x (hD : 4 ≤ D) (x y : XD) (h : H) (hn : h.next + 5 ≤ 1048576) : ∃ h', (GX D).call 40 [.agg x.cells, .agg y.cells] h = .ok (.int .i64 (cmpN x y)) h' ∧ Kept 5 h h' := by
  obtain ⟨d, rfl, hd⟩ := dsucc hD
  have : ∃ u h', (GX (d + 1)).call 40 [.agg x.cells, .agg y.cells] h = .ok u h' ∧ u = .int .i64 (cmpN x y) ∧ Kept 5 h h' := by
    refine call_w Tryz.func40 rfl ?_
    refine ⟨(room_iff h).2 (by omega), ?_⟩
    intro p1 h1 hp1 hh1
    obtain ⟨A1, K1⟩ := At.new (by omega) hp1 hh1
    have n1 := K1.few
    refine ⟨(room_iff h1).2 (by omega), ?_⟩
    intro p2 h2 hp2 hh2
    obtain ⟨A2, K2⟩ := At.new (by omega) hp2 hh2
    have n2 := K2.few
    replace A1 := A1.kept K2
    clear hh1 hh2
    refine ⟨_, A1.ld rfl, _, A2.ld rfl, ?_⟩
    obtain ⟨h3, hc, K3⟩ := byName_x hd x.v x.l y.v y.l h2 (by omega)
    refine ⟨_, _, hc, ?_⟩
    exact ⟨rfl, ((K1.trans K2).trans K3).mono (by omega)⟩
  obtain ⟨u, h', h1, rfl, h2⟩ := this
  exact ⟨h', h1, h2⟩

set_option maxRecDepth 1000000 in
theorem sameName_x (hD : 1 ≤ D) (x y : XD) (h : H) (hn : h.next + 2 ≤ 1048576) : ∃ r h', (GX D).call 44 [.agg x.cells, .agg y.cells] h = .ok (.bool r) h' ∧ Kept 2 h h' ∧ (r = true ↔ x.v = y.v ∧ x.l = y.l) := by
  obtain ⟨d, rfl, hd⟩ := dsucc hD
  have : ∃ u h', (GX (d + 1)).call 44 [.agg x.cells, .agg y.cells] h = .ok u h' ∧ ∃ r, u = .bool r ∧ Kept 2 h h' ∧ (r = true ↔ x.v = y.v ∧ x.l = y.l) := by
    refine call_w Tryz.func44 rfl ?_
    refine ⟨(room_iff h).2 (by omega), ?_⟩
    intro p1 h1 hp1 hh1
    obtain ⟨A1, K1⟩ := At.new (by omega) hp1 hh1
    have n1 := K1.few
    refine ⟨(room_iff h1).2 (by omega), ?_⟩
    intro p2 h2 hp2 hh2
    obtain ⟨A2, K2⟩ := At.new (by omega) hp2 hh2
    have n2 := K2.few
    replace A1 := A1.kept K2
    clear hh1 hh2
    refine ⟨_, A1.ld rfl, _, A2.ld rfl, ?_⟩
    refine eq_step rfl rfl rfl (fun he => ?_) (fun he => ?_)
    · exact ⟨true, rfl, K1.trans K2, by simpa using he⟩
    · exact ⟨false, rfl, K1.trans K2, by simpa using he⟩
  obtain ⟨u, h', h1, r, rfl, h2, h3⟩ := this
  exact ⟨r, h', h1, h2, h3⟩
end Go.Proofs
end
section
/- slices.insertionSortCmpFunc over entries. -/
namespace Go.Proofs
open Go.Sim Go.SortL
variable {D : Nat}

/-- entries by their names -/
def leN (x y : XD) : Prop := x.v < y.v ∨ (x.v = y.v ∧ x.l ≤ y.l)
theorem ordN : Ord leN := ⟨fun x => .inr ⟨rfl, Int.le_refl _⟩, fun x y z h1 h2 => by unfold leN at *; omega⟩

theorem leI_f {a b : Int} (h : leI a b = false) : b < a := by
  have : ¬ leI a b = true := by simp [h]
  rw [leI_iff] at this; omega

theorem cmpI_cases (a b : Int) : (a < b ∧ cmpI a b = -1) ∨ (a = b ∧ cmpI a b = 0) ∨ (b < a ∧ cmpI a b = 1) := by
  unfold cmpI
  cases h1 : leI b a with
  | false => exact .inl ⟨leI_f h1, rfl⟩
  | true =>
    have h1 := leI_iff.1 h1
    cases h2 : leI a b with
    | false => exact .inr (.inr ⟨leI_f h2, rfl⟩)
    | true => exact .inr (.inl ⟨Int.le_antisymm (leI_iff.1 h2) h1, rfl⟩)

theorem cmpN_lt {x y : XD} (h : leI 0 (cmpN x y) = false) : leN x y := by
  have h := leI_f h
  unfold cmpN orI at h
  unfold leN
  rcases cmpI_cases x.v y.v with ⟨h1, h2⟩ | ⟨h1, h2⟩ | ⟨h1, h2⟩
  · omega
  · rw [h2] at h
    rcases cmpI_cases x.l y.l with ⟨h3, h4⟩ | ⟨h3, h4⟩ | ⟨h3, h4⟩
    · omega
    · omega
    · rw [h4] at h; exact absurd (show (1 : Int) < 0 from h) (by decide)
  · rw [h2] at h; exact absurd (show (1 : Int) < 0 from h) (by decide)

theorem cmpN_ge {x y : XD} (h : leI 0 (cmpN x y) = true) : leN y x := by
  have h := leI_iff.1 h
  unfold cmpN orI at h
  unfold leN
  rcases cmpI_cases x.v y.v with ⟨h1, h2⟩ | ⟨h1, h2⟩ | ⟨h1, h2⟩
  · rw [h2] at h; exact absurd (show (0 : Int) ≤ -1 from h) (by decide)
  · rw [h2] at h
    rcases cmpI_cases x.l y.l with ⟨h3, h4⟩ | ⟨h3, h4⟩ | ⟨h3, h4⟩
    · rw [h4] at h; exact absurd (show (0 : Int) ≤ -1 from h) (by decide)
    · omega
    · omega
  · omega

/-- entries in a block -/
abbrev XA (h : H) (p : Nat) (xs : List XD) : Prop := Ary h p 63 (xs.map XD.cells)
theorem XA.ld {h : H} {p : Nat} {xs : List XD} (A : XA h p xs) {i : Nat} {x : XD} (hx : xs[i]? = some x) {agg : Bool} {n : Nat} {v : AVal} (hl : loadC (some x.cells) agg n 0 = some v) (hn : n ≤ 63) (h1 : agg = false → n = 1) :
    loadP h agg n (.ptr (some (p, Nat.add 0 (Nat.mul i 63)))) = some v := (Ary.at A (i := i) (r := x.cells) (by rw [List.getElem?_map, hx]; rfl)).ld0 hl hn h1
theorem XA.ld' {h : H} {p : Nat} {xs : List XD} (A : XA h p xs) {i : Nat} {x : XD} (hx : xs[i]? = some x) {agg : Bool} {n f : Nat} {v : AVal} (hl : loadC (some x.cells) agg n f = some v) (hn : f + n ≤ 63) (h1 : agg = false → n = 1) :
    loadP h agg n (.ptr (some (p, Nat.add (Nat.add 0 (Nat.mul i 63)) f))) = some v := (Ary.at A (i := i) (r := x.cells) (by rw [List.getElem?_map, hx]; rfl)).ld hl hn h1
theorem XA.lo {h : H} {p : Nat} {xs : List XD} (A : XA h p xs) (m : Nat) : XA (h.withLo m) p xs := by
  obtain ⟨o, hg⟩ := A.blk
  exact ⟨by rw [withLo_next]; exact A.lt, ⟨o, by rw [withLo_get]; exact hg⟩, A.row⟩
theorem XA.rowlen {xs : List XD} : ∀ r ∈ xs.map XD.cells, r.length = 63 := fun r hr => by
  obtain ⟨x, _, rfl⟩ := List.mem_map.1 hr; rfl
theorem XA.set {h : H} (hc : h.next ≤ 1048576) {p : Nat} {xs : List XD} (A : XA h p xs) {i : Nat} (hi : i < xs.length) (x : XD) :
    ∃ vs esz opn pars vs', h.get p = some (.cells vs esz opn false pars) ∧ plains x.cells = true ∧ putX (Nat.add 0 (Nat.mul i 63)) x.cells vs = some vs' ∧
      ∀ h', h' = (kill h pars).setO p (.cells vs' esz opn false []) → XA h' p (xs.set i x) ∧ KeptX (fun x => x = p) 0 h h' := by
  obtain ⟨vs, esz, opn, pars, vs', e1, e2, e3, e4⟩ := Ary.set hc A (i := i) (by simpa using hi) (XD.len x) rfl
  refine ⟨vs, esz, opn, pars, vs', e1, e2, e3, fun h' hh => ?_⟩
  obtain ⟨A', K'⟩ := e4 h' hh
  exact ⟨by unfold XA; rw [List.map_set]; exact A', K'⟩

theorem lo_setO (h : H) (p : Nat) (o : AObj) (hp : p ≤ big) : ((h.withLo big).setO p o).withLo (minN h.lo ((h.withLo big).setO p o).lo) = h.setO p o := by
  obtain ⟨t, n, lo⟩ := h
  show H.mk _ _ (minN lo (minN big p)) = H.mk _ _ (minN lo p)
  rw [minN_eq, minN_eq, minN_eq, Nat.min_eq_right hp]

/-- the same in a part that draws -/
theorem XA.setD {h : H} (hc : h.next ≤ 1048576) {p : Nat} {xs : List XD} (A : XA h p xs) {i : Nat} (hi : i < xs.length) (x : XD) {W P : H → Prop} (w : ∀ h', W h') (hP : ∀ h2, XA h2 p (xs.set i x) → KeptX (fun x => x = p) 0 h h2 → P h2) :
    ∃ vs esz opn pars vs', (h.withLo big).get p = some (.cells vs esz opn false pars) ∧ plains x.cells = true ∧ putX (Nat.add 0 (Nat.mul i 63)) x.cells vs = some vs' ∧
      ∀ h', h' = (kill (h.withLo big) pars).setO p (.cells vs' esz opn false []) → (h.next ≤ h'.lo ∨ W h') ∧ ∀ h2, h2 = h'.withLo (minN h.lo h'.lo) → P h2 := by
  have hp := A.lt
  have key : ∃ opn, h.get p = some (.cells (xs.map XD.cells).flatten 63 opn false []) := A.blk
  obtain ⟨opn, hg⟩ := key
  refine ⟨_, 63, opn, [], _, by rw [withLo_get]; exact hg, rfl, set_flatten A.row (by simpa using hi) (XD.len x), fun h' hh => ⟨.inr (w h'), fun h2 hh2 => ?_⟩⟩
  have hh : h' = (h.withLo big).setO p (.cells ((xs.map XD.cells).set i x.cells).flatten 63 opn false []) := hh
  subst hh
  rw [lo_setO h p _ (Nat.le_trans (Nat.le_of_lt hp) (big_next hc))] at hh2
  subst hh2
  refine hP _ ⟨by rw [Sim.setO_next]; exact hp, ⟨opn, ?_⟩, XA.rowlen⟩ (KeptX.setO hc hp _)
  rw [Sim.setO_self hc hp, List.map_set]

theorem natLt {a b : Nat} (h : (!leI (Int.ofNat b) (Int.ofNat a)) = true) : a < b := by
  have : ¬ leI (Int.ofNat b) (Int.ofNat a) = true := by simpa using h
  rw [leI_len] at this; omega
theorem natGe {a b : Nat} (h : (!leI (Int.ofNat b) (Int.ofNat a)) = false) : b ≤ a := leI_len.1 (by simpa using h)
theorem slot {a b : Int} (h : a = b) : some (AVal.int .i64 a) = some (AVal.int .i64 b) := by rw [h]

set_option maxRecDepth 1000000 in
set_option maxHeartbeats 1000000 in
theorem insSort_x (hD : 5 ≤ D) (p c : Nat) (xs : List XD) (a b : Nat) (hab : a ≤ b) (hb : b ≤ xs.length) (hF : xs.length < 100000) (h : H) (hn : h.next + 5 * ((b - a) * (b - a)) ≤ 1048576) (hA : XA h p xs) :
    ∃ h' ys, (GX D).call 151 [.slc (some (p, 0)) xs.length c, .int .i64 (Int.ofNat a), .int .i64 (Int.ofNat b), .func 40 []] h = .ok .undef h' ∧ XA h' p ys ∧ KeptX (fun x => x = p) (5 * ((b - a) * (b - a))) h h' ∧ RP a b xs ys ∧ SR leN a b ys := by
  obtain ⟨d, rfl, hd⟩ := dsucc hD
  have : ∃ v h', (GX (d + 1)).call 151 [.slc (some (p, 0)) xs.length c, .int .i64 (Int.ofNat a), .int .i64 (Int.ofNat b), .func 40 []] h = .ok v h' ∧
      (v = .undef ∧ ∃ ys, XA h' p ys ∧ KeptX (fun x => x = p) (5 * ((b - a) * (b - a))) h h' ∧ RP a b xs ys ∧ SR leN a b ys) := by
    refine call_run Tryz.func151 rfl rfl (Nat.le_of_ble_eq_true rfl) (by decide) ?_
    refine wRun_seq svx (by decide) ?_
    refine wRun_block rfl ?_
    refine wLoopR (σ := Nat × List XD) (fun s => [(0, .slc (some (p, 0)) xs.length c), (1, .int .i64 (Int.ofNat a)), (2, .int .i64 (Int.ofNat b)), (3, .func 40 []), (8, .int .i64 (Int.ofNat s.1))])
      (fun s h' => a < s.1 ∧ (s.1 ≤ b ∨ s.1 = a + 1) ∧ XA h' p s.2 ∧ KeptX (fun x => x = p) (5 * ((b - a) * (s.1 - a - 1))) h h' ∧ RP a b xs s.2 ∧ SR leN a s.1 s.2) (fun s => b - s.1)
      (a + 1, xs) (by rw [gN_fuel]; show b - (a + 1) < 1000000; omega) ⟨rfl, rfl, rfl, rfl, slot (add64 (a := a) (b := 1) (by omega)), trivial⟩
      ⟨by simp, .inr rfl, hA, KeptX.refl h, RP.refl hab hb, SR.triv (by simp)⟩ ?_
    rintro ⟨i, ys⟩ h1 ⟨hi1, hi2, A1, K1, P1, S1⟩
    simp only at hi1 hi2 A1 K1 P1 S1
    refine wRun_mid (σ := Unit) (fun _ => [(0, .slc (some (p, 0)) xs.length c), (1, .int .i64 (Int.ofNat a)), (2, .int .i64 (Int.ofNat b)), (3, .func 40 []), (8, .int .i64 (Int.ofNat i))]) (fun _ h2 => h2 = h1 ∧ i < b) ?_ ?_
    · refine wRun_of svx (by decide) ?_
      rintro (_ | _) c1
      · have hge := natGe c1
        refine ⟨rfl, ys, A1, K1.mono (fun _ _ h => h) ?_, P1, S1.sub (Nat.le_refl _) hge⟩
        exact Nat.mul_le_mul_left _ (Nat.mul_le_mul_left _ (by omega))
      · exact ⟨(), ⟨rfl, rfl, rfl, rfl, rfl, trivial⟩, rfl, natLt c1⟩
    rintro _ h2 ⟨rfl, hib⟩
    have hm : (b - a) * (i - a - 1) + (b - a) ≤ (b - a) * (b - a) := by
      rw [← Nat.mul_succ]; exact Nat.mul_le_mul_left _ (by omega)
    have n1 := K1.few
    refine wRun_mid (σ := List XD) (fun _ => [(0, .slc (some (p, 0)) xs.length c), (1, .int .i64 (Int.ofNat a)), (2, .int .i64 (Int.ofNat b)), (3, .func 40 []), (8, .int .i64 (Int.ofNat i))]) (fun zs h3 => XA h3 p zs ∧ KeptX (fun x => x = p) (5 * (b - a)) h2 h3 ∧ RP a b xs zs ∧ SR leN a (i + 1) zs) ?_ ?_
    · refine wRun_block rfl ?_
      refine wRun_seq svx (by decide) ?_
      refine wRun_block rfl ?_
      refine wLoopR (σ := Nat × List XD) (fun s => [(0, .slc (some (p, 0)) xs.length c), (1, .int .i64 (Int.ofNat a)), (2, .int .i64 (Int.ofNat b)), (3, .func 40 []), (8, .int .i64 (Int.ofNat i)), (9, .int .i64 (Int.ofNat s.1))])
        (fun s h3 => a ≤ s.1 ∧ s.1 ≤ i ∧ XA h3 p s.2 ∧ KeptX (fun x => x = p) (5 * (i - s.1)) h2 h3 ∧ RP a b xs s.2 ∧ InsAt leN a i s.1 s.2) (fun s => s.1)
        (i, ys) (by rw [gN_fuel]; show i < 1000000; omega) ⟨rfl, rfl, rfl, rfl, rfl, rfl, trivial⟩ ⟨by simp; omega, Nat.le_refl _, A1, KeptX.refl h2, P1, InsAt.start S1⟩ ?_
      rintro ⟨j, zs⟩ h3 ⟨hj1, hj2, A3, K3, P3, I3⟩
      simp only at hj1 hj2 A3 K3 P3 I3
      have hzl : zs.length = xs.length := P3.len
      have n3 := K3.few
      refine wRun_mid (σ := Unit) (fun _ => [(0, .slc (some (p, 0)) xs.length c), (1, .int .i64 (Int.ofNat a)), (2, .int .i64 (Int.ofNat b)), (3, .func 40 []), (8, .int .i64 (Int.ofNat i)), (9, .int .i64 (Int.ofNat j))]) (fun _ h4 => XA h4 p zs ∧ KeptX (fun x => x = p) 5 h3 h4 ∧ a < j ∧ ∃ x y, zs[j]? = some x ∧ zs[j - 1]? = some y ∧ leN x y) ?_ ?_
      · refine wRun_mid (σ := Bool) (fun b' => [(0, .slc (some (p, 0)) xs.length c), (1, .int .i64 (Int.ofNat a)), (2, .int .i64 (Int.ofNat b)), (3, .func 40 []), (8, .int .i64 (Int.ofNat i)), (9, .int .i64 (Int.ofNat j)), (34, .bool b')])
          (fun b' h4 => XA h4 p zs ∧ KeptX (fun x => x = p) 5 h3 h4 ∧ ((b' = true ∧ a < j ∧ ∃ x y, zs[j]? = some x ∧ zs[j - 1]? = some y ∧ leN x y) ∨ (b' = false ∧ (a < j → 5 * (i - j) + 5 ≤ 5 * (b - a)) ∧ SR leN a (i + 1) zs))) ?_ ?_
        · refine wRun_of svx (by decide) ?_
          rintro (_ | _) c2
          · have : j ≤ a := leI_len.1 (by simpa using c2)
            have : j = a := by omega
            subst this
            exact ⟨false, ⟨rfl, rfl, rfl, rfl, rfl, rfl, rfl, trivial⟩, A3, KeptX.refl _, .inr ⟨rfl, by omega, I3.low⟩⟩
          · have haj : a < j := by
              have : ¬ leI (Int.ofNat j) (Int.ofNat a) = true := by simpa using c2
              rw [leI_len] at this; omega
            obtain ⟨x, hx⟩ : ∃ x, zs[j]? = some x := ⟨_, List.getElem?_eq_getElem (by omega)⟩
            obtain ⟨y, hy⟩ : ∃ y, zs[j - 1]? = some y := ⟨_, List.getElem?_eq_getElem (by omega)⟩
            refine ⟨j, rfl, by omega, _, A3.ld hx rfl (by decide) (by decide), j - 1, sub64 (a := j) (b := 1) (by omega) (by omega), by omega, _, A3.ld hy rfl (by decide) (by decide), ?_⟩
            obtain ⟨h4, hc, K4⟩ := less_x hd x y h3 (by omega)
            refine ⟨_, _, hc, ?_⟩
            rintro (_ | _) c3
            · exact ⟨false, ⟨rfl, rfl, rfl, rfl, rfl, rfl, rfl, trivial⟩, Ary.kept K4 A3, K4.toX, .inr ⟨rfl, by omega, I3.stop ordN haj hj2 hx hy (cmpN_ge (by simpa using c3))⟩⟩
            · exact ⟨true, ⟨rfl, rfl, rfl, rfl, rfl, rfl, rfl, trivial⟩, Ary.kept K4 A3, K4.toX, .inl ⟨rfl, haj, x, y, hx, hy, cmpN_lt (by simpa using c3)⟩⟩
        rintro b' h4 ⟨A4, K4, hor⟩
        refine wRun_cond (t := b') rfl (fun hb' => ?_) (fun hb' => ?_)
        · refine wRun_of svx (by decide) ?_
          rcases hor with ⟨_, h5⟩ | ⟨h5, _⟩
          · exact ⟨(), ⟨rfl, rfl, rfl, rfl, rfl, rfl, trivial⟩, A4, K4, h5⟩
          · rw [hb'] at h5; cases h5
        · refine wRun_of svx (by decide) ?_
          rcases hor with ⟨h5, _⟩ | ⟨_, h5, h6⟩
          · rw [hb'] at h5; cases h5
          · refine ⟨zs, ⟨rfl, rfl, rfl, rfl, rfl, trivial⟩, A4, (K3.trans K4).mono (fun _ _ h => h) ?_, P3, h6⟩
            by_cases haj : a < j
            · exact h5 haj
            · omega
      rintro _ h4 ⟨A4, K4, haj, x, y, hx, hy, hle⟩
      have n4 := K4.few
      refine wRun_mid (σ := Unit) (fun _ => [(0, .slc (some (p, 0)) xs.length c), (1, .int .i64 (Int.ofNat a)), (2, .int .i64 (Int.ofNat b)), (3, .func 40 []), (8, .int .i64 (Int.ofNat i)), (9, .int .i64 (Int.ofNat j))]) (fun _ h5 => XA h5 p ((zs.set j y).set (j - 1) x) ∧ KeptX (fun x => x = p) 0 h4 h5) ?_ ?_
      · refine wRun_block rfl ?_
        refine wRun_of svx (by decide) ?_
        refine ⟨j - 1, sub64 (a := j) (b := 1) (by omega) (by omega), by omega, _, A4.ld hy rfl (by decide) (by decide), j, rfl, by omega, _, A4.ld hx rfl (by decide) (by decide), j, rfl, by omega, rfl, ?_⟩
        refine A4.setD (by omega) (i := j) (by omega) y (fun _ => trivial) (fun h5 A5 K5 => ?_)
        have n5 := K5.few
        refine ⟨j - 1, sub64 (a := j) (b := 1) (by omega) (by omega), by omega, rfl, ?_⟩
        obtain ⟨vs, esz, opn, pars, vs', e1, e2, e3, e4⟩ := A5.set (by omega) (i := j - 1) (by simp; omega) x
        refine ⟨vs, esz, opn, pars, vs', e1, e2, e3, ?_⟩
        intro h6 hh6
        obtain ⟨A6, K6⟩ := e4 h6 hh6
        exact ⟨(), ⟨rfl, rfl, rfl, rfl, rfl, rfl, trivial⟩, A6, K5.trans K6⟩
      rintro _ h5 ⟨A5, K5⟩
      refine wRun_of svx (by decide) ?_
      have hcomm : (zs.set j y).set (j - 1) x = (zs.set (j - 1) x).set j y := List.set_comm _ _ (by omega)
      rw [hcomm] at A5
      refine ⟨(j - 1, (zs.set (j - 1) x).set j y), by simp; omega, ⟨rfl, rfl, rfl, rfl, rfl, slot (sub64 (a := j) (b := 1) (by omega) (by omega)), trivial⟩, by simp; omega, by simp; omega, A5, ?_, ?_, I3.step haj hj2 hx hy hle⟩
      · exact ((K3.trans K4).trans K5).mono (fun _ _ h => h) (by simp; omega)
      · exact P3.trans (RP.swap (by omega) hy hx (by omega) (by omega) (by omega))
    rintro zs h3 ⟨A3, K3, P3, S3⟩
    refine wRun_of svx (by decide) ?_
    refine ⟨(i + 1, zs), by simp; omega, ⟨rfl, rfl, rfl, rfl, slot (add64 (a := i) (b := 1) (by omega)), trivial⟩, by simp; omega, .inl (by simp; omega), A3, ?_, P3, S3⟩
    refine (K1.trans K3).mono (fun _ _ h => h) ?_
    show _ ≤ 5 * ((b - a) * (i + 1 - a - 1))
    have : i + 1 - a - 1 = (i - a - 1) + 1 := by omega
    rw [this, Nat.mul_succ]; omega
  obtain ⟨v, h', h1, rfl, ys, h2⟩ := this
  exact ⟨h', ys, h1, h2⟩
end Go.Proofs
end
section
/- slices.swapRangeCmpFunc and rotateCmpFunc over entries. -/
namespace Go.Proofs
open Go.Sim Go.SortL
variable {D : Nat}

theorem getMid {α : Type} (p : List α) (x : α) (q : List α) {i : Nat} (hi : p.length = i) : (p ++ x :: q)[i]? = some x := by
  subst hi; rw [List.getElem?_append_right (Nat.le_refl _), Nat.sub_self]; rfl

set_option maxRecDepth 1000000 in
set_option maxHeartbeats 1000000 in
theorem swapRange_x (hD : 1 ≤ D) (p c L : Nat) (P A M B Q : List XD) (a b n : Nat) (ha : P.length = a) (hA : A.length = n) (hB : B.length = n) (hb : a + n + M.length = b) (hL : L = (P ++ (A ++ (M ++ (B ++ Q)))).length) (hF : L < 100000)
    (h : H) (hn : h.next ≤ 1048576) (hX : XA h p (P ++ (A ++ (M ++ (B ++ Q))))) (fv : AVal) :
    ∃ h', (GX D).call 293 [.slc (some (p, 0)) L c, .int .i64 (Int.ofNat a), .int .i64 (Int.ofNat b), .int .i64 (Int.ofNat n), fv] h = .ok .undef h' ∧ XA h' p (P ++ (B ++ (M ++ (A ++ Q)))) ∧ KeptX (fun x => x = p) 0 h h' := by
  obtain ⟨d, rfl, hd⟩ := dsucc hD
  have hlen : L = a + n + M.length + n + Q.length := by rw [hL]; simp; omega
  have : ∃ v h', (GX (d + 1)).call 293 [.slc (some (p, 0)) L c, .int .i64 (Int.ofNat a), .int .i64 (Int.ofNat b), .int .i64 (Int.ofNat n), fv] h = .ok v h' ∧
      (v = .undef ∧ XA h' p (P ++ (B ++ (M ++ (A ++ Q)))) ∧ KeptX (fun x => x = p) 0 h h') := by
    refine call_run Tryz.func293 rfl rfl (Nat.le_of_ble_eq_true rfl) (by decide) ?_
    refine wRun_seq svx (by decide) ?_
    refine wRun_block rfl ?_
    refine wLoopR (σ := Nat) (fun i => [(0, .slc (some (p, 0)) L c), (1, .int .i64 (Int.ofNat a)), (2, .int .i64 (Int.ofNat b)), (3, .int .i64 (Int.ofNat n)), (10, .int .i64 (Int.ofNat i))])
      (fun i h' => KeptX (fun x => x = p) 0 h h' ∧ ∃ A1 A2 B1 B2, A = A1 ++ A2 ∧ B = B1 ++ B2 ∧ A1.length = i ∧ B1.length = i ∧ XA h' p (P ++ (B1 ++ (A2 ++ (M ++ (A1 ++ (B2 ++ Q))))))) (fun i => n - i)
      0 (by rw [gN_fuel]; show n - 0 < 1000000; omega) ⟨rfl, rfl, rfl, rfl, rfl, trivial⟩ ⟨KeptX.refl h, [], A, [], B, rfl, rfl, rfl, rfl, by simpa using hX⟩ ?_
    rintro i h1 ⟨K1, A1, A2, B1, B2, eA, eB, l1, l2, X1⟩
    refine wRun_mid (σ := Unit) (fun _ => [(0, .slc (some (p, 0)) L c), (1, .int .i64 (Int.ofNat a)), (2, .int .i64 (Int.ofNat b)), (3, .int .i64 (Int.ofNat n)), (10, .int .i64 (Int.ofNat i))]) (fun _ h2 => h2 = h1 ∧ i < n) ?_ ?_
    · refine wRun_of svx (by decide) ?_
      rintro (_ | _) c1
      · have hge := natGe c1
        have e1 : A2 = [] := List.eq_nil_of_length_eq_zero (by rw [eA] at hA; simp at hA; omega)
        have e2 : B2 = [] := List.eq_nil_of_length_eq_zero (by rw [eB] at hB; simp at hB; omega)
        subst e1 e2
        rw [List.append_nil] at eA eB
        subst eA eB
        exact ⟨rfl, by simpa using X1, K1⟩
      · exact ⟨(), ⟨rfl, rfl, rfl, rfl, rfl, trivial⟩, rfl, natLt c1⟩
    rintro _ h2 ⟨rfl, hin⟩
    have n1 := K1.few
    obtain ⟨x, A3, rfl⟩ : ∃ x r, A2 = x :: r := by
      cases A2 with
      | nil => rw [eA] at hA; simp at hA; omega
      | cons x r => exact ⟨x, r, rfl⟩
    obtain ⟨y, B3, rfl⟩ : ∃ x r, B2 = x :: r := by
      cases B2 with
      | nil => rw [eB] at hB; simp at hB; omega
      | cons x r => exact ⟨x, r, rfl⟩
    have lA : A1.length + A3.length + 1 = n := by rw [← hA, eA]; simp; omega
    have lB : B1.length + B3.length + 1 = n := by rw [← hB, eB]; simp; omega
    have e0 : P ++ (B1 ++ (x :: A3 ++ (M ++ (A1 ++ (y :: B3 ++ Q))))) = (P ++ B1) ++ x :: ((A3 ++ (M ++ A1)) ++ y :: (B3 ++ Q)) := by simp
    rw [e0] at X1
    have gx : ((P ++ B1) ++ x :: ((A3 ++ (M ++ A1)) ++ y :: (B3 ++ Q)))[a + i]? = some x := getMid _ _ _ (by simp; omega)
    have gy : ((P ++ B1) ++ x :: ((A3 ++ (M ++ A1)) ++ y :: (B3 ++ Q)))[b + i]? = some y := by
      have := getMid ((P ++ B1) ++ x :: (A3 ++ (M ++ A1))) y (B3 ++ Q) (i := b + i) (by simp; omega)
      simpa using this
    have ll : ((P ++ B1) ++ x :: ((A3 ++ (M ++ A1)) ++ y :: (B3 ++ Q))).length = L := by simp; omega
    have hset : (((P ++ B1) ++ x :: ((A3 ++ (M ++ A1)) ++ y :: (B3 ++ Q))).set (a + i) y).set (b + i) x = P ++ ((B1 ++ [y]) ++ (A3 ++ (M ++ ((A1 ++ [x]) ++ (B3 ++ Q))))) := by
      have e1 : a + i = (P ++ B1).length := by simp; omega
      have e2 : b + i - (P ++ B1).length = (A3 ++ (M ++ A1)).length + 1 := by simp; omega
      rw [e1, List.set_append, if_neg (Nat.lt_irrefl _), Nat.sub_self, List.set_cons_zero, List.set_append, if_neg (by simp; omega), e2, List.set_cons_succ, List.set_append, if_neg (Nat.lt_irrefl _), Nat.sub_self, List.set_cons_zero]
      simp
    refine wRun_mid (σ := Unit) (fun _ => [(0, .slc (some (p, 0)) L c), (1, .int .i64 (Int.ofNat a)), (2, .int .i64 (Int.ofNat b)), (3, .int .i64 (Int.ofNat n)), (10, .int .i64 (Int.ofNat i))])
      (fun _ h3 => XA h3 p (P ++ ((B1 ++ [y]) ++ (A3 ++ (M ++ ((A1 ++ [x]) ++ (B3 ++ Q)))))) ∧ KeptX (fun x => x = p) 0 h2 h3) ?_ ?_
    · refine wRun_block rfl ?_
      refine wRun_of svx (by decide) ?_
      refine ⟨b + i, add64 (by omega), by omega, _, X1.ld gy rfl (by decide) (by decide), a + i, add64 (by omega), by omega, _, X1.ld gx rfl (by decide) (by decide), a + i, add64 (by omega), by omega, rfl, ?_⟩
      refine X1.setD (by omega) (i := a + i) (by omega) y (fun _ => trivial) (fun h5 A5 K5 => ?_)
      have n5 := K5.few
      refine ⟨b + i, add64 (by omega), by omega, rfl, ?_⟩
      obtain ⟨vs, esz, opn, pars, vs', e1, e2, e3, e4⟩ := A5.set (by omega) (i := b + i) (by simp; simp at ll; omega) x
      refine ⟨vs, esz, opn, pars, vs', e1, e2, e3, ?_⟩
      intro h6 hh6
      obtain ⟨A6, K6⟩ := e4 h6 hh6
      exact ⟨(), ⟨rfl, rfl, rfl, rfl, rfl, trivial⟩, hset ▸ A6, K5.trans K6⟩
    rintro _ h3 ⟨A3', K3⟩
    refine wRun_of svx (by decide) ?_
    refine ⟨i + 1, by omega, ⟨rfl, rfl, rfl, rfl, slot (add64 (a := i) (b := 1) (by omega)), trivial⟩, K1.trans K3, A1 ++ [x], A3, B1 ++ [y], B3, by simpa using eA, by simpa using eB, by simp [l1], by simp [l2], A3'⟩
  obtain ⟨v, h', h1, rfl, h2⟩ := this
  exact ⟨h', h1, h2⟩

set_option maxRecDepth 1000000 in
set_option maxHeartbeats 1000000 in
theorem rotate_x (hD : 2 ≤ D) (p c : Nat) (xs : List XD) (a m b : Nat) (P A B Q : List XD) (hxs : xs = P ++ (A ++ (B ++ Q))) (ha : P.length = a) (hA : a + A.length = m) (hB : m + B.length = b) (h1a : a < m) (h1b : m < b) (hF : xs.length < 100000)
    (h : H) (hn : h.next ≤ 1048576) (hX : XA h p xs) (fv : AVal) :
    ∃ h', (GX D).call 219 [.slc (some (p, 0)) xs.length c, .int .i64 (Int.ofNat a), .int .i64 (Int.ofNat m), .int .i64 (Int.ofNat b), fv] h = .ok .undef h' ∧ XA h' p (P ++ (B ++ (A ++ Q))) ∧ KeptX (fun x => x = p) 0 h h' := by
  obtain ⟨d, rfl, hd⟩ := dsucc hD
  have hlen : xs.length = b + Q.length := by rw [hxs]; simp; omega
  generalize xs.length = L at hF hlen
  subst hxs
  have : ∃ v h', (GX (d + 1)).call 219 [.slc (some (p, 0)) L c, .int .i64 (Int.ofNat a), .int .i64 (Int.ofNat m), .int .i64 (Int.ofNat b), fv] h = .ok v h' ∧ (v = .undef ∧ XA h' p (P ++ (B ++ (A ++ Q))) ∧ KeptX (fun x => x = p) 0 h h') := by
    refine call_run Tryz.func219 rfl rfl (Nat.le_of_ble_eq_true rfl) (by decide) ?_
    refine wRun_seq svx (by decide) ?_
    refine wRun_seq svx (by decide) ?_
    refine wRun_mid (σ := Nat × Nat) (fun s => [(0, .slc (some (p, 0)) L c), (1, .int .i64 (Int.ofNat a)), (2, .int .i64 (Int.ofNat m)), (3, .int .i64 (Int.ofNat b)), (4, fv), (10, .int .i64 (Int.ofNat s.1)), (11, .int .i64 (Int.ofNat s.2))])
      (fun s h' => KeptX (fun x => x = p) 0 h h' ∧ s.1 = s.2 ∧ 0 < s.1 ∧ s.1 ≤ m ∧ ∃ P' X Y Q', X.length = s.1 ∧ Y.length = s.2 ∧ P'.length + s.1 = m ∧ P ++ (B ++ (A ++ Q)) = P' ++ (Y ++ (X ++ Q')) ∧ XA h' p (P' ++ (X ++ (Y ++ Q'))) ∧ P'.length + s.1 + s.2 + Q'.length = L) ?_ ?_
    · refine wRun_block rfl ?_
      refine wLoopR (σ := Nat × Nat) (fun s => [(0, .slc (some (p, 0)) L c), (1, .int .i64 (Int.ofNat a)), (2, .int .i64 (Int.ofNat m)), (3, .int .i64 (Int.ofNat b)), (4, fv), (10, .int .i64 (Int.ofNat s.1)), (11, .int .i64 (Int.ofNat s.2))])
        (fun s h' => KeptX (fun x => x = p) 0 h h' ∧ 0 < s.1 ∧ 0 < s.2 ∧ s.1 ≤ m ∧ ∃ P' X Y Q', X.length = s.1 ∧ Y.length = s.2 ∧ P'.length + s.1 = m ∧ P ++ (B ++ (A ++ Q)) = P' ++ (Y ++ (X ++ Q')) ∧ XA h' p (P' ++ (X ++ (Y ++ Q'))) ∧ P'.length + s.1 + s.2 + Q'.length = L)
        (fun s => s.1 + s.2) (m - a, b - m) (by rw [gN_fuel]; show (m - a) + (b - m) < 1000000; omega)
        ⟨rfl, rfl, rfl, rfl, rfl, slot (sub64 (by omega) (by omega)), slot (sub64 (by omega) (by omega)), trivial⟩
        ⟨KeptX.refl h, by simp; omega, by simp; omega, by simp, P, A, B, Q, by simp; omega, by simp; omega, by simp; omega, rfl, hX, by simp; omega⟩ ?_
      rintro ⟨i, j⟩ h1 ⟨K1, hi, hj, him, P', X, Y, Q', lX, lY, lP, eT, X1, lL⟩
      simp only at hi hj him lX lY lP lL
      have n1 := K1.few
      refine wRun_mid (σ := Unit) (fun _ => [(0, .slc (some (p, 0)) L c), (1, .int .i64 (Int.ofNat a)), (2, .int .i64 (Int.ofNat m)), (3, .int .i64 (Int.ofNat b)), (4, fv), (10, .int .i64 (Int.ofNat i)), (11, .int .i64 (Int.ofNat j))])
        (fun _ h2 => h2 = h1 ∧ i ≠ j) ?_ ?_
      · refine wRun_of svx (by decide) ?_
        rintro (_ | _) c1
        · have : i = j := eqI_len.1 (by simpa using c1)
          exact ⟨(i, j), ⟨rfl, rfl, rfl, rfl, rfl, rfl, rfl, trivial⟩, K1, this, hi, him, P', X, Y, Q', lX, lY, lP, eT, X1, lL⟩
        · refine ⟨(), ⟨rfl, rfl, rfl, rfl, rfl, rfl, rfl, trivial⟩, rfl, fun he => ?_⟩
          have := eqI_len.2 he
          rw [this] at c1; cases c1
      rintro _ h2 ⟨rfl, hne⟩
      refine wRun_block rfl ?_
      refine wRun_of svx (by decide) ?_
      rintro (_ | _) c2
      · have hij : i < j := by
          have : leI (Int.ofNat i) (Int.ofNat j) = true := by simpa using c2
          rw [leI_len] at this; omega
        obtain ⟨h3, hc, X3, K3⟩ := swapRange_x (D := d) (by omega) p c L P' X (Y.take (j - i)) (Y.drop (j - i)) Q' (m - i) (m + j - i) i (by omega) lX (by simp; omega) (by simp; omega)
          (by simp; omega) hF h2 (by omega) (by rw [← List.append_assoc (Y.take _), List.take_append_drop]; exact X1) fv
        rw [← sub64 (a := m) (b := i) him (by omega), ← sub64 (a := m + j) (b := i) (by omega) (by omega), ← add64 (a := m) (b := j) (by omega)] at hc
        refine ⟨_, _, hc, ?_⟩
        refine ⟨(i, j - i), by simp; omega, ⟨rfl, rfl, rfl, rfl, rfl, rfl, slot (sub64 (by omega) (by omega)), trivial⟩, K1.trans K3, hi, by simp; omega, him, P', Y.drop (j - i), Y.take (j - i), X ++ Q', by simp; omega, by simp; omega, lP, ?_, by simpa using X3, by simp; omega⟩
        rw [eT]
        simp only [List.append_assoc, List.append_cancel_left_eq]
        rw [← List.append_assoc (List.take (j - i) Y), List.take_append_drop]
      · have hij : j < i := by
          have : ¬ leI (Int.ofNat i) (Int.ofNat j) = true := by simpa using c2
          rw [leI_len] at this; omega
        obtain ⟨h3, hc, X3, K3⟩ := swapRange_x (D := d) (by omega) p c L P' (X.take j) (X.drop j) Y Q' (m - i) m j (by omega) (by simp; omega) lY (by simp; omega)
          (by simp; omega) hF h2 (by omega) (by rw [← List.append_assoc (X.take _), List.take_append_drop]; exact X1) fv
        rw [← sub64 (a := m) (b := i) him (by omega)] at hc
        refine ⟨_, _, hc, ?_⟩
        refine ⟨(i - j, j), by simp; omega, ⟨rfl, rfl, rfl, rfl, rfl, slot (sub64 (by omega) (by omega)), rfl, trivial⟩, K1.trans K3, by simp; omega, hj, by simp; omega, P' ++ Y, X.drop j, X.take j, Q', by simp; omega, by simp; omega, by simp; omega, ?_, by simpa using X3, by simp; omega⟩
        rw [eT]
        simp only [List.append_assoc, List.append_cancel_left_eq]
        rw [← List.append_assoc (List.take j X), List.take_append_drop]
    rintro ⟨i, j⟩ h1 ⟨K1, hij, hi, him, P', X, Y, Q', lX, lY, lP, eT, X1, lL⟩
    simp only at hij hi him lX lY lP lL
    subst hij
    have n1 := K1.few
    refine wRun_of svx (by decide) ?_
    obtain ⟨h3, hc, X3, K3⟩ := swapRange_x (D := d) (by omega) p c L P' X [] Y Q' (m - i) m i (by omega) lX lY (by simp; omega) (by simp; omega) hF h1 (by omega) (by simpa using X1) fv
    rw [← sub64 (a := m) (b := i) him (by omega)] at hc
    refine ⟨_, _, hc, ?_⟩
    exact ⟨rfl, by rw [eT]; simpa using X3, K1.trans K3⟩
  obtain ⟨v, h', h1, rfl, h2⟩ := this
  exact ⟨h', h1, h2⟩
end Go.Proofs
end
section
/- slices.symMergeCmpFunc over entries. -/
namespace Go.Proofs
open Go.Sim Go.SortL
variable {D : Nat}

set_option maxRecDepth 100000 in
theorem cv1 : CvOk CX 3 282 .u64 := cv_ok (by kernel_rfl)
set_option maxRecDepth 100000 in
theorem cv2 : CvOk CX 282 3 .i64 := cv_ok (by kernel_rfl)

theorem halfSum {i j : Nat} (h : i + j ≤ 9223372036854775807) : wrapK .i64 (Int.fdiv (wrapK .u64 (wrapK .i64 (Int.add (Int.ofNat i) (Int.ofNat j)))) (2 ^ (Nat.min (Int.toNat (Int.ofNat 1)) (IntKind.bits .u64)))) = Int.ofNat ((i + j) / 2) := by
  rw [add64 h]; exact half64 h

theorem sub1 {a : Nat} (h : 1 ≤ a) (ha : a ≤ 9223372036854775807) : wrapK .i64 (Int.sub (Int.ofNat a) 1) = Int.ofNat (a - 1) := sub64 (b := 1) h ha

/-- what a merge leaves -/
def Merged (p a b k : Nat) (xs : List XD) (h h' : H) : Prop := ∃ ys, XA h' p ys ∧ KeptX (fun x => x = p) k h h' ∧ RP a b xs ys ∧ SR leN a b ys

theorem neLen {i j : Nat} (h : eqI (Int.ofNat i) (Int.ofNat j) = false) : i ≠ j := fun he => by rw [eqI_len.2 he] at h; cases h

set_option maxRecDepth 1000000 in
set_option maxHeartbeats 4000000 in
theorem symMerge_x (p c L : Nat) (hL : L < 100000) : ∀ (K D a m b : Nat) (xs : List XD) (h : H), xs.length = L → a < m → m < b → b ≤ L → b - a ≤ 2 ^ K → 6 + K ≤ D → h.next + 5 * ((b - a) * K) ≤ 1048576 → XA h p xs → SR leN a m xs → SR leN m b xs →
    ∃ v h', (GX D).call 152 [.slc (some (p, 0)) L c, .int .i64 (Int.ofNat a), .int .i64 (Int.ofNat m), .int .i64 (Int.ofNat b), .func 40 []] h = .ok v h' ∧ (v = .undef ∧ Merged p a b (5 * ((b - a) * K)) xs h h') := by
  intro K
  induction K with
  | zero => intro D a m b xs h _ h1 h2 _ h3; exfalso; simp at h3; omega
  | succ K ih =>
    intro D a m b xs h hxs hab hmb hbL hpow hD hn hX S1 S2
    obtain ⟨d, rfl, hd⟩ := dsucc (k := 5 + K + 1) (D := D) (by omega)
    have hdd : 4 ≤ d := by omega
    have hcost : (b - a) * K + (b - a) = (b - a) * (K + 1) := (Nat.mul_succ _ _).symm
    have hcK : (b - a) ≤ (b - a) * (K + 1) := Nat.le_mul_of_pos_right _ (by omega)
    refine call_run Tryz.func152 rfl rfl (Nat.le_of_ble_eq_true rfl) (by decide) ?_
    -- one element on the left
    refine wRun_mid (σ := Unit) (fun _ => [(0, .slc (some (p, 0)) L c), (1, .int .i64 (Int.ofNat a)), (2, .int .i64 (Int.ofNat m)), (3, .int .i64 (Int.ofNat b)), (4, .func 40 [])]) (fun _ h' => h' = h ∧ m - a ≠ 1) ?_ ?_
    · refine wRun_mid (σ := Bool) (fun t => [(0, .slc (some (p, 0)) L c), (1, .int .i64 (Int.ofNat a)), (2, .int .i64 (Int.ofNat m)), (3, .int .i64 (Int.ofNat b)), (4, .func 40 []), (28, .bool t)]) (fun t h' => h' = h ∧ (t = true ↔ m - a = 1)) ?_ ?_
      · refine wRun_of svx (by decide) ?_
        rintro (_ | _) c1
        · refine ⟨false, ⟨rfl, rfl, rfl, rfl, rfl, rfl, trivial⟩, rfl, ?_⟩
          rw [sub64 (a := m) (b := a) (by omega) (by omega)] at c1
          have := neLen (j := 1) c1
          simp only [Bool.false_eq_true, false_iff]; exact this
        · refine ⟨true, ⟨rfl, rfl, rfl, rfl, rfl, rfl, trivial⟩, rfl, ?_⟩
          rw [sub64 (a := m) (b := a) (by omega) (by omega)] at c1
          simp only [true_iff]; exact eqI_len.1 c1
      rintro t h' ⟨rfl, ht⟩
      refine wRun_cond (t := t) rfl (fun htt => ?_) (fun htt => ?_)
      · have hma : m = a + 1 := by have := ht.1 htt; omega
        refine wRun_seq svx (by decide) ?_
        refine wRun_seq svx (by decide) ?_
        -- where it belongs
        refine wRun_mid (σ := Nat) (fun i => [(0, .slc (some (p, 0)) L c), (1, .int .i64 (Int.ofNat a)), (2, .int .i64 (Int.ofNat m)), (3, .int .i64 (Int.ofNat b)), (4, .func 40 []), (10, .int .i64 (Int.ofNat i))]) (fun i h1 => m ≤ i ∧ i ≤ b ∧ (m < i → ∀ x y, xs[i - 1]? = some x → xs[a]? = some y → leN x y) ∧ (i < b → ∀ x y, xs[a]? = some x → xs[i]? = some y → leN x y) ∧ Kept (5 * (b - m)) h' h1) ?_ ?_
        · refine wRun_block rfl ?_
          refine wLoopR (σ := Nat × Nat) (fun s => [(0, .slc (some (p, 0)) L c), (1, .int .i64 (Int.ofNat a)), (2, .int .i64 (Int.ofNat m)), (3, .int .i64 (Int.ofNat b)), (4, .func 40 []), (10, .int .i64 (Int.ofNat s.1)), (11, .int .i64 (Int.ofNat s.2))])
            (fun s h1 => m ≤ s.1 ∧ s.1 ≤ s.2 ∧ s.2 ≤ b ∧ (m < s.1 → ∀ x y, xs[s.1 - 1]? = some x → xs[a]? = some y → leN x y) ∧ (s.2 < b → ∀ x y, xs[a]? = some x → xs[s.2]? = some y → leN x y) ∧ Kept (5 * (b - m - (s.2 - s.1))) h' h1)
            (fun s => s.2 - s.1) (m, b) (by rw [gN_fuel]; show b - m < 1000000; omega) ⟨rfl, rfl, rfl, rfl, rfl, rfl, rfl, trivial⟩ ⟨Nat.le_refl _, by simp; omega, Nat.le_refl _, fun h => absurd h (Nat.lt_irrefl _), fun h => absurd h (Nat.lt_irrefl _), Kept.refl h'⟩ ?_
          rintro ⟨i, j⟩ h1 ⟨hi1, hi2, hi3, P1, P2, K1⟩
          simp only at hi1 hi2 hi3 P1 P2 K1
          have n1 := K1.few
          refine wRun_mid (σ := Unit) (fun _ => [(0, .slc (some (p, 0)) L c), (1, .int .i64 (Int.ofNat a)), (2, .int .i64 (Int.ofNat m)), (3, .int .i64 (Int.ofNat b)), (4, .func 40 []), (10, .int .i64 (Int.ofNat i)), (11, .int .i64 (Int.ofNat j))]) (fun _ h2 => h2 = h1 ∧ i < j) ?_ ?_
          · refine wRun_of svx (by decide) ?_
            rintro (_ | _) c2
            · have : i = j := by have := natGe c2; omega
              subst this
              exact ⟨i, ⟨rfl, rfl, rfl, rfl, rfl, rfl, trivial⟩, hi1, hi3, P1, P2, K1.mono (by omega)⟩
            · exact ⟨(), ⟨rfl, rfl, rfl, rfl, rfl, rfl, rfl, trivial⟩, rfl, natLt c2⟩
          rintro _ h2 ⟨rfl, hij⟩
          refine wRun_block rfl ?_
          refine wRun_mid (σ := Unit) (fun _ => [(0, .slc (some (p, 0)) L c), (1, .int .i64 (Int.ofNat a)), (2, .int .i64 (Int.ofNat m)), (3, .int .i64 (Int.ofNat b)), (4, .func 40 []), (10, .int .i64 (Int.ofNat i)), (11, .int .i64 (Int.ofNat j)), (12, .int .i64 (Int.ofNat ((i + j) / 2)))]) (fun _ h3 => h3 = h2) ?_ ?_
          · refine wRun_of svx (by decide) ?_
            refine ⟨_, _, conv_run cv1 rfl, ?_⟩
            refine ⟨_, _, conv_run cv2 rfl, ?_⟩
            exact ⟨(), ⟨rfl, rfl, rfl, rfl, rfl, rfl, rfl, slot (halfSum (by omega)), trivial⟩, rfl⟩
          rintro _ h3 rfl
          obtain ⟨x, hx⟩ : ∃ x, xs[(i + j) / 2]? = some x := ⟨_, List.getElem?_eq_getElem (by omega)⟩
          obtain ⟨y, hy⟩ : ∃ y, xs[a]? = some y := ⟨_, List.getElem?_eq_getElem (by omega)⟩
          have X3 := Ary.kept K1 hX
          refine wRun_of svx (by decide) ?_
          refine ⟨_, rfl, by omega, _, XA.ld X3 hx rfl (by decide) (by decide), a, rfl, by omega, _, XA.ld X3 hy rfl (by decide) (by decide), ?_⟩
          obtain ⟨h4, hc, K4⟩ := less_x hdd x y h3 (by omega)
          refine ⟨_, _, hc, ?_⟩
          rintro (_ | _) c3
          · refine ⟨(i, (i + j) / 2), by simp; omega, ⟨rfl, rfl, rfl, rfl, rfl, rfl, rfl, trivial⟩, hi1, by simp; omega, by simp; omega, P1, fun _ x' y' hx' hy' => ?_, (K1.trans K4).mono (by simp; omega)⟩
            rw [hx] at hy'; rw [hy] at hx'; cases hx'; cases hy'
            exact cmpN_ge (by simpa using c3)
          · refine ⟨((i + j) / 2 + 1, j), by simp; omega, ⟨rfl, rfl, rfl, rfl, rfl, slot (add64 (a := (i + j) / 2) (b := 1) (by omega)), rfl, trivial⟩, by simp; omega, by simp; omega, hi3, fun _ x' y' hx' hy' => ?_, P2, (K1.trans K4).mono (by simp; omega)⟩
            simp only [Nat.add_sub_cancel] at hx'
            rw [hx] at hx'; rw [hy] at hy'; cases hx'; cases hy'
            exact cmpN_lt (by simpa using c3)
        rintro i h1 ⟨hi1, hi2, P1, P2, K1⟩
        have n1 := K1.few
        have X1 := Ary.kept K1 hX
        -- it is moved there
        obtain ⟨x, hx⟩ : ∃ x, xs[a]? = some x := ⟨_, List.getElem?_eq_getElem (by omega)⟩
        obtain ⟨P, R, hPR, hPl⟩ := split1 hx
        have hRl : R.length = L - a - 1 := by have := congrArg List.length hPR; simp at this; omega
        have hR : R = R.take (i - a - 1) ++ R.drop (i - a - 1) := (List.take_append_drop _ _).symm
        generalize hB : R.take (i - a - 1) = B at hR
        generalize hQ : R.drop (i - a - 1) = Q at hR
        have hBl : B.length = i - a - 1 := by rw [← hB]; simp; omega
        subst hR
        refine wRun_mid (σ := Unit) (fun _ => [(0, .slc (some (p, 0)) L c), (1, .int .i64 (Int.ofNat a)), (2, .int .i64 (Int.ofNat m)), (3, .int .i64 (Int.ofNat b)), (4, .func 40 [])]) (fun _ h2 => XA h2 p (P ++ (B ++ (x :: Q))) ∧ KeptX (fun x => x = p) 0 h1 h2) ?_ ?_
        · refine wRun_seq svx (by decide) ?_
          refine wRun_block rfl ?_
          refine wLoopR (σ := Nat) (fun k => [(0, .slc (some (p, 0)) L c), (1, .int .i64 (Int.ofNat a)), (2, .int .i64 (Int.ofNat m)), (3, .int .i64 (Int.ofNat b)), (4, .func 40 []), (10, .int .i64 (Int.ofNat i)), (13, .int .i64 (Int.ofNat k))])
            (fun k h2 => a ≤ k ∧ k ≤ i - 1 ∧ KeptX (fun x => x = p) 0 h1 h2 ∧ ∃ B1 B2, B = B1 ++ B2 ∧ a + B1.length = k ∧ XA h2 p (P ++ (B1 ++ (x :: (B2 ++ Q))))) (fun k => i - k)
            a (by rw [gN_fuel]; show i - a < 1000000; omega) ⟨rfl, rfl, rfl, rfl, rfl, rfl, rfl, trivial⟩ ⟨Nat.le_refl _, by omega, KeptX.refl h1, [], B, rfl, rfl, by rw [hPR] at X1; exact X1⟩ ?_
          rintro k h2 ⟨hk1, hk2, K2, B1, B2, eB, lB, X2⟩
          have n2 := K2.few
          refine wRun_mid (σ := Unit) (fun _ => [(0, .slc (some (p, 0)) L c), (1, .int .i64 (Int.ofNat a)), (2, .int .i64 (Int.ofNat m)), (3, .int .i64 (Int.ofNat b)), (4, .func 40 []), (10, .int .i64 (Int.ofNat i)), (13, .int .i64 (Int.ofNat k))]) (fun _ h3 => h3 = h2 ∧ k < i - 1) ?_ ?_
          · refine wRun_of svx (by decide) ?_
            rintro (_ | _) c2
            · rw [sub1 (a := i) (by omega) (by omega)] at c2
              have hge := natGe c2
              have : B2 = [] := List.eq_nil_of_length_eq_zero (by rw [eB] at hBl; simp at hBl; omega)
              subst this
              rw [List.append_nil] at eB
              subst eB
              exact ⟨(), ⟨rfl, rfl, rfl, rfl, rfl, trivial⟩, by simpa using X2, K2⟩
            · rw [sub1 (a := i) (by omega) (by omega)] at c2
              exact ⟨(), ⟨rfl, rfl, rfl, rfl, rfl, rfl, rfl, trivial⟩, rfl, natLt c2⟩
          rintro _ h3 ⟨rfl, hki⟩
          obtain ⟨y, B3, rfl⟩ : ∃ y r, B2 = y :: r := by
            cases B2 with
            | nil => rw [eB] at hBl; simp at hBl; omega
            | cons y r => exact ⟨y, r, rfl⟩
          have gx : (P ++ (B1 ++ (x :: (y :: B3 ++ Q))))[k]? = some x := by
            have := getMid (P ++ B1) x (y :: B3 ++ Q) (i := k) (by simp; omega)
            simpa using this
          have gy : (P ++ (B1 ++ (x :: (y :: B3 ++ Q))))[k + 1]? = some y := by
            have := getMid (P ++ (B1 ++ [x])) y (B3 ++ Q) (i := k + 1) (by simp; omega)
            simpa using this
          have ll : (P ++ (B1 ++ (x :: (y :: B3 ++ Q)))).length = L := by
            have := congrArg List.length hPR
            rw [eB] at this
            simp at this ⊢; omega
          have hset : ((P ++ (B1 ++ (x :: (y :: B3 ++ Q)))).set k y).set (k + 1) x = P ++ ((B1 ++ [y]) ++ (x :: (B3 ++ Q))) := by
            have e1 : k = (P ++ B1).length := by simp; omega
            rw [← List.append_assoc, e1, List.set_append, if_neg (Nat.lt_irrefl _), Nat.sub_self, List.set_cons_zero, List.set_append, if_neg (by omega), Nat.add_sub_cancel_left]
            simp
          refine wRun_mid (σ := Unit) (fun _ => [(0, .slc (some (p, 0)) L c), (1, .int .i64 (Int.ofNat a)), (2, .int .i64 (Int.ofNat m)), (3, .int .i64 (Int.ofNat b)), (4, .func 40 []), (10, .int .i64 (Int.ofNat i)), (13, .int .i64 (Int.ofNat k))]) (fun _ h4 => XA h4 p (P ++ ((B1 ++ [y]) ++ (x :: (B3 ++ Q)))) ∧ KeptX (fun x => x = p) 0 h3 h4) ?_ ?_
          · refine wRun_block rfl ?_
            refine wRun_of svx (by decide) ?_
            refine ⟨k + 1, add64 (a := k) (b := 1) (by omega), by omega, _, X2.ld gy rfl (by decide) (by decide), k, rfl, by omega, _, X2.ld gx rfl (by decide) (by decide), k, rfl, by omega, rfl, ?_⟩
            refine X2.setD (by omega) (i := k) (by omega) y (fun _ => trivial) (fun h5 A5 K5 => ?_)
            have n5 := K5.few
            refine ⟨k + 1, add64 (a := k) (b := 1) (by omega), by omega, rfl, ?_⟩
            obtain ⟨vs, esz, opn, pars, vs', e1, e2, e3, e4⟩ := A5.set (by omega) (i := k + 1) (by rw [List.length_set]; omega) x
            refine ⟨vs, esz, opn, pars, vs', e1, e2, e3, ?_⟩
            intro h6 hh6
            obtain ⟨A6, K6⟩ := e4 h6 hh6
            exact ⟨(), ⟨rfl, rfl, rfl, rfl, rfl, rfl, rfl, trivial⟩, hset ▸ A6, K5.trans K6⟩
          rintro _ h4 ⟨A4, K4⟩
          refine wRun_of svx (by decide) ?_
          exact ⟨k + 1, by omega, ⟨rfl, rfl, rfl, rfl, rfl, rfl, slot (add64 (a := k) (b := 1) (by omega)), trivial⟩, by omega, by omega, K2.trans K4, B1 ++ [y], B3, by simpa using eB, by simp; omega, A4⟩
        rintro _ h2 ⟨X2, K2⟩
        refine wRun_of svx (by decide) ?_
        have rot : Rot a (a + 1) i xs (P ++ (B ++ (x :: Q))) := ⟨P, [x], B, Q, by rw [hPR]; simp, by simp, hPl, by simp, by omega⟩
        refine ⟨rfl, P ++ (B ++ (x :: Q)), X2, (K1.toX.trans K2).mono (fun _ _ h => h) (by omega), rot.RP.mono (Nat.le_refl _) hi2 (by omega), ?_⟩
        rw [hma] at S2 P1 hi1
        exact ins_left ordN S2 hi1 hi2 (by omega) P1 P2 rot
      · refine wRun_of svx (by decide) ?_
        refine ⟨(), ⟨rfl, rfl, rfl, rfl, rfl, trivial⟩, rfl, fun he => ?_⟩
        rw [ht.2 he] at htt; cases htt
    rintro _ h' ⟨rfl, hm1⟩
    -- one element on the right
    refine wRun_mid (σ := Unit) (fun _ => [(0, .slc (some (p, 0)) L c), (1, .int .i64 (Int.ofNat a)), (2, .int .i64 (Int.ofNat m)), (3, .int .i64 (Int.ofNat b)), (4, .func 40 [])]) (fun _ h1 => h1 = h' ∧ b - m ≠ 1) ?_ ?_
    · refine wRun_mid (σ := Bool) (fun t => [(0, .slc (some (p, 0)) L c), (1, .int .i64 (Int.ofNat a)), (2, .int .i64 (Int.ofNat m)), (3, .int .i64 (Int.ofNat b)), (4, .func 40 []), (80, .bool t)]) (fun t h1 => h1 = h' ∧ (t = true ↔ b - m = 1)) ?_ ?_
      · refine wRun_of svx (by decide) ?_
        rintro (_ | _) c1
        · refine ⟨false, ⟨rfl, rfl, rfl, rfl, rfl, rfl, trivial⟩, rfl, ?_⟩
          rw [sub64 (a := b) (b := m) (by omega) (by omega)] at c1
          have := neLen (j := 1) c1
          simp only [Bool.false_eq_true, false_iff]; exact this
        · refine ⟨true, ⟨rfl, rfl, rfl, rfl, rfl, rfl, trivial⟩, rfl, ?_⟩
          rw [sub64 (a := b) (b := m) (by omega) (by omega)] at c1
          simp only [true_iff]; exact eqI_len.1 c1
      rintro t h1 ⟨rfl, ht⟩
      refine wRun_cond (t := t) rfl (fun htt => ?_) (fun htt => ?_)
      · have hbm : b = m + 1 := by have := ht.1 htt; omega
        refine wRun_seq svx (by decide) ?_
        refine wRun_seq svx (by decide) ?_
        refine wRun_mid (σ := Nat) (fun i => [(0, .slc (some (p, 0)) L c), (1, .int .i64 (Int.ofNat a)), (2, .int .i64 (Int.ofNat m)), (3, .int .i64 (Int.ofNat b)), (4, .func 40 []), (14, .int .i64 (Int.ofNat i))]) (fun i h2 => a ≤ i ∧ i ≤ m ∧ (a < i → ∀ x y, xs[i - 1]? = some x → xs[m]? = some y → leN x y) ∧ (i < m → ∀ x y, xs[m]? = some x → xs[i]? = some y → leN x y) ∧ Kept (5 * (m - a)) h1 h2) ?_ ?_
        · refine wRun_block rfl ?_
          refine wLoopR (σ := Nat × Nat) (fun s => [(0, .slc (some (p, 0)) L c), (1, .int .i64 (Int.ofNat a)), (2, .int .i64 (Int.ofNat m)), (3, .int .i64 (Int.ofNat b)), (4, .func 40 []), (14, .int .i64 (Int.ofNat s.1)), (15, .int .i64 (Int.ofNat s.2))])
            (fun s h2 => a ≤ s.1 ∧ s.1 ≤ s.2 ∧ s.2 ≤ m ∧ (a < s.1 → ∀ x y, xs[s.1 - 1]? = some x → xs[m]? = some y → leN x y) ∧ (s.2 < m → ∀ x y, xs[m]? = some x → xs[s.2]? = some y → leN x y) ∧ Kept (5 * (m - a - (s.2 - s.1))) h1 h2)
            (fun s => s.2 - s.1) (a, m) (by rw [gN_fuel]; show m - a < 1000000; omega) ⟨rfl, rfl, rfl, rfl, rfl, rfl, rfl, trivial⟩ ⟨Nat.le_refl _, by simp; omega, Nat.le_refl _, fun h => absurd h (Nat.lt_irrefl _), fun h => absurd h (Nat.lt_irrefl _), Kept.refl h1⟩ ?_
          rintro ⟨i, j⟩ h2 ⟨hi1, hi2, hi3, P1, P2, K1⟩
          simp only at hi1 hi2 hi3 P1 P2 K1
          have n1 := K1.few
          refine wRun_mid (σ := Unit) (fun _ => [(0, .slc (some (p, 0)) L c), (1, .int .i64 (Int.ofNat a)), (2, .int .i64 (Int.ofNat m)), (3, .int .i64 (Int.ofNat b)), (4, .func 40 []), (14, .int .i64 (Int.ofNat i)), (15, .int .i64 (Int.ofNat j))]) (fun _ h3 => h3 = h2 ∧ i < j) ?_ ?_
          · refine wRun_of svx (by decide) ?_
            rintro (_ | _) c2
            · have : i = j := by have := natGe c2; omega
              subst this
              exact ⟨i, ⟨rfl, rfl, rfl, rfl, rfl, rfl, trivial⟩, hi1, hi3, P1, P2, K1.mono (by omega)⟩
            · exact ⟨(), ⟨rfl, rfl, rfl, rfl, rfl, rfl, rfl, trivial⟩, rfl, natLt c2⟩
          rintro _ h3 ⟨rfl, hij⟩
          refine wRun_block rfl ?_
          refine wRun_mid (σ := Unit) (fun _ => [(0, .slc (some (p, 0)) L c), (1, .int .i64 (Int.ofNat a)), (2, .int .i64 (Int.ofNat m)), (3, .int .i64 (Int.ofNat b)), (4, .func 40 []), (14, .int .i64 (Int.ofNat i)), (15, .int .i64 (Int.ofNat j)), (16, .int .i64 (Int.ofNat ((i + j) / 2)))]) (fun _ h4 => h4 = h3) ?_ ?_
          · refine wRun_of svx (by decide) ?_
            refine ⟨_, _, conv_run cv1 rfl, ?_⟩
            refine ⟨_, _, conv_run cv2 rfl, ?_⟩
            exact ⟨(), ⟨rfl, rfl, rfl, rfl, rfl, rfl, rfl, slot (halfSum (by omega)), trivial⟩, rfl⟩
          rintro _ h4 rfl
          obtain ⟨x, hx⟩ : ∃ x, xs[(i + j) / 2]? = some x := ⟨_, List.getElem?_eq_getElem (by omega)⟩
          obtain ⟨y, hy⟩ : ∃ y, xs[m]? = some y := ⟨_, List.getElem?_eq_getElem (by omega)⟩
          have X3 := Ary.kept K1 hX
          refine wRun_of svx (by decide) ?_
          refine ⟨m, rfl, by omega, _, XA.ld X3 hy rfl (by decide) (by decide), _, rfl, by omega, _, XA.ld X3 hx rfl (by decide) (by decide), ?_⟩
          obtain ⟨h5, hc, K4⟩ := less_x hdd y x h4 (by omega)
          refine ⟨_, _, hc, ?_⟩
          rintro (_ | _) c3
          · refine ⟨((i + j) / 2 + 1, j), by simp; omega, ⟨rfl, rfl, rfl, rfl, rfl, slot (add64 (a := (i + j) / 2) (b := 1) (by omega)), rfl, trivial⟩, by simp; omega, by simp; omega, hi3, fun _ x' y' hx' hy' => ?_, P2, (K1.trans K4).mono (by simp; omega)⟩
            simp only [Nat.add_sub_cancel] at hx'
            rw [hx] at hx'; rw [hy] at hy'; cases hx'; cases hy'
            exact cmpN_ge (by simpa using c3)
          · refine ⟨(i, (i + j) / 2), by simp; omega, ⟨rfl, rfl, rfl, rfl, rfl, rfl, rfl, trivial⟩, hi1, by simp; omega, by simp; omega, P1, fun _ x' y' hx' hy' => ?_, (K1.trans K4).mono (by simp; omega)⟩
            rw [hx] at hy'; rw [hy] at hx'; cases hx'; cases hy'
            exact cmpN_lt (by simpa using c3)
        rintro i h2 ⟨hi1, hi2, P1, P2, K1⟩
        have n1 := K1.few
        have X1 := Ary.kept K1 hX
        obtain ⟨y, hy⟩ : ∃ y, xs[m]? = some y := ⟨_, List.getElem?_eq_getElem (by omega)⟩
        obtain ⟨R, Q, hPR, hRl⟩ := split1 hy
        have hR : R = R.take i ++ R.drop i := (List.take_append_drop _ _).symm
        generalize hP : R.take i = P at hR
        generalize hA : R.drop i = A at hR
        have hPl : P.length = i := by rw [← hP]; simp; omega
        have hAl : i + A.length = m := by rw [← hA]; simp; omega
        subst hR
        have hQl : m + 1 + Q.length = L := by have := congrArg List.length hPR; simp at this; omega
        refine wRun_mid (σ := Unit) (fun _ => [(0, .slc (some (p, 0)) L c), (1, .int .i64 (Int.ofNat a)), (2, .int .i64 (Int.ofNat m)), (3, .int .i64 (Int.ofNat b)), (4, .func 40 [])]) (fun _ h3 => XA h3 p (P ++ (y :: (A ++ Q))) ∧ KeptX (fun x => x = p) 0 h2 h3) ?_ ?_
        · refine wRun_seq svx (by decide) ?_
          refine wRun_block rfl ?_
          refine wLoopR (σ := Nat) (fun k => [(0, .slc (some (p, 0)) L c), (1, .int .i64 (Int.ofNat a)), (2, .int .i64 (Int.ofNat m)), (3, .int .i64 (Int.ofNat b)), (4, .func 40 []), (14, .int .i64 (Int.ofNat i)), (17, .int .i64 (Int.ofNat k))])
            (fun k h3 => i ≤ k ∧ k ≤ m ∧ KeptX (fun x => x = p) 0 h2 h3 ∧ ∃ A1 A2, A = A1 ++ A2 ∧ i + A1.length = k ∧ XA h3 p (P ++ (A1 ++ (y :: (A2 ++ Q))))) (fun k => k)
            m (by rw [gN_fuel]; show m < 1000000; omega) ⟨rfl, rfl, rfl, rfl, rfl, rfl, rfl, trivial⟩ ⟨hi2, Nat.le_refl _, KeptX.refl h2, A, [], by simp, hAl, by rw [hPR, List.append_assoc] at X1; exact X1⟩ ?_
          rintro k h3 ⟨hk1, hk2, K2, A1, A2, eA, lA, X2⟩
          have n2 := K2.few
          refine wRun_mid (σ := Unit) (fun _ => [(0, .slc (some (p, 0)) L c), (1, .int .i64 (Int.ofNat a)), (2, .int .i64 (Int.ofNat m)), (3, .int .i64 (Int.ofNat b)), (4, .func 40 []), (14, .int .i64 (Int.ofNat i)), (17, .int .i64 (Int.ofNat k))]) (fun _ h4 => h4 = h3 ∧ i < k) ?_ ?_
          · refine wRun_of svx (by decide) ?_
            rintro (_ | _) c2
            · have hle : k ≤ i := leI_len.1 (by simpa using c2)
              have : A1 = [] := List.eq_nil_of_length_eq_zero (by omega)
              subst this
              rw [List.nil_append] at eA
              subst eA
              exact ⟨(), ⟨rfl, rfl, rfl, rfl, rfl, trivial⟩, X2, K2⟩
            · refine ⟨(), ⟨rfl, rfl, rfl, rfl, rfl, rfl, rfl, trivial⟩, rfl, ?_⟩
              have : ¬ leI (Int.ofNat k) (Int.ofNat i) = true := by simpa using c2
              rw [leI_len] at this; omega
          rintro _ h4 ⟨rfl, hki⟩
          obtain ⟨A3, x, rfl⟩ : ∃ r z, A1 = r ++ [z] := by
            rcases List.eq_nil_or_concat A1 with rfl | ⟨r, z, rfl⟩
            · simp at lA; omega
            · exact ⟨r, z, by simp⟩
          have lA3 : i + A3.length + 1 = k := by simp at lA; omega
          have gx : (P ++ (A3 ++ [x] ++ (y :: (A2 ++ Q))))[k - 1]? = some x := by
            have := getMid (P ++ A3) x (y :: (A2 ++ Q)) (i := k - 1) (by simp; omega)
            simpa using this
          have gy : (P ++ (A3 ++ [x] ++ (y :: (A2 ++ Q))))[k]? = some y := by
            have := getMid (P ++ (A3 ++ [x])) y (A2 ++ Q) (i := k) (by simp; omega)
            simpa using this
          have ll : (P ++ (A3 ++ [x] ++ (y :: (A2 ++ Q)))).length = L := by
            have := congrArg List.length eA
            simp at this ⊢; omega
          have hset : ((P ++ (A3 ++ [x] ++ (y :: (A2 ++ Q)))).set k x).set (k - 1) y = P ++ (A3 ++ (y :: ((x :: A2) ++ Q))) := by
            have e1 : k - 1 = (P ++ A3).length := by simp; omega
            have e2 : k = (P ++ A3).length + 1 := by simp; omega
            have e3 : P ++ (A3 ++ [x] ++ (y :: (A2 ++ Q))) = (P ++ A3) ++ x :: y :: (A2 ++ Q) := by simp
            rw [e3, e1]
            conv => lhs; rw [e2]
            rw [List.set_append, if_neg (by omega), Nat.add_sub_cancel_left, List.set_cons_succ, List.set_cons_zero, List.set_append, if_neg (Nat.lt_irrefl _), Nat.sub_self, List.set_cons_zero]
            simp
          refine wRun_mid (σ := Unit) (fun _ => [(0, .slc (some (p, 0)) L c), (1, .int .i64 (Int.ofNat a)), (2, .int .i64 (Int.ofNat m)), (3, .int .i64 (Int.ofNat b)), (4, .func 40 []), (14, .int .i64 (Int.ofNat i)), (17, .int .i64 (Int.ofNat k))]) (fun _ h5 => XA h5 p (P ++ (A3 ++ (y :: ((x :: A2) ++ Q)))) ∧ KeptX (fun x => x = p) 0 h4 h5) ?_ ?_
          · refine wRun_block rfl ?_
            refine wRun_of svx (by decide) ?_
            refine ⟨k - 1, sub64 (a := k) (b := 1) (by omega) (by omega), by omega, _, X2.ld gx rfl (by decide) (by decide), k, rfl, by omega, _, X2.ld gy rfl (by decide) (by decide), k, rfl, by omega, rfl, ?_⟩
            refine X2.setD (by omega) (i := k) (by omega) x (fun _ => trivial) (fun h5 A5 K5 => ?_)
            have n5 := K5.few
            refine ⟨k - 1, sub64 (a := k) (b := 1) (by omega) (by omega), by omega, rfl, ?_⟩
            obtain ⟨vs, esz, opn, pars, vs', e1, e2, e3, e4⟩ := A5.set (by omega) (i := k - 1) (by rw [List.length_set]; omega) y
            refine ⟨vs, esz, opn, pars, vs', e1, e2, e3, ?_⟩
            intro h6 hh6
            obtain ⟨A6, K6⟩ := e4 h6 hh6
            exact ⟨(), ⟨rfl, rfl, rfl, rfl, rfl, rfl, rfl, trivial⟩, hset ▸ A6, K5.trans K6⟩
          rintro _ h5 ⟨A4, K4⟩
          refine wRun_of svx (by decide) ?_
          exact ⟨k - 1, by omega, ⟨rfl, rfl, rfl, rfl, rfl, rfl, slot (sub64 (a := k) (b := 1) (by omega) (by omega)), trivial⟩, by omega, by omega, K2.trans K4, A3, x :: A2, by simpa using eA, by omega, A4⟩
        rintro _ h3 ⟨X2, K2⟩
        refine wRun_of svx (by decide) ?_
        have rot : Rot i m (m + 1) xs (P ++ (y :: (A ++ Q))) := ⟨P, A, [y], Q, by rw [hPR]; simp, by simp, hPl, hAl, by simp⟩
        refine ⟨rfl, P ++ (y :: (A ++ Q)), X2, (K1.toX.trans K2).mono (fun _ _ h => h) (by omega), rot.RP.mono hi1 (by omega) (by omega), ?_⟩
        rw [hbm]
        exact ins_right ordN S1 hi1 hi2 (by omega) P1 P2 rot
      · refine wRun_of svx (by decide) ?_
        refine ⟨(), ⟨rfl, rfl, rfl, rfl, rfl, trivial⟩, rfl, fun he => ?_⟩
        rw [ht.2 he] at htt; cases htt
    rintro _ h1 ⟨rfl, hb1⟩
    -- both are longer
    obtain ⟨mid, hmid⟩ : ∃ mid, mid = (a + b) / 2 := ⟨_, rfl⟩
    obtain ⟨n, hnn⟩ : ∃ n, n = mid + m := ⟨_, rfl⟩
    have hp2 : b - a ≤ 2 * 2 ^ K := by rw [Nat.pow_succ] at hpow; omega
    have hsplit : (mid - a) * K + (b - mid) * K = (b - a) * K := by rw [← Nat.add_mul]; congr 1; omega
    refine wRun_mid (σ := Unit) (fun _ => [(0, .slc (some (p, 0)) L c), (1, .int .i64 (Int.ofNat a)), (2, .int .i64 (Int.ofNat m)), (3, .int .i64 (Int.ofNat b)), (4, .func 40 []), (18, .int .i64 (Int.ofNat mid))]) (fun _ h2 => h2 = h1) ?_ ?_
    · refine wRun_of svx (by decide) ?_
      refine ⟨_, _, conv_run cv1 rfl, ?_⟩
      refine ⟨_, _, conv_run cv2 rfl, ?_⟩
      exact ⟨(), ⟨rfl, rfl, rfl, rfl, rfl, hmid ▸ slot (halfSum (by omega)), trivial⟩, rfl⟩
    rintro _ h2 rfl
    refine wRun_mid (σ := Unit) (fun _ => [(0, .slc (some (p, 0)) L c), (1, .int .i64 (Int.ofNat a)), (2, .int .i64 (Int.ofNat m)), (3, .int .i64 (Int.ofNat b)), (4, .func 40 []), (18, .int .i64 (Int.ofNat mid)), (19, .int .i64 (Int.ofNat n))]) (fun _ h3 => h3 = h2) ?_ ?_
    · refine wRun_of svx (by decide) ?_
      exact ⟨(), ⟨rfl, rfl, rfl, rfl, rfl, rfl, hnn ▸ slot (add64 (by omega)), trivial⟩, rfl⟩
    rintro _ h3 rfl
    refine wRun_seq svx (by decide) ?_
    refine wRun_mid (σ := Nat × Nat) (fun s => [(0, .slc (some (p, 0)) L c), (1, .int .i64 (Int.ofNat a)), (2, .int .i64 (Int.ofNat m)), (3, .int .i64 (Int.ofNat b)), (4, .func 40 []), (18, .int .i64 (Int.ofNat mid)), (19, .int .i64 (Int.ofNat n)), (20, .int .i64 (Int.ofNat s.1)), (21, .int .i64 (Int.ofNat s.2))])
      (fun s h4 => h4 = h3 ∧ ((mid < m ∧ s.1 + b = n ∧ s.2 = mid) ∨ (m ≤ mid ∧ s.1 = a ∧ s.2 = m))) ?_ ?_
    · refine wRun_of svx (by decide) ?_
      rintro (_ | _) c1
      · have hle : m ≤ mid := leI_len.1 (by simpa using c1)
        exact ⟨(a, m), ⟨rfl, rfl, rfl, rfl, rfl, rfl, rfl, rfl, rfl, trivial⟩, rfl, .inr ⟨hle, rfl, rfl⟩⟩
      · have hlt : mid < m := by
          have : ¬ leI (Int.ofNat m) (Int.ofNat mid) = true := by simpa using c1
          rw [leI_len] at this; omega
        exact ⟨(n - b, mid), ⟨rfl, rfl, rfl, rfl, rfl, rfl, rfl, slot (sub64 (a := n) (b := b) (by omega) (by omega)), rfl, trivial⟩, rfl, .inl ⟨hlt, by simp; omega, rfl⟩⟩
    rintro ⟨lo, hi⟩ h4 ⟨rfl, hlohi⟩
    simp only at hlohi
    refine wRun_mid (σ := Unit) (fun _ => [(0, .slc (some (p, 0)) L c), (1, .int .i64 (Int.ofNat a)), (2, .int .i64 (Int.ofNat m)), (3, .int .i64 (Int.ofNat b)), (4, .func 40 []), (18, .int .i64 (Int.ofNat mid)), (19, .int .i64 (Int.ofNat n)), (20, .int .i64 (Int.ofNat lo)), (21, .int .i64 (Int.ofNat hi)), (22, .int .i64 (Int.ofNat (n - 1)))]) (fun _ h5 => h5 = h4) ?_ ?_
    · refine wRun_of svx (by decide) ?_
      exact ⟨(), ⟨rfl, rfl, rfl, rfl, rfl, rfl, rfl, rfl, rfl, slot (sub64 (a := n) (b := 1) (by omega) (by omega)), trivial⟩, rfl⟩
    rintro _ h5 rfl
    have hlh : lo ≤ hi ∧ a ≤ lo ∧ hi ≤ m := by rcases hlohi with ⟨q1, q2, q3⟩ | ⟨q1, q2, q3⟩ <;> omega
    refine wRun_mid (σ := Nat) (fun s => [(0, .slc (some (p, 0)) L c), (1, .int .i64 (Int.ofNat a)), (2, .int .i64 (Int.ofNat m)), (3, .int .i64 (Int.ofNat b)), (4, .func 40 []), (18, .int .i64 (Int.ofNat mid)), (19, .int .i64 (Int.ofNat n)), (20, .int .i64 (Int.ofNat s))])
      (fun s h6 => lo ≤ s ∧ s ≤ hi ∧ (lo < s → ∀ x y, xs[s - 1]? = some x → xs[n - s]? = some y → leN x y) ∧ (s < hi → ∀ x y, xs[n - 1 - s]? = some x → xs[s]? = some y → leN x y) ∧ Kept (5 * (b - a)) h5 h6) ?_ ?_
    · refine wRun_block rfl ?_
      refine wLoopR (σ := Nat × Nat) (fun s => [(0, .slc (some (p, 0)) L c), (1, .int .i64 (Int.ofNat a)), (2, .int .i64 (Int.ofNat m)), (3, .int .i64 (Int.ofNat b)), (4, .func 40 []), (18, .int .i64 (Int.ofNat mid)), (19, .int .i64 (Int.ofNat n)), (20, .int .i64 (Int.ofNat s.1)), (21, .int .i64 (Int.ofNat s.2)), (22, .int .i64 (Int.ofNat (n - 1)))])
        (fun s h6 => lo ≤ s.1 ∧ s.1 ≤ s.2 ∧ s.2 ≤ hi ∧ (lo < s.1 → ∀ x y, xs[s.1 - 1]? = some x → xs[n - s.1]? = some y → leN x y) ∧ (s.2 < hi → ∀ x y, xs[n - 1 - s.2]? = some x → xs[s.2]? = some y → leN x y) ∧ Kept (5 * (hi - lo - (s.2 - s.1))) h5 h6)
        (fun s => s.2 - s.1) (lo, hi) (by rw [gN_fuel]; show hi - lo < 1000000; omega) ⟨rfl, rfl, rfl, rfl, rfl, rfl, rfl, rfl, rfl, rfl, trivial⟩ ⟨Nat.le_refl _, hlh.1, Nat.le_refl _, fun h => absurd h (Nat.lt_irrefl _), fun h => absurd h (Nat.lt_irrefl _), Kept.refl h5⟩ ?_
      rintro ⟨i, j⟩ h6 ⟨hi1, hi2, hi3, P1, P2, K1⟩
      simp only at hi1 hi2 hi3 P1 P2 K1
      have n1 := K1.few
      refine wRun_mid (σ := Unit) (fun _ => [(0, .slc (some (p, 0)) L c), (1, .int .i64 (Int.ofNat a)), (2, .int .i64 (Int.ofNat m)), (3, .int .i64 (Int.ofNat b)), (4, .func 40 []), (18, .int .i64 (Int.ofNat mid)), (19, .int .i64 (Int.ofNat n)), (20, .int .i64 (Int.ofNat i)), (21, .int .i64 (Int.ofNat j)), (22, .int .i64 (Int.ofNat (n - 1)))]) (fun _ h7 => h7 = h6 ∧ i < j) ?_ ?_
      · refine wRun_of svx (by decide) ?_
        rintro (_ | _) c2
        · have : i = j := by have := natGe c2; omega
          subst this
          exact ⟨i, ⟨rfl, rfl, rfl, rfl, rfl, rfl, rfl, rfl, trivial⟩, hi1, hi3, P1, P2, K1.mono (by omega)⟩
        · exact ⟨(), ⟨rfl, rfl, rfl, rfl, rfl, rfl, rfl, rfl, rfl, rfl, trivial⟩, rfl, natLt c2⟩
      rintro _ h7 ⟨rfl, hij⟩
      refine wRun_block rfl ?_
      obtain ⟨c0, hc0⟩ : ∃ c0, c0 = (i + j) / 2 := ⟨_, rfl⟩
      refine wRun_mid (σ := Unit) (fun _ => [(0, .slc (some (p, 0)) L c), (1, .int .i64 (Int.ofNat a)), (2, .int .i64 (Int.ofNat m)), (3, .int .i64 (Int.ofNat b)), (4, .func 40 []), (18, .int .i64 (Int.ofNat mid)), (19, .int .i64 (Int.ofNat n)), (20, .int .i64 (Int.ofNat i)), (21, .int .i64 (Int.ofNat j)), (22, .int .i64 (Int.ofNat (n - 1))), (23, .int .i64 (Int.ofNat c0))]) (fun _ h8 => h8 = h7) ?_ ?_
      · refine wRun_of svx (by decide) ?_
        refine ⟨_, _, conv_run cv1 rfl, ?_⟩
        refine ⟨_, _, conv_run cv2 rfl, ?_⟩
        exact ⟨(), ⟨rfl, rfl, rfl, rfl, rfl, rfl, rfl, rfl, rfl, rfl, hc0 ▸ slot (halfSum (by omega)), trivial⟩, rfl⟩
      rintro _ h8 rfl
      have hb1' : n - 1 - c0 < b := by rcases hlohi with ⟨q1, q2, q3⟩ | ⟨q1, q2, q3⟩ <;> omega
      have hb2' : c0 + 1 ≤ n := by rcases hlohi with ⟨q1, q2, q3⟩ | ⟨q1, q2, q3⟩ <;> omega
      have hb3' : c0 < b := by omega
      obtain ⟨x, hx⟩ : ∃ x, xs[n - 1 - c0]? = some x := ⟨_, List.getElem?_eq_getElem (by omega)⟩
      obtain ⟨y, hy⟩ : ∃ y, xs[c0]? = some y := ⟨_, List.getElem?_eq_getElem (by omega)⟩
      have X3 := Ary.kept K1 hX
      refine wRun_of svx (by decide) ?_
      refine ⟨n - 1 - c0, sub64 (a := n - 1) (b := c0) (by omega) (by omega), by omega, _, XA.ld X3 hx rfl (by decide) (by decide), c0, rfl, by omega, _, XA.ld X3 hy rfl (by decide) (by decide), ?_⟩
      obtain ⟨h9, hc, K4⟩ := less_x hdd x y h8 (by omega)
      refine ⟨_, _, hc, ?_⟩
      rintro (_ | _) c3
      · refine ⟨(c0 + 1, j), by simp; omega, ⟨rfl, rfl, rfl, rfl, rfl, rfl, rfl, slot (add64 (a := c0) (b := 1) (by omega)), rfl, rfl, trivial⟩, by simp; omega, by simp; omega, hi3, fun _ x' y' hx' hy' => ?_, P2, (K1.trans K4).mono (by simp; omega)⟩
        simp only [Nat.add_sub_cancel] at hx' hy'
        have e : n - (c0 + 1) = n - 1 - c0 := by omega
        rw [e, hx] at hy'; rw [hy] at hx'; cases hx'; cases hy'
        exact cmpN_ge (by simpa using c3)
      · refine ⟨(i, c0), by simp; omega, ⟨rfl, rfl, rfl, rfl, rfl, rfl, rfl, rfl, rfl, rfl, trivial⟩, hi1, by simp; omega, by simp; omega, P1, fun _ x' y' hx' hy' => ?_, (K1.trans K4).mono (by simp; omega)⟩
        simp only at hx' hy'
        rw [hx] at hx'; rw [hy] at hy'; cases hx'; cases hy'
        exact cmpN_lt (by simpa using c3)
    rintro s h6 ⟨hs1, hs2, P1, P2, K1⟩
    have n1 := K1.few
    have X6 := Ary.kept K1 hX
    obtain ⟨e, he⟩ : ∃ e, e = n - s := ⟨_, rfl⟩
    have hse : s + e = mid + m ∧ m ≤ e ∧ e ≤ b := by rcases hlohi with ⟨q1, q2, q3⟩ | ⟨q1, q2, q3⟩ <;> omega
    refine wRun_mid (σ := Unit) (fun _ => [(0, .slc (some (p, 0)) L c), (1, .int .i64 (Int.ofNat a)), (2, .int .i64 (Int.ofNat m)), (3, .int .i64 (Int.ofNat b)), (4, .func 40 []), (18, .int .i64 (Int.ofNat mid)), (20, .int .i64 (Int.ofNat s)), (24, .int .i64 (Int.ofNat e))]) (fun _ h7 => h7 = h6) ?_ ?_
    · refine wRun_of svx (by decide) ?_
      exact ⟨(), ⟨rfl, rfl, rfl, rfl, rfl, rfl, rfl, he ▸ slot (sub64 (a := n) (b := s) (by omega) (by omega)), trivial⟩, rfl⟩
    rintro _ h7 rfl
    -- the rotation
    refine wRun_mid (σ := List XD) (fun _ => [(0, .slc (some (p, 0)) L c), (1, .int .i64 (Int.ofNat a)), (2, .int .i64 (Int.ofNat m)), (3, .int .i64 (Int.ofNat b)), (4, .func 40 []), (18, .int .i64 (Int.ofNat mid)), (20, .int .i64 (Int.ofNat s)), (24, .int .i64 (Int.ofNat e))]) (fun ys h8 => Rot s m e xs ys ∧ XA h8 p ys ∧ KeptX (fun x => x = p) 0 h7 h8) ?_ ?_
    · refine wRun_of svx (by decide) ?_
      rintro (_ | _) c1
      · have hge := natGe c1
        have : s = m := by omega
        subst this
        exact ⟨xs, ⟨rfl, rfl, rfl, rfl, rfl, rfl, rfl, rfl, trivial⟩, Rot.id1 hse.2.1 (by omega), X6, KeptX.refl _⟩
      · have hsm := natLt c1
        rintro (_ | _) c2
        · have hge := natGe c2
          have : e = m := by omega
          subst this
          exact ⟨xs, ⟨rfl, rfl, rfl, rfl, rfl, rfl, rfl, rfl, trivial⟩, Rot.id2 (by omega) (by omega), X6, KeptX.refl _⟩
        · have hme := natLt c2
          obtain ⟨P, A, B, Q, q0, q1, q2, q3⟩ := dec4 (l := xs) (s := s) (m := m) (e := e) (by omega) (by omega) (by omega)
          obtain ⟨h8, hc, X8, K8⟩ := rotate_x (D := d) (by omega) p c xs s m e P A B Q q0 q1 q2 q3 hsm hme (by omega) h7 (by omega) X6 (.func 40 [])
          rw [hxs] at hc
          refine ⟨_, _, hc, ?_⟩
          exact ⟨_, ⟨rfl, rfl, rfl, rfl, rfl, rfl, rfl, rfl, trivial⟩, ⟨P, A, B, Q, q0, rfl, q1, q2, q3⟩, X8, K8⟩
    rintro ys h8 ⟨rot, X8, K8⟩
    have n8 := K8.few
    have hyl : ys.length = L := by rw [rot.RP.len]; exact hxs
    have hcross := sym_cross ordN S1 S2 hab hmb (by omega) (by omega : a ≤ s) (by omega) hse.1 hse.2.1 hse.2.2 (by omega) (by omega) (lo := lo) (hi := hi) (by rcases hlohi with ⟨q1, q2, q3⟩ | ⟨q1, q2, q3⟩ <;> omega) (by rcases hlohi with ⟨q1, q2, q3⟩ | ⟨q1, q2, q3⟩ <;> omega)
      hs1 hs2 (fun hh x y hx hy => P1 hh x y hx (by rw [← he]; exact hy)) (fun hh x y hx hy => P2 hh x y (by rw [show n - 1 - s = e - 1 by omega]; exact hx) hy) rot
    obtain ⟨T1, T2, T3⟩ := rot.left S1 (S2.sub (Nat.le_refl _) hse.2.2) hse.1 (by omega)
    have T4 : SR leN e b ys := (S2.sub hse.2.1 (Nat.le_refl _)).eq fun k h1 _ => rot.RP.out (.inr h1)
    -- the left half
    refine wRun_mid (σ := List XD) (fun _ => [(0, .slc (some (p, 0)) L c), (1, .int .i64 (Int.ofNat a)), (2, .int .i64 (Int.ofNat m)), (3, .int .i64 (Int.ofNat b)), (4, .func 40 []), (18, .int .i64 (Int.ofNat mid)), (24, .int .i64 (Int.ofNat e))]) (fun zs h9 => XA h9 p zs ∧ KeptX (fun x => x = p) (5 * ((mid - a) * K)) h8 h9 ∧ RP a mid ys zs ∧ SR leN a mid zs) ?_ ?_
    · refine wRun_of svx (by decide) ?_
      rintro (_ | _) c1
      · have hge := natGe c1
        have : s = a := by omega
        exact ⟨ys, ⟨rfl, rfl, rfl, rfl, rfl, rfl, rfl, trivial⟩, X8, KeptX.refl _, RP.refl (by omega) (by omega), this ▸ T2⟩
      · have has := natLt c1
        rintro (_ | _) c2
        · have hge := natGe c2
          exact ⟨ys, ⟨rfl, rfl, rfl, rfl, rfl, rfl, rfl, trivial⟩, X8, KeptX.refl _, RP.refl (by omega) (by omega), T1.sub (Nat.le_refl _) hge⟩
        · have hsm := natLt c2
          obtain ⟨v, h9, hc, rfl, zs, X9, K9, R9, S9⟩ := ih d a s mid ys h8 hyl has hsm (by omega) (by omega) (by omega) (by omega) X8 T1 T2
          refine ⟨_, _, hc, ?_⟩
          exact ⟨zs, ⟨rfl, rfl, rfl, rfl, rfl, rfl, rfl, trivial⟩, X9, K9, R9, S9⟩
    rintro zs h9 ⟨X9, K9, R9, S9⟩
    have n9 := K9.few
    have hzl : zs.length = L := by rw [R9.len]; exact hyl
    have T5 : SR leN mid e zs := T3.eq fun k h1 _ => R9.out (.inr h1)
    have T6 : SR leN e b zs := T4.eq fun k h1 _ => R9.out (.inr (by omega))
    have fin : ∀ (h10 : H) (ws : List XD), XA h10 p ws → KeptX (fun x => x = p) (5 * ((b - mid) * K)) h9 h10 → RP mid b zs ws → SR leN mid b ws → Merged p a b (5 * ((b - a) * (K + 1))) xs h5 h10 := fun h10 ws X10 K10 R10 S10 =>
      ⟨ws, X10, ((((K1.toX.trans K8).trans K9).trans K10)).mono (fun _ _ h => h) (by omega), ((rot.RP.mono (by omega) hse.2.2 (by omega)).trans (R9.mono (Nat.le_refl _) (by omega) (by omega))).trans (R10.mono (by omega) (Nat.le_refl _) (by omega)), join2 R9 S9 R10 S10 hcross⟩
    -- the right half
    refine wRun_of svx (by decide) ?_
    rintro (_ | _) c1
    · have hge := natGe c1
      have : e = mid := by omega
      exact ⟨rfl, fin h9 zs X9 (KeptX.refl _) (RP.refl (by omega) (by omega)) (this ▸ T6)⟩
    · have hme := natLt c1
      rintro (_ | _) c2
      · have hge := natGe c2
        have : e = b := by omega
        exact ⟨rfl, fin h9 zs X9 (KeptX.refl _) (RP.refl (by omega) (by omega)) (this ▸ T5)⟩
      · have heb := natLt c2
        obtain ⟨v, h10, hc, rfl, ws, X10, K10, R10, S10⟩ := ih d mid e b zs h9 hzl hme heb hbL (by omega) (by omega) (by omega) X9 T5 T6
        refine ⟨_, _, hc, ?_⟩
        exact ⟨rfl, fin h10 ws X10 K10 R10 S10⟩
end Go.Proofs
end
