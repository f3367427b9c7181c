/- register.owned. -/
import Derived.Test.YtakbgbnnocmaiaaGreatDoorTj
set_option linter.all false
section
namespace Go.Proofs
open Go.Sim Go.SortL
variable {D : Nat}

theorem At.st {h h' : H} (hc : h.next ≤ 1048576) {p n : Nat} {vs w : List AVal} (A : At h p vs n) (hh : h' = (kill h []).setO p (.cells w n false false [])) : At h' p w n ∧ KeptX (fun x => x = p) 0 h h' := by
  have hh : h' = h.setO p (.cells w n false false []) := hh
  subst hh
  exact ⟨⟨by rw [Sim.setO_next]; exact A.lt, Sim.setO_self hc A.lt _⟩, KeptX.setO hc A.lt _⟩

theorem At.keptX {X : Nat → Prop} {k : Nat} {h h' : H} (K : KeptX X k h h') {p n : Nat} {vs : List AVal} (A : At h p vs n) (hX : ¬ X p) : At h' p vs n := ⟨Nat.lt_of_lt_of_le A.lt K.next, (K.get p A.lt hX).trans A.get⟩

/-- a call in a part that draws; the heap behind it by name -/
theorem hv' {k : Nat} {h h' : H} (hn : h.next ≤ 1048576) (K : Kept k (h.withLo big) h') {P : H → Prop} (hP : ∀ h2, h2 = h'.withLo (minN h.lo h'.lo) → Kept k h h2 → P h2) {W : Prop} : (h.next ≤ h'.lo ∨ W) ∧ ∀ h2, h2 = h'.withLo (minN h.lo h'.lo) → P h2 :=
  ⟨.inl (heavy_lo (big_next hn) K), fun h2 hh => hP h2 hh (hh ▸ K.heavy (big_next hn))⟩

theorem SlR.keptX {α : Type} {X : Nat → Prop} {c : Nat} {h h' : H} (K : KeptX X c h h') {k : Nat} {enc : α → List AVal} {a : SL} {n : Nat} {xs : List α} (R : SlR h k enc a n xs) (hX : ∀ b off, a = some (b, off) → ¬ X b) : SlR h' k enc a n xs := ⟨R.1, ARows.keptX K hX R.2⟩

set_option maxRecDepth 1000000 in
set_option maxHeartbeats 2000000 in
theorem owned_x (hD : 2 ≤ D) (A : ED) (h : H) (ha : EAt h A) (hs : EShort A) (hn : h.next + 8 ≤ 1048576) :
    ∃ h' B, (GX D).call 18 [.agg A.e.cells] h = .ok (.agg B.e.cells) h' ∧ Kept 8 h h' ∧ EAt h' B ∧ EqD B A ∧ EShort B := by
  obtain ⟨d, rfl, hd⟩ := dsucc hD
  have : ∃ v h', (GX (d + 1)).call 18 [.agg A.e.cells] h = .ok v h' ∧ ∃ B : ED, v = .agg B.e.cells ∧ Kept 8 h h' ∧ EAt h' B ∧ EqD B A ∧ EShort B := by
    refine call_w Tryz.func18 rfl ?_
    refine ⟨(room_iff h).2 (by omega), ?_⟩
    intro p1 h1 hp1 hh1
    obtain ⟨A1, K1⟩ := At.new (by omega) hp1 hh1
    have n1 := K1.few
    refine ⟨(room_iff h1).2 (by omega), ?_⟩
    intro p2 h2 hp2 hh2
    obtain ⟨A2, K2⟩ := At.new (by omega) hp2 hh2
    have n2 := K2.few
    have hp12 : p1 ≠ p2 := by have := A1.lt; omega
    replace A1 := A1.kept K2
    have E2 := (ha.kept K1).kept K2
    have l1 := A1.lt
    have l2 := A2.lt
    clear hh1 hh2
    refine ⟨_, A1.ld rfl, ?_⟩
    obtain ⟨h3', a1, c1, hc1, O1, L1⟩ := cloneInts_x (D := d) (by omega) A.e.ringA A.e.ringN A.e.ringC A.ring (h2.withLo Sim.big) (by rw [withLo_next]; omega) (SlR.lo E2.ring _) (by rw [← E2.ring.1]; exact hs.1)
    refine ⟨_, _, hc1, ?_⟩
    refine hv' (by omega) L1 (fun h3 e3 K3 => ?_)
    have S1 : SlR h3 1 intC a1 A.e.ringN A.ring := by rw [e3]; exact SlR.lo O1.slr _
    have b1 : ∀ b off, a1 = some (b, off) → h2.next ≤ b := fun b off hb => by
      rcases O1.blk with ⟨q, _⟩ | ⟨b', q, q2, _⟩
      · rw [q] at hb; cases hb
      · rw [q] at hb; cases hb; rw [withLo_next] at q2; exact q2
    clear e3
    have n3 := K3.few
    have E3 := E2.kept K3
    replace A1 := A1.kept K3
    replace A2 := A2.kept K3
    refine ⟨_, A1.ld rfl, ?_⟩
    obtain ⟨h4', a2, c2, hc2, O2, L2⟩ := cloneLegs_x (D := d) (by omega) A.e.legsA A.e.legsN A.e.legsC A.legs (h3.withLo Sim.big) (by rw [withLo_next]; omega) (SlR.lo E3.legs _) (by rw [← E3.legs.1]; exact hs.2.1)
    refine ⟨_, _, hc2, ?_⟩
    refine hv' (by omega) L2 (fun h4 e4 K4 => ?_)
    have S2 : SlR h4 8 LegV.cells a2 A.e.legsN A.legs := by rw [e4]; exact SlR.lo O2.slr _
    have b2 : ∀ b off, a2 = some (b, off) → h2.next ≤ b := fun b off hb => by
      have := K3.next
      rcases O2.blk with ⟨q, _⟩ | ⟨b', q, q2, _⟩
      · rw [q] at hb; cases hb
      · rw [q] at hb; cases hb; rw [withLo_next] at q2; omega
    clear e4
    have n4 := K4.few
    have E4 := E3.kept K4
    replace A1 := A1.kept K4
    replace A2 := A2.kept K4
    replace S1 := S1.kept K4
    refine ⟨_, A1.ld rfl, ?_⟩
    obtain ⟨h5', a3, c3, hc3, O3, L3⟩ := cloneOffs_x (D := d) (by omega) A.e.offsetsA A.e.offsetsN A.e.offsetsC A.offs (h4.withLo Sim.big) (by rw [withLo_next]; omega) (SlR.lo E4.offs _) (by rw [← E4.offs.1]; exact hs.2.2)
    refine ⟨_, _, hc3, ?_⟩
    refine hv' (by omega) L3 (fun h5 e5 K5 => ?_)
    have S3 : SlR h5 4 OffV.cells a3 A.e.offsetsN A.offs := by rw [e5]; exact SlR.lo O3.slr _
    have b3 : ∀ b off, a3 = some (b, off) → h2.next ≤ b := fun b off hb => by
      have := K3.next
      have := K4.next
      rcases O3.blk with ⟨q, _⟩ | ⟨b', q, q2, _⟩
      · rw [q] at hb; cases hb
      · rw [q] at hb; cases hb; rw [withLo_next] at q2; omega
    clear e5
    have n5 := K5.few
    replace A1 := A1.kept K5
    replace A2 := A2.kept K5
    replace S1 := S1.kept K5
    replace S2 := S2.kept K5
    refine ⟨rfl, _, _, _, _, _, A1.get, rfl, rfl, ?_⟩
    intro h6 hh6
    obtain ⟨A1, K6⟩ := A1.st (by omega) hh6
    have n6 := K6.few
    replace A2 := A2.keptX K6 (fun he => hp12 he.symm)
    clear hh6
    refine ⟨rfl, _, _, _, _, _, A1.get, rfl, rfl, ?_⟩
    intro h7 hh7
    obtain ⟨A1, K7⟩ := A1.st (by omega) hh7
    have n7 := K7.few
    replace A2 := A2.keptX K7 (fun he => hp12 he.symm)
    clear hh7
    refine ⟨rfl, _, _, _, _, _, A1.get, rfl, rfl, ?_⟩
    intro h8 hh8
    obtain ⟨A1, K8⟩ := A1.st (by omega) hh8
    have n8 := K8.few
    replace A2 := A2.keptX K8 (fun he => hp12 he.symm)
    clear hh8
    refine ⟨_, A1.ld rfl, ?_⟩
    refine ⟨rfl, _, _, _, _, _, A2.get, rfl, rfl, ?_⟩
    intro h9 hh9
    obtain ⟨A2, K9⟩ := A2.st (by omega) hh9
    clear hh9
    refine ⟨_, A2.ld rfl, ?_⟩
    have K68 := (K6.trans K7).trans K8
    have hX1 : ∀ (a : SL), (∀ b off, a = some (b, off) → h2.next ≤ b) → ∀ b off, a = some (b, off) → ¬ (b = p1) := fun a hb b off e he => by have := hb b off e; omega
    have hX2 : ∀ (a : SL), (∀ b off, a = some (b, off) → h2.next ≤ b) → ∀ b off, a = some (b, off) → ¬ (b = p2) := fun a hb b off e he => by have := hb b off e; omega
    refine ⟨⟨{ A.e with ringA := a1, ringC := c1, legsA := a2, legsC := c2, offsetsA := a3, offsetsC := c3 }, A.ring, A.legs, A.offs⟩, rfl, ?_,
      ⟨(S1.keptX K68 (hX1 a1 b1)).keptX K9 (hX2 a1 b1), (S2.keptX K68 (hX1 a2 b2)).keptX K9 (hX2 a2 b2), (S3.keptX K68 (hX1 a3 b3)).keptX K9 (hX2 a3 b3)⟩, ⟨rfl, rfl, rfl, rfl⟩, hs⟩
    have K05 := ((((K1.trans K2).trans K3).trans K4).trans K5)
    have K09 := (K68.mono (Y := fun x => h.next ≤ x) (fun x _ hx => by subst hx; omega) (Nat.le_refl _)).trans (K9.mono (Y := fun x => h.next ≤ x) (fun x _ hx => by have := K1.next; subst hx; omega) (Nat.le_refl _))
    exact (K05.thenX K09 fun i hi => hi).mono (by omega)
  obtain ⟨v, h', h1, B, rfl, h2⟩ := this
  exact ⟨h', B, h1, h2⟩
end Go.Proofs
end
section
/- register.Effective. -/
namespace Go.Proofs
open Go.Sim Go.SortL
variable {D : Nat}

/-! ### The map of names -/

def encK (k : Int × Int) : AVal × AVal := (.agg (nmC k.1 k.2), .bool true)

theorem eqK_nm (a b : Int) (k : Int × Int) : ∃ q, eqK (.agg (nmC a b)) (encK k).1 = some q ∧ (q = true ↔ (a, b) = k) := by
  obtain ⟨q, h1, h2⟩ := eqL_iff (x := nmC a b) (y := nmC k.1 k.2) rfl (by simp [nmC, sk])
  refine ⟨q, h1, h2.trans ?_⟩
  obtain ⟨c, d⟩ := k
  simp [nmC]

theorem findK (a b : Int) : ∀ (keys : List (Int × Int)), findE (.agg (nmC a b)) (keys.map encK) = some (if (a, b) ∈ keys then some (.bool true) else none)
  | [] => rfl
  | k :: keys => by
    obtain ⟨q, h1, h2⟩ := eqK_nm a b k
    show ob (eqK (.agg (nmC a b)) (encK k).1) (fun q => sel q (some (some (encK k).2)) (findE (.agg (nmC a b)) (keys.map encK))) = _
    rw [h1, ob_some, findK a b keys]
    cases q with
    | true =>
      have hm : (a, b) ∈ k :: keys := by rw [← h2.1 rfl]; exact List.mem_cons_self ..
      rw [if_pos hm]; rfl
    | false =>
      have hne : (a, b) ≠ k := fun he => by have := h2.2 he; cases this
      by_cases hm : (a, b) ∈ keys
      · rw [if_pos hm, if_pos (List.mem_cons_of_mem _ hm)]
      · rw [if_neg hm, if_neg (by simp [hne, hm])]

theorem putK (a b : Int) : ∀ (keys : List (Int × Int)), (a, b) ∈ keys → putE' (.agg (nmC a b)) (.bool true) (keys.map encK) = some (keys.map encK)
  | [], h => by cases h
  | k :: keys, h => by
    obtain ⟨q, h1, h2⟩ := eqK_nm a b k
    show ob (eqK (.agg (nmC a b)) (encK k).1) (fun q => sel q (some (((encK k).1, .bool true) :: keys.map encK)) (ob (putE' (.agg (nmC a b)) (.bool true) (keys.map encK)) (fun r' => some (encK k :: r')))) = _
    rw [h1, ob_some]
    cases q with
    | true => rfl
    | false =>
      have hne : (a, b) ≠ k := fun he => by have := h2.2 he; cases this
      have hm : (a, b) ∈ keys := by
        rcases List.mem_cons.1 h with h | h
        · exact absurd h hne
        · exact h
      rw [putK a b keys hm]; rfl

structure MapAt (h : H) (pm : Nat) (keys : List (Int × Int)) : Prop where
  lt : pm < h.next
  get : ∃ ck, h.get pm = some (.map (keys.map encK) ck)

theorem MapAt.keptX {X : Nat → Prop} {k : Nat} {h h' : H} (K : KeptX X k h h') {pm : Nat} {keys : List (Int × Int)} (M : MapAt h pm keys) (hX : ¬ X pm) : MapAt h' pm keys := by
  obtain ⟨ck, hg⟩ := M.get
  exact ⟨Nat.lt_of_lt_of_le M.lt K.next, ck, (K.get pm M.lt hX).trans hg⟩
theorem MapAt.kept {k : Nat} {h h' : H} (K : Kept k h h') {pm : Nat} {keys : List (Int × Int)} (M : MapAt h pm keys) : MapAt h' pm keys := M.keptX (X := fun _ => False) K.toX id

theorem MapAt.put {h : H} (hc : h.next ≤ 1048576) {pm : Nat} {keys : List (Int × Int)} (M : MapAt h pm keys) (a b : Int) :
    ∃ h' keys', (∀ d x e kk, mapSetX d x e h kk pm (.agg (nmC a b)) (.bool true) = (putF d).run .undef x e h' kk) ∧ MapAt h' pm keys' ∧ KeptX (fun x => x = pm) 0 h h' ∧ ∀ k, k ∈ keys' ↔ k ∈ keys ∨ k = (a, b) := by
  obtain ⟨ck, hg⟩ := M.get
  have hset : ∀ (es : List (AVal × AVal)) (ck' : Nat), (h.setO pm (.map es ck')).get pm = some (.map es ck') := fun es ck' => Sim.setO_self hc M.lt _
  by_cases hm : (a, b) ∈ keys
  · refine ⟨h.setO pm (.map (keys.map encK) ck), keys, fun d x e kk => ?_, ⟨by rw [Sim.setO_next]; exact M.lt, ck, hset _ _⟩, KeptX.setO hc M.lt _, fun k => ?_⟩
    · show onMapO (h.get pm) _ = _
      rw [hg]
      show ox (findE (.agg (nmC a b)) (keys.map encK)) _ = _
      rw [findK, if_pos hm, ox_some]
      show ox (putE' (.agg (nmC a b)) (.bool true) (keys.map encK)) _ = _
      rw [putK a b keys hm, ox_some]
    · constructor
      · exact .inl
      · rintro (h | rfl)
        · exact h
        · exact hm
  · refine ⟨h.setO pm (.map ((keys ++ [(a, b)]).map encK) (ck + 1)), keys ++ [(a, b)], fun d x e kk => ?_, ⟨by rw [Sim.setO_next]; exact M.lt, ck + 1, hset _ _⟩, KeptX.setO hc M.lt _, fun k => by simp⟩
    show onMapO (h.get pm) _ = _
    rw [hg]
    show ox (findE (.agg (nmC a b)) (keys.map encK)) _ = _
    rw [findK, if_neg hm, ox_some]
    show (putF d).run .undef x e (h.setO pm (.map (app (keys.map encK) [encK (a, b)]) (Nat.add ck 1))) kk = _
    rw [app_eq, List.map_append]; rfl

noncomputable def mp2 (C : Ctx) (t : Nat) : Option (Nat × Bool × AVal) := ob (mpOf C t) (fun p => some (p.1, (structD p.2.1).isSome, p.2.2))
set_option maxRecDepth 100000 in
theorem mp108 : ∃ dk, MpOk CX 108 25 dk (.bool false) ∧ ∀ x, fitO (some [0, 0]) x = true → keyFit (some [0, 0]) dk (.agg x) = true := by
  have : mp2 CX 108 = some (25, true, .bool false) := by kernel_rfl
  unfold mp2 at this
  obtain ⟨⟨kt, dk, z⟩, h1, h2⟩ := ob_eq.1 this
  simp only [Option.some.injEq, Prod.mk.injEq] at h2
  obtain ⟨rfl, h3, rfl⟩ := h2
  refine ⟨dk, mp_ok h1, fun x hx => ?_⟩
  cases dk with
  | struct fs => exact hx
  | _ => cases h3
theorem eq25 : CX.eqT 25 = some [0, 0] := by kernel_rfl

/-! ### The entries that count -/

def IsBack (known : Int) (y : XD) : Prop := y.d.e.kind = 16 ∧ y.d.e.written ≤ known
def Gone (known : Int) (ys : List XD) (y : XD) : Prop := ∃ z ∈ ys, IsBack known z ∧ z.v = y.v ∧ z.d.e.taLine = y.l
def Counts (known : Int) (ys : List XD) (y : XD) : Prop := y.d.e.kind ≠ 16 ∧ y.d.e.written ≤ known ∧ ¬ Gone known ys y
open Classical in
noncomputable def cnt (known : Int) (ys : List XD) (i : Nat) : List XD := (ys.take i).filter (fun y => decide (Counts known ys y))

theorem cnt_succ {known : Int} {ys : List XD} {i : Nat} {y : XD} (h : ys[i]? = some y) : (Counts known ys y → cnt known ys (i + 1) = cnt known ys i ++ [y]) ∧ (¬ Counts known ys y → cnt known ys (i + 1) = cnt known ys i) := by
  unfold cnt
  rw [List.take_add_one, h, List.filter_append]
  constructor
  · intro hc; simp [hc]
  · intro hc; simp [hc]

def EqX (x y : XD) : Prop := SameN x y ∧ EqD x.d y.d

/-- two lists, element by element -/
def PW {α β : Type} (R : α → β → Prop) (xs : List α) (ys : List β) : Prop := xs.length = ys.length ∧ ∀ (i : Nat) (x : α) (y : β), xs[i]? = some x → ys[i]? = some y → R x y
theorem PW.nil {α β : Type} {R : α → β → Prop} : PW R [] [] := ⟨rfl, fun i x y h => by simp at h⟩
theorem PW.snoc {α β : Type} {R : α → β → Prop} {xs : List α} {ys : List β} {x : α} {y : β} (h : PW R xs ys) (hxy : R x y) : PW R (xs ++ [x]) (ys ++ [y]) := by
  refine ⟨by simp [h.1], fun i u v hu hv => ?_⟩
  by_cases hi : i < xs.length
  · rw [List.getElem?_append_left hi] at hu
    rw [List.getElem?_append_left (by rw [← h.1]; exact hi)] at hv
    exact h.2 i u v hu hv
  · rw [List.getElem?_append_right (by omega)] at hu
    rw [List.getElem?_append_right (by rw [← h.1]; omega), ← h.1] at hv
    have : i - xs.length = 0 := by
      have := (List.getElem?_eq_some_iff.1 hu).1
      simp at this; omega
    rw [this] at hu hv
    simp at hu hv
    subst hu hv; exact hxy

/-- the error of a list of entries -/
def Err (xs : List XD) (n : Nat) (e : Int) : Prop :=
  (360 < n ∧ e = 2) ∨ (n ≤ 360 ∧ (∃ x ∈ xs, ¬ Good x) ∧ e = 1) ∨ (n ≤ 360 ∧ (∀ x ∈ xs, Good x) ∧ ((¬ Consist xs ∧ e = 6) ∨ (Consist xs ∧ ∃ ys, Diff xs ys ∧ 120 < ys.length ∧ e = 2)))
/-- the different entries of a list without an error -/
def Suc (xs : List XD) (n : Nat) (ys : List XD) : Prop := n ≤ 360 ∧ (∀ x ∈ xs, Good x) ∧ Consist xs ∧ Diff xs ys ∧ ys.length ≤ 120

theorem Err.ne {xs : List XD} {n : Nat} {e : Int} (h : Err xs n e) : e ≠ 0 := by
  rcases h with ⟨_, rfl⟩ | ⟨_, _, rfl⟩ | ⟨_, _, ⟨_, rfl⟩ | ⟨_, _, _, _, rfl⟩⟩ <;> decide

theorem SRes.split {xs : List XD} {n : Nat} {h' : H} {a : SL} {m : Nat} {e : Int} (r : SRes xs n h' a m e) : Err xs n e ∨ (e = 0 ∧ ∃ ys, Suc xs n ys ∧ SlR h' 63 XD.cells a m ys) := by
  rcases r with r | r | ⟨h1, h2, r | ⟨h3, ys, h4, ⟨h5, h6⟩ | ⟨h5, h6, h7⟩⟩⟩
  · exact .inl (.inl r)
  · exact .inl (.inr (.inl r))
  · exact .inl (.inr (.inr ⟨h1, h2, .inl r⟩))
  · exact .inl (.inr (.inr ⟨h1, h2, .inr ⟨h3, ys, h4, h5, h6⟩⟩))
  · exact .inr ⟨h6, ys, ⟨h1, h2, h3, h4, h5⟩, h7⟩

/-- what lay in blocks lies there -/
structure KC (h h' : H) : Prop where
  next : h.next ≤ h'.next
  cells : ∀ b vs e o f p, b < h.next → h.get b = some (.cells vs e o f p) → ∃ e' o' f' p', h'.get b = some (.cells vs e' o' f' p')
theorem Kept.kc {k : Nat} {h h' : H} (K : Kept k h h') : KC h h' := ⟨K.next, fun b vs e o f p hb hg => ⟨e, o, f, p, (K.get b hb).trans hg⟩⟩
theorem KC.trans {a b c : H} (x : KC a b) (y : KC b c) : KC a c := ⟨Nat.le_trans x.next y.next, fun i vs e o f p hi hg => by
  obtain ⟨e1, o1, f1, p1, h1⟩ := x.cells i vs e o f p hi hg
  exact y.cells i vs e1 o1 f1 p1 (Nat.lt_of_lt_of_le hi x.next) h1⟩
theorem ARows.kc {h h' : H} (K : KC h h') {k : Nat} {a : Option (Nat × Nat)} {rows : List (List AVal)} (E : ARows h k a rows) : ARows h' k a rows := by
  rcases E with E | ⟨b, off, vs, esz, opn, frz, pars, h1, h2, h3, h4⟩
  · exact .inl E
  · obtain ⟨e', o', f', p', hg⟩ := K.cells b vs esz opn frz pars h2 h3
    exact .inr ⟨b, off, vs, e', o', f', p', h1, Nat.lt_of_lt_of_le h2 K.next, hg, h4⟩
theorem SlR.kc {α : Type} {h h' : H} (K : KC h h') {k : Nat} {enc : α → List AVal} {a : SL} {n : Nat} {xs : List α} (R : SlR h k enc a n xs) : SlR h' k enc a n xs := ⟨R.1, ARows.kc K R.2⟩
theorem EList.kc {h h' : H} (K : KC h h') {xs : List XD} (E : EList h xs) : EList h' xs := fun x hx => ⟨⟨SlR.kc K (E x hx).1.ring, SlR.kc K (E x hx).1.legs, SlR.kc K (E x hx).1.offs⟩, (E x hx).2⟩
theorem Grow.kept {k : Nat} {h h' : H} (K : Kept k h h') {sz : Nat} {s : SL} {m c : Nat} {rows : List (List AVal)} (G : Grow h sz s m c rows) : Grow h' sz s m c rows := by
  refine ⟨G.len, G.cap, ?_, G.row⟩
  rcases G.blk with q | ⟨b, o, p, q1, q2, q3⟩
  · exact .inl q
  · exact .inr ⟨b, o, p, q1, Nat.lt_of_lt_of_le q2 K.next, (K.get b q2).trans q3⟩

/-- what Effective returns -/
def ERes (xs : List XD) (n : Nat) (known : Int) (h' : H) (a : SL) (m : Nat) (e : Int) : Prop :=
  (Err xs n e ∧ a = none ∧ m = 0) ∨ (e = 0 ∧ ∃ ys zs, Suc xs n ys ∧ PW EqX zs (cnt known ys ys.length) ∧ SlR h' 63 XD.cells a m zs ∧ EList h' zs)
end Go.Proofs
end
section
/- register.Effective, walked. -/
namespace Go.Proofs
open Go.Sim Go.SortL
variable {D : Nat}

set_option maxRecDepth 1000000 in
set_option maxHeartbeats 2000000 in
theorem effective_x (hD : 21 ≤ D) (a : SL) (n c : Nat) (xs : List XD) (known : Int) (h : H) (hx : SlR h 63 XD.cells a n xs) (hE : EList h xs) (hn4 : n ≤ 400) (hn : h.next + 210000 ≤ 1048576) :
    ∃ h' a' m c' e, (GX D).call 6 [.slc a n c, .int .i64 known] h = .ok (.tup [.slc a' m c', .int .i64 e]) h' ∧ Kept 210000 h h' ∧ ERes xs n known h' a' m e := by
  obtain ⟨d, rfl, hd⟩ := dsucc hD
  have : ∃ v h', (GX (d + 1)).call 6 [.slc a n c, .int .i64 known] h = .ok v h' ∧ ∃ a' m c' e, v = .tup [.slc a' m c', .int .i64 e] ∧ Kept 210000 h h' ∧ ERes xs n known h' a' m e := by
    refine call_run Tryz.func6 rfl rfl (Nat.le_of_ble_eq_true rfl) (by decide) ?_
    refine wRun_seq svx (by decide) ?_
    refine wRun_seq svx (by decide) ?_
    obtain ⟨h2, a', m, c', e, hc, K2, hr⟩ := sorted_x hd a n c xs h hx hE hn4 (by omega)
    refine ⟨_, _, hc, ?_⟩
    have n2 := K2.few
    refine wRun_mid (σ := Unit) (fun _ => [(1, .int .i64 known), (6, .slc a' m c')]) (fun _ h3 => h3 = h2 ∧ e = 0) ?_ ?_
    · refine wRun_of svx (by decide) ?_
      rintro (_ | _) c1
      · exact ⟨(), ⟨rfl, rfl, trivial⟩, rfl, neF c1⟩
      · rcases hr.split with hr | ⟨hr, _⟩
        · exact ⟨none, 0, 0, e, rfl, K2.mono (by omega), .inl ⟨hr, rfl, rfl⟩⟩
        · exact absurd hr (neT c1)
    rintro _ h3 ⟨rfl, he⟩
    obtain ⟨ys, hsuc, hys⟩ : ∃ ys, Suc xs n ys ∧ SlR h3 63 XD.cells a' m ys := by
      rcases hr.split with hr | ⟨_, h⟩
      · exact absurd he hr.ne
      · exact h
    clear hr
    have hyl := hys.1
    have hm : m ≤ 120 := by have := hsuc.2.2.2.2; omega
    have hEy : EList h3 ys := (hE.kept K2).sub fun y hy => hsuc.2.2.2.1.sub y hy
    -- the map
    refine wRun_seq svx (by decide) ?_
    refine ⟨(room_iff h3).2 (by omega), ?_⟩
    intro pm h4 hpm hh4
    have K4 : Kept 1 h3 h4 := by rw [hh4]; exact Kept.alloc (by omega) _
    have M4 : MapAt h4 pm [] := ⟨by rw [hh4, alloc_next]; omega, 0, by rw [hh4, hpm]; exact alloc_get_new (by omega) _⟩
    clear hh4
    have n4 := K4.few
    obtain ⟨dk, mpk, kfit⟩ := mp108
    refine wRun_mid (σ := Unit) (fun _ => [(1, .int .i64 known), (6, .slc a' m c'), (8, .map (some pm))]) (fun _ h5 => Kept (2 + m) h3 h5 ∧ ∃ keys, MapAt h5 pm keys ∧ ∀ k, k ∈ keys ↔ ∃ y ∈ ys, IsBack known y ∧ k = (y.v, y.d.e.taLine)) ?_ ?_
    · refine wRun_seq svx (by decide) ?_
      refine wRun_block rfl ?_
      refine wLoopR (σ := Nat) (fun i => [(1, .int .i64 known), (6, .slc a' m c'), (8, .map (some pm)), (23, .slc a' m c'), (24, .int .i64 (Int.ofNat m)), (25, .int .i64 (Int.ofNat i))])
        (fun i h5 => i ≤ m ∧ Kept (1 + i) h3 h5 ∧ ∃ keys, MapAt h5 pm keys ∧ ∀ k, k ∈ keys ↔ ∃ (j : Nat) (y : XD), j < i ∧ ys[j]? = some y ∧ IsBack known y ∧ k = (y.v, y.d.e.taLine)) (fun i => m - i) 0
        (by rw [gN_fuel]; show m - 0 < 1000000; omega) ⟨rfl, rfl, rfl, rfl, rfl, rfl, trivial⟩ ⟨Nat.zero_le _, K4, [], M4, fun k => ⟨fun h => (by cases h), fun ⟨j, _, hj, _⟩ => absurd hj (Nat.not_lt_zero _)⟩⟩ ?_
      rintro i h5 ⟨hi, K5, keys, M5, hk⟩
      have n5 := K5.few
      refine wRun_mid (σ := Bool) (fun b => [(1, .int .i64 known), (6, .slc a' m c'), (8, .map (some pm)), (23, .slc a' m c'), (24, .int .i64 (Int.ofNat m)), (25, .int .i64 (Int.ofNat i)), (26, .bool b)]) (fun b h6 => h6 = h5 ∧ (b = true ↔ i < m)) ?_ ?_
      · refine wRun_of svx (by decide) ?_
        rintro (_ | _) c1
        · have := natGe c1
          exact ⟨false, ⟨rfl, rfl, rfl, rfl, rfl, rfl, rfl, trivial⟩, rfl, by simp; omega⟩
        · have := natLt c1
          exact ⟨true, ⟨rfl, rfl, rfl, rfl, rfl, rfl, rfl, trivial⟩, rfl, by simp; omega⟩
      rintro b h6 ⟨rfl, ib⟩
      refine wRun_mid (σ := Unit) (fun _ => [(1, .int .i64 known), (6, .slc a' m c'), (8, .map (some pm)), (23, .slc a' m c'), (24, .int .i64 (Int.ofNat m)), (25, .int .i64 (Int.ofNat i))]) (fun _ h7 => h7 = h6 ∧ i < m) ?_ ?_
      · refine wRun_cond (t := b) rfl (fun hb => ?_) (fun hb => ?_)
        · refine wRun_of svx (by decide) ?_
          exact ⟨(), ⟨rfl, rfl, rfl, rfl, rfl, rfl, trivial⟩, rfl, ib.1 hb⟩
        · refine wRun_of svx (by decide) ?_
          have hge : ¬ i < m := fun hh => by rw [ib.2 hh] at hb; cases hb
          have : i = m := by omega
          subst this
          refine ⟨(), ⟨rfl, rfl, rfl, trivial⟩, K5.mono (by omega), keys, M5, fun k => (hk k).trans ⟨?_, ?_⟩⟩
          · rintro ⟨j, y, _, hy, r⟩; exact ⟨y, List.mem_of_getElem? hy, r⟩
          · rintro ⟨y, hy, r⟩
            obtain ⟨j, hj, rfl⟩ := List.getElem_of_mem hy
            exact ⟨j, _, by omega, List.getElem?_eq_getElem hj, r⟩
      rintro _ h7 ⟨rfl, hin⟩
      obtain ⟨y, hyi⟩ : ∃ y, ys[i]? = some y := ⟨_, List.getElem?_eq_getElem (by omega)⟩
      refine wRun_mid (σ := Unit) (fun _ => [(1, .int .i64 known), (6, .slc a' m c'), (8, .map (some pm)), (23, .slc a' m c'), (24, .int .i64 (Int.ofNat m)), (25, .int .i64 (Int.ofNat i))])
        (fun _ h8 => Kept (1 + i + 1) h3 h8 ∧ ∃ keys', MapAt h8 pm keys' ∧ ∀ k, k ∈ keys' ↔ k ∈ keys ∨ (IsBack known y ∧ k = (y.v, y.d.e.taLine))) ?_ ?_
      · refine wRun_block rfl ?_
        refine wRun_seq svx (by decide) ?_
        obtain ⟨b', o, ea, la⟩ := (hys.kept K5).at (i := i) (by omega)
        rw [(List.getElem?_eq_some_iff.1 hyi).2] at la
        rw [ea]
        refine ⟨i, rfl, hin, _, la.ld0 rfl (by decide) (by decide), ?_⟩
        refine ⟨(room_iff h7).2 (by omega), ?_⟩
        intro p h8 hp hh8
        obtain ⟨A8, K8⟩ := At.new (by omega) hp hh8
        have n8 := K8.few
        have M8 := M5.kept K8
        have hpp : pm ≠ p := by have := M5.lt; omega
        refine ⟨rfl, ?_⟩
        obtain ⟨vs0, esz, opn, pars, vs', e1, e2, e3, e4⟩ := A8.store (w := y.cells) (by omega) rfl rfl
        refine ⟨vs0, esz, opn, pars, vs', e1, e2, e3, ?_⟩
        intro h9 hh9
        obtain ⟨A9, K9⟩ := e4 h9 hh9
        have M9 := M8.keptX K9 hpp
        rw [hp] at K9
        have K79 := Kept.one K8 K9
        have n9 := K79.few
        have K39 := K5.trans K79
        have lpm : h3.next ≤ pm := by omega
        refine wRun_of svx (by decide) ?_
        refine ⟨_, A9.ld rfl, ?_⟩
        rintro (_ | _) c2
        · exact ⟨(), ⟨rfl, rfl, rfl, rfl, rfl, rfl, trivial⟩, K39.mono (by omega), keys, M9, fun k => by
            constructor
            · exact .inl
            · rintro (h | ⟨hb, _⟩)
              · exact h
              · exact absurd hb.1 (eqF c2)⟩
        · refine ⟨_, A9.ld rfl, ?_⟩
          rintro (_ | _) c3
          · exact ⟨(), ⟨rfl, rfl, rfl, rfl, rfl, rfl, trivial⟩, K39.mono (by omega), keys, M9, fun k => by
              constructor
              · exact .inl
              · rintro (h | ⟨hb, _⟩)
                · exact h
                · have := leI_f c3; have := hb.2; omega⟩
          · refine ⟨_, A9.ld rfl, _, A9.ld rfl, ?_⟩
            obtain ⟨h10, keys', hs, M10, K10, hk'⟩ := M9.put (by omega) y.v y.d.e.taLine
            refine ⟨_, _, mapSet_run mpk rfl rfl rfl eq25 (kfit _ rfl) hs, ?_⟩
            exact ⟨(), ⟨rfl, rfl, rfl, rfl, rfl, rfl, trivial⟩, K39.thenX (K10.mono (Y := fun x => h3.next ≤ x) (fun x _ hx => by rw [hx]; exact lpm) (Nat.le_refl _)) (fun i hi => hi), keys', M10, fun k => (hk' k).trans ⟨fun h => by
              rcases h with h | rfl
              · exact .inl h
              · exact .inr ⟨⟨eqT c2, leI_iff.1 c3⟩, rfl⟩, fun h => by
              rcases h with h | ⟨_, rfl⟩
              · exact .inl h
              · exact .inr rfl⟩⟩
      rintro _ h8 ⟨K8, keys', M8, hk'⟩
      refine wRun_of svx (by decide) ?_
      refine ⟨i + 1, by omega, ⟨rfl, rfl, rfl, rfl, rfl, slot (add64 (a := i) (b := 1) (by omega)), trivial⟩, by omega, K8.mono (by omega), keys', M8, fun k => (hk' k).trans ⟨fun h => ?_, fun h => ?_⟩⟩
      · rcases h with h | h
        · obtain ⟨j, z, hj, r⟩ := (hk k).1 h; exact ⟨j, z, by omega, r⟩
        · exact ⟨i, y, by omega, hyi, h⟩
      · obtain ⟨j, z, hj, hz, r⟩ := h
        by_cases hji : j = i
        · subst hji; rw [hyi] at hz; cases hz; exact .inr r
        · exact .inl ((hk k).2 ⟨j, z, by omega, hz, r⟩)
    rintro _ h5 ⟨K5, keys, M5, hk⟩
    have n5 := K5.few
    have lpm : h3.next ≤ pm := by omega
    have hgone : ∀ y, (y.v, y.l) ∈ keys ↔ Gone known ys y := fun y => (hk _).trans ⟨fun ⟨z, hz, hb, he⟩ => ⟨z, hz, hb, (Prod.mk.inj he).1.symm, (Prod.mk.inj he).2.symm⟩, fun ⟨z, hz, hb, e1, e2⟩ => ⟨z, hz, hb, by rw [e1, e2]⟩⟩
    refine wRun_seq svx (by decide) ?_
    refine wRun_mid (σ := SL × List XD) (fun q => [(11, .slc q.1 q.2.length q.2.length)]) (fun q h6 => Kept (2 + m + 16 * m) h3 h6 ∧ Grow h6 63 q.1 q.2.length q.2.length (q.2.map XD.cells) ∧ EList h6 q.2 ∧ PW EqX q.2 (cnt known ys ys.length)) ?_ ?_
    · refine wRun_seq svx (by decide) ?_
      refine wRun_block rfl ?_
      refine wLoopR (σ := Nat × SL × List XD) (fun s => [(1, .int .i64 known), (6, .slc a' m c'), (8, .map (some pm)), (11, .slc s.2.1 s.2.2.length s.2.2.length), (50, .slc a' m c'), (51, .int .i64 (Int.ofNat m)), (52, .int .i64 (Int.ofNat s.1))])
        (fun s h6 => s.1 ≤ m ∧ Kept (2 + m + 16 * s.1) h3 h6 ∧ MapAt h6 pm keys ∧ Grow h6 63 s.2.1 s.2.2.length s.2.2.length (s.2.2.map XD.cells) ∧ EList h6 s.2.2 ∧ PW EqX s.2.2 (cnt known ys s.1) ∧ s.2.2.length ≤ s.1 ∧ ∀ b, s.2.1 = some (b, 0) → h3.next ≤ b) (fun s => m - s.1) (0, none, [])
        (by rw [gN_fuel]; show m - 0 < 1000000; omega) ⟨rfl, rfl, rfl, rfl, rfl, rfl, rfl, trivial⟩ ⟨Nat.zero_le _, K5.mono (by omega), M5, ⟨rfl, rfl, .inl ⟨rfl, rfl⟩, fun r hr => by cases hr⟩, fun x hx => (by cases hx), PW.nil, Nat.le_refl _, fun b hb => (by cases hb)⟩ ?_
      rintro ⟨i, s, zs⟩ h6 ⟨hi, K6, M6, G6, E6, P6, hzl, hsb⟩
      simp only at hi K6 G6 E6 P6 hzl hsb
      have n6 := K6.few
      refine wRun_mid (σ := Bool) (fun b => [(1, .int .i64 known), (6, .slc a' m c'), (8, .map (some pm)), (11, .slc s zs.length zs.length), (50, .slc a' m c'), (51, .int .i64 (Int.ofNat m)), (52, .int .i64 (Int.ofNat i)), (53, .bool b)]) (fun b h7 => h7 = h6 ∧ (b = true ↔ i < m)) ?_ ?_
      · refine wRun_of svx (by decide) ?_
        rintro (_ | _) c1
        · have : m ≤ i := natGe c1
          exact ⟨false, ⟨rfl, rfl, rfl, rfl, rfl, rfl, rfl, rfl, trivial⟩, rfl, by simp; omega⟩
        · have : i < m := natLt c1
          exact ⟨true, ⟨rfl, rfl, rfl, rfl, rfl, rfl, rfl, rfl, trivial⟩, rfl, by simp; omega⟩
      rintro b h7 ⟨rfl, ib⟩
      refine wRun_mid (σ := Unit) (fun _ => [(1, .int .i64 known), (6, .slc a' m c'), (8, .map (some pm)), (11, .slc s zs.length zs.length), (50, .slc a' m c'), (51, .int .i64 (Int.ofNat m)), (52, .int .i64 (Int.ofNat i))]) (fun _ h8 => h8 = h7 ∧ i < m) ?_ ?_
      · refine wRun_cond (t := b) rfl (fun hb => ?_) (fun hb => ?_)
        · refine wRun_of svx (by decide) ?_
          exact ⟨(), ⟨rfl, rfl, rfl, rfl, rfl, rfl, rfl, trivial⟩, rfl, ib.1 hb⟩
        · refine wRun_of svx (by decide) ?_
          have hge : ¬ i < m := fun hh => by rw [ib.2 hh] at hb; cases hb
          have : i = m := by omega
          subst this
          exact ⟨(s, zs), ⟨rfl, trivial⟩, K6, G6, E6, by rw [hyl]; exact P6⟩
      rintro _ h8 ⟨rfl, hin⟩
      obtain ⟨y, hyi⟩ : ∃ y, ys[i]? = some y := ⟨_, List.getElem?_eq_getElem (by omega)⟩
      obtain ⟨hey, hsy, hly⟩ := (hEy.kept K6) y (List.mem_of_getElem? hyi)
      refine wRun_mid (σ := SL × List XD) (fun q => [(1, .int .i64 known), (6, .slc a' m c'), (8, .map (some pm)), (11, .slc q.1 q.2.length q.2.length), (50, .slc a' m c'), (51, .int .i64 (Int.ofNat m)), (52, .int .i64 (Int.ofNat i))])
        (fun q h9 => Kept (2 + m + 16 * i + 16) h3 h9 ∧ MapAt h9 pm keys ∧ Grow h9 63 q.1 q.2.length q.2.length (q.2.map XD.cells) ∧ EList h9 q.2 ∧ PW EqX q.2 (cnt known ys (i + 1)) ∧ q.2.length ≤ i + 1 ∧ ∀ b, q.1 = some (b, 0) → h3.next ≤ b) ?_ ?_
      · refine wRun_block rfl ?_
        refine wRun_seq svx (by decide) ?_
        obtain ⟨b', o, ea, la⟩ := (hys.kept K6).at (i := i) (by omega)
        rw [(List.getElem?_eq_some_iff.1 hyi).2] at la
        subst ea
        refine ⟨i, rfl, hin, _, la.ld0 rfl (by decide) (by decide), ?_⟩
        refine ⟨(room_iff h8).2 (by omega), ?_⟩
        intro p h9 hp hh9
        obtain ⟨A9, K9⟩ := At.new (by omega) hp hh9
        have n9 := K9.few
        have M9 := M6.kept K9
        have G9 := Grow.kept K9 G6
        have hpp : pm ≠ p := by have := M6.lt; omega
        refine ⟨rfl, ?_⟩
        obtain ⟨vs0, esz, opn, pars, vs', e1, e2, e3, e4⟩ := A9.store (w := y.cells) (by omega) rfl rfl
        refine ⟨vs0, esz, opn, pars, vs', e1, e2, e3, ?_⟩
        intro h10 hh10
        obtain ⟨A10, K10⟩ := e4 h10 hh10
        have M10 := M9.keptX K10 hpp
        rw [hp] at K10
        have K8 : Kept (1 + 0) h8 h10 := Kept.one K9 K10
        have n10 := K8.few
        have G10 := Grow.kept K8 G6
        have E10 := E6.kc (Kept.kc K8)
        have K310 := K6.trans K8
        obtain ⟨cs1, cs2⟩ := cnt_succ (known := known) hyi
        have stay : ¬ Counts known ys y → Kept (2 + m + 16 * i + 16) h3 h10 ∧ MapAt h10 pm keys ∧ Grow h10 63 s zs.length zs.length (zs.map XD.cells) ∧ EList h10 zs ∧ PW EqX zs (cnt known ys (i + 1)) ∧ zs.length ≤ i + 1 ∧ ∀ b, s = some (b, 0) → h3.next ≤ b :=
          fun hc => ⟨K310.mono (by omega), M10, G10, E10, by rw [cs2 hc]; exact P6, by omega, hsb⟩
        refine wRun_mid (σ := Bool) (fun b => [(1, .int .i64 known), (6, .slc (some (b', o)) m c'), (8, .map (some pm)), (11, .slc s zs.length zs.length), (50, .slc (some (b', o)) m c'), (51, .int .i64 (Int.ofNat m)), (52, .int .i64 (Int.ofNat i)), (13, .ptr (some (p, 0))), (73, .bool b)]) (fun b h11 => h11 = h10 ∧ (b = true ↔ Counts known ys y)) ?_ ?_
        · refine wRun_of svx (by decide) ?_
          refine ⟨_, A10.ld rfl, ?_⟩
          rintro (_ | _) c2
          · exact ⟨false, ⟨rfl, rfl, rfl, rfl, rfl, rfl, rfl, rfl, rfl, trivial⟩, rfl, by simp only [Bool.false_eq_true, false_iff]; exact fun hc => hc.1 (neF c2)⟩
          · refine ⟨_, A10.ld rfl, ?_⟩
            rintro (_ | _) c3
            · exact ⟨false, ⟨rfl, rfl, rfl, rfl, rfl, rfl, rfl, rfl, rfl, trivial⟩, rfl, by simp only [Bool.false_eq_true, false_iff]; exact fun hc => by have := leI_f c3; have := hc.2.1; omega⟩
            · refine ⟨_, A10.ld rfl, ?_⟩
              have hes : entriesOf h10 (some pm) = some (keys.map encK) := by
                obtain ⟨ck, hg⟩ := M10.get
                show mapOf (h10.get pm) = _
                rw [hg]; rfl
              by_cases hmem : (y.v, y.l) ∈ keys
              · have hf : findE (.agg (nmC y.v y.l)) (keys.map encK) = some (some (.bool true)) := by rw [findK, if_pos hmem]
                refine ⟨_, _, lookup_run mpk rfl rfl eq25 (kfit _ rfl) hes hf, ?_⟩
                exact ⟨false, ⟨rfl, rfl, rfl, rfl, rfl, rfl, rfl, rfl, rfl, trivial⟩, rfl, by simp only [Bool.false_eq_true, false_iff]; exact fun hc => hc.2.2 ((hgone y).1 hmem)⟩
              · have hf : findE (.agg (nmC y.v y.l)) (keys.map encK) = some none := by rw [findK, if_neg hmem]
                refine ⟨_, _, lookup_run mpk rfl rfl eq25 (kfit _ rfl) hes hf, ?_⟩
                exact ⟨true, ⟨rfl, rfl, rfl, rfl, rfl, rfl, rfl, rfl, rfl, trivial⟩, rfl, by simp only [true_iff]; exact ⟨neT c2, leI_iff.1 c3, fun hg => hmem ((hgone y).2 hg)⟩⟩
        rintro b2 h11 ⟨rfl, ib2⟩
        refine wRun_cond (t := b2) rfl (fun hb2 => ?_) (fun hb2 => ?_)
        · have hc := ib2.1 hb2
          refine wRun_of svx (by decide) ?_
          refine ⟨_, A10.ld rfl, _, A10.ld rfl, ?_⟩
          obtain ⟨h12', B, hcall, L12, EB, hBq, hBs⟩ := owned_x (D := d) (by omega) y.d (h11.withLo Sim.big) ((hey.kept K8).lo _) hsy (by rw [withLo_next]; omega)
          refine ⟨_, _, hcall, ?_⟩
          refine hv' (by omega) L12 (fun h12 e12 K12 => ?_)
          have EB12 : EAt h12 B := by rw [e12]; exact EB.lo _
          clear e12
          have n12 := K12.few
          refine ⟨_, _, buildSl_run el22 rfl rfl (by decide) (h := h12.withLo Sim.big) (by rw [withLo_room]; exact (room_iff h12).2 (by omega)), ?_⟩
          obtain ⟨A13', K13'⟩ := At.new (h := h12.withLo Sim.big) (h' := (h12.withLo Sim.big).alloc (.cells (XD.cells ⟨y.v, y.l, B⟩) 63 false false [])) (by rw [withLo_next]; omega) rfl rfl
          refine hv' (by omega) K13' (fun h13 e13 K13 => ?_)
          have A13 : At h13 h12.next (XD.cells ⟨y.v, y.l, B⟩) 63 := by rw [e13]; exact At.lo A13' _
          clear e13
          have n13 := K13.few
          have K813 : Kept (1 + 0 + 8 + 1) h8 h13 := (K8.trans K12).trans K13
          have hr : readSl h13 63 (.slc (some (h12.next, 0)) 1 1) = some ([XD.cells ⟨y.v, y.l, B⟩].length, [XD.cells ⟨y.v, y.l, B⟩].flatten) :=
            slr_read (xs := [(⟨y.v, y.l, B⟩ : XD)]) (enc := XD.cells) ⟨rfl, rows_ok A13.lt (by rw [A13.get]; rfl) XA.rowlen⟩
          have hrl : (zs.map XD.cells).length = zs.length := by simp
          obtain ⟨h14, s', hq, G14, K14, rfl, hcont⟩ := (Grow.kept K813 G6).app (bytes := 568) (new := [XD.cells ⟨y.v, y.l, B⟩]) (by omega) (by intro r hr; rw [List.mem_singleton] at hr; rw [hr]; rfl) (by simp) (by decide) (by decide) (by decide)
            (by simp; omega) (by rw [hrl]; exact Nat.lt_of_le_of_lt (Nat.mul_le_mul_right 63 (by omega : zs.length ≤ 120)) (by decide)) rfl
          refine ⟨_, _, appF_run rfl rfl rfl el22 sec22 rfl rfl hr hq, ?_⟩
          have hlen : (zs ++ [(⟨y.v, y.l, B⟩ : XD)]).length = zs.length + 1 := by simp
          have kc14 : KC h13 h14 := ⟨K14.next, fun b vs e o f p hb hg => by
            by_cases hs : s = some (b, 0)
            · obtain ⟨vs2, pars2, o2, f2, g1, g2⟩ := hcont b hs
              rw [g1] at hg; cases hg
              exact ⟨_, _, _, _, g2⟩
            · exact ⟨e, o, f, p, (K14.get b hb hs).trans hg⟩⟩
          have M13 := M6.kept K813
          have hnpm : ¬ (s = some (pm, 0)) := fun hs => by
            obtain ⟨vs2, pars2, o2, f2, g1, g2⟩ := hcont pm hs
            obtain ⟨ck, g3⟩ := M13.get
            rw [g1] at g3; cases g3
          have K314 : Kept (2 + m + 16 * i + (1 + 0 + 8 + 1) + 1) h3 h14 := (K6.trans K813).thenX K14 fun b hb => hsb b hb
          have n3 := K6.next
          have n8' := K813.next
          refine ⟨(_, zs ++ [⟨y.v, y.l, B⟩]), ⟨rfl, rfl, rfl, congrArg (fun k => some (AVal.slc _ k k)) hlen.symm, rfl, rfl, rfl, trivial⟩, K314.mono (by omega), M13.keptX K14 hnpm, ?_, ?_, ?_, by rw [hlen]; omega, fun b hb => ?_⟩
          · show Grow h14 63 _ (zs ++ [(⟨y.v, y.l, B⟩ : XD)]).length (zs ++ [(⟨y.v, y.l, B⟩ : XD)]).length ((zs ++ [(⟨y.v, y.l, B⟩ : XD)]).map XD.cells)
            rw [hlen, List.map_append]; exact G14
          · intro z hz
            rcases List.mem_append.1 hz with hz | hz
            · exact (E6.kc ((Kept.kc K813).trans kc14)) z hz
            · rw [List.mem_singleton] at hz; subst hz
              have EB : EList h12 [(⟨y.v, y.l, B⟩ : XD)] := fun w hw => by
                rw [List.mem_singleton] at hw; subst hw
                refine ⟨EB12, hBs, ?_⟩
                show B.legs.length ≤ 12
                rw [hBq.2.2.1]; exact hly
              exact (EB.kc ((Kept.kc K13).trans kc14)) _ (List.mem_singleton_self _)
          · show PW EqX (zs ++ [(⟨y.v, y.l, B⟩ : XD)]) (cnt known ys (i + 1))
            rw [cs1 hc]
            exact P6.snoc ⟨⟨rfl, rfl⟩, hBq⟩
          · cases hb
            show h3.next ≤ h13.next
            have := K13.next
            have := K12.next
            have := K8.next
            omega
        · refine wRun_of svx (by decide) ?_
          exact ⟨(s, zs), ⟨rfl, rfl, rfl, rfl, rfl, rfl, rfl, trivial⟩, stay fun hc => by rw [ib2.2 hc] at hb2; cases hb2⟩
      rintro ⟨s', zs'⟩ h9 ⟨K9, M9, G9, E9, P9, hzl', hsb'⟩
      refine wRun_of svx (by decide) ?_
      exact ⟨(i + 1, s', zs'), by simp; omega, ⟨rfl, rfl, rfl, rfl, rfl, rfl, slot (add64 (a := i) (b := 1) (by omega)), trivial⟩, by simp; omega, K9.mono (by simp; omega), M9, G9, E9, P9, hzl', hsb'⟩
    rintro ⟨s, zs⟩ h6 ⟨K6, G6, E6, P6⟩
    refine wRun_of svx (by decide) ?_
    exact ⟨s, zs.length, zs.length, 0, rfl, (K2.trans K6).mono (by omega), .inr ⟨rfl, ys, zs, hsuc, P6, ⟨rfl, G6.rows⟩, E6⟩⟩
  obtain ⟨v, h', h1, a', m, c', e, rfl, h2, h3⟩ := this
  exact ⟨h', a', m, c', e, h1, h2, h3⟩
end Go.Proofs
end
