/- Reading an argument's cells: their kinds, by their type. -/
import GoSem.Claim
import GoSem.ClaimJoined
import Derived.ProofKit
import Derived.Deep.Slices
import Derived.Test.YtakbgbnnocmaiaaGreatDoorSp
import Derived.Test.YtakbgbnnocmaiaaGreatDoorTe
import Derived.Test.YtakbgbnnocmaiaaGreatDoorTb
set_option linter.all false
section
namespace Go.Proofs
open Go

inductive Leaf where
  | int (k : IntKind) | bool | str | slc (e : TypeId)

section
variable {H : Type} (enc : TypeId × Value → H) (P : Program) (w : World)

def Leaf.ok : Leaf → Value → Prop
  | .int k, v => ∃ n, v = .int k n
  | .bool, v => ∃ b, v = .bool b
  | .str, v => ∃ s, v = .string s
  | .slc e, v => v = .slice none 0 0 ∨ ∃ a len cap, v = .slice (some a) len cap ∧ len ≤ cap ∧ cap ≤ maxLen ∧
      ∀ i, i < cap → ∃ cs, w.cells? 0 (a.add (i * P.cellsOf e)) (P.cellsOf e) = some cs ∧ ∃ fuel x, DataW.trod enc P w 0 (fun _ => true) true fuel e cs = some x
end

def fieldLeaves (P : Program) (lv : TypeId → Option (List Leaf)) : List Field → Nat → Option (List Leaf)
  | [], _ => some []
  | f :: r, off =>
    if f.offset = off then
      match lv f.type with
      | some l => if l.length = P.cellsOf f.type then (match fieldLeaves P lv r (off + l.length) with | some q => some (l ++ q) | none => none) else none
      | none => none
    else none

def leaves (P : Program) : Nat → TypeId → Option (List Leaf)
  | 0, _ => none
  | d + 1, t => match P.underlying t with
    | some .bool => some [.bool]
    | some (.int k) => some [.int k]
    | some .string => some [.str]
    | some (.slice e) => some [.slc e]
    | some (.struct fs) => match fieldLeaves P (leaves P d) fs.toList 0 with
      | some l => if l.length = P.cellsOf t then some l else none
      | none => none
    | _ => none

inductive All2 {α β : Type} (R : α → β → Prop) : List α → List β → Prop where
  | nil : All2 R [] []
  | cons {a : α} {b : β} {la : List α} {bs : List β} : R a b → All2 R la bs → All2 R (a :: la) (b :: bs)

theorem All2.append {α β : Type} {R : α → β → Prop} {a c : List α} {b d : List β} (h : All2 R a b) (k : All2 R c d) : All2 R (a ++ c) (b ++ d) := by
  induction h with
  | nil => exact k
  | cons h _ ih => exact .cons h ih

theorem All2.uncons {α β : Type} {R : α → β → Prop} {a : α} {la : List α} {l : List β} (h : All2 R (a :: la) l) : ∃ b bs, l = b :: bs ∧ R a b ∧ All2 R la bs := by
  cases h with
  | cons h1 h2 => exact ⟨_, _, rfl, h1, h2⟩

theorem All2.unnil {α β : Type} {R : α → β → Prop} {l : List β} (h : All2 R [] l) : l = [] := by
  cases h; rfl

section
variable {H : Type} {enc : TypeId × Value → H} {P : Program} {w : World}

theorem fieldLeaves_ok {lv : TypeId → Option (List Leaf)} {cs : List Value}
    (hlv : ∀ (t : TypeId) (l : List Leaf) (cs' : List Value), lv t = some l → (∃ fuel x, DataW.trod enc P w 0 (fun _ => true) true fuel t cs' = some x) → All2 (Leaf.ok enc P w) l cs') :
    ∀ (r : List Field) (off : Nat) (l : List Leaf), fieldLeaves P lv r off = some l →
      (∀ f ∈ r, ∃ fuel x, DataW.trod enc P w 0 (fun _ => true) true fuel f.type ((cs.drop f.offset).take (P.cellsOf f.type)) = some x) →
      All2 (Leaf.ok enc P w) l ((cs.drop off).take l.length)
  | [], off, l, h, _ => by
    simp only [fieldLeaves, Option.some.injEq] at h
    subst h
    simp only [List.length_nil, List.take_zero]
    exact .nil
  | f :: r, off, l, h, hr => by
    simp only [fieldLeaves] at h
    split at h
    · rename_i ho
      split at h
      · rename_i l1 h1
        split at h
        · rename_i hl
          split at h
          · rename_i q hq
            simp only [Option.some.injEq] at h
            subst h
            have hA := hlv _ _ _ h1 (hr f (by simp))
            have hB := fieldLeaves_ok hlv r (off + l1.length) q hq (fun f' hf => hr f' (by simp [hf]))
            rw [ho, ← hl] at hA
            have e : (cs.drop off).take (l1 ++ q).length = (cs.drop off).take l1.length ++ (cs.drop (off + l1.length)).take q.length := by
              rw [List.length_append, List.take_add, List.drop_drop]
            rw [e]
            exact hA.append hB
          · cases h
        · cases h
      · cases h
    · cases h

theorem leaves_ok : ∀ (d : Nat) (t : TypeId) (l : List Leaf) (cs : List Value), leaves P d t = some l → (∃ fuel x, DataW.trod enc P w 0 (fun _ => true) true fuel t cs = some x) → All2 (Leaf.ok enc P w) l cs
  | 0, _, _, _, h, _ => by cases h
  | d + 1, t, l, cs, h, ⟨fuel, x, hx⟩ => by
    simp only [leaves] at h
    split at h
    · rename_i ht
      cases h
      obtain ⟨b, rfl, _⟩ := DataW.trod_bool ht hx
      exact .cons ⟨b, rfl⟩ .nil
    · rename_i k ht
      cases h
      obtain ⟨n, rfl, _⟩ := DataW.trod_int ht hx
      exact .cons ⟨n, rfl⟩ .nil
    · rename_i ht
      cases h
      obtain ⟨n, rfl, _⟩ := DataW.trod_string ht hx
      exact .cons ⟨n, rfl⟩ .nil
    · rename_i e ht
      cases h
      rcases Deep.open_slice ht hx with ⟨rfl, _⟩ | ⟨a, len, cap, m, n, D, Pl, rfl, _, h2, h3, h4, _, h6⟩
      · exact .cons (.inl rfl) .nil
      · refine .cons (.inr ⟨a, len, cap, rfl, h2, h3, fun i hi => ?_⟩) .nil
        obtain ⟨cs', g1, g2⟩ := h6 i (by rw [h4]; simpa using hi)
        exact ⟨cs', g1, n, _, g2⟩
    · rename_i fs ht
      split at h
      · rename_i q hq
        split at h
        · rename_i hl
          cases h
          obtain ⟨xs, n, _, _, hcl, hxl, hf⟩ := DataW.trod_struct ht hx
          have := fieldLeaves_ok (enc := enc) (w := w) (cs := cs) (fun t l cs' h1 h2 => leaves_ok d t l cs' h1 h2) fs.toList 0 l hq (fun f hfm => by
            obtain ⟨i, hi, rfl⟩ := List.getElem_of_mem hfm
            have := hf i (fs.toList[i]) (by simp)
            refine ⟨n, xs[i]'(by rw [hxl]; simpa using hi), ?_⟩
            rw [this]
            exact List.getElem?_eq_getElem _)
          rw [List.drop_zero, List.take_of_length_le (by omega)] at this
          exact this
        · cases h
      · cases h
    · cases h
end
end Go.Proofs
end
section
/- The start heap out of what lies in the arguments: frozen blocks, laid one behind the other. -/
namespace Go.Proofs
open Go.RowKit Go.Sim

structure Blk where
  o : AObj
  i : BI

def still : AObj → Prop
  | .dead => True
  | .cells _ _ _ frz pars => frz = true ∧ pars = []
  | _ => False

theorem still_share {b1 b2 : Nat} {i1 i2 : BI} {o1 o2 : AObj} (h1 : still o1) (h2 : still o2) : ShareOk b1 b2 i1 i2 o1 o2 := by
  cases o1 <;> cases o2 <;> simp_all [still, ShareOk]

noncomputable def lay (h : H) : List AObj → H
  | [] => h
  | o :: r => lay (h.alloc o) r

theorem lay_next : ∀ (os : List AObj) (h : H), (lay h os).next = h.next + os.length
  | [], h => rfl
  | o :: r, h => by
    show (lay (h.alloc o) r).next = _
    rw [lay_next r, alloc_next, List.length_cons]; omega

theorem lay_lo : ∀ (os : List AObj) (h : H), (lay h os).lo = h.lo
  | [], h => rfl
  | o :: r, h => by
    show (lay (h.alloc o) r).lo = _
    rw [lay_lo r, alloc_lo]

theorem lay_old : ∀ (os : List AObj) (h : H) {b : Nat}, b < h.next → h.next + os.length ≤ 1048576 → (lay h os).get b = h.get b
  | [], h, b, _, _ => rfl
  | o :: r, h, b, hb, hn => by
    show (lay (h.alloc o) r).get b = _
    rw [List.length_cons] at hn
    rw [lay_old r (h.alloc o) (by rw [alloc_next]; omega) (by rw [alloc_next]; omega)]
    exact (Kept.alloc (h := h) (by omega) o).get b hb

theorem lay_get : ∀ (os : List AObj) (h : H) {k : Nat} {o : AObj}, os[k]? = some o → h.next + os.length ≤ 1048576 → (lay h os).get (h.next + k) = some o
  | [], h, k, o, hk, _ => by simp at hk
  | x :: r, h, 0, o, hk, hn => by
    simp at hk; subst hk
    rw [List.length_cons] at hn
    show (lay (h.alloc x) r).get (h.next + 0) = _
    rw [Nat.add_zero, lay_old r (h.alloc x) (by rw [alloc_next]; omega) (by rw [alloc_next]; omega)]
    exact alloc_get_new (by omega) x
  | x :: r, h, k + 1, o, hk, hn => by
    simp at hk
    rw [List.length_cons] at hn
    show (lay (h.alloc x) r).get (h.next + (k + 1)) = _
    have := lay_get r (h.alloc x) hk (by rw [alloc_next]; omega)
    rw [alloc_next] at this
    rw [← this]; congr 1; omega

def injB (bs : List Blk) : Inj := fun g => if g < 4 then inj0 g else (bs[g - 4]?).map (·.i)

theorem injB_ext (bs : List Blk) : Ext inj0 (injB bs) := fun b i h => by
  unfold injB
  rw [if_pos (inj0_some h).1]; exact h

theorem injB_at {bs : List Blk} {k : Nat} {b : Blk} (h : bs[k]? = some b) : injB bs (4 + k) = some b.i := by
  unfold injB
  rw [if_neg (by omega), Nat.add_sub_cancel_left, h]; rfl

theorem injB_some {bs : List Blk} {g : Nat} {i : BI} (h : injB bs g = some i) : (g < 4 ∧ inj0 g = some i) ∨ ∃ k b, g = 4 + k ∧ bs[k]? = some b ∧ i = b.i := by
  unfold injB at h
  split at h
  · rename_i hg; exact .inl ⟨hg, h⟩
  · rename_i hg
    cases hb : bs[g - 4]? with
    | none => simp [hb] at h
    | some b => simp [hb] at h; exact .inr ⟨g - 4, b, by omega, hb, h.symm⟩

theorem h0_next : h0.next = 4 := by kernel_rfl
theorem h0_lo : h0.lo = Sim.big := by kernel_rfl

noncomputable def start (bs : List Blk) : H := lay h0 (bs.map (·.o))

theorem start_next (bs : List Blk) : (start bs).next = 4 + bs.length := by unfold start; rw [lay_next, h0_next, List.length_map]
theorem start_lo (bs : List Blk) : (start bs).lo = Sim.big := by unfold start; rw [lay_lo, h0_lo]
theorem start_old {bs : List Blk} (hn : 4 + bs.length ≤ 1048576) {b : Nat} (hb : b < 4) : (start bs).get b = h0.get b :=
  lay_old _ _ (by rw [h0_next]; exact hb) (by rw [h0_next, List.length_map]; exact hn)
theorem start_at {bs : List Blk} (hn : 4 + bs.length ≤ 1048576) {k : Nat} {b : Blk} (h : bs[k]? = some b) : (start bs).get (4 + k) = some b.o := by
  have := lay_get (bs.map (·.o)) h0 (k := k) (o := b.o) (by rw [List.getElem?_map, h]; rfl) (by rw [h0_next, List.length_map]; exact hn)
  rw [h0_next] at this
  exact this

theorem start_some {bs : List Blk} (hn : 4 + bs.length ≤ 1048576) {g : Nat} {i : BI} (h : injB bs g = some i) : g < 4 + bs.length ∧ ∃ o, (start bs).get g = some o ∧ still o ∨ g < 4 + bs.length ∧ ∃ k b, g = 4 + k ∧ bs[k]? = some b ∧ (start bs).get g = some b.o := by
  rcases injB_some h with ⟨h4, h0'⟩ | ⟨k, b, rfl, hb, rfl⟩
  · refine ⟨by omega, ?_⟩
    rw [start_old hn h4]
    by_cases e : g = 0
    · subst e; exact ⟨_, .inl ⟨h0_get0, rfl, rfl⟩⟩
    · exact ⟨_, .inl ⟨h0_get (by omega) h4, trivial⟩⟩
  · have hk : k < bs.length := (List.getElem?_eq_some_iff.1 hb).1
    exact ⟨by omega, b.o, .inr ⟨by omega, k, b, rfl, hb, start_at hn hb⟩⟩

theorem start_still {bs : List Blk} (hn : 4 + bs.length ≤ 1048576) (hs : ∀ b ∈ bs, still b.o) {g : Nat} {i : BI} {o : AObj} (h : injB bs g = some i) (ho : (start bs).get g = some o) : still o := by
  rcases injB_some h with ⟨h4, h0'⟩ | ⟨k, b, rfl, hb, rfl⟩
  · rw [start_old hn h4] at ho
    by_cases e : g = 0
    · subst e; rw [h0_get0] at ho; cases ho; exact ⟨rfl, rfl⟩
    · rw [h0_get (by omega) h4] at ho; cases ho; trivial
  · rw [start_at hn hb] at ho
    cases ho
    exact hs b (List.mem_of_getElem? hb)

theorem rel_start {w : World} (hw : PowsLaid w) {bs : List Blk} (hn : 4 + bs.length ≤ 1048576) (hs : ∀ b ∈ bs, still b.o) (hB : ∀ b ∈ bs, b.i.B < w.heap.size) (hr : ∀ b ∈ bs, ObjRel (injB bs) b.i w b.o) : Rel (injB bs) (start bs) w := by
  have R0 := rel0 hw
  refine ⟨by rw [start_next]; exact hn, fun g i h => ?_, fun b1 b2 i1 i2 o1 o2 _ h1 h2 _ g1 g2 => still_share (start_still hn hs h1 g1) (start_still hn hs h2 g2), fun g i h => ?_, fun g i vs esz opn frz pars h hg p hp => ?_⟩
  · rcases injB_some h with ⟨h4, h0'⟩ | ⟨k, b, rfl, hb, rfl⟩
    · obtain ⟨_, o, q1, q2⟩ := R0.dom g i h0'
      exact ⟨by rw [start_next]; omega, o, by rw [start_old hn h4]; exact q1, q2.mono (injB_ext bs) rfl⟩
    · have hk : k < bs.length := (List.getElem?_eq_some_iff.1 hb).1
      exact ⟨by rw [start_next]; omega, b.o, start_at hn hb, hr b (List.mem_of_getElem? hb)⟩
  · rcases injB_some h with ⟨h4, h0'⟩ | ⟨k, b, rfl, hb, rfl⟩
    · exact R0.fits g i h0'
    · exact hB b (List.mem_of_getElem? hb)
  · have := start_still hn hs h hg
    obtain ⟨_, rfl⟩ := this
    cases hp

theorem glob_start (bs : List Blk) : Glob (injB bs) := fun g hg => by
  obtain ⟨i, h1, h2⟩ := glob0 g hg
  exact ⟨i, injB_ext bs g i h1, h2⟩

/-! ### Rows of cells in memory -/

theorem addr_add {a : Addr} (hs : a.spot = none) (n : Nat) : a.add n = ⟨a.block, a.off + n, none⟩ := by
  cases a with
  | mk b o s =>
    have : s = none := hs
    subst this
    exact add_none b o n

theorem cell_heap {w : World} {B o : Nat} {v : Value} (h : w.cell? ⟨B, o, none⟩ = some v) : ∃ cs T fz, w.heap[B]? = some (.cells cs T fz) ∧ cs[o]? = some v := by
  unfold World.cell? at h
  split at h
  · rename_i c T fz hb
    exact ⟨c, T, fz, hb, by simpa using h⟩
  · cases h

theorem row_split {k : Nat} (hk : 1 ≤ k) : ∀ {rs : List (List AVal)} {j : Nat} {v : AVal}, (∀ r ∈ rs, r.length = k) → rs.flatten[j]? = some v → ∃ i r m, rs[i]? = some r ∧ r[m]? = some v ∧ j = i * k + m ∧ m < k
  | [], j, v, _, h => by simp at h
  | r :: rs, j, v, hr, h => by
    rw [List.flatten_cons] at h
    have hl := hr r (by simp)
    by_cases hj : j < r.length
    · rw [List.getElem?_append_left hj] at h
      exact ⟨0, r, j, rfl, h, by omega, by omega⟩
    · rw [List.getElem?_append_right (by omega)] at h
      obtain ⟨i, q, m, h1, h2, h3, h4⟩ := row_split hk (fun x hx => hr x (by simp [hx])) h
      refine ⟨i + 1, q, m, by simpa using h1, h2, ?_, h4⟩
      rw [Nat.succ_mul]; omega

theorem rows_obj {w : World} {a : Addr} {n k : Nat} (hk : 1 ≤ k) (hs : a.spot = none) (ha : ∃ v, w.cell? a = some v) {ι : Inj} {rs : List (List AVal)} (hl : rs.length = n)
    (hr : ∀ i r, rs[i]? = some r → r.length = k ∧ ∃ cs', w.cells? 0 (a.add (i * k)) k = some cs' ∧ renL ι r = some cs') : ObjRel ι ⟨a.block, a.off, rs.flatten.length, 0, k⟩ w (.cells rs.flatten k false true []) := by
  obtain ⟨va, ha⟩ := ha
  have ha' : w.cell? ⟨a.block, a.off, none⟩ = some va := by
    have e : a = ⟨a.block, a.off, none⟩ := by have := addr_add hs 0; simpa [Addr.add] using this
    rw [← e]; exact ha
  obtain ⟨cs, T, fz, hB, h0⟩ := cell_heap ha'
  have hlen : ∀ r ∈ rs, r.length = k := fun r hm => by
    obtain ⟨i, hi, rfl⟩ := List.getElem_of_mem hm
    exact (hr i _ (List.getElem?_eq_getElem hi)).1
  have vals : ∀ (j : Nat) v, rs.flatten[j]? = some v → ∃ vc, ren ι v = some vc ∧ cs[a.off + j]? = some vc := by
    intro j v hj
    obtain ⟨i, r, m, h1, h2, rfl, hm⟩ := row_split hk hlen hj
    obtain ⟨_, cs', h3, h4⟩ := hr i r h1
    obtain ⟨vc, g1, g2⟩ := renL_get h4 m v h2
    obtain ⟨_, q1, q2⟩ := World.cells?_some h3
    have := q2 m hm
    rw [Go.Deep.add_add, g2, addr_add hs] at this
    obtain ⟨cs2, T2, fz2, hB2, h5⟩ := cell_heap this
    rw [hB] at hB2; cases hB2
    exact ⟨vc, g1, h5⟩
  refine ⟨cs, T, fz, hB, rfl, rfl, fun _ => rfl, ?_, vals, fun h => by cases h⟩
  show a.off + rs.flatten.length + 0 * k ≤ cs.size
  rw [Nat.zero_mul, Nat.add_zero]
  have h0' : a.off < cs.size := (Array.getElem?_eq_some_iff.1 h0).1
  cases hz : rs.flatten.length with
  | zero => omega
  | succ q =>
    obtain ⟨v, hv⟩ : ∃ v, rs.flatten[q]? = some v := ⟨_, List.getElem?_eq_getElem (by omega)⟩
    obtain ⟨vc, _, h5⟩ := vals q v hv
    have := (Array.getElem?_eq_some_iff.1 h5).1
    omega

theorem list_of {α : Type} {Q : Nat → α → Prop} : ∀ (n : Nat), (∀ i, i < n → ∃ y, Q i y) → ∃ xs : List α, xs.length = n ∧ ∀ i y, xs[i]? = some y → Q i y
  | 0, _ => ⟨[], rfl, fun i y h => by simp at h⟩
  | n + 1, h => by
    obtain ⟨xs, h1, h2⟩ := list_of n fun i hi => h i (by omega)
    obtain ⟨y, hy⟩ := h n (by omega)
    refine ⟨xs ++ [y], by simp [h1], fun i z hz => ?_⟩
    by_cases hi : i < xs.length
    · rw [List.getElem?_append_left hi] at hz; exact h2 i z hz
    · rw [List.getElem?_append_right (by omega)] at hz
      have : i - xs.length = 0 := by
        have := (List.getElem?_eq_some_iff.1 hz).1
        simp at this; omega
      rw [this] at hz
      simp at hz; subst hz
      have : i = n := by omega
      subst this; exact hy

/-- a slice's value in the executor, its place given -/
def sl (ka : Option Nat) (b : Nat) : SL := ka.map fun o => (b, o)

theorem slc_rep {Hd : Type} {enc : TypeId × Value → Hd} {P : Program} {w : World} {e : TypeId} {v : Value} {k : Nat} {α : Type} {enc' : α → List AVal} (hv : Leaf.ok enc P w (.slc e) v) (hk : P.cellsOf e = k) (hk1 : 1 ≤ k) (hw : 0 < w.heap.size)
    (hrow : ∀ cs' : List Value, (∃ fuel x, DataW.trod enc P w 0 (fun _ => true) true fuel e cs' = some x) → ∃ y : α, (enc' y).length = k ∧ ∀ ι, renL ι (enc' y) = some cs') :
    ∃ (ka : Option Nat) (n c : Nat) (xs : List α) (B : Blk), still B.o ∧ B.i.B < w.heap.size ∧ (∀ ι, ObjRel ι B.i w B.o) ∧ (∀ b ι, ι b = some B.i → ren ι (.slc (sl ka b) n c) = some v) ∧
      (∀ b h, b < h.next → h.get b = some B.o → SlR h k enc' (sl ka b) n xs) := by
  rcases hv with rfl | ⟨a, len, cap, rfl, h1, h2, h3⟩
  · exact ⟨none, 0, 0, [], ⟨.dead, ⟨0, 0, 0, 0, 0⟩⟩, trivial, hw, fun _ => trivial, fun b ι _ => by simp [sl, ren], fun b h _ _ => ⟨rfl, .inl rfl⟩⟩
  · by_cases hc : cap = 0
    · subst hc
      have : len = 0 := by omega
      subst this
      refine ⟨some odd, 0, 0, [], ⟨.dead, ⟨0, a.block, a.off, 0, match a.spot with | none => 0 | some s => s + 1⟩⟩, trivial, hw, fun _ => trivial, fun b ι hb => ?_, fun b h _ _ => ⟨rfl, .inl rfl⟩⟩
      show ren ι (.slc (some (b, odd)) 0 0) = _
      rw [ren_slc_ofE hb]
      have e1 : adr ⟨0, a.block, a.off, 0, match a.spot with | none => 0 | some s => s + 1⟩ odd 0 0 = a := by
        unfold adr
        rw [if_pos ⟨rfl, rfl, rfl⟩]
        cases a with
        | mk bl o s => cases s <;> rfl
      have e2 : capE ⟨0, a.block, a.off, 0, match a.spot with | none => 0 | some s => s + 1⟩ odd 0 0 = 0 := by
        unfold capE
        rw [if_neg (fun h => absurd h.1 (by decide))]
        unfold capOf
        generalize (match a.spot with | none => 0 | some s => s + 1) = q
        show (if odd + 0 * q = a.off then 0 + 0 else 0) = 0
        split <;> rfl
      rw [e1, e2]
    · subst hk
      obtain ⟨cs0, hc0, _⟩ := h3 0 (by omega)
      rw [Nat.zero_mul] at hc0
      have e0 : a.add 0 = a := by simp [Addr.add]
      rw [e0] at hc0
      obtain ⟨_, q1, q2⟩ := World.cells?_some hc0
      have ha : ∃ v, w.cell? a = some v := by
        have := q2 0 (by omega)
        rw [e0] at this
        exact ⟨cs0[0]'(by omega), this.trans (List.getElem?_eq_getElem _)⟩
      have hs : a.spot = none := by obtain ⟨v, hv⟩ := ha; exact World.cell?_spot hv
      obtain ⟨xs, hxl, hx⟩ := list_of (Q := fun i (y : α) => (enc' y).length = P.cellsOf e ∧ ∃ cs', w.cells? 0 (a.add (i * P.cellsOf e)) (P.cellsOf e) = some cs' ∧ ∀ ι, renL ι (enc' y) = some cs') len fun i hi => by
        obtain ⟨cs', g1, g2⟩ := h3 i (by omega)
        obtain ⟨y, g3, g4⟩ := hrow cs' g2
        exact ⟨y, g3, cs', g1, g4⟩
      have hrs : ∀ (ι : Inj) i r, (xs.map enc')[i]? = some r → r.length = P.cellsOf e ∧ ∃ cs', w.cells? 0 (a.add (i * P.cellsOf e)) (P.cellsOf e) = some cs' ∧ renL ι r = some cs' := by
        intro ι i r hr
        rw [List.getElem?_map] at hr
        cases hy : xs[i]? with
        | none => simp [hy] at hr
        | some y =>
          simp [hy] at hr
          subst hr
          obtain ⟨g1, cs', g2, g3⟩ := hx i y hy
          exact ⟨g1, cs', g2, g3 ι⟩
      have hB : a.block < w.heap.size := by
        obtain ⟨v, hv⟩ := ha
        have e : a = ⟨a.block, a.off, none⟩ := by have := addr_add hs 0; simpa [Addr.add] using this
        rw [e] at hv
        obtain ⟨_, _, _, hb, _⟩ := cell_heap hv
        exact (Array.getElem?_eq_some_iff.1 hb).1
      refine ⟨some 0, len, cap, xs, ⟨.cells (xs.map enc').flatten (P.cellsOf e) false true [], ⟨a.block, a.off, (xs.map enc').flatten.length, 0, P.cellsOf e⟩⟩, ⟨rfl, rfl⟩, hB, fun ι => rows_obj hk1 hs ha (by simpa using hxl) (hrs ι), fun b ι hb => ?_, fun b h hb hg => ⟨hxl, ?_⟩⟩
      · show ren ι (.slc (some (b, 0)) len cap) = _
        rw [ren_slc_of hb amb0]
        have e1 : capOf ⟨a.block, a.off, (xs.map enc').flatten.length, 0, P.cellsOf e⟩ 0 cap = cap := by unfold capOf; split <;> rfl
        have e2 : (⟨a.block, a.off + 0, none⟩ : Addr) = a := by have := addr_add hs 0; simpa [Addr.add] using this.symm
        rw [e1]
        show some (Value.slice (some ⟨a.block, a.off + 0, none⟩) len cap) = _
        rw [e2]
      · exact rows_ok hb hg fun r hr => by
          obtain ⟨i, hi, rfl⟩ := List.getElem_of_mem hr
          exact (hrs inj0 i _ (List.getElem?_eq_getElem hi)).1
end Go.Proofs
end
