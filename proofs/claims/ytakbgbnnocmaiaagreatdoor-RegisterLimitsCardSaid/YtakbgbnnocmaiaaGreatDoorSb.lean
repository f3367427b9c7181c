/- How the abstract machine's values and heap stand to the model's: addresses renamed, room beyond a slice's end left open. -/
import Derived.Test.YtakbgbnnocmaiaaGreatDoorSa
import Derived.Laws.World
import Derived.Laws.Sem
set_option linter.all false
section
namespace Go.Sim

/-- where an abstract block lies: the model's block, the first cell, how many cells, for how many elements more there is room, an element's cells -/
structure BI where
  B : Nat
  base : Nat
  cells : Nat
  spare : Nat
  esz : Nat

abbrev Inj := Nat → Option BI

def capOf (i : BI) (o c : Nat) : Nat := if o + c * i.esz = i.cells then c + i.spare else c

/-- an empty slice at an open end: where it lies, and its room -/
def adrE (i : BI) (o l c : Nat) : Nat := if o = amb ∧ l = 0 ∧ c = 0 then (if i.spare = 0 then 0 else i.cells) else o
/-- an empty slice's address, of whatever make -/
def adr (i : BI) (o l c : Nat) : Addr := if o = odd ∧ l = 0 ∧ c = 0 then ⟨i.base, i.cells, if i.esz = 0 then none else some (i.esz - 1)⟩ else ⟨i.B, i.base + adrE i o l c, none⟩
def capE (i : BI) (o l c : Nat) : Nat := if o = amb ∧ l = 0 ∧ c = 0 then i.spare else capOf i o c

mutual
def ren (ι : Inj) : AVal → Option Value
  | .undef => some Go.undef
  | .bool b => some (.bool b)
  | .int k n => some (.int k n)
  | .str s => some (.string ⟨s.toArray⟩)
  | .ptr none => some (.pointer none)
  | .ptr (some p) => (ι p.1).map fun i => .pointer (some ⟨i.B, i.base + p.2, none⟩)
  | .slc none l c => some (.slice none l c)
  | .slc (some p) l c => (ι p.1).map fun i => .slice (some (adr i p.2 l c)) l (capE i p.2 l c)
  | .map none => some (.map none)
  | .map (some r) => (ι r).map fun i => .map (some i.B)
  | .func f cs => (renL ι cs).map fun vs => .func (.func f) #[] vs.toArray
  | .yld l => (ι l).map fun i => .func (.yield i.B) #[] #[]
  | .nilFunc => some .nilFunc
  | .iface t v => (ren ι v).map (.iface t)
  | .nilIface => some .nilIface
  | .agg cs => (renL ι cs).map fun vs => .agg vs.toArray
  | .tup vs => (renL ι vs).map fun vs => .tuple vs.toArray
def renL (ι : Inj) : List AVal → Option (List Value)
  | [] => some []
  | v :: r => match ren ι v, renL ι r with
    | some a, some as => some (a :: as)
    | _, _ => none
end

def Ext (ι ι' : Inj) : Prop := ∀ b i, ι b = some i → ι' b = some i

theorem Ext.refl (ι : Inj) : Ext ι ι := fun _ _ h => h
theorem Ext.trans {a b c : Inj} (h : Ext a b) (h' : Ext b c) : Ext a c := fun x i hx => h' x i (h x i hx)

theorem map_ext {ι ι' : Inj} (h : Ext ι ι') {β : Type} {b : Nat} {f : BI → β} {v : β} (e : (ι b).map f = some v) : (ι' b).map f = some v := by
  cases hb : ι b with
  | none => simp [hb] at e
  | some i => rw [h b i hb]; rw [hb] at e; exact e

mutual
theorem ren_ext {ι ι' : Inj} (h : Ext ι ι') : ∀ (v : AVal) {vc : Value}, ren ι v = some vc → ren ι' v = some vc
  | .undef, _, e => by simpa [ren] using e
  | .bool b, _, e => by simpa [ren] using e
  | .int k n, _, e => by simpa [ren] using e
  | .str s, _, e => by simpa [ren] using e
  | .ptr none, _, e => by simpa [ren] using e
  | .ptr (some p), _, e => by simp only [ren] at e ⊢; exact map_ext h e
  | .slc none l c, _, e => by simpa [ren] using e
  | .slc (some p) l c, _, e => by simp only [ren] at e ⊢; exact map_ext h e
  | .map none, _, e => by simpa [ren] using e
  | .map (some r), _, e => by simp only [ren] at e ⊢; exact map_ext h e
  | .func f cs, vc, e => by
    simp only [ren] at e ⊢
    cases hc : renL ι cs with
    | none => simp [hc] at e
    | some l => rw [renL_ext h cs hc]; rw [hc] at e; exact e
  | .yld l, _, e => by simp only [ren] at e ⊢; exact map_ext h e
  | .nilFunc, _, e => by simpa [ren] using e
  | .iface t v, _, e => by
    simp only [ren] at e ⊢
    cases hc : ren ι v with
    | none => simp [hc] at e
    | some l => rw [ren_ext h v hc]; rw [hc] at e; exact e
  | .nilIface, _, e => by simpa [ren] using e
  | .agg cs, vc, e => by
    simp only [ren] at e ⊢
    cases hc : renL ι cs with
    | none => simp [hc] at e
    | some l => rw [renL_ext h cs hc]; rw [hc] at e; exact e
  | .tup cs, vc, e => by
    simp only [ren] at e ⊢
    cases hc : renL ι cs with
    | none => simp [hc] at e
    | some l => rw [renL_ext h cs hc]; rw [hc] at e; exact e
theorem renL_ext {ι ι' : Inj} (h : Ext ι ι') : ∀ (l : List AVal) {vs : List Value}, renL ι l = some vs → renL ι' l = some vs
  | [], _, e => by simpa [renL] using e
  | v :: r, vs, e => by
    simp only [renL] at e ⊢
    cases h1 : ren ι v with
    | none => simp [h1] at e
    | some a =>
      cases h2 : renL ι r with
      | none => simp [h1, h2] at e
      | some as => rw [ren_ext h v h1, renL_ext h r h2]; rw [h1, h2] at e; exact e
end

theorem renL_cons {ι : Inj} {v : AVal} {r : List AVal} {vs : List Value} : renL ι (v :: r) = some vs ↔ ∃ a as, ren ι v = some a ∧ renL ι r = some as ∧ vs = a :: as := by
  simp only [renL]
  cases h1 : ren ι v <;> cases h2 : renL ι r <;> simp [eq_comm]

theorem renL_nil {ι : Inj} {vs : List Value} : renL ι [] = some vs ↔ vs = [] := by simp [renL, eq_comm]

theorem renL_length {ι : Inj} : ∀ {l : List AVal} {vs : List Value}, renL ι l = some vs → vs.length = l.length
  | [], vs, h => by rw [renL_nil] at h; simp [h]
  | v :: r, vs, h => by
    obtain ⟨a, as, _, h2, rfl⟩ := renL_cons.1 h
    simp [renL_length h2]

theorem renL_get {ι : Inj} : ∀ {l : List AVal} {vs : List Value}, renL ι l = some vs → ∀ (k : Nat) (v : AVal), l[k]? = some v → ∃ vc, ren ι v = some vc ∧ vs[k]? = some vc
  | [], _, _, _, _, hk => by simp at hk
  | v :: r, vs, h, k, u, hk => by
    obtain ⟨a, as, h1, h2, rfl⟩ := renL_cons.1 h
    cases k with
    | zero => simp at hk; subst hk; exact ⟨a, h1, by simp⟩
    | succ k => simp at hk; simpa using renL_get h2 k u hk

theorem renL_append {ι : Inj} : ∀ {a b : List AVal} {x y : List Value}, renL ι a = some x → renL ι b = some y → renL ι (a ++ b) = some (x ++ y)
  | [], b, x, y, ha, hb => by rw [renL_nil] at ha; subst ha; simpa using hb
  | v :: r, b, x, y, ha, hb => by
    obtain ⟨c, cs, h1, h2, rfl⟩ := renL_cons.1 ha
    exact renL_cons.2 ⟨c, _, h1, renL_append h2 hb, rfl⟩

theorem renL_take {ι : Inj} : ∀ {a : List AVal} {x : List Value} (n : Nat), renL ι a = some x → renL ι (a.take n) = some (x.take n)
  | _, _, 0, _ => by simp [renL]
  | [], x, n + 1, ha => by rw [renL_nil] at ha; subst ha; simp [renL]
  | v :: r, x, n + 1, ha => by
    obtain ⟨c, cs, h1, h2, rfl⟩ := renL_cons.1 ha
    exact renL_cons.2 ⟨c, _, h1, renL_take n h2, by simp⟩

theorem renL_drop {ι : Inj} : ∀ {a : List AVal} {x : List Value} (n : Nat), renL ι a = some x → renL ι (a.drop n) = some (x.drop n)
  | _, _, 0, h => by simpa using h
  | [], x, n + 1, ha => by rw [renL_nil] at ha; subst ha; simp [renL]
  | v :: r, x, n + 1, ha => by
    obtain ⟨c, cs, h1, h2, rfl⟩ := renL_cons.1 ha
    simpa using renL_drop n h2

theorem renL_of_get {ι : Inj} : ∀ {l : List AVal} {vs : List Value}, l.length = vs.length → (∀ (k : Nat) (v : AVal), l[k]? = some v → ren ι v = vs[k]?) → renL ι l = some vs
  | [], vs, hl, _ => by
    have : vs = [] := List.length_eq_zero_iff.1 (by simpa using hl.symm)
    subst this; simp [renL]
  | v :: r, [], hl, _ => by simp at hl
  | v :: r, u :: us, hl, h => by
    refine renL_cons.2 ⟨u, us, ?_, renL_of_get (by simpa using hl) (fun k w hk => ?_), rfl⟩
    · have := h 0 v (by simp); simpa using this
    · have := h (k + 1) w (by simpa using hk); simpa using this

/-! ### Constants -/

theorem cS_ren {ι : Inj} : ∀ {v : Value} {a : AVal}, cS v = some a → ren ι a = some v := by
  intro v a h
  cases v with
  | bool b => simp [cS] at h; subst h; simp [ren]
  | int k n => simp [cS] at h; subst h; simp [ren]
  | string s => simp [cS] at h; subst h; simp [ren]
  | pointer p => cases p <;> simp [cS] at h; subst h; simp [ren]
  | slice p l c => cases p <;> simp [cS] at h; subst h; simp [ren]
  | map r => cases r <;> simp [cS] at h; subst h; simp [ren]
  | nilFunc => simp [cS] at h; subst h; simp [ren]
  | nilIface => simp [cS] at h; subst h; simp [ren]
  | _ => simp [cS] at h

theorem cSs_ren {ι : Inj} : ∀ {l : List Value} {as : List AVal}, mapX cS l = some as → renL ι as = some l
  | [], as, h => by rw [mapX_nil] at h; simp at h; subst h; simp [renL]
  | v :: r, as, h => by
    rw [mapX_cons, ob_eq] at h
    obtain ⟨a, h1, h⟩ := h
    rw [ob_eq] at h
    obtain ⟨q, h2, h⟩ := h
    simp at h; subst h
    exact renL_cons.2 ⟨v, r, cS_ren h1, cSs_ren h2, rfl⟩

theorem cV_ren {ι : Inj} {v : Value} {a : AVal} (h : cV v = some a) : ren ι a = some v := by
  cases v with
  | agg cs =>
    simp only [cV] at h
    rw [ob_eq] at h
    obtain ⟨as, h1, h⟩ := h
    simp at h; subst h
    simp only [ren, cSs_ren h1, Option.map_some]
  | _ => exact cS_ren h

/-! ### Objects -/

def renP (ι : Inj) (p : AVal × AVal) (e : MapEntry) : Prop := ren ι p.1 = some e.key ∧ ren ι p.2 = some e.val

/-- the slots of a frame -/
def EnvRel (ι : Inj) (n : Nat) (e : Env) (tmps : Array Value) : Prop :=
  tmps.size = n ∧ n ≤ 256 ∧ ∀ t v, t < 256 → e.get t = some v → ∃ vc, ren ι v = some vc ∧ tmps[t]? = some vc

def LStRel : LSt → Loop → Prop
  | .ready, lp => lp.state = .ready ∧ lp.pending = none
  | .busy, lp => lp.state = .busy
  | .done none, lp => lp.state = .done ∧ lp.pending = some .ret
  | .done (some id), lp => lp.state = .done ∧ lp.pending = some (.exit id)

structure CellsRel (ι : Inj) (i : BI) (vs : List AVal) (esz : Nat) (opn frz : Bool) (cs : Array Value) (fz : Nat × Nat) : Prop where
  hcells : i.cells = vs.length
  hesz : i.esz = esz
  shut : opn = false → i.spare = 0
  room : i.base + vs.length + i.spare * esz ≤ cs.size
  vals : ∀ (k : Nat) v, vs[k]? = some v → ∃ vc, ren ι v = some vc ∧ cs[i.base + k]? = some vc
  free : frz = false → ∀ k, i.base ≤ k → k < i.base + vs.length + i.spare * esz → (decide (fz.1 ≤ k) && decide (k < fz.2)) = false

structure MapRel (ι : Inj) (es : List (AVal × AVal)) (ck : Nat) (es' : Array MapEntry) (clock : Nat) : Prop where
  hclock : clock = ck
  hlen : es'.size = es.length
  rel : ∀ (k : Nat) p e, es[k]? = some p → es'[k]? = some e → renP ι p e
  born : ∀ e ∈ es'.toList, e.born < ck
  nodup : (es'.toList.map (·.born)).Nodup

def ObjRel (ι : Inj) (i : BI) (w : World) : AObj → Prop
  | .cells vs esz opn frz _ => ∃ cs T fz, w.heap[i.B]? = some (.cells cs T fz) ∧ CellsRel ι i vs esz opn frz cs fz
  | .dead => True
  | .map es ck => ∃ es' clock, w.heap[i.B]? = some (.map es' clock) ∧ MapRel ι es ck es' clock
  | .iter m since => i.base = 0 ∧ ∃ m' since' st, w.heap[i.B]? = some (.mapIter m' since' #[] st) ∧ since' = since ∧ st = since ∧ (m = none → m' = none) ∧ (∀ r, m = some r → ∃ j, ι r = some j ∧ m' = some j.B)
  | .loop fn n env ps asg body st d => ∃ lp, w.heap[i.B]? = some (.loop lp) ∧ lp.fn = fn ∧ EnvRel ι n env lp.tmps ∧ lp.params = ps.toArray ∧ lp.assign = asg ∧ lp.body = body ∧ LStRel st lp ∧ ∃ j, ι d = some j ∧ lp.defers = j.B
  | .dfd => w.heap[i.B]? = some (.deferred (some []))

def BI.fin (i : BI) : Nat := i.base + i.cells

/-- two blocks that lie in one block of the model -/
def ShareOk (b1 b2 : Nat) (i1 i2 : BI) : AObj → AObj → Prop
  | .dead, _ => True
  | _, .dead => True
  | .cells _ _ _ f1 p1, .cells _ _ _ f2 p2 => (f1 = true ∨ f2 = true) ∧ (f2 = false → b1 ∈ p2 ∧ i1.fin ≤ i2.fin) ∧ (f1 = false → b2 ∈ p1 ∧ i2.fin ≤ i1.fin)
  | _, _ => False

structure Rel (ι : Inj) (h : H) (w : World) : Prop where
  cap : h.next ≤ 1048576
  dom : ∀ b i, ι b = some i → b < h.next ∧ ∃ o, h.get b = some o ∧ ObjRel ι i w o
  sep : ∀ b1 b2 i1 i2 o1 o2, b1 ≠ b2 → ι b1 = some i1 → ι b2 = some i2 → i1.B = i2.B → h.get b1 = some o1 → h.get b2 = some o2 → ShareOk b1 b2 i1 i2 o1 o2
  fits : ∀ b i, ι b = some i → i.B < w.heap.size
  par : ∀ b i vs esz opn frz pars, ι b = some i → h.get b = some (.cells vs esz opn frz pars) → ∀ p ∈ pars, p < h.next

/-- nothing but memory, and how often the tape was asked, has changed -/
def SameOut (w w' : World) : Prop := w'.os = w.os ∧ w'.tape = w.tape ∧ w'.output = w.output

theorem SameOut.refl (w : World) : SameOut w w := ⟨rfl, rfl, rfl⟩
theorem SameOut.trans {a b c : World} (h : SameOut a b) (k : SameOut b c) : SameOut a c := ⟨k.1.trans h.1, k.2.1.trans h.2.1, k.2.2.trans h.2.2⟩

/-- what a piece of a run does to memory -/
structure Went (ι : Inj) (h : H) (w : World) (ι' : Inj) (h' : H) (w' : World) : Prop where
  ext : Ext ι ι'
  next : h.next ≤ h'.next
  lo : h'.lo ≤ h.lo
  old : ∀ b, b < h.next → b < h'.lo → h'.get b = h.get b
  new : ∀ b i, ι' b = some i → ι b = none → h.next ≤ b ∧ (w.heap.size ≤ i.B ∨ ∃ b0 i0, ι b0 = some i0 ∧ i0.B = i.B ∧ h'.lo ≤ b0)
  size : w.heap.size ≤ w'.heap.size
  kept : ∀ B, B < w.heap.size → w'.heap[B]? ≠ w.heap[B]? → ∃ b i, ι b = some i ∧ i.B = B ∧ h'.lo ≤ b
  rel : Rel ι' h' w'
  out : SameOut w w'

theorem Went.refl {ι : Inj} {h : H} {w : World} (r : Rel ι h w) : Went ι h w ι h w :=
  ⟨Ext.refl ι, Nat.le_refl _, Nat.le_refl _, fun _ _ _ => rfl, fun b i h1 h2 => (by rw [h1] at h2; cases h2), Nat.le_refl _, fun B _ hn => absurd rfl hn, r, SameOut.refl w⟩

theorem Went.trans {ι ι1 ι2 : Inj} {h h1 h2 : H} {w w1 w2 : World} (a : Went ι h w ι1 h1 w1) (b : Went ι1 h1 w1 ι2 h2 w2) : Went ι h w ι2 h2 w2 where
  ext := a.ext.trans b.ext
  next := Nat.le_trans a.next b.next
  lo := Nat.le_trans b.lo a.lo
  old := fun x hx hl => by rw [b.old x (Nat.lt_of_lt_of_le hx a.next) hl, a.old x hx (Nat.lt_of_lt_of_le hl b.lo)]
  new := fun x i hx hn => by
    cases h1x : ι1 x with
    | none =>
      obtain ⟨q1, q2⟩ := b.new x i hx h1x
      refine ⟨Nat.le_trans a.next q1, ?_⟩
      rcases q2 with q2 | ⟨b0, i0, e0, eB, hl⟩
      · exact .inl (Nat.le_trans a.size q2)
      · cases h0 : ι b0 with
        | some j =>
          have := a.ext b0 j h0
          rw [e0] at this; cases this
          exact .inr ⟨b0, i0, h0, eB, hl⟩
        | none =>
          obtain ⟨_, r2⟩ := a.new b0 i0 e0 h0
          rcases r2 with r2 | ⟨b1, i1, e1, eB1, hl1⟩
          · exact .inl (eB ▸ r2)
          · exact .inr ⟨b1, i1, e1, eB1.trans eB, Nat.le_trans b.lo hl1⟩
    | some j =>
      have := b.ext x j h1x
      rw [hx] at this; cases this
      obtain ⟨q1, q2⟩ := a.new x i h1x hn
      refine ⟨q1, ?_⟩
      rcases q2 with q2 | ⟨b0, i0, e0, eB, hl⟩
      · exact .inl q2
      · exact .inr ⟨b0, i0, e0, eB, Nat.le_trans b.lo hl⟩
  size := Nat.le_trans a.size b.size
  kept := fun B hB hne => by
    by_cases h1 : w1.heap[B]? = w.heap[B]?
    · have hne2 : w2.heap[B]? ≠ w1.heap[B]? := by rw [h1]; exact hne
      obtain ⟨x, i, hx, eB, hl⟩ := b.kept B (Nat.lt_of_lt_of_le hB a.size) hne2
      cases h0 : ι x with
      | some j =>
        have := a.ext x j h0
        rw [hx] at this; cases this
        exact ⟨x, i, h0, eB, hl⟩
      | none =>
        obtain ⟨_, r2⟩ := a.new x i hx h0
        rcases r2 with r2 | ⟨b1, i1, e1, eB1, hl1⟩
        · omega
        · exact ⟨b1, i1, e1, eB1.trans eB, Nat.le_trans b.lo hl1⟩
    · obtain ⟨x, i, hx, eB, hl⟩ := a.kept B hB h1
      exact ⟨x, i, hx, eB, Nat.le_trans b.lo hl⟩
  rel := b.rel
  out := a.out.trans b.out

end Go.Sim
end
section
/- The abstract heap beside the model's: new blocks, stores, blocks that are given up. -/
namespace Go.Sim

def upd (ι : Inj) (b : Nat) (i : BI) : Inj := fun x => if x = b then some i else ι x

theorem upd_self (ι : Inj) (b : Nat) (i : BI) : upd ι b i b = some i := by simp [upd]
theorem upd_ne (ι : Inj) {b x : Nat} (i : BI) (h : x ≠ b) : upd ι b i x = ι x := by simp [upd, h]

theorem Ext.upd {ι : Inj} {b : Nat} {i : BI} (h : ι b = none) : Ext ι (upd ι b i) := by
  intro x j hx
  by_cases e : x = b
  · subst e; rw [h] at hx; cases hx
  · rw [upd_ne ι i e]; exact hx

@[simp] theorem H.alloc_next (h : H) (o : AObj) : (h.alloc o).next = h.next + 1 := rfl
@[simp] theorem H.alloc_lo (h : H) (o : AObj) : (h.alloc o).lo = h.lo := rfl
@[simp] theorem H.setO_next (h : H) (b : Nat) (o : AObj) : (h.setO b o).next = h.next := rfl
@[simp] theorem H.setO_lo (h : H) (b : Nat) (o : AObj) : (h.setO b o).lo = min h.lo b := by show minN _ _ = _; rw [minN_eq]
@[simp] theorem H.withLo_next (h : H) (l : Nat) : (h.withLo l).next = h.next := rfl
@[simp] theorem H.withLo_lo (h : H) (l : Nat) : (h.withLo l).lo = l := rfl
@[simp] theorem H.withLo_get (h : H) (l b : Nat) : (h.withLo l).get b = h.get b := rfl

theorem H.alloc_get (h : H) (o : AObj) {b : Nat} (hb : b < 1048576) (hn : h.next < 1048576) : (h.alloc o).get b = if b = h.next then some o else h.get b :=
  E_get_put 10 b h.next (some o) h.t hb hn

theorem H.setO_get (h : H) (o : AObj) {b x : Nat} (hx : x < 1048576) (hb : b < 1048576) : (h.setO b o).get x = if x = b then some o else h.get x :=
  E_get_put 10 x b (some o) h.t hx hb

theorem EnvRel.ext {ι ι' : Inj} (h : Ext ι ι') {n : Nat} {e : Env} {t : Array Value} (r : EnvRel ι n e t) : EnvRel ι' n e t :=
  ⟨r.1, r.2.1, fun s v hs hv => let ⟨vc, h1, h2⟩ := r.2.2 s v hs hv; ⟨vc, ren_ext h v h1, h2⟩⟩

theorem ObjRel.mono {ι ι' : Inj} (h : Ext ι ι') {i : BI} {w w' : World} (hw : w'.heap[i.B]? = w.heap[i.B]?) {o : AObj} (r : ObjRel ι i w o) : ObjRel ι' i w' o := by
  cases o with
  | cells vs esz opn frz pars =>
    obtain ⟨cs, T, fz, h1, h2⟩ := r
    exact ⟨cs, T, fz, hw ▸ h1, h2.hcells, h2.hesz, h2.shut, h2.room, fun k v hk => (let ⟨vc, a, b⟩ := h2.vals k v hk; ⟨vc, ren_ext h v a, b⟩), h2.free⟩
  | dead => trivial
  | map es ck =>
    obtain ⟨es', clock, h1, h2⟩ := r
    exact ⟨es', clock, hw ▸ h1, h2.hclock, h2.hlen, fun k p e hp he => (let ⟨a, b⟩ := h2.rel k p e hp he; ⟨ren_ext h _ a, ren_ext h _ b⟩), h2.born, h2.nodup⟩
  | iter m since =>
    obtain ⟨h0, m', s', st, h1, h2, h3, h4, h5⟩ := r
    exact ⟨h0, m', s', st, hw ▸ h1, h2, h3, h4, fun x hx => (let ⟨j, a, b⟩ := h5 x hx; ⟨j, h x j a, b⟩)⟩
  | loop fn n env ps asg body st d =>
    obtain ⟨lp, h1, h2, h3, h4, h5, h6, h7, j, h8, h9⟩ := r
    exact ⟨lp, hw ▸ h1, h2, h3.ext h, h4, h5, h6, h7, j, h d j h8, h9⟩
  | dfd => show w'.heap[i.B]? = _; rw [hw]; exact r

theorem Rel.none {ι : Inj} {h : H} {w : World} (r : Rel ι h w) {b : Nat} (hb : h.next ≤ b) : ι b = none := by
  cases e : ι b with
  | none => rfl
  | some i => have := (r.dom b i e).1; omega

theorem Rel.lt {ι : Inj} {h : H} {w : World} (r : Rel ι h w) {b : Nat} {i : BI} (e : ι b = some i) : b < h.next := (r.dom b i e).1
theorem Rel.lt' {ι : Inj} {h : H} {w : World} (r : Rel ι h w) {b : Nat} {i : BI} (e : ι b = some i) : b < 1048576 := Nat.lt_of_lt_of_le (r.lt e) r.cap

theorem ShareOk.symm {b1 b2 : Nat} {i1 i2 : BI} {o1 o2 : AObj} (h : ShareOk b1 b2 i1 i2 o1 o2) : ShareOk b2 b1 i2 i1 o2 o1 := by
  cases o1 <;> cases o2 <;> simp only [ShareOk] at h ⊢
  exact ⟨h.1.symm, h.2.2, h.2.1⟩

/-- A NEW BLOCK at a place of the model's heap that the world 'w1' has; all else is as it was. -/
theorem Went.alloc {ι : Inj} {h : H} {w w1 : World} (r : Rel ι h w) (o : AObj) (i : BI) (hn : h.next < 1048576)
    (hsz : w.heap.size ≤ w1.heap.size) (hold : ∀ B, B < w.heap.size → w1.heap[B]? = w.heap[B]?) (hi : w.heap.size ≤ i.B) (hfit : i.B < w1.heap.size)
    (ho : ObjRel (upd ι h.next i) i w1 o) (hp : ∀ vs esz opn frz pars, o = .cells vs esz opn frz pars → ∀ p ∈ pars, p < h.next) (hso : SameOut w w1 := by exact ⟨rfl, rfl, rfl⟩) :
    Went ι h w (upd ι h.next i) (h.alloc o) w1 := by
  have hnone := r.none (Nat.le_refl h.next)
  have hext : Ext ι (upd ι h.next i) := Ext.upd hnone
  have hget : ∀ b, b < 1048576 → (h.alloc o).get b = if b = h.next then some o else h.get b := fun b hb => H.alloc_get h o hb hn
  refine ⟨hext, by simp, by simp, fun b hb _ => ?_, fun b j hb hb' => ?_, hsz, fun B hB hne => absurd (hold B hB) hne, ?_, hso⟩
  · rw [hget b (by omega), if_neg (by omega)]
  · by_cases e : b = h.next
    · subst e; rw [upd_self] at hb; cases hb; exact ⟨Nat.le_refl _, .inl hi⟩
    · rw [upd_ne ι i e, hb'] at hb; cases hb
  · constructor
    · simp; omega
    · intro b j hb
      by_cases e : b = h.next
      · subst e; rw [upd_self] at hb; cases hb
        exact ⟨by simp, o, by rw [hget _ hn, if_pos rfl], ho⟩
      · rw [upd_ne ι i e] at hb
        obtain ⟨h1, q, h2, h3⟩ := r.dom b j hb
        refine ⟨by simp; omega, q, by rw [hget b (by omega), if_neg e]; exact h2, h3.mono hext (hold _ (r.fits b j hb))⟩
    · intro b1 b2 i1 i2 o1 o2 hne h1 h2 hB g1 g2
      by_cases e1 : b1 = h.next
      · subst e1; rw [upd_self] at h1; cases h1
        rw [upd_ne ι i (Ne.symm hne)] at h2
        have := r.fits b2 i2 h2
        omega
      · rw [upd_ne ι i e1] at h1
        by_cases e2 : b2 = h.next
        · subst e2; rw [upd_self] at h2; cases h2
          have := r.fits b1 i1 h1
          omega
        · rw [upd_ne ι i e2] at h2
          rw [hget b1 (r.lt' h1), if_neg e1] at g1
          rw [hget b2 (r.lt' h2), if_neg e2] at g2
          exact r.sep b1 b2 i1 i2 o1 o2 hne h1 h2 hB g1 g2
    · intro b j hb
      by_cases e : b = h.next
      · subst e; rw [upd_self] at hb; cases hb; exact hfit
      · rw [upd_ne ι i e] at hb
        have := r.fits b j hb
        omega
    · intro b j vs esz opn frz pars hb hg p hpm
      by_cases e : b = h.next
      · subst e
        rw [hget _ hn, if_pos rfl] at hg
        cases hg
        have := hp _ _ _ _ _ rfl p hpm
        simp; omega
      · rw [upd_ne ι i e] at hb
        rw [hget b (r.lt' hb), if_neg e] at hg
        have := r.par b j vs esz opn frz pars hb hg p hpm
        simp; omega

/-- A BLOCK IS GIVEN UP. -/
theorem Went.die {ι : Inj} {h : H} {w : World} (r : Rel ι h w) {p : Nat} (hp : p < h.next) : Went ι h w ι (h.setO p .dead) w := by
  have hget : ∀ b, b < 1048576 → (h.setO p .dead).get b = if b = p then some .dead else h.get b := fun b hb => H.setO_get h .dead hb (Nat.lt_of_lt_of_le hp r.cap)
  refine ⟨Ext.refl ι, by simp, by simp; omega, fun b hb hl => ?_, fun b j hb hb' => (by rw [hb] at hb'; cases hb'), Nat.le_refl _, fun B _ hne => absurd rfl hne, ?_, SameOut.refl w⟩
  · have hc := r.cap
    simp at hl
    rw [hget b (by omega), if_neg (by omega)]
  · constructor
    · simpa using r.cap
    · intro b j hb
      obtain ⟨h1, q, h2, h3⟩ := r.dom b j hb
      by_cases e : b = p
      · exact ⟨by simpa using h1, .dead, by rw [hget b (r.lt' hb), if_pos e], trivial⟩
      · exact ⟨by simpa using h1, q, by rw [hget b (r.lt' hb), if_neg e]; exact h2, h3⟩
    · intro b1 b2 i1 i2 o1 o2 hne h1 h2 hB g1 g2
      rw [hget b1 (r.lt' h1)] at g1
      rw [hget b2 (r.lt' h2)] at g2
      split at g1
      · cases g1; cases o2 <;> trivial
      · split at g2
        · cases g2; cases o1 <;> trivial
        · exact r.sep b1 b2 i1 i2 o1 o2 hne h1 h2 hB g1 g2
    · exact r.fits
    · intro b j vs esz opn frz pars hb hg q hq
      rw [hget b (r.lt' hb)] at hg
      split at hg
      · cases hg
      · simpa using r.par b j vs esz opn frz pars hb hg q hq

theorem kill_nil (h : H) : kill h [] = h := rfl
theorem kill_cons (h : H) (p : Nat) (l : List Nat) : kill h (p :: l) = kill (h.setO p .dead) l := rfl

theorem Went.killed {ι : Inj} {w : World} : ∀ (l : List Nat) {h : H}, Rel ι h w → (∀ p ∈ l, p < h.next) → Went ι h w ι (kill h l) w
  | [], _, r, _ => Went.refl r
  | p :: l, h, r, hl => by
    rw [kill_cons]
    have h1 := Went.die r (hl p (by simp))
    exact h1.trans (Went.killed l h1.rel (fun q hq => by simpa using hl q (by simp [hq])))

theorem kill_get : ∀ (l : List Nat) (h : H) {b : Nat}, b < 1048576 → (∀ p ∈ l, p < 1048576) → (kill h l).get b = if b ∈ l then some .dead else h.get b
  | [], h, b, _, _ => by simp [kill_nil]
  | p :: l, h, b, hb, hl => by
    rw [kill_cons, kill_get l _ hb (fun q hq => hl q (by simp [hq])), H.setO_get h .dead hb (hl p (by simp))]
    by_cases e1 : b ∈ l
    · simp [e1]
    · by_cases e2 : b = p
      · subst e2; simp
      · simp [e1, e2]

@[simp] theorem kill_next : ∀ (l : List Nat) (h : H), (kill h l).next = h.next
  | [], _ => rfl
  | p :: l, h => by rw [kill_cons, kill_next l]; simp

/-- AN OBJECT IS CHANGED, and with it the one block of the model's heap in which it lies: no other block that is not given up lies there. -/
theorem Went.change {ι : Inj} {h : H} {w w1 : World} (r : Rel ι h w) {b : Nat} {i : BI} (hb : ι b = some i) (o : AObj)
    (hsz : w1.heap.size = w.heap.size) (hold : ∀ B, B ≠ i.B → w1.heap[B]? = w.heap[B]?) (ho : ObjRel ι i w1 o)
    (halone : ∀ b2 i2 o2, b2 ≠ b → ι b2 = some i2 → i2.B = i.B → h.get b2 = some o2 → o2 = .dead)
    (hp : ∀ vs esz opn frz pars, o = .cells vs esz opn frz pars → pars = []) (hso : SameOut w w1 := by exact ⟨rfl, rfl, rfl⟩) : Went ι h w ι (h.setO b o) w1 := by
  have hget : ∀ x, x < 1048576 → (h.setO b o).get x = if x = b then some o else h.get x := fun x hx => H.setO_get h o hx (r.lt' hb)
  refine ⟨Ext.refl ι, by simp, by simp; omega, fun x hx hl => ?_, fun x j hx hx' => (by rw [hx] at hx'; cases hx'), by omega, fun B _ hne => ?_, ?_, hso⟩
  · have hc := r.cap
    simp at hl
    rw [hget x (by omega), if_neg (by omega)]
  · by_cases e : B = i.B
    · exact ⟨b, i, hb, e.symm, by simp; omega⟩
    · exact absurd (hold B e) hne
  · constructor
    · simpa using r.cap
    · intro x j hx
      obtain ⟨h1, q, h2, h3⟩ := r.dom x j hx
      by_cases e : x = b
      · subst e; rw [hb] at hx; cases hx
        exact ⟨by simpa using h1, o, by rw [hget x (r.lt' hb), if_pos rfl], ho⟩
      · refine ⟨by simpa using h1, q, by rw [hget x (r.lt' hx), if_neg e]; exact h2, ?_⟩
        by_cases eB : j.B = i.B
        · have := halone x j q e hx eB h2
          subst this; trivial
        · exact h3.mono (Ext.refl ι) (hold _ eB)
    · intro b1 b2 i1 i2 o1 o2 hne h1 h2 hB g1 g2
      rw [hget b1 (r.lt' h1)] at g1
      rw [hget b2 (r.lt' h2)] at g2
      split at g1
      · rename_i e1
        cases e1
        rw [hb] at h1; cases h1
        rw [if_neg (Ne.symm hne)] at g2
        have := halone b2 i2 o2 (Ne.symm hne) h2 hB.symm g2
        subst this
        cases o1 <;> trivial
      · split at g2
        · rename_i e2
          cases e2
          rw [hb] at h2; cases h2
          have := halone b1 i1 o1 hne h1 hB g1
          subst this
          trivial
        · exact r.sep b1 b2 i1 i2 o1 o2 hne h1 h2 hB g1 g2
    · intro x j hx; rw [hsz]; exact r.fits x j hx
    · intro x j vs esz opn frz pars hx hg q hq
      rw [hget x (r.lt' hx)] at hg
      split at hg
      · cases hg; rw [hp _ _ _ _ _ rfl] at hq; cases hq
      · simpa using r.par x j vs esz opn frz pars hx hg q hq

end Go.Sim
end
section
/- Rows of cells: loaded, stored, and what that does to the model's heap. -/
namespace Go.Sim

theorem cell_of {w : World} {B k : Nat} {cs : Array Value} {T : TypeId} {fz : Nat × Nat} {v : Value} (h : w.heap[B]? = some (.cells cs T fz)) (hk : cs[k]? = some v) :
    w.cell? ⟨B, k, none⟩ = some v := by
  simp [World.cell?, h, hk]

theorem frozen_of {w : World} {B k : Nat} {cs : Array Value} {T : TypeId} {fz : Nat × Nat} (h : w.heap[B]? = some (.cells cs T fz)) :
    w.frozen? ⟨B, k, none⟩ = (decide (fz.1 ≤ k) && decide (k < fz.2)) := by
  obtain ⟨lo, hi⟩ := fz
  simp [World.frozen?, h]

theorem add_none (B o n : Nat) : (⟨B, o, none⟩ : Addr).add n = ⟨B, o + n, none⟩ := by
  unfold Addr.add; split
  · rename_i h; subst h; rfl
  · rfl

theorem run_load {P : Program} {w : World} {a : Addr} {v : Value} (h : w.cell? a = some v) : (load a).run P w = .ok v w := by
  simp [load, Sem.run, h]

theorem run_bind {P : Program} {α β : Type} {s : Sem α} {f : α → Sem β} {w w1 : World} {a : α} (h : s.run P w = .ok a w1) : (s >>= f).run P w = (f a).run P w1 := by
  rw [Sem.run_bind, h]; rfl

theorem run_loadCellsFrom {P : Program} {w : World} {B o : Nat} : ∀ (l : List Value) (i : Nat) (acc : Array Value), (∀ k v, l[k]? = some v → w.cell? ⟨B, o + i + k, none⟩ = some v) →
    (loadCellsFrom ⟨B, o, none⟩ i l.length acc).run P w = .ok (acc ++ l.toArray) w
  | [], i, acc, _ => by simp [loadCellsFrom, pure, Sem.run]
  | v :: r, i, acc, h => by
    have h0 : w.cell? ((⟨B, o, none⟩ : Addr).add i) = some v := by rw [add_none]; simpa using h 0 v (by simp)
    simp only [List.length_cons, loadCellsFrom]
    rw [run_bind (run_load h0), run_loadCellsFrom r (i + 1) (acc.push v)]
    · congr 1; apply Array.ext'; simp
    · intro k u hk
      have := h (k + 1) u (by simpa using hk)
      rw [show o + (i + 1) + k = o + i + (k + 1) by omega]; exact this

theorem run_loadCells {P : Program} {w : World} {B o : Nat} (l : List Value) (h : ∀ k v, l[k]? = some v → w.cell? ⟨B, o + k, none⟩ = some v) :
    (loadCells ⟨B, o, none⟩ l.length).run P w = .ok l.toArray w := by
  unfold loadCells
  rw [run_loadCellsFrom l 0 #[] (by simpa using h)]
  simp

/-! ### Stores -/

def plainV : Value → Bool
  | .agg _ => false
  | .tuple _ => false
  | _ => true

theorem plain_ren {ι : Inj} {a : AVal} {v : Value} (h : ren ι a = some v) (hp : plain a = true) : plainV v = true := by
  cases a with
  | ptr p => cases p <;> simp [ren] at h; · subst h; rfl
             · obtain ⟨i, _, rfl⟩ := h; rfl
  | slc p l c => cases p <;> simp [ren] at h; · subst h; rfl
                 · obtain ⟨i, _, rfl⟩ := h; rfl
  | map r => cases r <;> simp [ren] at h; · subst h; rfl
             · obtain ⟨i, _, rfl⟩ := h; rfl
  | func f cs => simp [ren] at h; obtain ⟨i, _, rfl⟩ := h; rfl
  | yld l => simp [ren] at h; obtain ⟨i, _, rfl⟩ := h; rfl
  | iface t v => simp [ren] at h; obtain ⟨i, _, rfl⟩ := h; rfl
  | undef => simp [plain] at hp
  | agg _ => simp [plain] at hp
  | tup _ => simp [plain] at hp
  | _ => simp [ren] at h; subst h; rfl

theorem plains_cons (a : AVal) (l : List AVal) : plains (a :: l) = (plain a && plains l) := by
  show sel (plain a) (plains l) false = _
  cases plain a <;> rfl

theorem plains_ren {ι : Inj} : ∀ {l : List AVal} {vs : List Value}, renL ι l = some vs → plains l = true → ∀ v ∈ vs, plainV v = true
  | [], vs, h, _, v, hv => by rw [renL_nil] at h; subst h; cases hv
  | a :: l, vs, h, hp, v, hv => by
    obtain ⟨b, bs, h1, h2, rfl⟩ := renL_cons.1 h
    rw [plains_cons, Bool.and_eq_true] at hp
    cases hv with
    | head => exact plain_ren h1 hp.1
    | tail _ hv => exact plains_ren h2 hp.2 v hv

theorem run_store {P : Program} {w : World} {B k : Nat} {v u : Value} (hv : plainV v = true) (hc : w.cell? ⟨B, k, none⟩ = some u) (hf : w.frozen? ⟨B, k, none⟩ = false) :
    (store ⟨B, k, none⟩ v).run P w = .ok () (w.setCell ⟨B, k, none⟩ v) := by
  cases v <;> first | (simp [plainV] at hv; done) | simp [store, Sem.run, hc, hf]

/-- a row of cells stored -/
def stW (w : World) (B o : Nat) : List Value → World
  | [] => w
  | v :: r => stW (w.setCell ⟨B, o, none⟩ v) B (o + 1) r

theorem setCell_heap {w : World} {B k : Nat} {v : Value} {cs : Array Value} {T : TypeId} {fz : Nat × Nat} (h : w.heap[B]? = some (.cells cs T fz)) :
    (w.setCell ⟨B, k, none⟩ v).heap[B]? = some (.cells (cs.setIfInBounds k v) T fz) := by
  simp only [World.setCell]
  rw [Array.getElem?_modify]
  simp [h]

theorem setCell_other {w : World} {B k x : Nat} {v : Value} (h : x ≠ B) : (w.setCell ⟨B, k, none⟩ v).heap[x]? = w.heap[x]? := by
  simp only [World.setCell]
  rw [Array.getElem?_modify, if_neg (Ne.symm h)]

theorem setCell_size {w : World} {a : Addr} {v : Value} : (w.setCell a v).heap.size = w.heap.size := by simp [World.setCell]

theorem stW_size : ∀ (l : List Value) (w : World) (B o : Nat), (stW w B o l).heap.size = w.heap.size
  | [], _, _, _ => rfl
  | v :: r, w, B, o => by rw [stW, stW_size r]; exact setCell_size

theorem stW_out : ∀ (l : List Value) (w : World) (B o : Nat), SameOut w (stW w B o l)
  | [], w, _, _ => SameOut.refl w
  | v :: r, w, B, o => by
    rw [stW]
    exact SameOut.trans ⟨rfl, rfl, rfl⟩ (stW_out r _ B (o + 1))

theorem stW_other : ∀ (l : List Value) (w : World) (B o : Nat) {x : Nat}, x ≠ B → (stW w B o l).heap[x]? = w.heap[x]?
  | [], _, _, _, _, _ => rfl
  | v :: r, w, B, o, x, h => by rw [stW, stW_other r _ _ _ h]; exact setCell_other h

theorem stW_heap : ∀ (l : List Value) (w : World) (B o : Nat) {cs : Array Value} {T : TypeId} {fz : Nat × Nat}, w.heap[B]? = some (.cells cs T fz) → o + l.length ≤ cs.size →
    ∃ cs', (stW w B o l).heap[B]? = some (.cells cs' T fz) ∧ cs'.size = cs.size ∧ ∀ k, cs'[k]? = if o ≤ k ∧ k < o + l.length then l[k - o]? else cs[k]?
  | [], w, B, o, cs, T, fz, h, _ => ⟨cs, h, rfl, fun k => by rw [if_neg (by simp)]⟩
  | v :: r, w, B, o, cs, T, fz, h, hl => by
    simp only [List.length_cons] at hl
    obtain ⟨cs', h1, h2, h3⟩ := stW_heap r (w.setCell ⟨B, o, none⟩ v) B (o + 1) (setCell_heap h) (by simp; omega)
    refine ⟨cs', h1, by simpa using h2, fun k => ?_⟩
    rw [h3 k]
    by_cases e : k = o
    · subst e
      rw [if_neg (by omega), if_pos (by simp)]
      simp [Array.getElem?_setIfInBounds, show k < cs.size by omega]
    · by_cases e2 : o + 1 ≤ k ∧ k < o + 1 + r.length
      · rw [if_pos e2, if_pos (by simp only [List.length_cons]; omega)]
        rw [show k - o = (k - (o + 1)) + 1 by omega]
        simp
      · rw [if_neg e2, if_neg (by simp only [List.length_cons]; omega)]
        simp [Array.getElem?_setIfInBounds, Ne.symm e]

theorem run_storeCells {P : Program} {B o : Nat} : ∀ (l : List Value) (w : World) (i : Nat) {cs : Array Value} {T : TypeId} {fz : Nat × Nat}, w.heap[B]? = some (.cells cs T fz) → o + i + l.length ≤ cs.size →
    (∀ v ∈ l, plainV v = true) → (∀ k, o + i ≤ k → k < o + i + l.length → (decide (fz.1 ≤ k) && decide (k < fz.2)) = false) →
    (storeCells ⟨B, o, none⟩ l i).run P w = .ok () (stW w B (o + i) l)
  | [], w, i, cs, T, fz, _, _, _, _ => by simp [storeCells, pure, Sem.run, stW]
  | v :: r, w, i, cs, T, fz, h, hl, hp, hf => by
    simp only [List.length_cons] at hl hf
    have hk : o + i < cs.size := by omega
    have hc : w.cell? ((⟨B, o, none⟩ : Addr).add i) = some cs[o + i] := by rw [add_none]; exact cell_of h (by simp [hk])
    have hz : w.frozen? ((⟨B, o, none⟩ : Addr).add i) = false := by rw [add_none, frozen_of h]; exact hf _ (by omega) (by omega)
    simp only [storeCells]
    rw [add_none] at hc hz ⊢
    rw [run_bind (run_store (hp v (by simp)) hc hz), run_storeCells r _ (i + 1) (setCell_heap h) (by simp; omega) (fun u hu => hp u (by simp [hu])) (fun k h1 h2 => hf k (by omega) (by omega))]
    rw [stW]; rfl

end Go.Sim
end
