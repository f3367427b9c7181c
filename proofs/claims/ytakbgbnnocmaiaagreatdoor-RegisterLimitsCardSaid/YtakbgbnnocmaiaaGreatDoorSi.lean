/- Regions that draw their order: the run in any order. -/
import Derived.Test.YtakbgbnnocmaiaaGreatDoorSh
set_option linter.all false
section
namespace Go.Sim

def cut (ι : Inj) (n : Nat) : Inj := fun b => if b < n then ι b else none

theorem cut_ext (ι : Inj) (n : Nat) : Ext (cut ι n) ι := fun b i h => by
  unfold cut at h; split at h
  · exact h
  · cases h

theorem cut_some {ι : Inj} {n b : Nat} {i : BI} : cut ι n b = some i ↔ b < n ∧ ι b = some i := by
  unfold cut; split
  · rename_i h; simp [h]
  · rename_i h; simp [h]

theorem cut_mono {ι ι' : Inj} {n n' : Nat} (h : n ≤ n') (e : Ext ι ι') : Ext (cut ι n) (cut ι' n') := fun b i hb => by
  rw [cut_some] at hb ⊢
  exact ⟨by omega, e b i hb.2⟩

theorem cut_all {ι : Inj} {n : Nat} (h : ∀ b i, ι b = some i → b < n) : cut ι n = ι := by
  funext b
  unfold cut
  split
  · rfl
  · rename_i hb
    cases hi : ι b with
    | none => rfl
    | some i => exact absurd (h b i hi) hb

theorem map_cut {ι ι2 : Inj} {n : Nat} (hn : ∀ b i, ι2 b = some i → b < n) {β : Type} {b : Nat} {f g : BI → β} {v : β} (e : (ι b).map f = some v) (h2 : (ι2 b).map g ≠ none) : (cut ι n b).map f = some v := by
  cases hb : ι2 b with
  | none => simp [hb] at h2
  | some i =>
    have := hn b i hb
    unfold cut
    rw [if_pos this]; exact e

mutual
theorem ren_cut {ι ι2 : Inj} {n : Nat} (hn : ∀ b i, ι2 b = some i → b < n) : ∀ (v : AVal) {vc : Value}, ren ι v = some vc → ren ι2 v ≠ none → ren (cut ι n) v = some vc
  | .undef, _, e, _ => by simpa [ren] using e
  | .bool b, _, e, _ => by simpa [ren] using e
  | .int k n, _, e, _ => by simpa [ren] using e
  | .str s, _, e, _ => by simpa [ren] using e
  | .ptr none, _, e, _ => by simpa [ren] using e
  | .ptr (some p), _, e, q => by simp only [ren] at e q ⊢; exact map_cut hn e q
  | .slc none l c, _, e, _ => by simpa [ren] using e
  | .slc (some p) l c, _, e, q => by simp only [ren] at e q ⊢; exact map_cut hn e q
  | .map none, _, e, _ => by simpa [ren] using e
  | .map (some r), _, e, q => by simp only [ren] at e q ⊢; exact map_cut hn e q
  | .func f cs, vc, e, q => by
    simp only [ren] at e q ⊢
    cases hc : renL ι cs with
    | none => simp [hc] at e
    | some l =>
      cases hq : renL ι2 cs with
      | none => simp [hq] at q
      | some l2 => rw [renL_cut hn cs hc (by rw [hq]; simp)]; rw [hc] at e; exact e
  | .yld l, _, e, q => by simp only [ren] at e q ⊢; exact map_cut hn e q
  | .nilFunc, _, e, _ => by simpa [ren] using e
  | .iface t v, _, e, q => by
    simp only [ren] at e q ⊢
    cases hc : ren ι v with
    | none => simp [hc] at e
    | some l =>
      cases hq : ren ι2 v with
      | none => simp [hq] at q
      | some l2 => rw [ren_cut hn v hc (by rw [hq]; simp)]; rw [hc] at e; exact e
  | .nilIface, _, e, _ => by simpa [ren] using e
  | .agg cs, vc, e, q => by
    simp only [ren] at e q ⊢
    cases hc : renL ι cs with
    | none => simp [hc] at e
    | some l =>
      cases hq : renL ι2 cs with
      | none => simp [hq] at q
      | some l2 => rw [renL_cut hn cs hc (by rw [hq]; simp)]; rw [hc] at e; exact e
  | .tup cs, vc, e, q => by
    simp only [ren] at e q ⊢
    cases hc : renL ι cs with
    | none => simp [hc] at e
    | some l =>
      cases hq : renL ι2 cs with
      | none => simp [hq] at q
      | some l2 => rw [renL_cut hn cs hc (by rw [hq]; simp)]; rw [hc] at e; exact e
theorem renL_cut {ι ι2 : Inj} {n : Nat} (hn : ∀ b i, ι2 b = some i → b < n) : ∀ (l : List AVal) {vs : List Value}, renL ι l = some vs → renL ι2 l ≠ none → renL (cut ι n) l = some vs
  | [], _, e, _ => by simpa [renL] using e
  | v :: r, vs, e, q => by
    simp only [renL] at e q ⊢
    cases h1 : ren ι v with
    | none => simp [h1] at e
    | some a =>
      cases h2 : renL ι r with
      | none => simp [h1, h2] at e
      | some as =>
        cases q1 : ren ι2 v with
        | none => simp [q1] at q
        | some b =>
          cases q2 : renL ι2 r with
          | none => simp [q1, q2] at q
          | some bs => rw [ren_cut hn v h1 (by rw [q1]; simp), renL_cut hn r h2 (by rw [q2]; simp)]; rw [h1, h2] at e; exact e
end

section
variable {P : Program} {C : Ctx} {ops : Array Oper} {x : FX} {T : Tr} {X : List Nat} {m : Nat} {ι0 : Inj} {w0 : World} {a0 : Act} {ri : RInfo}

def Adm (X : List Nat) (m : Nat) (D : List Nat) (k : Nat) : Prop := k ≤ m ∧ ∀ y ∈ X, (y ∈ D → y < k) ∧ (y ∉ D → k ≤ y)

/-- the slots, where the operations 'D' are done -/
structure DSlots (ops : Array Oper) (x : FX) (T : Tr) (a0 : Act) (D : List Nat) (ι : Inj) (a : Act) : Prop where
  s0 : ∀ t u, t < 256 → (T.e 0).get t = some u → (∀ (k : Nat) (o : Oper), k ∈ D → ops[k]? = some o → o.dst ≠ some t) → ∃ uc, ren ι u = some uc ∧ a.tmps[t]? = some uc
  s1 : ∀ (k : Nat) (o : Oper), k ∈ D → ops[k]? = some o → ∀ t, o.dst = some t → ∃ uc, ren ι (T.v k) = some uc ∧ a.tmps[t]? = some uc
  size : a.tmps.size = x.s.n
  defers : a.defers = a0.defers

/-- memory, where the operations 'D' are done -/
structure DMem (T : Tr) (X : List Nat) (m : Nat) (ι0 : Inj) (w0 : World) (D : List Nat) (ι : Inj) (w : World) : Prop where
  mem : ∀ k, Adm X m D k → Rel (cut ι (T.h k).next) (T.h k) w
  dom : ∀ b i, ι b = some i → b < (T.h 0).next ∨ ∃ k ∈ D, (T.h k).next ≤ b ∧ b < (T.h (k + 1)).next
  ext : Ext ι0 ι
  new : ∀ b i, ι b = some i → ι0 b = none → (T.h 0).next ≤ b ∧ (w0.heap.size ≤ i.B ∨ ∃ b0 i0, ι0 b0 = some i0 ∧ i0.B = i.B ∧ (T.h m).lo ≤ b0)
  wsize : w0.heap.size ≤ w.heap.size
  kept : ∀ B, B < w0.heap.size → w.heap[B]? ≠ w0.heap[B]? → ∃ b i, ι0 b = some i ∧ i.B = B ∧ (T.h m).lo ≤ b
  out : SameOut w0 w

/-- which operations are done -/
structure DSet (ri : RInfo) (m : Nat) (D : List Nat) : Prop where
  lt : ∀ k ∈ D, k < m
  clos : ∀ k ∈ D, ∀ i, ri.ancB k i = true → i ∈ D

theorem clash_r {all : List Oper} {a b : Oper} {t : Nat} (h1 : b.dst = some t) (h2 : t ∈ namesA all a) : clash all a b = true := by
  unfold clash
  rw [Bool.or_eq_true]
  right
  rw [h1, oe_some, memN_eq]; simpa using h2

theorem clash_l {all : List Oper} {a b : Oper} {t : Nat} (h1 : a.dst = some t) (h2 : t ∈ namesA all b) : clash all a b = true := by
  unfold clash
  rw [Bool.or_eq_true]
  left
  rw [h1, oe_some, Bool.or_eq_true, memN_eq]; left; simpa using h2

theorem spoils_d {all : List Oper} {o p : Oper} {t : Nat} (h : spoils all o p = false) (h1 : o.dst = some t) : p.dst ≠ some t := by
  intro h2
  unfold spoils at h
  rw [h1, oe_some, h2, oe_some] at h
  simp at h

theorem spoils_n {all : List Oper} {o p : Oper} {t : Nat} (h : spoils all o p = false) (h1 : o.dst = some t) (hl : isLook p.op = true) : t ∉ namesA all p := by
  intro h2
  unfold spoils at h
  rw [h1, oe_some, hl, memN_eq] at h
  simp [h2] at h

theorem env_at (N : NatOk P C ops x T X m ι0 w0) {t : Nat} (ht : t < 256) : ∀ k, k ≤ m →
    (∃ (j : Nat) (o : Oper), j < k ∧ ops[j]? = some o ∧ o.dst = some t ∧ (T.e k).get t = some (T.v j)) ∨ ((∀ (j : Nat) (o : Oper), j < k → ops[j]? = some o → o.dst ≠ some t) ∧ (T.e k).get t = (T.e 0).get t) := by
  intro k
  induction k with
  | zero => intro _; exact .inr ⟨fun j o hj => absurd hj (by omega), rfl⟩
  | succ k ih =>
    intro hk
    have ho := Array.getElem?_eq_getElem (xs := ops) (i := k) (by have := N.len; omega)
    have s := N.step k _ (by omega) ho
    have n256 := N.n256
    by_cases hd : (ops[k]'(by have := N.len; omega)).dst = some t
    · refine .inl ⟨k, _, by omega, ho, hd, ?_⟩
      rcases s.env with ⟨h1, _⟩ | ⟨d, h1, h2, h3⟩
      · rw [h1] at hd; cases hd
      · rw [hd] at h1; cases h1
        rw [h3, Env.get_set _ _ _ _ ht ht, if_pos rfl]
    · have hsame : (T.e (k + 1)).get t = (T.e k).get t := by
        rcases s.env with ⟨_, h2⟩ | ⟨d, h1, h2, h3⟩
        · rw [h2]
        · rw [h3, Env.get_set _ t d _ ht (Nat.lt_of_lt_of_le h2 n256), if_neg]
          rintro rfl
          exact hd h1
      rcases ih (by omega) with ⟨j, o, q1, q2, q3, q4⟩ | ⟨q1, q2⟩
      · exact .inl ⟨j, o, by omega, q2, q3, by rw [hsame]; exact q4⟩
      · refine .inr ⟨fun j o hj hjo => ?_, by rw [hsame]; exact q2⟩
        by_cases hjk : j = k
        · subst hjk
          rw [ho] at hjo; cases hjo
          exact hd
        · exact q1 j o (by omega) hjo

theorem toL {k : Nat} {o : Oper} (h : ops[k]? = some o) : ops.toList[k]? = some o := by rw [Array.getElem?_toList]; exact h

/-- the operands of the operation that comes next -/
theorem slots_j (R : RIOk ops.toList ri) (N : NatOk P C ops x T X m ι0 w0) {D : List Nat} {ι : Inj} {a : Act} (S : DSlots ops x T a0 D ι a) (A : DSet ri m D) {j : Nat} {o : Oper} (hj : j < m) (hjD : j ∉ D) (ho : ops[j]? = some o)
    (hanc : ∀ i, ri.ancB j i = true → i ∈ D) : SlotsRel (cut ι (T.h j).next) (T.e j) a (namesA ops.toList o) := by
  intro t htn ht u hu
  obtain ⟨ιn, wn, an, Rn, gn, Fn, _⟩ := N.nat j (by omega)
  obtain ⟨un, hun, _⟩ := Fn.2.2 t u ht hu
  have hdn : ∀ b i, ιn b = some i → b < (T.h j).next := fun b i hb => Rn.lt hb
  have fin : (∃ uc, ren ι u = some uc ∧ a.tmps[t]? = some uc) → ∃ uc, ren (cut ι (T.h j).next) u = some uc ∧ a.tmps[t]? = some uc :=
    fun ⟨uc, q1, q2⟩ => ⟨uc, ren_cut hdn u q1 (by rw [hun]; simp), q2⟩
  apply fin
  rcases env_at N ht j (by omega) with ⟨k, ok, q1, q2, q3, q4⟩ | ⟨q1, q2⟩
  · rw [q4] at hu; cases hu
    have hc := (R.compat j k o ok (toL ho) (toL q2) q1).2 (clash_r q3 htn)
    exact S.s1 k ok (hanc k hc) q2 t q3
  · rw [q2] at hu
    refine S.s0 t u ht hu fun k ok hk hok hd => ?_
    by_cases hkj : k < j
    · exact q1 k ok hkj hok hd
    · have hne : k ≠ j := fun h => hjD (h ▸ hk)
      have hc := (R.compat k j ok o (toL hok) (toL ho) (by omega)).2 (clash_l hd htn)
      exact hjD (A.clos k hk j hc)

theorem names_ops {all : List Oper} {o : Oper} {t : Nat} (h : t ∈ tmpsOf o.op.operands.toList) : t ∈ namesA all o := by
  unfold namesA; rw [app_eq]; simp [h]
theorem names_guard {all : List Oper} {o : Oper} {t : Nat} (h : t ∈ guardSlots all o.guard) : t ∈ namesA all o := by
  unfold namesA; rw [app_eq]; simp [h]

theorem SlotsRel.sub {ι : Inj} {e : Env} {a : Act} {l l' : List Nat} (h : ∀ t, t ∈ l' → t ∈ l) (s : SlotsRel ι e a l) : SlotsRel ι e a l' := fun t ht => s t (h t ht)

/-- the slots behind it -/
theorem DSlots.put (R : RIOk ops.toList ri) (N : NatOk P C ops x T X m ι0 w0) {D : List Nat} {ι ι' : Inj} {a : Act} (S : DSlots ops x T a0 D ι a) (A : DSet ri m D) {j : Nat} {o : Oper} (hj : j < m) (hjD : j ∉ D) (ho : ops[j]? = some o)
    (he : Ext ι ι') {vc : Value} (hv : ren ι' (T.v j) = some vc) : DSlots ops x T a0 (j :: D) ι' (a.put o.dst vc) := by
  have hs := N.step j o hj ho
  have uniq : ∀ (k : Nat) (ok : Oper), k ∈ D → ops[k]? = some ok → ∀ t, o.dst = some t → ok.dst ≠ some t := by
    intro k ok hk hok t ht
    have hne : k ≠ j := fun h => hjD (h ▸ hk)
    by_cases hkj : k < j
    · exact spoils_d (R.compat j k o ok (toL ho) (toL hok) hkj).1 ht
    · intro ht'
      exact spoils_d (R.compat k j ok o (toL hok) (toL ho) (by omega)).1 ht' ht
  have keep : ∀ t, o.dst ≠ some t → (a.put o.dst vc).tmps[t]? = a.tmps[t]? := by
    intro t ht
    cases hd : o.dst with
    | none => rfl
    | some d =>
      show (a.tmps.setIfInBounds d vc)[t]? = _
      rw [Array.getElem?_setIfInBounds, if_neg]
      rintro rfl
      exact ht hd
  refine ⟨fun t u ht hu hno => ?_, fun k ok hk hok t ht => ?_, ?_, ?_⟩
  · obtain ⟨uc, q1, q2⟩ := S.s0 t u ht hu fun k ok hk hok => hno k ok (by simp [hk]) hok
    exact ⟨uc, ren_ext he u q1, by rw [keep t (hno j o (by simp) ho)]; exact q2⟩
  · rcases List.mem_cons.1 hk with rfl | hk
    · rw [ho] at hok; cases hok
      refine ⟨vc, hv, ?_⟩
      rcases hs.env with ⟨h1, _⟩ | ⟨d, h1, h2, _⟩
      · rw [h1] at ht; cases ht
      · rw [ht] at h1; cases h1
        rw [ht]
        show (a.tmps.setIfInBounds t vc)[t]? = _
        rw [Array.getElem?_setIfInBounds, if_pos rfl, if_pos (by rw [S.size]; exact h2)]
    · obtain ⟨uc, q1, q2⟩ := S.s1 k ok hk hok t ht
      exact ⟨uc, ren_ext he _ q1, by rw [keep t (fun h => uniq k ok hk hok t h ht)]; exact q2⟩
  · cases hd : o.dst with
    | none => exact S.size
    | some d => show (a.tmps.setIfInBounds d vc).size = _; rw [Array.size_setIfInBounds]; exact S.size
  · cases hd : o.dst with
    | none => exact S.defers
    | some d => exact S.defers

/-- memory as it was -/
theorem DMem.same {D : List Nat} {ι : Inj} {w : World} (M : DMem T X m ι0 w0 D ι w) {j : Nat} (hjx : j ∉ X) : DMem T X m ι0 w0 (j :: D) ι w := by
  have hadm : ∀ k, Adm X m (j :: D) k → Adm X m D k := by
    rintro k ⟨h1, h2⟩
    refine ⟨h1, fun y hy => ⟨fun h => (h2 y hy).1 (by simp [h]), fun h => (h2 y hy).2 ?_⟩⟩
    have : y ≠ j := fun he => hjx (he ▸ hy)
    simp [h, this]
  refine ⟨fun k hk => M.mem k (hadm k hk), fun b i hb => ?_, M.ext, M.new, M.wsize, M.kept, M.out⟩
  rcases M.dom b i hb with h | ⟨k, h1, h2⟩
  · exact .inl h
  · exact .inr ⟨k, by simp [h1], h2⟩

/-- a relation, at a later heap -/
theorem Rel.later {ι : Inj} {h h' : H} {w : World} (r : Rel ι h w) (hn : h.next ≤ h'.next) (hc : h'.next ≤ 1048576) (hg : ∀ b, b < h.next → h'.get b = h.get b) : Rel ι h' w := by
  refine ⟨hc, fun b i hb => ?_, fun b1 b2 i1 i2 o1 o2 hne h1 h2 hB g1 g2 => ?_, r.fits, fun b i vs esz opn frz pars hb hgt p hp => ?_⟩
  · obtain ⟨q1, o, q2, q3⟩ := r.dom b i hb
    exact ⟨by omega, o, by rw [hg b q1]; exact q2, q3⟩
  · rw [hg b1 (r.lt h1)] at g1
    rw [hg b2 (r.lt h2)] at g2
    exact r.sep b1 b2 i1 i2 o1 o2 hne h1 h2 hB g1 g2
  · rw [hg b (r.lt hb)] at hgt
    have := r.par b i vs esz opn frz pars hb hgt p hp
    omega

/-- a relation, where memory has grown -/
theorem Rel.grown {ι : Inj} {h : H} {w w' : World} (r : Rel ι h w) (hs : w.heap.size ≤ w'.heap.size) (hk : ∀ B, B < w.heap.size → w'.heap[B]? = w.heap[B]?) : Rel ι h w' := by
  refine ⟨r.cap, fun b i hb => ?_, r.sep, fun b i hb => Nat.lt_of_lt_of_le (r.fits b i hb) hs, r.par⟩
  obtain ⟨q1, o, q2, q3⟩ := r.dom b i hb
  exact ⟨q1, o, q2, q3.mono (Ext.refl ι) (hk _ (r.fits b i hb))⟩

/-- an injection up to 'n', another one from there on -/
def join (ι1 ι : Inj) (n : Nat) : Inj := fun b => if b < n then ι1 b else ι b

theorem join_lt {ι1 ι : Inj} {n b : Nat} (h : b < n) : join ι1 ι n b = ι1 b := if_pos h
theorem join_ge {ι1 ι : Inj} {n b : Nat} (h : ¬ b < n) : join ι1 ι n b = ι b := if_neg h

/-- no block of operation 'j' is there before it is done -/
theorem DMem.gap (N : NatOk P C ops x T X m ι0 w0) {D : List Nat} {ι : Inj} {w : World} (M : DMem T X m ι0 w0 D ι w) (hlt : ∀ k ∈ D, k < m) {j : Nat} (hj : j < m) (hjD : j ∉ D) {b : Nat} {i : BI} (hb : ι b = some i) :
    b < (T.h j).next ∨ (T.h (j + 1)).next ≤ b := by
  rcases M.dom b i hb with h | ⟨k, h1, h2, h3⟩
  · have := N.nx (Nat.zero_le j) (by omega)
    omega
  · have hkm := hlt k h1
    have hne : k ≠ j := fun h => hjD (h ▸ h1)
    by_cases hkj : k < j
    · have := N.nx (k := k + 1) (k' := j) (by omega) (by omega)
      omega
    · have := N.nx (k := j + 1) (k' := k) (by omega) (by omega)
      omega

theorem join_ext (N : NatOk P C ops x T X m ι0 w0) {D : List Nat} {ι ι1 : Inj} {w : World} (M : DMem T X m ι0 w0 D ι w) (hlt : ∀ k ∈ D, k < m) {j : Nat} (hj : j < m) (hjD : j ∉ D) (he : Ext (cut ι (T.h j).next) ι1) : Ext ι (join ι1 ι (T.h (j + 1)).next) := by
  intro b i hb
  by_cases h : b < (T.h (j + 1)).next
  · rw [join_lt h]
    rcases M.gap N hlt hj hjD hb with q | q
    · exact he b i (cut_some.2 ⟨q, hb⟩)
    · omega
  · rw [join_ge h]; exact hb

/-- the parts of 'DMem' that do not speak of the heaps between -/
theorem DMem.outer (N : NatOk P C ops x T X m ι0 w0) {D : List Nat} {ι ι1 : Inj} {w w' : World} (M : DMem T X m ι0 w0 D ι w) (hlt : ∀ k ∈ D, k < m) {j : Nat} {o : Oper} (hj : j < m) (hjD : j ∉ D) (ho : ops[j]? = some o) (hw : T.w j = true) (hh : isHeavy o.op = true)
    (W : Went (cut ι (T.h j).next) ((T.h j).withLo big) w ι1 (T.hp j) w') (hm : ∀ k, Adm X m (j :: D) k → Rel (cut (join ι1 ι (T.h (j + 1)).next) (T.h k).next) (T.h k) w') :
    DMem T X m ι0 w0 (j :: D) (join ι1 ι (T.h (j + 1)).next) w' := by
  have hs := N.step j o hj ho
  have hraw := N.raw j o hj ho hw hh
  have hlo : (T.h m).lo ≤ (T.hp j).lo := by
    have h1 := N.los (k := j + 1) (k' := m) (by omega) (Nat.le_refl _)
    have h2 : (T.h (j + 1)).lo ≤ (T.hp j).lo := by rw [(hs.heavy hw hh).2]; exact Nat.min_le_right _ _
    omega
  have hold : ∀ b i, cut ι (T.h j).next b = some i → (T.h m).lo ≤ b → w0.heap.size ≤ i.B ∨ ∃ b0 i0, ι0 b0 = some i0 ∧ i0.B = i.B ∧ (T.h m).lo ≤ b0 := by
    intro b i hb hl
    have hb' := (cut_some.1 hb).2
    cases h0 : ι0 b with
    | some i0 =>
      have := M.ext b i0 h0
      rw [hb'] at this; cases this
      exact .inr ⟨b, i, h0, rfl, hl⟩
    | none => exact (M.new b i hb' h0).2
  refine ⟨hm, fun b i hb => ?_, M.ext.trans (join_ext N M hlt hj hjD W.ext), fun b i hb h0 => ?_, Nat.le_trans M.wsize W.size, fun B hB hne => ?_, M.out.trans W.out⟩
  · by_cases h : b < (T.h (j + 1)).next
    · rw [join_lt h] at hb
      by_cases hbj : (T.h j).next ≤ b
      · exact .inr ⟨j, by simp, hbj, h⟩
      · cases hc : cut ι (T.h j).next b with
        | none => exact absurd (W.new b i hb hc).1 (by simpa using hbj)
        | some i' =>
          rcases M.dom b i' (cut_some.1 hc).2 with q | ⟨k, q1, q2⟩
          · exact .inl q
          · exact .inr ⟨k, by simp [q1], q2⟩
    · rw [join_ge h] at hb
      rcases M.dom b i hb with q | ⟨k, q1, q2⟩
      · exact .inl q
      · exact .inr ⟨k, by simp [q1], q2⟩
  · by_cases h : b < (T.h (j + 1)).next
    · rw [join_lt h] at hb
      cases hc : cut ι (T.h j).next b with
      | some i' =>
        have := W.ext b i' hc
        rw [hb] at this; cases this
        exact M.new b i (cut_some.1 hc).2 h0
      | none =>
        obtain ⟨q1, q2⟩ := W.new b i hb hc
        have h0j := N.nx (Nat.zero_le j) (by omega)
        refine ⟨Nat.le_trans h0j q1, ?_⟩
        rcases q2 with q2 | ⟨b1, i1, e1, eB, hl⟩
        · exact .inl (Nat.le_trans M.wsize q2)
        · rcases hold b1 i1 e1 (Nat.le_trans hlo hl) with q | ⟨b2, i2, e2, eB2, hl2⟩
          · exact .inl (eB ▸ q)
          · exact .inr ⟨b2, i2, e2, eB2.trans eB, hl2⟩
    · rw [join_ge h] at hb
      exact M.new b i hb h0
  · by_cases h1 : w.heap[B]? = w0.heap[B]?
    · have hne2 : w'.heap[B]? ≠ w.heap[B]? := by rw [h1]; exact hne
      obtain ⟨b, i, hb, eB, hl⟩ := W.kept B (Nat.lt_of_lt_of_le hB M.wsize) hne2
      rcases hold b i hb (Nat.le_trans hlo hl) with q | ⟨b2, i2, e2, eB2, hl2⟩
      · omega
      · exact ⟨b2, i2, e2, eB2.trans eB, hl2⟩
    · exact M.kept B hB h1

theorem Rel.of_eq {ι ι' : Inj} {h : H} {w : World} (r : Rel ι h w) (e : ι' = ι) : Rel ι' h w := by rw [e]; exact r

/-- a heavy operation that changes no memory that was there -/
theorem DMem.heavy (N : NatOk P C ops x T X m ι0 w0) {D : List Nat} {ι ι1 : Inj} {w w' : World} (M : DMem T X m ι0 w0 D ι w) (hlt : ∀ k ∈ D, k < m) {j : Nat} {o : Oper} (hj : j < m) (hjD : j ∉ D) (hjx : j ∉ X) (ho : ops[j]? = some o) (hw : T.w j = true) (hh : isHeavy o.op = true)
    (hadm : Adm X m D j) (W : Went (cut ι (T.h j).next) ((T.h j).withLo big) w ι1 (T.hp j) w') : DMem T X m ι0 w0 (j :: D) (join ι1 ι (T.h (j + 1)).next) w' := by
  obtain ⟨hn1, hg1⟩ := N.raw j o hj ho hw hh
  have hcalm := N.calm j o hj ho hjx hw hh
  have hnj := N.next j hj
  have hsame : ∀ B, B < w.heap.size → w'.heap[B]? = w.heap[B]? := by
    intro B hB
    apply Classical.byContradiction
    intro hne
    obtain ⟨b, i, hb, _, hl⟩ := W.kept B hB hne
    have := (cut_some.1 hb).1
    omega
  have hfresh : ∀ b i, ι1 b = some i → cut ι (T.h j).next b = none → (T.h j).next ≤ b ∧ w.heap.size ≤ i.B := by
    intro b i hb hc
    obtain ⟨q1, q2⟩ := W.new b i hb hc
    refine ⟨q1, ?_⟩
    rcases q2 with q2 | ⟨b0, i0, e0, _, hl⟩
    · exact q2
    · have := (cut_some.1 e0).1
      omega
  refine M.outer N hlt hj hjD ho hw hh W fun k hk => ?_
  have hk0 : Adm X m D k := by
    refine ⟨hk.1, fun y hy => ⟨fun h => (hk.2 y hy).1 (by simp [h]), fun h => (hk.2 y hy).2 ?_⟩⟩
    have : y ≠ j := fun he => hjx (he ▸ hy)
    simp [h, this]
  have Rk := (M.mem k hk0).grown W.size hsame
  have E := join_ext N M hlt hj hjD W.ext
  by_cases hkj : k ≤ j
  · -- a heap before
    have hle := N.nx hkj (by omega)
    refine Rk.of_eq ?_
    funext b
    by_cases hb : b < (T.h k).next
    · unfold cut
      rw [if_pos hb, if_pos hb, join_lt (by omega)]
      cases hi : ι b with
      | some i => exact W.ext b i (cut_some.2 ⟨by omega, hi⟩)
      | none =>
        cases h1 : ι1 b with
        | none => rfl
        | some i =>
          have := (hfresh b i h1 (by unfold cut; rw [if_pos (by omega)]; exact hi)).1
          omega
    · unfold cut; rw [if_neg hb, if_neg hb]
  · -- a heap behind
    have hle := N.nx (k := j + 1) (k' := k) (by omega) hk0.1
    have hkeep : ∀ b, b < (T.h (j + 1)).next → (T.h k).get b = (T.hp j).get b := by
      intro b hb
      rw [← hg1 b]
      refine N.keeps (by omega) hk0.1 (fun y hy => ?_) hb
      by_cases hx : y ∈ D
      · exact .inl (by have := (hadm.2 y hy).1 hx; omega)
      · exact .inr ((hk0.2 y hy).2 hx)
    have R1 := W.rel
    -- where a block comes from
    have cases_ : ∀ b i, cut (join ι1 ι (T.h (j + 1)).next) (T.h k).next b = some i → (b < (T.h (j + 1)).next ∧ ι1 b = some i) ∨ (¬ b < (T.h (j + 1)).next ∧ cut ι (T.h k).next b = some i) := by
      intro b i hb
      obtain ⟨q1, q2⟩ := cut_some.1 hb
      by_cases h : b < (T.h (j + 1)).next
      · rw [join_lt h] at q2; exact .inl ⟨h, q2⟩
      · rw [join_ge h] at q2; exact .inr ⟨h, cut_some.2 ⟨q1, q2⟩⟩
    have E1 : Ext ι1 (cut (join ι1 ι (T.h (j + 1)).next) (T.h k).next) := by
      intro b i hb
      have hlt1 : b < (T.h (j + 1)).next := by rw [hn1]; exact R1.lt hb
      exact cut_some.2 ⟨by omega, by rw [join_lt hlt1]; exact hb⟩
    refine ⟨Rk.cap, fun b i hb => ?_, fun b1 b2 i1 i2 o1 o2 hne h1 h2 hB g1 g2 => ?_, fun b i hb => ?_, fun b i vs esz opn frz pars hb hgt p hp => ?_⟩
    · rcases cases_ b i hb with ⟨hlt1, q⟩ | ⟨hge, q⟩
      · obtain ⟨_, ob, r2, r3⟩ := R1.dom b i q
        exact ⟨by omega, ob, by rw [hkeep b hlt1]; exact r2, r3.mono E1 rfl⟩
      · obtain ⟨r1, ob, r2, r3⟩ := Rk.dom b i q
        exact ⟨r1, ob, r2, r3.mono (cut_mono (Nat.le_refl _) E) rfl⟩
    · -- two blocks in one
      have old_of : ∀ b i, b < (T.h (j + 1)).next → ι1 b = some i → i.B < w.heap.size → cut ι (T.h k).next b = some i := by
        intro b i hb hi hBs
        cases hc : cut ι (T.h j).next b with
        | none => have := (hfresh b i hi hc).2; omega
        | some i' =>
          have := W.ext b i' hc
          rw [hi] at this; cases this
          obtain ⟨c1, c2⟩ := cut_some.1 hc
          exact cut_some.2 ⟨by omega, c2⟩
      have fits_of : ∀ b i, cut ι (T.h k).next b = some i → i.B < w.heap.size := fun b i hb => (M.mem k hk0).fits b i hb
      rcases cases_ b1 i1 h1 with ⟨l1, q1⟩ | ⟨l1, q1⟩
      · rcases cases_ b2 i2 h2 with ⟨l2, q2⟩ | ⟨l2, q2⟩
        · rw [hkeep b1 l1] at g1
          rw [hkeep b2 l2] at g2
          exact R1.sep b1 b2 i1 i2 o1 o2 hne q1 q2 hB g1 g2
        · have := old_of b1 i1 l1 q1 (by rw [hB]; exact fits_of b2 i2 q2)
          exact Rk.sep b1 b2 i1 i2 o1 o2 hne this q2 hB g1 g2
      · rcases cases_ b2 i2 h2 with ⟨l2, q2⟩ | ⟨l2, q2⟩
        · have := old_of b2 i2 l2 q2 (by rw [← hB]; exact fits_of b1 i1 q1)
          exact Rk.sep b1 b2 i1 i2 o1 o2 hne q1 this hB g1 g2
        · exact Rk.sep b1 b2 i1 i2 o1 o2 hne q1 q2 hB g1 g2
    · rcases cases_ b i hb with ⟨_, q⟩ | ⟨_, q⟩
      · exact R1.fits b i q
      · exact Rk.fits b i q
    · rcases cases_ b i hb with ⟨hlt1, q⟩ | ⟨_, q⟩
      · rw [hkeep b hlt1] at hgt
        have := R1.par b i vs esz opn frz pars q hgt p hp
        omega
      · exact Rk.par b i vs esz opn frz pars q hgt p hp

/-- an operation that changes memory -/
theorem DMem.mod (N : NatOk P C ops x T X m ι0 w0) {D : List Nat} {ι ι1 : Inj} {w w' : World} (M : DMem T X m ι0 w0 D ι w) (hlt : ∀ k ∈ D, k < m) {xm : Nat} (hX : xm ∈ X) {o : Oper} (hj : xm < m) (hjD : xm ∉ D) (hmd : ∀ y ∈ X, y ∈ D → y < xm) (ho : ops[xm]? = some o)
    (hlate : ∀ k ∈ D, xm < k → (T.h (k + 1)).next = (T.h k).next) (W : Went (cut ι (T.h xm).next) ((T.h xm).withLo big) w ι1 (T.hp xm) w') : DMem T X m ι0 w0 (xm :: D) (join ι1 ι (T.h (xm + 1)).next) w' := by
  obtain ⟨_, hw, hh0⟩ := N.big xm hX
  have hh := hh0 o ho
  obtain ⟨hn1, hg1⟩ := N.raw xm o hj ho hw hh
  refine M.outer N hlt hj hjD ho hw hh W fun k hk => ?_
  have hkx : xm < k := (hk.2 xm hX).1 (by simp)
  have hle := N.nx (k := xm + 1) (k' := k) (by omega) hk.1
  have hsame : cut (join ι1 ι (T.h (xm + 1)).next) (T.h k).next = ι1 := by
    funext b
    by_cases hb : b < (T.h (xm + 1)).next
    · unfold cut; rw [if_pos (by omega), join_lt hb]
    · have h1 : ι1 b = none := W.rel.none (by rw [hn1] at hb; omega)
      rw [h1]
      unfold cut
      split
      · rw [join_ge hb]
        cases hi : ι b with
        | none => rfl
        | some i =>
          exfalso
          rcases M.dom b i hi with q | ⟨k', q1, q2, q3⟩
          · have := N.nx (k := 0) (k' := xm + 1) (by omega) (by omega); omega
          · by_cases hk' : xm < k'
            · have := hlate k' q1 hk'; omega
            · have hne : k' ≠ xm := fun h => hjD (h ▸ q1)
              have := N.nx (k := k' + 1) (k' := xm + 1) (by omega) (by omega); omega
      · rfl
  obtain ⟨ιn, wn, an, Rn, _⟩ := N.nat k hk.1
  exact (W.rel.later (h' := T.h k) (by omega) Rn.cap fun b hb => by
    rw [← hg1 b]
    refine N.keeps (by omega) hk.1 (fun y hy => ?_) (by omega)
    by_cases hyD : y ∈ D
    · exact .inl (by have := hmd y hy hyD; omega)
    · by_cases hyx : y = xm
      · exact .inl (by omega)
      · exact .inr ((hk.2 y hy).2 (by simp [hyD, hyx]))).of_eq hsame

end
end Go.Sim
end
section
/- Regions that draw their order: the region as a whole. -/
namespace Go.Sim

theorem modOk_spec (ri : RInfo) (i : Nat) (stable : Oper → Bool) : ∀ (l : List Oper) (j0 : Nat), modOk ri.anc ri.tail i stable l j0 = true → ∀ (j : Nat) (o : Oper), l[j]? = some o → j0 + j < ri.tail → j0 + j ≠ i →
    (j0 + j < i → ri.ancB i (j0 + j) = true ∨ (isHeavy o.op = false ∧ (isLook o.op = true → stable o = true))) ∧
    (i < j0 + j → ri.ancB (j0 + j) i = true ∨ (isHeavy o.op = false ∧ isLook o.op = false))
  | [], j0, _, j, o, h, _, _ => by simp at h
  | q :: l, j0, h, j, o, hj, hlt, hne => by
    have h' : sel (Nat.blt j0 ri.tail)
      (sel (Nat.beq j0 i) (modOk ri.anc ri.tail i stable l (j0 + 1))
        (sel (Nat.blt j0 i)
          (sel (ri.ancB i j0) (modOk ri.anc ri.tail i stable l (j0 + 1)) (sel (isHeavy q.op) false (sel (isLook q.op) (sel (stable q) (modOk ri.anc ri.tail i stable l (j0 + 1)) false) (modOk ri.anc ri.tail i stable l (j0 + 1)))))
          (sel (ri.ancB j0 i) (modOk ri.anc ri.tail i stable l (j0 + 1)) (sel (isHeavy q.op || isLook q.op) false (modOk ri.anc ri.tail i stable l (j0 + 1)))))) true = true := h
    rw [natBlt, sel_eq, if_pos (by simp; omega)] at h'
    cases j with
    | zero =>
      have hq : q = o := by simpa using hj
      subst hq
      simp only [Nat.add_zero] at hne hlt ⊢
      rw [natBeq, sel_eq, if_neg (by simpa using hne), natBlt, sel_eq] at h'
      split at h'
      · rename_i hl
        have hl' : j0 < i := by simpa using hl
        refine ⟨fun _ => ?_, fun hh => absurd hh (by omega)⟩
        cases ha : ri.ancB i j0 with
        | true => exact .inl rfl
        | false =>
          rw [ha, sel_false] at h'
          cases hh : isHeavy q.op with
          | true => rw [hh, sel_true] at h'; cases h'
          | false =>
            rw [hh, sel_false] at h'
            refine .inr ⟨rfl, fun hk => ?_⟩
            rw [hk, sel_true] at h'
            cases hs : stable q with
            | true => rfl
            | false => rw [hs, sel_false] at h'; cases h'
      · rename_i hl
        have hl' : ¬ j0 < i := by simpa using hl
        refine ⟨fun hh => absurd hh hl', fun _ => ?_⟩
        cases ha : ri.ancB j0 i with
        | true => exact .inl rfl
        | false =>
          rw [ha, sel_false] at h'
          cases hh : (isHeavy q.op || isLook q.op) with
          | true => rw [hh, sel_true] at h'; cases h'
          | false => exact .inr (by simpa using hh)
    | succ j =>
      have hrec : modOk ri.anc ri.tail i stable l (j0 + 1) = true := by
        simp only [sel_eq] at h'
        split at h'
        · exact h'
        · split at h'
          · split at h'
            · exact h'
            · split at h'
              · cases h'
              · split at h'
                · split at h'
                  · exact h'
                  · cases h'
                · exact h'
          · split at h'
            · exact h'
            · split at h'
              · cases h'
              · exact h'
      have := modOk_spec ri i stable l (j0 + 1) hrec j o (by simpa using hj) (by omega) (by omega)
      rw [show j0 + (j + 1) = j0 + 1 + j by omega]
      exact this

section
variable {P : Program} {C : Ctx} {g : G} {ops : Array Oper} {x : FX} {T : Tr} {X : List Nat} {m : Nat} {ι0 : Inj} {w0 : World} {a0 : Act} {ri : RInfo}

theorem evF_congr {e e' : Env} {l : List Operand} (h : ∀ t, t ∈ tmpsOf l → t < 256 → e'.get t = e.get t) {a : Operand} (ha : a ∈ l) : (evF a).run e' = (evF a).run e := by
  cases a with
  | tmp t =>
    show (sel (Nat.blt t 256) (⟨(getE 4 t).run⟩ : EvF) ⟨fun _ => none⟩).run e' = (sel (Nat.blt t 256) (⟨(getE 4 t).run⟩ : EvF) ⟨fun _ => none⟩).run e
    rw [natBlt, sel_eq]
    split
    · rename_i ht
      exact h t (mem_tmpsOf.2 ha) (by simpa using ht)
    · rfl
  | const v => rfl
  | global gl =>
    show (sel (Nat.blt gl ngl) (⟨fun _ => some (.ptr (some (gl, 0)))⟩ : EvF) ⟨fun _ => none⟩).run e' = (sel (Nat.blt gl ngl) (⟨fun _ => some (.ptr (some (gl, 0)))⟩ : EvF) ⟨fun _ => none⟩).run e
    rw [natBlt, sel_eq]
    split <;> rfl
  | func f => rfl

theorem wantF_congr {all : List Oper} {gd : Option (Nat × Bool)} {e e' : Env} (h : ∀ t, t ∈ guardSlots all gd → t < 256 → e'.get t = e.get t) : (wantF all gd).run e' = (wantF all gd).run e := by
  cases gd with
  | none => rfl
  | some p =>
    obtain ⟨j, want⟩ := p
    have h' : ∀ t, t ∈ oe (slotOf all j) [] (fun s => [s]) → t < 256 → e'.get t = e.get t := h
    show (oe (slotOf all j) (⟨fun _ => none⟩ : WF) (fun s => ⟨fun e => ob ((evF (.tmp s)).run e) (yields want)⟩)).run e' = (oe (slotOf all j) (⟨fun _ => none⟩ : WF) (fun s => ⟨fun e => ob ((evF (.tmp s)).run e) (yields want)⟩)).run e
    cases hs : slotOf all j with
    | none => rfl
    | some s =>
      rw [hs, oe_some] at h'
      rw [oe_some]
      show ob ((evF (.tmp s)).run e') (yields want) = ob ((evF (.tmp s)).run e) (yields want)
      rw [evF_congr (l := [.tmp s]) (fun t ht hl => h' t (by rw [mem_tmpsOf] at ht; simpa using ht) hl) (by simp)]

theorem isL_of_stable {e : Env} {h h' : H} {op : Op} (hs : stableLoad C e h h' op = true) : isL op = true := by
  cases op with
  | load t a => rfl
  | call c =>
    simp only [stableLoad] at hs
    split at hs
    · rename_i a hc has; simp [isL, hc]
    · cases hs
  | _ => cases hs

/-- what such a look names stays as it is -/
theorem late_env (R : RIOk ops.toList ri) (N : NatOk P C ops x T X m ι0 w0) {j : Nat} {o : Oper} (ho : ops[j]? = some o) (hl : isLook o.op = true)
    (hown : oe o.dst true (fun d => !memN d (namesA ops.toList o)) = true) {t : Nat} (htn : t ∈ namesA ops.toList o) (ht : t < 256) : ∀ k, j ≤ k → k ≤ m → (T.e k).get t = (T.e j).get t := by
  have n256 := N.n256
  have hdst : ∀ t, t ∈ namesA ops.toList o → o.dst ≠ some t := by
    intro t ht hd
    rw [hd, oe_some, memN_eq] at hown
    simp [ht] at hown
  intro k
  induction k with
  | zero => intro h1 _; have : j = 0 := by omega
            subst this; rfl
  | succ k ih =>
    intro h1 h2
    by_cases hk : j = k + 1
    · subst hk; rfl
    · rw [← ih (by omega) (by omega)]
      have hok := Array.getElem?_eq_getElem (xs := ops) (i := k) (by have := N.len; omega)
      have sk := N.step k _ (by omega) hok
      rcases sk.env with ⟨_, q2⟩ | ⟨d, q1, q2, q3⟩
      · rw [q2]
      · rw [q3, Env.get_set _ t d _ ht (Nat.lt_of_lt_of_le q2 n256), if_neg]
        rintro rfl
        by_cases hkj : k = j
        · subst hkj
          rw [ho] at hok; cases hok
          exact hdst t htn q1
        · exact spoils_n (R.compat k j _ o (toL hok) (toL ho) (by omega)).1 q1 hl htn

theorem late_opn (R : RIOk ops.toList ri) (N : NatOk P C ops x T X m ι0 w0) {j : Nat} {o : Oper} (ho : ops[j]? = some o) (hl : isLook o.op = true)
    (hown : oe o.dst true (fun d => !memN d (namesA ops.toList o)) = true) {k : Nat} (h1 : j ≤ k) (h2 : k ≤ m) {a : Operand} (ha : a ∈ o.op.operands.toList) : (evF a).run (T.e k) = (evF a).run (T.e j) :=
  evF_congr (fun t ht hlt => late_env R N ho hl hown (names_ops ht) hlt k h1 h2) ha

/-- a look before operations that change memory, taken behind them -/
theorem late_look (R : RIOk ops.toList ri) (N : NatOk P C ops x T X m ι0 w0) {j : Nat} {o : Oper} (hjm : j < m) (ho : ops[j]? = some o) (hw : T.w j = true) (hh : isHeavy o.op = false) (hl : isLook o.op = true)
    (hown : oe o.dst true (fun d => !memN d (namesA ops.toList o)) = true) (hisL : isL o.op = true) : ∀ k, j ≤ k → k ≤ m → (∀ y ∈ X, j < y → y < k → stableA C ops.toList (T.e y) (T.h y) (T.hp y) o = true) → lookV C (T.e j) (T.h k) o.op = some (T.v j) := by
  have hs := N.step j o hjm ho
  obtain ⟨_, L⟩ := hs.light hw hh
  have hv := L.val hisL
  obtain ⟨ιn, wn, an, Rn, gn, Fn, _⟩ := N.nat j (by omega)
  have hb : ∀ a ∈ o.op.operands.toList, ∀ b off, (evF a).run (T.e j) = some (.ptr (some (b, off))) → b < (T.h j).next := by
    intro a ha b off hev
    obtain ⟨i, hi, _⟩ := ren_ptr (ev_ren gn (Fn.slots (tmpsOf o.op.operands.toList)) (x := a) (fun t ht => mem_tmpsOf.2 (ht ▸ ha)) hev)
    exact Rn.lt hi
  have hr : ∀ a ∈ o.op.operands.toList, ∀ r, (evF a).run (T.e j) = some (.map (some r)) → r < (T.h j).next := by
    intro a ha r hev
    have h1 := ev_ren gn (Fn.slots (tmpsOf o.op.operands.toList)) (x := a) (fun t ht => mem_tmpsOf.2 (ht ▸ ha)) hev
    simp only [ren] at h1
    cases hi : ιn r with
    | none => rw [hi] at h1; simp at h1
    | some i => exact Rn.lt hi
  intro k
  induction k with
  | zero => intro h1 _ _; have : j = 0 := by omega
            subst this; exact hv
  | succ k ih =>
    intro h1 h2 hst
    by_cases hk : j = k + 1
    · subst hk; exact hv
    · have hprev := ih (by omega) (by omega) fun y hy q1 q2 => hst y hy q1 (by omega)
      have hnx := N.nx (k := j) (k' := k) (by omega) (by omega)
      by_cases hX : k ∈ X
      · have hjk : j < k := by
          rcases Nat.lt_or_ge j k with q | q
          · exact q
          · have : j = k := by omega
            subst this
            have := (N.big j hX).2.2 o ho
            rw [hh] at this; cases this
        have hstk := hst k hX hjk (by omega)
        have hok := Array.getElem?_eq_getElem (xs := ops) (i := k) (by have := N.len; omega)
        obtain ⟨_, hbw, hbh⟩ := N.big k hX
        have hopn : ∀ a ∈ o.op.operands.toList, (evF a).run (T.e k) = (evF a).run (T.e j) := fun a ha => late_opn R N ho hl hown (by omega) (by omega) ha
        unfold stableA at hstk
        rw [Bool.and_eq_true] at hstk
        obtain ⟨_, hstk⟩ := hstk
        rw [wantF_congr (e := T.e j) (fun t ht hlt => late_env R N ho hl hown (names_guard ht) hlt k (by omega) (by omega)), hs.want, oe_some, hw, sel_true] at hstk
        have h1 := lookV_same hprev hopn (fun _ _ _ _ _ => rfl) (fun _ _ _ _ => rfl)
        have h2 := stable_val hstk h1
        have hraw := (N.raw k _ (by omega) hok hbw (hbh _ hok)).2
        exact lookV_same h2 (fun a ha => (hopn a ha).symm) (fun _ _ b _ _ => hraw b) (fun _ _ r _ => hraw r)
      · exact lookV_same hprev (fun _ _ => rfl) (fun a ha b off hev => N.keep k (by omega) hX b (by have := hb a ha b off hev; omega)) (fun a ha r hev => N.keep k (by omega) hX r (by have := hr a ha r hev; omega))

/-- the last of some operations that is done -/
theorem last_done (D : List Nat) : ∀ (X : List Nat), (∃ y ∈ X, y ∈ D) → ∃ y ∈ X, y ∈ D ∧ ∀ z ∈ X, z ∈ D → z ≤ y
  | [], h => by obtain ⟨y, hy, _⟩ := h; cases hy
  | a :: X, h => by
    by_cases hX : ∃ y ∈ X, y ∈ D
    · obtain ⟨y, h1, h2, h3⟩ := last_done D X hX
      by_cases haD : a ∈ D
      · by_cases hle : a ≤ y
        · exact ⟨y, by simp [h1], h2, fun z hz hzD => by
            rcases List.mem_cons.1 hz with rfl | hz
            · exact hle
            · exact h3 z hz hzD⟩
        · exact ⟨a, by simp, haD, fun z hz hzD => by
            rcases List.mem_cons.1 hz with rfl | hz
            · exact Nat.le_refl _
            · have := h3 z hz hzD; omega⟩
      · exact ⟨y, by simp [h1], h2, fun z hz hzD => by
          rcases List.mem_cons.1 hz with rfl | hz
          · exact absurd hzD haD
          · exact h3 z hz hzD⟩
    · obtain ⟨y, hy, hyD⟩ := h
      rcases List.mem_cons.1 hy with rfl | hy
      · exact ⟨y, by simp, hyD, fun z hz hzD => by
          rcases List.mem_cons.1 hz with rfl | hz
          · exact Nat.le_refl _
          · exact absurd ⟨z, hz, hzD⟩ hX⟩
      · exact absurd ⟨y, hy, hyD⟩ hX

theorem cut_glob (N : NatOk P C ops x T X m ι0 w0) {ι : Inj} (hg : Glob ι0) (h0 : ∀ b i, ι0 b = some i → b < (T.h 0).next) (he : Ext ι0 ι) {k : Nat} (hk : k ≤ m) : Glob (cut ι (T.h k).next) := by
  intro gl hgl
  obtain ⟨i, q1, q2⟩ := hg gl hgl
  have := N.nx (Nat.zero_le k) hk
  have := h0 gl i q1
  exact ⟨i, cut_some.2 ⟨by omega, he gl i q1⟩, q2⟩

/-- what is known of the operations that change memory -/
def ModF (C : Ctx) (ops : Array Oper) (T : Tr) (X : List Nat) (m : Nat) (ri : RInfo) : Prop := ∀ y ∈ X, ∀ (j : Nat) (o : Oper), ops[j]? = some o → j < m → j ≠ y →
    (j < y → ri.ancB y j = true ∨ (isHeavy o.op = false ∧ (isLook o.op = true → stableA C ops.toList (T.e y) (T.h y) (T.hp y) o = true))) ∧
    (y < j → ri.ancB j y = true ∨ (isHeavy o.op = false ∧ isLook o.op = false))

/-- one operation, in whatever order -/
theorem draw_step (K : COk C P) (R : RIOk ops.toList ri) (N : NatOk P C ops x T X m ι0 w0) (XM : ModF C ops T X m ri) (hg : Glob ι0) (h0 : ∀ b i, ι0 b = some i → b < (T.h 0).next)
    {D : List Nat} {ι : Inj} {w : World} {a : Act} (A : DSet ri m D) (S : DSlots ops x T a0 D ι a) (M : DMem T X m ι0 w0 D ι w) {j : Nat} {o : Oper} (hj : j < m) (hjD : j ∉ D) (ho : ops[j]? = some o) (hanc : ∀ i, ri.ancB j i = true → i ∈ D)
    (b : Frame) (rest : List Nat) (Kk : List Item) (cs : List Frame) :
    ∃ ι' w' vc, DSlots ops x T a0 (j :: D) ι' (a.put o.dst vc) ∧ DMem T X m ι0 w0 (j :: D) ι' w' ∧
      Steps P (lone (b.atR a (.inRegion ops (j :: rest) :: Kk)) cs w) (lone (b.atR (a.put o.dst vc) (.inRegion ops rest :: Kk)) cs w') := by
  have hs := N.step j o hj ho
  have hsl := slots_j R N S A hj hjD ho hanc
  have hso : SlotsRel (cut ι (T.h j).next) (T.e j) a (tmpsOf o.op.operands.toList) := hsl.sub fun t ht => names_ops ht
  have hwant := wanted_s hs.want (hsl.sub fun t ht => names_guard ht)
  have hgl := cut_glob N hg h0 M.ext (k := j) (by omega)
  have hns := R.sel j o (toL ho)
  have hd : ∀ c, o.op ≠ .defer c := fun c hc => by rw [hc] at hns; cases hns
  have hnj := N.next j hj
  -- where it stands to the operations that change memory
  have hbig : T.w j = true → isHeavy o.op = true → Adm X m D j := by
    intro hw hh
    refine ⟨by omega, fun y hy => ⟨fun hx => ?_, fun hx => ?_⟩⟩
    · have hne : j ≠ y := fun h => hjD (h ▸ hx)
      apply Classical.byContradiction
      intro hle
      rcases (XM y hy j o ho hj hne).1 (by omega) with q | ⟨q, _⟩
      · exact hjD (A.clos y hx j q)
      · rw [hh] at q; cases q
    · apply Classical.byContradiction
      intro hle
      rcases (XM y hy j o ho hj (by omega)).2 (by omega) with q | ⟨q, _⟩
      · exact hx (hanc y q)
      · rw [hh] at q; cases q
  have hxj : j ∈ X → T.w j = true ∧ isHeavy o.op = true := by
    intro hjX
    obtain ⟨_, q1, q2⟩ := N.big j hjX
    exact ⟨q1, q2 o ho⟩
  cases hw : T.w j with
  | false =>
    rw [hw] at hwant
    have hne : j ∉ X := fun h => by have := (hxj h).1; rw [hw] at this; cases this
    refine ⟨ι, w, undef, S.put R N A hj hjD ho (Ext.refl ι) (by rw [(hs.off hw).1]; simp [ren]), M.same hne, .one ?_⟩
    have := stepR_op_skip (P := P) (b := b) (a := a) (k := Kk) (cs := cs) (w := w) (ops := ops) (i := j) (rest := rest) (by rw [ho]; simpa using hwant)
    rw [ho] at this
    exact this
  | true =>
    rw [hw] at hwant
    have hok : (⟨b, ops, j, rest, Kk, cs⟩ : At).ok o a := ⟨ho, hwant⟩
    cases hh : isHeavy o.op with
    | false =>
      have hne : j ∉ X := fun h => by have := (hxj h).2; rw [hh] at this; cases this
      obtain ⟨_, L⟩ := hs.light hw hh
      have key : ∃ vc, ren ι (T.v j) = some vc ∧ (execOp a.eval o).run P w = .ok (.value vc) w := by
        cases hl : isLook o.op with
        | false =>
          obtain ⟨vc, q1, q2⟩ := L.pure hl (cut ι (T.h j).next) w a.eval (evs_of hgl hso)
          exact ⟨vc, ren_ext (cut_ext _ _) _ q1, q2⟩
        | true =>
          by_cases hadm : Adm X m D j
          · obtain ⟨vc, q1, q2⟩ := L.look (cut ι (T.h j).next) w a.eval (M.mem j hadm) (evs_of hgl hso)
            exact ⟨vc, ren_ext (cut_ext _ _) _ q1, q2⟩
          · -- behind the changes
            have hlater : ∃ y ∈ X, y ∈ D ∧ j < y := by
              apply Classical.byContradiction
              intro hno
              apply hadm
              refine ⟨by omega, fun y hy => ⟨fun hx => ?_, fun hx => ?_⟩⟩
              · have hne' : j ≠ y := fun h => hjD (h ▸ hx)
                apply Classical.byContradiction
                intro hle
                exact hno ⟨y, hy, hx, by omega⟩
              · apply Classical.byContradiction
                intro hle
                rcases (XM y hy j o ho hj (by omega)).2 (by omega) with q | ⟨_, q⟩
                · exact hx (hanc y q)
                · rw [hl] at q; cases q
            obtain ⟨y0, hy0X, hy0D, hjy0⟩ := hlater
            obtain ⟨xm, hxX, hxD, hmax⟩ := last_done D X ⟨y0, hy0X, hy0D⟩
            have hxm := A.lt xm hxD
            have hjx : j < xm := Nat.lt_of_lt_of_le hjy0 (hmax y0 hy0X hy0D)
            have hadm1 : Adm X m D (xm + 1) := by
              refine ⟨by omega, fun y hy => ⟨fun hx => by have := hmax y hy hx; omega, fun hx => ?_⟩⟩
              apply Classical.byContradiction
              intro hle
              have hne' : y ≠ xm := fun h => hx (h ▸ hxD)
              obtain ⟨hym, _, hyh⟩ := N.big y hy
              have hoy := Array.getElem?_eq_getElem (xs := ops) (i := y) (by have := N.len; omega)
              rcases (XM xm hxX y _ hoy hym hne').1 (by omega) with q | ⟨q, _⟩
              · exact hx (A.clos xm hxD y q)
              · rw [hyh _ hoy] at q; cases q
            have hst : ∀ y ∈ X, j < y → y < xm + 1 → stableA C ops.toList (T.e y) (T.h y) (T.hp y) o = true := by
              intro y hy h1 h2
              have hyD : y ∈ D := by
                apply Classical.byContradiction
                intro hx
                have := (hadm1.2 y hy).2 hx
                omega
              rcases (XM y hy j o ho hj (by omega)).1 h1 with q | ⟨_, q⟩
              · exact absurd (A.clos y hyD j q) hjD
              · exact q hl
            have hst0 := hst xm hxX hjx (by omega)
            have hown : oe o.dst true (fun d => !memN d (namesA ops.toList o)) = true := by
              unfold stableA at hst0
              rw [Bool.and_eq_true] at hst0
              exact hst0.1
            have hisL : isL o.op = true := by
              unfold stableA at hst0
              rw [Bool.and_eq_true] at hst0
              obtain ⟨_, q⟩ := hst0
              rw [wantF_congr (e := T.e j) (fun t ht hlt => late_env R N ho hl hown (names_guard ht) hlt xm (by omega) (by omega)), hs.want, oe_some, hw, sel_true] at q
              exact isL_of_stable q
            have hV := late_look R N hj ho hw hh hl hown hisL (xm + 1) (by omega) (by omega) hst
            have L1 := look_of_lookV K hV
            have hE : Evs (cut ι (T.h (xm + 1)).next) (T.e j) a.eval o.op.operands.toList := by
              intro y hy u hu
              have hle := N.nx (k := j) (k' := xm + 1) (by omega) (by omega)
              exact ren_ext (cut_mono hle (Ext.refl ι)) _ (evs_of hgl hso y hy u hu)
            obtain ⟨vc, q1, q2⟩ := L1 (cut ι (T.h (xm + 1)).next) w a.eval (M.mem _ hadm1) hE
            exact ⟨vc, ren_ext (cut_ext _ _) _ q1, q2⟩
      obtain ⟨vc, q1, q2⟩ := key
      exact ⟨ι, w, vc, S.put R N A hj hjD ho (Ext.refl ι) q1, M.same hne, goes_value hok hd q2⟩
    | true =>
      obtain ⟨V, _⟩ := hs.heavy hw hh
      have hadm := hbig hw hh
      by_cases hne : j ∈ X
      · obtain ⟨ι1, w', vc, W, q1, q2⟩ := V _ w a ((M.mem j hadm).relo big) hgl hso _ hok
        have hlate : ∀ k ∈ D, j < k → (T.h (k + 1)).next = (T.h k).next := by
          intro k hk hjk
          have hkm := A.lt k hk
          have hok := Array.getElem?_eq_getElem (xs := ops) (i := k) (by have := N.len; omega)
          have sk := N.step k _ hkm hok
          rcases (XM j hne k _ hok hkm (by omega)).2 hjk with q | ⟨q, _⟩
          · exact absurd (A.clos k hk j q) hjD
          · cases hwk : T.w k with
            | false => obtain ⟨_, l, _, e1⟩ := sk.off hwk; rw [e1]; rfl
            | true => rw [(sk.light hwk q).1]
        have hmd : ∀ y ∈ X, y ∈ D → y < j := fun y hy hyD => (hadm.2 y hy).1 hyD
        have M' := M.mod N A.lt hne hj hjD hmd ho hlate W
        have hvn : ren (join ι1 ι (T.h (j + 1)).next) (T.v j) = some vc := by
          have hE : Ext ι1 (join ι1 ι (T.h (j + 1)).next) := by
            intro b' i hb'
            have := (N.raw j o hj ho hw hh).1
            rw [join_lt (by rw [this]; exact W.rel.lt hb')]; exact hb'
          exact ren_ext hE _ q1
        exact ⟨_, w', vc, S.put R N A hj hjD ho (join_ext N M A.lt hj hjD W.ext) hvn, M', q2⟩
      · obtain ⟨ι1, w', vc, W, q1, q2⟩ := V _ w a ((M.mem j hadm).relo big) hgl hso _ hok
        have M' := M.heavy N A.lt hj hjD hne ho hw hh hadm W
        have hvn : ren (join ι1 ι (T.h (j + 1)).next) (T.v j) = some vc := by
          have hE : Ext ι1 (join ι1 ι (T.h (j + 1)).next) := by
            intro b' i hb'
            have := (N.raw j o hj ho hw hh).1
            rw [join_lt (by rw [this]; exact W.rel.lt hb')]; exact hb'
          exact ren_ext hE _ q1
        exact ⟨_, w', vc, S.put R N A hj hjD ho (join_ext N M A.lt hj hjD W.ext) hvn, M', q2⟩

/-- all of them -/
theorem draw_loop (K : COk C P) (R : RIOk ops.toList ri) (N : NatOk P C ops x T X m ι0 w0) (XM : ModF C ops T X m ri) (hg : Glob ι0) (h0 : ∀ b i, ι0 b = some i → b < (T.h 0).next) (tl : List Nat) (b : Frame) (Kk : List Item) (cs : List Frame)
    (full : List Nat) (hnd : full.Nodup) (hmem : ∀ i, i ∈ full ↔ i < m) (hah : Ahead ri full) : ∀ (L pre D : List Nat) (ι : Inj) (w : World) (a : Act), full = pre ++ L → (∀ i, i ∈ D ↔ i ∈ pre) → DSet ri m D → DSlots ops x T a0 D ι a → DMem T X m ι0 w0 D ι w →
    ∃ D' ι' w' a', (∀ i, i ∈ D' ↔ i < m) ∧ DSlots ops x T a0 D' ι' a' ∧ DMem T X m ι0 w0 D' ι' w' ∧ Steps P (lone (b.atR a (.inRegion ops (L ++ tl) :: Kk)) cs w) (lone (b.atR a' (.inRegion ops tl :: Kk)) cs w')
  | [], pre, D, ι, w, a, hf, hD, A, S, M => by
    refine ⟨D, ι, w, a, fun i => ?_, S, M, Steps.refl _ _⟩
    rw [hD, ← hmem, hf]; simp
  | j :: L, pre, D, ι, w, a, hf, hD, A, S, M => by
    have hjf : j ∈ full := by rw [hf]; simp
    have hj := (hmem j).1 hjf
    have ho := Array.getElem?_eq_getElem (xs := ops) (i := j) (by have := N.len; omega)
    have hjp : j ∉ pre := by
      intro h
      rw [hf, List.nodup_append] at hnd
      exact hnd.2.2 j h j (by simp) rfl
    have hjD : j ∉ D := fun h => hjp ((hD j).1 h)
    have hanc : ∀ i, ri.ancB j i = true → i ∈ D := fun i hi => (hD i).2 (hah pre j L hf i hi)
    obtain ⟨ι', w', vc, S', M', st⟩ := draw_step K R N XM hg h0 A S M hj hjD ho hanc b (L ++ tl) Kk cs
    have A' : DSet ri m (j :: D) := by
      refine ⟨fun k hk => ?_, fun k hk i hi => ?_⟩
      · rcases List.mem_cons.1 hk with rfl | hk
        · exact hj
        · exact A.lt k hk
      · rcases List.mem_cons.1 hk with rfl | hk
        · exact List.mem_cons_of_mem _ (hanc i hi)
        · exact List.mem_cons_of_mem _ (A.clos k hk i hi)
    obtain ⟨D', ι2, w2, a2, q1, q2, q3, q4⟩ := draw_loop K R N XM hg h0 tl b Kk cs full hnd hmem hah L (pre ++ [j]) (j :: D) ι' w' _ (by rw [hf]; simp) (fun i => by simp [hD, or_comm]) A' S' M'
    exact ⟨D', ι2, w2, a2, q1, q2, q3, Steps.trans st q4⟩

theorem EnvRel.size {ι : Inj} {n : Nat} {e : Env} {t : Array Value} (F : EnvRel ι n e t) : t.size = n := F.1

/-- A REGION THAT DRAWS ITS ORDER. -/
theorem regionD_s (K : COk C P) (hG : GSim P g) (hmix : P.follows .mixedOrders = true) {e : Env} {h : H} (id : Nat) (ops : Array Oper) :
    CodeSim P (.region id ops true) x e h ((oe (rinfo ops.toList) (⟨fun _ _ _ _ => .bad⟩ : CF) (fun ri => runM C ops.toList ri ops.toList 0)).run g x e h) := CodeSim.mk' fun ex x' e' h' hr => by
  intro ι w b a k cs r hg F
  cases hri : rinfo ops.toList with
  | none => rw [hri] at hr; cases hr
  | some ri =>
    rw [hri, oe_some] at hr
    have hr : (runM C ops.toList ri ops.toList 0).run g x e h = .mk ex x' e' h' := hr
    have R := rinfo_ok hri
    obtain ⟨T, X, t⟩ := trace_of (x := x) (ri := ri) (all := ops.toList) K hG R.sel ops.toList 0 e h rfl (Nat.zero_le _) (by rw [hr]; simp)
    have hlen : ops.toList.length = ops.size := by simp
    have hm : min ri.tail ops.toList.length = ri.tail := by have := R.len; omega
    rw [hm] at t
    have hts : ri.tail ≤ ops.size := by have := R.len; omega
    let w0 : World := { w with drawn := w.drawn + 1 }
    have r0 : Rel ι h w0 := r.heap rfl
    have N := nat_ok hts t r0 hg F.env
    have XM : ModF C ops T X ri.tail ri := by
      intro y hy j o ho hj hne
      have := modOk_spec ri y _ ops.toList 0 (t.xmod y hy) j o (toL ho) (by omega) (by omega)
      simpa using this
    have S := sched_ok (ops := ops) (fun k o ho e he hb => R.back k o (toL ho) e he hb) (w.tape w.drawn (.order b.fn id))
    have Ah := ahead_of R S
    obtain ⟨L1, hL, hnd, hmem, hah⟩ := split_tail (m := ri.tail) (ops.size - ri.tail) _ S.nodup (fun i => by rw [S.mem]; omega) Ah (fun k i h1 h2 h3 => R.full k i h1 (by omega) h3)
    have h0 : ∀ b' i, ι b' = some i → b' < (T.h 0).next := fun b' i hb => by rw [t.h0]; exact r0.lt hb
    have hcut : ∀ k, k ≤ ri.tail → cut ι (T.h k).next = ι := fun k hk => cut_all fun b' i hb => by have := h0 b' i hb; have := N.nx (Nat.zero_le k) hk; omega
    have S0 : DSlots ops x T a [] ι a := ⟨fun tt u ht hu _ => by rw [t.e0] at hu; exact F.env.2.2 tt u ht hu, fun k o hk => by simp at hk, F.env.1, rfl⟩
    have M0 : DMem T X ri.tail ι w0 [] ι w0 := by
      refine ⟨fun k hk => ?_, fun b' i hb => .inl (h0 b' i hb), Ext.refl ι, fun b' i h1 h2 => (by rw [h1] at h2; cases h2), Nat.le_refl _, fun B hB hne => absurd rfl hne, SameOut.refl w0⟩
      rw [hcut k hk.1]
      obtain ⟨ιn, wn, an, Rn, _⟩ := N.nat k hk.1
      refine r0.later (h' := T.h k) ?_ Rn.cap fun b' hb => ?_
      · have := N.nx (Nat.zero_le k) hk.1; rw [t.h0] at this; exact this
      · have := N.keeps (b := b') (Nat.zero_le k) hk.1 (fun y hy => .inr ((hk.2 y hy).2 (by simp))) (by rw [t.h0]; exact hb)
        rw [t.h0] at this; exact this
    obtain ⟨D', ι', w', a', q1, q2, q3, q4⟩ := draw_loop K R N XM hg h0 (List.range' ri.tail (ops.size - ri.tail)) b k cs L1 hnd hmem hah L1 [] [] ι w0 a rfl (fun i => Iff.rfl) ⟨fun k hk => by simp at hk, fun k hk => by simp at hk⟩ S0 M0
    -- the state behind the first part
    have hadm : Adm X ri.tail D' ri.tail := ⟨Nat.le_refl _, fun y hy => ⟨fun hx => (q1 y).1 hx, fun hx => by
      apply Classical.byContradiction
      intro hq
      exact hx ((q1 y).2 (by omega))⟩⟩
    obtain ⟨ιn, wn, an, Rn, gn, Fn, Wn⟩ := N.nat ri.tail (Nat.le_refl _)
    have hnx := N.nx (Nat.zero_le ri.tail) (Nat.le_refl _)
    have W : Went ι h w (cut ι' (T.h ri.tail).next) (T.h ri.tail) w' := by
      refine Went.heap (w2 := w0) rfl ⟨rfl, rfl, rfl⟩ ⟨fun b' i hb => cut_some.2 ⟨by have := h0 b' i hb; omega, q3.ext b' i hb⟩, by rw [t.h0] at hnx; exact hnx, by have := Wn.lo; rw [t.h0] at this; exact this, fun b' hb hl => ?_, fun b' i hb hn => ?_, q3.wsize, q3.kept, q3.mem _ hadm, q3.out⟩
      · have := Wn.old b' (by rw [t.h0]; exact hb) hl
        rw [t.h0] at this; exact this
      · have := q3.new b' i (cut_some.1 hb).2 hn
        rw [t.h0] at this; exact this
    have E' : EnvRel (cut ι' (T.h ri.tail).next) x.s.n (T.e ri.tail) a'.tmps := by
      refine ⟨q2.size, F.env.2.1, fun tt u ht hu => ?_⟩
      obtain ⟨un, hun, _⟩ := Fn.2.2 tt u ht hu
      have fin : (∃ uc, ren ι' u = some uc ∧ a'.tmps[tt]? = some uc) → ∃ uc, ren (cut ι' (T.h ri.tail).next) u = some uc ∧ a'.tmps[tt]? = some uc :=
        fun ⟨uc, p1, p2⟩ => ⟨uc, ren_cut (fun b' i hb => Rn.lt hb) u p1 (by rw [hun]; simp), p2⟩
      apply fin
      rcases env_at N ht ri.tail (Nat.le_refl _) with ⟨j, o, p1, p2, p3, p4⟩ | ⟨p1, p2⟩
      · rw [p4] at hu; cases hu
        exact q2.s1 j o ((q1 j).2 p1) p2 tt p3
      · rw [p2] at hu
        exact q2.s0 tt u ht hu fun k' o hk ho => p1 k' o ((q1 k').1 hk) ho
    have F' : FrRel (cut ι' (T.h ri.tail).next) x (T.e ri.tail) b a' cs := ⟨F.fn, F.rnd.ext W.ext, E', by rw [q2.defers]; exact F.ds.ext W.ext, F.rc.ext W.ext⟩
    -- the rest
    have Q := runOps_s (g := g) K hG (ops := ops) (ops.toList.drop ri.tail) ri.tail x (T.e ri.tail) (T.h ri.tail) rfl
    rw [← t.run, hr] at Q
    obtain ⟨ι2, w2, a2, cs2, W2, F2, L2, S2, A2⟩ := Q _ w' b a' k cs W.rel (hg.ext W.ext) F'
    refine ⟨ι2, w2, a2, cs2, W.trans W2, F2, L2, S2, Arr.steps (.head stepR_region_draw ?_) A2⟩
    have hsch : Region.schedule (P.follows .mixedOrders) ops (w.tape w.drawn (.order b.fn id)) = L1 ++ List.range' ri.tail (ops.size - ri.tail) := by
      unfold Region.schedule
      rw [hmix, Bool.true_or, if_pos rfl]; exact hL
    rw [hsch]
    rw [show (ops.toList.drop ri.tail).length = ops.size - ri.tail by simp]
    exact q4

end
end Go.Sim
end
