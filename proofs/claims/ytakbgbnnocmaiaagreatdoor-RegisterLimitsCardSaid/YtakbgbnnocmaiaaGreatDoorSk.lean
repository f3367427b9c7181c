/- Loops over maps. -/
import Derived.Test.YtakbgbnnocmaiaaGreatDoorSj
import Derived.Maps.RangeRun
set_option linter.all false
section
namespace Go.Sim
open Go.ChangeMaps (setBlock)

/-! ### Trees -/

theorem Tree.get_leaf {α : Type} (n : Nat) : (Tree.leaf : Tree α).get n = none := rfl
theorem Tree.get_node {α : Type} (l : Tree α) (v : Option α) (r : Tree α) (n : Nat) : (Tree.node l v r).get n = if n = 0 then v else if n % 2 = 1 then l.get (n / 2) else r.get (n / 2 - 1) := by
  show sel (Nat.beq n 0) v (sel (Nat.beq (Nat.mod n 2) 1) (l.get (Nat.div n 2)) (r.get (Nat.sub (Nat.div n 2) 1))) = _
  rw [natBeq, natBeq, sel_eq, sel_eq]
  simp only [decide_eq_true_eq]; rfl

theorem Tree.single_zero {α : Type} (x : Option α) (n : Nat) : Tree.single x 0 n = .leaf := rfl
theorem Tree.single_succ {α : Type} (x : Option α) (f n : Nat) : Tree.single x (f + 1) n = if n = 0 then .node .leaf x .leaf else if n % 2 = 1 then .node (Tree.single x f (n / 2)) none .leaf else .node .leaf none (Tree.single x f (n / 2 - 1)) := by
  show sel (Nat.beq n 0) _ (sel (Nat.beq (Nat.mod n 2) 1) _ _) = _
  rw [natBeq, natBeq, sel_eq, sel_eq]
  simp only [decide_eq_true_eq]; rfl

theorem Tree.single_get {α : Type} (x : Option α) : ∀ (f n : Nat), n + 2 ≤ 2 ^ f → ∀ m, (Tree.single x f n).get m = if m = n then x else none
  | 0, n, h, m => by simp at h
  | f + 1, n, h, m => by
    rw [Tree.single_succ]
    have hp : 2 ^ (f + 1) = 2 * 2 ^ f := by rw [Nat.pow_succ]; omega
    by_cases h0 : n = 0
    · subst h0
      rw [if_pos rfl, Tree.get_node]
      by_cases hm : m = 0
      · rw [if_pos hm, if_pos hm]
      · rw [if_neg hm, if_neg hm]; simp [Tree.get_leaf]
    · rw [if_neg h0]
      by_cases h1 : n % 2 = 1
      · rw [if_pos h1, Tree.get_node]
        by_cases hm : m = 0
        · rw [if_pos hm, if_neg (by omega)]
        · rw [if_neg hm]
          by_cases hm1 : m % 2 = 1
          · rw [if_pos hm1, Tree.single_get x f (n / 2) (by omega)]
            by_cases q : m = n
            · rw [if_pos q, if_pos (by omega)]
            · rw [if_neg q, if_neg (by omega)]
          · rw [if_neg hm1, if_neg (by omega)]; rfl
      · rw [if_neg h1, Tree.get_node]
        by_cases hm : m = 0
        · rw [if_pos hm, if_neg (by omega)]
        · rw [if_neg hm]
          by_cases hm1 : m % 2 = 1
          · rw [if_pos hm1, if_neg (by omega)]; rfl
          · rw [if_neg hm1, Tree.single_get x f (n / 2 - 1) (by omega)]
            by_cases q : m = n
            · rw [if_pos q, if_pos (by omega)]
            · rw [if_neg q, if_neg (by omega)]

theorem Tree.put_leaf {α : Type} (x : Option α) (n : Nat) : Tree.put x .leaf n = Tree.single x 40 n := rfl
theorem Tree.put_node {α : Type} (x : Option α) (l : Tree α) (v : Option α) (r : Tree α) (n : Nat) : Tree.put x (.node l v r) n = if n = 0 then .node l x r else if n % 2 = 1 then .node (Tree.put x l (n / 2)) v r else .node l v (Tree.put x r (n / 2 - 1)) := by
  show sel (Nat.beq n 0) _ (sel (Nat.beq (Nat.mod n 2) 1) _ _) = _
  rw [natBeq, natBeq, sel_eq, sel_eq]
  simp only [decide_eq_true_eq]; rfl

theorem Tree.put_get {α : Type} (x : Option α) : ∀ (t : Tree α) (n : Nat), n < 2 ^ 30 → ∀ m, (Tree.put x t n).get m = if m = n then x else t.get m
  | .leaf, n, h, m => by
    rw [Tree.put_leaf, Tree.single_get x 40 n (by omega)]; rfl
  | .node l v r, n, h, m => by
    rw [Tree.put_node]
    by_cases h0 : n = 0
    · subst h0
      rw [if_pos rfl, Tree.get_node, Tree.get_node]
      by_cases hm : m = 0
      · rw [if_pos hm, if_pos hm]
      · rw [if_neg hm, if_neg hm, if_neg hm]
    · rw [if_neg h0]
      by_cases h1 : n % 2 = 1
      · rw [if_pos h1, Tree.get_node, Tree.get_node]
        by_cases hm : m = 0
        · rw [if_pos hm, if_neg (by omega), if_pos hm]
        · rw [if_neg hm, if_neg hm]
          by_cases hm1 : m % 2 = 1
          · rw [if_pos hm1, if_pos hm1, Tree.put_get x l (n / 2) (by omega)]
            by_cases q : m = n
            · rw [if_pos q, if_pos (by omega)]
            · rw [if_neg q, if_neg (by omega)]
          · rw [if_neg hm1, if_neg hm1, if_neg (by omega)]
      · rw [if_neg h1, Tree.get_node, Tree.get_node]
        by_cases hm : m = 0
        · rw [if_pos hm, if_neg (by omega), if_pos hm]
        · rw [if_neg hm, if_neg hm]
          by_cases hm1 : m % 2 = 1
          · rw [if_pos hm1, if_pos hm1, if_neg (by omega)]
          · rw [if_neg hm1, if_neg hm1, Tree.put_get x r (n / 2 - 1) (by omega)]
            by_cases q : m = n
            · rw [if_pos q, if_pos (by omega)]
            · rw [if_neg q, if_neg (by omega)]

/-! ### The ways through a map -/

theorem mapRow_nil (step : AVal × AVal → Option (List AVal)) (s i : Nat) (st : Tree (List AVal)) : mapRow step s [] i st = some st := rfl
theorem mapRow_cons (step : AVal × AVal → Option (List AVal)) (s : Nat) (kv : AVal × AVal) (l : List (AVal × AVal)) (i : Nat) (st : Tree (List AVal)) : mapRow step s (kv :: l) i st =
    sel (Nat.testBit s i) (mapRow step s l (i + 1) st)
      (ob (step kv) (fun vals' => oe (st.get (s ||| 2 ^ i)) (mapRow step s l (i + 1) (st.set vals' (s ||| 2 ^ i)))
        (fun old => sel (eqFlats old vals') (mapRow step s l (i + 1) st) none))) := rfl

theorem or_bit_lt {s i : Nat} (hs : s < 2 ^ 8) (hi : i < 8) : s ||| 2 ^ i < 2 ^ 8 := Nat.or_lt_two_pow hs (Nat.pow_lt_pow_right (by decide) hi)

theorem mapRow_spec (step : AVal × AVal → Option (List AVal)) (s : Nat) (hs : s < 2 ^ 8) : ∀ (l : List (AVal × AVal)) (i : Nat) (st st' : Tree (List AVal)), i + l.length ≤ 8 → mapRow step s l i st = some st' →
    (∀ k v, st.get k = some v → st'.get k = some v) ∧ ∀ (j : Nat) kv, l[j]? = some kv → s.testBit (i + j) = false → ∃ v', step kv = some v' ∧ st'.get (s ||| 2 ^ (i + j)) = some v'
  | [], i, st, st', _, h => by
    rw [mapRow_nil] at h; cases h
    exact ⟨fun _ _ h => h, fun j kv h => by simp at h⟩
  | kv :: l, i, st, st', hl, h => by
    rw [mapRow_cons] at h
    simp only [List.length_cons] at hl
    cases hb : Nat.testBit s i with
    | true =>
      rw [hb, sel_true] at h
      obtain ⟨h1, h2⟩ := mapRow_spec step s hs l (i + 1) st st' (by omega) h
      refine ⟨h1, fun j kv' hj hbj => ?_⟩
      cases j with
      | zero => rw [Nat.add_zero, hb] at hbj; cases hbj
      | succ j =>
        have := h2 j kv' (by simpa using hj) (by rw [show i + 1 + j = i + (j + 1) by omega]; exact hbj)
        rw [show i + 1 + j = i + (j + 1) by omega] at this; exact this
    | false =>
      rw [hb, sel_false] at h
      obtain ⟨vals', hv, h⟩ := ob_eq.1 h
      have hlt : s ||| 2 ^ i < 2 ^ 30 := Nat.lt_of_lt_of_le (or_bit_lt hs (by omega)) (by decide)
      cases hg : st.get (s ||| 2 ^ i) with
      | none =>
        rw [hg, oe_none] at h
        obtain ⟨h1, h2⟩ := mapRow_spec step s hs l (i + 1) _ st' (by omega) h
        have hset : ∀ k, (st.set vals' (s ||| 2 ^ i)).get k = if k = s ||| 2 ^ i then some vals' else st.get k := fun k => Tree.put_get (some vals') st _ hlt k
        refine ⟨fun k v hk => h1 k v ?_, fun j kv' hj hbj => ?_⟩
        · rw [hset, if_neg]
          · exact hk
          · rintro rfl; rw [hg] at hk; cases hk
        · cases j with
          | zero =>
            have : kv = kv' := by simpa using hj
            subst this
            exact ⟨vals', hv, h1 _ _ (by rw [hset, Nat.add_zero, if_pos rfl])⟩
          | succ j =>
            have := h2 j kv' (by simpa using hj) (by rw [show i + 1 + j = i + (j + 1) by omega]; exact hbj)
            rw [show i + 1 + j = i + (j + 1) by omega] at this; exact this
      | some old =>
        rw [hg, oe_some, sel_eq] at h
        split at h
        · rename_i heq
          have := eqFlats_true heq
          subst this
          obtain ⟨h1, h2⟩ := mapRow_spec step s hs l (i + 1) st st' (by omega) h
          refine ⟨h1, fun j kv' hj hbj => ?_⟩
          cases j with
          | zero =>
            have : kv = kv' := by simpa using hj
            subst this
            exact ⟨old, hv, h1 _ _ hg⟩
          | succ j =>
            have := h2 j kv' (by simpa using hj) (by rw [show i + 1 + j = i + (j + 1) by omega]; exact hbj)
            rw [show i + 1 + j = i + (j + 1) by omega] at this; exact this
        · cases h

theorem mapRows_zero (step : List AVal → AVal × AVal → Option (List AVal)) (es : List (AVal × AVal)) (s : Nat) (st : Tree (List AVal)) : mapRows step es 0 s st = some st := rfl
theorem mapRows_succ (step : List AVal → AVal × AVal → Option (List AVal)) (es : List (AVal × AVal)) (k s : Nat) (st : Tree (List AVal)) : mapRows step es (k + 1) s st =
    ob (st.get s) (fun vals => ob (mapRow (step vals) s es 0 st) (fun st => mapRows step es k (s + 1) st)) := rfl

theorem mapRows_spec (step : List AVal → AVal × AVal → Option (List AVal)) (es : List (AVal × AVal)) (hn : es.length ≤ 8) : ∀ (k s : Nat) (st st' : Tree (List AVal)), s + k ≤ 2 ^ 8 → mapRows step es k s st = some st' →
    (∀ i v, st.get i = some v → st'.get i = some v) ∧ ∀ s', s ≤ s' → s' < s + k → ∃ vals, st'.get s' = some vals ∧ ∀ (j : Nat) kv, es[j]? = some kv → s'.testBit j = false → ∃ v', step vals kv = some v' ∧ st'.get (s' ||| 2 ^ j) = some v'
  | 0, s, st, st', _, h => by
    rw [mapRows_zero] at h; cases h
    exact ⟨fun _ _ h => h, fun s' h1 h2 => absurd h2 (by omega)⟩
  | k + 1, s, st, st', hk, h => by
    rw [mapRows_succ] at h
    obtain ⟨vals, hg, h⟩ := ob_eq.1 h
    obtain ⟨st1, hr, h⟩ := ob_eq.1 h
    obtain ⟨a1, a2⟩ := mapRow_spec (step vals) s (by omega) es 0 st st1 (by omega) hr
    obtain ⟨b1, b2⟩ := mapRows_spec step es hn k (s + 1) st1 st' (by omega) h
    refine ⟨fun i v hi => b1 i v (a1 i v hi), fun s' h1 h2 => ?_⟩
    by_cases hs : s' = s
    · subst hs
      refine ⟨vals, b1 _ _ (a1 _ _ hg), fun j kv hj hb => ?_⟩
      obtain ⟨v', q1, q2⟩ := a2 j kv hj (by rw [Nat.zero_add]; exact hb)
      rw [Nat.zero_add] at q2
      exact ⟨v', q1, b1 _ _ q2⟩
    · exact b2 s' (by omega) (by omega)

/-! ### Slots -/

theorem setAll_nil (vs : List AVal) (e : Env) : setAll [] vs e = e := rfl

theorem getAll_nil (e : Env) : getAll e [] = some [] := rfl
theorem getAll_cons (e : Env) (s : Nat) (l : List Nat) : getAll e (s :: l) = ob (e.get s) (fun v => ob (getAll e l) (fun q => some (v :: q))) := rfl

theorem setAll_get {e2 : Env} : ∀ (acc : List Nat) (vals : List AVal) (e : Env), (∀ s ∈ acc, s < 256) → getAll e2 acc = some vals → ∀ t, t < 256 → (setAll acc vals e).get t = if t ∈ acc then e2.get t else e.get t
  | [], vals, e, _, h, t, ht => by rw [setAll_nil]; simp
  | p :: ps, vals, e, hlt, h, t, ht => by
    rw [getAll_cons] at h
    obtain ⟨v, h1, h⟩ := ob_eq.1 h
    obtain ⟨q, h2, h⟩ := ob_eq.1 h
    cases h
    rw [setAll_cons, setAll_get ps q _ (fun s hs => hlt s (by simp [hs])) h2 t ht]
    by_cases hp : t ∈ ps
    · rw [if_pos hp, if_pos (by simp [hp])]
    · rw [if_neg hp, Env.get_set e t p v ht (hlt p (by simp))]
      by_cases q : t = p
      · subst q; rw [if_pos rfl, if_pos (by simp), h1]
      · rw [if_neg q, if_neg (by simp [q, hp])]

theorem delAll_nil (e : Env) : delAll e [] = e := rfl
theorem delAll_cons (e : Env) (s : Nat) (l : List Nat) : delAll e (s :: l) = delAll (e.del s) l := rfl

theorem delAll_get : ∀ (l : List Nat) (e : Env), (∀ s ∈ l, s < 256) → ∀ t, t < 256 → (delAll e l).get t = if t ∈ l then none else e.get t
  | [], e, _, t, ht => by rw [delAll_nil]; simp
  | p :: ps, e, hlt, t, ht => by
    rw [delAll_cons, delAll_get ps _ (fun s hs => hlt s (by simp [hs])) t ht, Env.get_del e t p ht (hlt p (by simp))]
    by_cases q : t ∈ ps
    · rw [if_pos q, if_pos (by simp [q])]
    · rw [if_neg q]
      by_cases hp : t = p
      · rw [if_pos hp, if_pos (by simp [hp])]
      · rw [if_neg hp, if_neg (by simp [q, hp])]

theorem accOf_nil (e : Env) : accOf e [] = [] := rfl
theorem accOf_cons (e : Env) (s : Nat) (r : List Nat) : accOf e (s :: r) = oe (e.get s) (accOf e r) (fun _ => sel (memN s r) (accOf e r) (s :: accOf e r)) := rfl

theorem accOf_sub (e : Env) : ∀ (l : List Nat) (t : Nat), t ∈ accOf e l → t ∈ l
  | [], t, h => by rw [accOf_nil] at h; simp at h
  | s :: r, t, h => by
    rw [accOf_cons] at h
    cases hs : e.get s with
    | none => rw [hs, oe_none] at h; simp [accOf_sub e r t h]
    | some v =>
      rw [hs, oe_some, sel_eq] at h
      split at h
      · simp [accOf_sub e r t h]
      · rcases List.mem_cons.1 h with rfl | h
        · simp
        · simp [accOf_sub e r t h]

theorem allLt_spec (n : Nat) : ∀ (l : List Nat), allLt n l = true → ∀ s ∈ l, s < n
  | [], _, s, h => by simp at h
  | a :: l, h, s, hs => by
    rw [allLt_cons, Bool.and_eq_true] at h
    rcases List.mem_cons.1 hs with rfl | hs
    · simpa using h.1
    · exact allLt_spec n l h.2 s hs

/-! ### The loop's shape -/

structure MLOk (id : Nat) (b : Code) (ml : ML) : Prop where
  shape : ∃ i1 r1 i2 r2 o1 o2, b = .loop (.seq (.region i1 r1 false) (.seq (.cond (.tmp ml.c) .skip (.exit id)) (.block ml.id1 (.seq (.region i2 r2 false) ml.rest)))) ∧ r1 = #[o1, o2] ∧ r2.toList = ml.e0 :: ml.es ∧
    o1.dst = some ml.n ∧ o1.op = .next (.tmp ml.it) false ∧ o1.guard = none ∧ o2.dst = some ml.c ∧ o2.op = .extract (.tmp ml.n) 0 ∧ o2.guard = none
  e1 : ml.e0.dst = some ml.e
  e2 : ml.e0.op = .entry (.tmp ml.it)
  e3 : ml.e0.guard = none
  nc : ml.n ≠ ml.c

theorem mapLoop_ok {id : Nat} {b : Code} {ml : ML} (h : mapLoop? id b = some ml) : MLOk id b ml := by
  unfold mapLoop? at h
  split at h
  · rename_i i1 r1 c' id' id1 i2 r2 rest
    rw [sel_eq] at h
    split at h
    · rename_i hid
      have hid : id = id' := by simpa using hid
      subst hid
      unfold mlOps at h
      split at h
      · rename_i n it c n' e0 es h1 h2
        split at h
        · rename_i ee it' hd ho hg
          rw [sel_eq] at h
          split at h
          · rename_i hc
            cases h
            simp at hc
            obtain ⟨⟨⟨⟨⟨c1, c2⟩, c3⟩, c4⟩, c5⟩, c6⟩ := hc
            subst c1 c2 c3
            have h1' := congrArg List.toArray h1
            rw [Array.toArray_toList] at h1'
            exact ⟨⟨i1, r1, i2, r2, _, _, rfl, h1', h2, rfl, rfl, rfl, rfl, rfl, rfl⟩, hd, ho, hg, c6⟩
          · cases h
        · cases h
      · cases h
    · cases h
  · cases h

end Go.Sim
end
section
/- Loops over maps: the rounds. -/
namespace Go.Sim
open Go.ChangeMaps (setBlock)

/-- the world, changed in a block that no live abstract block lies in -/
theorem Rel.poke {ι : Inj} {h : H} {w w1 : World} {B0 : Nat} (r : Rel ι h w) (hd : ∀ b i o, ι b = some i → i.B = B0 → h.get b = some o → o = .dead) (hs : w1.heap.size = w.heap.size) (hk : ∀ B, B ≠ B0 → w1.heap[B]? = w.heap[B]?) : Rel ι h w1 := by
  refine ⟨r.cap, fun b i hb => ?_, r.sep, fun b i hb => by rw [hs]; exact r.fits b i hb, r.par⟩
  obtain ⟨q1, o, q2, q3⟩ := r.dom b i hb
  refine ⟨q1, o, q2, ?_⟩
  by_cases hB : i.B = B0
  · have := hd b i o hb hB q2
    subst this; trivial
  · exact q3.mono (Ext.refl ι) (hk _ hB)

section
variable {P : Program} {C : Ctx} {g : G} {ml : ML} {id : Nat}

theorem tmps_put {a : Act} {d t : Nat} {v : Value} : (a.put (some d) v).tmps[t]? = if d = t then (if t < a.tmps.size then some v else none) else a.tmps[t]? := by
  show (a.tmps.setIfInBounds d v)[t]? = _
  rw [Array.getElem?_setIfInBounds]
  split
  · rename_i h; subst h; rfl
  · rfl

theorem size_put {a : Act} {d : Nat} {v : Value} : (a.put (some d) v).tmps.size = a.tmps.size := by
  show (a.tmps.setIfInBounds d v).size = _
  rw [Array.size_setIfInBounds]

theorem eval_tmp {a : Act} {t : Nat} {v : Value} (h : a.tmps[t]? = some v) : a.eval (.tmp t) = v := by
  simp only [Act.eval, Array.getD_eq_getD_getElem?, h, Option.getD_some]

theorem wanted_none {o : Oper} {f : Nat → Option Bool} (h : o.guard = none) : Region.wanted o f = true := by
  unfold Region.wanted; rw [h]

/-- an iteration's beginning: the step, and whether there is an entry -/
theorem head_m {o1 o2 : Oper} {i1 : Nat} {rest1 : Code} (h1 : o1.dst = some ml.n) (h2 : o1.op = .next (.tmp ml.it) false) (h3 : o1.guard = none) (h4 : o2.dst = some ml.c) (h5 : o2.op = .extract (.tmp ml.n) 0) (h6 : o2.guard = none)
    {bf : Frame} {a : Act} {k : List Item} {cs : List Frame} {w w1 : World} {B : Nat} (hit : a.tmps[ml.it]? = some (.pointer (some ⟨B, 0, none⟩))) (hn : ml.n < a.tmps.size) {vs : Array Value} {t : Bool}
    (hrun : ∀ ty, (Instr.next (.pointer (some ⟨B, 0, none⟩)) false ty).run P w = .ok (.tuple vs) w1) (hv : vs[0]? = some (.bool t)) :
    Steps P (lone (bf.atR a (.code (.seq (.region i1 #[o1, o2] false) rest1) :: k)) cs w) (lone (bf.atR ((a.put (some ml.n) (.tuple vs)).put (some ml.c) (.bool t)) (.code rest1 :: k)) cs w1) := by
  refine .head stepR_seq (.head stepR_region ?_)
  have hrange : List.range (#[o1, o2] : Array Oper).size = [0, 1] := by simp [List.range_succ]
  rw [hrange]
  have hT1 : (⟨bf, #[o1, o2], 0, [1], .code rest1 :: k, cs⟩ : At).ok o1 a := ⟨rfl, wanted_none h3⟩
  have g1 := goes_value (P := P) (w := w) (w' := w1) (v := .tuple vs) hT1 (by simp [h2]) (by simp [execOp, h2, eval_tmp hit, hrun])
  simp only [Goes, At.frame, At.next, h1] at g1
  have hT2 : (⟨bf, #[o1, o2], 1, [], .code rest1 :: k, cs⟩ : At).ok o2 (a.put (some ml.n) (.tuple vs)) := ⟨rfl, wanted_none h6⟩
  have hev : (a.put (some ml.n) (.tuple vs)).eval (.tmp ml.n) = .tuple vs := eval_tmp (by rw [tmps_put, if_pos rfl, if_pos hn])
  have g2 := goes_value (P := P) (w := w1) (w' := w1) (v := .bool t) hT2 (by simp [h5]) (by simp [execOp, h5, hev, Instr.extract, hv])
  simp only [Goes, At.frame, At.next, h4] at g2
  exact Steps.trans g1 (Steps.trans g2 (.one stepR_region_end))

/-- what stays the same while a loop over a map runs -/
structure MCtx (P : Program) (C : Ctx) (g : G) (id : Nat) (body : Code) (ml : ML) (s : FS) (env : Env) (h : H) (ι : Inj) (bi : Nat) (i : BI) (es : List (AVal × AVal)) (es' : Array MapEntry) (clock jB : Nat) (w : List Nat) (acc : List Nat) : Prop where
  O : MLOk id (.loop body) ml
  R : CFSim P g ml.rest (comp C ml.rest)
  k : Keeps g (comp C ml.rest) w
  n256 : s.n ≤ 256
  lt : ∀ t ∈ mlWs ml w, t < s.n
  it : ml.it ∉ mlWs ml w
  acc : ∀ t ∈ acc, t ∈ mlWs ml w
  itv : env.get ml.it = some (.ptr (some (bi, 0)))
  bi : ι bi = some i
  base : i.base = 0
  dead : ∀ b i' o, ι b = some i' → i'.B = i.B → h.get b = some o → o = .dead
  mr : MapRel ι es clock es' clock
  jne : jB ≠ i.B
  glob : Glob ι
  itlt : ml.it < 256

/-- the state at the beginning of an iteration -/
structure MState (ml : ML) (s : FS) (env : Env) (h : H) (ι : Inj) (i : BI) (es' : Array MapEntry) (clock jB : Nat) (w : List Nat) (acc : List Nat) (w0 : World) (vals : List AVal) (done : List Nat) (bf : Frame) (cs : List Frame) (a : Act) (W : World) : Prop where
  rel : Rel ι h W
  got : ∃ e2, getAll e2 acc = some vals
  fr : FrRel ι ⟨s, [], .nrm⟩ (setAll acc vals (delAll env (mlWs ml w))) bf a cs
  iter : ∃ seen c0, W.heap[i.B]? = some (.mapIter (some jB) clock seen c0) ∧ clock ≤ c0 ∧ ∀ x, x ∈ seen ↔ ∃ k ∈ done, ∃ e, es'[k]? = some e ∧ e.born = x
  map : W.heap[jB]? = some (.map es' clock)
  same : ∀ B, B < w0.heap.size → B ≠ i.B → W.heap[B]? = w0.heap[B]?
  size : w0.heap.size ≤ W.heap.size
  out : SameOut w0 W

variable {body : Code} {s : FS} {env : Env} {h : H} {ι : Inj} {bi : Nat} {i : BI} {es : List (AVal × AVal)} {es' : Array MapEntry} {clock jB : Nat} {w : List Nat} {acc : List Nat} {w0 : World} {vals : List AVal} {done : List Nat} {bf : Frame} {cs : List Frame} {a : Act} {W : World}

theorem MState.itv (X : MCtx P C g id body ml s env h ι bi i es es' clock jB w acc) (S : MState ml s env h ι i es' clock jB w acc w0 vals done bf cs a W) : a.tmps[ml.it]? = some (.pointer (some ⟨i.B, 0, none⟩)) := by
  obtain ⟨e2, he2⟩ := S.got
  have hacc : ∀ t ∈ acc, t < 256 := fun t ht => Nat.lt_of_lt_of_le (X.lt t (X.acc t ht)) X.n256
  have hws : ∀ t ∈ mlWs ml w, t < 256 := fun t ht => Nat.lt_of_lt_of_le (X.lt t ht) X.n256
  have hget : (setAll acc vals (delAll env (mlWs ml w))).get ml.it = some (.ptr (some (bi, 0))) := by
    rw [setAll_get acc vals _ hacc he2 ml.it X.itlt, if_neg (fun h => X.it (X.acc _ h)), delAll_get _ _ hws _ X.itlt, if_neg X.it, X.itv]
  obtain ⟨vc, h1, h2⟩ := S.fr.env.2.2 ml.it _ X.itlt hget
  have h1' : ren ι (.ptr (some (bi, 0))) = some vc := h1
  obtain ⟨i', q1, q2⟩ := ren_ptr h1'
  rw [X.bi] at q1; cases q1
  rw [h2, q2, X.base]

theorem born_lt (X : MCtx P C g id body ml s env h ι bi i es es' clock jB w acc) : ∀ x ∈ es'.toList, x.born < clock := X.mr.born

theorem born_inj (X : MCtx P C g id body ml s env h ι bi i es es' clock jB w acc) {k k' : Nat} {e e' : MapEntry} (h1 : es'[k]? = some e) (h2 : es'[k']? = some e') (hb : e.born = e'.born) : k = k' := by
  have hn := X.mr.nodup
  have l1 : (es'.toList.map (·.born))[k]? = some e.born := by rw [List.getElem?_map, Array.getElem?_toList, h1]; rfl
  have l2 : (es'.toList.map (·.born))[k']? = some e.born := by rw [List.getElem?_map, Array.getElem?_toList, h2, hb]; rfl
  have hk : k < (es'.toList.map (·.born)).length := (List.getElem?_eq_some_iff.1 l1).1
  exact (List.getElem?_inj hk hn).1 (l1.trans l2.symm)

theorem roundOk_cases {id1 : Nat} {ex : Ex} (h : roundOk id1 ex = true) : ex = .normal ∨ ex = .exit id1 := by
  unfold roundOk at h
  split at h
  · exact .inl rfl
  · rename_i j; simp at h; subst h; exact .inr rfl
  · cases h

theorem mapStep2_some {next : Nat} {r : XR} {v : List AVal} (hh : mapStep2 ml acc next r = some v) : ∃ ex s1 e2 h2, r = .mk ex ⟨s1, [], .nrm⟩ e2 h2 ∧ roundOk ml.id1 ex = true ∧ h2.next = next ∧ next ≤ h2.lo ∧ getAll e2 acc = some v := by
  unfold mapStep2 at hh
  split at hh
  · rename_i ex s1 e2 h2
    rw [sel_eq] at hh
    split at hh
    · rename_i hc
      simp at hc
      exact ⟨ex, s1, e2, h2, rfl, hc.1.1, hc.1.2.symm, hc.2, hh⟩
    · cases hh
  · cases hh

/-- the slots of an iteration's state -/
theorem cur_get (X : MCtx P C g id body ml s env h ι bi i es es' clock jB w acc) {e2 : Env} (he2 : getAll e2 acc = some vals) {t : Nat} (ht : t < 256) : (setAll acc vals (delAll env (mlWs ml w))).get t = if t ∈ acc then e2.get t else if t ∈ mlWs ml w then none else env.get t := by
  have hacc : ∀ t ∈ acc, t < 256 := fun t ht => Nat.lt_of_lt_of_le (X.lt t (X.acc t ht)) X.n256
  have hws : ∀ t ∈ mlWs ml w, t < 256 := fun t ht => Nat.lt_of_lt_of_le (X.lt t ht) X.n256
  rw [setAll_get acc vals _ hacc he2 t ht, delAll_get _ _ hws t ht]

theorem ws_n : ml.n ∈ mlWs ml w := by simp [mlWs]
theorem ws_c : ml.c ∈ mlWs ml w := by simp [mlWs]
theorem ws_e : ml.e ∈ mlWs ml w := by simp [mlWs]
theorem ws_es {t : Nat} (h : t ∈ dstsOf ml.es) : t ∈ mlWs ml w := by simp [mlWs, app_eq, h]
theorem ws_w {t : Nat} (h : t ∈ w) : t ∈ mlWs ml w := by simp [mlWs, app_eq, h]

/-- one round of a loop over a map -/
theorem round_m (K : COk C P) (hG : GSim P g) (X : MCtx P C g id body ml s env h ι bi i es es' clock jB w acc) (S : MState ml s env h ι i es' clock jB w acc w0 vals done bf cs a W) (kk : List Item)
    {k : Nat} {kv : AVal × AVal} {e : MapEntry} {vals' : List AVal} (hkv : es[k]? = some kv) (hek : es'[k]? = some e) (hstep : mapStep C (comp C ml.rest) g ml acc s (delAll env (mlWs ml w)) h kv vals = some vals')
    {w1 : World} (hw1 : w1.heap = W.heap) (hw1o : SameOut W w1) {seen : Array Nat} {c0 : Nat} (hit : W.heap[i.B]? = some (.mapIter (some jB) clock seen c0)) (hseen : ∀ x, x ∈ seen ↔ ∃ k ∈ done, ∃ e, es'[k]? = some e ∧ e.born = x)
    (hrun : ∀ ty, (Instr.next (.pointer (some ⟨i.B, 0, none⟩)) false ty).run P W = .ok (.tuple #[.bool true, e.key, e.val]) (setBlock w1 i.B (.mapIter (some jB) clock (seen.push e.born) clock))) :
    ∃ a' W', MState ml s env h ι i es' clock jB w acc w0 vals' (k :: done) bf cs a' W' ∧
      Steps P (lone (bf.atR a (.code body :: .inLoop body :: .inBlock id :: kk)) cs W) (lone (bf.atR a' (.code body :: .inLoop body :: .inBlock id :: kk)) cs W') := by
  obtain ⟨i1, r1, i2, r2, o1, o2, hb, hr1, hr2, p1, p2, p3, p4, p5, p6⟩ := X.O.shape
  simp only [Code.loop.injEq] at hb
  have hsz := S.fr.env.1
  have hsz' : a.tmps.size = s.n := hsz
  have nlt := X.lt ml.n ws_n
  have clt := X.lt ml.c ws_c
  have elt := X.lt ml.e ws_e
  have hrp := X.mr.rel k kv e hkv hek
  -- the step
  have H1 := head_m (ml := ml) (P := P) (bf := bf) (a := a) (k := .inLoop body :: .inBlock id :: kk) (cs := cs) (i1 := i1) (rest1 := .seq (.cond (.tmp ml.c) .skip (.exit id)) (.block ml.id1 (.seq (.region i2 r2 false) ml.rest))) p1 p2 p3 p4 p5 p6 (S.itv X) (by omega) (t := true) hrun rfl
  rw [← hr1, ← hb] at H1
  -- the world behind it
  have hB : i.B < W.heap.size := S.rel.fits bi i X.bi
  have heap2 : (setBlock w1 i.B (.mapIter (some jB) clock (seen.push e.born) clock)).heap = W.heap.setIfInBounds i.B (.mapIter (some jB) clock (seen.push e.born) clock) := by
    show w1.heap.setIfInBounds _ _ = _
    rw [hw1]
  have out2 : SameOut W (setBlock w1 i.B (.mapIter (some jB) clock (seen.push e.born) clock)) := ⟨hw1o.1, hw1o.2.1, hw1o.2.2⟩
  generalize hW2 : setBlock w1 i.B (.mapIter (some jB) clock (seen.push e.born) clock) = W2 at H1 heap2 out2
  have it2 : W2.heap[i.B]? = some (.mapIter (some jB) clock (seen.push e.born) clock) := by rw [heap2, Array.getElem?_setIfInBounds, if_pos rfl, if_pos hB]
  have oth2 : ∀ B, B ≠ i.B → W2.heap[B]? = W.heap[B]? := fun B hne => by rw [heap2, Array.getElem?_setIfInBounds, if_neg (Ne.symm hne)]
  have size2 : W2.heap.size = W.heap.size := by rw [heap2, Array.size_setIfInBounds]
  have map2 : W2.heap[jB]? = some (.map es' clock) := by rw [oth2 jB X.jne]; exact S.map
  have rel2 : Rel ι h W2 := S.rel.poke X.dead size2 oth2
  -- the slots
  have F1 : FrRel ι ⟨s, [], .nrm⟩ ((setAll acc vals (delAll env (mlWs ml w))).set ml.n (.tup [.bool true, kv.1, kv.2])) bf (a.put (some ml.n) (.tuple #[.bool true, e.key, e.val])) cs :=
    S.fr.put nlt (by simp [ren, renL, hrp.1, hrp.2])
  have F2 : FrRel ι ⟨s, [], .nrm⟩ (((setAll acc vals (delAll env (mlWs ml w))).set ml.n (.tup [.bool true, kv.1, kv.2])).set ml.c (.bool true)) bf ((a.put (some ml.n) (.tuple #[.bool true, e.key, e.val])).put (some ml.c) (.bool true)) cs :=
    F1.put clt (by simp [ren])
  generalize ha2 : (a.put (some ml.n) (.tuple #[.bool true, e.key, e.val])).put (some ml.c) (.bool true) = a2 at H1 F2
  have hc2 : a2.eval (.tmp ml.c) = .bool true := eval_tmp (by rw [← ha2, tmps_put, if_pos rfl, if_pos (by rw [size_put]; omega)])
  have hne_n : ml.it ≠ ml.n := fun h => X.it (h ▸ ws_n)
  have hne_c : ml.it ≠ ml.c := fun h => X.it (h ▸ ws_c)
  have it_a2 : a2.tmps[ml.it]? = some (.pointer (some ⟨i.B, 0, none⟩)) := by
    rw [← ha2, tmps_put, if_neg (Ne.symm hne_c), tmps_put, if_neg (Ne.symm hne_n)]; exact S.itv X
  -- the condition, the block, the entry
  have F3 : FrRel ι ⟨s, [], .nrm⟩ (mapEnv ml acc (delAll env (mlWs ml w)) kv vals) bf (a2.put (some ml.e) (.tuple #[e.key, e.val])) cs :=
    F2.put elt (by simp [ren, renL, hrp.1, hrp.2])
  have hr2s : r2[0]? = some ml.e0 := by rw [← Array.getElem?_toList, hr2]; rfl
  have hlen2 : r2.size = ml.es.length + 1 := by rw [← Array.length_toList, hr2]; simp
  have hrange : List.range r2.size = 0 :: List.range' 1 ml.es.length := by
    rw [hlen2, List.range_eq_range', List.range'_succ]
  have H2 : Steps P (lone (bf.atR a2 (.code (.seq (.cond (.tmp ml.c) .skip (.exit id)) (.block ml.id1 (.seq (.region i2 r2 false) ml.rest))) :: .inLoop body :: .inBlock id :: kk)) cs W2)
      (lone (bf.atR (a2.put (some ml.e) (.tuple #[e.key, e.val])) (.inRegion r2 (List.range' 1 ml.es.length) :: .code ml.rest :: .inBlock ml.id1 :: .inLoop body :: .inBlock id :: kk)) cs W2) := by
    have sk : step P (lone (bf.atR a2 (.code (if true = true then .skip else .exit id) :: .code (.block ml.id1 (.seq (.region i2 r2 false) ml.rest)) :: .inLoop body :: .inBlock id :: kk)) cs W2) =
        .next (lone (bf.atR a2 (.code (.block ml.id1 (.seq (.region i2 r2 false) ml.rest)) :: .inLoop body :: .inBlock id :: kk)) cs W2) := stepR_skip
    refine .head stepR_seq (.head (stepR_cond hc2) (.head sk (.head stepR_block (.head stepR_seq (.head stepR_region ?_)))))
    · rw [hrange]
      have hT : (⟨bf, r2, 0, List.range' 1 ml.es.length, .code ml.rest :: .inBlock ml.id1 :: .inLoop body :: .inBlock id :: kk, cs⟩ : At).ok ml.e0 a2 := ⟨hr2s, wanted_none X.O.e3⟩
      have hen := run_entry_at (P := P) W2 i.B jB clock seen es' clock e it2 map2 (List.mem_of_getElem? (by rw [Array.getElem?_toList]; exact hek)) X.mr.nodup
      have g1 := goes_value (P := P) (w := W2) (w' := W2) (v := .tuple #[e.key, e.val]) hT (by simp [X.O.e2]) (by simp [execOp, X.O.e2, eval_tmp it_a2, hen])
      simp only [Goes, At.frame, At.next, X.O.e1] at g1
      exact g1
  -- the round's body
  obtain ⟨ex, s1, e2, h2, hres, hok, hnx, hlo, hga⟩ := mapStep2_some hstep
  have keepsA : Keeps g (cSeq (runOps C (ml.e0 :: ml.es) ml.es) (comp C ml.rest)) (app (dstsOf ml.es) w) := seq_keeps (runOps_keeps K hG _ _) X.k
  obtain ⟨ks, kt⟩ := keepsA _ _ _ _ _ _ _ X.n256 hres
  have hbody : ∃ ι' W3 a3, Went ι (h.withLo big) W2 ι' h2 W3 ∧ FrRel ι' ⟨s1, [], .nrm⟩ e2 bf a3 cs ∧
      Steps P (lone (bf.atR (a2.put (some ml.e) (.tuple #[e.key, e.val])) (.inRegion r2 (List.range' 1 ml.es.length) :: .code ml.rest :: .inBlock ml.id1 :: .inLoop body :: .inBlock id :: kk)) cs W2)
        (lone (bf.atR a3 (.inLoop body :: .inBlock id :: kk)) cs W3) := by
    have fin : ∀ ι' a3 W3, Arr P (lone (bf.atR (a2.put (some ml.e) (.tuple #[e.key, e.val])) (.inRegion r2 (List.range' 1 ml.es.length) :: .code ml.rest :: .inBlock ml.id1 :: .inLoop body :: .inBlock id :: kk)) cs W2) bf (.inBlock ml.id1 :: .inLoop body :: .inBlock id :: kk) cs ι' a3 W3 ex →
        Steps P (lone (bf.atR (a2.put (some ml.e) (.tuple #[e.key, e.val])) (.inRegion r2 (List.range' 1 ml.es.length) :: .code ml.rest :: .inBlock ml.id1 :: .inLoop body :: .inBlock id :: kk)) cs W2)
        (lone (bf.atR a3 (.inLoop body :: .inBlock id :: kk)) cs W3) := by
      intro ι' a3 W3 A
      rcases roundOk_cases hok with rfl | rfl
      · exact Steps.trans A (.one stepR_inBlock)
      · obtain ⟨k', q1, q2⟩ := A
        exact Steps.trans q2 (.one (stepR_exit (by rw [q1]; simp [exitTo])))
    have Q := runOps_s (g := g) K hG (ops := r2) ml.es 1 ⟨s, [], .nrm⟩ (mapEnv ml acc (delAll env (mlWs ml w)) kv vals) (h.withLo big) (by rw [hr2]; rfl)
    rw [hr2] at Q
    rcases andThen_mk hres with ⟨x1, e1, h1, q1, q2⟩ | ⟨q1, hne⟩
    · rw [q1] at Q
      obtain ⟨ι1, W1, a1, cs1, Wt1, G1, L1, S1, A1⟩ := Q ι W2 bf _ (.code ml.rest :: .inBlock ml.id1 :: .inLoop body :: .inBlock id :: kk) cs (rel2.relo big) X.glob F3
      have := Callers.normal F3.rc L1
      subst this
      obtain ⟨ι2, W3, a3, cs3, Wt2, G2, L2, S2, A2⟩ := (X.R x1 e1 h1).out q2 ι1 W1 bf a1 (.inBlock ml.id1 :: .inLoop body :: .inBlock id :: kk) cs1 Wt1.rel (X.glob.ext Wt1.ext) G1
      have := Callers.normal F3.rc L2
      subst this
      exact ⟨ι2, W3, a3, Wt1.trans Wt2, G2, fin ι2 a3 W3 (Arr.steps A1 A2)⟩
    · rw [q1] at Q
      obtain ⟨ι1, W1, a1, cs1, Wt1, G1, L1, S1, A1⟩ := Q ι W2 bf _ (.code ml.rest :: .inBlock ml.id1 :: .inLoop body :: .inBlock id :: kk) cs (rel2.relo big) X.glob F3
      have := Callers.normal F3.rc L1
      subst this
      exact ⟨ι1, W1, a1, Wt1, G1, fin ι1 a1 W1 (Arr.past (k2 := .code ml.rest :: .inBlock ml.id1 :: .inLoop body :: .inBlock id :: kk) hne (fun id _ => rfl) A1)⟩
  obtain ⟨ι', W3, a3, Wt, G3, H3⟩ := hbody
  -- the injection is as it was
  have hι : ι' = ι := by
    funext b
    cases hb' : ι b with
    | some i' => exact Wt.ext b i' hb'
    | none =>
      cases h3 : ι' b with
      | none => rfl
      | some i' =>
        have q1 := (Wt.new b i' h3 hb').1
        have q2 := Wt.rel.lt h3
        rw [H.withLo_next] at q1
        omega
  subst hι
  have same3 : ∀ B, B < W2.heap.size → W3.heap[B]? = W2.heap[B]? := by
    intro B hBs
    apply Classical.byContradiction
    intro hne
    obtain ⟨b, i', hb', _, hl⟩ := Wt.kept B hBs hne
    have := rel2.lt hb'
    omega
  have rel3 : Rel ι' h W3 := Wt.rel.later (by omega) rel2.cap fun b hb' => by
    have := Wt.old b (by rw [H.withLo_next]; omega) (by omega)
    rw [H.withLo_get] at this
    exact this.symm
  have hs1 : s1 = s := ks
  subst hs1
  obtain ⟨e0, he0⟩ := S.got
  refine ⟨a3, W3, ⟨rel3, ⟨e2, hga⟩, ⟨G3.fn, G3.rnd, ⟨G3.env.1, X.n256, fun t u ht hu => ?_⟩, G3.ds, G3.rc⟩, ⟨seen.push e.born, clock, ?_, Nat.le_refl _, fun x => ?_⟩, ?_, fun B hBs hne => ?_, ?_, (S.out.trans out2).trans Wt.out⟩, Steps.trans (by rw [hb]; rw [hb] at H1; exact H1) (Steps.trans (by rw [hb] at H2 ⊢; exact H2) (Steps.trans H3 (.one stepR_inLoop)))⟩
  · rw [cur_get X hga ht] at hu
    by_cases q1 : t ∈ acc
    · rw [if_pos q1] at hu
      exact G3.env.2.2 t u ht hu
    · rw [if_neg q1] at hu
      by_cases q2 : t ∈ mlWs ml w
      · rw [if_pos q2] at hu; cases hu
      · rw [if_neg q2] at hu
        refine G3.env.2.2 t u ht ?_
        have m256 : ∀ t ∈ mlWs ml w, t < 256 := fun t ht => Nat.lt_of_lt_of_le (X.lt t ht) X.n256
        rw [kt t ht (by rw [app_eq]; intro hm; rcases List.mem_append.1 hm with hm | hm; exact q2 (ws_es hm); exact q2 (ws_w hm))]
        unfold mapEnv
        have ne : t ≠ ml.e := by rintro rfl; exact q2 ws_e
        have nc : t ≠ ml.c := by rintro rfl; exact q2 ws_c
        have nn : t ≠ ml.n := by rintro rfl; exact q2 ws_n
        rw [Env.get_set _ t ml.e _ ht (m256 _ ws_e), if_neg ne, Env.get_set _ t ml.c _ ht (m256 _ ws_c), if_neg nc, Env.get_set _ t ml.n _ ht (m256 _ ws_n), if_neg nn,
          cur_get X he0 ht, if_neg q1, if_neg q2]
        exact hu
  · rw [same3 _ (by rw [size2]; exact hB)]; exact it2
  · rw [Array.mem_push, hseen]
    constructor
    · rintro (⟨k', q1, q2⟩ | rfl)
      · exact ⟨k', by simp [q1], q2⟩
      · exact ⟨k, by simp, e, hek, rfl⟩
    · rintro ⟨k', q1, e', q2, q3⟩
      rcases List.mem_cons.1 q1 with rfl | q1
      · rw [hek] at q2; cases q2
        exact .inr q3.symm
      · exact .inl ⟨k', q1, e', q2, q3⟩
  · have hj : jB < W2.heap.size := by
      have := map2
      exact (Array.getElem?_eq_some_iff.1 this).1
    rw [same3 _ hj]; exact map2
  · rw [same3 _ (by rw [size2]; exact Nat.lt_of_lt_of_le hBs S.size), oth2 B hne]; exact S.same B hBs hne
  · exact Nat.le_trans S.size (by rw [← size2]; exact Wt.size)

end
end Go.Sim
end
section
/- Loops over maps: the loop. -/
namespace Go.Sim
open Go.ChangeMaps (setBlock)

section
variable {P : Program} {C : Ctx} {g : G} {ml : ML} {id : Nat} {body : Code} {s : FS} {env : Env} {h : H} {ι : Inj} {bi : Nat} {i : BI} {es : List (AVal × AVal)} {es' : Array MapEntry} {clock jB : Nat} {w : List Nat} {acc : List Nat} {w0 : World}

/-- what the table of states says -/
def TabOk (C : Ctx) (g : G) (ml : ML) (s : FS) (env : Env) (h : H) (es : List (AVal × AVal)) (w acc : List Nat) (FT : Nat → Option (List AVal)) : Prop :=
  ∀ s', s' < 2 ^ es.length - 1 → ∃ vals, FT s' = some vals ∧ ∀ (j : Nat) kv, es[j]? = some kv → s'.testBit j = false → ∃ v', mapStep C (comp C ml.rest) g ml acc s (delAll env (mlWs ml w)) h kv vals = some v' ∧ FT (s' ||| 2 ^ j) = some v'

theorem bits_full {n b : Nat} (hb : b < 2 ^ n) (h : ∀ k, k < n → b.testBit k = true) : b = 2 ^ n - 1 := by
  apply Nat.eq_of_testBit_eq
  intro k
  rw [Nat.testBit_two_pow_sub_one]
  by_cases hk : k < n
  · rw [h k hk]; simp [hk]
  · rw [Nat.testBit_lt_two_pow (Nat.lt_of_lt_of_le hb (Nat.pow_le_pow_right (by decide) (by omega)))]; simp [hk]

theorem mem_leftOf {seen : Array Nat} {e : MapEntry} : e ∈ (leftOf es' seen).toList ↔ e ∈ es'.toList ∧ e.born ∉ seen := by
  unfold leftOf
  simp

/-- the loop, from an iteration's beginning on -/
theorem loop_m (K : COk C P) (hG : GSim P g) (X : MCtx P C g id body ml s env h ι bi i es es' clock jB w acc) {FT : Nat → Option (List AVal)} (hT : TabOk C g ml s env h es w acc FT) (bf : Frame) (cs : List Frame) (kk : List Item) :
    ∀ (c : Nat) (done : List Nat) (b : Nat) (vals : List AVal) (a : Act) (W : World), cnt (fun k => decide (k ∈ done)) es.length = c → (∀ k, b.testBit k = true ↔ k ∈ done) → b < 2 ^ es.length → FT b = some vals →
      MState ml s env h ι i es' clock jB w acc w0 vals done bf cs a W →
      ∃ a' W' v done', FT (2 ^ es.length - 1) = some v ∧ MState ml s env h ι i es' clock jB w acc w0 v done' bf cs a' W' ∧
        Steps P (lone (bf.atR a (.code body :: .inLoop body :: .inBlock id :: kk)) cs W) (lone (bf.atR ((a'.put (some ml.n) (.tuple #[.bool false])).put (some ml.c) (.bool false)) kk) cs W') := by
  intro c
  induction c with
  | zero =>
    intro done b vals a W hc hb hlt hft S
    exact go 0 (fun _ h => absurd h (by omega)) done b vals a W hc hb hlt hft S
  | succ c ih =>
    intro done b vals a W hc hb hlt hft S
    exact go (c + 1) (fun c' h => by have : c' = c := by omega
                                     subst this; exact ih) done b vals a W hc hb hlt hft S
where
  go (c : Nat) (ih : ∀ c', c' + 1 = c → ∀ (done : List Nat) (b : Nat) (vals : List AVal) (a : Act) (W : World), cnt (fun k => decide (k ∈ done)) es.length = c' → (∀ k, b.testBit k = true ↔ k ∈ done) → b < 2 ^ es.length → FT b = some vals →
      MState ml s env h ι i es' clock jB w acc w0 vals done bf cs a W →
      ∃ a' W' v done', FT (2 ^ es.length - 1) = some v ∧ MState ml s env h ι i es' clock jB w acc w0 v done' bf cs a' W' ∧
        Steps P (lone (bf.atR a (.code body :: .inLoop body :: .inBlock id :: kk)) cs W) (lone (bf.atR ((a'.put (some ml.n) (.tuple #[.bool false])).put (some ml.c) (.bool false)) kk) cs W')) :
      ∀ (done : List Nat) (b : Nat) (vals : List AVal) (a : Act) (W : World), cnt (fun k => decide (k ∈ done)) es.length = c → (∀ k, b.testBit k = true ↔ k ∈ done) → b < 2 ^ es.length → FT b = some vals →
      MState ml s env h ι i es' clock jB w acc w0 vals done bf cs a W →
      ∃ a' W' v done', FT (2 ^ es.length - 1) = some v ∧ MState ml s env h ι i es' clock jB w acc w0 v done' bf cs a' W' ∧
        Steps P (lone (bf.atR a (.code body :: .inLoop body :: .inBlock id :: kk)) cs W) (lone (bf.atR ((a'.put (some ml.n) (.tuple #[.bool false])).put (some ml.c) (.bool false)) kk) cs W') := by
    intro done b vals a W hc hb hlt hft S
    obtain ⟨seen, c0, hit, hc0, hseen⟩ := S.iter
    have hnx := fun ty => run_next_at (P := P) W ty i.B jB clock c0 seen es' clock hit S.map (born_lt X) hc0
    have hsz : es'.size = es.length := X.mr.hlen
    by_cases h0 : (leftOf es' seen).size = 0
    · -- all entries are done
      have hover : ∀ ty, (Instr.next (.pointer (some ⟨i.B, 0, none⟩)) false ty).run P W = .ok (.tuple #[.bool false]) W := by
        intro ty
        rcases hnx ty with ⟨_, q⟩ | ⟨e, he, _⟩
        · exact q
        · exfalso
          have : (leftOf es' seen).toList.length = 0 := by simpa using h0
          rw [List.length_eq_zero_iff] at this
          rw [this] at he; simp at he
      have hall : ∀ k, k < es.length → b.testBit k = true := by
        intro k hk
        rw [hb]
        have hek := Array.getElem?_eq_getElem (xs := es') (i := k) (by omega)
        have hnl : es'[k]'(by omega) ∉ (leftOf es' seen).toList := by
          have : (leftOf es' seen).toList.length = 0 := by simpa using h0
          rw [List.length_eq_zero_iff] at this
          rw [this]; simp
        rw [mem_leftOf] at hnl
        have hin : (es'[k]'(by omega)).born ∈ seen := by
          apply Classical.byContradiction
          intro hn
          exact hnl ⟨by simp, hn⟩
        obtain ⟨k', q1, e', q2, q3⟩ := (hseen _).1 hin
        have := born_inj X q2 hek q3
        rw [← this]; exact q1
      have hbf := bits_full hlt hall
      refine ⟨a, W, vals, done, by rw [← hbf]; exact hft, S, ?_⟩
      obtain ⟨i1, r1, i2, r2, o1, o2, hbd, hr1, hr2, p1, p2, p3, p4, p5, p6⟩ := X.O.shape
      simp only [Code.loop.injEq] at hbd
      have hsz' : a.tmps.size = s.n := S.fr.env.1
      have nlt := X.lt ml.n ws_n
      have clt := X.lt ml.c ws_c
      have H1 := head_m (ml := ml) (P := P) (bf := bf) (a := a) (k := .inLoop body :: .inBlock id :: kk) (cs := cs) (i1 := i1) (rest1 := .seq (.cond (.tmp ml.c) .skip (.exit id)) (.block ml.id1 (.seq (.region i2 r2 false) ml.rest))) p1 p2 p3 p4 p5 p6 (S.itv X) (by omega) (t := false) hover rfl
      rw [← hr1, ← hbd] at H1
      have hc2 : ((a.put (some ml.n) (.tuple #[.bool false])).put (some ml.c) (.bool false)).eval (.tmp ml.c) = .bool false := eval_tmp (by rw [tmps_put, if_pos rfl, if_pos (by rw [size_put]; omega)])
      have ex : step P (lone (bf.atR ((a.put (some ml.n) (.tuple #[.bool false])).put (some ml.c) (.bool false)) (.code (if false = true then .skip else .exit id) :: .code (.block ml.id1 (.seq (.region i2 r2 false) ml.rest)) :: .inLoop body :: .inBlock id :: kk)) cs W) =
          .next (lone (bf.atR ((a.put (some ml.n) (.tuple #[.bool false])).put (some ml.c) (.bool false)) kk) cs W) := stepR_exit (id := id) (by simp [exitTo])
      exact Steps.trans H1 (.head stepR_seq (.head (stepR_cond hc2) (.one ex)))
    · -- one more entry
      have hpick : ∃ e ∈ (leftOf es' seen).toList, ∃ w1 : World, w1.heap = W.heap ∧ SameOut W w1 ∧ ∀ ty, (Instr.next (.pointer (some ⟨i.B, 0, none⟩)) false ty).run P W = .ok (.tuple #[.bool true, e.key, e.val]) (setBlock w1 i.B (.mapIter (some jB) clock (seen.push e.born) clock)) := by
        rcases hnx 0 with ⟨q, _⟩ | ⟨e, he, w1, hw1, q⟩
        · exact absurd q h0
        · refine ⟨e, he, w1, ?_, ?_, fun ty => q⟩
          · rcases hw1 with rfl | rfl <;> rfl
          · rcases hw1 with rfl | rfl <;> exact ⟨rfl, rfl, rfl⟩
      obtain ⟨e, he, w1, hw1, hw1o, hrun⟩ := hpick
      rw [mem_leftOf] at he
      obtain ⟨k, hk⟩ := List.getElem?_of_mem he.1
      rw [Array.getElem?_toList] at hk
      have hkl : k < es.length := by rw [← hsz]; exact (Array.getElem?_eq_some_iff.1 hk).1
      have hkd : k ∉ done := fun q => he.2 ((hseen _).2 ⟨k, q, e, hk, rfl⟩)
      have hbk : b.testBit k = false := by
        cases q : b.testBit k with
        | false => rfl
        | true => exact absurd ((hb k).1 q) hkd
      have hbne : b ≠ 2 ^ es.length - 1 := by
        rintro rfl
        rw [Nat.testBit_two_pow_sub_one] at hbk
        simp at hbk; omega
      obtain ⟨vals2, t1, t2⟩ := hT b (by omega)
      rw [hft] at t1; cases t1
      obtain ⟨v', t3, t4⟩ := t2 k _ (List.getElem?_eq_getElem hkl) hbk
      obtain ⟨a2, W2, S2, st⟩ := round_m K hG X S kk (List.getElem?_eq_getElem hkl) hk t3 hw1 hw1o hit hseen hrun
      have hcnt := cnt_set (f := fun k => decide (k ∈ done)) (g := fun x => decide (x ∈ k :: done)) (j := k) (by simpa using hkd) (by simp) (fun y hy => by simp [hy]) es.length hkl
      have hb2 : ∀ x, (b ||| 2 ^ k).testBit x = true ↔ x ∈ k :: done := by
        intro x
        rw [Nat.testBit_or, Nat.testBit_two_pow, Bool.or_eq_true, hb x, List.mem_cons]
        simp only [decide_eq_true_eq]
        constructor
        · rintro (q | rfl)
          · exact .inr q
          · exact .inl rfl
        · rintro (rfl | q)
          · exact .inr rfl
          · exact .inl q
      obtain ⟨a3, W3, v, done', u1, u2, u3⟩ := ih _ (by omega) (k :: done) (b ||| 2 ^ k) v' a2 W2 rfl hb2 (Nat.or_lt_two_pow hlt (Nat.pow_lt_pow_right (by decide) hkl)) t4 S2
      exact ⟨a3, W3, v, done', u1, u2, Steps.trans st u3⟩

theorem iterMap_some {v : AVal} {p : Nat × List (AVal × AVal)} (hh : iterMap h v = some p) : ∃ r ck, v = .ptr (some (p.1, 0)) ∧ h.get p.1 = some (.iter (some r) ck) ∧ h.get r = some (.map p.2 ck) := by
  unfold iterMap at hh
  split at hh
  · rename_i b
    split at hh
    · rename_i r since hb
      split at hh
      · rename_i kv es ck hr
        rw [sel_eq] at hh
        split at hh
        · rename_i hc
          have hc : since = ck := by simpa using hc
          subst hc
          cases hh
          exact ⟨r, since, rfl, hb, hr⟩
        · cases hh
      · cases hh
    · cases hh
  · cases hh

theorem execMap_some {rest : CF} {wo : Option (List Nat)} {x : FX} {r : XR} {ex : Ex} {x' : FX} {e' : Env} {h' : H} (hh : execMap C rest g ml wo es x env h = .mk ex x' e' h') :
    ∃ w s v0 v, wo = some w ∧ x = ⟨s, [], .nrm⟩ ∧ es.length ≤ 8 ∧ ml.it ∉ mlWs ml w ∧ (∀ t ∈ mlWs ml w, t < s.n) ∧ getAll env (accOf env (mlWs ml w)) = some v0 ∧
      (∃ FT : Nat → Option (List AVal), FT 0 = some v0 ∧ FT (2 ^ es.length - 1) = some v ∧
        ∀ s', s' < 2 ^ es.length - 1 → ∃ vals, FT s' = some vals ∧ ∀ (j : Nat) kv, es[j]? = some kv → s'.testBit j = false → ∃ v', mapStep C rest g ml (accOf env (mlWs ml w)) s (delAll env (mlWs ml w)) h kv vals = some v' ∧ FT (s' ||| 2 ^ j) = some v') ∧
      ex = .normal ∧ x' = x ∧ e' = ((setAll (accOf env (mlWs ml w)) v (delAll env (mlWs ml w))).del ml.n).del ml.c ∧ h' = h := by
  unfold execMap at hh
  split at hh
  · rename_i s
    unfold execMap1 at hh
    rw [sel_eq, natBle, len_eq] at hh
    split at hh
    · rename_i h8
      have h8 : es.length ≤ 8 := by simpa using h8
      cases wo with
      | none => cases hh
      | some w =>
        rw [ox_some, sel_eq] at hh
        split at hh
        · rename_i hc
          rw [Bool.and_eq_true, memN_eq] at hc
          have hit : ml.it ∉ mlWs ml w := by simpa using hc.1
          have hlt := allLt_spec _ _ hc.2
          unfold execMap2 at hh
          cases hg : getAll env (accOf env (mlWs ml w)) with
          | none => rw [hg] at hh; cases hh
          | some v0 =>
            rw [hg, ob_some] at hh
            cases hm : mapRows (fun vals kv => mapStep C rest g ml (accOf env (mlWs ml w)) s (delAll env (mlWs ml w)) h kv vals) es (Nat.sub (Nat.pow 2 (len es)) 1) 0 (Tree.set .leaf v0 0) with
            | none => rw [hm] at hh; cases hh
            | some FT =>
              rw [hm, ob_some, len_eq] at hh
              cases hf : FT.get (Nat.sub (Nat.pow 2 es.length) 1) with
              | none => rw [hf] at hh; cases hh
              | some v =>
                rw [hf, ob_some, ox_some] at hh
                cases hh
                rw [len_eq] at hm
                have hpow : 2 ^ es.length ≤ 2 ^ 8 := Nat.pow_le_pow_right (by decide) h8
                obtain ⟨m1, m2⟩ := mapRows_spec _ es h8 (2 ^ es.length - 1) 0 _ FT (by omega) hm
                refine ⟨w, s, v0, v, rfl, rfl, h8, hit, hlt, hg, ⟨FT.get, m1 0 v0 ?_, hf, fun s' hs' => m2 s' (Nat.zero_le _) (by omega)⟩, rfl, rfl, rfl, rfl⟩
                show (Tree.put (some v0) .leaf 0).get 0 = _
                rw [Tree.put_get _ _ _ (by decide), if_pos rfl]
        · cases hh
    · cases hh
  · cases hh

/-- A BLOCK WITH A LOOP OVER A MAP. -/
theorem mapBlock_c (K : COk C P) (hG : GSim P g) {b : Code} (O : MLOk id b ml) (hR : CFSim P g ml.rest (comp C ml.rest)) (hB : CFSim P g b (comp C b)) : CFSim P g (.block id b) (cBlock C id (some ml) (dstsC ml.rest) (comp C ml.rest) (comp C b)) := fun x e h => CodeSim.mk' fun ex x' e' h' hr => by
  intro ι W bf a kk cs r hg F
  have hr : oe (ob ((evF (.tmp ml.it)).run e) (iterMap h)) (blockEnd id ((comp C b).run g x e h)) (fun p => execMap C (comp C ml.rest) g ml (dstsC ml.rest) p.2 x e (h.setO p.1 .dead)) = .mk ex x' e' h' := hr
  cases hp : ob ((evF (.tmp ml.it)).run e) (iterMap h) with
  | none =>
    rw [hp, oe_none] at hr
    have := blockEnd_s (id := id) (hB x e h)
    rw [hr] at this
    exact this ι W bf a kk cs r hg F
  | some p =>
    obtain ⟨bi, es⟩ := p
    rw [hp, oe_some] at hr
    obtain ⟨v, hv, hp⟩ := ob_eq.1 hp
    obtain ⟨r0, ck, rfl, hbi, hr0⟩ := iterMap_some hp
    simp only at hbi hr0 hv
    obtain ⟨hitlt, hitv⟩ := evF_tmp hv
    obtain ⟨w, s, v0, v, hw, rfl, h8, hit, hlt, hga, ⟨FT, f1, f2, f3⟩, rfl, rfl, rfl, rfl⟩ := execMap_some (r := .bad) hr
    -- the iterator and the map
    obtain ⟨vc, q1, q2⟩ := F.env.2.2 ml.it _ hitlt hitv
    obtain ⟨i, hι, _⟩ := ren_ptr q1
    obtain ⟨hbl, ob, ho1, ho2⟩ := r.dom bi i hι
    rw [hbi] at ho1; cases ho1
    obtain ⟨hbase, m', since', st, hheap, hs1, hs2, hm1, hm2⟩ := ho2
    obtain ⟨j, hj, hm'⟩ := hm2 r0 rfl
    subst hs1 hs2 hm'
    obtain ⟨_, ob, ho1, ho2⟩ := r.dom r0 j hj
    rw [hr0] at ho1; cases ho1
    obtain ⟨es', clock, hmap, MR⟩ := ho2
    have hck := MR.hclock
    subst hck
    have Wd := Went.die r hbl
    have hget : ∀ b', b' < 1048576 → (h.setO bi .dead).get b' = if b' = bi then some .dead else h.get b' := fun b' hb' => H.setO_get h .dead hb' (r.lt' hι)
    have hdead : ∀ b' i' o, ι b' = some i' → i'.B = i.B → (h.setO bi .dead).get b' = some o → o = .dead := by
      intro b' i' o hb' hB hgo
      rw [hget b' (r.lt' hb')] at hgo
      by_cases hq : b' = bi
      · rw [if_pos hq] at hgo; cases hgo; rfl
      · rw [if_neg hq] at hgo
        exact r.aloneObj hι hbi (by simp) (by simp) b' i' o hq hb' hB hgo
    have hjne : j.B ≠ i.B := by
      intro hq
      rw [hq, hheap] at hmap; cases hmap
    have hbody : ∃ body, b = .loop body := by
      obtain ⟨_, _, _, _, _, _, hb, _⟩ := O.shape
      exact ⟨_, hb⟩
    obtain ⟨body, rfl⟩ := hbody
    have n256 := F.env.2.1
    have X : MCtx P C g id body ml s e (h.setO bi .dead) ι bi i es es' clock j.B w (accOf e (mlWs ml w)) :=
      ⟨O, hR, comp_keeps K hG ml.rest w hw, n256, hlt, hit, fun t ht => accOf_sub e _ t ht, hitv, hι, hbase, hdead, MR, hjne, hg, hitlt⟩
    have S0 : MState ml s e (h.setO bi .dead) ι i es' clock j.B w (accOf e (mlWs ml w)) W v0 [] bf cs a W := by
      refine ⟨Wd.rel, ⟨e, hga⟩, ⟨F.fn, F.rnd, ⟨F.env.1, n256, fun t u ht hu => ?_⟩, F.ds, F.rc⟩, ⟨#[], clock, hheap, Nat.le_refl _, fun x => by simp⟩, hmap, fun _ _ _ => rfl, Nat.le_refl _, SameOut.refl W⟩
      rw [cur_get X hga ht] at hu
      by_cases q3 : t ∈ accOf e (mlWs ml w)
      · rw [if_pos q3] at hu; exact F.env.2.2 t u ht hu
      · rw [if_neg q3] at hu
        by_cases q4 : t ∈ mlWs ml w
        · rw [if_pos q4] at hu; cases hu
        · rw [if_neg q4] at hu; exact F.env.2.2 t u ht hu
    obtain ⟨a', W', v', done', u1, S', st⟩ := loop_m K hG X f3 bf cs kk _ [] 0 v0 a W rfl (fun k => by simp) (Nat.pow_pos (by decide)) f1 S0
    rw [f2] at u1; cases u1
    refine ⟨ι, W', _, cs, ⟨Ext.refl ι, by simp, Wd.lo, Wd.old, fun b' i' h1 h2 => (by rw [h1] at h2; cases h2), S'.size, fun B hB hne => ?_, S'.rel, S'.out⟩, ?_, .refl _ _, rfl, .head stepR_block (.head stepR_loop st)⟩
    · have hBi : B = i.B := by
        apply Classical.byContradiction
        intro hq
        exact hne (S'.same B hB hq)
      exact ⟨bi, i, hι, hBi.symm, by rw [H.setO_lo]; exact Nat.min_le_right _ _⟩
    · obtain ⟨e2, he2⟩ := S'.got
      have m256 : ∀ t ∈ mlWs ml w, t < 256 := fun t ht => Nat.lt_of_lt_of_le (hlt t ht) n256
      refine ⟨S'.fr.fn, S'.fr.rnd, ⟨by rw [size_put, size_put]; exact S'.fr.env.1, n256, fun t u ht hu => ?_⟩, S'.fr.ds, S'.fr.rc⟩
      rw [Env.get_del _ t ml.c ht (m256 _ ws_c)] at hu
      split at hu
      · cases hu
      · rename_i hc
        rw [Env.get_del _ t ml.n ht (m256 _ ws_n)] at hu
        split at hu
        · cases hu
        · rename_i hn
          obtain ⟨uc, z1, z2⟩ := S'.fr.env.2.2 t u ht hu
          exact ⟨uc, z1, by rw [tmps_put, if_neg (Ne.symm hc), tmps_put, if_neg (Ne.symm hn)]; exact z2⟩

end
end Go.Sim
end
