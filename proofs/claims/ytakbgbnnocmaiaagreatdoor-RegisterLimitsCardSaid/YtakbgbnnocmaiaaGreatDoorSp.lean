/- What a piece of a run leaves as it was, in the executor's heap; looks into blocks. -/
import Derived.Test.YtakbgbnnocmaiaaGreatDoorSo
import Derived.Test.YtakbgbnnocmaiaaGreatDoorSb
set_option linter.all false
section
namespace Go.Sim

/-- the blocks that were there are as they were; at most 'k' blocks more -/
structure Kept (k : Nat) (h h' : H) : Prop where
  next : h.next ≤ h'.next
  few : h'.next ≤ h.next + k
  get : ∀ b, b < h.next → h'.get b = h.get b
  lo : min h.lo h.next ≤ h'.lo

theorem Kept.refl {k : Nat} (h : H) : Kept k h h := ⟨Nat.le_refl _, by omega, fun _ _ => rfl, by omega⟩
theorem Kept.mono {k k' : Nat} {h h' : H} (K : Kept k h h') (hk : k ≤ k') : Kept k' h h' := ⟨K.next, by have := K.few; omega, K.get, K.lo⟩
theorem Kept.trans {k k' : Nat} {a b c : H} (x : Kept k a b) (y : Kept k' b c) : Kept (k + k') a c :=
  ⟨Nat.le_trans x.next y.next, by have := x.few; have := y.few; omega, fun i hi => (y.get i (Nat.lt_of_lt_of_le hi x.next)).trans (x.get i hi), by have := x.lo; have := y.lo; have := x.next; omega⟩

theorem withLo_get (h : H) (n b : Nat) : (h.withLo n).get b = h.get b := by cases h; rfl
theorem withLo_next (h : H) (n : Nat) : (h.withLo n).next = h.next := by cases h; rfl
theorem withLo_lo (h : H) (n : Nat) : (h.withLo n).lo = n := by cases h; rfl
theorem withLo_room (h : H) (n : Nat) : (h.withLo n).room = h.room := by cases h; rfl

theorem room_iff (h : H) : h.room = true ↔ h.next < 1048576 := by
  unfold H.room; simp

theorem alloc_next (h : H) (o : AObj) : (h.alloc o).next = h.next + 1 := by cases h; rfl
theorem alloc_lo (h : H) (o : AObj) : (h.alloc o).lo = h.lo := by cases h; rfl

theorem Kept.alloc {h : H} (hn : h.next < 1048576) (o : AObj) : Kept 1 h (h.alloc o) := by
  refine ⟨by rw [alloc_next]; omega, by rw [alloc_next]; omega, fun b hb => ?_, by rw [alloc_lo]; omega⟩
  rw [H.alloc_get h o (by omega) hn, if_neg (by omega)]

theorem alloc_get_new {h : H} (hn : h.next < 1048576) (o : AObj) : (h.alloc o).get h.next = some o := by
  rw [H.alloc_get h o hn hn, if_pos rfl]

theorem loadP_get {h : H} {b : Nat} {vs : List AVal} {esz : Nat} {opn frz : Bool} {pars : List Nat} (hg : h.get b = some (.cells vs esz opn frz pars)) (agg : Bool) (n off : Nat) :
    loadP h agg n (.ptr (some (b, off))) = loadC (some vs) agg n off := by
  show loadC (cellsOf (h.get b)) agg n off = _
  rw [hg]; rfl

theorem ldg {h : H} {b : Nat} {vs : List AVal} {esz : Nat} {opn frz : Bool} {pars : List Nat} (hg : h.get b = some (.cells vs esz opn frz pars)) {agg : Bool} {n off : Nat} {v : AVal} (hv : loadC (some vs) agg n off = some v) :
    loadP h agg n (.ptr (some (b, off))) = some v := (loadP_get hg agg n off).trans hv

/-- behind a heavy operation of a region that draws: the look's rule -/
theorem heavy_lo {k : Nat} {h h' : H} (hb : h.next ≤ big) (K : Kept k (h.withLo big) h') : h.next ≤ h'.lo := by
  have := K.lo
  rw [withLo_lo, withLo_next] at this
  omega

theorem Kept.heavy {k : Nat} {h h' : H} (hb : h.next ≤ big) (K : Kept k (h.withLo big) h') : Kept k h (h'.withLo (minN h.lo h'.lo)) := by
  have h1 := K.next
  have h2 := K.few
  rw [withLo_next] at h1 h2
  have h3 := heavy_lo hb K
  refine ⟨by rw [withLo_next]; exact h1, by rw [withLo_next]; exact h2, fun b hb' => ?_, by rw [withLo_lo, minN_eq]; omega⟩
  rw [withLo_get, K.get b (by rw [withLo_next]; exact hb'), withLo_get]

theorem loadP_kept {c : Nat} {h h' : H} (K : Kept c h h') {b off : Nat} (hb : b < h.next) {agg : Bool} {n : Nat} : loadP h' agg n (.ptr (some (b, off))) = loadP h agg n (.ptr (some (b, off))) := by
  show loadC (cellsOf (h'.get b)) agg n off = loadC (cellsOf (h.get b)) agg n off
  rw [K.get b hb]

/-- the elements of a slice, each of 'k' cells -/
def ARows (h : H) (k : Nat) (a : Option (Nat × Nat)) (rows : List (List AVal)) : Prop :=
  rows = [] ∨ ∃ b off vs esz opn frz pars, a = some (b, off) ∧ b < h.next ∧ h.get b = some (.cells vs esz opn frz pars) ∧ ∀ i r, rows[i]? = some r → r.length = k ∧ takeX k (dropX (Nat.add off (Nat.mul i k)) vs) = some r

theorem ARows.kept {c : Nat} {h h' : H} (K : Kept c h h') {k : Nat} {a : Option (Nat × Nat)} {rows : List (List AVal)} (E : ARows h k a rows) : ARows h' k a rows := by
  rcases E with E | ⟨b, off, vs, esz, opn, frz, pars, h1, h2, h3, h4⟩
  · exact .inl E
  · exact .inr ⟨b, off, vs, esz, opn, frz, pars, h1, Nat.lt_of_lt_of_le h2 K.next, (K.get b h2).trans h3, h4⟩

/-- what an element of a slice gives to loads of a part of it -/
def ARow (h : H) (k b off : Nat) (r : List AVal) : Prop := b < h.next ∧ ∀ agg n f v, f + n ≤ k → (agg = false → n = 1) → loadC (some r) agg n f = some v → loadP h agg n (.ptr (some (b, Nat.add off f))) = some v

theorem ARow.kept {c : Nat} {h h' : H} (K : Kept c h h') {k b off : Nat} {r : List AVal} (R : ARow h k b off r) : ARow h' k b off r :=
  ⟨Nat.lt_of_lt_of_le R.1 K.next, fun agg n f v h1 h2 h3 => (loadP_kept K R.1).trans (R.2 agg n f v h1 h2 h3)⟩

theorem ARows.at {h : H} {k : Nat} {a : Option (Nat × Nat)} {rows : List (List AVal)} (E : ARows h k a rows) {i : Nat} {r : List AVal} (hv : rows[i]? = some r) :
    ∃ b off, a = some (b, off) ∧ ARow h k b (Nat.add off (Nat.mul i k)) r := by
  rcases E with rfl | ⟨b, off, vs, esz, opn, frz, pars, h1, h2, h3, h4⟩
  · simp at hv
  · refine ⟨b, off, h1, h2, fun agg n f v hn h1' hl => ?_⟩
    obtain ⟨hr, ht⟩ := h4 i r hv
    rw [loadP_get h3]
    rw [takeX_eq] at ht
    split at ht
    · rename_i hk
      rw [dropX_eq] at hk ht
      have hr' : r = (vs.drop (Nat.add off (Nat.mul i k))).take k := (Option.some.inj ht).symm
      cases agg with
      | true =>
        have hl : ob (takeX n (dropX f r)) (fun l => some (.agg l)) = some v := hl
        show ob (takeX n (dropX (Nat.add (Nat.add off (Nat.mul i k)) f) vs)) (fun l => some (.agg l)) = some v
        rw [ob_eq] at hl ⊢
        obtain ⟨q, h5, h6⟩ := hl
        refine ⟨q, ?_, h6⟩
        rw [takeX_eq, dropX_eq] at h5 ⊢
        split at h5
        · rename_i hn'
          simp only [natAdd, natMul] at *
          rw [if_pos (by simp only [List.length_drop] at *; omega), ← h5, hr', List.drop_take, List.take_take, List.drop_drop, Nat.min_eq_left (by omega)]
        · cases h5
      | false =>
        have hl : getX f r = some v := hl
        show getX (Nat.add (Nat.add off (Nat.mul i k)) f) vs = some v
        rw [getX_eq] at hl ⊢
        have hf : f < r.length := (List.getElem?_eq_some_iff.1 hl).1
        rw [hr', List.getElem?_take, if_pos (by omega), List.getElem?_drop] at hl
        exact hl
    · cases ht

/-- a load out of an element -/
theorem ARow.ld {h : H} {k b off : Nat} {r : List AVal} (R : ARow h k b off r) {agg : Bool} {n f : Nat} {v : AVal} (hl : loadC (some r) agg n f = some v) (hn : f + n ≤ k) (h1 : agg = false → n = 1) : loadP h agg n (.ptr (some (b, Nat.add off f))) = some v := R.2 agg n f v hn h1 hl

/-- a load of the whole element, or of its first part -/
theorem ARow.ld0 {h : H} {k b off : Nat} {r : List AVal} (R : ARow h k b off r) {agg : Bool} {n : Nat} {v : AVal} (hl : loadC (some r) agg n 0 = some v) (hn : n ≤ k) (h1 : agg = false → n = 1) : loadP h agg n (.ptr (some (b, off))) = some v := R.2 agg n 0 v (by omega) h1 hl

theorem eqI_iff {a b : Int} : eqI a b = true ↔ a = b := by
  cases a <;> cases b <;> simp [eqI] <;> omega
theorem leI_iff {a b : Int} : leI a b = true ↔ a ≤ b := by
  cases a <;> cases b <;> simp [leI] <;> omega

/-! ### Equality of what has no memory -/

def sk : AVal → Option Nat
  | .int k _ => some (kdN k)
  | .str _ => some 8
  | .bool _ => some 9
  | _ => none

theorem eqB_iff : ∀ {a b : List UInt8}, eqB a b = true ↔ a = b
  | [], [] => by simp [eqB]
  | [], _ :: _ => by simp [eqB]
  | _ :: _, [] => by simp [eqB]
  | x :: a, y :: b => by
    show sel (Nat.beq x.toNat y.toNat) (eqB a b) false = true ↔ _
    rw [natBeq, sel_eq]
    by_cases hxy : x = y
    · subst hxy; simp [eqB_iff (a := a)]
    · have : x.toNat ≠ y.toNat := fun h => hxy (UInt8.toNat.inj h)
      simp [this, hxy]

theorem eqS_iff {x y : AVal} (h : sk x = sk y) (hx : sk x ≠ none) : ∃ b, eqS x y = some b ∧ (b = true ↔ x = y) := by
  cases x <;> simp only [sk, ne_eq, not_true_eq_false, reduceCtorEq, not_false_eq_true] at hx
  case bool a =>
    cases y <;> simp only [sk, Option.some.injEq, reduceCtorEq] at h
    case bool b => exact ⟨a == b, rfl, by simp⟩
    case int k n => cases k <;> simp [kdN] at h
    all_goals omega
  case str a =>
    cases y <;> simp only [sk, Option.some.injEq, reduceCtorEq] at h
    case str b => exact ⟨eqB a b, rfl, by rw [eqB_iff]; simp⟩
    case int k n => cases k <;> simp [kdN] at h
    all_goals omega
  case int k n =>
    cases y <;> simp only [sk, Option.some.injEq, reduceCtorEq] at h
    case int k' m =>
      have hk : k = k' := by cases k <;> cases k' <;> simp [kdN] at h <;> rfl
      subst hk
      refine ⟨eqI n m, ?_, by rw [eqI_iff]; simp⟩
      show sel (eqKd k k) (some (eqI n m)) none = _
      have : eqKd k k = true := by simp [eqKd]
      rw [this]
    all_goals cases k <;> simp [kdN] at h

theorem eqL_iff : ∀ {x y : List AVal}, x.map sk = y.map sk → (∀ v ∈ x, sk v ≠ none) → ∃ b, eqL x y = some b ∧ (b = true ↔ x = y)
  | [], [], _, _ => ⟨true, rfl, by simp⟩
  | [], _ :: _, h, _ => by simp at h
  | _ :: _, [], h, _ => by simp at h
  | x :: r, y :: s, h, hs => by
    simp only [List.map_cons, List.cons.injEq] at h
    obtain ⟨b, h1, h2⟩ := eqS_iff h.1 (hs x (by simp))
    obtain ⟨c, h3, h4⟩ := eqL_iff h.2 (fun v hv => hs v (by simp [hv]))
    have : eqL (x :: r) (y :: s) = ob (eqS x y) (fun q => sel q (eqL r s) (some false)) := rfl
    rw [this, h1, ob_some]
    cases b with
    | true => exact ⟨c, h3, by rw [h4, List.cons.injEq]; simp [h2.1 rfl]⟩
    | false =>
      refine ⟨false, rfl, ?_⟩
      have : x ≠ y := fun he => by simpa using h2.2 he
      simp [this]

theorem inc64 {i : Nat} (h : i < 9223372036854775807) : wrapK .i64 (Int.add (Int.ofNat i) (Int.ofNat 1)) = Int.ofNat (Nat.succ i) := by
  show sel (Nat.ble (i + 1) 9223372036854775807) (Int.ofNat (i + 1)) _ = _
  rw [natBle, decide_eq_true (by omega)]

theorem Agree.sub {l l' : Pv} (hs : ∀ p ∈ l', fnd p.1 l = some p.2) {e : Env} (A : Agree l e) : Agree l' e := by
  intro t v hv
  have : ∀ (l' : Pv), (∀ p ∈ l', fnd p.1 l = some p.2) → fnd t l' = some v → fnd t l = some v := by
    intro l'
    induction l' with
    | nil => intro _ h; cases h
    | cons p r ih =>
      intro hs h
      have h : sel (Nat.beq t p.1) (some p.2) (fnd t r) = some v := h
      rw [natBeq, sel_eq] at h
      split at h
      · rename_i ht
        have ht : t = p.1 := by simpa using ht
        rw [ht, hs p (by simp), h]
      · exact ih (fun q hq => hs q (by simp [hq])) h
  exact A t v (this l' hs hv)

/-- what a list of slots says, another one says too -/
def Sub (l : Pv) : Pv → Prop
  | [] => True
  | p :: r => fnd p.1 l = some p.2 ∧ Sub l r

theorem Sub.mem {l : Pv} : ∀ {l' : Pv}, Sub l l' → ∀ p ∈ l', fnd p.1 l = some p.2
  | [], _, p, hp => by cases hp
  | q :: r, h, p, hp => by
    rcases List.mem_cons.1 hp with rfl | hp
    · exact h.1
    · exact Sub.mem h.2 p hp

theorem gN_fuel {C : Ctx} {F : Nat} : ∀ d, (gN C F d).fuel = F
  | 0 => rfl
  | _ + 1 => rfl

/-- A LOOP, by what is known of its slots at its head ('L'), an invariant ('I') and a measure -/
theorem wLoopS {C : Ctx} {S : SV} {F d n : Nat} (KS : SOk S C) {b : Code} {Q : Post} {σ : Type} (L : σ → Pv) (I : σ → H → Prop) (μ : σ → Nat) (hn : n ≤ 256)
    (s0 : σ) {l : Pv} {h : H} (hm : μ s0 < F) (hs : Sub l (L s0)) (h0 : I s0 h)
    (hb : ∀ s h, I s h → wC C S (gN C F d) n b (L s) h (fun ex l' h' => match ex with
      | .normal => ∃ s', μ s' < μ s ∧ Sub l' (L s') ∧ I s' h'
      | ex => Q ex l' h')) : wRun C (gN C F d) n (.loop b) l h Q := by
  intro x e hx A
  show Sat x ((@Nat.rec (fun _ => Sim.K) (fun _ _ _ => .bad) (fun _ ih x e h => ((comp C b).run (gN C F d) x e h).andThen ih) (gN C F d).fuel) x e h) Q
  rw [gN_fuel]
  have key : ∀ (f : Nat) (s : σ) (h : H) (e : Env), μ s < f → I s h → Agree (L s) e → Sat x ((@Nat.rec (fun _ => Sim.K) (fun _ _ _ => .bad) (fun _ ih x e h => ((comp C b).run (gN C F d) x e h).andThen ih) f) x e h) Q := by
    intro f
    induction f with
    | zero => intro s h e hmf hI A; omega
    | succ f ih =>
      intro s h e hmf hI A
      obtain ⟨ex, e1, h1, l1, run, A1, hw1⟩ := wC_ok KS hn hx b (hb s h hI) A
      show Sat x (((comp C b).run (gN C F d) x e h).andThen _) Q
      rw [run]
      cases ex with
      | normal =>
        obtain ⟨s', hlt, hsub, hI'⟩ := hw1
        exact ih s' h1 e1 (by omega) hI' (A1.sub hsub.mem)
      | exit i => exact ⟨_, _, _, _, rfl, A1, hw1⟩
      | ret => exact ⟨_, _, _, _, rfl, A1, hw1⟩
      | panic c => exact ⟨_, _, _, _, rfl, A1, hw1⟩
  exact key F s0 h e hm h0 (A.sub hs.mem)

/-- a comparison of two flat structs -/
theorem eq_step {ks : Option (List Nat)} {x y : List AVal} {h : H} {R : R2} (hf : fitO ks x = true) (hk : x.map sk = y.map sk) (hs : x.all (fun v => (sk v).isSome) = true) (ht : x = y → R (.bool true) h) (hn : x ≠ y → R (.bool false) h) :
    ∃ b, sel (fitO ks x) (eqL x y) none = some b ∧ w2 (.bool b) h R := by
  obtain ⟨b, h1, h2⟩ := eqL_iff hk (fun v hv he => by
    have := List.all_eq_true.1 hs v hv
    rw [he] at this; cases this)
  refine ⟨b, by rw [hf]; exact h1, ?_⟩
  rintro c rfl
  cases b with
  | true => exact ht (h2.1 rfl)
  | false => exact hn fun he => by simpa using h2.2 he

theorem ne_step {ks : Option (List Nat)} {x y : List AVal} {h : H} {R : R2} (hf : fitO ks x = true) (hk : x.map sk = y.map sk) (hs : x.all (fun v => (sk v).isSome) = true) (ht : x = y → R (.bool false) h) (hn : x ≠ y → R (.bool true) h) :
    ∃ b, sel (fitO ks x) (eqL x y) none = some b ∧ w2 (.bool (!b)) h R := by
  obtain ⟨b, h1, h2⟩ := eqL_iff hk (fun v hv he => by
    have := List.all_eq_true.1 hs v hv
    rw [he] at this; cases this)
  refine ⟨b, by rw [hf]; exact h1, ?_⟩
  rintro c rfl
  cases b with
  | true => exact ht (h2.1 rfl)
  | false => exact hn fun he => by simpa using h2.2 he

theorem w2_of {v : AVal} {h : H} {R : R2} (hr : R v h) : w2 v h R := by
  cases v with
  | bool b => rintro c rfl; exact hr
  | _ => exact hr

/-! ### Cuts: a piece of code by itself, what is known of the slots forgotten in part -/

theorem wRun_of {C : Ctx} {S : SV} {g : G} {n : Nat} (KS : SOk S C) (hn : n ≤ 256) {c : Code} {l : Pv} {h : H} {Q : Post} (hw : wC C S g n c l h Q) : wRun C g n c l h Q := fun x e hx A => wC_ok KS hn hx c hw A

theorem wRun_sub {C : Ctx} {g : G} {n : Nat} {c : Code} {l l0 : Pv} {h : H} {Q : Post} (hs : Sub l l0) (hw : wRun C g n c l0 h Q) : wRun C g n c l h Q := fun x e hx A => hw x e hx (A.sub hs.mem)

/-- what follows a piece of code, by a middle -/
def wThen (C : Ctx) (g : G) (n : Nat) (b : Code) (Q : Post) : Post := fun ex l h => match ex with
  | .normal => wRun C g n b l h Q
  | ex => Q ex l h

theorem wRun_seq {C : Ctx} {S : SV} {g : G} {n : Nat} (KS : SOk S C) (hn : n ≤ 256) {a b : Code} {l : Pv} {h : H} {Q : Post} (hw : wC C S g n a l h (wThen C g n b Q)) : wRun C g n (.seq a b) l h Q := by
  intro x e hx A
  obtain ⟨ex, e1, h1, l1, run, A1, hw1⟩ := wC_ok KS hn hx a hw A
  show Sat x (((comp C a).run g x e h).andThen ((comp C b).run g)) Q
  rw [run]
  cases ex with
  | normal => exact hw1 x e1 hx A1
  | exit i => exact ⟨_, _, _, _, rfl, A1, hw1⟩
  | ret => exact ⟨_, _, _, _, rfl, A1, hw1⟩
  | panic c => exact ⟨_, _, _, _, rfl, A1, hw1⟩

/-- a function's end -/
def wEnd (S : SV) (fn : Func) (R : R2) : Post := fun ex l h => match ex with
  | .normal => wRes S l h fn.results.toList (fun vs => R (packA vs) h)
  | .ret => wRes S l h fn.results.toList (fun vs => R (packA vs) h)
  | _ => False

/-- a function, by its body's run -/
theorem wFn_run {C : Ctx} {S : SV} {g : G} (KS : SOk S C) {f : FuncId} {fn : Func} (hf : C.ft.get f = some fn) {c : Code} (hc : fn.body = some c) {args : List AVal} (e1 : args.length ≤ fn.ntmps) (e2 : fn.ntmps ≤ 256) {h : H} {R : R2}
    (hw : wRun C g fn.ntmps c (setP args 0) h (wEnd S fn R)) : ∃ v h', callB C g f args h = .ok v h' ∧ R v h' := by
  obtain ⟨ex, e, h', l, run, A, hq⟩ := hw ⟨⟨f, fn.ntmps, none⟩, [], .nrm⟩ _ rfl (setFrom_agree args 0 (E.empty AVal 4) (by omega))
  have hbody : bodyA C g f fn args .nrm h = .mk ex ⟨⟨f, fn.ntmps, none⟩, [], .nrm⟩ e h' := by
    unfold bodyA
    rw [hc, ox_some, natBle, natBle, len_eq, decide_eq_true e1, decide_eq_true e2]
    exact run
  have done : (ex = .normal ∨ ex = .ret) → wRes S l h' fn.results.toList (fun vs => R (packA vs) h') → ∃ v h', callB C g f args h = .ok v h' ∧ R v h' := fun hex hres => by
    obtain ⟨vs, h1, h2⟩ := wRes_ok KS A hres
    refine ⟨packA vs, h', ?_, h2⟩
    unfold callB
    rw [hf, oe_some, hbody]
    have : bodyEnd C g fn (.mk ex ⟨⟨f, fn.ntmps, none⟩, [], .nrm⟩ e h') = oe (modeOf ex) .bad (fun m => urEnd C e fn.results.toList (unwindA C g [] m h')) := rfl
    rw [this]
    have hm : modeOf ex = some .ret := by rcases hex with rfl | rfl <;> rfl
    rw [hm, oe_some]
    show oe (resA C e h' fn.results.toList) .bad (fun vs => CR.ok (packA vs) h') = _
    rw [h1, oe_some]
  cases ex with
  | normal => exact done (.inl rfl) hq
  | ret => exact done (.inr rfl) hq
  | _ => exact hq.elim

end Go.Sim
end
section
/- Lists: what is moved about within a range; insertion, merging by rotations. Plain lists, no program. -/
namespace Go.SortL

variable {α : Type}

theorem split1 {l : List α} {i : Nat} {x : α} (h : l[i]? = some x) : ∃ p q, l = p ++ x :: q ∧ p.length = i := by
  obtain ⟨hi, hx⟩ := List.getElem?_eq_some_iff.1 h
  refine ⟨l.take i, l.drop (i + 1), ?_, by simp; omega⟩
  rw [← hx, ← List.drop_eq_getElem_cons hi, List.take_append_drop]

theorem split2 {l : List α} {i j : Nat} {x y : α} (hij : i < j) (hi : l[i]? = some x) (hj : l[j]? = some y) : ∃ p m q, l = p ++ x :: (m ++ y :: q) ∧ p.length = i ∧ i + 1 + m.length = j := by
  obtain ⟨p, r, rfl, rfl⟩ := split1 hi
  have : r[j - (p.length + 1)]? = some y := by
    rw [List.getElem?_append_right (by omega)] at hj
    have e : j - p.length = (j - (p.length + 1)) + 1 := by omega
    rw [e, List.getElem?_cons_succ] at hj
    exact hj
  obtain ⟨m, q, rfl, hm⟩ := split1 this
  exact ⟨p, m, q, rfl, rfl, by omega⟩

/-- the range from 'a' to 'b' holds the same elements, the rest is as it was -/
def RP (a b : Nat) (l l' : List α) : Prop := ∃ p s s' q, l = p ++ (s ++ q) ∧ l' = p ++ (s' ++ q) ∧ p.length = a ∧ a + s.length = b ∧ s'.Perm s

theorem RP.refl {a b : Nat} {l : List α} (hab : a ≤ b) (hb : b ≤ l.length) : RP a b l l := by
  refine ⟨l.take a, (l.drop a).take (b - a), _, (l.drop a).drop (b - a), ?_, ?_, ?_, ?_, List.Perm.refl _⟩
  · rw [List.take_append_drop, List.take_append_drop]
  · rw [List.take_append_drop, List.take_append_drop]
  · simp; omega
  · simp; omega

theorem RP.len {a b : Nat} {l l' : List α} (h : RP a b l l') : l'.length = l.length := by
  obtain ⟨p, s, s', q, rfl, rfl, h1, h2, h3⟩ := h
  simp [h3.length_eq]

theorem RP.hi {a b : Nat} {l l' : List α} (h : RP a b l l') : b ≤ l.length := by
  obtain ⟨p, s, s', q, rfl, rfl, h1, h2, h3⟩ := h
  simp; omega

theorem RP.perm {a b : Nat} {l l' : List α} (h : RP a b l l') : l'.Perm l := by
  obtain ⟨p, s, s', q, rfl, rfl, h1, h2, h3⟩ := h
  exact (h3.append_right q).append_left p

theorem RP.out {a b : Nat} {l l' : List α} (h : RP a b l l') {k : Nat} (hk : k < a ∨ b ≤ k) : l'[k]? = l[k]? := by
  obtain ⟨p, s, s', q, rfl, rfl, h1, h2, h3⟩ := h
  have := h3.length_eq
  rcases hk with hk | hk
  · rw [List.getElem?_append_left (by omega), List.getElem?_append_left (by omega)]
  · rw [List.getElem?_append_right (by omega), List.getElem?_append_right (by omega), List.getElem?_append_right (by omega), List.getElem?_append_right (by omega), this]

theorem RP.mem {a b : Nat} {l l' : List α} (h : RP a b l l') {k : Nat} (h1 : a ≤ k) (h2 : k < b) {y : α} (hy : l'[k]? = some y) : ∃ k', a ≤ k' ∧ k' < b ∧ l[k']? = some y := by
  obtain ⟨p, s, s', q, rfl, rfl, e1, e2, e3⟩ := h
  have := e3.length_eq
  rw [List.getElem?_append_right (by omega), List.getElem?_append_left (by omega)] at hy
  obtain ⟨j, hj, hje⟩ := List.getElem_of_mem (e3.mem_iff.1 (List.mem_of_getElem? hy))
  refine ⟨p.length + j, by omega, by omega, ?_⟩
  rw [List.getElem?_append_right (by omega), List.getElem?_append_left (by omega), Nat.add_sub_cancel_left, List.getElem?_eq_getElem hj, hje]

theorem RP.mono {a b a' b' : Nat} {l l' : List α} (h : RP a b l l') (ha : a' ≤ a) (hb : b ≤ b') (hl : b' ≤ l.length) : RP a' b' l l' := by
  obtain ⟨p, s, s', q, rfl, rfl, e1, e2, e3⟩ := h
  have hq : b' - b ≤ q.length := by simp at hl; omega
  refine ⟨p.take a', p.drop a' ++ (s ++ q.take (b' - b)), p.drop a' ++ (s' ++ q.take (b' - b)), q.drop (b' - b), ?_, ?_, by simp; omega, by simp; omega, ?_⟩
  · rw [← List.append_assoc, ← List.append_assoc, ← List.append_assoc, List.take_append_drop, List.append_assoc, List.append_assoc, List.append_assoc, List.take_append_drop]
  · rw [← List.append_assoc, ← List.append_assoc, ← List.append_assoc, List.take_append_drop, List.append_assoc, List.append_assoc, List.append_assoc, List.take_append_drop]
  · exact (e3.append_right _).append_left _

theorem RP.trans {a b : Nat} {l l' l2 : List α} (h : RP a b l l') (k : RP a b l' l2) : RP a b l l2 := by
  obtain ⟨p, s, s', q, rfl, rfl, e1, e2, e3⟩ := h
  obtain ⟨p2, t, t', q2, f0, rfl, f1, f2, f3⟩ := k
  have hl := e3.length_eq
  obtain ⟨rfl, h1⟩ := List.append_inj f0 (by omega)
  obtain ⟨rfl, rfl⟩ := List.append_inj h1 (by omega)
  exact ⟨p, s, t', q, rfl, rfl, e1, e2, f3.trans e3⟩

/-- two elements change their places -/
theorem RP.swap {a b i j : Nat} {l : List α} {x y : α} (hij : i < j) (hi : l[i]? = some x) (hj : l[j]? = some y) (ha : a ≤ i) (hb : j < b) (hl : b ≤ l.length) : RP a b l ((l.set i y).set j x) := by
  obtain ⟨p, m, q, rfl, rfl, rfl⟩ := split2 hij hi hj
  have : ((p ++ x :: (m ++ y :: q)).set p.length y).set (p.length + 1 + m.length) x = p ++ y :: (m ++ x :: q) := by
    rw [List.set_append, if_neg (Nat.lt_irrefl _), Nat.sub_self, List.set_cons_zero, List.set_append, if_neg (by omega)]
    have e : p.length + 1 + m.length - p.length = m.length + 1 := by omega
    rw [e, List.set_cons_succ, List.set_append, if_neg (Nat.lt_irrefl _), Nat.sub_self, List.set_cons_zero]
  rw [this]
  refine RP.mono (a := p.length) (b := p.length + 1 + m.length + 1) ⟨p, x :: (m ++ [y]), y :: (m ++ [x]), q, by simp, by simp, rfl, by simp; omega, ?_⟩ ha (by omega) hl
  have h1 : (y :: (m ++ [x])).Perm (y :: x :: m) := (List.perm_append_singleton x m).cons y
  have h2 : (x :: (m ++ [y])).Perm (x :: y :: m) := (List.perm_append_singleton y m).cons x
  exact h1.trans ((List.Perm.swap x y m).trans h2.symm)

theorem swap_get {i j k : Nat} {l : List α} {x y : α} (hij : i < j) (hi : l[i]? = some x) (hj : l[j]? = some y) : ((l.set i y).set j x)[k]? = if k = j then some x else if k = i then some y else l[k]? := by
  have h1 := (List.getElem?_eq_some_iff.1 hi).1
  have h2 := (List.getElem?_eq_some_iff.1 hj).1
  by_cases e1 : k = j
  · subst e1; rw [if_pos rfl, List.getElem?_set_self (by simpa using h2)]
  · rw [if_neg e1, List.getElem?_set_ne (fun h => e1 h.symm)]
    by_cases e2 : k = i
    · subst e2; rw [if_pos rfl, List.getElem?_set_self h1]
    · rw [if_neg e2, List.getElem?_set_ne (fun h => e2 h.symm)]

/-! ### Order -/

structure Ord (le : α → α → Prop) : Prop where
  refl : ∀ x, le x x
  trans : ∀ x y z, le x y → le y z → le x z

def SR (le : α → α → Prop) (a b : Nat) (l : List α) : Prop := ∀ u v x y, a ≤ u → u < v → v < b → l[u]? = some x → l[v]? = some y → le x y

variable {le : α → α → Prop}

theorem SR.le' (O : Ord le) {a b : Nat} {l : List α} (S : SR le a b l) {u v : Nat} {x y : α} (h1 : a ≤ u) (h2 : u ≤ v) (h3 : v < b) (hx : l[u]? = some x) (hy : l[v]? = some y) : le x y := by
  by_cases e : u = v
  · subst e; rw [hx] at hy; cases hy; exact O.refl x
  · exact S u v x y h1 (by omega) h3 hx hy

theorem SR.sub {a b a' b' : Nat} {l : List α} (S : SR le a b l) (h1 : a ≤ a') (h2 : b' ≤ b) : SR le a' b' l := fun u v x y e1 e2 e3 e4 e5 => S u v x y (by omega) e2 (by omega) e4 e5

theorem SR.triv {a b : Nat} {l : List α} (h : b ≤ a + 1) : SR le a b l := fun u v x y e1 e2 e3 => by omega

theorem SR.eq {a b : Nat} {l l' : List α} (S : SR le a b l) (h : ∀ k, a ≤ k → k < b → l'[k]? = l[k]?) : SR le a b l' := fun u v x y e1 e2 e3 e4 e5 => S u v x y e1 e2 e3 (by rw [← h u e1 (by omega)]; exact e4) (by rw [← h v (by omega) e3]; exact e5)

/-! ### Insertion: the element at 'j' of a range that is sorted but for it moves down -/

def InsAt (le : α → α → Prop) (a i j : Nat) (l : List α) : Prop := ∀ u v x y, a ≤ u → u < v → v ≤ i → v ≠ j → l[u]? = some x → l[v]? = some y → le x y

theorem InsAt.start {a i : Nat} {l : List α} (S : SR le a i l) : InsAt le a i i l := fun u v x y h1 h2 h3 h4 hx hy => S u v x y h1 h2 (by omega) hx hy

theorem InsAt.low {a i : Nat} {l : List α} (I : InsAt le a i a l) : SR le a (i + 1) l := fun u v x y h1 h2 h3 hx hy => I u v x y h1 h2 (by omega) (by omega) hx hy

theorem InsAt.stop (O : Ord le) {a i j : Nat} {l : List α} (I : InsAt le a i j l) (hj : a < j) (hji : j ≤ i) {x y : α} (hx : l[j]? = some x) (hy : l[j - 1]? = some y) (h : le y x) : SR le a (i + 1) l := by
  intro u v x' y' h1 h2 h3 hx' hy'
  by_cases e : v = j
  · subst e
    rw [hx] at hy'; cases hy'
    by_cases e' : u = v - 1
    · subst e'; rw [hy] at hx'; cases hx'; exact h
    · exact O.trans _ _ _ (I u (v - 1) x' y h1 (by omega) (by omega) (by omega) hx' hy) h
  · exact I u v x' y' h1 h2 (by omega) e hx' hy'

theorem InsAt.step {a i j : Nat} {l : List α} (I : InsAt le a i j l) (hj : a < j) (hji : j ≤ i) {x y : α} (hx : l[j]? = some x) (hy : l[j - 1]? = some y) (h : le x y) : InsAt le a i (j - 1) ((l.set (j - 1) x).set j y) := by
  intro u v x' y' h1 h2 h3 h4 hx' hy'
  rw [swap_get (by omega) hy hx] at hx' hy'
  split at hy'
  · cases hy'
    split at hx'
    · cases hx'; omega
    · split at hx'
      · cases hx'; exact h
      · exact I u (j - 1) x' y h1 (by omega) (by omega) (by omega) hx' hy
  · split at hx'
    · cases hx'
      exact I (j - 1) v y y' (by omega) (by omega) h3 (by omega) hy hy'
    · split at hx'
      · cases hx'
        exact I j v x y' (by omega) (by omega) h3 (by omega) hx hy'
      · exact I u v x' y' h1 h2 h3 (by omega) hx' hy'

/-! ### Rotations -/

/-- the ranges from 's' to 'm' and from 'm' to 'e' have changed their places -/
def Rot (s m e : Nat) (l l' : List α) : Prop := ∃ p A B q, l = p ++ (A ++ (B ++ q)) ∧ l' = p ++ (B ++ (A ++ q)) ∧ p.length = s ∧ s + A.length = m ∧ m + B.length = e

theorem Rot.RP {s m e : Nat} {l l' : List α} (R : Rot s m e l l') : RP s e l l' := by
  obtain ⟨p, A, B, q, rfl, rfl, h1, h2, h3⟩ := R
  exact ⟨p, A ++ B, B ++ A, q, by simp, by simp, h1, by simp; omega, List.perm_append_comm⟩

theorem Rot.lo {s m e k : Nat} {l l' : List α} (R : Rot s m e l l') (h1 : s ≤ k) (h2 : k < s + (e - m)) : l'[k]? = l[k + (m - s)]? := by
  obtain ⟨p, A, B, q, rfl, rfl, e1, e2, e3⟩ := R
  rw [List.getElem?_append_right (by omega), List.getElem?_append_left (by omega), List.getElem?_append_right (by omega), List.getElem?_append_right (by omega), List.getElem?_append_left (by omega)]
  congr 1; omega

theorem Rot.up {s m e k : Nat} {l l' : List α} (R : Rot s m e l l') (h1 : s + (e - m) ≤ k) (h2 : k < e) : l'[k]? = l[k - (e - m)]? := by
  obtain ⟨p, A, B, q, rfl, rfl, e1, e2, e3⟩ := R
  rw [List.getElem?_append_right (by omega), List.getElem?_append_right (by omega), List.getElem?_append_left (by omega), List.getElem?_append_right (by omega), List.getElem?_append_left (by omega)]
  congr 1; omega

theorem Rot.bnd {s m e : Nat} {l l' : List α} (R : Rot s m e l l') : s ≤ m ∧ m ≤ e := by
  obtain ⟨p, A, B, q, rfl, rfl, e1, e2, e3⟩ := R
  omega

theorem Rot.id1 {m e : Nat} {l : List α} (h1 : m ≤ e) (h2 : e ≤ l.length) : Rot m m e l l :=
  ⟨l.take m, [], (l.drop m).take (e - m), (l.drop m).drop (e - m), by rw [List.nil_append, List.take_append_drop, List.take_append_drop], by rw [List.nil_append, List.take_append_drop, List.take_append_drop], by simp; omega, by simp, by simp; omega⟩

theorem Rot.id2 {s m : Nat} {l : List α} (h1 : s ≤ m) (h2 : m ≤ l.length) : Rot s m m l l :=
  ⟨l.take s, (l.drop s).take (m - s), [], (l.drop s).drop (m - s), by rw [List.nil_append, List.take_append_drop, List.take_append_drop], by rw [List.nil_append, List.take_append_drop, List.take_append_drop], by simp; omega, by simp; omega, by simp⟩

theorem dec4 {s m e : Nat} {l : List α} (h1 : s ≤ m) (h2 : m ≤ e) (h3 : e ≤ l.length) : ∃ p A B q, l = p ++ (A ++ (B ++ q)) ∧ p.length = s ∧ s + A.length = m ∧ m + B.length = e := by
  refine ⟨l.take s, (l.drop s).take (m - s), ((l.drop s).drop (m - s)).take (e - m), ((l.drop s).drop (m - s)).drop (e - m), ?_, ?_, ?_, ?_⟩
  · rw [List.take_append_drop, List.take_append_drop, List.take_append_drop]
  · rw [List.length_take]; omega
  · rw [List.length_take, List.length_drop]; omega
  · rw [List.length_take, List.length_drop, List.length_drop]; omega

/-! ### The two ranges of a merge, behind the rotation -/

theorem sym_cross (O : Ord le) {a m b mid s e lo hi : Nat} {l l' : List α} (S1 : SR le a m l) (S2 : SR le m b l) (h1 : a < m) (h2 : m < b) (hbl : b ≤ l.length) (hs1 : a ≤ s) (hs2 : s ≤ m) (hse : s + e = mid + m) (hme : m ≤ e) (heb : e ≤ b) (ham : a ≤ mid) (hmb : mid ≤ b)
    (hlo : lo = a ∨ lo + b = mid + m) (hhi : hi = m ∨ hi = mid) (hlos : lo ≤ s) (hshi : s ≤ hi)
    (P1 : lo < s → ∀ x y, l[s - 1]? = some x → l[e]? = some y → le x y) (P2 : s < hi → ∀ x y, l[e - 1]? = some x → l[s]? = some y → le x y) (R : Rot s m e l l') :
    ∀ u v x y, a ≤ u → u < mid → mid ≤ v → v < b → l'[u]? = some x → l'[v]? = some y → le x y := by
  intro u v x y hu1 hu2 hv1 hv2 hx hy
  have hge : ∀ k, k < b → ∃ z, l[k]? = some z := fun k hk => ⟨_, List.getElem?_eq_getElem (Nat.lt_of_lt_of_le hk hbl)⟩
  by_cases hus : u < s
  · rw [R.RP.out (.inl hus)] at hx
    by_cases hve : v < e
    · rw [R.up (by omega) hve] at hy
      exact S1.le' O hu1 (by omega) (by omega) hx hy
    · rw [R.RP.out (.inr (by omega))] at hy
      obtain ⟨w, hw⟩ := hge (s - 1) (by omega)
      obtain ⟨z, hz⟩ := hge e (by omega)
      exact O.trans _ _ _ (S1.le' O hu1 (by omega) (by omega) hx hw) (O.trans _ _ _ (P1 (by omega) w z hw hz) (S2.le' O hme (by omega) hv2 hz hy))
  · rw [R.lo (by omega) (by omega)] at hx
    by_cases hve : v < e
    · rw [R.up (by omega) hve] at hy
      obtain ⟨w, hw⟩ := hge (e - 1) (by omega)
      obtain ⟨z, hz⟩ := hge s (by omega)
      exact O.trans _ _ _ (S2.le' O (by omega) (by omega) (by omega) hx hw) (O.trans _ _ _ (P2 (by omega) w z hw hz) (S1.le' O hs1 (by omega) (by omega) hz hy))
    · rw [R.RP.out (.inr (by omega))] at hy
      exact S2.le' O (by omega) (by omega) hv2 hx hy

theorem Rot.left {s m e a mid : Nat} {l l' : List α} (S1 : SR le a m l) (S2 : SR le m e l) (R : Rot s m e l l') (hse : s + e = mid + m) (hs1 : a ≤ s) : SR le a s l' ∧ SR le s mid l' ∧ SR le mid e l' := by
  have hle := R.bnd
  refine ⟨(S1.sub (Nat.le_refl _) hle.1).eq fun k _ hk => R.RP.out (.inl hk), ?_, ?_⟩
  · intro u v x y h1 h2 h3 hx hy
    rw [R.lo (by omega) (by omega)] at hx hy
    exact S2 _ _ x y (by omega) (by omega) (by omega) hx hy
  · intro u v x y h1 h2 h3 hx hy
    rw [R.up (by omega) (by omega)] at hx hy
    exact S1 _ _ x y (by omega) (by omega) (by omega) hx hy

/-- two ranges that are sorted, the one below the other -/
theorem join2 {a mid b : Nat} {l l1 l2 : List α} (R1 : RP a mid l l1) (T1 : SR le a mid l1) (R2 : RP mid b l1 l2) (T2 : SR le mid b l2)
    (hc : ∀ u v x y, a ≤ u → u < mid → mid ≤ v → v < b → l[u]? = some x → l[v]? = some y → le x y) : SR le a b l2 := by
  intro u v x y h1 h2 h3 hx hy
  by_cases hv : v < mid
  · rw [R2.out (.inl (by omega))] at hx hy
    exact T1 u v x y h1 h2 hv hx hy
  · by_cases hu : u < mid
    · rw [R2.out (.inl hu)] at hx
      obtain ⟨u', a1, a2, hu'⟩ := R1.mem h1 hu hx
      obtain ⟨v', b1, b2, hv'⟩ := R2.mem (by omega) h3 hy
      rw [R1.out (.inr b1)] at hv'
      exact hc u' v' x y a1 a2 b1 b2 hu' hv'
    · exact T2 u v x y (by omega) h2 h3 hx hy

/-- one element of the left, many of the right -/
theorem ins_left (O : Ord le) {a b i : Nat} {l l' : List α} (S2 : SR le (a + 1) b l) (hi1 : a + 1 ≤ i) (hi2 : i ≤ b) (hbl : b ≤ l.length)
    (P1 : a + 1 < i → ∀ x y, l[i - 1]? = some x → l[a]? = some y → le x y) (P2 : i < b → ∀ x y, l[a]? = some x → l[i]? = some y → le x y) (R : Rot a (a + 1) i l l') : SR le a b l' := by
  intro u v x y h1 h2 h3 hx hy
  have hge : ∀ k, k < b → ∃ z, l[k]? = some z := fun k hk => ⟨_, List.getElem?_eq_getElem (Nat.lt_of_lt_of_le hk hbl)⟩
  by_cases hv : v < i
  · rw [R.lo (by omega) (by omega)] at hx
    by_cases hv' : v < i - 1
    · rw [R.lo (by omega) (by omega)] at hy
      exact S2 _ _ x y (by omega) (by omega) (by omega) hx hy
    · rw [R.up (by omega) (by omega)] at hy
      have e : v - (i - (a + 1)) = a := by omega
      rw [e] at hy
      obtain ⟨w, hw⟩ := hge (i - 1) (by omega)
      exact O.trans _ _ _ (S2.le' O (by omega) (by omega) (by omega) hx hw) (P1 (by omega) w y hw hy)
  · rw [R.RP.out (.inr (by omega))] at hy
    by_cases hu : u < i
    · by_cases hu' : u < i - 1
      · rw [R.lo (by omega) (by omega)] at hx
        exact S2 _ _ x y (by omega) (by omega) (by omega) hx hy
      · rw [R.up (by omega) (by omega)] at hx
        have e : u - (i - (a + 1)) = a := by omega
        rw [e] at hx
        obtain ⟨w, hw⟩ := hge i (by omega)
        exact O.trans _ _ _ (P2 (by omega) x w hx hw) (S2.le' O (by omega) (by omega) h3 hw hy)
    · rw [R.RP.out (.inr (by omega))] at hx
      exact S2 u v x y (by omega) h2 h3 hx hy

/-- many elements of the left, one of the right -/
theorem ins_right (O : Ord le) {a m i : Nat} {l l' : List α} (S1 : SR le a m l) (hi1 : a ≤ i) (hi2 : i ≤ m) (hbl : m < l.length)
    (P1 : a < i → ∀ x y, l[i - 1]? = some x → l[m]? = some y → le x y) (P2 : i < m → ∀ x y, l[m]? = some x → l[i]? = some y → le x y) (R : Rot i m (m + 1) l l') : SR le a (m + 1) l' := by
  intro u v x y h1 h2 h3 hx hy
  have hge : ∀ k, k < m + 1 → ∃ z, l[k]? = some z := fun k hk => ⟨_, List.getElem?_eq_getElem (Nat.lt_of_lt_of_le hk hbl)⟩
  by_cases hu : u < i
  · rw [R.RP.out (.inl hu)] at hx
    by_cases hv : v < i
    · rw [R.RP.out (.inl hv)] at hy
      exact S1 u v x y h1 h2 (by omega) hx hy
    · by_cases hv' : v < i + 1
      · rw [R.lo (by omega) (by omega)] at hy
        have e : v + (m - i) = m := by omega
        rw [e] at hy
        obtain ⟨w, hw⟩ := hge (i - 1) (by omega)
        exact O.trans _ _ _ (S1.le' O (by omega) (by omega) (by omega) hx hw) (P1 (by omega) w y hw hy)
      · rw [R.up (by omega) (by omega)] at hy
        exact S1 _ _ x y (by omega) (by omega) (by omega) hx hy
  · rw [R.up (k := v) (by omega) (by omega)] at hy
    by_cases hu' : u < i + 1
    · rw [R.lo (by omega) (by omega)] at hx
      have e : u + (m - i) = m := by omega
      rw [e] at hx
      obtain ⟨w, hw⟩ := hge i (by omega)
      exact O.trans _ _ _ (P2 (by omega) x w hx hw) (S1.le' O (by omega) (by omega) (by omega) hw hy)
    · rw [R.up (by omega) (by omega)] at hx
      exact S1 _ _ x y (by omega) (by omega) (by omega) hx hy

end Go.SortL
end
section
/- Operations that the weakest precondition has no clause of: slices that are built, append, maps, clear, conversions of integers. -/
namespace Go.Sim

noncomputable section

structure ElOk (C : Ctx) (t sz bytes : Nat) (z : List AVal) : Prop where
  ok : ∃ ti e te, C.tt.get t = some ti ∧ ti.desc = .slice e ∧ C.tt.get e = some te ∧ te.sz = sz ∧ te.bytes = bytes ∧ te.zero = some z

def elzOf (C : Ctx) (t : Nat) : Option (Nat × Nat × List AVal) := ob (C.tt.get t) (fun ti => ob (sliceD ti.desc) (fun e => ob (C.tt.get e) (fun te => ob te.zero (fun z => some (te.sz, te.bytes, z)))))

theorem sliceD_some {d : TypeDesc} {e : TypeId} (h : sliceD d = some e) : d = .slice e := by
  cases d with
  | slice e' => cases h; rfl
  | _ => cases h

theorem elz_ok {C : Ctx} {t sz bytes : Nat} {z : List AVal} (h : elzOf C t = some (sz, bytes, z)) : ElOk C t sz bytes z := by
  unfold elzOf at h
  obtain ⟨ti, h1, h⟩ := ob_eq.1 h
  obtain ⟨e, h2, h⟩ := ob_eq.1 h
  obtain ⟨te, h3, h⟩ := ob_eq.1 h
  obtain ⟨z', h4, h⟩ := ob_eq.1 h
  cases h
  exact ⟨ti, e, te, h1, sliceD_some h2, h3, rfl, rfl, h4⟩

structure MpOk (C : Ctx) (t kt : Nat) (dk : TypeDesc) (z : AVal) : Prop where
  ok : ∃ ti et tk te, C.tt.get t = some ti ∧ mapD ti.desc = some (kt, et) ∧ C.tt.get kt = some tk ∧ tk.desc = dk ∧ C.tt.get et = some te ∧ zeroV te = some z

def mpOf (C : Ctx) (t : Nat) : Option (Nat × TypeDesc × AVal) := ob (C.tt.get t) (fun ti => ob (mapD ti.desc) (fun p => ob (C.tt.get p.1) (fun tk => ob (C.tt.get p.2) (fun te => ob (zeroV te) (fun z => some (p.1, tk.desc, z))))))

theorem mp_ok {C : Ctx} {t kt : Nat} {dk : TypeDesc} {z : AVal} (h : mpOf C t = some (kt, dk, z)) : MpOk C t kt dk z := by
  unfold mpOf at h
  obtain ⟨ti, h1, h⟩ := ob_eq.1 h
  obtain ⟨⟨k, e⟩, h2, h⟩ := ob_eq.1 h
  obtain ⟨tk, h3, h⟩ := ob_eq.1 h
  obtain ⟨te, h4, h⟩ := ob_eq.1 h
  obtain ⟨z', h5, h⟩ := ob_eq.1 h
  cases h
  exact ⟨ti, e, tk, te, h1, h2, h3, rfl, h4, h5⟩

theorem so_some {α : Type} (a : α) (k : α → OpF) : so (some a) k = k a := rfl

variable {C : Ctx} {g : G} {n : Nat}

/-! ### A slice that is built -/

def wPl (l : Pv) (sz : Nat) : List (Nat × Operand) → Option (List (Nat × Nat × AVal))
  | [] => some []
  | p :: r => ob (evP l p.2) (fun v => ob (wPl l sz r) (fun r => some ((Nat.mul p.1 sz, sz, v) :: r)))

theorem wPl_ok {l : Pv} {e : Env} (A : Agree l e) {sz : Nat} : ∀ {ps : List (Nat × Operand)} {q : List (Nat × Nat × AVal)}, wPl l sz ps = some q → (placesN sz ps).run e = some q
  | [], q, h => h
  | p :: r, q, h => by
    have h : ob (evP l p.2) (fun v => ob (wPl l sz r) (fun r => some ((Nat.mul p.1 sz, sz, v) :: r))) = some q := h
    obtain ⟨v, h1, h⟩ := ob_eq.1 h
    obtain ⟨q', h2, h⟩ := ob_eq.1 h
    show ob ((evF p.2).run e) (fun v => ob ((placesN sz r).run e) (fun r => some ((Nat.mul p.1 sz, sz, v) :: r))) = some q
    rw [evP_ok A h1, ob_some, wPl_ok A h2, ob_some]; exact h

theorem buildSl_run {t sz bytes k : Nat} {z : List AVal} (E : ElOk C t sz bytes z) {ps : Array (Nat × Operand)} {l : Pv} {q : List (Nat × Nat × AVal)} {cs : List AVal} (hp : wPl l sz ps.toList = some q) (hf : fillA q (rep z k) = some cs)
    (hk : k * sz ≤ 16777216) {h : H} (hr : h.room = true) : OpRun C g n (.buildSlice t k ps) l h (.slc (some (h.next, 0)) k k) (h.alloc (.cells cs sz false false [])) := by
  intro d x e p kk hx A
  obtain ⟨ti, el, te, h1, h2, h3, rfl, h5, h6⟩ := E.ok
  show (opBuildSl C t k ps d).run g x e h p kk = _
  have : opBuildSl C t k ps d = so (C.tt.get t) (fun ti => so (sliceD ti.desc) (fun el => so (C.tt.get el) (fun te => so te.zero (fun z =>
    sel (Nat.ble (Nat.mul k te.sz) 16777216)
      ⟨fun _ x e h _ kk => ox ((placesN te.sz ps.toList).run e) (fun l => ox (fillA l (rep z k)) (fun cs => allocS d x e h kk (.cells cs te.sz false false []) k k))⟩ OpF.bad)))) := rfl
  rw [this, h1, so_some, h2]
  show (so (some el) _).run g x e h p kk = _
  rw [so_some, h3, so_some, h6, so_some, natBle, natMul, decide_eq_true hk]
  show ox ((placesN te.sz ps.toList).run e) _ = _
  rw [wPl_ok A hp, ox_some, hf, ox_some]
  show sel h.room _ _ = _
  rw [hr]

/-! ### append -/

theorem appF_run {c : Call} {t t2 sz bytes : Nat} {z : List AVal} (hc : c.callee = .builtin .append) {a b : Operand} (hts : c.argTypes.toList = [t, t2]) (has : c.args.toList = [a, b]) (E : ElOk C t sz bytes z) (h2 : secondT C [t, t2] = true)
    {l : Pv} {s : Option (Nat × Nat)} {m cap k : Nat} {y : AVal} {new : List AVal} (hu : evP l a = some (.slc s m cap)) (hy : evP l b = some y) {h h' : H} {v : AVal} (hr : readSl h sz y = some (k, new))
    (hq : ∀ d x e kk, appendA d x e h kk sz bytes s m cap k new = (putF d).run v x e h' kk) : OpRun C g n (.call c) l h v h' := by
  intro d x e p kk hx A
  obtain ⟨ti, el, te, e1, e2, e3, rfl, rfl, e6⟩ := E.ok
  show (calleeF C c.argTypes.toList c.args.toList d c.callee).run g x e h p kk = _
  rw [hc, hts, has]
  show (bAppend C [t, t2] [a, b] d).run g x e h p kk = _
  have hel : elemT C [t, t2] = some te := by
    show ob (C.tt.get t) (fun ti => ob (sliceD ti.desc) (fun el => C.tt.get el)) = _
    rw [e1, ob_some, e2]; exact e3
  have : bAppend C [t, t2] [a, b] d = so (elemT C [t, t2]) (fun te => so te.zero (fun _ => sel (secondT C [t, t2]) (appF te a b d) OpF.bad)) := rfl
  rw [this, hel, so_some, e6, so_some, h2]
  show evX e a _ = _
  rw [evX_ok A hu]
  show evX e b _ = _
  rw [evX_ok A hy]
  show ox (readSl h te.sz y) _ = _
  rw [hr, ox_some]
  exact hq d x e kk

/-- nothing is appended -/
theorem append_zero {sz bytes : Nat} {s : Option (Nat × Nat)} {m cap : Nat} {new : List AVal} {h : H} (hm : m ≤ cap) (d : Option Nat) (x : FX) (e : Env) (kk : K) :
    appendA d x e h kk sz bytes s m cap 0 new = (putF d).run (.slc s m cap) x e h kk := by
  show sel (Nat.ble m cap) ((putF d).run (.slc s m cap) x e h kk) .bad = _
  rw [natBle, decide_eq_true hm]

/-- a list that grows by 'append': nothing yet, or a block of its own -/
structure Grow (h : H) (sz : Nat) (s : Option (Nat × Nat)) (m cap : Nat) (rows : List (List AVal)) : Prop where
  len : m = rows.length
  cap : cap = m
  blk : (s = none ∧ rows = []) ∨ ∃ b opn pars, s = some (b, 0) ∧ b < h.next ∧ h.get b = some (.cells rows.flatten sz opn false pars)
  row : ∀ r ∈ rows, r.length = sz

/-- what else than some blocks is as it was; at most 'k' blocks more -/
structure KeptX (X : Nat → Prop) (k : Nat) (h h' : H) : Prop where
  next : h.next ≤ h'.next
  few : h'.next ≤ h.next + k
  get : ∀ b, b < h.next → ¬ X b → h'.get b = h.get b
  lo : ∀ N, N ≤ h.lo → N ≤ h.next → (∀ b, X b → b < h.next → N ≤ b) → N ≤ h'.lo

theorem Kept.toX {X : Nat → Prop} {k : Nat} {h h' : H} (K : Kept k h h') : KeptX X k h h' := ⟨K.next, K.few, fun b hb _ => K.get b hb, fun N h1 h2 _ => by have := K.lo; omega⟩
theorem KeptX.refl {X : Nat → Prop} {k : Nat} (h : H) : KeptX X k h h := (Kept.refl h).toX
theorem KeptX.mono {X Y : Nat → Prop} {k k' : Nat} {h h' : H} (K : KeptX X k h h') (hX : ∀ b, b < h.next → X b → Y b) (hk : k ≤ k') : KeptX Y k' h h' :=
  ⟨K.next, by have := K.few; omega, fun b hb hn => K.get b hb fun hx => hn (hX b hb hx), fun N h1 h2 h3 => K.lo N h1 h2 fun b hb hl => h3 b (hX b hl hb) hl⟩
theorem KeptX.trans {X : Nat → Prop} {k k' : Nat} {a b c : H} (x : KeptX X k a b) (y : KeptX X k' b c) : KeptX X (k + k') a c where
  next := Nat.le_trans x.next y.next
  few := by have := x.few; have := y.few; omega
  get := fun i hi hn => (y.get i (Nat.lt_of_lt_of_le hi x.next) hn).trans (x.get i hi hn)
  lo := fun N h1 h2 h3 => y.lo N (x.lo N h1 h2 h3) (Nat.le_trans h2 x.next) fun b hb hl => by
    by_cases h : b < a.next
    · exact h3 b hb h
    · omega

/-- blocks that were not there at first do not count -/
theorem Kept.thenX {X : Nat → Prop} {k k' : Nat} {a b c : H} (x : Kept k a b) (y : KeptX X k' b c) (hX : ∀ i, X i → a.next ≤ i) : Kept (k + k') a c where
  next := Nat.le_trans x.next y.next
  few := by have := x.few; have := y.few; omega
  get := fun i hi => (y.get i (Nat.lt_of_lt_of_le hi x.next) fun h => by have := hX i h; omega).trans (x.get i hi)
  lo := y.lo (min a.lo a.next) (by have := x.lo; omega) (by have := x.next; omega) fun b hb _ => by have := hX b hb; omega

theorem setO_next (h : H) (b : Nat) (o : AObj) : (h.setO b o).next = h.next := by cases h; rfl
theorem setO_lo (h : H) (b : Nat) (o : AObj) : (h.setO b o).lo = min h.lo b := by cases h; exact minN_eq _ _

theorem KeptX.setO {h : H} (hc : h.next ≤ 1048576) {b : Nat} (hb : b < h.next) (o : AObj) : KeptX (fun x => x = b) 0 h (h.setO b o) where
  next := by rw [setO_next]; exact Nat.le_refl _
  few := by rw [setO_next]; exact Nat.le_refl _
  get := fun x hx hn => by rw [H.setO_get h o (by omega) (by omega), if_neg hn]
  lo := fun N h1 h2 h3 => by rw [setO_lo]; have := h3 b rfl hb; omega

theorem setO_self {h : H} (hc : h.next ≤ 1048576) {b : Nat} (hb : b < h.next) (o : AObj) : (h.setO b o).get b = some o := by
  rw [H.setO_get h o (by omega) (by omega), if_pos rfl]

theorem flatten_len {rows : List (List AVal)} {sz : Nat} (hr : ∀ r ∈ rows, r.length = sz) : rows.flatten.length = rows.length * sz := by
  induction rows with
  | nil => simp
  | cons a r ih =>
    rw [List.flatten_cons, List.length_append, ih fun x hx => hr x (List.mem_cons_of_mem _ hx), hr a (List.mem_cons_self ..), List.length_cons, Nat.add_mul]
    omega

/-- rows are appended -/
theorem Grow.app {h : H} {sz bytes m cap : Nat} {s : Option (Nat × Nat)} {rows new : List (List AVal)} (R : Grow h sz s m cap rows) (hc : h.next < 1048576) (hnew : ∀ r ∈ new, r.length = sz) (hne : new ≠ []) (hb1 : 1 ≤ bytes) (hb2 : bytes ≤ 1073741824) (hs1 : 1 ≤ sz)
    (hbig : (m + new.length) * bytes ≤ 1099511627776) (hamb : rows.length * sz < amb) (hpl : plains new.flatten = true) :
    ∃ h' s', (∀ d x e kk, appendA d x e h kk sz bytes s m cap new.length new.flatten = (putF d).run (.slc s' (m + new.length) (m + new.length)) x e h' kk) ∧ Grow h' sz s' (m + new.length) (m + new.length) (rows ++ new) ∧
      KeptX (fun b => s = some (b, 0)) 1 h h' ∧ s' = some (h.next, 0) ∧ ∀ b, s = some (b, 0) → ∃ vs pars opn frz, h.get b = some (.cells vs sz opn false pars) ∧ h'.get b = some (.cells vs sz opn frz pars) := by
  obtain ⟨rfl, rfl, hblk, hrow⟩ := R
  have hn0 : new.length ≠ 0 := fun he => hne (List.eq_nil_of_length_eq_zero he)
  have hnl : new.flatten.length = new.length * sz := flatten_len hnew
  have hrow' : ∀ r ∈ rows ++ new, r.length = sz := fun r hr => by
    rcases List.mem_append.1 hr with hr | hr
    · exact hrow r hr
    · exact hnew r hr
  have start : ∀ d x e kk, appendA d x e h kk sz bytes s rows.length rows.length new.length new.flatten = appendB d x e h kk sz s rows.length rows.length new.length new.flatten := fun d x e kk => by
    have : appendA d x e h kk sz bytes s rows.length rows.length new.length new.flatten = sel (Nat.beq new.length 0) (sel (Nat.ble rows.length rows.length) ((putF d).run (.slc s rows.length rows.length) x e h kk) .bad)
      (sel (Nat.ble (Nat.mul (Nat.add rows.length new.length) bytes) 1099511627776 && Nat.ble 1 bytes && Nat.ble bytes 1073741824 && Nat.beq (Sim.len new.flatten) (Nat.mul new.length sz)) (appendB d x e h kk sz s rows.length rows.length new.length new.flatten) .bad) := rfl
    have q0 : Nat.beq new.length 0 = false := by rw [natBeq]; exact decide_eq_false hn0
    have q1 : Nat.ble (Nat.mul (Nat.add rows.length new.length) bytes) 1099511627776 = true := by rw [natBle, natMul, natAdd]; exact decide_eq_true hbig
    have q2 : Nat.ble 1 bytes = true := by rw [natBle]; exact decide_eq_true hb1
    have q3 : Nat.ble bytes 1073741824 = true := by rw [natBle]; exact decide_eq_true hb2
    have q4 : Nat.beq (Sim.len new.flatten) (Nat.mul new.length sz) = true := by rw [natBeq, len_eq, natMul]; exact decide_eq_true hnl
    rw [this, q0, q1, q2, q3, q4]
    rfl
  have room : h.room = true := (room_iff h).2 hc
  rcases hblk with ⟨rfl, rfl⟩ | ⟨b, opn, pars, rfl, hb, hg⟩
  · refine ⟨h.alloc (.cells new.flatten sz true false []), some (h.next, 0), fun d x e kk => ?_, ⟨by simp, rfl, .inr ⟨h.next, true, [], rfl, by rw [alloc_next]; omega, by rw [alloc_get_new hc]; rfl⟩, hrow'⟩, (Kept.alloc hc _).toX, rfl, fun b hb => by cases hb⟩
    rw [start]
    show sel h.room _ _ = _
    rw [room]
    show _ = (putF d).run (.slc (some (h.next, 0)) (0 + new.length) (0 + new.length)) x e _ kk
    rw [Nat.zero_add]
  · have hle : Nat.ble (Nat.add rows.length new.length) rows.length = false := by rw [natBle, natAdd]; exact decide_eq_false (by omega)
    have hfl : rows.flatten.length = rows.length * sz := flatten_len hrow
    have htake : takeX (Nat.mul rows.length sz) (dropX 0 rows.flatten) = some rows.flatten := by
      rw [takeX_eq, dropX_eq, List.drop_zero, natMul, if_pos (by omega), List.take_of_length_le (by omega)]
    have hB : ∀ d x e kk, appendB d x e h kk sz (some (b, 0)) rows.length rows.length new.length new.flatten = appendNew d x e h kk sz (some (b, 0)) rows.length rows.length new.length 0 new.flatten rows.flatten sz opn false pars b := fun d x e kk => by
      show sel (Nat.ble (Nat.add rows.length new.length) rows.length) _ (onCells (h.get b) _) = _
      rw [hle, hg]; rfl
    have hcl : closedEnd h sz (some (b, 0)) rows.length = !opn := by
      show sel (Nat.ble amb 0) false (closedE sz 0 rows.length (h.get b)) = _
      rw [hg]
      have : Nat.ble amb 0 = false := by rw [natBle]; exact decide_eq_false (by decide)
      rw [this]
      show sel opn (sel (Nat.beq sz sz) (Nat.blt (Nat.add 0 (Nat.mul rows.length sz)) (Sim.len rows.flatten)) false) true = _
      cases opn with
      | false => rfl
      | true =>
        show sel (Nat.beq sz sz) (Nat.blt (Nat.add 0 (Nat.mul rows.length sz)) (Sim.len rows.flatten)) false = false
        rw [natBlt, len_eq, natAdd, natMul, Nat.zero_add, decide_eq_false (by omega)]
        cases Nat.beq sz sz <;> rfl
    have hN : ∀ d x e kk, appendNew d x e h kk sz (some (b, 0)) rows.length rows.length new.length 0 new.flatten rows.flatten sz opn false pars b =
        sel (!opn) (allocS d x e h kk (.cells (Sim.app rows.flatten new.flatten) sz true false []) (Nat.add rows.length new.length) (Nat.add rows.length new.length))
          (allocS d x e (h.setO b (.cells rows.flatten sz true true pars)) kk (.cells (Sim.app rows.flatten new.flatten) sz true false (b :: pars)) (Nat.add rows.length new.length) (Nat.add rows.length new.length)) := fun d x e kk => by
      show ox (takeX (Nat.mul rows.length sz) (dropX 0 rows.flatten)) _ = _
      rw [htake, ox_some, hcl]
      cases opn with
      | false => rfl
      | true =>
        show sel (true && !false && !Nat.ble amb 0 && Nat.beq rows.length rows.length && Nat.beq sz sz && Nat.beq (Nat.add 0 (Nat.mul rows.length sz)) (Sim.len rows.flatten) && plains new.flatten) _ _ = _
        have a0 : Nat.ble amb 0 = false := by rw [natBle]; exact decide_eq_false (by decide)
        have a1 : Nat.beq rows.length rows.length = true := by rw [natBeq]; exact decide_eq_true rfl
        have a2 : Nat.beq sz sz = true := by rw [natBeq]; exact decide_eq_true rfl
        have a3 : Nat.beq (Nat.add 0 (Nat.mul rows.length sz)) (Sim.len rows.flatten) = true := by rw [natBeq, len_eq, natAdd, natMul, Nat.zero_add]; exact decide_eq_true hfl.symm
        rw [a0, a1, a2, a3, hpl]
        rfl
    cases opn with
    | false =>
      refine ⟨h.alloc (.cells (Sim.app rows.flatten new.flatten) sz true false []), some (h.next, 0), fun d x e kk => ?_, ⟨by simp, rfl, .inr ⟨h.next, true, [], rfl, by rw [alloc_next]; omega, by rw [alloc_get_new hc, app_eq, List.flatten_append]⟩, hrow'⟩, (Kept.alloc hc _).toX, rfl, fun b' hb' => ?_⟩
      · rw [start, hB, hN]
        show sel h.room _ _ = _
        rw [room]; rfl
      · cases hb'
        exact ⟨_, pars, false, false, hg, by rw [(Kept.alloc hc _).get b hb, hg]⟩
    | true =>
      have K1 := KeptX.setO (Nat.le_of_lt hc) hb (.cells rows.flatten sz true true pars)
      have hn1 : (h.setO b (.cells rows.flatten sz true true pars)).next = h.next := setO_next _ _ _
      have K2 : Kept 1 (h.setO b (.cells rows.flatten sz true true pars)) ((h.setO b (.cells rows.flatten sz true true pars)).alloc (.cells (Sim.app rows.flatten new.flatten) sz true false (b :: pars))) := Kept.alloc (by rw [hn1]; exact hc) _
      refine ⟨(h.setO b (.cells rows.flatten sz true true pars)).alloc (.cells (Sim.app rows.flatten new.flatten) sz true false (b :: pars)), some (h.next, 0), fun d x e kk => ?_,
        ⟨by simp, rfl, .inr ⟨h.next, true, b :: pars, rfl, by rw [alloc_next, hn1]; omega, by rw [← hn1, alloc_get_new (by rw [hn1]; exact hc), app_eq, List.flatten_append]⟩, hrow'⟩,
        (K1.mono (fun x _ hx => by cases hx; rfl) (Nat.le_refl _)).trans K2.toX, rfl, fun b' hb' => ?_⟩
      · rw [start, hB, hN]
        show sel (h.setO b (.cells rows.flatten sz true true pars)).room _ _ = _
        rw [(room_iff _).2 (by rw [hn1]; exact hc)]; rfl
      · cases hb'
        exact ⟨_, pars, true, true, hg, by rw [K2.get b (by rw [hn1]; exact hb), setO_self (Nat.le_of_lt hc) hb]⟩

/-! ### Maps -/

theorem lookup_run {t kt : Nat} {dk : TypeDesc} {z : AVal} (M : MpOk C t kt dk z) {m q : Operand} {ok : Bool} {l : Pv} {r : Option Nat} {key : AVal} (hm : evP l m = some (.map r)) (hq : evP l q = some key) {ks : Option (List Nat)} (hks : C.eqT kt = ks) (hk : keyFit ks dk key = true)
    {h : H} {es : List (AVal × AVal)} (he : entriesOf h r = some es) {f : Option AVal} (hf : findE key es = some f) : OpRun C g n (.lookup t m q ok) l h (sel ok (.tup [oe f z (fun v => v), .bool f.isSome]) (oe f z (fun v => v))) h := by
  intro d x e p kk hx A
  obtain ⟨ti, et, tk, te, h1, h2, h3, rfl, h5, h6⟩ := M.ok
  subst hks
  show (opLookup C t m q ok d).run g x e h p kk = _
  have : opLookup C t m q ok d = so (C.tt.get t) (fun ti => so (mapD ti.desc) (fun p => so (C.tt.get p.1) (fun tk => so (C.tt.get p.2) (fun te => so (zeroV te) (fun z => lookF (C.eqT p.1) tk.desc z m q ok d))))) := rfl
  rw [this, h1, so_some, h2, so_some]
  simp only
  rw [h3, so_some, h5, so_some, h6, so_some]
  show evX e m _ = _
  rw [evX_ok A hm]
  show evX e q _ = _
  rw [evX_ok A hq]
  show sel (keyFit (C.eqT kt) tk.desc key) _ _ = _
  rw [hk]
  show ox (entriesOf h r) _ = _
  rw [he, ox_some, hf, ox_some]

theorem mapSet_run {t kt : Nat} {dk : TypeDesc} {z : AVal} (M : MpOk C t kt dk z) {m q v : Operand} {l : Pv} {r : Nat} {key u : AVal} (hm : evP l m = some (.map (some r))) (hq : evP l q = some key) (hv : evP l v = some u) {ks : Option (List Nat)} (hks : C.eqT kt = ks) (hk : keyFit ks dk key = true)
    {h h' : H} (hs : ∀ d x e kk, mapSetX d x e h kk r key u = (putF d).run .undef x e h' kk) : OpRun C g n (.mapUpdate t m q v) l h .undef h' := by
  intro d x e p kk hx A
  obtain ⟨ti, et, tk, te, h1, h2, h3, rfl, h5, h6⟩ := M.ok
  subst hks
  show (opMapSet C t m q v d).run g x e h p kk = _
  have : opMapSet C t m q v d = so (C.tt.get t) (fun ti => so (mapD ti.desc) (fun p => so (C.tt.get p.1) (fun tk =>
    ⟨fun _ x e h _ k => evX e m (fun m => onMap m (fun r => ox r (fun r => evX e q (fun q => evX e v (fun v => sel (keyFit (C.eqT p.1) tk.desc q) (mapSetX d x e h k r q v) .bad)))))⟩))) := rfl
  rw [this, h1, so_some, h2, so_some]
  simp only
  rw [h3, so_some]
  show evX e m _ = _
  rw [evX_ok A hm]
  show evX e q _ = _
  rw [evX_ok A hq, evX_ok A hv]
  show sel (keyFit (C.eqT kt) tk.desc key) _ _ = _
  rw [hk]
  exact hs d x e kk

/-! ### clear -/

theorem clear_run {c : Call} {t sz bytes : Nat} {z : List AVal} (hc : c.callee = .builtin .clear) {a : Operand} (hts : c.argTypes.toList = [t]) (has : c.args.toList = [a]) (E : ElOk C t sz bytes z) {l : Pv} {b off m cap : Nat} (hu : evP l a = some (.slc (some (b, off)) m cap)) (hm : m ≠ 0) {h : H}
    {vs vs' : List AVal} {esz : Nat} {opn : Bool} {pars : List Nat} (hg : h.get b = some (.cells vs esz opn false pars)) (hpl : plains (rep z m) = true) (hput : putX off (rep z m) vs = some vs') :
    OpRun C g n (.call c) l h .undef ((kill h pars).setO b (.cells vs' esz opn false [])) := by
  intro d x e p kk hx A
  obtain ⟨ti, el, te, e1, e2, e3, rfl, rfl, e6⟩ := E.ok
  show (calleeF C c.argTypes.toList c.args.toList d c.callee).run g x e h p kk = _
  rw [hc, hts, has]
  show (bClear C [t] [a] d).run g x e h p kk = _
  have : bClear C [t] [a] d = so (C.tt.get t) (fun ti => bClear2 C [t] a d ti.desc) := rfl
  rw [this, e1, so_some, e2]
  show (so (C.tt.get el) _).run g x e h p kk = _
  rw [e3, so_some, e6, so_some]
  show evX e a _ = _
  rw [evX_ok A hu]
  show sel (Nat.beq m 0) _ (writeX h b off (rep z m) _) = _
  rw [natBeq, decide_eq_false hm]
  show onCells (h.get b) _ = _
  rw [hg]
  show sel (!false && plains (rep z m)) _ _ = _
  rw [hpl]
  show ox (putX off (rep z m) vs) _ = _
  rw [hput, ox_some]

/-! ### Conversions of integers -/

structure CvOk (C : Ctx) (s t : Nat) (kd : IntKind) : Prop where
  ok : ∃ ts tt ks, C.tt.get s = some ts ∧ ts.desc = .int ks ∧ C.tt.get t = some tt ∧ tt.desc = .int kd

def intD : TypeDesc → Option IntKind
  | .int k => some k
  | _ => none

theorem intD_some {d : TypeDesc} {k : IntKind} (h : intD d = some k) : d = .int k := by
  cases d with
  | int k' => cases h; rfl
  | _ => cases h

def cvOf (C : Ctx) (s t : Nat) : Option IntKind := ob (C.tt.get s) (fun ts => ob (intD ts.desc) (fun _ => ob (C.tt.get t) (fun tt => intD tt.desc)))

theorem cv_ok {s t : Nat} {kd : IntKind} (h : cvOf C s t = some kd) : CvOk C s t kd := by
  unfold cvOf at h
  obtain ⟨ts, h1, h⟩ := ob_eq.1 h
  obtain ⟨ks, h2, h⟩ := ob_eq.1 h
  obtain ⟨tt, h3, h⟩ := ob_eq.1 h
  exact ⟨ts, tt, ks, h1, intD_some h2, h3, intD_some h⟩

theorem conv_run {s t : Nat} {kd k0 : IntKind} (K : CvOk C s t kd) {a : Operand} {l : Pv} {i : Int} (ha : evP l a = some (.int k0 i)) {h : H} : OpRun C g n (.convert s t a) l h (.int kd (wrapK kd i)) h := by
  intro d x e p kk hx A
  obtain ⟨ts, tt, ks, h1, h2, h3, h4⟩ := K.ok
  show (opConv C s t a d).run g x e h p kk = _
  have : opConv C s t a d = so (C.tt.get s) (fun ts => so (C.tt.get t) (fun tt => convF C a d ts.desc tt.desc)) := rfl
  rw [this, h1, so_some, h3, so_some, h2, h4]
  show evX e a _ = _
  rw [evX_ok A ha]
  rfl

end

end Go.Sim
end
section
/- A block as a list of elements; integers as they are reckoned with; orders of blocks that are new. -/
namespace Go.Sim

/-! ### Integers -/

theorem wrapK_nat {n : Nat} (h : n ≤ 9223372036854775807) : wrapK .i64 (Int.ofNat n) = Int.ofNat n := by
  show sel (Nat.ble n 9223372036854775807) (Int.ofNat n) _ = _
  rw [natBle, decide_eq_true h]

theorem add64 {a b : Nat} (h : a + b ≤ 9223372036854775807) : wrapK .i64 (Int.add (Int.ofNat a) (Int.ofNat b)) = Int.ofNat (a + b) := wrapK_nat h
theorem mul64 {a b : Nat} (h : a * b ≤ 9223372036854775807) : wrapK .i64 (Int.mul (Int.ofNat a) (Int.ofNat b)) = Int.ofNat (a * b) := wrapK_nat h
theorem sub64 {a b : Nat} (h : b ≤ a) (ha : a ≤ 9223372036854775807) : wrapK .i64 (Int.sub (Int.ofNat a) (Int.ofNat b)) = Int.ofNat (a - b) := by
  have : Int.sub (Int.ofNat a) (Int.ofNat b) = Int.ofNat (a - b) := by
    show (a : Int) - (b : Int) = ((a - b : Nat) : Int)
    omega
  rw [this]; exact wrapK_nat (by omega)

theorem lt64 {a b : Nat} : leI (Int.ofNat b) (Int.ofNat a) = decide (b ≤ a) := by
  rw [Bool.eq_iff_iff, leI_iff, decide_eq_true_iff]; exact Int.ofNat_le

/-- the middle, by the bits of an unsigned number -/
theorem half64 {a : Nat} (h : a ≤ 9223372036854775807) : wrapK .i64 (Int.fdiv (wrapK .u64 (Int.ofNat a)) (2 ^ (Nat.min (Int.toNat (Int.ofNat 1)) (IntKind.bits .u64)))) = Int.ofNat (a / 2) := by
  have h1 : wrapK .u64 (Int.ofNat a) = Int.ofNat a := by
    show IntKind.wrap .u64 (Int.ofNat a) = Int.ofNat a
    simp only [IntKind.wrap, IntKind.bits, IntKind.signed]
    show ((a : Int) % 2 ^ 64) = (a : Int)
    omega
  rw [h1]
  have h2 : Int.fdiv (Int.ofNat a) (2 ^ (Nat.min (Int.toNat (Int.ofNat 1)) (IntKind.bits .u64))) = Int.ofNat (a / 2) := by
    have : (2 : Int) ^ (Nat.min (Int.toNat (Int.ofNat 1)) (IntKind.bits .u64)) = 2 := by decide
    rw [this]
    show Int.fdiv (a : Int) 2 = ((a / 2 : Nat) : Int)
    rw [Int.fdiv_eq_ediv_of_nonneg _ (by decide)]
    omega
  rw [h2]
  exact wrapK_nat (by omega)

/-! ### A block of elements -/

/-- the block 'p' holds the elements 'rows', each of 'k' cells, and may be written -/
structure Ary (h : H) (p k : Nat) (rows : List (List AVal)) : Prop where
  lt : p < h.next
  blk : ∃ opn, h.get p = some (.cells rows.flatten k opn false [])
  row : ∀ r ∈ rows, r.length = k

theorem flatten_row {k : Nat} : ∀ {rows : List (List AVal)} {i : Nat} {r : List AVal}, (∀ r ∈ rows, r.length = k) → rows[i]? = some r → r.length = k ∧ (rows.flatten.drop (i * k)).take k = r
  | [], i, r, _, h => by simp at h
  | a :: rows, 0, r, hr, h => by
    simp at h; subst h
    have := hr a (List.mem_cons_self ..)
    refine ⟨this, ?_⟩
    rw [List.flatten_cons, Nat.zero_mul, List.drop_zero, List.take_append_of_le_length (by omega), List.take_of_length_le (by omega)]
  | a :: rows, i + 1, r, hr, h => by
    have ha := hr a (List.mem_cons_self ..)
    obtain ⟨h1, h2⟩ := flatten_row (fun x hx => hr x (List.mem_cons_of_mem _ hx)) (by simpa using h : rows[i]? = some r)
    refine ⟨h1, ?_⟩
    rw [List.flatten_cons, Nat.add_mul, Nat.one_mul, Nat.add_comm, ← ha, ← List.drop_drop, List.drop_left, ha]
    exact h2

theorem rows_ok {h : H} {b k : Nat} {rows : List (List AVal)} {esz : Nat} {opn frz : Bool} {pars : List Nat} (hb : b < h.next) (hg : h.get b = some (.cells rows.flatten esz opn frz pars)) (hr : ∀ r ∈ rows, r.length = k) : ARows h k (some (b, 0)) rows := by
  refine .inr ⟨b, 0, _, esz, opn, frz, pars, rfl, hb, hg, fun i r hi => ?_⟩
  obtain ⟨h1, h2⟩ := flatten_row hr hi
  refine ⟨h1, ?_⟩
  rw [takeX_eq, dropX_eq, natAdd, natMul, Nat.zero_add, if_pos, h2]
  rw [← h2, List.length_take] at h1
  omega

theorem Ary.rows {h : H} {p k : Nat} {rows : List (List AVal)} (A : Ary h p k rows) : ARows h k (some (p, 0)) rows := by
  obtain ⟨opn, hg⟩ := A.blk
  exact rows_ok A.lt hg A.row

theorem Grow.rows {h : H} {sz : Nat} {s : Option (Nat × Nat)} {m cap : Nat} {rows : List (List AVal)} (R : Grow h sz s m cap rows) : ARows h sz s rows := by
  rcases R.blk with ⟨_, h2⟩ | ⟨b, opn, pars, rfl, hb, hg⟩
  · exact .inl h2
  · exact rows_ok hb hg R.row

theorem Ary.at {h : H} {p k : Nat} {rows : List (List AVal)} (A : Ary h p k rows) {i : Nat} {r : List AVal} (hi : rows[i]? = some r) : ARow h k p (Nat.add 0 (Nat.mul i k)) r := by
  obtain ⟨b, off, e, R⟩ := A.rows.at hi
  cases e; exact R

theorem Ary.keptX {X : Nat → Prop} {c : Nat} {h h' : H} (K : KeptX X c h h') {p k : Nat} (hp : ¬ X p) {rows : List (List AVal)} (A : Ary h p k rows) : Ary h' p k rows := by
  obtain ⟨opn, hg⟩ := A.blk
  exact ⟨Nat.lt_of_lt_of_le A.lt K.next, ⟨opn, by rw [K.get p A.lt hp]; exact hg⟩, A.row⟩

theorem Ary.kept {c : Nat} {h h' : H} (K : Kept c h h') {p k : Nat} {rows : List (List AVal)} (A : Ary h p k rows) : Ary h' p k rows := A.keptX (X := fun _ => False) K.toX id

theorem ARows.keptX {X : Nat → Prop} {c : Nat} {h h' : H} (K : KeptX X c h h') {k : Nat} {a : Option (Nat × Nat)} {rows : List (List AVal)} (hX : ∀ b off, a = some (b, off) → ¬ X b) (E : ARows h k a rows) : ARows h' k a rows := by
  rcases E with E | ⟨b, off, vs, esz, opn, frz, pars, h1, h2, h3, h4⟩
  · exact .inl E
  · exact .inr ⟨b, off, vs, esz, opn, frz, pars, h1, Nat.lt_of_lt_of_le h2 K.next, (K.get b h2 (hX b off h1)).trans h3, h4⟩

theorem set_flatten {k : Nat} : ∀ {rows : List (List AVal)} {i : Nat} {r : List AVal}, (∀ r ∈ rows, r.length = k) → i < rows.length → r.length = k → putX (Nat.add 0 (Nat.mul i k)) r rows.flatten = some (rows.set i r).flatten
  | [], i, r, _, h, _ => by simp at h
  | a :: rows, 0, r, hr, _, hk => by
    have ha := hr a (List.mem_cons_self ..)
    rw [putX_eq, natAdd, natMul, Nat.zero_mul, List.flatten_cons, if_pos (by simp; omega), List.take_zero, List.set_cons_zero, List.flatten_cons]
    simp only [List.nil_append, Nat.zero_add]
    rw [hk, ← ha, List.drop_left]
  | a :: rows, i + 1, r, hr, hi, hk => by
    have ha := hr a (List.mem_cons_self ..)
    have ih := set_flatten (i := i) (fun x hx => hr x (List.mem_cons_of_mem _ hx)) (by simpa using hi) hk
    rw [putX_eq, natAdd, natMul, Nat.zero_add] at ih ⊢
    split at ih
    · rename_i hle
      have ih := Option.some.inj ih
      have e : (i + 1) * k = a.length + i * k := by rw [Nat.add_mul, ha]; omega
      rw [List.flatten_cons, e, if_pos (by rw [List.length_append]; omega), List.set_cons_succ, List.flatten_cons, ← ih]
      have e2 : a.length + i * k + r.length = a.length + (i * k + r.length) := by omega
      rw [List.take_length_add_append, e2, List.drop_length_add_append]
      simp
    · cases ih

/-- an element is replaced -/
theorem Ary.set {h : H} (hc : h.next ≤ 1048576) {p k : Nat} {rows : List (List AVal)} (A : Ary h p k rows) {i : Nat} (hi : i < rows.length) {r : List AVal} (hr : r.length = k) (hpl : plains r = true) :
    ∃ vs esz opn pars vs', h.get p = some (.cells vs esz opn false pars) ∧ plains r = true ∧ putX (Nat.add 0 (Nat.mul i k)) r vs = some vs' ∧
      ∀ h', h' = (kill h pars).setO p (.cells vs' esz opn false []) → Ary h' p k (rows.set i r) ∧ KeptX (fun x => x = p) 0 h h' := by
  obtain ⟨opn, hg⟩ := A.blk
  refine ⟨_, k, opn, [], _, hg, hpl, set_flatten A.row hi hr, fun h' hh => ?_⟩
  have hh : h' = h.setO p (.cells (rows.set i r).flatten k opn false []) := hh
  subst hh
  refine ⟨⟨by rw [setO_next]; exact A.lt, ⟨opn, setO_self hc A.lt _⟩, fun x hx => ?_⟩, KeptX.setO hc A.lt _⟩
  rcases List.mem_or_eq_of_mem_set hx with hx | rfl
  · exact A.row x hx
  · exact hr

end Go.Sim
end
section
/- Runs cut in pieces: a middle between two pieces, blocks, choices, loops. -/
namespace Go.Sim

variable {C : Ctx} {S : SV} {g : G} {n : Nat}

/-- two pieces, by what is known between them -/
theorem wRun_mid {σ : Type} (L : σ → Pv) (M : σ → H → Prop) {a b : Code} {l : Pv} {h : H} {Q : Post}
    (h1 : wRun C g n a l h (fun ex l' h' => match ex with | .normal => ∃ s, Sub l' (L s) ∧ M s h' | ex => Q ex l' h'))
    (h2 : ∀ s h', M s h' → wRun C g n b (L s) h' Q) : wRun C g n (.seq a b) l h Q := by
  intro x e hx A
  obtain ⟨ex, e1, hh, l1, run, A1, hw1⟩ := h1 x e hx A
  show Sat x (((comp C a).run g x e h).andThen ((comp C b).run g)) Q
  rw [run]
  cases ex with
  | normal =>
    obtain ⟨s, hs, hm⟩ := hw1
    exact h2 s hh hm x e1 hx (A1.sub hs.mem)
  | exit i => exact ⟨_, _, _, _, rfl, A1, hw1⟩
  | ret => exact ⟨_, _, _, _, rfl, A1, hw1⟩
  | panic c => exact ⟨_, _, _, _, rfl, A1, hw1⟩

theorem wRun_block {id : Nat} {b : Code} {l : Pv} {h : H} {Q : Post} (hm : mapLoop? id b = none)
    (hw : wRun C g n b l h (fun ex l h => match ex with | .exit i => ps (Nat.beq i id) (Q .normal l h) (Q (.exit i) l h) | ex => Q ex l h)) : wRun C g n (.block id b) l h Q := by
  intro x e hx A
  obtain ⟨W, R, hc, _⟩ := comp_block (C := C) id b
  rw [hc, hm]
  show Sat x (blockEnd id ((comp C b).run g x e h)) Q
  obtain ⟨ex, e1, h1, l1, run, A1, hw1⟩ := hw x e hx A
  rw [run]
  cases ex with
  | exit i =>
    show Sat x (sel (Nat.beq i id) (.mk .normal x e1 h1) (.mk (.exit i) x e1 h1)) Q
    rcases ps_iff.1 hw1 with ⟨hi, hw1⟩ | ⟨hi, hw1⟩
    · rw [hi]; exact ⟨_, _, _, _, rfl, A1, hw1⟩
    · rw [hi]; exact ⟨_, _, _, _, rfl, A1, hw1⟩
  | normal => exact ⟨_, _, _, _, rfl, A1, hw1⟩
  | ret => exact ⟨_, _, _, _, rfl, A1, hw1⟩
  | panic c => exact ⟨_, _, _, _, rfl, A1, hw1⟩

theorem wRun_cond {c : Operand} {a b : Code} {t : Bool} {l : Pv} {h : H} {Q : Post} (hc : evP l c = some (.bool t))
    (ht : t = true → wRun C g n a l h Q) (hf : t = false → wRun C g n b l h Q) : wRun C g n (.cond c a b) l h Q := by
  intro x e hx A
  show Sat x (evX e c (fun v => onBool v (fun t => sel t ((comp C a).run g x e h) ((comp C b).run g x e h)))) Q
  rw [evX_ok A hc]
  cases t with
  | true => exact ht rfl x e hx A
  | false => exact hf rfl x e hx A

/-- a loop, as 'wLoopS', its body a run -/
theorem wLoopR {b : Code} {Q : Post} {σ : Type} (L : σ → Pv) (I : σ → H → Prop) (μ : σ → Nat)
    (s0 : σ) {l : Pv} {h : H} (hm : μ s0 < g.fuel) (hs : Sub l (L s0)) (h0 : I s0 h)
    (hb : ∀ s h, I s h → wRun C g n b (L s) h (fun ex l' h' => match ex with
      | .normal => ∃ s', μ s' < μ s ∧ Sub l' (L s') ∧ I s' h'
      | ex => Q ex l' h')) : wRun C g n (.loop b) l h Q := by
  intro x e hx A
  show Sat x ((@Nat.rec (fun _ => Sim.K) (fun _ _ _ => .bad) (fun _ ih x e h => ((comp C b).run g x e h).andThen ih) g.fuel) x e h) Q
  have key : ∀ (f : Nat) (s : σ) (h : H) (e : Env), μ s < f → I s h → Agree (L s) e → Sat x ((@Nat.rec (fun _ => Sim.K) (fun _ _ _ => .bad) (fun _ ih x e h => ((comp C b).run g x e h).andThen ih) f) x e h) Q := by
    intro f
    induction f with
    | zero => intro s h e hmf hI A; omega
    | succ f ih =>
      intro s h e hmf hI A
      obtain ⟨ex, e1, h1, l1, run, A1, hw1⟩ := hb s h hI x e hx A
      show Sat x (((comp C b).run g x e h).andThen _) Q
      rw [run]
      cases ex with
      | normal =>
        obtain ⟨s', hlt, hsub, hI'⟩ := hw1
        exact ih s' h1 e1 (by omega) hI' (A1.sub hsub.mem)
      | exit i => exact ⟨_, _, _, _, rfl, A1, hw1⟩
      | ret => exact ⟨_, _, _, _, rfl, A1, hw1⟩
      | panic c => exact ⟨_, _, _, _, rfl, A1, hw1⟩
  exact key g.fuel s0 h e hm h0 (A.sub hs.mem)

end Go.Sim
end
