/- A region's operations, one after the other. -/
import Derived.Test.YtakbgbnnocmaiaaGreatDoorSg
import Derived.Orders
set_option linter.all false
section
namespace Go.Sim

section
variable {P : Program} {C : Ctx} {x : FX} {e : Env} {h : H} {g : G}

theorem anyN_s (K : COk C P) (hG : GSim P g) {ops : Array Oper} {i : Nat} {o : Oper} (hi : ops[i]? = some o)
    (hW : ∀ (ι : Inj) (a : Act), SlotsRel ι e a (guardSlots ops.toList o.guard) → Region.wanted o (yielded ops a.tmps) = true) :
    Step2 x e (RSim P ops i x e h) (QSim P ops i x e h) (fun p k => (opF C o.dst o.op).run g x e h p k) := by
  cases hs : isSelect o.op with
  | false => exact opN_s K hG hi hs hW
  | true =>
    cases ho : o.op with
    | defer c => exact deferN_s hi ho hW
    | select _ _ => exact .bad fun _ _ => rfl
    | call c =>
      rw [ho] at hs
      cases hc : c.callee with
      | builtin b =>
        cases b <;> simp [isSelect, hc] at hs
        have e1 : opF C o.dst (.call c) = bRecover o.dst := by
          show calleeF C c.argTypes.toList c.args.toList o.dst c.callee = _
          rw [hc]; rfl
        rw [e1]
        exact recoverN_s hi ho hc hW
      | _ => simp [isSelect, hc] at hs
    | _ => rw [ho] at hs; simp [isSelect] at hs

theorem stepN_s (K : COk C P) (hG : GSim P g) {ops : Array Oper} {i : Nat} {o : Oper} (hi : ops[i]? = some o) :
    Step2 x e (RSim P ops i x e h) (QSim P ops i x e h) (fun p k => (stepF C ops.toList o).run g x e h p k) := by
  unfold stepF
  cases hg : o.guard with
  | none => exact anyN_s K hG hi fun ι a hs => wanted_s (by rw [hg]; rfl) hs
  | some gd =>
    rw [oe_some]
    cases hw : (wantF ops.toList (some gd)).run e with
    | none => exact .bad fun p k => by simp only []; rw [hw]
    | some bw =>
      cases bw with
      | true =>
        have := anyN_s (x := x) (e := e) (h := h) K hG hi (fun ι a hs => wanted_s (by rw [hg]; exact hw) hs)
        cases this with
        | bad hb => exact .bad fun p k => by simp only []; rw [hw]; exact hb p k
        | ok x' e' h' hf hr => exact .ok x' e' h' (fun p k => by simp only []; rw [hw]; exact hf p k) hr
        | pan c h' hf hq => exact .pan c h' (fun p k => by simp only []; rw [hw]; exact hf p k) hq
      | false =>
        have skip_ : ∀ (ι : Inj) (w : World) (b : Frame) (a : Act) (rest : List Nat) (K : List Item) (cs : List Frame), FrRel ι x e b a cs →
            Steps P (lone (b.atR a (.inRegion ops (i :: rest) :: K)) cs w) (lone (b.atR (a.put o.dst undef) (.inRegion ops rest :: K)) cs w) := by
          intro ι w b a rest K cs F
          have hnw := wanted_s (o := o) (ι := ι) (a := a) (by rw [hg]; exact hw) (F.slots _)
          have := stepR_op_skip (P := P) (b := b) (a := a) (k := K) (cs := cs) (w := w) (ops := ops) (i := i) (rest := rest) (by rw [hi]; simpa using hnw)
          rw [hi] at this
          exact .one this
        refine put2 (x := x) (d := o.dst) (v := .undef) (h' := h) (fun p k => by simp only []; rw [hw]) (fun hd => ?_) fun s hd hs => ?_
        · intro ι w b a rest K cs r hgl F
          refine ⟨ι, w, _, cs, Went.refl r, ?_, .refl _ _, rfl, skip_ ι w b a rest K cs F⟩
          rw [hd]; exact F
        · intro ι w b a rest K cs r hgl F
          refine ⟨ι, w, _, cs, Went.refl r, ?_, .refl _ _, rfl, skip_ ι w b a rest K cs F⟩
          rw [hd]; exact F.put hs (by simp [ren])

theorem runOps_nil {all : List Oper} : (runOps C all []).run g x e h = .mk .normal x e h := rfl
theorem runOps_cons {all l : List Oper} {o : Oper} : (runOps C all (o :: l)).run g x e h = (stepF C all o).run g x e h panX ((runOps C all l).run g) := rfl

/-- what the rest of a region comes to -/
def RestSim (P : Program) (ops : Array Oper) (L : List Nat) (x : FX) (e : Env) (h : H) (r : XR) : Prop := match r with
  | .bad => True
  | .mk ex x' e' h' => ∀ ι w b a k cs, Rel ι h w → Glob ι → FrRel ι x e b a cs → ∃ ι' w' a' cs', Went ι h w ι' h' w' ∧ FrRel ι' x' e' b a' cs' ∧ Callers b cs cs' ∧ x'.s = x.s ∧
      Arr P (lone (b.atR a (.inRegion ops L :: k)) cs w) b k cs' ι' a' w' ex

theorem Arr.steps {m m' : Machine} {b : Frame} {k : List Item} {cs : List Frame} {ι : Inj} {a : Act} {w : World} {ex : Ex} (h : Steps P m m') (r : Arr P m' b k cs ι a w ex) : Arr P m b k cs ι a w ex := by
  cases ex with
  | normal => exact Steps.trans h r
  | exit id => obtain ⟨k', h1, h2⟩ := r; exact ⟨k', h1, Steps.trans h h2⟩
  | ret => obtain ⟨k', h2⟩ := r; exact ⟨k', Steps.trans h h2⟩
  | panic c => obtain ⟨todo, ch, h1, h2⟩ := r; exact ⟨todo, ch, h1, Steps.trans h h2⟩

theorem runOps_s (K : COk C P) (hG : GSim P g) {ops : Array Oper} : ∀ (l : List Oper) (n : Nat) (x : FX) (e : Env) (h : H), ops.toList.drop n = l → RestSim P ops (List.range' n l.length) x e h ((runOps C ops.toList l).run g x e h)
  | [], n, x, e, h, _ => by
    rw [runOps_nil]
    intro ι w b a k cs r hg F
    exact ⟨ι, w, a, cs, Went.refl r, F, .refl _ _, rfl, .one stepR_region_end⟩
  | o :: l, n, x, e, h, hd => by
    have hi : ops[n]? = some o := by
      rw [← Array.getElem?_toList, ← List.head?_drop, hd]; rfl
    have hl : ops.toList.drop (n + 1) = l := by
      have := congrArg (List.drop 1) hd
      simpa [List.drop_drop, Nat.add_comm] using this
    rw [runOps_cons]
    cases stepN_s (x := x) (e := e) (h := h) K hG hi with
    | bad hb => rw [hb]; trivial
    | ok x' e' h' hf hr =>
      rw [hf]
      have ih := runOps_s K hG l (n + 1) x' e' h' hl
      cases hres : (runOps C ops.toList l).run g x' e' h' with
      | bad => trivial
      | mk ex x2 e2 h2 =>
        rw [hres] at ih
        intro ι w b a k cs r hg F
        obtain ⟨ι1, w1, a1, cs1, W1, F1, L1, S1, T1⟩ := hr ι w b a (List.range' (n + 1) l.length) k cs r hg F
        obtain ⟨ι2, w2, a2, cs2, W2, F2, L2, S2, A2⟩ := ih ι1 w1 b a1 k cs1 W1.rel (hg.ext W1.ext) F1
        refine ⟨ι2, w2, a2, cs2, W1.trans W2, F2, L1.trans L2, S2.trans S1, Arr.steps ?_ A2⟩
        rw [List.length_cons, List.range'_succ]
        exact T1
    | pan c h' hf hq =>
      rw [hf]
      intro ι w b a k cs r hg F
      obtain ⟨ι1, w1, ch, todo, W1, q1, q2⟩ := hq ι w b a (List.range' (n + 1) l.length) k cs r hg F
      refine ⟨ι1, w1, a, cs, W1, F.ext W1.ext, .refl _ _, rfl, todo, ch, q1, ?_⟩
      rw [List.length_cons, List.range'_succ]
      exact q2

/-- a region that does not draw its order -/
theorem regionN_s (K : COk C P) (hG : GSim P g) (id : Nat) (ops : Array Oper) : CodeSim P (.region id ops false) x e h ((runOps C ops.toList ops.toList).run g x e h) := by
  have := runOps_s (ops := ops) K hG ops.toList 0 x e h rfl
  cases hres : (runOps C ops.toList ops.toList).run g x e h with
  | bad => trivial
  | mk ex x2 e2 h2 =>
    rw [hres] at this
    intro ι w b a k cs r hg F
    obtain ⟨ι2, w2, a2, cs2, W2, F2, L2, S2, A2⟩ := this ι w b a k cs r hg F
    refine ⟨ι2, w2, a2, cs2, W2, F2, L2, S2, Arr.steps (.one stepR_region) ?_⟩
    rw [show List.range ops.size = List.range' 0 ops.toList.length by simp [List.range_eq_range']]
    exact A2

end
end Go.Sim
end
section
/- Code, by its structure. -/
namespace Go.Sim

section
variable {P : Program} {C : Ctx} {g : G}

/-- what a compiled piece of code has to answer for -/
def CFSim (P : Program) (g : G) (c : Code) (F : CF) : Prop := ∀ x e h, CodeSim P c x e h (F.run g x e h)

theorem CodeSim.mk' {c : Code} {x : FX} {e : Env} {h : H} {r : XR} (hh : ∀ ex x' e' h', r = .mk ex x' e' h' → ∀ ι w b a k cs, Rel ι h w → Glob ι → FrRel ι x e b a cs → ∃ ι' w' a' cs', Went ι h w ι' h' w' ∧ FrRel ι' x' e' b a' cs' ∧ Callers b cs cs' ∧ x'.s = x.s ∧
      Arr P (lone (b.atR a (.code c :: k)) cs w) b k cs' ι' a' w' ex) : CodeSim P c x e h r := by
  cases r with
  | bad => trivial
  | mk ex x' e' h' => exact hh ex x' e' h' rfl

theorem CodeSim.out {c : Code} {x : FX} {e : Env} {h : H} {r : XR} (s : CodeSim P c x e h r) {ex : Ex} {x' : FX} {e' : Env} {h' : H} (hr : r = .mk ex x' e' h') : ∀ ι w b a k cs, Rel ι h w → Glob ι → FrRel ι x e b a cs → ∃ ι' w' a' cs', Went ι h w ι' h' w' ∧ FrRel ι' x' e' b a' cs' ∧ Callers b cs cs' ∧ x'.s = x.s ∧
      Arr P (lone (b.atR a (.code c :: k)) cs w) b k cs' ι' a' w' ex := by
  subst hr; exact s

theorem skip_c : CFSim P g .skip cSkip := fun x e h => by
  intro ι w b a k cs r hg F
  exact ⟨ι, w, a, cs, Went.refl r, F, .refl _ _, rfl, .one stepR_skip⟩

theorem exit_c (id : Nat) : CFSim P g (.exit id) (cExit id) := fun x e h => by
  intro ι w b a k cs r hg F
  exact ⟨ι, w, a, cs, Went.refl r, F, .refl _ _, rfl, k, rfl, Steps.refl _ _⟩

theorem ret_c : CFSim P g .ret cRet := fun x e h => by
  intro ι w b a k cs r hg F
  exact ⟨ι, w, a, cs, Went.refl r, F, .refl _ _, rfl, k, Steps.refl _ _⟩

theorem andThen_mk {r : XR} {k : K} {ex : Ex} {x : FX} {e : Env} {h : H} (hh : r.andThen k = .mk ex x e h) :
    (∃ x1 e1 h1, r = .mk .normal x1 e1 h1 ∧ k x1 e1 h1 = .mk ex x e h) ∨ (r = .mk ex x e h ∧ ex ≠ .normal) := by
  cases r with
  | bad => cases hh
  | mk e1 x1 v1 h1 =>
    cases e1 with
    | normal => exact .inl ⟨x1, v1, h1, rfl, hh⟩
    | exit id =>
      have hh' : XR.mk (.exit id) x1 v1 h1 = .mk ex x e h := hh
      cases hh'; exact .inr ⟨rfl, by simp⟩
    | ret =>
      have hh' : XR.mk .ret x1 v1 h1 = .mk ex x e h := hh
      cases hh'; exact .inr ⟨rfl, by simp⟩
    | panic c =>
      have hh' : XR.mk (.panic c) x1 v1 h1 = .mk ex x e h := hh
      cases hh'; exact .inr ⟨rfl, by simp⟩

/-- past an item that is no block -/
theorem Arr.past {m : Machine} {b : Frame} {k k2 : List Item} {cs : List Frame} {ι : Inj} {a : Act} {w : World} {ex : Ex} (hne : ex ≠ .normal) (hk : ∀ id, ex = .exit id → exitTo id k2 = exitTo id k) (r : Arr P m b k2 cs ι a w ex) : Arr P m b k cs ι a w ex := by
  cases ex with
  | normal => exact absurd rfl hne
  | exit id => obtain ⟨k', h1, h2⟩ := r; exact ⟨k', h1.trans (hk id rfl), h2⟩
  | ret => exact r
  | panic c => exact r

theorem seq_c {a b : Code} {A B : CF} (hA : CFSim P g a A) (hB : CFSim P g b B) : CFSim P g (.seq a b) (cSeq A B) := fun x e h => CodeSim.mk' fun ex x' e' h' hr => by
  intro ι w bf ac k cs r hg F
  have hr' : (A.run g x e h).andThen (B.run g) = .mk ex x' e' h' := hr
  rcases andThen_mk hr' with ⟨x1, e1, h1, r1, r2⟩ | ⟨r1, hne⟩
  · obtain ⟨ι1, w1, a1, cs1, W1, F1, L1, S1, A1⟩ := (hA x e h).out r1 ι w bf ac (.code b :: k) cs r hg F
    obtain ⟨ι2, w2, a2, cs2, W2, F2, L2, S2, A2⟩ := (hB x1 e1 h1).out r2 ι1 w1 bf a1 k cs1 W1.rel (hg.ext W1.ext) F1
    exact ⟨ι2, w2, a2, cs2, W1.trans W2, F2, L1.trans L2, S2.trans S1, Arr.steps (.head stepR_seq A1) A2⟩
  · obtain ⟨ι1, w1, a1, cs1, W1, F1, L1, S1, A1⟩ := (hA x e h).out r1 ι w bf ac (.code b :: k) cs r hg F
    exact ⟨ι1, w1, a1, cs1, W1, F1, L1, S1, Arr.steps (.one stepR_seq) (Arr.past (k2 := .code b :: k) hne (fun id _ => rfl) A1)⟩

theorem cond_c {c : Operand} {a b : Code} {A B : CF} (hA : CFSim P g a A) (hB : CFSim P g b B) : CFSim P g (.cond c a b) (cCond c A B) := fun x e h => CodeSim.mk' fun ex x' e' h' hr => by
  intro ι w bf ac k cs r hg F
  have hr' : evX e c (fun v => onBool v (fun t => sel t (A.run g x e h) (B.run g x e h))) = .mk ex x' e' h' := hr
  cases hc : (evF c).run e with
  | none => rw [evX, hc] at hr'; cases hr'
  | some v =>
    rw [evX, hc, ox_some] at hr'
    cases v with
    | bool t =>
      have hev : ac.eval c = .bool t := by
        have := ev_ren hg (F.slots (tmpsOf [c])) (x := c) (fun t ht => by rw [mem_tmpsOf]; simp [ht]) hc
        simp [ren] at this; exact this.symm
      cases t with
      | true =>
        obtain ⟨ι1, w1, a1, cs1, W1, F1, L1, S1, A1⟩ := (hA x e h).out hr' ι w bf ac k cs r hg F
        exact ⟨ι1, w1, a1, cs1, W1, F1, L1, S1, Arr.steps (.one (stepR_cond hev)) A1⟩
      | false =>
        obtain ⟨ι1, w1, a1, cs1, W1, F1, L1, S1, A1⟩ := (hB x e h).out hr' ι w bf ac k cs r hg F
        exact ⟨ι1, w1, a1, cs1, W1, F1, L1, S1, Arr.steps (.one (stepR_cond hev)) A1⟩
    | _ => cases hr'

/-- a block's end -/
theorem blockEnd_s {id : Nat} {b : Code} {x : FX} {e : Env} {h : H} {r : XR} (hB : CodeSim P b x e h r) : CodeSim P (.block id b) x e h (blockEnd id r) := CodeSim.mk' fun ex x' e' h' hr => by
  intro ι w bf ac k cs rl hg F
  cases r with
  | bad => cases hr
  | mk ex1 x1 e1 h1 =>
    obtain ⟨ι1, w1, a1, cs1, W1, F1, L1, S1, A1⟩ := hB.out rfl ι w bf ac (.inBlock id :: k) cs rl hg F
    have B1 := Arr.steps (.one stepR_block) A1
    cases ex1 with
    | normal =>
      cases hr
      exact ⟨ι1, w1, a1, cs1, W1, F1, L1, S1, Steps.trans B1 (.one stepR_inBlock)⟩
    | exit i =>
      have hr' : sel (Nat.beq i id) (XR.mk .normal x1 e1 h1) (.mk (.exit i) x1 e1 h1) = .mk ex x' e' h' := hr
      rw [natBeq, sel_eq] at hr'
      obtain ⟨k', hk1, hk2⟩ := B1
      split at hr'
      · rename_i hi
        simp at hi; subst hi
        cases hr'
        refine ⟨ι1, w1, a1, cs1, W1, F1, L1, S1, Steps.trans hk2 (.one (stepR_exit ?_))⟩
        rw [hk1]; simp [exitTo]
      · rename_i hi
        simp at hi
        cases hr'
        refine ⟨ι1, w1, a1, cs1, W1, F1, L1, S1, k', ?_, hk2⟩
        rw [hk1]; simp [exitTo, Ne.symm hi]
    | ret =>
      cases hr
      exact ⟨ι1, w1, a1, cs1, W1, F1, L1, S1, B1⟩
    | panic c =>
      cases hr
      exact ⟨ι1, w1, a1, cs1, W1, F1, L1, S1, B1⟩

/-- a loop, entered at its body -/
theorem loop_c {b : Code} {B : CF} (hB : CFSim P g b B) : CFSim P g (.loop b) (cLoop B) := by
  have key : ∀ (n : Nat) (x : FX) (e : Env) (h : H), match (@Nat.rec (fun _ => K) (fun _ _ _ => .bad) (fun _ ih x e h => (B.run g x e h).andThen ih) n : K) x e h with
      | .bad => True
      | .mk ex x' e' h' => ∀ ι w bf a k cs, Rel ι h w → Glob ι → FrRel ι x e bf a cs → ∃ ι' w' a' cs', Went ι h w ι' h' w' ∧ FrRel ι' x' e' bf a' cs' ∧ Callers bf cs cs' ∧ x'.s = x.s ∧
          Arr P (lone (bf.atR a (.code b :: .inLoop b :: k)) cs w) bf k cs' ι' a' w' ex := by
    intro n
    induction n with
    | zero => intro x e h; trivial
    | succ n ih =>
      intro x e h
      show match (B.run g x e h).andThen (@Nat.rec (fun _ => K) (fun _ _ _ => .bad) (fun _ ih x e h => (B.run g x e h).andThen ih) n : K) with
        | .bad => True
        | .mk ex x' e' h' => _
      cases hr : (B.run g x e h).andThen (@Nat.rec (fun _ => K) (fun _ _ _ => .bad) (fun _ ih x e h => (B.run g x e h).andThen ih) n : K) with
      | bad => trivial
      | mk ex x' e' h' =>
        intro ι w bf a k cs r hg F
        rcases andThen_mk hr with ⟨x1, e1, h1, r1, r2⟩ | ⟨r1, hne⟩
        · obtain ⟨ι1, w1, a1, cs1, W1, F1, L1, S1, A1⟩ := (hB x e h).out r1 ι w bf a (.inLoop b :: k) cs r hg F
          have I := ih x1 e1 h1
          rw [r2] at I
          obtain ⟨ι2, w2, a2, cs2, W2, F2, L2, S2, A2⟩ := I ι1 w1 bf a1 k cs1 W1.rel (hg.ext W1.ext) F1
          exact ⟨ι2, w2, a2, cs2, W1.trans W2, F2, L1.trans L2, S2.trans S1, Arr.steps (Steps.trans A1 (.one stepR_inLoop)) A2⟩
        · obtain ⟨ι1, w1, a1, cs1, W1, F1, L1, S1, A1⟩ := (hB x e h).out r1 ι w bf a (.inLoop b :: k) cs r hg F
          exact ⟨ι1, w1, a1, cs1, W1, F1, L1, S1, Arr.past (k2 := .inLoop b :: k) hne (fun id _ => rfl) A1⟩
  intro x e h
  have := key g.fuel x e h
  show CodeSim P (.loop b) x e h ((@Nat.rec (fun _ => K) (fun _ _ _ => .bad) (fun _ ih x e h => (B.run g x e h).andThen ih) g.fuel : K) x e h)
  cases hr : (@Nat.rec (fun _ => K) (fun _ _ _ => .bad) (fun _ ih x e h => (B.run g x e h).andThen ih) g.fuel : K) x e h with
  | bad => trivial
  | mk ex x' e' h' =>
    rw [hr] at this
    intro ι w bf a k cs r hg F
    obtain ⟨ι1, w1, a1, cs1, W1, F1, L1, S1, A1⟩ := this ι w bf a k cs r hg F
    exact ⟨ι1, w1, a1, cs1, W1, F1, L1, S1, Arr.steps (.one stepR_loop) A1⟩

theorem bad_c (c : Code) : CFSim P g c cBad := fun x e h => trivial

end
end Go.Sim
end
section
/- Regions that draw their order: what their natural run says of each operation. -/
namespace Go.Sim

def isL : Op → Bool
  | .load .. => true
  | .call c => match c.callee with
    | .builtin .len => true
    | _ => false
  | _ => false

/-- what a load, or 'len', yields -/
noncomputable def lookV (C : Ctx) (e : Env) (h : H) : Op → Option AVal
  | .load t a => ob (C.tt.get t) fun ti => ob ((evF a).run e) fun p => loadT h ti p
  | .call c => match c.callee, c.argTypes.toList, c.args.toList with
    | .builtin .len, t :: _, [a] => ob (C.tt.get t) fun ti => ob ((evF a).run e) fun v => ob (lenX ti.desc h v) fun n => some (.int .i64 (Int.ofNat n))
    | _, _, _ => none
  | _ => none

section
variable {P : Program} {C : Ctx} {o : Oper} {x : FX} {e : Env} {h : H} {g : G}

theorem look_of_lookV (K : COk C P) {v : AVal} (hv : lookV C e h o.op = some v) : Look1 P o e h v := by
  intro ι w ρ r he
  cases ho : o.op with
  | load t a =>
    rw [ho] at hv
    obtain ⟨ti, ht, hv⟩ := ob_eq.1 hv
    obtain ⟨u, hu, hv⟩ := ob_eq.1 hv
    have h1 := he a (by simp [ho, Op.operands]) _ hu
    obtain ⟨ad, vc, h2, h3, h4⟩ := run_loadVar (K.ty _ _ ht) r h1 hv
    exact ⟨vc, h3, by simp [execOp, ho, Instr.loadAt, Instr.sureAddr, h2, h4]⟩
  | call c =>
    rw [ho] at hv
    simp only [lookV] at hv
    split at hv
    · rename_i t ts a hc hts has
      obtain ⟨ti, ht, hv⟩ := ob_eq.1 hv
      obtain ⟨u, hu, hv⟩ := ob_eq.1 hv
      obtain ⟨n, hn, hv⟩ := ob_eq.1 hv
      cases hv
      have h1 := he a (by simp [ho, Op.operands, Call.operands, hc, has]) _ hu
      refine ⟨_, by simp [ren]; rfl, ?_⟩
      obtain ⟨consts, hr⟩ := run_builtin (P := P) (ρ := ρ) ho hc w
      rw [hr]
      have := lenX_s (K.ty _ _ ht) hn r h1 c.argTypes o.type (c.args.map ρ) (by rw [← Array.getElem?_toList, hts]; rfl) (by rw [← Array.getElem?_toList]; simp [has])
      simp [builtin, this, goInt]
    · cases hv
  | _ => rw [ho] at hv; cases hv

/-- what is known of a light operation -/
structure Light (P : Program) (C : Ctx) (o : Oper) (e : Env) (h : H) (v : AVal) : Prop where
  look : Look1 P o e h v
  pure : isLook o.op = false → Pure1 P o e v
  val : isL o.op = true → lookV C e h o.op = some v

theorem op_light (K : COk C P) (hh : isHeavy o.op = false) : Step1 o.dst x e (fun v h' => h' = h ∧ Light P C o e h v) NoP (fun p k => (opF C o.dst o.op).run g x e h p k) := by
  cases hl : isLook o.op with
  | false =>
    refine (op_pure K hh hl).mono (fun v h' hv => ⟨hv.1, ⟨hv.2.look h, fun _ => hv.2, fun q => ?_⟩⟩) fun _ _ hf => hf
    exfalso
    cases ho : o.op <;> rw [ho] at hl q <;> simp [isL, isLook] at hl q
    rename_i c
    cases hc : c.callee with
    | builtin b => rw [hc] at hl q; cases b <;> simp at hl q
    | _ => rw [hc] at q; simp at q
  | true =>
    cases ho : o.op with
    | load t a =>
      refine Step1.so fun ti ht => Step1.ox fun u hu => Step1.ox fun v hv => Step1.put ?_
      have hV : lookV C e h o.op = some v := by rw [ho]; simp only [lookV, ht, hu, hv, ob_some]
      exact ⟨rfl, ⟨look_of_lookV K hV, fun q => (by rw [ho] at q; cases q), fun _ => hV⟩⟩
    | slice t a lo hi mx => exact (opSlice_s K ho).mono (fun v h' hv => ⟨hv.1, ⟨hv.2, fun q => (by simp [ho, isLook] at q), fun q => (by simp [ho, isL] at q)⟩⟩) fun _ _ hf => hf
    | lookup t m q ok => exact (opLookup_s K ho).mono (fun v h' hv => ⟨hv.1, ⟨hv.2, fun q => (by simp [ho, isLook] at q), fun q => (by simp [ho, isL] at q)⟩⟩) fun _ _ hf => hf
    | call c =>
      have hh0 := hh
      have hl0 := hl
      rw [ho] at hh hl
      show Step1 o.dst x e _ NoP (fun p k => (calleeF C c.argTypes.toList c.args.toList o.dst c.callee).run g x e h p k)
      cases hc : c.callee with
      | builtin b =>
        cases b <;> simp [isHeavy, isLook, hc, isHeavyB] at hh hl
        show Step1 o.dst x e _ NoP (fun p k => (bLen C c.argTypes.toList c.args.toList o.dst).run g x e h p k)
        unfold bLen
        split
        · rename_i t ts a hts has
          refine Step1.so fun ti ht => Step1.ox fun u hu => Step1.ox fun n hn => Step1.put ?_
          have hV : lookV C e h o.op = some (.int .i64 (Int.ofNat n)) := by
            rw [ho]; simp only [lookV, hc, hts, has, ht, hu, ob_some]; rw [ob_some, ob_some, hn]
          exact ⟨rfl, ⟨look_of_lookV K hV, fun q => (by rw [hl0] at q; cases q), fun _ => hV⟩⟩
        · exact Step1.bad'
      | invoke a m => simp [isHeavy, hc] at hh
      | value a => simp [isHeavy, hc] at hh
    | _ => rw [ho] at hl; simp [isLook] at hl

end

/-! ### The trace -/

structure Tr where
  e : Nat → Env
  h : Nat → H
  v : Nat → AVal
  w : Nat → Bool
  hp : Nat → H

/-- one operation of the natural run -/
structure TStep (P : Program) (C : Ctx) (all : List Oper) (x : FX) (o : Oper) (e : Env) (h : H) (v : AVal) (w : Bool) (hp : H) (e' : Env) (h' : H) : Prop where
  want : (wantF all o.guard).run e = some w
  env : (o.dst = none ∧ e' = e) ∨ ∃ d, o.dst = some d ∧ d < x.s.n ∧ e' = e.set d v
  off : w = false → v = .undef ∧ ∃ l, l ≤ h.lo ∧ h' = h.withLo l
  heavy : w = true → isHeavy o.op = true → VSim P o e (h.withLo big) v hp ∧ h' = hp.withLo (min h.lo hp.lo)
  light : w = true → isHeavy o.op = false → h' = h ∧ Light P C o e h v

def Tr.at (T : Tr) (P : Program) (C : Ctx) (all : List Oper) (x : FX) (k : Nat) (o : Oper) : Prop := TStep P C all x o (T.e k) (T.h k) (T.v k) (T.w k) (T.hp k) (T.e (k + 1)) (T.h (k + 1))

def Tr.calm (T : Tr) (k : Nat) (o : Oper) : Prop := T.w k = true → isHeavy o.op = true → (T.h k).next ≤ (T.hp k).lo

def Tr.cons (i : Nat) (e : Env) (h : H) (v : AVal) (w : Bool) (hp : H) (T : Tr) : Tr where
  e k := if k ≤ i then e else T.e k
  h k := if k ≤ i then h else T.h k
  v k := if k ≤ i then v else T.v k
  w k := if k ≤ i then w else T.w k
  hp k := if k ≤ i then hp else T.hp k

section
variable {P : Program} {C : Ctx} {g : G} {all : List Oper} {ri : RInfo} {x : FX}

theorem Tr.cons_at {i k : Nat} {e : Env} {h : H} {v : AVal} {w : Bool} {hp : H} {T : Tr} {o : Oper} (hk : i < k) (s : T.at P C all x k o) : (T.cons i e h v w hp).at P C all x k o := by
  have h1 : ¬ k ≤ i := by omega
  have h2 : ¬ k + 1 ≤ i := by omega
  simp only [Tr.at, Tr.cons, if_neg h1, if_neg h2]
  exact s

theorem Tr.cons_self {i : Nat} {e : Env} {h : H} {v : AVal} {w : Bool} {hp : H} {T : Tr} {o : Oper} (s : TStep P C all x o e h v w hp (T.e (i + 1)) (T.h (i + 1))) : (T.cons i e h v w hp).at P C all x i o := by
  have h2 : ¬ i + 1 ≤ i := by omega
  simp only [Tr.at, Tr.cons, if_neg h2, if_pos (Nat.le_refl i)]
  exact s

/-- the trace from an operation on; 'X': the operations that change memory -/
structure TrOk (P : Program) (C : Ctx) (g : G) (all : List Oper) (ri : RInfo) (x : FX) (i : Nat) (e : Env) (h : H) (r : XR) (T : Tr) (X : List Nat) (m : Nat) : Prop where
  e0 : T.e i = e
  h0 : T.h i = h
  steps : ∀ k o, i ≤ k → k < m → all[k]? = some o → T.at P C all x k o
  calm : ∀ k o, i ≤ k → k < m → all[k]? = some o → k ∉ X → T.calm k o
  xmod : ∀ y ∈ X, modOk ri.anc ri.tail y (stableA C all (T.e y) (T.h y) (T.hp y)) all 0 = true
  xge : ∀ y ∈ X, i ≤ y ∧ y < m
  xbig : ∀ y ∈ X, T.w y = true ∧ ∀ o, all[y]? = some o → isHeavy o.op = true
  run : r = (runOps C all (all.drop m)).run g x (T.e m) (T.h m)

theorem TrOk.cons {i : Nat} {e e' : Env} {h h' : H} {v : AVal} {w : Bool} {hp : H} {T : Tr} {X : List Nat} {m : Nat} {r : XR} {o : Oper} (him : i < m) (hi : all[i]? = some o) (s : TStep P C all x o e h v w hp e' h')
    (hc : w = true → isHeavy o.op = true → h.next ≤ hp.lo) (t : TrOk P C g all ri x (i + 1) e' h' r T X m) : TrOk P C g all ri x i e h r (T.cons i e h v w hp) X m := by
  obtain ⟨a1, a2, a3, a4, a6, a7, a9, a8⟩ := t
  refine ⟨if_pos (Nat.le_refl i), if_pos (Nat.le_refl i), fun k o' h1 h2 h3 => ?_, fun k o' h1 h2 h3 h4 => ?_, fun y hy => ?_, fun y hy => ⟨by have := (a7 y hy).1; omega, (a7 y hy).2⟩, fun y hy => ?_, ?_⟩
  · by_cases hk : k = i
    · subst hk
      rw [hi] at h3; cases h3
      exact Tr.cons_self (by rw [a1, a2]; exact s)
    · exact Tr.cons_at (by omega) (a3 k o' (by omega) h2 h3)
  · by_cases hk : k = i
    · subst hk
      rw [hi] at h3; cases h3
      simp only [Tr.calm, Tr.cons, if_pos (Nat.le_refl k)]
      exact hc
    · have h5 : ¬ k ≤ i := by omega
      simp only [Tr.calm, Tr.cons, if_neg h5]
      exact a4 k o' (by omega) h2 h3 h4
  · have h5 : ¬ y ≤ i := by have := (a7 y hy).1; omega
    simp only [Tr.cons, if_neg h5]
    exact a6 y hy
  · have h5 : ¬ y ≤ i := by have := (a7 y hy).1; omega
    simp only [Tr.cons, if_neg h5]
    exact a9 y hy
  · have h5 : ¬ m ≤ i := by omega
    simp only [Tr.cons, if_neg h5]
    exact a8

/-- an operation that changes memory -/
theorem TrOk.consM {i : Nat} {e e' : Env} {h h' : H} {v : AVal} {w : Bool} {hp : H} {T : Tr} {X : List Nat} {m : Nat} {r : XR} {o : Oper} (him : i < m) (hi : all[i]? = some o) (s : TStep P C all x o e h v w hp e' h')
    (hm : Sim.modOk ri.anc ri.tail i (stableA C all e h hp) all 0 = true) (hw : w = true) (hhv : isHeavy o.op = true) (t : TrOk P C g all ri x (i + 1) e' h' r T X m) : TrOk P C g all ri x i e h r (T.cons i e h v w hp) (i :: X) m := by
  obtain ⟨a1, a2, a3, a4, a6, a7, a9, a8⟩ := t
  refine ⟨if_pos (Nat.le_refl i), if_pos (Nat.le_refl i), fun k o' h1 h2 h3 => ?_, fun k o' h1 h2 h3 h4 => ?_, fun y hy => ?_, fun y hy => ?_, fun y hy => ?_, ?_⟩
  · by_cases hk : k = i
    · subst hk
      rw [hi] at h3; cases h3
      exact Tr.cons_self (by rw [a1, a2]; exact s)
    · exact Tr.cons_at (by omega) (a3 k o' (by omega) h2 h3)
  · have hk : k ≠ i := fun hk => h4 (by simp [hk])
    have h5 : ¬ k ≤ i := by omega
    simp only [Tr.calm, Tr.cons, if_neg h5]
    exact a4 k o' (by omega) h2 h3 fun hx => h4 (by simp [hx])
  · rcases List.mem_cons.1 hy with rfl | hy
    · simp only [Tr.cons, if_pos (Nat.le_refl _)]
      exact hm
    · have h5 : ¬ y ≤ i := by have := (a7 y hy).1; omega
      simp only [Tr.cons, if_neg h5]
      exact a6 y hy
  · rcases List.mem_cons.1 hy with rfl | hy
    · exact ⟨Nat.le_refl _, him⟩
    · exact ⟨by have := (a7 y hy).1; omega, (a7 y hy).2⟩
  · rcases List.mem_cons.1 hy with rfl | hy
    · simp only [Tr.cons, if_pos (Nat.le_refl _)]
      exact ⟨hw, fun o' ho' => by rw [hi] at ho'; cases ho'; exact hhv⟩
    · have h5 : ¬ y ≤ i := by have := (a7 y hy).1; omega
      simp only [Tr.cons, if_neg h5]
      exact a9 y hy
  · have h5 : ¬ m ≤ i := by omega
    simp only [Tr.cons, if_neg h5]
    exact a8

theorem withLo_withLo (h : H) (a b : Nat) : (h.withLo a).withLo b = h.withLo b := rfl

/-- where an operation of the first part leads, wanted or not -/
theorem stepF_t (K : COk C P) (hG : GSim P g) {o : Oper} (hns : isSelect o.op = false) {e : Env} {h : H} {k : Sim.K} (hne : (stepF C all o).run g x e h panBad k ≠ .bad) :
    ∃ w v h' e', (wantF all o.guard).run e = some w ∧ ((o.dst = none ∧ e' = e) ∨ ∃ d, o.dst = some d ∧ d < x.s.n ∧ e' = e.set d v) ∧ (stepF C all o).run g x e h panBad k = k x e' h' ∧
      (w = false → v = .undef ∧ h' = h) ∧ (w = true → VSim P o e h v h' ∧ (isHeavy o.op = false → h' = h ∧ Light P C o e h v)) := by
  have fin : ∀ (V : AVal → H → Prop) (Q : List (AVal × Bool) → H → Prop) (w : Bool), (wantF all o.guard).run e = some w → Step1 o.dst x e V Q (fun p k => (stepF C all o).run g x e h p k) →
      ∃ v h' e', ((o.dst = none ∧ e' = e) ∨ ∃ d, o.dst = some d ∧ d < x.s.n ∧ e' = e.set d v) ∧ (stepF C all o).run g x e h panBad k = k x e' h' ∧ V v h' := by
    intro V Q w hw S
    cases S with
    | bad hb => exact absurd (hb _ _) hne
    | pan c h' hf hq => exact absurd (hf _ _) hne
    | val v h' hf hv =>
      have hf' := hf panBad k
      cases hd : o.dst with
      | none => rw [hd] at hf'; exact ⟨v, h', e, .inl ⟨rfl, rfl⟩, hf', hv⟩
      | some d =>
        rw [hd, putF_some] at hf'
        by_cases hlt : d < x.s.n
        · rw [if_pos hlt] at hf'; exact ⟨v, h', _, .inr ⟨d, rfl, hlt, rfl⟩, hf', hv⟩
        · rw [if_neg hlt] at hf'; exact absurd hf' hne
  have both : Step1 o.dst x e (fun v h' => VSim P o e h v h' ∧ (isHeavy o.op = false → h' = h ∧ Light P C o e h v)) (fun _ _ => True) (fun p k => (opF C o.dst o.op).run g x e h p k) := by
    cases hh : isHeavy o.op with
    | true => exact (op_s K hG hns).mono (fun v h' hv => ⟨hv, fun q => by cases q⟩) fun _ _ _ => trivial
    | false =>
      have hd : ∀ c, o.op ≠ .defer c := fun c hc => by rw [hc] at hns; cases hns
      exact (op_light K hh).mono (fun v h' hv => ⟨by obtain ⟨rfl, q⟩ := hv; exact q.look.heavy.vsim hd, fun _ => hv⟩) fun _ _ _ => trivial
  cases hg : o.guard with
  | none =>
    have hst : stepF C all o = opF C o.dst o.op := by unfold stepF; rw [hg]
    have hw : (wantF all o.guard).run e = some true := by rw [hg]; rfl
    obtain ⟨v, h', e', q1, q2, q3⟩ := fin _ _ true hw (by rw [hst]; exact both)
    exact ⟨true, v, h', e', by rw [← hg]; exact hw, q1, q2, fun q => (by cases q), fun _ => q3⟩
  | some gd =>
    have hst : ∀ p k, (stepF C all o).run g x e h p k = ox ((wantF all (some gd)).run e) (fun w => sel w ((opF C o.dst o.op).run g x e h p k) ((putF o.dst).run .undef x e h k)) := by
      intro p k; unfold stepF; rw [hg]
    cases hw : (wantF all (some gd)).run e with
    | none => exact absurd (by rw [hst, hw]) hne
    | some w =>
      cases w with
      | true =>
        have hw' : (wantF all o.guard).run e = some true := by rw [hg]; exact hw
        obtain ⟨v, h', e', q1, q2, q3⟩ := fin _ _ true hw' (by
          have : (fun (p : PK) (k : Sim.K) => (stepF C all o).run g x e h p k) = fun p k => (opF C o.dst o.op).run g x e h p k := by
            funext p k; rw [hst, hw]
          rw [this]; exact both)
        exact ⟨true, v, h', e', rfl, q1, q2, fun q => (by cases q), fun _ => q3⟩
      | false =>
        have hw' : (wantF all o.guard).run e = some false := by rw [hg]; exact hw
        obtain ⟨v, h', e', q1, q2, q3⟩ := fin (fun v h' => v = .undef ∧ h' = h) (fun _ _ => True) false hw' (.val .undef h (fun p k => by rw [hst, hw]) ⟨rfl, rfl⟩)
        exact ⟨false, v, h', e', rfl, q1, q2, fun _ => q3, fun q => by cases q⟩

theorem runM_nil {i : Nat} {e : Env} {h : H} : (runM C all ri [] i).run g x e h = .mk .normal x e h := rfl
theorem runM_cons {o : Oper} {r : List Oper} {i : Nat} {e : Env} {h : H} : (runM C all ri (o :: r) i).run g x e h =
    if i < ri.tail then
      if isHeavy o.op = true then (stepF C all o).run g x e (h.withLo big) panBad (heavyEnd C all ri i e h ((runM C all ri r (i + 1)).run g))
      else (stepF C all o).run g x e h panBad ((runM C all ri r (i + 1)).run g)
    else (runOps C all (o :: r)).run g x e h := by
  show (sel (Nat.blt i ri.tail) (sel (isHeavy o.op) (⟨_⟩ : CF) ⟨_⟩) ⟨_⟩).run g x e h = _
  rw [natBlt, sel_eq, sel_eq]
  by_cases h1 : i < ri.tail
  · rw [if_pos (by simpa using h1), if_pos h1]
    by_cases h2 : isHeavy o.op = true
    · rw [if_pos h2, if_pos h2]; rfl
    · rw [if_neg h2, if_neg h2]; rfl
  · rw [if_neg (by simpa using h1), if_neg h1]

theorem heavyEnd_eq {i : Nat} {env : Env} {h : H} {k : Sim.K} {x' : FX} {env' : Env} {h' : H} : heavyEnd C all ri i env h k x' env' h' =
    if h.next ≤ h'.lo then k x' env' (h'.withLo (min h.lo h'.lo))
    else if modOk ri.anc ri.tail i (stableA C all env h h') all 0 = true then k x' env' (h'.withLo (min h.lo h'.lo)) else .bad := by
  unfold heavyEnd
  rw [natBle, sel_eq, sel_eq, minN_eq]
  by_cases h1 : h.next ≤ h'.lo <;> simp [h1]

theorem trace_of (K : COk C P) (hG : GSim P g) (hns : ∀ (k : Nat) (o : Oper), all[k]? = some o → isSelect o.op = false) : ∀ (l : List Oper) (i : Nat) (e : Env) (h : H), all.drop i = l → i ≤ min ri.tail all.length →
    (runM C all ri l i).run g x e h ≠ .bad → ∃ T X, TrOk P C g all ri x i e h ((runM C all ri l i).run g x e h) T X (min ri.tail all.length)
  | [], i, e, h, hd, hi, _ => by
    have hn : all.length ≤ i := List.drop_eq_nil_iff.1 hd
    have hm : min ri.tail all.length = i := by omega
    rw [hm]
    refine ⟨⟨fun _ => e, fun _ => h, fun _ => .undef, fun _ => false, fun _ => h⟩, [], rfl, rfl, fun k o h1 h2 => absurd h2 (by omega), fun k o h1 h2 => absurd h2 (by omega), fun y hy => (by cases hy), fun y hy => (by cases hy), fun y hy => (by cases hy), ?_⟩
    rw [hd, runM_nil]; rfl
  | o :: r, i, e, h, hd, hi, hne => by
    have hlen : i < all.length := by
      have := congrArg List.length hd
      simp at this; omega
    have hio : all[i]? = some o := by
      rw [← List.head?_drop, hd]; rfl
    have hdr : all.drop (i + 1) = r := by
      have := congrArg (List.drop 1) hd
      simpa [List.drop_drop, Nat.add_comm] using this
    rw [runM_cons] at hne ⊢
    by_cases ht : i < ri.tail
    · rw [if_pos ht] at hne ⊢
      have him : i < min ri.tail all.length := by omega
      by_cases hh : isHeavy o.op = true
      · rw [if_pos hh] at hne ⊢
        obtain ⟨w, v, h', e', q1, q2, q3, q4, q5⟩ := stepF_t K hG (hns i o hio) hne
        rw [q3] at hne ⊢
        rw [heavyEnd_eq] at hne ⊢
        have S : TStep P C all x o e h v w h' e' (h'.withLo (min h.lo h'.lo)) := by
          refine ⟨q1, q2, fun hw => ?_, fun hw _ => ⟨(q5 hw).1, rfl⟩, fun _ hl => by rw [hh] at hl; cases hl⟩
          obtain ⟨rfl, rfl⟩ := q4 hw
          exact ⟨rfl, _, Nat.min_le_left _ _, rfl⟩
        by_cases hlo : h.next ≤ h'.lo
        · rw [if_pos hlo] at hne ⊢
          obtain ⟨T, X, t⟩ := trace_of K hG hns r (i + 1) e' (h'.withLo (min h.lo h'.lo)) hdr (by omega) hne
          exact ⟨_, X, t.cons him hio S (fun _ _ => hlo)⟩
        · rw [if_neg hlo] at hne ⊢
          by_cases hm : modOk ri.anc ri.tail i (stableA C all e h h') all 0 = true
          · rw [if_pos hm] at hne ⊢
            obtain ⟨T, X, t⟩ := trace_of K hG hns r (i + 1) e' (h'.withLo (min h.lo h'.lo)) hdr (by omega) hne
            cases w with
            | true => exact ⟨_, i :: X, t.consM him hio S hm rfl hh⟩
            | false => exact ⟨_, X, t.cons him hio S (fun q => by cases q)⟩
          · rw [if_neg hm] at hne; exact absurd rfl hne
      · rw [if_neg hh] at hne ⊢
        obtain ⟨w, v, h', e', q1, q2, q3, q4, q5⟩ := stepF_t K hG (hns i o hio) hne
        rw [q3] at hne ⊢
        have hl : isHeavy o.op = false := by simpa using hh
        have S : TStep P C all x o e h v w h' e' h' := by
          refine ⟨q1, q2, fun hw => ?_, fun hw q => (by rw [hl] at q; cases q), fun hw _ => (q5 hw).2 hl⟩
          obtain ⟨rfl, rfl⟩ := q4 hw
          exact ⟨rfl, _, Nat.le_refl _, by cases h'; rfl⟩
        obtain ⟨T, X, t⟩ := trace_of K hG hns r (i + 1) e' h' hdr (by omega) hne
        exact ⟨_, X, t.cons him hio S (fun _ q => by rw [hl] at q; cases q)⟩
    · rw [if_neg ht] at hne ⊢
      have hm : min ri.tail all.length = i := by omega
      rw [hm]
      refine ⟨⟨fun _ => e, fun _ => h, fun _ => .undef, fun _ => false, fun _ => h⟩, [], rfl, rfl, fun k o h1 h2 => absurd h2 (by omega), fun k o h1 h2 => absurd h2 (by omega), fun y hy => (by cases hy), fun y hy => (by cases hy), fun y hy => (by cases hy), ?_⟩
      rw [hd]

end
end Go.Sim
end
section
/- The orders in which a region may run. -/
namespace Go.Sim

/-- is 'i' an ancestor of 'k'? -/
noncomputable def RInfo.ancB (ri : RInfo) (k i : Nat) : Bool := Nat.testBit (oe (getX k ri.anc) 0 (fun n => n)) i

structure RIOk (all : List Oper) (ri : RInfo) : Prop where
  len : ri.tail ≤ all.length
  full : ∀ k i, ri.tail ≤ k → k < all.length → i < k → ri.ancB k i = true
  bit : ∀ k i, ri.ancB k i = true → ∃ o, all[k]? = some o ∧ ∃ e ∈ o.after.toList, Region.binds .any e = true ∧ (e.on = i ∨ ri.ancB e.on i = true)
  compat : ∀ (k j : Nat) (o p : Oper), all[k]? = some o → all[j]? = some p → j < k → spoils all o p = false ∧ (clash all o p = true → ri.ancB k j = true)
  back : ∀ (k : Nat) (o : Oper), all[k]? = some o → ∀ e ∈ o.after.toList, Region.binds .any e = true → e.on < k
  sel : ∀ (k : Nat) (o : Oper), all[k]? = some o → isSelect o.op = false

theorem ancOf_nil (acc : List Nat) : ancOf acc [] = 0 := rfl
theorem ancOf_cons (acc : List Nat) (e : Edge) (l : List Edge) : ancOf acc (e :: l) = if Region.binds .any e = true then ((2 ^ e.on ||| oe (getX e.on acc) 0 (fun n => n)) ||| ancOf acc l) else ancOf acc l := by
  show sel (Region.binds .any e) _ _ = _
  rw [sel_eq]; rfl

theorem ancOf_bit (acc : List Nat) (i : Nat) : ∀ (l : List Edge), (ancOf acc l).testBit i = true → ∃ e ∈ l, Region.binds .any e = true ∧ (e.on = i ∨ (oe (getX e.on acc) 0 (fun n => n)).testBit i = true)
  | [], h => by rw [ancOf_nil] at h; simp at h
  | e :: l, h => by
    rw [ancOf_cons] at h
    split at h
    · rename_i hb
      rw [Nat.testBit_or, Nat.testBit_or, Bool.or_eq_true, Bool.or_eq_true] at h
      rcases h with (h | h) | h
      · exact ⟨e, by simp, hb, .inl (by rw [Nat.testBit_two_pow] at h; simpa using h)⟩
      · exact ⟨e, by simp, hb, .inr h⟩
      · obtain ⟨e', q1, q2⟩ := ancOf_bit acc i l h
        exact ⟨e', by simp [q1], q2⟩
    · obtain ⟨e', q1, q2⟩ := ancOf_bit acc i l h
      exact ⟨e', by simp [q1], q2⟩

theorem ancs_nil (acc : List Nat) : ancs [] acc = acc := rfl
theorem ancs_cons (o : Oper) (l : List Oper) (acc : List Nat) : ancs (o :: l) acc = ancs l (acc ++ [ancOf acc o.after.toList]) := by
  show ancs l (app acc _) = _
  rw [app_eq]

theorem ancs_spec : ∀ (l : List Oper) (acc : List Nat), (ancs l acc).length = acc.length + l.length ∧ (∀ k, k < acc.length → (ancs l acc)[k]? = acc[k]?) ∧
    ∀ (k : Nat) (o : Oper), l[k]? = some o → (ancs l acc)[acc.length + k]? = some (ancOf ((ancs l acc).take (acc.length + k)) o.after.toList)
  | [], acc => by
    refine ⟨by simp [ancs_nil], fun k hk => by rw [ancs_nil], fun k o h => by simp at h⟩
  | o :: l, acc => by
    obtain ⟨h1, h2, h3⟩ := ancs_spec l (acc ++ [ancOf acc o.after.toList])
    rw [ancs_cons]
    have hlen : (acc ++ [ancOf acc o.after.toList]).length = acc.length + 1 := by simp
    refine ⟨by rw [h1, hlen, List.length_cons]; omega, fun k hk => ?_, fun k o' hk => ?_⟩
    · rw [h2 k (by rw [hlen]; omega), List.getElem?_append_left hk]
    · cases k with
      | zero =>
        have ho : o = o' := by simpa using hk
        subst ho
        have h4 : (ancs l (acc ++ [ancOf acc o.after.toList])).take (acc.length + 0) = acc := by
          apply List.ext_getElem?
          intro i
          rw [List.getElem?_take]
          split
          · rename_i hi
            rw [h2 i (by rw [hlen]; omega), List.getElem?_append_left (by omega)]
          · rename_i hi
            rw [List.getElem?_eq_none (by omega)]
        rw [h4, Nat.add_zero, h2 _ (by rw [hlen]; omega)]
        simp
      | succ k =>
        have := h3 k o' (by simpa using hk)
        rw [hlen] at this
        rw [show acc.length + (k + 1) = acc.length + 1 + k by omega]
        exact this

theorem oe_getD (l : List Nat) (k : Nat) : oe (getX k l) 0 (fun n => n) = (l[k]?).getD 0 := by
  rw [getX_eq]; cases l[k]? <;> rfl

theorem tailFrom_nil (i t : Nat) : tailFrom [] i t = t := rfl
theorem tailFrom_cons (a : Nat) (l : List Nat) (i t : Nat) : tailFrom (a :: l) i t = if a + 1 = 2 ^ i then tailFrom l (i + 1) t else tailFrom l (i + 1) (i + 1) := by
  show sel (Nat.beq (Nat.add a 1) (Nat.pow 2 i)) _ _ = _
  rw [natBeq, sel_eq]; simp only [decide_eq_true_eq]; rfl

theorem tailFrom_spec : ∀ (l : List Nat) (i t : Nat), t ≤ i → t ≤ tailFrom l i t ∧ tailFrom l i t ≤ i + l.length ∧ ∀ (j a : Nat), l[j]? = some a → tailFrom l i t ≤ i + j → a + 1 = 2 ^ (i + j)
  | [], i, t, h => by rw [tailFrom_nil]; exact ⟨Nat.le_refl _, by simp; exact h, fun j a hj => by simp at hj⟩
  | a :: l, i, t, h => by
    rw [tailFrom_cons]
    split
    · rename_i ha
      obtain ⟨h1, h2, h3⟩ := tailFrom_spec l (i + 1) t (by omega)
      refine ⟨h1, by simp; omega, fun j b hj hle => ?_⟩
      cases j with
      | zero => have : a = b := by simpa using hj
                subst this; exact ha
      | succ j => have := h3 j b (by simpa using hj) (by omega)
                  rw [this]; congr 1; omega
    · obtain ⟨h1, h2, h3⟩ := tailFrom_spec l (i + 1) (i + 1) (by omega)
      refine ⟨by omega, by simp; omega, fun j b hj hle => ?_⟩
      cases j with
      | zero => omega
      | succ j => have := h3 j b (by simpa using hj) (by omega)
                  rw [this]; congr 1; omega

theorem compatRow_spec (all : List Oper) (o : Oper) (anc : Nat) : ∀ (l : List Oper) (j0 : Nat), compatRow all o anc l j0 = true → ∀ (j : Nat) (p : Oper), l[j]? = some p → spoils all o p = false ∧ (clash all o p = true → anc.testBit (j0 + j) = true)
  | [], j0, _, j, p, h => by simp at h
  | q :: l, j0, h, j, p, hj => by
    have h' : sel (spoils all o q) false (sel (clash all o q) (sel (Nat.testBit anc j0) (compatRow all o anc l (Nat.add j0 1)) false) (compatRow all o anc l (Nat.add j0 1))) = true := h
    rw [sel_eq, sel_eq, sel_eq] at h'
    split at h'
    · cases h'
    · rename_i hs
      cases j with
      | zero =>
        have : q = p := by simpa using hj
        subst this
        refine ⟨by simpa using hs, fun hc => ?_⟩
        rw [if_pos hc] at h'
        split at h'
        · rename_i ht; exact ht
        · cases h'
      | succ j =>
        have hrec : compatRow all o anc l (j0 + 1) = true := by
          split at h'
          · split at h'
            · exact h'
            · cases h'
          · exact h'
        have := compatRow_spec all o anc l (j0 + 1) hrec j p (by simpa using hj)
        rw [show j0 + (j + 1) = j0 + 1 + j by omega]
        exact this

theorem backs_spec (i : Nat) : ∀ (l : List Edge), backs i l = true → ∀ e ∈ l, Region.binds .any e = true → e.on < i
  | [], _, e, h => by simp at h
  | q :: l, h, e, he => by
    have h' : sel (Region.binds .any q) (sel (Nat.blt q.on i) (backs i l) false) (backs i l) = true := h
    rw [natBlt, sel_eq, sel_eq] at h'
    intro hb
    split at h'
    · split at h'
      · rename_i hlt
        rcases List.mem_cons.1 he with rfl | he
        · simpa using hlt
        · exact backs_spec i l h' e he hb
      · cases h'
    · rename_i hq
      rcases List.mem_cons.1 he with rfl | he
      · exact absurd hb hq
      · exact backs_spec i l h' e he hb

theorem compatAll_spec (all : List Oper) (anc : List Nat) : ∀ (l pre : List Oper), compatAll all anc l pre = true → ∀ (k : Nat) (o : Oper), l[k]? = some o →
    compatRow all o (oe (getX (pre.length + k) anc) 0 (fun n => n)) (pre ++ l.take k) 0 = true ∧ backs (pre.length + k) o.after.toList = true ∧ isSelect o.op = false
  | [], pre, _, k, o, h => by simp at h
  | q :: l, pre, h, k, o, hk => by
    have h' : sel (compatRow all q (oe (getX (len pre) anc) 0 (fun n => n)) pre 0 && backs (len pre) q.after.toList && !isSelect q.op) (compatAll all anc l (app pre [q])) false = true := h
    rw [sel_eq, app_eq, len_eq] at h'
    split at h'
    · rename_i hc
      simp only [Bool.and_eq_true, Bool.not_eq_true'] at hc
      cases k with
      | zero =>
        have : q = o := by simpa using hk
        subst this
        refine ⟨by simpa using hc.1.1, by simpa using hc.1.2, hc.2⟩
      | succ k =>
        have := compatAll_spec all anc l (pre ++ [q]) h' k o (by simpa using hk)
        simp only [List.length_append, List.length_singleton, List.append_assoc, List.singleton_append] at this
        rw [show pre.length + (k + 1) = pre.length + 1 + k by omega]
        rw [List.take_succ_cons]
        exact this
    · cases h'

theorem rinfo_ok {all : List Oper} {ri : RInfo} (h : rinfo all = some ri) : RIOk all ri := by
  unfold rinfo at h
  rw [sel_eq] at h
  split at h
  · rename_i hc
    cases h
    obtain ⟨s1, _, s3⟩ := ancs_spec all []
    simp only [List.length_nil, Nat.zero_add] at s1 s3
    obtain ⟨t1, t2, t3⟩ := tailFrom_spec (ancs all []) 0 0 (Nat.le_refl _)
    have C := compatAll_spec all (ancs all []) all [] hc
    simp only [List.length_nil, Nat.zero_add, List.nil_append] at C
    refine ⟨by rw [← s1]; simpa using t2, fun k i h1 h2 h3 => ?_, fun k i hb => ?_, fun k j o p hk hj hlt => ?_, fun k o hk e he hb => ?_, fun k o hk => (C k o hk).2.2⟩
    · show Nat.testBit (oe (getX k (ancs all [])) 0 (fun n => n)) i = true
      rw [oe_getD]
      have hk : k < (ancs all []).length := by rw [s1]; exact h2
      have := t3 k (ancs all [])[k] (List.getElem?_eq_getElem hk) (by simpa using h1)
      rw [List.getElem?_eq_getElem hk, Option.getD_some]
      have e1 : (ancs all [])[k] = 2 ^ k - 1 := by simp at this; omega
      rw [e1, Nat.testBit_two_pow_sub_one]
      simpa using h3
    · have hb' : Nat.testBit (oe (getX k (ancs all [])) 0 (fun n => n)) i = true := hb
      rw [oe_getD] at hb'
      cases ho : all[k]? with
      | none =>
        have : (ancs all []).length ≤ k := by rw [s1]; exact List.getElem?_eq_none_iff.1 ho
        rw [List.getElem?_eq_none this] at hb'; simp at hb'
      | some o =>
        rw [s3 k o ho, Option.getD_some] at hb'
        obtain ⟨e, q1, q2, q3⟩ := ancOf_bit _ i _ hb'
        refine ⟨o, rfl, e, q1, q2, ?_⟩
        rcases q3 with q3 | q3
        · exact .inl q3
        · refine .inr ?_
          show Nat.testBit (oe (getX e.on (ancs all [])) 0 (fun n => n)) i = true
          rw [oe_getD] at q3 ⊢
          rw [List.getElem?_take] at q3
          split at q3
          · exact q3
          · simp at q3
    · have := (C k o hk).1
      have hj' : (all.take k)[j]? = some p := by rw [List.getElem?_take, if_pos hlt]; exact hj
      have := compatRow_spec all o _ _ 0 this j p hj'
      rw [Nat.zero_add] at this
      exact this
    · exact backs_spec k _ (C k o hk).2.1 e he hb
  · cases h

/-! ### The lists that may come up -/

structure Sched (ops : Array Oper) (L : List Nat) : Prop where
  nodup : L.Nodup
  mem : ∀ i, i ∈ L ↔ i < ops.size
  edge : ∀ pre j post, L = pre ++ j :: post → ∀ o, ops[j]? = some o → ∀ e ∈ o.after.toList, Region.binds .any e = true → e.on ∈ pre

def cnt (f : Nat → Bool) : Nat → Nat
  | 0 => 0
  | k + 1 => cnt f k + (if f k = true then 0 else 1)

theorem cnt_congr {f g : Nat → Bool} : ∀ k, (∀ i, i < k → f i = g i) → cnt f k = cnt g k
  | 0, _ => rfl
  | k + 1, h => by rw [cnt, cnt, cnt_congr k (fun i hi => h i (by omega)), h k (by omega)]

theorem cnt_set {f g : Nat → Bool} {j : Nat} (hj : f j = false) (hgj : g j = true) (hg : ∀ i, i ≠ j → g i = f i) : ∀ k, j < k → cnt g k + 1 = cnt f k
  | 0, h => absurd h (by omega)
  | k + 1, h => by
    by_cases hk : k = j
    · subst hk
      rw [cnt, cnt, hj, hgj, cnt_congr k (fun i hi => hg i (by omega))]
      simp
    · have := cnt_set hj hgj hg k (by omega)
      rw [cnt, cnt, hg k hk]; omega

theorem cnt_zero {f : Nat → Bool} : ∀ k, cnt f k = 0 → ∀ i, i < k → f i = true
  | 0, _, i, h => absurd h (by omega)
  | k + 1, h, i, hi => by
    rw [cnt] at h
    by_cases hk : i = k
    · subst hk
      cases hf : f i with
      | true => rfl
      | false => rw [hf] at h; simp at h
    · exact cnt_zero k (by omega) i (by omega)

section
variable {ops : Array Oper}

theorem ready_mem {listed : Array Bool} {i : Nat} : i ∈ Region.ready .any ops listed ↔ i < ops.size ∧ listed.getD i true = false ∧ ∃ o, ops[i]? = some o ∧ ∀ e ∈ o.after.toList, Region.binds .any e = true → listed.getD e.on false = true := by
  unfold Region.ready
  rw [List.mem_filter, List.mem_range, Bool.and_eq_true, Bool.not_eq_true']
  constructor
  · rintro ⟨h1, h2, h3⟩
    refine ⟨h1, h2, ops[i], Array.getElem?_eq_getElem h1, fun e he hb => ?_⟩
    rw [Array.getElem?_eq_getElem h1, Option.map_some, Option.getD_some, ← Array.all_toList, List.all_eq_true] at h3
    have := h3 e he
    simpa [hb] using this
  · rintro ⟨h1, h2, o, ho, h3⟩
    refine ⟨h1, h2, ?_⟩
    rw [ho, Option.map_some, Option.getD_some, ← Array.all_toList, List.all_eq_true]
    intro e he
    cases hb : Region.binds .any e with
    | false => rfl
    | true => simpa using h3 e he hb

theorem go_step (fuel t : Nat) (listed : Array Bool) : Region.linearise.go .any ops (fuel + 1) t listed [] = [] ∧ Region.ready .any ops listed = [] ∨
    ∃ i t', i ∈ Region.ready .any ops listed ∧ Region.linearise.go .any ops (fuel + 1) t listed [] = i :: Region.linearise.go .any ops fuel t' (listed.setIfInBounds i true) [] := by
  have e1 : Region.linearise.go .any ops (fuel + 1) t listed [] = match (Region.ready .any ops listed)[t % (Region.ready .any ops listed).length]? with
      | some i => Region.linearise.go .any ops fuel (t / (Region.ready .any ops listed).length) (listed.setIfInBounds i true) [i]
      | none => [].reverse := rfl
  cases hi : (Region.ready .any ops listed)[t % (Region.ready .any ops listed).length]? with
  | none =>
    rw [hi] at e1
    refine .inl ⟨e1, ?_⟩
    cases hr : Region.ready .any ops listed with
    | nil => rfl
    | cons x xs =>
      rw [hr] at hi
      have hlt : t % (x :: xs).length < (x :: xs).length := Nat.mod_lt _ (by simp)
      have := List.getElem?_eq_none_iff.1 hi
      omega
  | some i =>
    rw [hi] at e1
    refine .inr ⟨i, t / (Region.ready .any ops listed).length, List.mem_of_getElem? hi, ?_⟩
    rw [e1]
    simp only []
    rw [linearise_go_acc]
    rfl

theorem getD_set {listed : Array Bool} {j i : Nat} {d : Bool} (hj : j < listed.size) : (listed.setIfInBounds j true).getD i d = if i = j then true else listed.getD i d := by
  simp only [Array.getD_eq_getD_getElem?, Array.getElem?_setIfInBounds]
  by_cases h : j = i
  · subst h; simp [hj]
  · rw [if_neg h, if_neg (Ne.symm h)]

theorem go_spec (hback : ∀ (k : Nat) (o : Oper), ops[k]? = some o → ∀ e ∈ o.after.toList, Region.binds .any e = true → e.on < k) : ∀ (fuel t : Nat) (listed : Array Bool), listed.size = ops.size →
    let L := Region.linearise.go .any ops fuel t listed []
    L.Nodup ∧ (∀ i, i ∈ L → i < ops.size ∧ listed.getD i true = false) ∧ (cnt (fun i => listed.getD i true) ops.size ≤ fuel → ∀ i, i < ops.size → listed.getD i true = false → i ∈ L) ∧
    ∀ pre j post, L = pre ++ j :: post → ∀ o, ops[j]? = some o → ∀ e ∈ o.after.toList, Region.binds .any e = true → listed.getD e.on false = true ∨ e.on ∈ pre
  | 0, t, listed, hsz => by
    refine ⟨by simp [Region.linearise.go], fun i hi => by simp [Region.linearise.go] at hi, fun hc i hi hl => ?_, fun pre j post h => by simp [Region.linearise.go] at h⟩
    have := cnt_zero (f := fun i => listed.getD i true) ops.size (by omega) i hi
    have this : listed.getD i true = true := this
    rw [hl] at this; cases this
  | fuel + 1, t, listed, hsz => by
    rcases go_step (ops := ops) fuel t listed with ⟨h1, h2⟩ | ⟨i, t', hi, h1⟩
    · rw [h1]
      refine ⟨by simp, fun i hi => by simp at hi, fun hc i hi hl => ?_, fun pre j post h => by simp at h⟩
      exfalso
      have key : ∀ n i, i < n → i < ops.size → listed.getD i true = false → False := by
        intro n
        induction n with
        | zero => intro i hi; omega
        | succ n ih =>
          intro i hin hsi hl
          by_cases hall : ∀ e ∈ (ops[i]).after.toList, Region.binds .any e = true → listed.getD e.on false = true
          · have : i ∈ Region.ready .any ops listed := ready_mem.2 ⟨hsi, hl, ops[i], Array.getElem?_eq_getElem hsi, hall⟩
            rw [h2] at this; simp at this
          · have : ∃ e ∈ (ops[i]).after.toList, Region.binds .any e = true ∧ listed.getD e.on false ≠ true := by
              apply Classical.byContradiction
              intro hn
              apply hall
              intro e he hb
              apply Classical.byContradiction
              intro hl'
              exact hn ⟨e, he, hb, hl'⟩
            obtain ⟨e, he, hb, hne⟩ := this
            have hlt := hback i ops[i] (Array.getElem?_eq_getElem hsi) e he hb
            refine ih e.on (by omega) (by omega) ?_
            have hin' : e.on < listed.size := by omega
            rw [Array.getD_eq_getD_getElem?, Array.getElem?_eq_getElem hin'] at hne ⊢
            simpa using hne
      exact key (i + 1) i (by omega) hi hl
    · obtain ⟨q1, q2, o, q3, q4⟩ := ready_mem.1 hi
      obtain ⟨a1, a2, a3, a4⟩ := go_spec hback fuel t' (listed.setIfInBounds i true) (by simpa using hsz)
      have hset : ∀ x d, (listed.setIfInBounds i true).getD x d = if x = i then true else listed.getD x d := fun x d => getD_set (by omega)
      rw [h1]
      refine ⟨?_, fun x hx => ?_, fun hc x hx hl => ?_, fun pre j post hL => ?_⟩
      · rw [List.nodup_cons]
        refine ⟨fun hm => ?_, a1⟩
        have := (a2 i hm).2
        rw [hset, if_pos rfl] at this; cases this
      · rcases List.mem_cons.1 hx with rfl | hx
        · exact ⟨q1, q2⟩
        · obtain ⟨b1, b2⟩ := a2 x hx
          refine ⟨b1, ?_⟩
          rw [hset] at b2
          split at b2
          · cases b2
          · exact b2
      · by_cases hxi : x = i
        · subst hxi; simp
        · refine List.mem_cons_of_mem _ (a3 ?_ x hx ?_)
          · have := cnt_set (f := fun i => listed.getD i true) (g := fun x => (listed.setIfInBounds i true).getD x true) (j := i) q2 (by show (listed.setIfInBounds i true).getD i true = true; rw [hset, if_pos rfl]) (fun y hy => by show (listed.setIfInBounds i true).getD y true = _; rw [hset, if_neg hy]) ops.size q1
            omega
          · rw [hset, if_neg hxi]; exact hl
      · intro o' ho' e he hb
        cases pre with
        | nil =>
          simp at hL
          obtain ⟨rfl, _⟩ := hL
          rw [q3] at ho'; cases ho'
          exact .inl (q4 e he hb)
        | cons p pre =>
          simp at hL
          obtain ⟨rfl, hL⟩ := hL
          rcases a4 pre j post hL o' ho' e he hb with q | q
          · rw [hset] at q
            split at q
            · rename_i h; exact .inr (by simp [h])
            · exact .inl q
          · exact .inr (by simp [q])

theorem sched_ok (hback : ∀ (k : Nat) (o : Oper), ops[k]? = some o → ∀ e ∈ o.after.toList, Region.binds .any e = true → e.on < k) (t : Nat) : Sched ops (Region.linearise .any ops t) := by
  obtain ⟨a1, a2, a3, a4⟩ := go_spec hback ops.size t (Array.replicate ops.size false) (by simp)
  have hrep : ∀ i, i < ops.size → (Array.replicate ops.size false).getD i true = false := by
    intro i hi; rw [Array.getD_eq_getD_getElem?, Array.getElem?_eq_getElem (by simpa using hi)]; simp
  have hcnt : ∀ (f : Nat → Bool) k, cnt f k ≤ k := by
    intro f k
    induction k with
    | zero => simp [cnt]
    | succ k ih => rw [cnt]; split <;> omega
  refine ⟨a1, fun i => ⟨fun h => (a2 i h).1, fun h => a3 (hcnt _ _) i h (hrep i h)⟩, fun pre j post hL o ho e he hb => ?_⟩
  rcases a4 pre j post hL o ho e he hb with q | q
  · exfalso
    have : (Array.replicate ops.size false).getD e.on false = false := by
      rw [Array.getD_eq_getD_getElem?]
      by_cases h : e.on < ops.size
      · rw [Array.getElem?_eq_getElem (by simpa using h)]; simp
      · rw [Array.getElem?_eq_none (by simpa using h)]; rfl
    rw [this] at q; cases q
  · exact q

/-- what comes first -/
def Ahead (ri : RInfo) (L : List Nat) : Prop := ∀ pre j post, L = pre ++ j :: post → ∀ i, ri.ancB j i = true → i ∈ pre

theorem ahead_of {ri : RInfo} (R : RIOk ops.toList ri) {L : List Nat} (S : Sched ops L) : Ahead ri L := by
  have key : ∀ n j, j < n → ∀ pre post, L = pre ++ j :: post → ∀ i, ri.ancB j i = true → i ∈ pre := by
    intro n
    induction n with
    | zero => intro j hj; omega
    | succ n ih =>
      intro j hj pre post hL i hb
      obtain ⟨o, ho, e, he, hbind, hi⟩ := R.bit j i hb
      have ho' : ops[j]? = some o := by rw [← Array.getElem?_toList]; exact ho
      have hin := S.edge pre j post hL o ho' e he hbind
      rcases hi with rfl | hi
      · exact hin
      · obtain ⟨p1, p2, hp⟩ := List.append_of_mem hin
        have hlt := R.back j o ho e he hbind
        have := ih e.on (by omega) p1 (p2 ++ j :: post) (by rw [hL, hp]; simp) i hi
        rw [hp]; simp [this]
  intro pre j post hL i hb
  exact key (j + 1) j (by omega) pre post hL i hb

/-- the operations behind the first part come in their order -/
theorem split_tail {ri : RInfo} {m : Nat} : ∀ (d : Nat) (L : List Nat), L.Nodup → (∀ i, i ∈ L ↔ i < m + d) → Ahead ri L → (∀ k i, m ≤ k → k < m + d → i < k → ri.ancB k i = true) →
    ∃ L1, L = L1 ++ List.range' m d ∧ L1.Nodup ∧ (∀ i, i ∈ L1 ↔ i < m) ∧ Ahead ri L1
  | 0, L, h1, h2, h3, _ => ⟨L, by simp, h1, by simpa using h2, h3⟩
  | d + 1, L, h1, h2, h3, h4 => by
    have hin : m + d ∈ L := (h2 _).2 (by omega)
    obtain ⟨pre, post, hL⟩ := List.append_of_mem hin
    have hpost : post = [] := by
      cases post with
      | nil => rfl
      | cons z post =>
        exfalso
        have hz : z ∈ L := by rw [hL]; simp
        have hzlt := (h2 z).1 hz
        have hne : z ≠ m + d := by
          rintro rfl
          rw [hL, List.nodup_append] at h1
          simp at h1
        have := h3 pre (m + d) (z :: post) hL z (h4 (m + d) z (by omega) (by omega) (by omega))
        rw [hL, List.nodup_append] at h1
        exact h1.2.2 z this z (by simp) rfl
    subst hpost
    have hpn : pre.Nodup := by rw [hL, List.nodup_append] at h1; exact h1.1
    have hpm : ∀ i, i ∈ pre ↔ i < m + d := by
      intro i
      constructor
      · intro hi
        have h5 : i ∈ L := by rw [hL]; simp [hi]
        have h6 := (h2 i).1 h5
        have h7 : i ≠ m + d := by
          rintro rfl
          rw [hL, List.nodup_append] at h1
          exact h1.2.2 _ hi _ (by simp) rfl
        omega
      · intro hi
        have h5 : i ∈ L := (h2 i).2 (by omega)
        rw [hL] at h5
        simp at h5
        rcases h5 with h5 | h5
        · exact h5
        · omega
    have hpa : Ahead ri pre := fun p j q hp i hb => h3 p j (q ++ [m + d]) (by rw [hL, hp]; simp) i hb
    obtain ⟨L1, q1, q2, q3, q4⟩ := split_tail d pre hpn hpm hpa (fun k i a b c => h4 k i a (by omega) c)
    refine ⟨L1, ?_, q2, q3, q4⟩
    rw [hL, q1, List.range'_concat, List.append_assoc]; simp

end
end Go.Sim
end
section
/- Regions that draw their order: what the natural run, played on the model's machine, says of the heaps. -/
namespace Go.Sim

theorem Rel.relo {ι : Inj} {h : H} {w : World} (l : Nat) (r : Rel ι h w) : Rel ι (h.withLo l) w := ⟨r.cap, r.dom, r.sep, r.fits, r.par⟩

theorem Rel.unlo {ι : Inj} {h : H} {w : World} {l : Nat} (r : Rel ι (h.withLo l) w) : Rel ι h w := ⟨r.cap, r.dom, r.sep, r.fits, r.par⟩

theorem Went.relo {ι ι' : Inj} {h h' : H} {w w' : World} {b l : Nat} (W : Went ι (h.withLo b) w ι' h' w') (h1 : l ≤ h.lo) (h2 : l ≤ h'.lo) : Went ι h w ι' (h'.withLo l) w' where
  ext := W.ext
  next := W.next
  lo := h1
  old := fun x hx hl => W.old x hx (Nat.lt_of_lt_of_le hl h2)
  new := fun x i hx hn => by
    obtain ⟨q1, q2⟩ := W.new x i hx hn
    refine ⟨q1, ?_⟩
    rcases q2 with q2 | ⟨b0, i0, e0, eB, hl⟩
    · exact .inl q2
    · exact .inr ⟨b0, i0, e0, eB, Nat.le_trans h2 hl⟩
  size := W.size
  kept := fun B hB hne => by
    obtain ⟨x, i, hx, eB, hl⟩ := W.kept B hB hne
    exact ⟨x, i, hx, eB, Nat.le_trans h2 hl⟩
  rel := W.rel.relo l
  out := W.out

theorem Went.heap {ι ι' : Inj} {h h' : H} {w w2 w' : World} (hw : w2.heap = w.heap) (ho : SameOut w w2) (W : Went ι h w2 ι' h' w') : Went ι h w ι' h' w' :=
  ⟨W.ext, W.next, W.lo, W.old, fun b i h1 h2 => by rw [← hw]; exact W.new b i h1 h2, by rw [← hw]; exact W.size, fun B hB hne => W.kept B (by rw [hw]; exact hB) (by rw [hw]; exact hne), W.rel, ho.trans W.out⟩

/-! ### Values that two heaps agree on -/

theorem eqI_true {a b : Int} (h : eqI a b = true) : a = b := by
  unfold eqI at h
  split at h
  · simp at h; subst h; rfl
  · simp at h; subst h; rfl
  · cases h

theorem eqKd_true {a b : IntKind} (h : eqKd a b = true) : a = b := by
  cases a <;> cases b <;> first | rfl | (simp [eqKd, kdN] at h)

theorem eqB_true : ∀ {a b : List UInt8}, eqB a b = true → a = b
  | [], [], _ => rfl
  | [], _ :: _, h => by cases h
  | _ :: _, [], h => by cases h
  | x :: a, y :: b, h => by
    have h' : sel (Nat.beq x.toNat y.toNat) (eqB a b) false = true := h
    rw [natBeq, sel_eq] at h'
    split at h'
    · rename_i hx
      have : x = y := UInt8.toNat_inj.1 (by simpa using hx)
      subst this
      rw [eqB_true h']
    · cases h'

theorem eqFlat_true {u v : AVal} (h : eqFlat u v = true) : u = v := by
  unfold eqFlat at h
  split at h <;> first
    | rfl
    | cases h
    | (simp only [Bool.and_eq_true] at h; rw [eqKd_true h.1, eqI_true h.2])
    | (rw [eqB_true h])
    | (simp at h; subst h; rfl)
    | (simp at h; obtain ⟨rfl, rfl⟩ := h; rfl)
    | (simp at h; obtain ⟨⟨⟨rfl, rfl⟩, rfl⟩, rfl⟩ := h; rfl)

theorem eqFlats_true : ∀ {a b : List AVal}, eqFlats a b = true → a = b
  | [], [], _ => rfl
  | [], _ :: _, h => by cases h
  | _ :: _, [], h => by cases h
  | x :: a, y :: b, h => by
    have h' : sel (eqFlat x y) (eqFlats a b) false = true := h
    rw [sel_eq] at h'
    split at h'
    · rename_i hx
      rw [eqFlat_true hx, eqFlats_true h']
    · cases h'

theorem eqFlatA_true {u v : AVal} (h : eqFlatA u v = true) : u = v := by
  unfold eqFlatA at h
  split at h
  · rw [eqFlats_true h]
  · exact eqFlat_true h

theorem sameO_true {u v : Option AVal} (h : sameO u v = true) : u = v := by
  unfold sameO at h
  split at h
  · rw [eqFlatA_true h]
  · cases h

section
variable {P : Program} {C : Ctx}

/-- a look that is stable yields the same -/
theorem stable_val {e : Env} {h h' : H} {op : Op} {v : AVal} (hs : stableLoad C e h h' op = true) (hv : lookV C e h op = some v) : lookV C e h' op = some v := by
  cases op with
  | load t a =>
    have hs' : oe (C.tt.get t) false (fun ti => oe ((evF a).run e) false (fun p => sameO (loadT h ti p) (loadT h' ti p))) = true := hs
    have hv' : (ob (C.tt.get t) fun ti => ob ((evF a).run e) fun p => loadT h ti p) = some v := hv
    show (ob (C.tt.get t) fun ti => ob ((evF a).run e) fun p => loadT h' ti p) = some v
    cases ht : C.tt.get t with
    | none => rw [ht] at hs'; cases hs'
    | some ti =>
      rw [ht, oe_some] at hs'
      rw [ht, ob_some] at hv'
      rw [ob_some]
      cases hp : (evF a).run e with
      | none => rw [hp] at hs'; cases hs'
      | some p =>
        rw [hp, oe_some] at hs'
        rw [hp, ob_some] at hv'
        rw [ob_some, ← sameO_true hs']; exact hv'
  | call c =>
    simp only [stableLoad] at hs
    split at hs
    · rename_i a hc has
      cases hats : c.argTypes.toList with
      | nil => rw [hats] at hs; cases hs
      | cons t ts =>
        have e1 : ∀ h, lookV C e h (.call c) = ob (C.tt.get t) fun ti => ob ((evF a).run e) fun v => ob (lenX ti.desc h v) fun n => some (.int .i64 (Int.ofNat n)) := by
          intro h; simp only [lookV, hc, hats, has]
        rw [hats] at hs
        rw [e1] at hv ⊢
        have hs' : oe (C.tt.get t) false (fun ti => oe ((evF a).run e) false (fun v => oe (lenX ti.desc h v) false (fun n => oe (lenX ti.desc h' v) false (fun m => Nat.beq n m)))) = true := hs
        cases ht : C.tt.get t with
        | none => rw [ht] at hs'; cases hs'
        | some ti =>
          rw [ht, oe_some] at hs'
          rw [ht, ob_some] at hv
          rw [ob_some]
          cases hp : (evF a).run e with
          | none => rw [hp] at hs'; cases hs'
          | some p =>
            rw [hp, oe_some] at hs'
            rw [hp, ob_some] at hv
            rw [ob_some]
            cases hn : lenX ti.desc h p with
            | none => rw [hn] at hs'; cases hs'
            | some n =>
              rw [hn, oe_some] at hs'
              rw [hn, ob_some] at hv
              cases hm : lenX ti.desc h' p with
              | none => rw [hm] at hs'; cases hs'
              | some m =>
                rw [hm, oe_some, natBeq] at hs'
                simp at hs'
                rw [ob_some, ← hs']; exact hv
    · cases hs
  | _ => cases hs

/-- a look goes by its operands and by the blocks that these name -/
theorem lookV_same {e e' : Env} {h h' : H} {op : Op} {v : AVal} (hv : lookV C e h op = some v) (he : ∀ a ∈ op.operands.toList, (evF a).run e' = (evF a).run e)
    (hb : ∀ a ∈ op.operands.toList, ∀ b off, (evF a).run e = some (.ptr (some (b, off))) → h'.get b = h.get b) (hr : ∀ a ∈ op.operands.toList, ∀ r, (evF a).run e = some (.map (some r)) → h'.get r = h.get r) : lookV C e' h' op = some v := by
  cases op with
  | load t a =>
    have hv' : (ob (C.tt.get t) fun ti => ob ((evF a).run e) fun p => loadT h ti p) = some v := hv
    show (ob (C.tt.get t) fun ti => ob ((evF a).run e') fun p => loadT h' ti p) = some v
    rw [he a (by simp [Op.operands])]
    cases ht : C.tt.get t with
    | none => rw [ht] at hv'; cases hv'
    | some ti =>
      rw [ht, ob_some] at hv'
      rw [ob_some]
      cases hp : (evF a).run e with
      | none => rw [hp] at hv'; cases hv'
      | some p =>
        rw [hp, ob_some] at hv'
        rw [ob_some, ← hv']
        unfold loadT loadP
        split
        · rename_i b off
          rw [hb a (by simp [Op.operands]) b off hp]
        · rfl
  | call c =>
    simp only [lookV] at hv ⊢
    split at hv
    · rename_i t ts a hc hats has
      have ha : a ∈ (Op.call c).operands.toList := by simp [Op.operands, Call.operands, hc, has]
      rw [he a ha]
      obtain ⟨ti, ht, hv⟩ := ob_eq.1 hv
      obtain ⟨u, hu, hv⟩ := ob_eq.1 hv
      obtain ⟨n, hn, hv⟩ := ob_eq.1 hv
      rw [ht, ob_some, hu, ob_some]
      have : lenX ti.desc h' u = some n := by
        rw [← hn]
        unfold lenX
        split
        · rfl
        · rfl
        · rfl
        · rename_i r _
          rw [hr a ha _ hu]
        · rfl
      rw [this, ob_some]; exact hv
    · cases hv
  | _ => cases hv

/-! ### The natural run -/

/-- the natural run comes to operation 'k' -/
def Tr.nat (T : Tr) (x : FX) (ι0 : Inj) (w0 : World) (k : Nat) : Prop :=
  ∃ (ι : Inj) (w : World) (a : Act), Rel ι (T.h k) w ∧ Glob ι ∧ EnvRel ι x.s.n (T.e k) a.tmps ∧ Went ι0 (T.h 0) w0 ι (T.h k) w

variable {ops : Array Oper} {x : FX} {T : Tr} {k : Nat} {o : Oper}

theorem EnvRel.slots {ι : Inj} {n : Nat} {e : Env} {a : Act} (F : EnvRel ι n e a.tmps) (l : List Nat) : SlotsRel ι e a l := fun t _ ht u hu => F.2.2 t u ht hu

theorem EnvRel.dst {ι : Inj} {n : Nat} {e e' : Env} {a : Act} {o : Oper} {v : AVal} {vc : Value} (F : EnvRel ι n e a.tmps) (hv : ren ι v = some vc) (he : (o.dst = none ∧ e' = e) ∨ ∃ d, o.dst = some d ∧ d < n ∧ e' = e.set d v) :
    EnvRel ι n e' (a.put o.dst vc).tmps := by
  rcases he with ⟨h1, rfl⟩ | ⟨d, h1, h2, rfl⟩
  · rw [h1]; exact F
  · rw [h1]; exact F.set h2 hv

/-- one operation of the natural run, played -/
theorem nat_step {ι0 : Inj} {w0 : World} (hk : ops[k]? = some o) (s : T.at P C ops.toList x k o) (n : T.nat x ι0 w0 k) :
    T.nat x ι0 w0 (k + 1) ∧ (T.h k).next ≤ (T.h (k + 1)).next ∧ (T.h (k + 1)).lo ≤ (T.h k).lo ∧ (T.calm k o → ∀ b, b < (T.h k).next → (T.h (k + 1)).get b = (T.h k).get b) ∧
      (T.w k = true → isHeavy o.op = true → (T.h (k + 1)).next = (T.hp k).next ∧ ∀ b, (T.h (k + 1)).get b = (T.hp k).get b) := by
  obtain ⟨ι, w, a, r, hg, F, W⟩ := n
  have hsl := F.slots (tmpsOf o.op.operands.toList)
  cases hw : T.w k with
  | false =>
    obtain ⟨hv, l, hl, hh⟩ := s.off hw
    have Fn := EnvRel.dst F (v := T.v k) (vc := undef) (by rw [hv]; simp [ren]) s.env
    have Wn : Went ι (T.h k) w ι (T.h (k + 1)) w := by
      rw [hh]
      exact (Went.refl (r.relo (T.h k).lo)).relo hl (Nat.le_trans hl (Nat.le_refl _))
    exact ⟨⟨ι, w, _, Wn.rel, hg, Fn, W.trans Wn⟩, Wn.next, Wn.lo, fun _ b hb => by rw [hh]; rfl, fun q => by cases q⟩
  | true =>
    cases hh : isHeavy o.op with
    | false =>
      obtain ⟨e1, L⟩ := s.light hw hh
      obtain ⟨vc, hv, hr⟩ := L.look ι w a.eval r (evs_of hg hsl)
      have Fn := EnvRel.dst F hv s.env
      refine ⟨⟨ι, w, _, by rw [e1]; exact r, hg, Fn, by rw [e1]; exact W⟩, by rw [e1]; exact Nat.le_refl _, by rw [e1]; exact Nat.le_refl _, fun _ b hb => by rw [e1], fun _ q => by cases q⟩
    | true =>
      obtain ⟨V, e1⟩ := s.heavy hw hh
      have hwant : Region.wanted o (yielded ops a.tmps) = true := by
        have := wanted_s (ι := ι) (a := a) s.want (F.slots _)
        rw [this, hw]
      obtain ⟨ι', w', vc, W1, hv, _⟩ := V ι w a (r.relo big) hg hsl ⟨default, ops, k, [], [], []⟩ ⟨hk, hwant⟩
      have Wn : Went ι (T.h k) w ι' (T.h (k + 1)) w' := by
        rw [e1]
        exact W1.relo (Nat.min_le_left _ _) (Nat.min_le_right _ _)
      have Fn := EnvRel.dst (EnvRel.ext Wn.ext F) hv s.env
      refine ⟨⟨ι', w', _, Wn.rel, hg.ext Wn.ext, Fn, W.trans Wn⟩, Wn.next, Wn.lo, fun hc b hb => ?_, fun _ _ => by rw [e1]; exact ⟨rfl, fun b => rfl⟩⟩
      rw [e1]
      exact W1.old b hb (Nat.lt_of_lt_of_le hb (hc hw hh))

/-- what the natural run says of the heaps -/
structure NatOk (P : Program) (C : Ctx) (ops : Array Oper) (x : FX) (T : Tr) (X : List Nat) (m : Nat) (ι0 : Inj) (w0 : World) : Prop where
  len : m ≤ ops.size
  step : ∀ (k : Nat) (o : Oper), k < m → ops[k]? = some o → T.at P C ops.toList x k o
  nat : ∀ k, k ≤ m → T.nat x ι0 w0 k
  next : ∀ k, k < m → (T.h k).next ≤ (T.h (k + 1)).next
  lo : ∀ k, k < m → (T.h (k + 1)).lo ≤ (T.h k).lo
  calm : ∀ (k : Nat) (o : Oper), k < m → ops[k]? = some o → k ∉ X → T.calm k o
  keep : ∀ k, k < m → k ∉ X → ∀ b, b < (T.h k).next → (T.h (k + 1)).get b = (T.h k).get b
  raw : ∀ (k : Nat) (o : Oper), k < m → ops[k]? = some o → T.w k = true → isHeavy o.op = true → (T.h (k + 1)).next = (T.hp k).next ∧ ∀ b, (T.h (k + 1)).get b = (T.hp k).get b
  big : ∀ y ∈ X, y < m ∧ T.w y = true ∧ ∀ o, ops[y]? = some o → isHeavy o.op = true

theorem nat_ok {g : G} {ri : RInfo} {e : Env} {h : H} {r : XR} {X : List Nat} {m : Nat} (hm : m ≤ ops.size) (t : TrOk P C g ops.toList ri x 0 e h r T X m) {ι0 : Inj} {w0 : World} {a0 : Act} (R : Rel ι0 h w0) (hg : Glob ι0) (F : EnvRel ι0 x.s.n e a0.tmps) :
    NatOk P C ops x T X m ι0 w0 := by
  have hstep : ∀ (k : Nat) (o : Oper), k < m → ops[k]? = some o → T.at P C ops.toList x k o := fun k o hk ho => t.steps k o (Nat.zero_le _) hk (by rw [Array.getElem?_toList]; exact ho)
  have hcalm : ∀ (k : Nat) (o : Oper), k < m → ops[k]? = some o → k ∉ X → T.calm k o := fun k o hk ho hne => t.calm k o (Nat.zero_le _) hk (by rw [Array.getElem?_toList]; exact ho) hne
  have hnat : ∀ k, k ≤ m → T.nat x ι0 w0 k := by
    intro k
    induction k with
    | zero => intro _; exact ⟨ι0, w0, a0, by rw [t.h0]; exact R, hg, by rw [t.e0]; exact F, Went.refl (by rw [t.h0]; exact R)⟩
    | succ k ih =>
      intro hk
      have ho := Array.getElem?_eq_getElem (xs := ops) (i := k) (by omega)
      exact (nat_step ho (hstep k _ (by omega) ho) (ih (by omega))).1
  have all := fun (k : Nat) (o : Oper) (hk : k < m) (ho : ops[k]? = some o) => (nat_step ho (hstep k o hk ho) (hnat k (by omega))).2
  have get := fun (k : Nat) (hk : k < m) => Array.getElem?_eq_getElem (xs := ops) (i := k) (by omega)
  refine ⟨hm, hstep, hnat, fun k hk => (all k _ hk (get k hk)).1, fun k hk => (all k _ hk (get k hk)).2.1, hcalm, fun k hk hne => (all k _ hk (get k hk)).2.2.1 (hcalm k _ hk (get k hk) hne), fun k o hk ho => (all k o hk ho).2.2.2, fun y hy => ?_⟩
  obtain ⟨b1, b2⟩ := t.xbig y hy
  exact ⟨(t.xge y hy).2, b1, fun o ho => b2 o (by rw [Array.getElem?_toList]; exact ho)⟩

variable {X : List Nat} {m : Nat} {ι0 : Inj} {w0 : World}

theorem NatOk.nx (N : NatOk P C ops x T X m ι0 w0) {k k' : Nat} (h : k ≤ k') (hm : k' ≤ m) : (T.h k).next ≤ (T.h k').next := by
  induction k' with
  | zero => have : k = 0 := by omega
            subst this; exact Nat.le_refl _
  | succ k' ih =>
    by_cases hk : k = k' + 1
    · subst hk; exact Nat.le_refl _
    · exact Nat.le_trans (ih (by omega) (by omega)) (N.next k' (by omega))

theorem NatOk.los (N : NatOk P C ops x T X m ι0 w0) {k k' : Nat} (h : k ≤ k') (hm : k' ≤ m) : (T.h k').lo ≤ (T.h k).lo := by
  induction k' with
  | zero => have : k = 0 := by omega
            subst this; exact Nat.le_refl _
  | succ k' ih =>
    by_cases hk : k = k' + 1
    · subst hk; exact Nat.le_refl _
    · exact Nat.le_trans (N.lo k' (by omega)) (ih (by omega) (by omega))

theorem NatOk.keeps (N : NatOk P C ops x T X m ι0 w0) {k k' : Nat} (h : k ≤ k') (hm : k' ≤ m) (hx : ∀ y ∈ X, y < k ∨ k' ≤ y) {b : Nat} (hb : b < (T.h k).next) : (T.h k').get b = (T.h k).get b := by
  induction k' with
  | zero => have : k = 0 := by omega
            subst this; rfl
  | succ k' ih =>
    by_cases hk : k = k' + 1
    · subst hk; rfl
    · rw [N.keep k' (by omega) (fun hy => by have := hx k' hy; omega) b (Nat.lt_of_lt_of_le hb (N.nx (by omega) (by omega)))]
      exact ih (by omega) (by omega) fun y hy => by have := hx y hy; omega

theorem NatOk.n256 (N : NatOk P C ops x T X m ι0 w0) : x.s.n ≤ 256 := by
  obtain ⟨ι, w, a, r, hg, F, W⟩ := N.nat 0 (Nat.zero_le _)
  exact F.2.1

end
end Go.Sim
end
