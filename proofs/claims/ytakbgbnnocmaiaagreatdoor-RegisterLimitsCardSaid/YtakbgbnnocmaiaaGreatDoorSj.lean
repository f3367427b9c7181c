/- Loops over functions. -/
import Derived.Test.YtakbgbnnocmaiaaGreatDoorSi
set_option linter.all false
section
namespace Go.Sim

theorem run_newObj (P : Program) (w : World) (o : Obj) : (newObj o).run P w = .ok w.heap.size (w.alloc o) := rfl

section
variable {P : Program} {b : Frame} {a : Act} {k : List Item} {cs : List Frame} {w w1 : World}

theorem stepR_rangeFunc {l : Nat} {mark : List Deferred} {f : Operand} {ps : Array Tmp} {asg body : Code} {fid : FuncId} {caps args : Array Value}
    (he : (Instr.enterLoop b.fn a.tmps ps asg body b.roundOf).run P w = .ok (l, mark) w1) (hf : a.eval f = .func (.func fid) #[] caps) (hc : (callFunc fid (#[.func (.yield l) #[] #[]] ++ caps)).run P w1 = .ok (.enter fid args) w1) :
    step P (lone (b.atR a (.code (.rangeFunc f ps asg body) :: k)) cs w) = .next (lone (Frame.enter P fid args .normal) (b.atR { a with defers := mark ++ a.defers } (.inRangeFunc l :: k) :: cs) w1) := by
  refine step_lone_go ?_
  have hev : ({ fn := b.fn, tmps := a.tmps, todo := .inRangeFunc l :: k, defers := mark ++ a.defers, mode := .run, kind := b.kind, roundOf := b.roundOf } : Frame).eval f = .func (.func fid) #[] caps := by
    have := congrFun (Frame.eval_atR b { a with defers := mark ++ a.defers } (.inRangeFunc l :: k)) f
    rw [Frame.atR] at this
    rw [this]
    exact hf
  simp only [stepG, stepG.exec, Frame.atR, Sem.runT_eq, he, GStep.bare_after, stepG.apply, resolve, hev, Deferred.ofValue]
  simp [invoke, hc, Frame.eval]

theorem stepR_endRange {l : Nat} {jump : Option Code} (h : (Instr.endLoop l).run P w = .ok jump w1) :
    step P (lone (b.atR a (.endRangeFunc l :: k)) cs w) = .next (lone (b.atR a ((jump.map Item.code).toList ++ k)) cs w1) := by
  refine step_lone_go ?_
  simp [stepG, stepG.exec, Frame.atR, Sem.runT_eq, h]

end

section
variable {P : Program} {g : G} {h : H} {e : Env} {x : FX}

theorem run_endLoop {w : World} {B : Nat} {lp : Loop} (hl : w.heap[B]? = some (.loop lp)) (hs : lp.state ≠ .busy) :
    (Instr.endLoop B).run P w = .ok lp.pending { w with heap := w.heap.setIfInBounds B (.loop { lp with state := .exhausted }) } := by
  unfold Instr.endLoop
  rw [run_bind (run_getLoop hl)]
  have : (lp.state == .busy) = false := by cases hq : lp.state <;> first | rfl | exact absurd hq hs
  simp only [this, Bool.false_eq_true, if_false]
  rw [run_bind (run_setObj hl (by simp)), Sem.run_pure]

theorem rfEnd_some {l : Nat} {r : CR} {ex : Ex} {x' : FX} {e' : Env} {h' : H} (hr : rfEnd l x e r = .mk ex x' e' h') :
    (∃ v h1 st, r = .ok v h1 ∧ loopSt h1 l = some st ∧ rfSt x e h1 l st = .mk ex x' e' h') ∨ ∃ c h1, r = .pan c h1 ∧ XR.mk (.panic c) x e h1 = .mk ex x' e' h' := by
  cases r with
  | bad => cases hr
  | ok v h1 =>
    have hr' : ox (loopSt h1 l) (rfSt x e h1 l) = .mk ex x' e' h' := hr
    cases hst : loopSt h1 l with
    | none => rw [hst] at hr'; cases hr'
    | some st => rw [hst] at hr'; exact .inl ⟨v, h1, st, rfl, hst, hr'⟩
  | pan c h1 => exact .inr ⟨c, h1, rfl, hr⟩

theorem loopSt_some {l : Nat} {st : LSt} (hh : loopSt h l = some st) : ∃ fn n env ps asg body d, h.get l = some (.loop fn n env ps asg body st d) := by
  unfold loopSt at hh
  split at hh
  · rename_i fn n env ps asg body st' d hq
    cases hh
    exact ⟨fn, n, env, ps, asg, body, d, hq⟩
  · cases hh

/-- a loop, from its record on -/
theorem rf_core (hG : GSim P g) {ι : Inj} {w : World} {b : Frame} {a : Act} {k : List Item} {cs : List Frame} (r : Rel ι h w) (hg : Glob ι) (F : FrRel ι x e b a cs) {d : Nat} {jd : BI} (hd : ι d = some jd) {ps : Array Nat} {asg body : Code} {fid : FuncId} {caps : List AVal} {ccaps : List Value}
    (hcaps : renL ι caps = some ccaps) (hn : h.next < 1048576) {ex : Ex} {x' : FX} {e' : Env} {h' : H} (hr : rfEnd h.next x e (g.call fid (.yld h.next :: caps) (h.alloc (.loop x.s.fn x.s.n e ps.toList asg body .ready d))) = .mk ex x' e' h') :
    ∃ ι' w', Went ι h w ι' h' w' ∧ FrRel ι' x' e' b a cs ∧ x' = x ∧
      (∀ w1, (callFunc fid (#[.func (.yield w.heap.size) #[] #[]] ++ ccaps.toArray)).run P w1 = .ok (.enter fid (#[.func (.yield w.heap.size) #[] #[]] ++ ccaps.toArray)) w1) ∧
      Arr P (lone (Frame.enter P fid (#[.func (.yield w.heap.size) #[] #[]] ++ ccaps.toArray) .normal) (b.atR a (.inRangeFunc w.heap.size :: k) :: cs)
        (w.alloc (.loop { state := .ready, pending := none, fn := b.fn, tmps := a.tmps, params := ps, assign := asg, body := body, defers := jd.B }))) b k cs ι' a w' ex := by
  have hdlt := r.lt hd
  have W1 := Went.obj (ob := .loop x.s.fn x.s.n e ps.toList asg body .ready d) (co := .loop { state := .ready, pending := none, fn := b.fn, tmps := a.tmps, params := ps, assign := asg, body := body, defers := jd.B }) r hn (by simp)
    (fun w1 hw1 => ⟨_, hw1, F.fn, EnvRel.ext (Ext.upd (r.none (Nat.le_refl _))) F.env, by simp, rfl, rfl, ⟨rfl, rfl⟩, jd, by rw [upd_ne _ _ (by omega)]; exact hd, rfl⟩)
  have hself : (upd ι h.next ⟨w.heap.size, 0, 0, 0, 0⟩) h.next = some ⟨w.heap.size, 0, 0, 0, 0⟩ := upd_self _ _ _
  have hargs : renL (upd ι h.next ⟨w.heap.size, 0, 0, 0, 0⟩) (.yld h.next :: caps) = some (.func (.yield w.heap.size) #[] #[] :: ccaps) :=
    renL_cons.2 ⟨_, _, by simp [ren, hself], renL_ext W1.ext _ hcaps, rfl⟩
  have hta : (Value.func (.yield w.heap.size) #[] #[] :: ccaps).toArray = #[.func (.yield w.heap.size) #[] #[]] ++ ccaps.toArray := by
    apply Array.ext'; simp
  have hg1 := hg.ext W1.ext
  have C := hG.call fid (.yld h.next :: caps) (h.alloc (.loop x.s.fn x.s.n e ps.toList asg body .ready d))
  rcases rfEnd_some hr with ⟨v, h1, st, hcall, hst, hr1⟩ | ⟨c, h1, hcall, hr1⟩
  · have hent := fun w1 => hG.enters fid (.yld h.next :: caps) (h.alloc (.loop x.s.fn x.s.n e ps.toList asg body .ready d)) (by rw [hcall]; simp) (#[.func (.yield w.heap.size) #[] #[]] ++ ccaps.toArray) w1
    rw [hcall] at C
    obtain ⟨ι2, w2, vc, W2, hv, hst2⟩ := C _ _ _ W1.rel hg1 hargs (b.atR a (.inRangeFunc w.heap.size :: k)) cs
    rw [hta] at hst2
    obtain ⟨fn, n, env, ps2, asg2, body2, d2, hget⟩ := loopSt_some hst
    have hl2 := W2.ext _ _ hself
    obtain ⟨lp, p1, p2, p3, p4, p5, p6, p7, jd2, p8, p9⟩ := W2.rel.loop hl2 hget
    have W3 := Went.set (ob' := .dead) (co := .loop { lp with state := .exhausted }) W2.rel hl2 hget (by simp) (by simp) (by simp) (fun _ _ _ => trivial)
    have W := (W1.trans W2).trans W3
    have hfin : (b.atR a (.inRangeFunc w.heap.size :: k)).finish vc = b.atR a (.endRangeFunc w.heap.size :: k) := rfl
    rw [hfin] at hst2
    have step_ : ∀ jump, lp.state ≠ .busy → lp.pending = jump → Steps P (lone (Frame.enter P fid (#[.func (.yield w.heap.size) #[] #[]] ++ ccaps.toArray) .normal) (b.atR a (.inRangeFunc w.heap.size :: k) :: cs)
        (w.alloc (.loop { state := .ready, pending := none, fn := b.fn, tmps := a.tmps, params := ps, assign := asg, body := body, defers := jd.B })))
        (lone (b.atR a ((jump.map Item.code).toList ++ k)) cs { w2 with heap := w2.heap.setIfInBounds w.heap.size (.loop { lp with state := .exhausted }) }) := by
      intro jump hb hp
      subst hp
      exact Steps.trans hst2 (.one (stepR_endRange (run_endLoop p1 hb)))
    cases st with
    | ready =>
      have hr1 : XR.mk .normal x e (h1.setO h.next .dead) = .mk ex x' e' h' := hr1
      cases hr1
      exact ⟨ι2, _, W, F.ext W.ext, rfl, hent, step_ none (by rw [p7.1]; simp) p7.2⟩
    | busy => cases hr1
    | done j =>
      cases j with
      | none =>
        have hr1 : XR.mk .ret x e (h1.setO h.next .dead) = .mk ex x' e' h' := hr1
        cases hr1
        exact ⟨ι2, _, W, F.ext W.ext, rfl, hent, k, step_ (some .ret) (by rw [p7.1]; simp) p7.2⟩
      | some id =>
        have hr1 : XR.mk (.exit id) x e (h1.setO h.next .dead) = .mk ex x' e' h' := hr1
        cases hr1
        exact ⟨ι2, _, W, F.ext W.ext, rfl, hent, k, rfl, step_ (some (.exit id)) (by rw [p7.1]; simp) p7.2⟩
  · have hent := fun w1 => hG.enters fid (.yld h.next :: caps) (h.alloc (.loop x.s.fn x.s.n e ps.toList asg body .ready d)) (by rw [hcall]; simp) (#[.func (.yield w.heap.size) #[] #[]] ++ ccaps.toArray) w1
    rw [hcall] at C
    obtain ⟨ι2, w2, ch, W2, hv, hst2⟩ := C _ _ _ W1.rel hg1 hargs (b.atR a (.inRangeFunc w.heap.size :: k)) cs
    rw [hta, Frame.raise_atR] at hst2
    cases hr1
    have W := W1.trans W2
    exact ⟨ι2, w2, W, F.ext W.ext, rfl, hent, _, ch, hv, hst2⟩

theorem rfStart_none {fn n : Nat} {ds : List AD} {rc : RC} : rfStart ⟨⟨fn, n, none⟩, ds, rc⟩ h = if h.next < 1048576 then some (h.next, ⟨⟨fn, n, none⟩, .coll h.next :: ds, rc⟩, h.alloc .dfd) else none := by
  show sel h.room _ _ = _
  unfold H.room
  rw [natBlt, sel_eq]; simp

theorem rfCall_eq {ps : List Nat} {asg body : Code} {f : FuncId} {caps : List AVal} {d : Nat} : rfCall g ps asg body f caps d e x h =
    if h.next < 1048576 then rfEnd h.next x e (g.call f (.yld h.next :: caps) (h.alloc (.loop x.s.fn x.s.n e ps asg body .ready d))) else .bad := by
  obtain ⟨s, ds, rc⟩ := x
  obtain ⟨t, next, lo⟩ := h
  show sel (Nat.blt next 1048576) _ _ = _
  rw [natBlt, sel_eq]; simp

/-- A LOOP OVER A FUNCTION. -/
theorem rangeFunc_c (hG : GSim P g) (f : Operand) (ps : Array Nat) (asg body : Code) : CFSim P g (.rangeFunc f ps asg body) (cRangeFunc f ps.toList asg body) := fun x e h => CodeSim.mk' fun ex x' e' h' hr => by
  intro ι w b a k cs r hg F
  have hr : evX e f (fun v => onFunc v (fun f caps => ox (rfStart x h) (fun p => rfCall g ps.toList asg body f caps p.1 e p.2.1 p.2.2))) = .mk ex x' e' h' := hr
  cases hf : (evF f).run e with
  | none => rw [evX, hf] at hr; cases hr
  | some fv =>
    rw [evX, hf, ox_some] at hr
    cases fv with
    | func fid caps =>
      have hr : ox (rfStart x h) (fun p => rfCall g ps.toList asg body fid caps p.1 e p.2.1 p.2.2) = .mk ex x' e' h' := hr
      have h1 := ev_ren hg (F.slots (tmpsOf [f])) (x := f) (fun t ht => by rw [mem_tmpsOf]; simp [ht]) hf
      obtain ⟨ccaps, h2, h3⟩ := ren_func h1
      obtain ⟨⟨fn, n, rnd⟩, ds, rc⟩ := x
      cases rnd with
      | none =>
        rw [rfStart_none] at hr
        by_cases hn : h.next < 1048576
        · rw [if_pos hn, ox_some, rfCall_eq] at hr
          by_cases hn1 : (h.alloc .dfd).next < 1048576
          · rw [if_pos hn1] at hr
            have W0 := Went.obj (ob := .dfd) (co := .deferred (some [])) r hn (by simp) (fun w1 hw1 => hw1)
            have F0 : FrRel (upd ι h.next ⟨w.heap.size, 0, 0, 0, 0⟩) ⟨⟨fn, n, none⟩, .coll h.next :: ds, rc⟩ e b { a with defers := { target := .collected w.heap.size, args := #[] } :: a.defers } cs := by
              have F1 := F.ext W0.ext
              exact ⟨F1.fn, F1.rnd, F1.env, ⟨⟨_, upd_self _ _ _, rfl⟩, F1.ds⟩, F1.rc⟩
            obtain ⟨ι', w', W, F', hx, hent, A⟩ := rf_core (k := k) hG W0.rel (hg.ext W0.ext) F0 (d := h.next) (upd_self _ _ _) (renL_ext W0.ext _ h2) hn1 hr
            refine ⟨ι', w', _, cs, W0.trans W, F', .refl _ _, by rw [hx], Arr.steps (.one (stepR_rangeFunc (mark := [{ target := .collected w.heap.size, args := #[] }]) ?_ h3 (hent _))) A⟩
            have hrn : b.roundOf = none := F.rnd
            rw [hrn]
            unfold Instr.enterLoop
            simp only [Sem.run_bind, run_newObj, Result.andThen, Sem.run_pure]
          · rw [if_neg hn1] at hr; cases hr
        · rw [if_neg hn] at hr; cases hr
      | some l =>
        obtain ⟨j, hl, hrn⟩ := F.rnd
        have hst : ∃ fn1 n1 env1 ps1 asg1 body1 st1 d, h.get l = some (.loop fn1 n1 env1 ps1 asg1 body1 st1 d) ∧ rfCall g ps.toList asg body fid caps d e ⟨⟨fn, n, some l⟩, ds, rc⟩ h = .mk ex x' e' h' := by
          have hr : ox (match h.get l with
            | some (.loop _ _ _ _ _ _ _ d) => some (d, (⟨⟨fn, n, some l⟩, ds, rc⟩ : FX), h)
            | _ => none) (fun p => rfCall g ps.toList asg body fid caps p.1 e p.2.1 p.2.2) = .mk ex x' e' h' := hr
          split at hr
          · rename_i hq
            exact ⟨_, _, _, _, _, _, _, _, hq, hr⟩
          · cases hr
        obtain ⟨fn1, n1, env1, ps1, asg1, body1, st1, d, hget, hr⟩ := hst
        obtain ⟨lp, p1, p2, p3, p4, p5, p6, p7, jd, p8, p9⟩ := r.loop hl hget
        rw [rfCall_eq] at hr
        by_cases hn1 : h.next < 1048576
        · rw [if_pos hn1] at hr
          obtain ⟨ι', w', W, F', hx, hent, A⟩ := rf_core (k := k) hG r hg F (d := d) p8 h2 hn1 hr
          refine ⟨ι', w', a, cs, W, F', .refl _ _, by rw [hx], Arr.steps (.one (stepR_rangeFunc (mark := []) ?_ h3 (hent _))) A⟩
          have hrn' : b.roundOf = some j.B := hrn
          rw [hrn']
          unfold Instr.enterLoop
          simp only [Sem.run_bind, run_getLoop p1, run_newObj, Result.andThen, Sem.run_pure, p9]
        · rw [if_neg hn1] at hr; cases hr
    | _ => cases hr

end
end Go.Sim
end
section
/- Which slots a piece of code writes. -/
namespace Go.Sim

/-- a compiled piece of code writes no slots but these -/
def Keeps (g : G) (F : CF) (l : List Nat) : Prop := ∀ x e h ex x' e' h', x.s.n ≤ 256 → F.run g x e h = .mk ex x' e' h' → x'.s = x.s ∧ ∀ t, t < 256 → t ∉ l → e'.get t = e.get t

/-- what a run of an operation looks like -/
inductive Shape (d : Option Nat) (x : FX) (e : Env) (f : PK → K → XR) : Prop
  | bad (hb : ∀ p k, f p k = .bad)
  | val (v : AVal) (x' : FX) (h' : H) (hx : x'.s = x.s) (hf : ∀ p k, f p k = (putF d).run v x' e h' k)
  | pan (c : List (AVal × Bool)) (h' : H) (hf : ∀ p k, f p k = p c x e h')

section
variable {P : Program} {C : Ctx} {g : G} {x : FX} {e : Env} {h : H} {o : Oper}

theorem Step1.shape {d : Option Nat} {V : AVal → H → Prop} {Q : List (AVal × Bool) → H → Prop} {f : PK → K → XR} (s : Step1 d x e V Q f) : Shape d x e f := by
  cases s with
  | bad hb => exact .bad hb
  | val v h' hf _ => exact .val v x h' rfl hf
  | pan c h' hf _ => exact .pan c h' hf

theorem defer_shape {c : Call} {d : Option Nat} : Shape d x e (fun p k => (opDefer c d).run g x e h p k) := by
  unfold opDefer
  cases hcv : valueOf c.callee with
  | none => exact .bad fun _ _ => rfl
  | some a =>
    cases hfv : (evF a).run e with
    | none => exact .bad fun p k => by show evX e a _ = _; rw [evX, hfv]
    | some fv =>
      cases hvs : (evsF c.args.toList).run e with
      | none => exact .bad fun p k => by show evX e a _ = _; rw [evX, hfv, ox_some, hvs]
      | some args =>
        have hrun : ∀ (p : PK) (k : K), (Sim.so (some a) (fun a => (⟨fun _ x e h _ k => evX e a (fun fv => Sim.ox ((evsF c.args.toList).run e) (fun args => deferX d e h k x args fv))⟩ : OpF))).run g x e h p k = deferX d e h k x args fv := by
          intro p k; show evX e a _ = _; rw [evX, hfv, ox_some, hvs]
        obtain ⟨⟨fn, n, rnd⟩, ds, rc⟩ := x
        cases rnd with
        | some l => exact .bad fun p k => by rw [hrun]; rfl
        | none =>
          cases fv with
          | func f caps => exact .val .undef ⟨⟨fn, n, none⟩, .call f (app args caps) :: ds, rc⟩ h rfl fun p k => by rw [hrun]; rfl
          | _ => exact .bad fun p k => by rw [hrun]; rfl

theorem recov_shape {d : Option Nat} : Shape d x e (fun p k => (bRecover d).run g x e h p k) := by
  obtain ⟨⟨fn, n, rnd⟩, ds, rc⟩ := x
  cases rnd with
  | some l => cases rc <;> exact .bad fun _ _ => rfl
  | none =>
    cases rc with
    | nrm => exact .val .nilIface ⟨⟨fn, n, none⟩, ds, .nrm⟩ h rfl fun _ _ => rfl
    | dfr m => exact .val (recovA m).1 ⟨⟨fn, n, none⟩, ds, .dfr (recovA m).2⟩ h rfl fun _ _ => rfl

theorem op_shape (K : COk C P) (hG : GSim P g) : Shape o.dst x e (fun p k => (opF C o.dst o.op).run g x e h p k) := by
  cases hs : isSelect o.op with
  | false => exact (op_s K hG hs).shape
  | true =>
    cases ho : o.op with
    | defer c => exact defer_shape
    | select _ _ => exact .bad fun _ _ => rfl
    | call c =>
      rw [ho] at hs
      cases hc : c.callee with
      | builtin b =>
        cases b <;> simp [isSelect, hc] at hs
        have e1 : opF C o.dst (.call c) = bRecover o.dst := by
          show calleeF C c.argTypes.toList c.args.toList o.dst c.callee = _
          rw [hc]; rfl
        rw [e1]
        exact recov_shape
      | _ => simp [isSelect, hc] at hs
    | _ => rw [ho] at hs; simp [isSelect] at hs

theorem step_shape (K : COk C P) (hG : GSim P g) {all : List Oper} : Shape o.dst x e (fun p k => (stepF C all o).run g x e h p k) := by
  have S := op_shape (x := x) (e := e) (h := h) (o := o) K hG
  cases hg : o.guard with
  | none =>
    have hst : ∀ p k, (stepF C all o).run g x e h p k = (opF C o.dst o.op).run g x e h p k := by intro p k; unfold stepF; rw [hg]
    cases S with
    | bad hb => exact .bad fun p k => (hst p k).trans (hb p k)
    | val v x' h' hx hf => exact .val v x' h' hx fun p k => (hst p k).trans (hf p k)
    | pan c h' hf => exact .pan c h' fun p k => (hst p k).trans (hf p k)
  | some gd =>
    have hst : ∀ p k, (stepF C all o).run g x e h p k = ox ((wantF all (some gd)).run e) (fun w => sel w ((opF C o.dst o.op).run g x e h p k) ((putF o.dst).run .undef x e h k)) := by
      intro p k; unfold stepF; rw [hg]
    cases hw : (wantF all (some gd)).run e with
    | none => exact .bad fun p k => by rw [hst, hw]
    | some w =>
      cases w with
      | false => exact .val .undef x h rfl fun p k => by rw [hst, hw]
      | true =>
        have hst' : ∀ p k, (stepF C all o).run g x e h p k = (opF C o.dst o.op).run g x e h p k := by intro p k; rw [hst, hw]
        cases S with
        | bad hb => exact .bad fun p k => (hst' p k).trans (hb p k)
        | val v x' h' hx hf => exact .val v x' h' hx fun p k => (hst' p k).trans (hf p k)
        | pan c h' hf => exact .pan c h' fun p k => (hst' p k).trans (hf p k)

theorem dstsOf_cons (o : Oper) (l : List Oper) : dstsOf (o :: l) = oe o.dst (dstsOf l) (fun d => d :: dstsOf l) := rfl

theorem mem_dstsOf : ∀ {l : List Oper} {o : Oper} {d : Nat}, o ∈ l → o.dst = some d → d ∈ dstsOf l
  | [], o, d, hm, _ => by simp at hm
  | p :: l, o, d, hm, hd => by
    rw [dstsOf_cons]
    rcases List.mem_cons.1 hm with rfl | hm
    · rw [hd, oe_some]; simp
    · have := mem_dstsOf hm hd
      cases p.dst with
      | none => exact this
      | some q => rw [oe_some]; simp [this]

theorem runOps_keeps (K : COk C P) (hG : GSim P g) (all : List Oper) : ∀ (l : List Oper), Keeps g (runOps C all l) (dstsOf l)
  | [] => fun x e h ex x' e' h' hn hr => by
    have hr : XR.mk .normal x e h = .mk ex x' e' h' := hr
    cases hr
    exact ⟨rfl, fun _ _ _ => rfl⟩
  | o :: l => fun x e h ex x' e' h' hn hr => by
    rw [runOps_cons] at hr
    cases step_shape (x := x) (e := e) (h := h) (o := o) (all := all) K hG with
    | bad hb => rw [hb] at hr; cases hr
    | pan c h1 hf =>
      rw [hf] at hr
      have hr : XR.mk (.panic c) x e h1 = .mk ex x' e' h' := hr
      cases hr
      exact ⟨rfl, fun _ _ _ => rfl⟩
    | val v x1 h1 hx hf =>
      rw [hf] at hr
      cases hd : o.dst with
      | none =>
        rw [hd] at hr
        obtain ⟨q1, q2⟩ := runOps_keeps K hG all l x1 e h1 ex x' e' h' (by rw [hx]; exact hn) hr
        refine ⟨q1.trans hx, fun t ht hnt => q2 t ht ?_⟩
        rw [dstsOf_cons, hd] at hnt; exact hnt
      | some d =>
        rw [hd, putF_some] at hr
        by_cases hlt : d < x1.s.n
        · rw [if_pos hlt] at hr
          obtain ⟨q1, q2⟩ := runOps_keeps K hG all l x1 _ h1 ex x' e' h' (by rw [hx]; exact hn) hr
          rw [hx] at hlt
          refine ⟨q1.trans hx, fun t ht hnt => ?_⟩
          rw [dstsOf_cons, hd, oe_some] at hnt
          rw [q2 t ht (fun h => hnt (by simp [h])), Env.get_set _ t d _ ht (Nat.lt_of_lt_of_le hlt hn), if_neg (fun h => hnt (by simp [h]))]
        · rw [if_neg hlt] at hr; cases hr

theorem region_keeps (K : COk C P) (hG : GSim P g) (ops : List Oper) (draw : Bool) : Keeps g (cRegion C ops draw) (dstsOf ops) := fun x e h ex x' e' h' hn hr => by
  cases draw with
  | false => exact runOps_keeps K hG ops ops x e h ex x' e' h' hn hr
  | true =>
    have hr : (oe (rinfo ops) (⟨fun _ _ _ _ => .bad⟩ : CF) (fun ri => runM C ops ri ops 0)).run g x e h = .mk ex x' e' h' := hr
    cases hri : rinfo ops with
    | none => rw [hri] at hr; cases hr
    | some ri =>
      rw [hri, oe_some] at hr
      have hr : (runM C ops ri ops 0).run g x e h = .mk ex x' e' h' := hr
      have R := rinfo_ok hri
      obtain ⟨T, xm, t⟩ := trace_of (x := x) (ri := ri) (all := ops) K hG R.sel ops 0 e h rfl (Nat.zero_le _) (by rw [hr]; simp)
      have hm : min ri.tail ops.length = ri.tail := by have := R.len; omega
      rw [hm] at t
      have key : ∀ k, k ≤ ri.tail → ∀ s, s < 256 → s ∉ dstsOf ops → (T.e k).get s = e.get s := by
        intro k
        induction k with
        | zero => intro _ s _ _; rw [t.e0]
        | succ k ih =>
          intro hk s hs hns
          have ho := List.getElem?_eq_getElem (l := ops) (i := k) (by have := R.len; omega)
          have st := t.steps k _ (Nat.zero_le _) (by omega) ho
          rw [← ih (by omega) s hs hns]
          rcases st.env with ⟨_, q2⟩ | ⟨d, q1, q2, q3⟩
          · rw [q2]
          · rw [q3, Env.get_set _ s d _ hs (Nat.lt_of_lt_of_le q2 hn), if_neg]
            rintro rfl
            exact hns (mem_dstsOf (List.mem_of_getElem? ho) q1)
      have hrun := t.run
      rw [hr] at hrun
      obtain ⟨q1, q2⟩ := runOps_keeps K hG ops (ops.drop ri.tail) x _ _ ex x' e' h' hn hrun.symm
      refine ⟨q1, fun s hs hns => ?_⟩
      rw [q2 s hs ?_, key _ (Nat.le_refl _) s hs hns]
      intro hm
      apply hns
      have sub : ∀ (l l' : List Oper), (∀ o, o ∈ l → o ∈ l') → ∀ d, d ∈ dstsOf l → d ∈ dstsOf l' := by
        intro l l' hsub d hd
        have : ∃ o ∈ l, o.dst = some d := by
          clear hsub
          induction l with
          | nil => cases hd
          | cons p l ih =>
            rw [dstsOf_cons] at hd
            cases hp : p.dst with
            | none => rw [hp, oe_none] at hd; obtain ⟨o, a, b⟩ := ih hd; exact ⟨o, by simp [a], b⟩
            | some q =>
              rw [hp, oe_some] at hd
              rcases List.mem_cons.1 hd with rfl | hd
              · exact ⟨p, by simp, hp⟩
              · obtain ⟨o, a, b⟩ := ih hd; exact ⟨o, by simp [a], b⟩
        obtain ⟨o, a, b⟩ := this
        exact mem_dstsOf (hsub o a) b
      exact sub _ _ (fun o ho => List.mem_of_mem_drop ho) s hm

theorem Keeps.sub {F : CF} {l l' : List Nat} (k : Keeps g F l) (h : ∀ t, t ∈ l → t ∈ l') : Keeps g F l' := fun x e h1 ex x' e' h' hn hr =>
  let ⟨a, b⟩ := k x e h1 ex x' e' h' hn hr
  ⟨a, fun t ht hnt => b t ht fun q => hnt (h t q)⟩

theorem seq_keeps {A B : CF} {l l' : List Nat} (hA : Keeps g A l) (hB : Keeps g B l') : Keeps g (cSeq A B) (app l l') := fun x e h ex x' e' h' hn hr => by
  have hr : (A.run g x e h).andThen (B.run g) = .mk ex x' e' h' := hr
  rw [app_eq]
  rcases andThen_mk hr with ⟨x1, e1, h1, r1, r2⟩ | ⟨r1, hne⟩
  · obtain ⟨a1, a2⟩ := hA x e h _ x1 e1 h1 hn r1
    obtain ⟨b1, b2⟩ := hB x1 e1 h1 ex x' e' h' (by rw [a1]; exact hn) r2
    exact ⟨b1.trans a1, fun t ht hnt => by rw [b2 t ht (fun q => hnt (by simp [q])), a2 t ht (fun q => hnt (by simp [q]))]⟩
  · obtain ⟨a1, a2⟩ := hA x e h _ x' e' h' hn r1
    exact ⟨a1, fun t ht hnt => a2 t ht (fun q => hnt (by simp [q]))⟩

theorem cond_keeps {c : Operand} {A B : CF} {l l' : List Nat} (hA : Keeps g A l) (hB : Keeps g B l') : Keeps g (cCond c A B) (app l l') := fun x e h ex x' e' h' hn hr => by
  have hr : evX e c (fun v => onBool v (fun t => sel t (A.run g x e h) (B.run g x e h))) = .mk ex x' e' h' := hr
  rw [app_eq]
  cases hc : (evF c).run e with
  | none => rw [evX, hc] at hr; cases hr
  | some v =>
    rw [evX, hc, ox_some] at hr
    cases v with
    | bool t =>
      cases t with
      | true =>
        obtain ⟨a1, a2⟩ := hA x e h ex x' e' h' hn hr
        exact ⟨a1, fun t ht hnt => a2 t ht (fun q => hnt (by simp [q]))⟩
      | false =>
        obtain ⟨a1, a2⟩ := hB x e h ex x' e' h' hn hr
        exact ⟨a1, fun t ht hnt => a2 t ht (fun q => hnt (by simp [q]))⟩
    | _ => cases hr

theorem blockEnd_mk {id : Nat} {r : XR} {ex : Ex} {x : FX} {e : Env} {h : H} (hr : blockEnd id r = .mk ex x e h) : ∃ ex1, r = .mk ex1 x e h := by
  cases r with
  | bad => cases hr
  | mk ex1 x1 e1 h1 =>
    cases ex1 with
    | exit i =>
      have hr' : sel (Nat.beq i id) (XR.mk .normal x1 e1 h1) (.mk (.exit i) x1 e1 h1) = .mk ex x e h := hr
      rw [sel_eq] at hr'
      split at hr' <;> cases hr' <;> exact ⟨_, rfl⟩
    | normal => cases hr; exact ⟨_, rfl⟩
    | ret => cases hr; exact ⟨_, rfl⟩
    | panic c => cases hr; exact ⟨_, rfl⟩

theorem loop_keeps {B : CF} {l : List Nat} (hB : Keeps g B l) : Keeps g (cLoop B) l := by
  have key : ∀ (n : Nat) (x : FX) (e : Env) (h : H) ex x' e' h', x.s.n ≤ 256 → (@Nat.rec (fun _ => K) (fun _ _ _ => .bad) (fun _ ih x e h => (B.run g x e h).andThen ih) n : K) x e h = .mk ex x' e' h' → x'.s = x.s ∧ ∀ t, t < 256 → t ∉ l → e'.get t = e.get t := by
    intro n
    induction n with
    | zero => intro x e h ex x' e' h' _ hr; cases hr
    | succ n ih =>
      intro x e h ex x' e' h' hn hr
      have hr : (B.run g x e h).andThen (@Nat.rec (fun _ => K) (fun _ _ _ => .bad) (fun _ ih x e h => (B.run g x e h).andThen ih) n : K) = .mk ex x' e' h' := hr
      rcases andThen_mk hr with ⟨x1, e1, h1, r1, r2⟩ | ⟨r1, hne⟩
      · obtain ⟨a1, a2⟩ := hB x e h _ x1 e1 h1 hn r1
        obtain ⟨b1, b2⟩ := ih x1 e1 h1 ex x' e' h' (by rw [a1]; exact hn) r2
        exact ⟨b1.trans a1, fun t ht hnt => by rw [b2 t ht hnt, a2 t ht hnt]⟩
      · exact hB x e h _ x' e' h' hn r1
  intro x e h ex x' e' h' hn hr
  exact key g.fuel x e h ex x' e' h' hn hr

/-- how a block is compiled -/
theorem comp_block (id : Nat) (b : Code) : ∃ W R, comp C (.block id b) = cBlock C id (mapLoop? id b) W R (comp C b) ∧ ∀ ml, mapLoop? id b = some ml → W = dstsC ml.rest ∧ R = comp C ml.rest := by
  have none_ : mapLoop? id b = none → comp C (.block id b) = cBlock C id none none cBad (comp C b) → ∃ W R, comp C (.block id b) = cBlock C id (mapLoop? id b) W R (comp C b) ∧ ∀ ml, mapLoop? id b = some ml → W = dstsC ml.rest ∧ R = comp C ml.rest := by
    intro h1 h2
    exact ⟨none, cBad, by rw [h1, h2], fun ml h => by rw [h1] at h; cases h⟩
  cases b with
  | loop b1 =>
    cases b1 with
    | seq r b2 =>
      cases b2 with
      | seq c b3 =>
        cases b3 with
        | block id1 b4 =>
          cases b4 with
          | seq q rest =>
            refine ⟨dstsC rest, comp C rest, by simp only [comp], fun ml hml => ?_⟩
            have hrest : ml.rest = rest := by
              unfold mapLoop? at hml
              split at hml
              · rename_i heq
                simp only [Code.loop.injEq, Code.seq.injEq, Code.block.injEq] at heq
                obtain ⟨_, _, _, _, hq⟩ := heq
                rw [sel_eq] at hml
                split at hml
                · unfold mlOps at hml
                  split at hml
                  · split at hml
                    · rw [sel_eq] at hml
                      split at hml
                      · cases hml; exact hq.symm
                      · cases hml
                    · cases hml
                  · cases hml
                · cases hml
              · cases hml
            rw [hrest]; exact ⟨rfl, rfl⟩
          | _ => refine none_ ?_ ?_ <;> first | rfl | simp only [comp] | (unfold mapLoop?; split <;> first | rfl | (rename_i heq; simp at heq))
        | _ => refine none_ ?_ ?_ <;> first | rfl | simp only [comp] | (unfold mapLoop?; split <;> first | rfl | (rename_i heq; simp at heq))
      | _ => refine none_ ?_ ?_ <;> first | rfl | simp only [comp] | (unfold mapLoop?; split <;> first | rfl | (rename_i heq; simp at heq))
    | _ => refine none_ ?_ ?_ <;> first | rfl | simp only [comp] | (unfold mapLoop?; split <;> first | rfl | (rename_i heq; simp at heq))
  | _ => refine none_ ?_ ?_ <;> first | rfl | simp only [comp] | (unfold mapLoop?; split <;> first | rfl | (rename_i heq; simp at heq))

/-- code writes the slots that 'dstsC' tells -/
theorem comp_keeps (K : COk C P) (hG : GSim P g) : ∀ (c : Code) (w : List Nat), dstsC c = some w → Keeps g (comp C c) w
  | .skip, w, h => fun x e h1 ex x' e' h' hn hr => by
    have hr : XR.mk .normal x e h1 = .mk ex x' e' h' := by simpa [comp, cSkip, endX] using hr
    cases hr; exact ⟨rfl, fun _ _ _ => rfl⟩
  | .region id ops draw, w, h => by
    simp only [dstsC] at h; cases h
    simp only [comp]; exact region_keeps K hG ops.toList draw
  | .seq a b, w, h => by
    simp only [dstsC] at h
    obtain ⟨u, h1, h⟩ := ob_eq.1 h
    obtain ⟨v, h2, h⟩ := ob_eq.1 h
    cases h
    simp only [comp]; exact seq_keeps (comp_keeps K hG a u h1) (comp_keeps K hG b v h2)
  | .cond c a b, w, h => by
    simp only [dstsC] at h
    obtain ⟨u, h1, h⟩ := ob_eq.1 h
    obtain ⟨v, h2, h⟩ := ob_eq.1 h
    cases h
    simp only [comp]; exact cond_keeps (comp_keeps K hG a u h1) (comp_keeps K hG b v h2)
  | .block id b, w, h => by
    simp only [dstsC] at h
    cases hml : mapLoop? id b with
    | some ml => rw [hml, oe_some] at h; cases h
    | none =>
      rw [hml, oe_none] at h
      obtain ⟨W, R, e1, _⟩ := comp_block (C := C) id b
      rw [e1, hml]
      intro x e h1 ex x' e' h' hn hr
      have hr : blockEnd id ((comp C b).run g x e h1) = .mk ex x' e' h' := hr
      obtain ⟨ex1, hr1⟩ := blockEnd_mk hr
      exact comp_keeps K hG b w h x e h1 ex1 x' e' h' hn hr1
  | .loop b, w, h => by
    simp only [dstsC] at h
    simp only [comp]; exact loop_keeps (comp_keeps K hG b w h)
  | .exit id, w, h => fun x e h1 ex x' e' h' hn hr => by
    have hr : XR.mk (.exit id) x e h1 = .mk ex x' e' h' := by simpa [comp, cExit] using hr
    cases hr; exact ⟨rfl, fun _ _ _ => rfl⟩
  | .ret, w, h => fun x e h1 ex x' e' h' hn hr => by
    have hr : XR.mk .ret x e h1 = .mk ex x' e' h' := by simpa [comp, cRet] using hr
    cases hr; exact ⟨rfl, fun _ _ _ => rfl⟩
  | .rangeFunc .., w, h => by simp [dstsC] at h
  | .scope .., w, h => by simp [dstsC] at h
  | .label .., w, h => by simp [dstsC] at h
  | .goto .., w, h => by simp [dstsC] at h
  | .refuse .., w, h => by simp [dstsC] at h

end
end Go.Sim
end
