/- Calls. -/
import Derived.Test.YtakbgbnnocmaiaaGreatDoorSf
import Derived.Recover
set_option linter.all false
section
namespace Go.Sim

@[reducible] def VS (P : Program) (o : Oper) (e : Env) (h : H) : AVal → H → Prop := fun v h' => VSim P o e h v h'
@[reducible] def PS (P : Program) (o : Oper) (e : Env) (h : H) : List (AVal × Bool) → H → Prop := fun c h' => PSim P o e h c h'

section
variable {P : Program} {C : Ctx} {o : Oper} {x : FX} {e : Env} {h : H} {g : G}

theorem ofC_s {V : AVal → H → Prop} {Q : List (AVal × Bool) → H → Prop} {r : CR} (h1 : ∀ v h', r = .ok v h' → V v h') (h2 : ∀ c h', r = .pan c h' → Q c h') : Step1 o.dst x e V Q (fun p k => ofC o.dst x e p k r) := by
  cases r with
  | bad => exact Step1.bad'
  | ok v h' => exact .val v h' (fun _ _ => rfl) (h1 v h' rfl)
  | pan c h' => exact .pan c h' (fun _ _ => rfl) (h2 c h' rfl)

theorem call_s (hG : GSim P g) (hd : ∀ c, o.op ≠ .defer c) {f : FuncId} {args : List AVal}
    (hop : ∀ (ι : Inj) (w : World) (a : Act), Glob ι → SlotsRel ι e a (tmpsOf o.op.operands.toList) → ∃ cargs, renL ι args = some cargs ∧ (execOp a.eval o).run P w = (callFunc f cargs.toArray).run P w) :
    Step1 o.dst x e (VS P o e h) (PS P o e h) (fun p k => ofC o.dst x e p k (g.call f args h)) := by
  have hc := hG.call f args h
  refine ofC_s (fun v h' hr => ?_) fun c h' hr => ?_
  · rw [hr] at hc
    intro ι w a r hg hs T hT
    obtain ⟨cargs, q1, q2⟩ := hop ι w a hg hs
    obtain ⟨ι', w', vc, W, hv, hst⟩ := hc ι w cargs r hg q1 (T.frame a) T.cs
    have he := hG.enters f args h (by rw [hr]; simp) cargs.toArray w
    exact ⟨ι', w', vc, W, hv, goes_call hT hd (q2.trans he) hst⟩
  · rw [hr] at hc
    intro ι w a r hg hs T hT
    obtain ⟨cargs, q1, q2⟩ := hop ι w a hg hs
    obtain ⟨ι', w', ch, W, hv, hst⟩ := hc ι w cargs r hg q1 (T.frame a) T.cs
    have he := hG.enters f args h (by rw [hr]; simp) cargs.toArray w
    exact ⟨ι', w', ch, W, hv, pans_call hT hd (q2.trans he) hst⟩

theorem args_s {c : Call} (ho : o.op = .call c) {ι : Inj} {ρ : Operand → Value} (he : Evs ι e ρ o.op.operands.toList) {vs : List AVal} (hvs : (evsF c.args.toList).run e = some vs) : renL ι vs = some (c.args.map ρ).toList := by
  rw [Array.toList_map]
  exact evs_renL (fun y hy => he y (by simp only [ho, Op.operands, Call.operands, Array.toList_append, List.mem_append]; exact .inr hy)) hvs

theorem callS_s (K : COk C P) (hG : GSim P g) {c : Call} {f : FuncId} (ho : o.op = .call c) (hc : c.callee = .value (.func f)) : Step1 o.dst x e (VS P o e h) (PS P o e h) (fun p k => (callS C f (evsF c.args.toList) o.dst).run g x e h p k) := by
  have hd : ∀ c, o.op ≠ .defer c := by simp [ho]
  have hrun : ∀ (w : World) (a : Act), (execOp a.eval o).run P w = (callFunc f (c.args.map a.eval)).run P w := by
    intro w a
    simp only [execOp, ho, resolve, hc, Deferred.ofValue, Act.eval]
    simp [invoke]
  unfold callS
  cases hx : C.ext f with
  | none =>
    refine Step1.ox fun vs hvs => call_s hG hd fun ι w a hg hs => ⟨_, args_s ho (evs_of hg hs) hvs, ?_⟩
    rw [hrun, Array.toArray_toList]
  | some F =>
    refine Step1.ox fun vs hvs => Step1.ox fun v hv => Step1.put fun ι w a r hg hs T hT => ?_
    obtain ⟨vc, q1, q2⟩ := K.ext f F vs v hx hv ι w _ (args_s ho (evs_of hg hs) hvs)
    exact ⟨ι, w, vc, Went.refl r, q1, goes_value hT hd (by rw [hrun]; rw [Array.toArray_toList] at q2; exact q2)⟩

theorem dynMeth_some (K : COk C P) {t : TypeId} {name : String} {f : FuncId} (hm : dynMeth C t name = some f) (n : Nat) (v : Value) (w : World) : (method (n + 1) t v name).run P w = .ok (f, v) w := by
  unfold dynMeth at hm
  obtain ⟨ti, ht, hm⟩ := ob_eq.1 hm
  obtain ⟨m, hfm, hm⟩ := ob_eq.1 hm
  rw [sel_eq] at hm
  split at hm
  · rename_i hp
    have T := K.ty _ _ ht
    obtain ⟨i, i1, _, _, i4, _⟩ := T.info
    have hfind : i.methods.find? (fun m => m.name == name) = some m := by rw [i4, ← Array.find?_toList]; exact hfm
    have hpath : m.path = #[] := by simpa using hp
    unfold method
    rw [run_bind (run_typeInfo i1 w), hfind]
    simp only
    rw [hpath]
    simp only [follow]
    unfold methOk at hm
    split at hm
    · rename_i f' e0 hfn hd
      cases hm
      simp [hfn, receiverAt, run_underlying T, hd, Place.get]
    · cases hm
    · rename_i f' hfn hne
      cases hm
      simp only [Sem.run_bind, Sem.run_pure, Result.andThen_ok, hfn, receiverAt, run_underlying T]
      cases hd : ti.desc <;> first | (exact absurd hd (by intro q; exact hne _ _ hfn q)) | simp [Place.get]
    · cases hm
  · cases hm

theorem invoke_s (K : COk C P) (hG : GSim P g) {c : Call} {a : Operand} {m : String} (ho : o.op = .call c) (hc : c.callee = .invoke a m) :
    Step1 o.dst x e (VS P o e h) (PS P o e h) (fun p k => (calleeF C c.argTypes.toList c.args.toList o.dst (.invoke a m)).run g x e h p k) := by
  have hd : ∀ c, o.op ≠ .defer c := by simp [ho]
  refine Step1.ox fun u hu => Step1.onIface fun t v hv => Step1.ox fun f hf => Step1.ox fun vs hvs => call_s hG hd fun ι w ac hg hs => ?_
  subst hv
  have he := evs_of hg hs
  have h1 := he a (by simp [ho, Op.operands, Call.operands, hc]) _ hu
  obtain ⟨vc, h2, h3⟩ := ren_iface h1
  refine ⟨vc :: (c.args.map ac.eval).toList, renL_cons.2 ⟨_, _, h2, args_s ho he hvs, rfl⟩, ?_⟩
  simp only [execOp, ho, resolve, hc]
  have hm := dynMeth_some K hf (P.types.size + 99) vc w
  have hex : (#[Value.iface t vc] ++ c.args.map ac.eval).extract 1 (#[Value.iface t vc] ++ c.args.map ac.eval).size = c.args.map ac.eval := by
    apply Array.ext'
    simp
    exact List.take_of_length_le (by simp)
  have hdep : P.types.size + Made.depth = P.types.size + 99 + 1 := rfl
  simp only [Sem.run_bind, Sem.run_pure, Result.andThen_ok, invoke, h3]
  have h0 : (#[Value.iface t vc] ++ c.args.map ac.eval)[0]? = some (.iface t vc) := by
    rw [Array.getElem?_append_left (by simp)]; rfl
  rw [h0]
  simp only [hex, callMethod, Sem.run_bind, run_program, Result.andThen_ok, hdep, hm]
  congr 2
  apply Array.ext'
  simp

theorem value_s (K : COk C P) (hG : GSim P g) {c : Call} {a : Operand} (ho : o.op = .call c) (hc : c.callee = .value a)
    (hy : ∀ (l : Nat) (vs : List AVal), (evF a).run e = some (.yld l) → (evsF c.args.toList).run e = some vs → Step1 o.dst x e (VS P o e h) (PS P o e h) (fun p k => ofC o.dst x e p k (yieldX g l vs h))) :
    Step1 o.dst x e (VS P o e h) (PS P o e h) (fun p k => evX e a (fun fv => ox ((evsF c.args.toList).run e) (fun vs => ofC o.dst x e p k (callV g vs h fv)))) := by
  have hd : ∀ c, o.op ≠ .defer c := by simp [ho]
  refine Step1.ox fun fv hfv => Step1.ox fun vs hvs => ?_
  cases fv with
  | func f caps =>
    refine call_s hG hd fun ι w ac hg hs => ?_
    have he := evs_of hg hs
    have h1 := he a (by simp [ho, Op.operands, Call.operands, hc]) _ hfv
    obtain ⟨cc, h2, h3⟩ := ren_func h1
    refine ⟨(c.args.map ac.eval).toList ++ cc, by rw [app_eq]; exact renL_append (args_s ho he hvs) h2, ?_⟩
    simp only [execOp, ho, resolve, hc, Deferred.ofValue, h3]
    simp only [Sem.run_bind, Sem.run_pure, Result.andThen_ok, invoke]
    congr 2
    apply Array.ext'
    simp
  | yld l => exact hy l vs hfv hvs
  | _ => exact Step1.bad'

end
end Go.Sim
end
section
/- A call of a loop's yield function: one round. -/
namespace Go.Sim

theorem EnvRel.set {ι : Inj} {n : Nat} {e : Env} {t : Array Value} (r : EnvRel ι n e t) {p : Nat} (hp : p < n) {v : AVal} {vc : Value} (hv : ren ι v = some vc) : EnvRel ι n (e.set p v) (t.setIfInBounds p vc) := by
  obtain ⟨h1, h2, h3⟩ := r
  refine ⟨by simpa using h1, h2, fun s u hs hu => ?_⟩
  rw [Env.get_set e s p v hs (by omega)] at hu
  by_cases q : s = p
  · subst q
    rw [if_pos rfl] at hu; cases hu
    exact ⟨vc, hv, by rw [Array.getElem?_setIfInBounds, if_pos rfl, if_pos (by omega)]⟩
  · rw [if_neg q] at hu
    obtain ⟨uc, a1, a2⟩ := h3 s u hs hu
    exact ⟨uc, a1, by rw [Array.getElem?_setIfInBounds, if_neg (Ne.symm q)]; exact a2⟩

theorem allLt_cons (n a : Nat) (l : List Nat) : allLt n (a :: l) = (decide (a < n) && allLt n l) := by
  show sel (Nat.blt a n) (allLt n l) false = _
  rw [natBlt]; cases decide (a < n) <;> rfl

theorem setAll_cons (p : Nat) (ps : List Nat) (v : AVal) (vs : List AVal) (e : Env) : setAll (p :: ps) (v :: vs) e = setAll ps vs (e.set p v) := rfl

theorem setAll_rel {ι : Inj} {n : Nat} : ∀ (ps : List Nat) (args : List AVal) (cargs : List Value) (e : Env) (t : Array Value), EnvRel ι n e t → renL ι args = some cargs → ps.length = args.length → allLt n ps = true →
    EnvRel ι n (setAll ps args e) ((ps.zip cargs).foldl (fun t p => t.setIfInBounds p.1 p.2) t)
  | [], args, cargs, e, t, r, h1, h2, _ => by
    have : args = [] := List.length_eq_zero_iff.1 h2.symm
    subst this
    rw [renL_nil] at h1; subst h1
    exact r
  | p :: ps, [], _, _, _, _, _, h2, _ => by simp at h2
  | p :: ps, v :: args, cargs, e, t, r, h1, h2, h3 => by
    obtain ⟨vc, cs, q1, q2, rfl⟩ := renL_cons.1 h1
    rw [allLt_cons, Bool.and_eq_true] at h3
    rw [setAll_cons, List.zip_cons_cons, List.foldl_cons]
    exact setAll_rel ps args cs _ _ (r.set (by simpa using h3.1) q1) q2 (by simpa using h2) h3.2

theorem onLoop_ok {ob : Option AObj} {k : FuncId → Nat → Env → List Nat → Code → Code → LSt → Nat → CR} {v : AVal} {h' : H} (hh : onLoop ob k = .ok v h') : ∃ fn n env ps asg body st d, ob = some (.loop fn n env ps asg body st d) ∧ k fn n env ps asg body st d = .ok v h' := by
  unfold onLoop at hh
  split at hh
  · exact ⟨_, _, _, _, _, _, _, _, rfl, hh⟩
  · cases hh

theorem onLoop_pan {ob : Option AObj} {k : FuncId → Nat → Env → List Nat → Code → Code → LSt → Nat → CR} {c : List (AVal × Bool)} {h' : H} (hh : onLoop ob k = .pan c h') : ∃ fn n env ps asg body st d, ob = some (.loop fn n env ps asg body st d) ∧ k fn n env ps asg body st d = .pan c h' := by
  unfold onLoop at hh
  split at hh
  · exact ⟨_, _, _, _, _, _, _, _, rfl, hh⟩
  · cases hh

theorem isReady_eq {st : LSt} (h : isReady st = true) : st = .ready := by cases st <;> first | rfl | cases h
theorem isBusy_eq {st : LSt} (h : isBusy st = true) : st = .busy := by cases st <;> first | rfl | cases h

section
variable {P : Program} {C : Ctx} {o : Oper} {x : FX} {e : Env} {h : H} {g : G}

theorem Rel.loop {ι : Inj} {w : World} (r : Rel ι h w) {b : Nat} {i : BI} {fn : FuncId} {n : Nat} {env : Env} {ps : List Nat} {asg body : Code} {st : LSt} {d : Nat} (hb : ι b = some i) (hc : h.get b = some (.loop fn n env ps asg body st d)) :
    ∃ lp, w.heap[i.B]? = some (.loop lp) ∧ lp.fn = fn ∧ EnvRel ι n env lp.tmps ∧ lp.params = ps.toArray ∧ lp.assign = asg ∧ lp.body = body ∧ LStRel st lp ∧ ∃ j, ι d = some j ∧ lp.defers = j.B := by
  obtain ⟨_, q, hq, ho⟩ := r.dom b i hb
  rw [hc] at hq; cases hq
  exact ho

theorem run_getLoop {w : World} {B : Nat} {lp : Loop} (h : w.heap[B]? = some (.loop lp)) : (Instr.getLoop B).run P w = .ok lp w := by
  unfold Instr.getLoop
  rw [run_bind (run_getObj h (by simp))]
  rfl

/-- the loop's state, set -/
theorem Went.loopSet {ι : Inj} {w : World} (r : Rel ι h w) {b : Nat} {i : BI} {fn : FuncId} {n : Nat} {env : Env} {ps : List Nat} {asg body : Code} {st st' : LSt} {d : Nat} (hb : ι b = some i) (hc : h.get b = some (.loop fn n env ps asg body st d)) {lp lp' : Loop}
    (hl : w.heap[i.B]? = some (.loop lp)) (h1 : lp'.fn = lp.fn) (h2 : lp'.tmps = lp.tmps) (h3 : lp'.params = lp.params) (h4 : lp'.assign = lp.assign) (h5 : lp'.body = lp.body) (h6 : lp'.defers = lp.defers) (hs : LStRel st' lp') :
    Went ι h w ι (h.setO b (.loop fn n env ps asg body st' d)) { w with heap := w.heap.setIfInBounds i.B (.loop lp') } := by
  obtain ⟨lp0, q1, q2, q3, q4, q5, q6, q7, j, q8, q9⟩ := r.loop hb hc
  rw [hl] at q1; cases q1
  exact Went.set r hb hc (by simp) (by simp) (by simp) fun w1 hw1 _ => ⟨lp', hw1, by rw [h1, q2], by rw [h2]; exact q3, by rw [h3, q4], by rw [h4, q5], by rw [h5, q6], hs, j, q8, by rw [h6, q9]⟩

theorem run_endRound {w : World} {B : Nat} {lp : Loop} (hl : w.heap[B]? = some (.loop lp)) (jump : Option Code) :
    (Instr.endRound B jump).run P w = .ok (.bool jump.isNone) { w with heap := w.heap.setIfInBounds B (.loop { lp with state := if jump.isNone then .ready else .done, pending := jump }) } := by
  unfold Instr.endRound
  rw [run_bind (run_getLoop hl), run_bind (run_setObj hl (by simp))]
  rfl

theorem run_beginRound {w : World} {B : Nat} {lp : Loop} (hl : w.heap[B]? = some (.loop lp)) (hs : lp.state = .ready) :
    (Instr.beginRound B).run P w = .ok () { w with heap := w.heap.setIfInBounds B (.loop { lp with state := .busy }) } := by
  unfold Instr.beginRound
  rw [run_bind (run_getLoop hl), run_bind (run_setObj hl (by simp)), hs]
  rfl

theorem Callers.normal {b : Frame} {cs cs' : List Frame} (hk : b.kind = .normal) (h : Callers b cs cs') : cs' = cs := by
  rcases h with h | ⟨hk', _⟩
  · exact h
  · rw [hk] at hk'; cases hk'

/-- one round -/
theorem round_s (hG : GSim P g) {l : Nat} {vs : List AVal} {v : AVal} {h' : H} (hy : yieldX g l vs h = .ok v h') {ι : Inj} {w : World} {j : BI} {cargs : List Value} (r : Rel ι h w) (hg : Glob ι) (hl : ι l = some j) (hargs : renL ι vs = some cargs) (c : Frame) (cs : List Frame) :
    ∃ ι' w' vc lp, Went ι h w ι' h' w' ∧ ren ι' v = some vc ∧ w.heap[j.B]? = some (.loop lp) ∧ cargs.length = lp.params.size ∧
      Steps P (lone (Frame.round j.B lp.fn ((lp.params.zip cargs.toArray).foldl (fun tmps (t, a) => tmps.setIfInBounds t a) lp.tmps) lp.assign lp.body .normal) (c :: cs) w) (lone (c.finish vc) cs w') := by
  unfold yieldX at hy
  obtain ⟨fn, n, env, ps, asg, body, st, d, hget, hy⟩ := onLoop_ok hy
  rw [sel_eq] at hy
  split at hy
  · rename_i hc
    simp only [Bool.and_eq_true, natBeq, decide_eq_true_eq, len_eq] at hc
    obtain ⟨⟨hst, hlen⟩, hlt⟩ := hc
    have hst' := isReady_eq hst
    subst hst'
    obtain ⟨lp, p1, p2, p3, p4, p5, p6, p7, jd, p8, p9⟩ := r.loop hl hget
    have hcl := renL_length hargs
    -- the assignment
    unfold roundBody at hy
    split at hy
    · rename_i x1 e1 h1 hx1
      obtain ⟨fn1, n1, env1, ps1, asg1, body1, st1, d1, hget1, hy⟩ := onLoop_ok hy
      rw [sel_eq] at hy
      split at hy
      · rename_i hst1
        have := isReady_eq hst1
        subst this
        unfold roundEnd at hy
        split at hy
        · rename_i ex s2 e2 h2 hx2
          obtain ⟨fn2, n2, env2, ps2, asg2, body2, st2, d2, hget2, hy⟩ := onLoop_ok hy
          rw [sel_eq] at hy
          split at hy
          · rename_i hst2
            have := isBusy_eq hst2
            subst this
            let b : Frame := { fn := fn, tmps := #[], todo := [], defers := [], mode := .run, kind := .normal, roundOf := some j.B }
            let tm : Array Value := (lp.params.zip cargs.toArray).foldl (fun tmps (t, a) => tmps.setIfInBounds t a) lp.tmps
            let a0 : Act := { tmps := tm, defers := [] }
            have henv : EnvRel ι n (setAll ps vs env) tm := by
              have := setAll_rel ps vs cargs env lp.tmps p3 hargs hlen hlt
              have e1 : tm = (ps.zip cargs).foldl (fun t p => t.setIfInBounds p.1 p.2) lp.tmps := by
                show ((lp.params.zip cargs.toArray).foldl (fun tmps (t, a) => tmps.setIfInBounds t a) lp.tmps) = _
                rw [p4, ← Array.foldl_toList]
                simp
              rw [e1]; exact this
            have C1 := hG.exec asg ⟨⟨fn, n, some l⟩, [], .nrm⟩ (setAll ps vs env) h
            rw [hx1] at C1
            have hfr0 : FrRel ι ⟨⟨fn, n, some l⟩, [], .nrm⟩ (setAll ps vs env) b a0 (c :: cs) := ⟨rfl, ⟨j, hl, rfl⟩, henv, trivial, rfl⟩
            obtain ⟨ι1, w1, a1, cs1, W1, F1, L1, S1, A1⟩ := C1 ι w b a0 [.beginRound, .code body] (c :: cs) r hg hfr0
            have e1 := Callers.normal rfl L1
            subst e1
            have hl1 := W1.ext l j hl
            obtain ⟨lp1, r1, r2, r3, r4, r5, r6, r7, jd1, r8, r9⟩ := W1.rel.loop hl1 hget1
            have W2 := Went.loopSet (st' := .busy) W1.rel hl1 hget1 (lp' := { lp1 with state := .busy }) r1 rfl rfl rfl rfl rfl rfl rfl
            have hbr := run_beginRound (P := P) r1 r7.1
            have C2 := hG.exec body x1 e1 (h1.setO l (.loop fn1 n1 env1 ps1 asg1 body1 .busy d1))
            rw [hx2] at C2
            have W12 := W1.trans W2
            obtain ⟨ι2, w2, a2, cs2, W3, F2, L2, S2, A2⟩ := C2 ι1 _ b a1 [] (c :: cs) W2.rel (hg.ext W1.ext) F1
            have e2' := Callers.normal rfl L2
            subst e2'
            have hl2 := W3.ext l j hl1
            obtain ⟨lp2, t1, t2, t3, t4, t5, t6, t7, jd2, t8, t9⟩ := W3.rel.loop hl2 hget2
            have begin_ : Steps P (lone (Frame.round j.B lp.fn tm lp.assign lp.body .normal) (c :: cs) w) (lone (b.atR a1 [.code body]) (c :: cs) { w1 with heap := w1.heap.setIfInBounds j.B (.loop { lp1 with state := .busy }) }) := by
              have : Frame.round j.B lp.fn tm lp.assign lp.body .normal = b.atR a0 (.code asg :: [.beginRound, .code body]) := by
                rw [p2, p5, p6]; rfl
              rw [this]
              exact Steps.trans A1 (.one (stepR_beginRound rfl hbr))
            have fin : ∀ (jump : Option Code) (st' : LSt), LStRel st' { lp2 with state := if jump.isNone then .ready else .done, pending := jump } →
                (Steps P (lone (b.atR a1 [.code body]) (c :: cs) { w1 with heap := w1.heap.setIfInBounds j.B (.loop { lp1 with state := .busy }) }) (lone (c.finish (.bool jump.isNone)) cs { w2 with heap := w2.heap.setIfInBounds j.B (.loop { lp2 with state := if jump.isNone then .ready else .done, pending := jump }) })) →
                h' = h2.setO l (.loop fn2 n2 env2 ps2 asg2 body2 st' d2) → v = .bool jump.isNone →
                ∃ ι' w' vc lp, Went ι h w ι' h' w' ∧ ren ι' v = some vc ∧ w.heap[j.B]? = some (.loop lp) ∧ cargs.length = lp.params.size ∧
                  Steps P (lone (Frame.round j.B lp.fn ((lp.params.zip cargs.toArray).foldl (fun tmps (t, a) => tmps.setIfInBounds t a) lp.tmps) lp.assign lp.body .normal) (c :: cs) w) (lone (c.finish vc) cs w') := by
              intro jump st' hst' hst hh' hv
              subst hh' hv
              have W4 := Went.loopSet (st' := st') W3.rel hl2 hget2 (lp' := { lp2 with state := if jump.isNone then .ready else .done, pending := jump }) t1 rfl rfl rfl rfl rfl rfl hst'
              exact ⟨ι2, _, .bool jump.isNone, lp, (W12.trans W3).trans W4, by simp [ren], p1, by rw [p4]; simp; omega, Steps.trans begin_ hst⟩
            cases ex with
            | normal =>
              cases hy
              exact fin none .ready ⟨rfl, rfl⟩ (Steps.trans A2 (.one (stepR_round_end rfl rfl (run_endRound t1 none)))) rfl rfl
            | exit id =>
              cases hy
              obtain ⟨k', hk1, hk2⟩ := A2
              exact fin (some (.exit id)) (.done (some id)) ⟨rfl, rfl⟩ (Steps.trans hk2 (.one (stepR_round_exit rfl rfl (by rw [hk1]; rfl) (run_endRound t1 (some (.exit id)))))) rfl rfl
            | ret =>
              cases hy
              obtain ⟨k', hk2⟩ := A2
              exact fin (some .ret) (.done none) ⟨rfl, rfl⟩ (Steps.trans hk2 (.one (stepR_round_ret rfl rfl (run_endRound t1 (some .ret))))) rfl rfl
            | panic ch => cases hy
          · cases hy
        · cases hy
      · cases hy
    · cases hy
  · cases hy

theorem yieldX_pan {l : Nat} {vs : List AVal} {c : List (AVal × Bool)} {h' : H} : yieldX g l vs h ≠ .pan c h' := by
  intro hy
  unfold yieldX at hy
  obtain ⟨fn, n, env, ps, asg, body, st, d, hget, hy⟩ := onLoop_pan hy
  rw [sel_eq] at hy
  split at hy
  · unfold roundBody at hy
    split at hy
    · obtain ⟨fn1, n1, env1, ps1, asg1, body1, st1, d1, hget1, hy⟩ := onLoop_pan hy
      rw [sel_eq] at hy
      split at hy
      · unfold roundEnd at hy
        split at hy
        · obtain ⟨fn2, n2, env2, ps2, asg2, body2, st2, d2, hget2, hy⟩ := onLoop_pan hy
          rw [sel_eq] at hy
          split at hy
          · rename_i ex _ _ _ _ _ _
            split at hy <;> cases hy
          · cases hy
        · cases hy
      · cases hy
    · cases hy
  · cases hy

theorem yield_s (hG : GSim P g) {c : Call} {a : Operand} (ho : o.op = .call c) (hc : c.callee = .value a) {l : Nat} {vs : List AVal} (hfv : (evF a).run e = some (.yld l)) (hvs : (evsF c.args.toList).run e = some vs) :
    Step1 o.dst x e (VS P o e h) (PS P o e h) (fun p k => ofC o.dst x e p k (yieldX g l vs h)) := by
  have hd : ∀ c, o.op ≠ .defer c := by simp [ho]
  refine ofC_s (fun v h' hr => ?_) fun c h' hr => absurd hr yieldX_pan
  intro ι w ac r hg hs T hT
  have he := evs_of hg hs
  have h1 := he a (by simp [ho, Op.operands, Call.operands, hc]) _ hfv
  have hl : ∃ j, ι l = some j ∧ ac.eval a = .func (.yield j.B) #[] #[] := by
    simp only [ren] at h1
    cases hb : ι l with
    | none => simp [hb] at h1
    | some j => simp [hb] at h1; exact ⟨j, rfl, h1.symm⟩
  obtain ⟨j, hl, hev⟩ := hl
  have hargs := args_s ho he hvs
  obtain ⟨ι', w', vc, lp, W, hv, hlp, hlen, hst⟩ := round_s hG hr r hg hl hargs (T.frame ac) T.cs
  rw [Array.toArray_toList] at hst
  refine ⟨ι', w', vc, W, hv, goes_round hT hd (w1 := w) ?_ hst⟩
  simp only [execOp, ho, resolve, hc, Deferred.ofValue, hev]
  simp only [Sem.run_bind, Sem.run_pure, Result.andThen_ok, invoke]
  unfold Instr.yield
  rw [run_bind (run_getLoop hlp)]
  have hl2 : (#[] ++ c.args.map ac.eval).size = lp.params.size := by rw [← hlen]; simp
  rw [if_neg (by simpa using hl2)]
  simp

end
end Go.Sim
end
section
/- All operations. -/
namespace Go.Sim

section
variable {P : Program} {C : Ctx} {o : Oper} {x : FX} {e : Env} {h : H} {g : G}

theorem Step1.ofP (hd : ∀ c, o.op ≠ .defer c) {f : PK → K → XR} (s : Step1 o.dst x e (PV P o e h) NoP f) : Step1 o.dst x e (VS P o e h) (PS P o e h) f :=
  s.mono (fun v h' hv => by obtain ⟨rfl, q⟩ := hv; exact (q.look _).heavy.vsim hd) fun _ _ hf => hf.elim
theorem Step1.ofL (hd : ∀ c, o.op ≠ .defer c) {f : PK → K → XR} (s : Step1 o.dst x e (LV P o e h) NoP f) : Step1 o.dst x e (VS P o e h) (PS P o e h) f :=
  s.mono (fun v h' hv => by obtain ⟨rfl, q⟩ := hv; exact q.heavy.vsim hd) fun _ _ hf => hf.elim
theorem Step1.ofH (hd : ∀ c, o.op ≠ .defer c) {f : PK → K → XR} (s : Step1 o.dst x e (HV P o e h) NoP f) : Step1 o.dst x e (VS P o e h) (PS P o e h) f :=
  s.mono (fun v h' hv => hv.vsim hd) fun _ _ hf => hf.elim

theorem builtin_s (K : COk C P) {c : Call} {b : Builtin} (ho : o.op = .call c) (hc : c.callee = .builtin b) (hr : b ≠ .recover) :
    Step1 o.dst x e (VS P o e h) (PS P o e h) (fun p k => (builtinF C c.argTypes.toList c.args.toList o.dst b).run g x e h p k) := by
  have hd : ∀ c, o.op ≠ .defer c := by simp [ho]
  cases b with
  | len => exact .ofL hd (bLen_s K ho hc)
  | append => exact .ofH hd (bAppend_s K ho hc)
  | copy => exact .ofH hd (bCopy_s K ho hc)
  | max => exact .ofP hd (bMax_s ho hc)
  | min => exact .ofP hd (bMin_s ho hc)
  | clear => exact .ofH hd (bClear_s K ho hc)
  | recover => exact absurd rfl hr
  | _ => exact Step1.bad'

theorem callee_s (K : COk C P) (hG : GSim P g) {c : Call} (ho : o.op = .call c) (hr : c.callee ≠ .builtin .recover) :
    Step1 o.dst x e (VS P o e h) (PS P o e h) (fun p k => (calleeF C c.argTypes.toList c.args.toList o.dst c.callee).run g x e h p k) := by
  cases hc : c.callee with
  | builtin b => exact builtin_s K ho hc (fun hb => hr (by rw [hc, hb]))
  | invoke a m => exact invoke_s K hG ho hc
  | value a =>
    have hv := value_s (x := x) (e := e) (h := h) (C := C) K hG ho hc fun l vs h1 h2 => yield_s hG ho hc h1 h2
    cases a with
    | func f => exact callS_s K hG ho hc
    | _ => exact hv

/-- ALL OPERATIONS but those that touch a frame's deferred calls. -/
theorem op_s (K : COk C P) (hG : GSim P g) (hns : isSelect o.op = false) : Step1 o.dst x e (VS P o e h) (PS P o e h) (fun p k => (opF C o.dst o.op).run g x e h p k) := by
  have hd : ∀ c, o.op ≠ .defer c := fun c hc => by rw [hc] at hns; cases hns
  cases ho : o.op with
  | move a => exact .ofP hd (opMove_s (.inl ho))
  | assign a => exact .ofP hd (opMove_s (.inr ho))
  | pick c a b => exact .ofP hd (opPick_s ho)
  | alloc t => exact .ofH hd (opAlloc_s K ho)
  | box t a => exact .ofH hd (opBox_s ho)
  | build t ps => exact .ofP hd (opBuild_s K ho)
  | buildSlice t n ps => exact .ofH hd (opBuildSl_s K ho)
  | load t a => exact .ofL hd (opLoad_s K ho)
  | store t a b => exact .ofH hd (opStore_s K ho)
  | nilCheck a => exact .ofP hd (opNilck_s ho)
  | binOp op t a b z => exact .ofP hd (opBin_s (ty := 0) K ho)
  | unOp op t a => exact .ofP hd (opUn_s ho)
  | convert s t a => exact .ofH hd (opConv_s K ho)
  | makeInterface t a => exact .ofP hd (opIface_s K ho)
  | makeFunc fn fs cs => exact .ofP hd (opFunc_s ho)
  | makeMap t r => exact .ofH hd (opMap_s ho)
  | makeSlice t l c => exact .ofH hd (opMkSl_s K ho)
  | slice t a lo hi mx => exact .ofL hd (opSlice_s K ho)
  | fieldAddr t a f => exact .ofP hd (opFaddr_s K ho)
  | field t a f => exact .ofP hd (opField_s K ho)
  | indexAddr t a i => exact .ofP hd (opIaddr_s K ho)
  | index t a i => exact .ofP hd (opIndex_s K ho)
  | lookup t m q ok => exact .ofL hd (opLookup_s K ho)
  | mapUpdate t m q v => exact .ofH hd (opMapSet_s K (.inl ho))
  | insert t m q v => exact .ofH hd (opMapSet_s K (.inr ho))
  | range t a => exact .ofH hd (opRange_s K ho)
  | next a s => exact .ofH hd (opNext_s ho)
  | typeAssert a it t ok => exact .ofP hd (opAssert_s K ho)
  | extract a i => exact .ofP hd (opExtract_s ho)
  | call c => exact callee_s K hG ho (fun hc => by rw [ho] at hns; simp [isSelect, hc] at hns)
  | panic a => exact (opPanic_s ho).mono (fun _ _ hf => hf.elim) fun _ _ hf => hf
  | defer c => exact absurd ho (hd c)
  | _ => exact Step1.bad'

/-- the light operations that do not look into memory -/
theorem op_pure (K : COk C P) (hh : isHeavy o.op = false) (hl : isLook o.op = false) : Step1 o.dst x e (PV P o e h) NoP (fun p k => (opF C o.dst o.op).run g x e h p k) := by
  cases ho : o.op with
  | move a => exact opMove_s (.inl ho)
  | assign a => exact opMove_s (.inr ho)
  | pick c a b => exact opPick_s ho
  | build t ps => exact opBuild_s K ho
  | nilCheck a => exact opNilck_s ho
  | binOp op t a b z => exact opBin_s (ty := 0) K ho
  | unOp op t a => exact opUn_s ho
  | makeInterface t a => exact opIface_s K ho
  | makeFunc fn fs cs => exact opFunc_s ho
  | fieldAddr t a f => exact opFaddr_s K ho
  | field t a f => exact opField_s K ho
  | indexAddr t a i => exact opIaddr_s K ho
  | index t a i => exact opIndex_s K ho
  | typeAssert a it t ok => exact opAssert_s K ho
  | extract a i => exact opExtract_s ho
  | call c =>
    rw [ho] at hh hl
    show Step1 o.dst x e (PV P o e h) NoP (fun p k => (calleeF C c.argTypes.toList c.args.toList o.dst c.callee).run g x e h p k)
    cases hc : c.callee with
    | builtin b =>
      cases b <;> simp [isHeavy, isLook, hc, isHeavyB] at hh hl
      · exact bMax_s ho hc
      · exact bMin_s ho hc
    | invoke a m => simp [isHeavy, hc] at hh
    | value a => simp [isHeavy, hc] at hh
  | _ => rw [ho] at hh hl; simp [isHeavy, isLook] at hh hl

/-- the light operations that look -/
theorem op_look (K : COk C P) (hh : isHeavy o.op = false) : Step1 o.dst x e (LV P o e h) NoP (fun p k => (opF C o.dst o.op).run g x e h p k) := by
  cases hl : isLook o.op with
  | false => exact (op_pure K hh hl).mono (fun v h' hv => ⟨hv.1, hv.2.look h⟩) fun _ _ hf => hf
  | true =>
    cases ho : o.op with
    | load t a => exact opLoad_s K ho
    | slice t a lo hi mx => exact opSlice_s K ho
    | lookup t m q ok => exact opLookup_s K ho
    | call c =>
      rw [ho] at hh hl
      show Step1 o.dst x e (LV P o e h) NoP (fun p k => (calleeF C c.argTypes.toList c.args.toList o.dst c.callee).run g x e h p k)
      cases hc : c.callee with
      | builtin b =>
        cases b <;> simp [isHeavy, isLook, hc, isHeavyB] at hh hl
        exact bLen_s K ho hc
      | invoke a m => simp [isHeavy, hc] at hh
      | value a => simp [isHeavy, hc] at hh
    | _ => rw [ho] at hl; simp [isLook] at hl

end
end Go.Sim
end
section
/- Regions that run in their natural order. -/
namespace Go.Sim

inductive Step2 (x : FX) (e : Env) (R : FX → Env → H → Prop) (Q : List (AVal × Bool) → H → Prop) (f : PK → K → XR) : Prop
  | bad (hb : ∀ p k, f p k = .bad)
  | ok (x' : FX) (e' : Env) (h' : H) (hf : ∀ p k, f p k = k x' e' h') (hr : R x' e' h')
  | pan (c : List (AVal × Bool)) (h' : H) (hf : ∀ p k, f p k = p c x e h') (hq : Q c h')

/-- the frame goes on behind the operation -/
def RSim (P : Program) (ops : Array Oper) (i : Nat) (x : FX) (e : Env) (h : H) (x' : FX) (e' : Env) (h' : H) : Prop :=
  ∀ ι w b a rest K cs, Rel ι h w → Glob ι → FrRel ι x e b a cs → ∃ ι' w' a' cs', Went ι h w ι' h' w' ∧ FrRel ι' x' e' b a' cs' ∧ Callers b cs cs' ∧ x'.s = x.s ∧
    Steps P (lone (b.atR a (.inRegion ops (i :: rest) :: K)) cs w) (lone (b.atR a' (.inRegion ops rest :: K)) cs' w')

def QSim (P : Program) (ops : Array Oper) (i : Nat) (x : FX) (e : Env) (h : H) (c : List (AVal × Bool)) (h' : H) : Prop :=
  ∀ ι w b a rest K cs, Rel ι h w → Glob ι → FrRel ι x e b a cs → ∃ ι' w' ch todo, Went ι h w ι' h' w' ∧ ChainRel ι' c ch ∧
    Steps P (lone (b.atR a (.inRegion ops (i :: rest) :: K)) cs w) (lone { b.atR a todo with mode := .panicking ch } cs w')

section
variable {P : Program} {C : Ctx} {x : FX} {e : Env} {h : H} {g : G}

theorem FrRel.slots {ι : Inj} {b : Frame} {a : Act} {cs : List Frame} (F : FrRel ι x e b a cs) (l : List Nat) : SlotsRel ι e a l := fun t _ ht u hu => F.env.2.2 t u ht hu

theorem FrRel.put {ι : Inj} {b : Frame} {a : Act} {cs : List Frame} (F : FrRel ι x e b a cs) {d : Nat} (hd : d < x.s.n) {v : AVal} {vc : Value} (hv : ren ι v = some vc) : FrRel ι x (e.set d v) b (a.put (some d) vc) cs :=
  ⟨F.fn, F.rnd, F.env.set hd hv, F.ds, F.rc⟩

theorem putF_none {v : AVal} {k : K} : (putF none).run v x e h k = k x e h := rfl
theorem putF_some {d : Nat} {v : AVal} {k : K} : (putF (some d)).run v x e h k = if d < x.s.n then k x (e.set d v) h else .bad := by
  show sel (Nat.blt d x.s.n) _ _ = _
  rw [natBlt, sel_eq]; simp

/-- what a slot's writing comes to -/
theorem put2 {R : FX → Env → H → Prop} {Q : List (AVal × Bool) → H → Prop} {x0 : FX} {e0 : Env} {h' : H} {d : Option Nat} {v : AVal} {f : PK → K → XR} (hf : ∀ p k, f p k = (putF d).run v x e h' k)
    (h0 : d = none → R x e h') (h1 : ∀ s, d = some s → s < x.s.n → R x (e.set s v) h') : Step2 x0 e0 R Q f := by
  cases d with
  | none => exact .ok x e h' (fun p k => by rw [hf]; rfl) (h0 rfl)
  | some s =>
    by_cases hs : s < x.s.n
    · exact .ok x (e.set s v) h' (fun p k => by rw [hf, putF_some, if_pos hs]) (h1 s rfl hs)
    · exact .bad fun p k => by rw [hf, putF_some, if_neg hs]

theorem evF_tmp {t : Nat} {e : Env} {u : AVal} (h : (evF (.tmp t)).run e = some u) : t < 256 ∧ e.get t = some u := by
  have h' : (sel (Nat.blt t 256) (⟨(getE 4 t).run⟩ : EvF) ⟨fun _ => none⟩).run e = some u := h
  rw [natBlt, sel_eq] at h'
  split at h'
  · rename_i ht; exact ⟨by simpa using ht, h'⟩
  · cases h'

theorem wanted_s {ops : Array Oper} {o : Oper} {bw : Bool} {ι : Inj} {a : Act} (hw : (wantF ops.toList o.guard).run e = some bw) (hs : SlotsRel ι e a (guardSlots ops.toList o.guard)) : Region.wanted o (yielded ops a.tmps) = bw := by
  unfold Region.wanted
  cases hg : o.guard with
  | none =>
    rw [hg] at hw
    have : some true = some bw := hw
    cases this; rfl
  | some p =>
    rw [hg] at hw hs
    obtain ⟨j, want⟩ := p
    have hw' : (oe (slotOf ops.toList j) (⟨fun _ => none⟩ : WF) (fun s => ⟨fun e => ob ((evF (.tmp s)).run e) (yields want)⟩)).run e = some bw := hw
    have hs' : SlotsRel ι e a (oe (slotOf ops.toList j) [] (fun s => [s])) := hs
    cases hsl : slotOf ops.toList j with
    | none => rw [hsl] at hw'; cases hw'
    | some s =>
      rw [hsl, oe_some] at hw' hs'
      obtain ⟨u, h1, h2⟩ := ob_eq.1 hw'
      obtain ⟨ht, hu⟩ := evF_tmp h1
      obtain ⟨uc, q1, q2⟩ := hs' s (by simp) ht u hu
      have hd : ((ops[j]?).bind (·.dst)) = some s := by
        unfold slotOf at hsl
        obtain ⟨o', a1, a2⟩ := ob_eq.1 hsl
        rw [getX_eq, Array.getElem?_toList] at a1
        rw [a1]; exact a2
      show (yielded ops a.tmps j == some want) = bw
      unfold yielded
      rw [hd, Option.bind_some, q2]
      unfold yields at h2
      split at h2
      · simp [ren] at q1; subst q1
        cases h2
        cases want <;> rename_i bb <;> cases bb <;> rfl
      · simp [ren] at q1; subst q1
        cases h2; rfl
      · cases h2

theorem Step2.mono {R R' : FX → Env → H → Prop} {Q Q' : List (AVal × Bool) → H → Prop} {f : PK → K → XR} (s : Step2 x e R Q f) (hR : ∀ x' e' h', R x' e' h' → R' x' e' h') (hQ : ∀ c h', Q c h' → Q' c h') : Step2 x e R' Q' f := by
  cases s with
  | bad hb => exact .bad hb
  | ok x' e' h' hf hr => exact .ok x' e' h' hf (hR _ _ _ hr)
  | pan c h' hf hq => exact .pan c h' hf (hQ _ _ hq)

/-- an operation that leaves the frame's deferred calls alone -/
theorem opN_s (K : COk C P) (hG : GSim P g) {ops : Array Oper} {i : Nat} {o : Oper} (hi : ops[i]? = some o) (hns : isSelect o.op = false)
    (hW : ∀ (ι : Inj) (a : Act), SlotsRel ι e a (guardSlots ops.toList o.guard) → Region.wanted o (yielded ops a.tmps) = true) :
    Step2 x e (RSim P ops i x e h) (QSim P ops i x e h) (fun p k => (opF C o.dst o.op).run g x e h p k) := by
  cases op_s (x := x) (e := e) (h := h) K hG hns with
  | bad hb => exact .bad hb
  | val v h' hf hv =>
    refine put2 hf (fun hd => ?_) fun s hd hs => ?_
    · intro ι w b a rest K cs r hg F
      obtain ⟨ι', w', vc, W, v1, v2⟩ := hv ι w a r hg (F.slots _) ⟨b, ops, i, rest, K, cs⟩ ⟨hi, hW ι a (F.slots _)⟩
      refine ⟨ι', w', a.put o.dst vc, cs, W, ?_, .refl _ _, rfl, v2⟩
      rw [hd]
      exact F.ext W.ext
    · intro ι w b a rest K cs r hg F
      obtain ⟨ι', w', vc, W, v1, v2⟩ := hv ι w a r hg (F.slots _) ⟨b, ops, i, rest, K, cs⟩ ⟨hi, hW ι a (F.slots _)⟩
      refine ⟨ι', w', a.put o.dst vc, cs, W, ?_, .refl _ _, rfl, v2⟩
      rw [hd]
      exact (F.ext W.ext).put hs v1
  | pan c h' hf hq =>
    refine .pan c h' hf fun ι w b a rest K cs r hg F => ?_
    obtain ⟨ι', w', ch, W, q1, todo, q2⟩ := hq ι w a r hg (F.slots _) ⟨b, ops, i, rest, K, cs⟩ ⟨hi, hW ι a (F.slots _)⟩
    exact ⟨ι', w', ch, todo, W, q1, q2⟩

theorem valueOf_some {c : Callee} {a : Operand} (h : valueOf c = some a) : c = .value a := by
  unfold valueOf at h; split at h <;> simp_all

/-- a call deferred -/
theorem deferN_s {ops : Array Oper} {i : Nat} {o : Oper} {c : Call} (hi : ops[i]? = some o) (ho : o.op = .defer c)
    (hW : ∀ (ι : Inj) (a : Act), SlotsRel ι e a (guardSlots ops.toList o.guard) → Region.wanted o (yielded ops a.tmps) = true) :
    Step2 x e (RSim P ops i x e h) (QSim P ops i x e h) (fun p k => (opDefer c o.dst).run g x e h p k) := by
  unfold opDefer
  cases hcv : valueOf c.callee with
  | none => exact .bad fun _ _ => rfl
  | some a =>
    have hc := valueOf_some hcv
    cases hfv : (evF a).run e with
    | none => exact .bad fun p k => by show evX e a _ = _; rw [evX, hfv]
    | some fv =>
      cases hvs : (evsF c.args.toList).run e with
      | none => exact .bad fun p k => by show evX e a _ = _; rw [evX, hfv, ox_some, hvs]
      | some args =>
        have hrun : ∀ (p : PK) (k : K), (Sim.so (some a) (fun a => (⟨fun _ x e h _ k => evX e a (fun fv => Sim.ox ((evsF c.args.toList).run e) (fun args => deferX o.dst e h k x args fv))⟩ : OpF))).run g x e h p k = deferX o.dst e h k x args fv := by
          intro p k; show evX e a _ = _; rw [evX, hfv, ox_some, hvs]
        obtain ⟨⟨fn, n, rnd⟩, ds, rc⟩ := x
        cases rnd with
        | some l => exact .bad fun p k => by rw [hrun]; rfl
        | none =>
          cases fv with
          | func f caps =>
            have key : ∀ (ι : Inj) (w : World) (b : Frame) (ac : Act) (rest : List Nat) (K : List Item) (cs : List Frame), Rel ι h w → Glob ι → FrRel ι ⟨⟨fn, n, none⟩, ds, rc⟩ e b ac cs →
                ∃ d, DRel ι (.call f (app args caps)) d ∧ Steps P (lone (b.atR ac (.inRegion ops (i :: rest) :: K)) cs w) (lone (b.atR ({ ac with defers := d :: ac.defers }.put o.dst undef) (.inRegion ops rest :: K)) cs w) := by
              intro ι w b ac rest K cs r hg F
              have he := evs_of hg (F.slots (tmpsOf o.op.operands.toList))
              have h1 := he a (by simp [ho, Op.operands, Call.operands, hc]) _ hfv
              obtain ⟨cc, h2, h3⟩ := ren_func h1
              have h4 : renL ι args = some (c.args.map ac.eval).toList := by
                rw [Array.toList_map]
                exact evs_renL (fun y hy => he y (by simp only [ho, Op.operands, Call.operands, Array.toList_append, List.mem_append]; exact .inr hy)) hvs
              refine ⟨{ target := .fn (.func f) cc.toArray, args := c.args.map ac.eval }, ⟨cc.toArray, rfl, by rw [app_eq]; simpa using renL_append h4 h2⟩, .one (step_lone_go ?_)⟩
              have hrnd : b.roundOf = none := F.rnd
              have hex : (execOp ac.eval o).run P w = .ok (.defer { target := .fn (.func f) cc.toArray, args := c.args.map ac.eval }) w := by
                simp only [execOp, ho, resolve, hc, Deferred.ofValue, h3]
                simp
              have hfin : ({ b.atR ac (.inRegion ops (i :: rest) :: K) with defers := { target := .fn (.func f) cc.toArray, args := c.args.map ac.eval } :: ac.defers } : Frame).finish undef =
                  b.atR ({ ac with defers := { target := .fn (.func f) cc.toArray, args := c.args.map ac.eval } :: ac.defers }.put o.dst undef) (.inRegion ops rest :: K) := by
                have := Frame.finish_atR b { ac with defers := { target := .fn (.func f) cc.toArray, args := c.args.map ac.eval } :: ac.defers } ops i rest K undef
                rw [hi] at this; exact this
              rw [stepGR_op hi (hW ι ac (F.slots _)), hrnd, Oper.semAt_none]
              simp only [stepG.apply, Sem.runT_eq, hex, GStep.bare_after]
              exact congrArg (fun fr => GStep.go { frame := fr, callers := cs, status := .running, dying := none } w) hfin
            refine put2 (x := ⟨⟨fn, n, none⟩, .call f (app args caps) :: ds, rc⟩) (d := o.dst) (v := .undef) (h' := h) (fun p k => hrun p k) (fun hd => ?_) fun s hd hs => ?_
            · intro ι w b ac rest K cs r hg F
              obtain ⟨d, d1, d2⟩ := key ι w b ac rest K cs r hg F
              refine ⟨ι, w, _, cs, Went.refl r, ?_, .refl _ _, rfl, d2⟩
              rw [hd]
              exact ⟨F.fn, F.rnd, F.env, ⟨d1, F.ds⟩, F.rc⟩
            · intro ι w b ac rest K cs r hg F
              obtain ⟨d, d1, d2⟩ := key ι w b ac rest K cs r hg F
              refine ⟨ι, w, _, cs, Went.refl r, ?_, .refl _ _, rfl, d2⟩
              rw [hd]
              exact ⟨F.fn, F.rnd, F.env.set hs (by simp [ren]), ⟨d1, F.ds⟩, F.rc⟩
          | _ => exact .bad fun p k => by rw [hrun]; rfl

theorem recov_s {ι : Inj} {m : AMode} {c0 : Frame} {rest : List Frame} (hm : ModeRel ι m c0.mode) :
    ∃ v cs', ren ι (recovA m).1 = some v ∧ ((recoverD (c0 :: rest) = some (v, cs')) ∨ (recoverD (c0 :: rest) = none ∧ v = .nilIface ∧ cs' = c0 :: rest)) ∧ ∃ m', cs' = { c0 with mode := m' } :: rest ∧ ModeRel ι (recovA m).2 m' := by
  cases m with
  | ret =>
    have hm' : c0.mode = .returning := hm
    refine ⟨.nilIface, c0 :: rest, by simp [recovA, ren], .inr ⟨by simp [recoverD, hm'], rfl, rfl⟩, c0.mode, rfl, hm⟩
  | pan ch =>
    obtain ⟨d, h1, h2⟩ := hm
    cases ch with
    | nil =>
      cases d with
      | nil => exact ⟨.nilIface, c0 :: rest, by simp [recovA, ren], .inr ⟨by simp [recoverD, h1], rfl, rfl⟩, c0.mode, rfl, [], h1, trivial⟩
      | cons q d => exact h2.elim
    | cons p ch =>
      cases d with
      | nil => exact h2.elim
      | cons q d =>
        obtain ⟨⟨a1, a2, a3⟩, b1⟩ := h2
        obtain ⟨v, rb⟩ := p
        obtain ⟨qv, qr, qg⟩ := q
        simp only at a1 a2 a3
        subst a2 a3
        cases qr with
        | true => exact ⟨.nilIface, c0 :: rest, by simp [recovA, ren], .inr ⟨by simp [recoverD, h1], rfl, rfl⟩, c0.mode, rfl, _, h1, ⟨a1, rfl, rfl⟩, b1⟩
        | false => exact ⟨qv, { c0 with mode := .panicking ({ v := qv, recovered := true } :: d) } :: rest, a1, .inl (by simp [recoverD, h1]), _, rfl, _, rfl, ⟨a1, rfl, rfl⟩, b1⟩

/-- recover -/
theorem recoverN_s {ops : Array Oper} {i : Nat} {o : Oper} {c : Call} (hi : ops[i]? = some o) (ho : o.op = .call c) (hc : c.callee = .builtin .recover)
    (hW : ∀ (ι : Inj) (a : Act), SlotsRel ι e a (guardSlots ops.toList o.guard) → Region.wanted o (yielded ops a.tmps) = true) :
    Step2 x e (RSim P ops i x e h) (QSim P ops i x e h) (fun p k => (bRecover o.dst).run g x e h p k) := by
  have hex : ∀ (w : World) (ac : Act), (execOp ac.eval o).run P w = .ok .recover w := by
    intro w ac
    simp only [execOp, ho, resolve, hc]
    simp [invoke, builtin]
  obtain ⟨⟨fn, n, rnd⟩, ds, rc⟩ := x
  cases rnd with
  | some l => cases rc <;> exact .bad fun _ _ => rfl
  | none =>
    have step_ : ∀ (b : Frame) (ac : Act) (rest : List Nat) (K : List Item) (cs cs' : List Frame) (w : World) (v : Value), b.roundOf = none → Region.wanted o (yielded ops ac.tmps) = true →
        (tryRecover (b.atR ac (.inRegion ops (i :: rest) :: K)) cs = some (v, cs') ∨ (tryRecover (b.atR ac (.inRegion ops (i :: rest) :: K)) cs = none ∧ v = .nilIface ∧ cs' = cs)) →
        Steps P (lone (b.atR ac (.inRegion ops (i :: rest) :: K)) cs w) (lone (b.atR (ac.put o.dst v) (.inRegion ops rest :: K)) cs' w) := by
      intro b ac rest K cs cs' w v hb hw ht
      have hfin : b.atR (ac.put o.dst v) (.inRegion ops rest :: K) = (b.atR ac (.inRegion ops (i :: rest) :: K)).finish v := by rw [Frame.finish_atR, hi]; rfl
      refine .one (step_lone_go ?_)
      rw [stepGR_op hi hw, hb, Oper.semAt_none, hfin]
      have hrn : (b.atR ac (.inRegion ops (i :: rest) :: K)).roundOf = none := hb
      rcases ht with ht | ⟨ht, rfl, rfl⟩ <;> simp [stepG.apply, hex, hrn, ht]
    cases rc with
    | nrm =>
      have key : ∀ (ι : Inj) (w : World) (b : Frame) (ac : Act) (rest : List Nat) (K : List Item) (cs : List Frame), FrRel ι ⟨⟨fn, n, none⟩, ds, .nrm⟩ e b ac cs →
          Steps P (lone (b.atR ac (.inRegion ops (i :: rest) :: K)) cs w) (lone (b.atR (ac.put o.dst .nilIface) (.inRegion ops rest :: K)) cs w) := by
        intro ι w b ac rest K cs F
        have hk : b.kind = .normal := F.rc
        refine step_ b ac rest K cs cs w .nilIface F.rnd (hW ι ac (F.slots _)) (.inr ⟨?_, rfl, rfl⟩)
        have hk' : (b.atR ac (.inRegion ops (i :: rest) :: K)).kind = .normal := hk
        unfold tryRecover
        rw [hk']
      refine put2 (x := ⟨⟨fn, n, none⟩, ds, .nrm⟩) (d := o.dst) (v := .nilIface) (h' := h) (fun p k => rfl) (fun hd => ?_) fun s hd hs => ?_
      · intro ι w b ac rest K cs r hg F
        refine ⟨ι, w, _, cs, Went.refl r, ?_, .refl _ _, rfl, key ι w b ac rest K cs F⟩
        rw [hd]; exact F
      · intro ι w b ac rest K cs r hg F
        refine ⟨ι, w, _, cs, Went.refl r, ?_, .refl _ _, rfl, key ι w b ac rest K cs F⟩
        rw [hd]; exact F.put hs (by simp [ren])
    | dfr m =>
      have key : ∀ (ι : Inj) (w : World) (b : Frame) (ac : Act) (rest : List Nat) (K : List Item) (cs : List Frame), FrRel ι ⟨⟨fn, n, none⟩, ds, .dfr m⟩ e b ac cs →
          ∃ v cs', ren ι (recovA m).1 = some v ∧ Callers b cs cs' ∧ RcRel ι b cs' (.dfr (recovA m).2) ∧
            Steps P (lone (b.atR ac (.inRegion ops (i :: rest) :: K)) cs w) (lone (b.atR (ac.put o.dst v) (.inRegion ops rest :: K)) cs' w) := by
        intro ι w b ac rest K cs F
        obtain ⟨hk, hr, c0, crest, rfl, hm⟩ := F.rc
        obtain ⟨v, cs', h1, h2, m', rfl, h4⟩ := recov_s (rest := crest) hm
        have hk' : (b.atR ac (.inRegion ops (i :: rest) :: K)).kind = .deferred := hk
        have htr := tryRecover_deferred hk' (c0 :: crest)
        exact ⟨v, _, h1, .inr ⟨hk, c0, crest, m', rfl, rfl⟩, ⟨hk, hr, _, crest, rfl, h4⟩, step_ b ac rest K _ _ w v hr (hW ι ac (F.slots _)) (by rw [htr]; exact h2)⟩
      refine put2 (x := ⟨⟨fn, n, none⟩, ds, .dfr (recovA m).2⟩) (d := o.dst) (v := (recovA m).1) (h' := h) (fun p k => rfl) (fun hd => ?_) fun s hd hs => ?_
      · intro ι w b ac rest K cs r hg F
        obtain ⟨v, cs', h1, h2, h3, h4⟩ := key ι w b ac rest K cs F
        refine ⟨ι, w, _, cs', Went.refl r, ?_, h2, rfl, h4⟩
        rw [hd]; exact ⟨F.fn, F.rnd, F.env, F.ds, h3⟩
      · intro ι w b ac rest K cs r hg F
        obtain ⟨v, cs', h1, h2, h3, h4⟩ := key ι w b ac rest K cs F
        refine ⟨ι, w, _, cs', Went.refl r, ?_, h2, rfl, h4⟩
        rw [hd]; exact ⟨F.fn, F.rnd, F.env.set hs h1, F.ds, h3⟩

end
end Go.Sim
end
