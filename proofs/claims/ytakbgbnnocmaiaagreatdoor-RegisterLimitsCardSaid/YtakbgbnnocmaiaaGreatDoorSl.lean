/- All code; entering and leaving functions. -/
import Derived.Test.YtakbgbnnocmaiaaGreatDoorSk
import Derived.Laws.StructEq
set_option linter.all false
section
namespace Go.Sim

section
variable {P : Program} {C : Ctx} {g : G}

theorem block_none_c (id : Nat) {b : Code} {W : Option (List Nat)} {R : CF} (hB : CFSim P g b (comp C b)) : CFSim P g (.block id b) (cBlock C id none W R (comp C b)) := fun x e h => blockEnd_s (hB x e h)

/-- ALL CODE -/
theorem comp_c (K : COk C P) (hG : GSim P g) (hmix : P.follows .mixedOrders = true) (c : Code) : CFSim P g c (comp C c) := by
  cases c with
  | skip => simp only [comp]; exact skip_c
  | region id ops draw =>
    simp only [comp]
    cases draw with
    | false => exact fun x e h => regionN_s K hG id ops
    | true => exact fun x e h => regionD_s K hG hmix id ops
  | seq a b => simp only [comp]; exact seq_c (comp_c K hG hmix a) (comp_c K hG hmix b)
  | cond c a b => simp only [comp]; exact cond_c (comp_c K hG hmix a) (comp_c K hG hmix b)
  | block id b =>
    obtain ⟨W, R, e1, e2⟩ := comp_block (C := C) id b
    rw [e1]
    have hB := comp_c K hG hmix b
    cases hml : mapLoop? id b with
    | none => exact block_none_c id hB
    | some ml =>
      obtain ⟨rfl, rfl⟩ := e2 ml hml
      have O := mapLoop_ok hml
      have hlt : SizeOf.sizeOf ml.rest < SizeOf.sizeOf b := by
        obtain ⟨i1, r1, i2, r2, o1, o2, hb, _⟩ := O.shape
        rw [hb]
        simp
        omega
      have hsub : SizeOf.sizeOf ml.rest < SizeOf.sizeOf (Code.block id b) := by simp; omega
      exact mapBlock_c K hG O (comp_c K hG hmix ml.rest) hB
  | loop b => simp only [comp]; exact loop_c (comp_c K hG hmix b)
  | rangeFunc f ps asg body => simp only [comp]; exact rangeFunc_c hG f ps asg body
  | exit id => simp only [comp]; exact exit_c id
  | ret => simp only [comp]; exact ret_c
  | scope b => simp only [comp]; exact bad_c _
  | label l => simp only [comp]; exact bad_c _
  | goto l => simp only [comp]; exact bad_c _
  | refuse w => simp only [comp]; exact bad_c _
termination_by SizeOf.sizeOf c

/-! ### The slots of a frame that is entered -/

theorem setFrom_nil (i : Nat) (e : Env) : setFrom [] i e = e := rfl
theorem setFrom_cons (v : AVal) (vs : List AVal) (i : Nat) (e : Env) : setFrom (v :: vs) i e = setFrom vs (i + 1) (e.set i v) := rfl

theorem setFrom_get : ∀ (vs : List AVal) (i : Nat) (e : Env), i + vs.length ≤ 256 → ∀ t, t < 256 → (setFrom vs i e).get t = if i ≤ t ∧ t < i + vs.length then vs[t - i]? else e.get t
  | [], i, e, _, t, ht => by
    rw [setFrom_nil, if_neg]
    rintro ⟨h1, h2⟩; simp at h2; omega
  | v :: vs, i, e, hl, t, ht => by
    simp only [List.length_cons] at hl
    rw [setFrom_cons, setFrom_get vs (i + 1) _ (by omega) t ht, Env.get_set e t i v ht (by omega)]
    simp only [List.length_cons]
    by_cases h0 : t = i
    · subst h0
      rw [if_neg (by omega), if_pos rfl, if_pos (by omega)]
      simp
    · by_cases h1 : i + 1 ≤ t ∧ t < i + 1 + vs.length
      · rw [if_pos h1, if_pos (by omega)]
        rw [show t - i = (t - (i + 1)) + 1 by omega, List.getElem?_cons_succ]
      · rw [if_neg h1, if_neg h0, if_neg (by omega)]

theorem enter_env {ι : Inj} {args : List AVal} {cargs : List Value} {n : Nat} (ha : renL ι args = some cargs) (h1 : args.length ≤ n) (h2 : n ≤ 256) :
    EnvRel ι n (setFrom args 0 (E.empty AVal 4)) (cargs.toArray ++ Array.replicate (n - cargs.toArray.size) undef) := by
  have hl := renL_length ha
  refine ⟨by simp; omega, h2, fun t u ht hu => ?_⟩
  rw [setFrom_get args 0 _ (by omega) t ht] at hu
  split at hu
  · obtain ⟨vc, q1, q2⟩ := renL_get ha _ _ hu
    refine ⟨vc, q1, ?_⟩
    have hlt : t < cargs.length := by omega
    rw [Array.getElem?_append_left (by simpa using hlt)]
    simpa using q2
  · have : Env.get (E.empty AVal 4) t = none := get_empty 4 t
    rw [this] at hu; cases hu

def fbase (f : FuncId) (kind : CallKind) : Frame := { (default : Frame) with fn := f, kind := kind }

theorem enter_frame {f : FuncId} {fn : Func} {c : Code} (hf : P.funcs[f]? = some fn) (hb : fn.body = some c) (args : Array Value) (kind : CallKind) :
    Frame.enter P f args kind = (fbase f kind).atR { tmps := args ++ Array.replicate (fn.ntmps - args.size) undef, defers := [] } [.code c] := by
  simp [Frame.enter, Frame.atR, hf, hb, fbase]
  rfl

/-! ### Results -/

def rvSem (tmps : Array Value) : ResultVar → Sem Value
  | .tmp t => pure (tmps.getD t undef)
  | .cell ad t => do loadVar t (← asAddr (tmps.getD ad undef))

theorem resV_s (K : COk C P) {h : H} {e : Env} {ι : Inj} {w : World} {a : Act} {n : Nat} (r : Rel ι h w) (hg : Glob ι) (F : EnvRel ι n e a.tmps) {rv : ResultVar} {v : AVal} (hh : resV C e h rv = some v) :
    ∃ vc, ren ι v = some vc ∧ (rvSem a.tmps rv).run P w = .ok vc w := by
  cases rv with
  | tmp t =>
    have hh : (evF (.tmp t)).run e = some v := hh
    have := ev_ren hg (F.slots (tmpsOf [.tmp t])) (x := .tmp t) (fun t' ht' => by rw [mem_tmpsOf]; simp [ht']) hh
    exact ⟨_, this, by simp [Act.eval, rvSem]⟩
  | cell ad t =>
    have hh : ob ((evF (.tmp ad)).run e) (fun p => ob (C.tt.get t) (fun ti => loadT h ti p)) = some v := hh
    obtain ⟨p, h1, hh⟩ := ob_eq.1 hh
    obtain ⟨ti, h2, hh⟩ := ob_eq.1 hh
    have := ev_ren hg (F.slots (tmpsOf [.tmp ad])) (x := .tmp ad) (fun t' ht' => by rw [mem_tmpsOf]; simp [ht']) h1
    obtain ⟨aa, vc, q1, q2, q3⟩ := run_loadVar (K.ty _ _ h2) r this hh
    refine ⟨vc, q2, ?_⟩
    have q1 : a.tmps.getD ad undef = .pointer (some aa) := q1
    show (do loadVar t (← asAddr (a.tmps.getD ad undef)) : Sem Value).run P w = _
    rw [q1]
    simp [asAddr, q3]

theorem mapM_run {α β : Type} {f : α → Sem β} {w : World} : ∀ (l : List α) (l' : List β), (l.length = l'.length) → (∀ (k : Nat) a b, l[k]? = some a → l'[k]? = some b → (f a).run P w = .ok b w) → (l.mapM f).run P w = .ok l' w
  | [], [], _, _ => by simp
  | [], _ :: _, h, _ => by simp at h
  | _ :: _, [], h, _ => by simp at h
  | a :: l, b :: l', h, hf => by
    rw [List.mapM_cons, run_bind (hf 0 a b rfl rfl), run_bind (mapM_run l l' (by simpa using h) fun k x y hx hy => hf (k + 1) x y (by simpa using hx) (by simpa using hy))]
    simp

theorem mapX_get {α β : Type} {f : α → Option β} : ∀ {l : List α} {bs : List β}, mapX f l = some bs → bs.length = l.length ∧ ∀ (k : Nat) b, bs[k]? = some b → ∃ a, l[k]? = some a ∧ f a = some b
  | [], bs, h => by rw [mapX_nil] at h; cases h; exact ⟨rfl, fun k b hk => by simp at hk⟩
  | a :: l, bs, h => by
    rw [mapX_cons] at h
    obtain ⟨b, h1, h⟩ := ob_eq.1 h
    obtain ⟨q, h2, h⟩ := ob_eq.1 h
    cases h
    obtain ⟨i1, i2⟩ := mapX_get h2
    refine ⟨by simp [i1], fun k b' hk => ?_⟩
    cases k with
    | zero => have : b = b' := by simpa using hk
              subst this; exact ⟨a, rfl, h1⟩
    | succ k => simpa using i2 k b' (by simpa using hk)

theorem packA_ren {ι : Inj} {vs : List AVal} {cvs : List Value} (h : renL ι vs = some cvs) : ren ι (packA vs) = some (if h : cvs.toArray.size = 1 then cvs.toArray[0] else .tuple cvs.toArray) := by
  cases vs with
  | nil => rw [renL_nil] at h; subst h; simp [packA, ren]; rfl
  | cons v vs =>
    obtain ⟨c, cs, h1, h2, rfl⟩ := renL_cons.1 h
    cases vs with
    | nil => rw [renL_nil] at h2; subst h2; simp [packA, h1]
    | cons u us =>
      obtain ⟨c2, cs2, h3, h4, rfl⟩ := renL_cons.1 h2
      have : renL ι (v :: u :: us) = some (c :: c2 :: cs2) := h
      simp only [packA, ren, this, Option.map_some]
      rw [dif_neg (by simp)]

theorem results_s (K : COk C P) {h : H} {e : Env} {ι : Inj} {w : World} {a : Act} {n : Nat} (r : Rel ι h w) (hg : Glob ι) (F : EnvRel ι n e a.tmps) {fn : Func} {vs : List AVal} (hh : resA C e h fn.results.toList = some vs) :
    ∃ vc, ren ι (packA vs) = some vc ∧ (results fn a.tmps).run P w = .ok vc w := by
  obtain ⟨h1, h2⟩ := mapX_get hh
  have hex : ∃ cvs : List Value, renL ι vs = some cvs ∧ ∀ (k : Nat) rv vc, fn.results.toList[k]? = some rv → cvs[k]? = some vc → (rvSem a.tmps rv).run P w = .ok vc w := by
    have gen : ∀ (l : List ResultVar) (vs : List AVal), vs.length = l.length → (∀ (k : Nat) b, vs[k]? = some b → ∃ a, l[k]? = some a ∧ resV C e h a = some b) →
        ∃ cvs : List Value, renL ι vs = some cvs ∧ ∀ (k : Nat) rv vc, l[k]? = some rv → cvs[k]? = some vc → (rvSem a.tmps rv).run P w = .ok vc w := by
      intro l
      induction l with
      | nil => intro vs hl _; have : vs = [] := List.length_eq_zero_iff.1 (by simpa using hl)
               subst this; exact ⟨[], by simp [renL], fun k rv vc hk => by simp at hk⟩
      | cons rv l ih =>
        intro vs hl hv
        cases vs with
        | nil => simp at hl
        | cons v vs =>
          obtain ⟨rv', q1, q2⟩ := hv 0 v rfl
          have : rv = rv' := by simpa using q1
          subst this
          obtain ⟨vc, p1, p2⟩ := resV_s K r hg F q2
          obtain ⟨cvs, i1, i2⟩ := ih vs (by simpa using hl) (fun k b hk => by simpa using hv (k + 1) b (by simpa using hk))
          refine ⟨vc :: cvs, renL_cons.2 ⟨_, _, p1, i1, rfl⟩, fun k rv' vc' hk hc => ?_⟩
          cases k with
          | zero =>
            have e1 : rv = rv' := by simpa using hk
            have e2 : vc = vc' := by simpa using hc
            subst e1 e2; exact p2
          | succ k => exact i2 k rv' vc' (by simpa using hk) (by simpa using hc)
    exact gen _ vs h1 h2
  obtain ⟨cvs, q1, q2⟩ := hex
  refine ⟨_, packA_ren q1, ?_⟩
  have hres : results fn a.tmps = fn.results.mapM (rvSem a.tmps) >>= fun vs => pure (if h : vs.size = 1 then vs[0] else .tuple vs) := by
    unfold results
    congr 2
  rw [hres]
  have hm : (fn.results.mapM (rvSem a.tmps)).run P w = .ok cvs.toArray w := by
    have hcl := renL_length q1
    have := mapM_run (P := P) (w := w) fn.results.toList cvs (by omega) q2
    rw [← Array.toArray_toList (xs := fn.results), List.mapM_toArray]
    simp [this]
  rw [run_bind hm]
  simp

end
end Go.Sim
end
section
/- Calls, as a whole. -/
namespace Go.Sim

/-- what the context's functions must be -/
structure FOk (C : Ctx) (P : Program) : Prop where
  fn : ∀ f fn, C.ft.get f = some fn → P.funcs[f]? = some fn ∧ (fn.name == "runtime.NumGoroutine") = false
  mix : P.follows .mixedOrders = true
  ov : ∀ f F, C.ov f = some F → ∀ call, CallSim P call → ∀ args h, (match F call args h with
    | .bad => True
    | .ok v h' => ∀ ι w cargs, Rel ι h w → Glob ι → renL ι args = some cargs → ∀ c cs, ∃ ι' w' vc, Went ι h w ι' h' w' ∧ ren ι' v = some vc ∧
        Steps P (lone (Frame.enter P f cargs.toArray .normal) (c :: cs) w) (lone (c.finish vc) cs w')
    | .pan ch h' => ∀ ι w cargs, Rel ι h w → Glob ι → renL ι args = some cargs → ∀ c cs, ∃ ι' w' chain, Went ι h w ι' h' w' ∧ ChainRel ι' ch chain ∧
        Steps P (lone (Frame.enter P f cargs.toArray .normal) (c :: cs) w) (lone (c.raise chain) cs w')) ∧
    (F call args h ≠ .bad → ∀ cargs w, (callFunc f cargs).run P w = .ok (.enter f cargs) w)

section
variable {P : Program} {fr : Frame} {cs : List Frame} {w w1 : World} {c : Frame}

theorem step_coll {d : Deferred} {ds : List Deferred} {B : Nat} (hm : fr.mode ≠ .run) (hd : fr.defers = d :: ds) (ht : d.target = .collected B) (hr : (Instr.takeDeferred B).run P w = .ok [] w1) :
    step P (lone fr cs w) = .next (lone { fr with defers := ds } cs w1) := by
  obtain ⟨t, args⟩ := d
  simp only at ht
  subst ht
  refine step_lone_go ?_
  cases hm' : fr.mode with
  | run => exact absurd hm' hm
  | returning => simp [stepG, unwind, hm', hd, Sem.runT_eq, hr]
  | panicking ch => simp [stepG, unwind, hm', hd, Sem.runT_eq, hr]

theorem step_defer {d : Deferred} {ds : List Deferred} {f : FuncId} {cap : Array Value} (hm : fr.mode ≠ .run) (hd : fr.defers = d :: ds) (ht : d.target = .fn (.func f) cap) (hr : (callFunc f (d.args ++ cap)).run P w = .ok (.enter f (d.args ++ cap)) w) :
    step P (lone fr cs w) = .next (lone (Frame.enter P f (d.args ++ cap) .deferred) ({ fr with defers := ds } :: cs) w) := by
  obtain ⟨t, args⟩ := d
  simp only at ht
  subst ht
  refine step_lone_go ?_
  cases hm' : fr.mode with
  | run => exact absurd hm' hm
  | returning => simp [stepG, unwind, callDeferred, hm', hd, Sem.runT_eq, invoke, hr]
  | panicking ch => simp [stepG, unwind, callDeferred, hm', hd, Sem.runT_eq, invoke, hr]

/-- the caller behind a deferred call that returned -/
def settle (m : FrameMode) : FrameMode :=
  match m with
  | .panicking ({ recovered := true, .. } :: older) =>
    match older.dropWhile (!·.goexit) with
    | [] => .returning
    | rest => .panicking rest
  | m => m

theorem step_ret_deferred {fn : Func} {v : Value} (hm : fr.mode = .returning) (hd : fr.defers = []) (hk : fr.kind = .deferred) (hf : P.funcs[fr.fn]? = some fn) (hr : (results fn fr.tmps).run P w = .ok v w) :
    step P (lone fr (c :: cs) w) = .next (lone { c with mode := settle c.mode } cs w) := by
  refine step_lone_go ?_
  simp only [stepG, unwind, doReturn, hm, hd, hk, hf, Sem.runT_eq, hr, GStep.bare_after]
  unfold settle
  split
  · rename_i older _
    cases hdw : older.dropWhile (!·.goexit) <;> simp_all
  · cases c; simp_all

theorem step_ret_normal {fn : Func} {v : Value} (hm : fr.mode = .returning) (hd : fr.defers = []) (hk : fr.kind = .normal) (hf : P.funcs[fr.fn]? = some fn) (hr : (results fn fr.tmps).run P w = .ok v w) :
    step P (lone fr (c :: cs) w) = .next (lone (c.finish v) cs w) :=
  step_lone_go (by simp [stepG, unwind, doReturn, hm, hd, hk, hf, Sem.runT_eq, hr])

theorem step_pan {fn : Func} {chain : List PanicEntry} (hm : fr.mode = .panicking chain) (hd : fr.defers = []) (hf : P.funcs[fr.fn]? = some fn) :
    step P (lone fr (c :: cs) w) = .next (lone (c.raise chain) cs w) :=
  step_lone_go (by simp [stepG, unwind, Frame.catches, hm, hd, hf])

end

section
variable {P : Program} {C : Ctx} {g : G}

theorem ChainRel.noexit {ι : Inj} : ∀ {c : List (AVal × Bool)} {d : List PanicEntry}, ChainRel ι c d → d.dropWhile (!·.goexit) = []
  | [], [], _ => rfl
  | p :: c, q :: d, ⟨r, s⟩ => by
    rw [List.dropWhile_cons]
    have : (!q.goexit) = true := by rw [r.2.2]; rfl
    rw [if_pos this]
    exact s.noexit
  | [], _ :: _, r => r.elim
  | _ :: _, [], r => r.elim

theorem settle_s {ι : Inj} {m : AMode} {u : FrameMode} (h : ModeRel ι m u) : ModeRel ι (settleA m) (settle u) := by
  cases m with
  | ret =>
    have h : u = .returning := h
    subst h; rfl
  | pan c =>
    obtain ⟨d, rfl, h2⟩ := h
    cases c with
    | nil =>
      cases d with
      | nil => exact ⟨[], rfl, trivial⟩
      | cons q d => exact h2.elim
    | cons p c =>
      cases d with
      | nil => exact h2.elim
      | cons q d =>
        obtain ⟨⟨a1, a2, a3⟩, b1⟩ := h2
        obtain ⟨v, rb⟩ := p
        obtain ⟨qv, qr, qg⟩ := q
        simp only at a1 a2 a3
        subst a2 a3
        cases qr with
        | true =>
          have := b1.noexit
          show (settle (.panicking ({ v := qv, recovered := true, goexit := false } :: d))) = .returning
          unfold settle
          simp only [this]
        | false => exact ⟨_, rfl, ⟨a1, rfl, rfl⟩, b1⟩

theorem raised_s {ι : Inj} {m : AMode} {c : Frame} {ch : List (AVal × Bool)} {chain : List PanicEntry} (h : ModeRel ι m c.mode) (hc : ChainRel ι ch chain) : ∃ u, c.raise chain = { c with mode := u } ∧ ModeRel ι (raisedA m ch) u := by
  cases m with
  | ret =>
    have h : c.mode = .returning := h
    refine ⟨.panicking chain, by simp [Frame.raise, h], chain, rfl, hc⟩
  | pan old =>
    obtain ⟨d, h1, h2⟩ := h
    refine ⟨.panicking (chain ++ d), by simp [Frame.raise, h1], chain ++ d, rfl, ?_⟩
    rw [app_eq]
    exact hc.append h2

theorem bodyA_mk {f : FuncId} {fn : Func} {args : List AVal} {rc : RC} {h : H} {ex : Ex} {x : FX} {e : Env} {h' : H} (hh : bodyA C g f fn args rc h = .mk ex x e h') :
    ∃ c, fn.body = some c ∧ args.length ≤ fn.ntmps ∧ fn.ntmps ≤ 256 ∧ (comp C c).run g ⟨⟨f, fn.ntmps, none⟩, [], rc⟩ (setFrom args 0 (E.empty AVal 4)) h = .mk ex x e h' := by
  unfold bodyA at hh
  cases hb : fn.body with
  | none => rw [hb] at hh; cases hh
  | some c =>
    rw [hb, ox_some, sel_eq, len_eq] at hh
    split at hh
    · rename_i hc
      simp at hc
      exact ⟨c, rfl, hc.1, hc.2, hh⟩
    · cases hh

theorem callFunc_enter {f : FuncId} {fn : Func} {c : Code} (hf : P.funcs[f]? = some fn) (hn : (fn.name == "runtime.NumGoroutine") = false) (hb : fn.body = some c) (args : Array Value) (w : World) : (callFunc f args).run P w = .ok (.enter f args) w := by
  unfold callFunc
  rw [run_bind (run_program P w), hf]
  simp only [hn, hb, Option.isNone_some, Bool.false_eq_true, if_false]
  rfl

/-- a function's body -/
theorem body_s (K : COk C P) (O : FOk C P) (hG : GSim P g) {f : FuncId} {fn : Func} (hft : C.ft.get f = some fn) {args : List AVal} {rc : RC} {h : H} {ex : Ex} {x : FX} {e : Env} {h' : H} (hh : bodyA C g f fn args rc h = .mk ex x e h')
    {ι : Inj} {w : World} {cargs : List Value} (r : Rel ι h w) (hg : Glob ι) (ha : renL ι args = some cargs) {kind : CallKind} {cs : List Frame} (hrc : RcRel ι (fbase f kind) cs rc) :
    ∃ ι' w' a' cs', Went ι h w ι' h' w' ∧ FrRel ι' x e (fbase f kind) a' cs' ∧ Callers (fbase f kind) cs cs' ∧ x.s = ⟨f, fn.ntmps, none⟩ ∧ (∀ args' w', (callFunc f args').run P w' = .ok (.enter f args') w') ∧
      Arr P (lone (Frame.enter P f cargs.toArray kind) cs w) (fbase f kind) [] cs' ι' a' w' ex := by
  obtain ⟨c, hb, h1, h2, hrun⟩ := bodyA_mk hh
  obtain ⟨hf, hn⟩ := O.fn f fn hft
  have F : FrRel ι ⟨⟨f, fn.ntmps, none⟩, [], rc⟩ (setFrom args 0 (E.empty AVal 4)) (fbase f kind) { tmps := cargs.toArray ++ Array.replicate (fn.ntmps - cargs.toArray.size) undef, defers := [] } cs :=
    ⟨rfl, rfl, enter_env ha h1 h2, trivial, hrc⟩
  obtain ⟨ι', w', a', cs', W, F', L, S, A⟩ := (comp_c K hG O.mix c _ _ _).out hrun ι w (fbase f kind) _ [] cs r hg F
  refine ⟨ι', w', a', cs', W, F', L, S, fun args' w' => callFunc_enter hf hn hb args' w', ?_⟩
  rw [enter_frame hf hb]
  exact A

theorem run_takeDeferred {w : World} {B : Nat} (h : w.heap[B]? = some (.deferred (some []))) : (Instr.takeDeferred B).run P w = .ok [] { w with heap := w.heap.setIfInBounds B (.deferred none) } := by
  unfold Instr.takeDeferred
  rw [run_bind (run_getObj h (by simp))]
  simp only
  rw [run_bind (run_setObj h (by simp))]
  rfl

theorem ModeRel.ne_run {ι : Inj} {m : AMode} {u : FrameMode} (h : ModeRel ι m u) : u ≠ .run := by
  cases m with
  | ret => have h : u = .returning := h; subst h; simp
  | pan c => obtain ⟨d, rfl, _⟩ := h; simp

theorem unwindA_nil {m : AMode} {h : H} : unwindA C g [] m h = .mk m h := rfl
theorem unwindA_coll {r : Nat} {l : List AD} {m : AMode} {h : H} : unwindA C g (.coll r :: l) m h = match h.get r with | some .dfd => unwindA C g l m (h.setO r .dead) | _ => .bad := rfl
theorem unwindA_call {f : FuncId} {args : List AVal} {l : List AD} {m : AMode} {h : H} : unwindA C g (.call f args :: l) m h = oe (C.ft.get f) .bad (fun fn => dfrEnd C fn (unwindA C g l) (bodyA C g f fn args (.dfr m) h)) := rfl

/-- the end of a body whose frame has no deferred calls left -/
theorem arr_leave {b : Frame} {a : Act} {k : List Item} {cs : List Frame} {ι : Inj} {w : World} {ex : Ex} {m : Machine} (hb : b.roundOf = none) (A : Arr P m b [] cs ι a w ex) {am : AMode} (hm : modeOf ex = some am) :
    ∃ todo u, ModeRel ι am u ∧ Steps P m (lone { b.atR a todo with mode := u } cs w) := by
  cases ex with
  | normal => cases hm; exact ⟨[], .returning, rfl, Steps.trans A (.one (stepR_end hb))⟩
  | ret =>
    cases hm
    obtain ⟨k', q⟩ := A
    exact ⟨_, .returning, rfl, Steps.trans q (.one (stepR_ret hb))⟩
  | panic c =>
    cases hm
    obtain ⟨todo, chain, q1, q2⟩ := A
    exact ⟨todo, .panicking chain, ⟨chain, rfl, q1⟩, q2⟩
  | exit id => cases hm

/-- the deferred calls of a frame -/
theorem unwind_s (K : COk C P) (O : FOk C P) (hG : GSim P g) : ∀ (l : List AD) (m : AMode) (h : H) (m2 : AMode) (h2 : H), unwindA C g l m h = .mk m2 h2 → ∀ ι w (fr : Frame) (cs : List Frame), Rel ι h w → Glob ι → DsRel ι l fr.defers → ModeRel ι m fr.mode →
    ∃ ι' w' u', Went ι h w ι' h2 w' ∧ ModeRel ι' m2 u' ∧ Steps P (lone fr cs w) (lone { fr with defers := [], mode := u' } cs w')
  | [], m, h, m2, h2, hu, ι, w, fr, cs, r, hg, D, M => by
    rw [unwindA_nil] at hu; cases hu
    cases hd : fr.defers with
    | cons d ds => rw [hd] at D; exact D.elim
    | nil =>
      refine ⟨ι, w, fr.mode, Went.refl r, M, ?_⟩
      have : ({ fr with defers := [], mode := fr.mode } : Frame) = fr := by cases fr; simp_all
      rw [this]
      exact Steps.refl _ _
  | .coll rr :: l, m, h, m2, h2, hu, ι, w, fr, cs, r, hg, D, M => by
    rw [unwindA_coll] at hu
    split at hu
    · rename_i hget
      cases hd : fr.defers with
      | nil => rw [hd] at D; exact D.elim
      | cons d ds =>
        rw [hd] at D
        obtain ⟨⟨j, hj, ht⟩, Ds⟩ := D
        obtain ⟨_, ob, o1, o2⟩ := r.dom rr j hj
        rw [hget] at o1; cases o1
        have o2 : w.heap[j.B]? = some (.deferred (some [])) := o2
        have W := Went.set (ob' := .dead) (co := .deferred none) r hj hget (by simp) (by simp) (by simp) (fun _ _ _ => trivial)
        obtain ⟨ι', w', u', W2, M2, st⟩ := unwind_s K O hG l m _ m2 h2 hu ι _ { fr with defers := ds } cs W.rel hg Ds M
        exact ⟨ι', w', u', W.trans W2, M2, .head (step_coll M.ne_run hd ht (run_takeDeferred o2)) st⟩
    · cases hu
  | .call f args :: l, m, h, m2, h2, hu, ι, w, fr, cs, r, hg, D, M => by
    rw [unwindA_call] at hu
    cases hft : C.ft.get f with
    | none => rw [hft] at hu; cases hu
    | some fn =>
      rw [hft, oe_some] at hu
      cases hd : fr.defers with
      | nil => rw [hd] at D; exact D.elim
      | cons d ds =>
        rw [hd] at D
        obtain ⟨⟨cap, ht, ha⟩, Ds⟩ := D
        unfold dfrEnd at hu
        split at hu
        · rename_i ex s m1 env h1 hbody
          obtain ⟨ι1, w1, a1, cs1, W1, F1, L1, S1, hent, A1⟩ := body_s K O hG hft hbody r hg ha (kind := .deferred) (cs := { fr with defers := ds } :: cs) ⟨rfl, rfl, _, _, rfl, M⟩
          obtain ⟨hf, hn⟩ := O.fn f fn hft
          obtain ⟨_, _, c1, rest, hcs, M1⟩ := F1.rc
          have hc1 : ∃ u1, c1 = { fr with defers := ds, mode := u1 } ∧ rest = cs := by
            rcases L1 with L1 | ⟨_, c0, rest', u1, e1, e2⟩
            · rw [L1] at hcs; cases hcs
              exact ⟨fr.mode, rfl, rfl⟩
            · cases e1
              rw [e2] at hcs; cases hcs
              exact ⟨u1, rfl, rfl⟩
          obtain ⟨u1, rfl, rfl⟩ := hc1
          subst hcs
          have hds1 : a1.defers = [] := by
            have := F1.ds
            cases hq : a1.defers with
            | nil => rfl
            | cons q qs => rw [hq] at this; exact this.elim
          have enter_ : Steps P (lone fr rest w) (lone (Frame.enter P f (d.args ++ cap).toList.toArray .deferred) ({ fr with defers := ds } :: rest) w) := by
            rw [Array.toArray_toList]
            exact .one (step_defer M.ne_run hd ht (hent _ _))
          have next_ : ∀ (m3 : AMode) (u3 : FrameMode), ModeRel ι1 m3 u3 → unwindA C g l m3 h1 = .mk m2 h2 → Steps P (lone fr rest w) (lone { fr with defers := ds, mode := u3 } rest w1) →
              ∃ ι' w' u', Went ι h w ι' h2 w' ∧ ModeRel ι' m2 u' ∧ Steps P (lone fr rest w) (lone { fr with defers := [], mode := u' } rest w') := by
            intro m3 u3 M3 hu3 st3
            obtain ⟨ι2, w2, u2, W2, M2, st2⟩ := unwind_s K O hG l m3 h1 m2 h2 hu3 ι1 w1 { fr with defers := ds, mode := u3 } rest W1.rel (hg.ext W1.ext) (Ds.ext W1.ext) M3
            exact ⟨ι2, w2, u2, W1.trans W2, M2, Steps.trans st3 st2⟩
          have ret_ : ∀ am, modeOf ex = some am → am = .ret → oe (resA C env h1 fn.results.toList) (UR.bad) (fun _ => unwindA C g l (settleA m1) h1) = .mk m2 h2 →
              ∃ ι' w' u', Went ι h w ι' h2 w' ∧ ModeRel ι' m2 u' ∧ Steps P (lone fr rest w) (lone { fr with defers := [], mode := u' } rest w') := by
            rintro am hmo rfl hu3
            obtain ⟨todo, u, Mu, st⟩ := arr_leave (k := []) rfl A1 hmo
            have Mu : u = .returning := Mu
            subst Mu
            cases hres : resA C env h1 fn.results.toList with
            | none => rw [hres] at hu3; cases hu3
            | some vs =>
              rw [hres, oe_some] at hu3
              obtain ⟨vc, _, hrun⟩ := results_s K W1.rel (hg.ext W1.ext) F1.env hres
              exact next_ _ _ (settle_s M1) hu3 (Steps.trans enter_ (Steps.trans st (.one (step_ret_deferred rfl hds1 rfl hf hrun))))
          cases ex with
          | normal => exact ret_ _ rfl rfl hu
          | ret => exact ret_ _ rfl rfl hu
          | panic ch =>
            obtain ⟨todo, chain, q1, q2⟩ := A1
            obtain ⟨u3, e3, M3⟩ := raised_s (c := { fr with defers := ds, mode := u1 }) M1 q1
            have : step P (lone { (fbase f .deferred).atR a1 todo with mode := .panicking chain } ({ fr with defers := ds, mode := u1 } :: rest) w1) = .next (lone { fr with defers := ds, mode := u3 } rest w1) := by
              rw [step_pan rfl hds1 hf, e3]
            exact next_ _ _ M3 hu (Steps.trans enter_ (Steps.trans q2 (.one this)))
          | exit id => cases hu
        · cases hu

/-- A CALL. -/
theorem callB_s (K : COk C P) (O : FOk C P) (hG : GSim P g) (f : FuncId) (args : List AVal) (h : H) : (match callB C g f args h with
    | .bad => True
    | .ok v h' => ∀ ι w cargs, Rel ι h w → Glob ι → renL ι args = some cargs → ∀ c cs, ∃ ι' w' vc, Went ι h w ι' h' w' ∧ ren ι' v = some vc ∧
        Steps P (lone (Frame.enter P f cargs.toArray .normal) (c :: cs) w) (lone (c.finish vc) cs w')
    | .pan ch h' => ∀ ι w cargs, Rel ι h w → Glob ι → renL ι args = some cargs → ∀ c cs, ∃ ι' w' chain, Went ι h w ι' h' w' ∧ ChainRel ι' ch chain ∧
        Steps P (lone (Frame.enter P f cargs.toArray .normal) (c :: cs) w) (lone (c.raise chain) cs w')) := by
  cases hft : C.ft.get f with
  | none =>
    have : callB C g f args h = .bad := by unfold callB; rw [hft]
    rw [this]; trivial
  | some fn =>
    obtain ⟨hf, hn⟩ := O.fn f fn hft
    have e0 : callB C g f args h = bodyEnd C g fn (bodyA C g f fn args .nrm h) := by unfold callB; rw [hft]
    rw [e0]
    cases hbody : bodyA C g f fn args .nrm h with
    | bad => trivial
    | mk ex x env h1 =>
      obtain ⟨s, ds, rc⟩ := x
      cases rc with
      | dfr m => trivial
      | nrm =>
        have e1 : bodyEnd C g fn (.mk ex ⟨s, ds, .nrm⟩ env h1) = oe (modeOf ex) .bad (fun m => urEnd C env fn.results.toList (unwindA C g ds m h1)) := rfl
        rw [e1]
        cases hmo : modeOf ex with
        | none => trivial
        | some m =>
          rw [oe_some]
          cases hun : unwindA C g ds m h1 with
          | bad => trivial
          | mk m2 h2 =>
            -- the run
            have run_ : ∀ ι w cargs, Rel ι h w → Glob ι → renL ι args = some cargs → ∀ c cs, ∃ ι' w' a' todo u', Went ι h w ι' h2 w' ∧ ModeRel ι' m2 u' ∧ EnvRel ι' s.n env a'.tmps ∧ Glob ι' ∧
                Steps P (lone (Frame.enter P f cargs.toArray .normal) (c :: cs) w) (lone { (fbase f .normal).atR a' todo with defers := [], mode := u' } (c :: cs) w') := by
              intro ι w cargs r hg ha c cs
              obtain ⟨ι1, w1, a1, cs1, W1, F1, L1, S1, _, A1⟩ := body_s K O hG hft hbody r hg ha (kind := .normal) (cs := c :: cs) rfl
              have := Callers.normal rfl L1
              subst this
              obtain ⟨todo, u, Mu, st⟩ := arr_leave (k := []) rfl A1 hmo
              obtain ⟨ι2, w2, u2, W2, M2, st2⟩ := unwind_s K O hG ds m h1 m2 h2 hun ι1 w1 { (fbase f .normal).atR a1 todo with mode := u } (c :: cs) W1.rel (hg.ext W1.ext) F1.ds Mu
              exact ⟨ι2, w2, a1, todo, u2, W1.trans W2, M2, EnvRel.ext W2.ext F1.env, (hg.ext W1.ext).ext W2.ext, Steps.trans st st2⟩
            cases m2 with
            | ret =>
              have e2 : urEnd C env fn.results.toList (.mk .ret h2) = oe (resA C env h2 fn.results.toList) .bad (fun vs => .ok (packA vs) h2) := rfl
              rw [e2]
              cases hres : resA C env h2 fn.results.toList with
              | none => trivial
              | some vs =>
                rw [oe_some]
                intro ι w cargs r hg ha c cs
                obtain ⟨ι', w', a', todo, u', W, M, E, G', st⟩ := run_ ι w cargs r hg ha c cs
                have M : u' = .returning := M
                subst M
                obtain ⟨vc, v1, v2⟩ := results_s K W.rel G' E hres
                exact ⟨ι', w', vc, W, v1, Steps.trans st (.one (step_ret_normal rfl rfl rfl hf v2))⟩
            | pan ch =>
              have e2 : urEnd C env fn.results.toList (.mk (.pan ch) h2) = .pan ch h2 := rfl
              rw [e2]
              intro ι w cargs r hg ha c cs
              obtain ⟨ι', w', a', todo, u', W, M, E, G', st⟩ := run_ ι w cargs r hg ha c cs
              obtain ⟨chain, rfl, hc⟩ := M
              exact ⟨ι', w', chain, W, hc, Steps.trans st (.one (step_pan rfl rfl hf))⟩

theorem callB_enters (O : FOk C P) {f : FuncId} {args : List AVal} {h : H} (hne : callB C g f args h ≠ .bad) (cargs : Array Value) (w : World) : (callFunc f cargs).run P w = .ok (.enter f cargs) w := by
  cases hft : C.ft.get f with
  | none => exact absurd (by unfold callB; rw [hft]) hne
  | some fn =>
    obtain ⟨hf, hn⟩ := O.fn f fn hft
    have e0 : callB C g f args h = bodyEnd C g fn (bodyA C g f fn args .nrm h) := by unfold callB; rw [hft]
    rw [e0] at hne
    cases hbody : bodyA C g f fn args .nrm h with
    | bad => rw [hbody] at hne; exact absurd rfl hne
    | mk ex x env h1 =>
      obtain ⟨c, hb, _⟩ := bodyA_mk hbody
      exact callFunc_enter hf hn hb cargs w

/-- ALL CALLS, TO ANY DEPTH. -/
theorem gN_s (K : COk C P) (O : FOk C P) (fuel : Nat) : ∀ d, GSim P (gN C fuel d)
  | 0 => ⟨fun _ _ _ => trivial, fun f args h hne => absurd rfl hne, fun _ _ _ _ => trivial⟩
  | d + 1 => by
    have ih := gN_s K O fuel d
    have e1 : gN C fuel (d + 1) = ⟨fuel, fun f args h => oe (C.ov f) (callB C (gN C fuel d) f args h) (fun F => F (gN C fuel d).call args h), fun c => (comp C c).run (gN C fuel d)⟩ := rfl
    rw [e1]
    refine ⟨fun f args h => ?_, fun f args h hne cargs w => ?_, fun c x e h => comp_c K ih O.mix c x e h⟩
    · simp only
      cases hov : C.ov f with
      | none => rw [oe_none]; exact callB_s K O ih f args h
      | some F => rw [oe_some]; exact (O.ov f F hov _ ih.call args h).1
    · simp only at hne
      cases hov : C.ov f with
      | none => rw [hov, oe_none] at hne; exact callB_enters O hne cargs w
      | some F => rw [hov, oe_some] at hne; exact (O.ov f F hov _ ih.call args h).2 hne cargs w

end
end Go.Sim
end
section
/- Tables: types, and the equality of structs all of whose cells are integers, strings or booleans. -/
namespace Go.Sim

section
variable {P : Program}

/-! ### Types -/

/-- is a type's row of the kind that the executor takes? -/
noncomputable def tyChk1 (P : Program) (i : TypeInfo) : Bool :=
  (match i.desc with
    | .named _ u => (P.info? u).isSome
    | _ => true) &&
  (match (mkTI P i).zero, i.zero with
    | some _, some (.agg _) => aggD (mkTI P i).desc
    | some _, some _ => !aggD (mkTI P i).desc
    | _, _ => true)

theorem mkTI_ok {t : TypeId} {i : TypeInfo} (hi : P.info? t = some i) (hc : tyChk1 P i = true) : TyOk P t (mkTI P i) := by
  unfold tyChk1 at hc
  rw [Bool.and_eq_true] at hc
  obtain ⟨h1, h2⟩ := hc
  constructor
  · unfold Program.underlying
    rw [hi]
    obtain ⟨desc, str, size, bytes, hp, al, fa, zero, cmp, meths⟩ := i
    cases desc with
    | named n u =>
      simp only at h1
      cases hu : P.info? u with
      | none => rw [hu] at h1; cases h1
      | some j => simp [mkTI, hu]
    | _ => rfl
  · refine ⟨i, hi, rfl, rfl, rfl, fun z hz => ?_⟩
    have hz' : (match i.zero with
      | some z => ob (mapX cS z.cells.toList) (fun as => sel (Nat.beq (len as) i.size) (some as) none)
      | none => none) = some z := hz
    split at hz'
    · rename_i zv hzv
      obtain ⟨as, q1, q2⟩ := ob_eq.1 hz'
      rw [natBeq, len_eq, sel_eq] at q2
      split at q2
      · rename_i hl
        cases q2
        refine ⟨zv, hzv, q1, by simpa [mkTI] using hl, fun ha => ?_, fun ha cs hcs => ?_⟩
        · rw [hz, hzv] at h2
          cases zv with
          | agg cs => exact ⟨cs, rfl⟩
          | _ => simp only at h2; rw [ha] at h2; cases h2
        · subst hcs
          rw [hz, hzv] at h2
          simp only at h2; rw [ha] at h2; cases h2
      · cases q2
    · cases hz'

/-! ### Flat types -/

def flatFs (P : Program) (f : TypeId → Option (List Nat)) : List Field → Nat → Option (List Nat)
  | [], _ => some []
  | fd :: r, off =>
    if fd.name = "_" ∨ fd.offset ≠ off then none else
    match f fd.type, P.info? fd.type with
    | some ks, some i => if i.size = ks.length then (flatFs P f r (off + ks.length)).map (ks ++ ·) else none
    | _, _ => none

def flatT (P : Program) : Nat → TypeId → Option (List Nat)
  | 0, _ => none
  | d + 1, t => match P.underlying t with
    | some (.int _) => some [0]
    | some .string => some [1]
    | some .bool => some [2]
    | some (.struct fs) => if P.stoodInHeld t then none else flatFs P (flatT P d) fs.toList 0
    | _ => none

theorem eqLn {ys : List AVal} : eqL [] ys = (match ys with | [] => some true | _ => none) := by cases ys <;> rfl
theorem eqLc {x : AVal} {xs ys : List AVal} : eqL (x :: xs) ys = (match ys with | [] => none | y :: r => ob (eqS x y) (fun q => sel q (eqL xs r) (some false))) := by cases ys <;> rfl

theorem eqL_split : ∀ (a c ys : List AVal) {b : Bool}, eqL (a ++ c) ys = some b → (eqL a (ys.take a.length) = some false ∧ b = false) ∨ (eqL a (ys.take a.length) = some true ∧ eqL c (ys.drop a.length) = some b ∧ a.length ≤ ys.length)
  | [], c, ys, b, h => .inr ⟨by simp [eqLn], by simpa using h, by simp⟩
  | x :: a, c, [], b, h => by rw [List.cons_append, eqLc] at h; cases h
  | x :: a, c, y :: ys, b, h => by
    rw [List.cons_append, eqLc] at h
    obtain ⟨q, h1, h⟩ := ob_eq.1 h
    cases q with
    | false =>
      rw [sel_false] at h; cases h
      exact .inl ⟨by simp [eqLc, h1], rfl⟩
    | true =>
      rw [sel_true] at h
      rcases eqL_split a c ys h with ⟨p1, p2⟩ | ⟨p1, p2, p3⟩
      · exact .inl ⟨by simp [eqLc, h1, p1], p2⟩
      · exact .inr ⟨by simp [eqLc, h1, p1], by simpa using p2, by simpa using p3⟩

theorem fitK_nil {l : List AVal} : fitK [] l = (match l with | [] => true | _ => false) := by cases l <;> rfl
theorem fitK_cons {k : Nat} {ks : List Nat} {l : List AVal} : fitK (k :: ks) l = (match l with | [] => false | v :: r => sel (kindIs k v) (fitK ks r) false) := by cases l <;> rfl

theorem fitK_split : ∀ (a c : List Nat) (l : List AVal), fitK (a ++ c) l = true → fitK a (l.take a.length) = true ∧ fitK c (l.drop a.length) = true ∧ a.length ≤ l.length
  | [], c, l, h => ⟨by simp [fitK_nil], by simpa using h, by simp⟩
  | k :: a, c, [], h => by rw [List.cons_append, fitK_cons] at h; cases h
  | k :: a, c, v :: l, h => by
    rw [List.cons_append, fitK_cons] at h
    simp only [sel_eq] at h
    split at h
    · rename_i hk
      obtain ⟨h1, h2, h3⟩ := fitK_split a c l h
      exact ⟨by simp [fitK_cons, hk, h1], by simpa using h2, by simpa using h3⟩
    · cases h

theorem fitK_length : ∀ (ks : List Nat) (l : List AVal), fitK ks l = true → l.length = ks.length
  | [], [], _ => rfl
  | [], _ :: _, h => by rw [fitK_nil] at h; cases h
  | k :: ks, [], h => by rw [fitK_cons] at h; cases h
  | k :: ks, v :: l, h => by
    rw [fitK_cons] at h
    simp only [sel_eq] at h
    split at h
    · simp [fitK_length ks l h]
    · cases h

/-- a value of a flat type, by its cells -/
def cellsV (P : Program) (t : TypeId) (vs : List Value) (v : Value) : Prop :=
  match P.underlying t with
  | some (.struct _) => v = .agg vs.toArray
  | _ => vs[0]? = some v

theorem run_partF {t : TypeId} {i : TypeInfo} {cs : Array Value} {off : Nat} {vs : List Value} {v : Value} (w : World) (hd : ∃ d, P.underlying t = some d ∧ (∀ n e, d ≠ .array n e)) (hi : P.info? t = some i) (hv : cellsV P t vs v) (hc : (cs.toList.drop off).take i.size = vs) : (part t cs off).run P w = .ok v w := by
  obtain ⟨d, hd, hna⟩ := hd
  have hu : (underlying t).run P w = .ok d w := by
    unfold underlying
    rw [run_bind (run_program P w)]
    simp [hd]
  unfold part isAgg
  unfold cellsV at hv
  rw [hd] at hv
  cases d with
  | struct fs =>
    simp only at hv
    have hs : (sizeOf t).run P w = .ok i.size w := by
      unfold Go.sizeOf
      rw [run_bind (run_typeInfo hi w)]; simp
    simp only [Sem.run_bind, hu, Result.andThen_ok, Sem.run_pure, if_true, hs]
    rw [hv, ← hc]
    congr 3
    apply Array.ext'
    simp [List.drop_take]
  | array n e => exact absurd rfl (hna n e)
  | _ =>
    simp only at hv
    have : cs[off]? = some v := by
      rw [← hc] at hv
      rw [List.getElem?_take] at hv
      split at hv
      · rw [List.getElem?_drop] at hv; simpa using hv
      · cases hv
    simp [hu, this]

theorem flatT_desc {d : Nat} {t : TypeId} {ks : List Nat} (h : flatT P d t = some ks) : ∃ dd, P.underlying t = some dd ∧ (∀ n e, dd ≠ .array n e) := by
  cases d with
  | zero => cases h
  | succ d =>
    simp only [flatT] at h
    cases hu : P.underlying t with
    | none => rw [hu] at h; cases h
    | some dd =>
      refine ⟨dd, rfl, ?_⟩
      rintro n e rfl
      rw [hu] at h; cases h

theorem cellsV_ex {d : Nat} {t : TypeId} {ks : List Nat} (h : flatT P d t = some ks) {vs : List Value} (hl : vs.length = ks.length) : ∃ v, cellsV P t vs v := by
  cases d with
  | zero => cases h
  | succ d =>
    simp only [flatT] at h
    unfold cellsV
    cases hu : P.underlying t with
    | none => rw [hu] at h; cases h
    | some dd =>
      rw [hu] at h
      cases dd with
      | struct fs => exact ⟨_, rfl⟩
      | int k => cases h; exact ⟨vs[0]'(by rw [hl]; simp), List.getElem?_eq_getElem (by rw [hl]; simp)⟩
      | string => cases h; exact ⟨vs[0]'(by rw [hl]; simp), List.getElem?_eq_getElem (by rw [hl]; simp)⟩
      | bool => cases h; exact ⟨vs[0]'(by rw [hl]; simp), List.getElem?_eq_getElem (by rw [hl]; simp)⟩
      | _ => cases h

theorem bytes_eq (a b : List UInt8) : ((⟨a.toArray⟩ : ByteArray) == ⟨b.toArray⟩) = (a == b) := by
  rw [beq_toListBytes, ByteArray.toList_eq, ByteArray.toList_eq]

/-- one cell -/
theorem equal_cell {t : TypeId} {k : Nat} {x y : AVal} {q : Bool} {xc yc : Value} {ι : Inj} (hk : kindIs k x = true) (he : eqS x y = some q) (hx : ren ι x = some xc) (hy : ren ι y = some yc)
    (hd : (∃ kd, P.underlying t = some (.int kd) ∧ k = 0) ∨ (P.underlying t = some .string ∧ k = 1) ∨ (P.underlying t = some .bool ∧ k = 2)) (D : Nat) (w : World) : (Op.equalIn (D + 1) t xc yc).run P w = .ok q w := by
  have hu : ∀ d, P.underlying t = some d → (underlying t).run P w = .ok d w := fun d hd => by
    unfold underlying
    rw [run_bind (run_program P w)]
    simp [hd]
  rcases hd with ⟨kd, hd, rfl⟩ | ⟨hd, rfl⟩ | ⟨hd, rfl⟩
  · cases x with
    | int a n =>
      cases y with
      | int b n2 =>
        simp only [eqS, sel_eq] at he
        split at he
        · rename_i hkd
          have := eqKd_true hkd
          subst this
          cases he
          simp [ren] at hx hy
          subst hx hy
          simp only [Op.equalIn, Sem.run_bind, hu _ hd, Result.andThen_ok, if_true, Sem.run_pure, eqI_eq]
          congr 1
        · cases he
      | _ => cases he
    | _ => simp [kindIs] at hk
  · cases x with
    | str a =>
      cases y with
      | str b =>
        simp only [eqS] at he
        cases he
        simp [ren] at hx hy
        subst hx hy
        simp only [Op.equalIn, Sem.run_bind, hu _ hd, Result.andThen_ok, Sem.run_pure, eqB_eq, bytes_eq]
        try (congr 1; by_cases hq : a = b <;> simp [hq])
      | _ => cases he
    | _ => simp [kindIs] at hk
  · cases x with
    | bool a =>
      cases y with
      | bool b =>
        simp only [eqS] at he
        cases he
        simp [ren] at hx hy
        subst hx hy
        simp only [Op.equalIn, Sem.run_bind, hu _ hd, Result.andThen_ok, Sem.run_pure]
      | _ => cases he
    | _ => simp [kindIs] at hk

theorem renL_split {ι : Inj} {l : List AVal} {vs : List Value} (h : renL ι l = some vs) (n : Nat) : renL ι (l.take n) = some (vs.take n) ∧ renL ι (l.drop n) = some (vs.drop n) := ⟨renL_take n h, renL_drop n h⟩

/-- EQUALITY OF FLAT VALUES -/
theorem equal_flat {ι : Inj} (w : World) : ∀ (d : Nat) (t : TypeId) (ks : List Nat), flatT P d t = some ks → ∀ (D : Nat), d ≤ D → ∀ (xs ys : List AVal) (b : Bool) (vx vy : List Value) (xv yv : Value), fitK ks xs = true → eqL xs ys = some b → renL ι xs = some vx → renL ι ys = some vy →
    cellsV P t vx xv → cellsV P t vy yv → (Op.equalIn D t xv yv).run P w = .ok b w := by
  intro d
  induction d with
  | zero => intro t ks h; cases h
  | succ d ih =>
    intro t ks h D hD xs ys b vx vy xv yv hf he hx hy hxv hyv
    obtain ⟨D, rfl⟩ : ∃ D', D = D' + 1 := ⟨D - 1, by omega⟩
    simp only [flatT] at h
    have cell_ : ∀ k, ks = [k] → (vx[0]? = some xv) → (vy[0]? = some yv) → ((∃ kd, P.underlying t = some (.int kd) ∧ k = 0) ∨ (P.underlying t = some .string ∧ k = 1) ∨ (P.underlying t = some .bool ∧ k = 2)) → (Op.equalIn (D + 1) t xv yv).run P w = .ok b w := by
      intro k hks h1 h2 hd
      subst hks
      cases xs with
      | nil => rw [fitK_cons] at hf; cases hf
      | cons x xs =>
        rw [fitK_cons] at hf
        simp only [sel_eq] at hf
        split at hf
        · rename_i hk
          have hnil : xs = [] := by
            cases xs with
            | nil => rfl
            | cons _ _ => rw [fitK_nil] at hf; cases hf
          subst hnil
          rw [eqLc] at he
          cases ys with
          | nil => cases he
          | cons y ys =>
            obtain ⟨q, q1, q2⟩ := ob_eq.1 he
            obtain ⟨a, as, r1, r2, rfl⟩ := renL_cons.1 hx
            obtain ⟨c, cs, r3, r4, rfl⟩ := renL_cons.1 hy
            have e1 : a = xv := by simpa using h1
            have e2 : c = yv := by simpa using h2
            subst e1 e2
            have hq : q = b := by
              cases q with
              | false => simpa using q2
              | true =>
                rw [sel_true, eqLn] at q2
                cases ys with
                | nil => simpa using q2
                | cons _ _ => cases q2
            subst hq
            exact equal_cell hk q1 r1 r3 hd D w
        · cases hf
    unfold cellsV at hxv hyv
    cases hu : P.underlying t with
    | none => rw [hu] at h; cases h
    | some dd =>
      rw [hu] at h hxv hyv
      cases dd with
      | int kd => cases h; exact cell_ 0 rfl hxv hyv (.inl ⟨kd, hu, rfl⟩)
      | string => cases h; exact cell_ 1 rfl hxv hyv (.inr (.inl ⟨hu, rfl⟩))
      | bool => cases h; exact cell_ 2 rfl hxv hyv (.inr (.inr ⟨hu, rfl⟩))
      | struct fs =>
        simp only at h hxv hyv
        subst hxv hyv
        split at h
        · cases h
        · rename_i hst
          have hfo : P.fieldsOf t = fs := by simp [Program.fieldsOf, hu]
          rw [run_equalIn_struct w D t _ _ (by rw [hfo]; exact hu) (by simpa using hst), hfo]
          -- the fields, one by one
          have key : ∀ (l : List Field) (off : Nat) (ks : List Nat), flatFs P (flatT P d) l off = some ks → fitK ks (xs.drop off) = true → eqL (xs.drop off) (ys.drop off) = some b →
              (Op.eqFields D vx.toArray vy.toArray l).run P w = .ok b w := by
            intro l
            induction l with
            | nil =>
              intro off ks hfs hf2 he2
              simp only [flatFs] at hfs; cases hfs
              have hn : xs.drop off = [] := by
                cases hq : xs.drop off with
                | nil => rfl
                | cons _ _ => rw [hq, fitK_nil] at hf2; cases hf2
              rw [hn, eqLn] at he2
              have hb : b = true := by
                cases hq : ys.drop off with
                | nil => rw [hq] at he2; simpa using he2.symm
                | cons _ _ => rw [hq] at he2; cases he2
              subst hb
              simp [Op.eqFields]
            | cons f l ihl =>
              intro off ks hfs hf2 he2
              simp only [flatFs] at hfs
              split at hfs
              · cases hfs
              · rename_i hno
                have hno := not_or.1 hno
                have hname : f.name ≠ "_" := hno.1
                have hoff : f.offset = off := Decidable.byContradiction hno.2
                cases hk1 : flatT P d f.type with
                | none => rw [hk1] at hfs; cases hfs
                | some k1 =>
                  cases hi : P.info? f.type with
                  | none => rw [hk1, hi] at hfs; cases hfs
                  | some i =>
                    rw [hk1, hi] at hfs
                    simp only at hfs
                    split at hfs
                    · rename_i hsz
                      cases hr : flatFs P (flatT P d) l (off + k1.length) with
                      | none => rw [hr] at hfs; cases hfs
                      | some k2 =>
                        rw [hr] at hfs
                        simp at hfs
                        subst hfs
                        obtain ⟨f1, f2, f3⟩ := fitK_split k1 k2 _ hf2
                        have hxl := fitK_length _ _ f1
                        have hxsp : xs.drop off = (xs.drop off).take k1.length ++ (xs.drop off).drop k1.length := (List.take_append_drop _ _).symm
                        rw [hxsp] at he2
                        have hlen1 : ((xs.drop off).take k1.length).length = k1.length := hxl
                        have hxr : renL ι ((xs.drop off).take k1.length) = some ((vx.drop off).take k1.length) := renL_take _ (renL_drop _ hx)
                        have hyr : renL ι ((ys.drop off).take k1.length) = some ((vy.drop off).take k1.length) := renL_take _ (renL_drop _ hy)
                        have hvxl : ((vx.drop off).take k1.length).length = k1.length := by rw [renL_length hxr, hlen1]
                        obtain ⟨xf, hxf⟩ := cellsV_ex hk1 hvxl
                        have px := run_partF (P := P) (cs := vx.toArray) (off := off) w (flatT_desc hk1) hi hxf (by simp [hsz])
                        simp only [Op.eqFields, hname, ne_eq, not_false_eq_true, if_true, Sem.run_bind, hoff, px, Result.andThen_ok]
                        rcases eqL_split _ _ _ he2 with ⟨e1, e2⟩ | ⟨e1, e2, e3⟩
                        · rw [hlen1] at e1
                          -- the other side may be shorter, but not if it parts
                          have hex : ∃ yf, cellsV P f.type ((vy.drop off).take k1.length) yf := by
                            unfold cellsV
                            obtain ⟨dd, hdd, _⟩ := flatT_desc hk1
                            rw [hdd]
                            cases dd with
                            | struct _ => exact ⟨_, rfl⟩
                            | _ =>
                              have hne : (ys.drop off).take k1.length ≠ [] := by
                                intro hq
                                rw [hq] at e1
                                cases hxx : (xs.drop off).take k1.length with
                                | nil => rw [hxx, eqLn] at e1; simp at e1
                                | cons _ _ => rw [hxx, eqLc] at e1; cases e1
                              have hl : ((vy.drop off).take k1.length).length ≠ 0 := by
                                rw [renL_length hyr]
                                exact fun hq => hne (List.length_eq_zero_iff.1 hq)
                              exact ⟨((vy.drop off).take k1.length)[0]'(by omega), List.getElem?_eq_getElem _⟩
                          obtain ⟨yf, hyf⟩ := hex
                          have py := run_partF (P := P) (cs := vy.toArray) (off := off) w (flatT_desc hk1) hi hyf (by simp [hsz])
                          have := ih f.type k1 hk1 D (by omega) _ _ false _ _ xf yf f1 e1 hxr hyr hxf hyf
                          simp only [py, this, Result.andThen_ok]
                          simp [e2]
                        · rw [hlen1] at e1 e2 e3
                          have hyl : ((vy.drop off).take k1.length).length = k1.length := by
                            rw [renL_length hyr, List.length_take]; omega
                          obtain ⟨yf, hyf⟩ := cellsV_ex hk1 hyl
                          have py := run_partF (P := P) (cs := vy.toArray) (off := off) w (flatT_desc hk1) hi hyf (by simp [hsz])
                          have := ih f.type k1 hk1 D (by omega) _ _ true _ _ xf yf f1 e1 hxr hyr hxf hyf
                          simp only [py, this, Result.andThen_ok, Bool.not_true, Bool.false_eq_true, if_false]
                          exact ihl (off + k1.length) k2 hr (by rw [← List.drop_drop]; exact f2) (by rw [← List.drop_drop, ← List.drop_drop]; exact e2)
                    · cases hfs
          exact key fs.toList 0 ks h (by simpa using hf) (by simpa using he)
      | _ => cases h

/-- keys of flat types -/
theorem checkKey_flat {ι : Inj} (em : Bool) (w : World) : ∀ (d : Nat) (t : TypeId) (ks : List Nat), flatT P d t = some ks → ∀ (D : Nat), d ≤ D → ∀ (xs : List AVal) (vx : List Value) (xv : Value), fitK ks xs = true → renL ι xs = some vx →
    cellsV P t vx xv → (Instr.checkKey em D t xv).run P w = .ok () w := by
  intro d
  induction d with
  | zero => intro t ks h; cases h
  | succ d ih =>
    intro t ks h D hD xs vx xv hf hx hxv
    obtain ⟨D, rfl⟩ : ∃ D', D = D' + 1 := ⟨D - 1, by omega⟩
    simp only [flatT] at h
    have hrun : ∀ d, P.underlying t = some d → (underlying t).run P w = .ok d w := fun d hd => by
      unfold underlying
      rw [run_bind (run_program P w)]
      simp [hd]
    unfold cellsV at hxv
    cases hu : P.underlying t with
    | none => rw [hu] at h; cases h
    | some dd =>
      rw [hu] at h hxv
      cases dd with
      | int kd => simp [Instr.checkKey, hrun _ hu]
      | string => simp [Instr.checkKey, hrun _ hu]
      | bool => simp [Instr.checkKey, hrun _ hu]
      | struct fs =>
        simp only at h hxv
        subst hxv
        split at h
        · cases h
        · rename_i hst
          simp only [Instr.checkKey, Sem.run_bind, hrun _ hu, Result.andThen_ok]
          rw [← Array.forIn_toList]
          have key : ∀ (l : List Field) (off : Nat) (ks : List Nat), flatFs P (flatT P d) l off = some ks → fitK ks (xs.drop off) = true →
              (forIn l PUnit.unit fun f (_ : PUnit) => (do
                if f.name ≠ "_" then Instr.checkKey em D f.type (← part f.type vx.toArray f.offset)
                pure (ForInStep.yield PUnit.unit) : Sem (ForInStep PUnit))).run P w = .ok PUnit.unit w := by
            intro l
            induction l with
            | nil => intro off ks _ _; simp
            | cons f l ihl =>
              intro off ks hfs hf2
              simp only [flatFs] at hfs
              split at hfs
              · cases hfs
              · rename_i hno
                have hno := not_or.1 hno
                have hname : f.name ≠ "_" := hno.1
                have hoff : f.offset = off := Decidable.byContradiction hno.2
                cases hk1 : flatT P d f.type with
                | none => rw [hk1] at hfs; cases hfs
                | some k1 =>
                  cases hi : P.info? f.type with
                  | none => rw [hk1, hi] at hfs; cases hfs
                  | some i =>
                    rw [hk1, hi] at hfs
                    simp only at hfs
                    split at hfs
                    · rename_i hsz
                      cases hr : flatFs P (flatT P d) l (off + k1.length) with
                      | none => rw [hr] at hfs; cases hfs
                      | some k2 =>
                        rw [hr] at hfs
                        simp at hfs
                        subst hfs
                        obtain ⟨f1, f2, f3⟩ := fitK_split k1 k2 _ hf2
                        have hxl := fitK_length _ _ f1
                        have hxr : renL ι ((xs.drop off).take k1.length) = some ((vx.drop off).take k1.length) := renL_take _ (renL_drop _ hx)
                        obtain ⟨xf, hxf⟩ := cellsV_ex hk1 (vs := (vx.drop off).take k1.length) (by rw [renL_length hxr, hxl])
                        have px := run_partF (P := P) (cs := vx.toArray) (off := off) w (flatT_desc hk1) hi hxf (by simp [hsz])
                        have := ih f.type k1 hk1 D (by omega) _ _ xf f1 hxr hxf
                        simp only [List.forIn_cons, hname, ne_eq, not_false_eq_true, if_true, Sem.run_bind, hoff, px, Result.andThen_ok, this, Sem.run_pure]
                        exact ihl (off + k1.length) k2 hr (by rw [← List.drop_drop]; exact f2)
                    · cases hfs
          have := key fs.toList 0 ks h (by simpa using hf)
          simp only [ne_eq, ite_not] at this ⊢
          first
            | simpa using this
            | (rw [this]; rfl)
      | _ => cases h

theorem eqOk_flat {d : Nat} {t : TypeId} {ks : List Nat} {fs : Array Field} (hs : P.underlying t = some (.struct fs)) (h : flatT P d t = some ks) (hd : d ≤ 10000) (hg : P.eqGuardType P.depth t = false) : EqOk P t ks := by
  have hc : ∀ vs : List Value, cellsV P t vs (.agg vs.toArray) := fun vs => by unfold cellsV; rw [hs]
  exact ⟨hg, fun xs ys b vx vy ι w hf he hx hy => equal_flat (ι := ι) w d t ks h 10000 hd xs ys b vx vy _ _ hf he hx hy (hc _) (hc _),
    fun em xs vx ι w hf hx => checkKey_flat (ι := ι) em w d t ks h 10000 hd xs vx _ hf hx (hc _)⟩

end
end Go.Sim
end
