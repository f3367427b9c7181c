/- Maps: keys, lookups. -/
import Derived.Test.YtakbgbnnocmaiaaGreatDoorSd
import Derived.Laws.StructEq
set_option linter.all false
section
namespace Go.Sim

section
variable {P : Program} {C : Ctx} {o : Oper} {x : FX} {e : Env} {h : H} {g : G}

theorem findE_nil (q : AVal) : findE q [] = some none := rfl
theorem findE_cons (q : AVal) (p : AVal × AVal) (l : List (AVal × AVal)) : findE q (p :: l) = ob (eqK q p.1) (fun b => sel b (some (some p.2)) (findE q l)) := rfl
theorem putE_nil (q v : AVal) : putE' q v [] = none := rfl
theorem putE_cons (q v : AVal) (p : AVal × AVal) (l : List (AVal × AVal)) : putE' q v (p :: l) = ob (eqK q p.1) (fun b => sel b (some ((p.1, v) :: l)) (ob (putE' q v l) (fun r => some (p :: r)))) := rfl

/-- what is found -/
def Found (ι : Inj) (q : AVal) (es : List (AVal × AVal)) (es' : List MapEntry) (n : Nat) (r : Option AVal) (r' : Option (Nat × Value)) : Prop :=
  match r with
  | none => r' = none
  | some v => ∃ j e p, r' = some (n + j, e.val) ∧ es'[j]? = some e ∧ es[j]? = some (p, v) ∧ renP ι (p, v) e ∧ eqK q p = some true ∧ ∀ v' es2, putE' q v' es = some es2 → es2 = es.set j (p, v')

theorem found_s {ι : Inj} {q : AVal} : ∀ (es : List (AVal × AVal)) (es' : List MapEntry) (n : Nat) (r : Option AVal), findE q es = some r → es'.length = es.length → (∀ (k : Nat) p e, es[k]? = some p → es'[k]? = some e → renP ι p e) →
    ∃ r', Found ι q es es' n r r' ∧
      (∀ d uc, (∀ p b kc, eqK q p = some b → ren ι p = some kc → Instr.sameNow d uc kc = some b) → Instr.findNow d uc es' n = some r') ∧
      (∀ t uc w, (∀ p b kc, eqK q p = some b → ren ι p = some kc → (Op.equal t uc kc).run P w = .ok b w) → (Instr.findAsking t uc es' n).run P w = .ok r' w)
  | [], es', n, r, hh, hl, _ => by
    rw [findE_nil] at hh; cases hh
    have : es' = [] := List.length_eq_zero_iff.1 hl
    subst this
    exact ⟨none, rfl, fun _ _ _ => rfl, fun _ _ _ _ => by simp [Instr.findAsking]⟩
  | p :: es, [], n, r, hh, hl, _ => by simp at hl
  | p :: es, en :: es', n, r, hh, hl, hr => by
    rw [findE_cons] at hh
    obtain ⟨b, h1, h2⟩ := ob_eq.1 hh
    have hp := hr 0 p en (by simp) (by simp)
    cases b with
    | true =>
      rw [sel_true] at h2; cases h2
      refine ⟨some (n, en.val), ⟨0, en, p.1, by simp, by simp, by simp, hp, h1, fun v' es2 hq => ?_⟩, fun d uc hs => ?_, fun t uc w hs => ?_⟩
      · rw [putE_cons, h1, ob_some, sel_true] at hq
        cases hq; simp
      · unfold Instr.findNow
        rw [hs _ _ _ h1 hp.1]
      · unfold Instr.findAsking
        rw [run_bind (hs _ _ _ h1 hp.1)]
        rfl
    | false =>
      rw [sel_false] at h2
      obtain ⟨r', q1, q2, q3⟩ := found_s es es' (n + 1) r h2 (by simpa using hl) (fun k p' e' hk hk' => hr (k + 1) p' e' (by simpa using hk) (by simpa using hk'))
      refine ⟨r', ?_, fun d uc hs => ?_, fun t uc w hs => ?_⟩
      · cases r with
        | none => exact q1
        | some v =>
          obtain ⟨j, e', p', a1, a2, a3, a4, a5, a6⟩ := q1
          refine ⟨j + 1, e', p', by rw [a1]; congr 2; omega, by simpa using a2, by simpa using a3, a4, a5, fun v' es2 hq => ?_⟩
          rw [putE_cons, h1, ob_some, sel_false] at hq
          obtain ⟨es3, b1, b2⟩ := ob_eq.1 hq
          cases b2
          rw [a6 v' es3 b1]; simp
      · unfold Instr.findNow
        rw [hs _ _ _ h1 hp.1]
        exact q2 d uc hs
      · unfold Instr.findAsking
        rw [run_bind (hs _ _ _ h1 hp.1)]
        exact q3 t uc w hs

theorem eqK_now {ι : Inj} {d : TypeDesc} {q p : AVal} {b : Bool} {uc kc : Value} (hd : ∀ fs, d ≠ .struct fs) {ks : Option (List Nat)} (hf : keyFit ks d q = true) (hq : eqK q p = some b) (hu : ren ι q = some uc) (hk : ren ι p = some kc) :
    Instr.sameNow d uc kc = some b := by
  unfold keyFit at hf
  split at hf
  · cases p <;> simp [eqK, eqS, eqKd_eq, sel_eq, eqI_eq] at hq
    simp [ren] at hu hk; subst hu hk
    obtain ⟨rfl, rfl⟩ := hq
    simp [Instr.sameNow]; rfl
  · rename_i s
    cases p <;> simp [eqK, eqS, eqB_eq] at hq
    rename_i s'
    simp [ren] at hu hk; subst hu hk hq
    have : (ByteArray.mk s.toArray == ByteArray.mk s'.toArray) = decide (s = s') := by
      rw [beq_toListBytes, bytes_toList, bytes_toList]
      by_cases q : s = s' <;> simp [q]
    simp [Instr.sameNow, this]
  · cases p <;> simp [eqK, eqS] at hq
    simp [ren] at hu hk; subst hu hk hq
    simp [Instr.sameNow]
  · exact absurd rfl (hd _)
  · cases hf

theorem eqK_ask (K : COk C P) {ι : Inj} {t : TypeId} {ti : TI} {fs : Array Field} (hd : ti.desc = .struct fs) {q p : AVal} {b : Bool} {uc kc : Value} (hf : keyFit (C.eqT t) ti.desc q = true) (hq : eqK q p = some b) (hu : ren ι q = some uc) (hk : ren ι p = some kc) (w : World) :
    (Op.equal t uc kc).run P w = .ok b w := by
  rw [hd] at hf
  cases q <;> simp [keyFit] at hf
  rename_i xs
  cases hks : C.eqT t with
  | none => simp [hks, fitO] at hf
  | some ks =>
    simp [hks, fitO] at hf
    have E := K.eqt t ks hks
    cases p with
    | agg ys =>
      have hq' : eqL xs ys = some b := hq
      obtain ⟨xc, h1, rfl⟩ := ren_agg hu
      obtain ⟨yc, h2, rfl⟩ := ren_agg hk
      exact E.eq _ _ _ _ _ ι w hf hq' h1 h2
    | _ => simp [eqK, eqS] at hq

theorem checkKey_s (K : COk C P) {ι : Inj} {t : TypeId} {ti : TI} (T : TyOk P t ti) {q : AVal} {uc : Value} (hf : keyFit (C.eqT t) ti.desc q = true) (hu : ren ι q = some uc) (em : Bool) (w : World) :
    (Instr.checkKey em 10000 t uc).run P w = .ok () w := by
  cases hd : ti.desc with
  | struct fs =>
    rw [hd] at hf
    cases q <;> simp [keyFit] at hf
    rename_i xs
    cases hks : C.eqT t with
    | none => simp [hks, fitO] at hf
    | some ks =>
      simp [hks, fitO] at hf
      obtain ⟨xc, h1, rfl⟩ := ren_agg hu
      exact (K.eqt t ks hks).key _ _ _ ι w hf h1
  | _ =>
    rw [hd] at hf
    cases q <;> simp [keyFit] at hf
    all_goals
      show (Instr.checkKey em (9999 + 1) t uc).run P w = _
      rw [Instr.checkKey, run_bind (run_underlying T w), hd]
      simp

theorem findKey_s (K : COk C P) {ι : Inj} {t : TypeId} {ti : TI} (T : TyOk P t ti) {q : AVal} {uc : Value} (hf : keyFit (C.eqT t) ti.desc q = true) (hu : ren ι q = some uc) {es : List (AVal × AVal)} {ck clock : Nat} {es' : Array MapEntry} (M : MapRel ι es ck es' clock)
    {r : Option AVal} (hr : findE q es = some r) (w : World) : ∃ r', Found ι q es es'.toList 0 r r' ∧ (Instr.findKey t uc es'.toList).run P w = .ok r' w := by
  obtain ⟨r', q1, q2, q3⟩ := found_s (P := P) (ι := ι) es es'.toList 0 r hr (by simpa using M.hlen) (fun k p e hk hk' => M.rel k p e hk (by simpa using hk'))
  refine ⟨r', q1, ?_⟩
  unfold Instr.findKey
  rw [run_bind (run_underlying T w)]
  by_cases hd : ∃ fs, ti.desc = .struct fs
  · obtain ⟨fs, hd⟩ := hd
    have h3 := q3 t uc w (fun p b kc h1 h2 => eqK_ask K hd hf h1 hu h2 w)
    cases hes : es'.toList with
    | nil =>
      rw [hes] at h3
      simp [Instr.findAsking] at h3
      simp [Instr.findNow, h3]
    | cons a l =>
      rw [hes] at h3
      have : Instr.findNow ti.desc uc (a :: l) 0 = none := by
        unfold Instr.findNow
        rw [hd]
        simp [Instr.sameNow]
      rw [this]
      exact h3
  · have h2 := q2 ti.desc uc (fun p b kc h1 h2 => eqK_now (fun fs hfs => hd ⟨fs, hfs⟩) hf h1 hu h2)
    rw [h2]
    rfl

theorem opLookup_s (K : COk C P) {t : TypeId} {m q : Operand} {ok : Bool} (ho : o.op = .lookup t m q ok) : Step1 o.dst x e (LV P o e h) NoP (fun p k => (opLookup C t m q ok o.dst).run g x e h p k) :=
  Step1.so fun ti ht => Step1.so fun pr hpr => Step1.so fun tk htk => Step1.so fun te hte => Step1.so fun z hz => Step1.ox fun mv hmv => Step1.onMap fun mr hmr => Step1.ox fun qv hqv =>
    Step1.when fun hfit => Step1.ox fun es hes => Step1.ox fun r hr => Step1.put ⟨rfl, fun ι w ρ R he => by
      subst hmr
      have h1 := he m (by simp [ho, Op.operands]) _ hmv
      have h2 := he q (by simp [ho, Op.operands]) _ hqv
      obtain ⟨kt, et⟩ := pr
      have hd : ti.desc = .map kt et := by unfold mapD at hpr; split at hpr <;> simp_all
      obtain ⟨zv, z1, z2⟩ := zeroV_s (K.ty _ _ hte) hz w
      simp only [execOp, ho, Instr.lookup]
      have key : ∃ es' ck clock, MapRel ι es ck es' clock ∧ ((ρ m = .map none ∧ es' = #[]) ∨ ∃ B, ρ m = .map (some B) ∧ w.heap[B]? = some (.map es' clock)) := by
        cases mr with
        | none =>
          simp [ren] at h1
          simp [entriesOf] at hes
          subst hes
          exact ⟨#[], 0, 0, ⟨rfl, rfl, fun k p e hk => by simp at hk, fun e he => by simp at he, by simp⟩, .inl ⟨h1.symm, rfl⟩⟩
        | some rr =>
          obtain ⟨i, hb, hm⟩ := ren_map' h1
          simp only [entriesOf, oe_some] at hes
          obtain ⟨ck, hg⟩ := mapOf_some hes
          obtain ⟨es', clock, hh, M⟩ := R.map hb hg
          exact ⟨es', ck, clock, M, .inr ⟨i.B, hm, hh⟩⟩
      obtain ⟨es', ck, clock, M, hm⟩ := key
      obtain ⟨r', f1, f2⟩ := findKey_s K (K.ty _ _ htk) hfit h2 M hr w
      have hck := checkKey_s K (K.ty _ _ htk) hfit h2 es'.isEmpty w
      have fin : ∃ vc, (∀ b : Bool, ren ι (sel b (.tup [oe r z (fun v => v), .bool r.isSome]) (oe r z (fun v => v))) = some (if b then .tuple #[vc, .bool r.isSome] else vc)) ∧
          ((r' = none ∧ r.isSome = false ∧ (zeroValue et).run P w = .ok vc w) ∨ ∃ j, r' = some (j, vc) ∧ r.isSome = true) := by
        cases r with
        | none =>
          have f1' : r' = none := f1
          exact ⟨zv, fun b => (by cases b <;> simp [ren, renL, z2]), .inl ⟨f1', rfl, z1⟩⟩
        | some v =>
          obtain ⟨j, en, p, a1, a2, a3, a4, _⟩ := f1
          have := a4.2
          exact ⟨en.val, fun b => (by cases b <;> simp [ren, renL, this]), .inr ⟨_, a1, rfl⟩⟩
      obtain ⟨vc, g1, g2⟩ := fin
      refine ⟨_, g1 ok, ?_⟩
      rcases hm with ⟨hm, rfl⟩ | ⟨B, hm, hh⟩
      · have hck' : (Instr.checkKey true 10000 kt (ρ q)).run P w = .ok () w := by simpa using hck
        have f2' : (Instr.findKey kt (ρ q) []).run P w = .ok r' w := by simpa using f2
        simp only [hm]
        rw [Sem.run_bind, run_bind (run_underlying (K.ty _ _ ht) w), hd]
        rcases g2 with ⟨rfl, g3, g4⟩ | ⟨j, rfl, g3⟩
        · simp [hck', f2', g4, g3]
        · simp [hck', f2', g3]
      · simp only [hm]
        rw [Sem.run_bind, run_bind (run_underlying (K.ty _ _ ht) w), hd]
        rcases g2 with ⟨rfl, g3, g4⟩ | ⟨j, rfl, g3⟩
        · simp [run_getObj hh (by simp), hck, f2, g4, g3]
        · simp [run_getObj hh (by simp), hck, f2, g3]⟩

end
end Go.Sim
end
section
/- Aggregates laid. -/
namespace Go.Sim

theorem cells_ren {ι : Inj} {v : AVal} {vc : Value} (h : ren ι v = some vc) : renL ι (cellsL v) = some vc.cells.toList := by
  cases v with
  | agg cs =>
    obtain ⟨vs, h1, rfl⟩ := ren_agg h
    simpa [cellsL, Value.cells] using h1
  | undef => simp [ren] at h; subst h; simp [cellsL, renL, ren, Value.cells, undef]
  | bool b => simp [ren] at h; subst h; simp [cellsL, renL, ren, Value.cells]
  | int k n => simp [ren] at h; subst h; simp [cellsL, renL, ren, Value.cells]
  | str s => simp [ren] at h; subst h; simp [cellsL, renL, ren, Value.cells]
  | ptr p => obtain ⟨b', rfl, _⟩ := ren_ptrO h; simp [cellsL, renL, h, Value.cells]
  | slc p l c => obtain ⟨b', l', c', rfl, _⟩ := ren_slcO h; simp [cellsL, renL, h, Value.cells]
  | map p => obtain ⟨b', rfl, _⟩ := ren_mapO h; simp [cellsL, renL, h, Value.cells]
  | func f cs => obtain ⟨vs, h1, rfl⟩ := ren_func h; simp [cellsL, renL, h, Value.cells]
  | yld l =>
    have h0 := h
    simp only [ren] at h
    cases hb : ι l with
    | none => simp [hb] at h
    | some i => simp [hb] at h; subst h; simp [cellsL, renL, h0, Value.cells]
  | nilFunc => simp [ren] at h; subst h; simp [cellsL, renL, ren, Value.cells]
  | iface t u => obtain ⟨vs, h1, rfl⟩ := ren_iface h; simp [cellsL, renL, h, Value.cells]
  | nilIface => simp [ren] at h; subst h; simp [cellsL, renL, ren, Value.cells]
  | tup vs => obtain ⟨ws, h1, rfl⟩ := ren_tup h; simp [cellsL, renL, h, Value.cells]

theorem fold_set : ∀ (l : List Value) (k off : Nat) (cs : Array Value), off + k + l.length ≤ cs.size →
    ((l.zipIdx k).foldl (fun cs (p : Value × Nat) => cs.setIfInBounds (off + p.2) p.1) cs).toList = cs.toList.take (off + k) ++ l ++ cs.toList.drop (off + k + l.length)
  | [], k, off, cs, _ => by simp
  | v :: l, k, off, cs, h => by
    simp only [List.length_cons] at h
    rw [List.zipIdx_cons, List.foldl_cons, fold_set l (k + 1) off (cs.setIfInBounds (off + k) v) (by simp; omega)]
    simp only [Array.toList_setIfInBounds]
    have hk : off + k < cs.toList.length := by simp; omega
    have e1 : (cs.toList.set (off + k) v).take (off + (k + 1)) = cs.toList.take (off + k) ++ [v] := by
      rw [List.set_eq_take_append_cons_drop, if_pos hk, List.take_append, List.length_take, Nat.min_eq_left (Nat.le_of_lt hk), List.take_of_length_le (by simp; omega), show off + (k + 1) - (off + k) = 1 by omega]
      simp
    rw [e1, List.drop_set_of_lt (by omega)]
    simp only [List.length_cons, List.append_assoc, List.cons_append, List.nil_append]
    rw [show off + (k + 1) + l.length = off + k + (l.length + 1) by omega]

theorem foldl_zip (v : Array Value) (off : Nat) (cs : Array Value) : (v.zipIdx.foldl (fun cs (c, j) => cs.setIfInBounds (off + j) c) cs) = ((v.toList.zipIdx 0).foldl (fun cs (p : Value × Nat) => cs.setIfInBounds (off + p.2) p.1) cs) := by
  rw [← Array.foldl_toList, Array.toList_zipIdx]

theorem fillA_nil (cs : List AVal) : fillA [] cs = some cs := rfl
theorem fillA_cons (p : Nat × Nat × AVal) (l : List (Nat × Nat × AVal)) (cs : List AVal) : fillA (p :: l) cs = sel (Nat.beq (len (cellsL p.2.2)) p.2.1) (ob (putX p.1 (cellsL p.2.2) cs) (fillA l)) none := rfl

/-- a list of parts: abstract and concrete -/
def PartsRel (ι : Inj) (place : Nat → Option (Nat × Nat)) : List (Nat × Nat × AVal) → List (Nat × Value) → Prop
  | [], [] => True
  | p :: l, q :: m => place q.1 = some (p.1, p.2.1) ∧ ren ι p.2.2 = some q.2 ∧ PartsRel ι place l m
  | _, _ => False

theorem fill_s {ι : Inj} {place : Nat → Option (Nat × Nat)} : ∀ (l : List (Nat × Nat × AVal)) (m : List (Nat × Value)) (cs cs' : List AVal) (ccs : Array Value), PartsRel ι place l m → fillA l cs = some cs' → renL ι cs = some ccs.toList →
    ∃ ccs', Instr.fill place ccs m = some ccs' ∧ renL ι cs' = some ccs'.toList
  | [], [], cs, cs', ccs, _, hf, hr => by
    rw [fillA_nil] at hf; cases hf
    exact ⟨ccs, rfl, hr⟩
  | p :: l, q :: m, cs, cs', ccs, ⟨h1, h2, h3⟩, hf, hr => by
    rw [fillA_cons, sel_eq] at hf
    split at hf
    · rename_i hlen
      simp at hlen
      obtain ⟨cs1, h4, h5⟩ := ob_eq.1 hf
      rw [putX_eq] at h4
      split at h4
      · rename_i hle
        cases h4
        have hc := cells_ren h2
        have hcl := renL_length hc
        have hcs := renL_length hr
        rw [len_eq] at hlen
        simp at hcl hcs
        have hne : ¬ (q.2.cells.size ≠ p.2.1 || p.1 + q.2.cells.size > ccs.size) = true := by simp; omega
        have hset := fold_set q.2.cells.toList 0 p.1 ccs (by simp; omega)
        simp only [Nat.add_zero] at hset
        have hr1 : renL ι (cs.take p.1 ++ cellsL p.2.2 ++ cs.drop (p.1 + (cellsL p.2.2).length)) = some ((q.2.cells.toList.zipIdx 0).foldl (fun cs (p' : Value × Nat) => cs.setIfInBounds (p.1 + p'.2) p'.1) ccs).toList := by
          rw [hset]
          have : q.2.cells.toList.length = (cellsL p.2.2).length := by simpa using hcl
          rw [this]
          exact renL_append (renL_append (renL_take _ hr) hc) (renL_drop _ hr)
        obtain ⟨ccs', r1, r2⟩ := fill_s l m _ cs' _ h3 h5 hr1
        refine ⟨ccs', ?_, r2⟩
        unfold Instr.fill
        rw [h1]
        simp only
        rw [if_neg hne, foldl_zip]
        exact r1
      · cases h4
    · cases hf
  | [], _ :: _, _, _, _, h, _, _ => h.elim
  | _ :: _, [], _, _, _, h, _, _ => h.elim

section
variable {P : Program} {C : Ctx} {o : Oper} {x : FX} {e : Env} {h : H} {g : G}

theorem placesN_s {ι : Inj} {ρ : Operand → Value} {n : Nat} : ∀ {ps : List (Nat × Operand)} {l : List (Nat × Nat × AVal)}, (placesN n ps).run e = some l → (∀ p ∈ ps, ∀ u, (evF p.2).run e = some u → ren ι u = some (ρ p.2)) →
    PartsRel ι (fun i => some (i * n, n)) l (ps.map fun (i, x) => (i, ρ x))
  | [], l, hh, _ => by
    have : some [] = some l := hh
    cases this; trivial
  | p :: ps, l, hh, he => by
    have hh' : ob ((evF p.2).run e) (fun v => ob ((placesN n ps).run e) (fun r => some ((Nat.mul p.1 n, n, v) :: r))) = some l := hh
    obtain ⟨v, h1, hh'⟩ := ob_eq.1 hh'
    obtain ⟨r, h2, hh'⟩ := ob_eq.1 hh'
    cases hh'
    exact ⟨rfl, he p (by simp) v h1, placesN_s h2 fun q hq => he q (by simp [hq])⟩

theorem places_s {fs : Array Field} {pl : Array (Nat × Nat)} (hpl : ∀ (i : Nat) f tf, fs[i]? = some f → C.tt.get f.type = some tf → pl[i]? = some (f.offset, tf.sz)) {ι : Inj} {ρ : Operand → Value} :
    ∀ {ps : List (Nat × Operand)} {l : List (Nat × Nat × AVal)}, (places C fs ps).run e = some l → (∀ p ∈ ps, ∀ u, (evF p.2).run e = some u → ren ι u = some (ρ p.2)) →
    PartsRel ι (pl[·]?) l (ps.map fun (i, x) => (i, ρ x))
  | [], l, hh, _ => by
    have : some [] = some l := hh
    cases this; trivial
  | p :: ps, l, hh, he => by
    have hh' : (place1 C fs p (places C fs ps)).run e = some l := hh
    unfold place1 at hh'
    cases hf : getX p.1 fs.toList with
    | none => rw [hf] at hh'; cases hh'
    | some f =>
      rw [hf, oe_some] at hh'
      cases ht : C.tt.get f.type with
      | none => rw [ht] at hh'; cases hh'
      | some tf =>
        rw [ht, oe_some] at hh'
        obtain ⟨v, h1, hh'⟩ := ob_eq.1 hh'
        obtain ⟨r, h2, hh'⟩ := ob_eq.1 hh'
        cases hh'
        exact ⟨hpl _ _ _ (by simpa [getX_eq] using hf) ht, he p (by simp) v h1, places_s hpl h2 fun q hq => he q (by simp [hq])⟩

theorem mapM_places (K : COk C P) {w : World} : ∀ (l : List Field), (∀ f ∈ l, ∃ tf, C.tt.get f.type = some tf) →
    ∃ pl : List (Nat × Nat), (l.mapM (m := Sem) fun f => do pure (f.offset, ← sizeOf f.type)).run P w = .ok pl w ∧ ∀ (i : Nat) f tf, l[i]? = some f → C.tt.get f.type = some tf → pl[i]? = some (f.offset, tf.sz)
  | [], _ => ⟨[], by simp, fun i f tf hf => by simp at hf⟩
  | f :: l, hh => by
    obtain ⟨tf, ht⟩ := hh f (by simp)
    obtain ⟨pl, h1, h2⟩ := mapM_places K (w := w) l fun f' hf' => hh f' (by simp [hf'])
    refine ⟨(f.offset, tf.sz) :: pl, ?_, fun i f' tf' hf' ht' => ?_⟩
    · rw [List.mapM_cons]
      simp [run_sizeOf (K.ty _ _ ht)] at h1 ⊢
      simp [h1]
    · cases i with
      | zero => simp at hf'; subst hf'; rw [ht] at ht'; cases ht'; simp
      | succ i => simp at hf'; simpa using h2 i f' tf' hf' ht'

theorem opBuild_s (K : COk C P) {t : TypeId} {ps : Array (Nat × Operand)} (ho : o.op = .build t ps) : Step1 o.dst x e (PV P o e h) NoP (fun p k => (opBuild C t ps o.dst).run g x e h p k) :=
  Step1.so fun ti ht => Step1.so fun z hz => Step1.ox fun l hl => Step1.ox fun cs hcs => Step1.put ⟨rfl, fun ι w ρ he => by
    have T := K.ty _ _ ht
    have he' : ∀ p ∈ ps.toList, ∀ u, (evF p.2).run e = some u → ren ι u = some (ρ p.2) := fun p hp u hu => he p.2 (by simp [ho, Op.operands]; exact ⟨p.1, by simpa using hp⟩) u hu
    obtain ⟨zv, z1, z2, z3, _⟩ := run_zero T hz w
    have hzr := cSs_ren (ι := ι) z2
    simp only [execOp, ho, Instr.build]
    unfold buildParts at hl
    split at hl
    · rename_i fs hd
      obtain ⟨pl, p1, p2⟩ := mapM_places K (w := w) fs.toList (K.flds _ _ _ ht hd)
      have PR := places_s (C := C) (pl := pl.toArray) (fun i f tf hf htf => by simpa using p2 i f tf (by simpa using hf) htf) hl he'
      obtain ⟨ccs, f1, f2⟩ := fill_s _ _ _ _ zv.cells PR hcs hzr
      refine ⟨_, ren_agg_of f2, ?_⟩
      have hmap : (fs.mapM (m := Sem) fun f => do pure (f.offset, ← sizeOf f.type)).run P w = .ok pl.toArray w := by
        rw [← Array.toArray_toList (xs := fs), List.mapM_toArray]
        simp only [Sem.run_map, p1, Result.andThen_ok]
      have hps : (Array.map (fun x => (x.fst, ρ x.snd)) ps).toList = ps.toList.map fun (i, x) => (i, ρ x) := by simp
      rw [Sem.run_bind, run_bind z1, run_bind (run_underlying T w), hd]
      simp only
      rw [Sem.run_bind, hmap]
      simp only [Result.andThen_ok]
      rw [hps, f1]
      simp
    · rename_i n el hd
      cases hte : C.tt.get el with
      | none => rw [hte] at hl; cases hl
      | some te =>
        rw [hte, oe_some] at hl
        have PR := placesN_s hl he'
        obtain ⟨ccs, f1, f2⟩ := fill_s _ _ _ _ zv.cells PR hcs hzr
        refine ⟨_, ren_agg_of f2, ?_⟩
        have hps : (Array.map (fun x => (x.fst, ρ x.snd)) ps).toList = ps.toList.map fun (i, x) => (i, ρ x) := by simp
        rw [Sem.run_bind, run_bind z1, run_bind (run_underlying T w), hd]
        simp only
        rw [run_bind (run_sizeOf (K.ty _ _ hte) w), hps, f1]
        simp
    · cases hl⟩

end
end Go.Sim
end
section
/- Operations that make blocks or change memory. -/
namespace Go.Sim

@[reducible] def HV (P : Program) (o : Oper) (e : Env) (h : H) : AVal → H → Prop := fun v h' => Heavy1 P o e h v h'

/-- A NEW BLOCK OF CELLS. -/
theorem Went.cells {ι : Inj} {h : H} {w w1 : World} (r : Rel ι h w) (hn : h.next < 1048576) {vs : List AVal} {vcs : List Value} (hv : renL ι vs = some vcs) {cells : Array Value} {T : TypeId} {fz : Nat × Nat} {esz spare : Nat} {opn : Bool} {pars : List Nat}
    (hsh : opn = false → spare = 0) (hroom : vs.length + spare * esz ≤ cells.size) (hval : ∀ (k : Nat) u, vcs[k]? = some u → cells[k]? = some u) (hfree : ∀ k, k < cells.size → (decide (fz.1 ≤ k) && decide (k < fz.2)) = false)
    (hw1 : w1.heap = w.heap.push (.cells cells T fz)) (hp : ∀ p ∈ pars, p < h.next) (hso : SameOut w w1 := by exact ⟨rfl, rfl, rfl⟩) :
    Went ι h w (upd ι h.next ⟨w.heap.size, 0, vs.length, spare, esz⟩) (h.alloc (.cells vs esz opn false pars)) w1 := by
  have hext : Ext ι (upd ι h.next ⟨w.heap.size, 0, vs.length, spare, esz⟩) := Ext.upd (r.none (Nat.le_refl _))
  refine Went.alloc r _ _ hn (by rw [hw1]; simp) (fun B hB => by rw [hw1, Array.getElem?_push, if_neg (Nat.ne_of_lt hB)]) (Nat.le_refl _) (by rw [hw1]; simp) ?_ (fun vs' e' o' f' p' hq => by cases hq; exact hp) hso
  refine ⟨cells, T, fz, by rw [hw1, Array.getElem?_push, if_pos rfl], rfl, rfl, hsh, by simpa using hroom, fun k v hk => ?_, fun _ k _ hk => hfree k (by simp at hk; omega)⟩
  obtain ⟨vc, h1, h2⟩ := renL_get hv k v hk
  exact ⟨vc, ren_ext hext v h1, by simpa using hval k vc h2⟩

theorem Went.row {ι : Inj} {h : H} {w : World} (r : Rel ι h w) (hn : h.next < 1048576) {vs : List AVal} {cells : Array Value} (hv : renL ι vs = some cells.toList) (T : TypeId) (esz : Nat) :
    Went ι h w (upd ι h.next ⟨w.heap.size, 0, vs.length, 0, esz⟩) (h.alloc (.cells vs esz false false [])) (w.alloc (.cells cells T)) :=
  Went.cells r hn hv (fun _ => rfl) (by have := renL_length hv; simp at this; omega) (fun k u hk => by simpa using hk) (fun k _ => by simp) rfl (fun p hp => by cases hp)

theorem run_newRow {P : Program} {w : World} (T : TypeId) (cells : Array Value) : (newRow T cells).run P w = .ok ⟨w.heap.size, 0, none⟩ (w.alloc (.cells cells T)) := by
  unfold newRow
  simp

theorem rep_get {α : Type} (z : List α) : ∀ (n k : Nat), k < n * z.length → (rep z n)[k]? = z[k % z.length]?
  | 0, k, hk => by simp at hk
  | n + 1, k, hk => by
    rw [rep_succ, List.getElem?_append]
    split
    · rename_i h; rw [Nat.mod_eq_of_lt h]
    · rename_i h
      rw [rep_get z n (k - z.length) (by rw [Nat.succ_mul] at hk; omega), ← Nat.mod_eq_sub_mod (by omega)]

theorem rep_ren {ι : Inj} {z : List AVal} {zc : List Value} (hz : renL ι z = some zc) : ∀ n, renL ι (rep z n) = some (rep zc n)
  | 0 => by rw [rep_zero, rep_zero]; simp [renL]
  | n + 1 => by rw [rep_succ, rep_succ]; exact renL_append hz (rep_ren hz n)

theorem range_rep (zc : Array Value) (n : Nat) : ((Array.range (n * zc.size)).map (zc[· % zc.size]!)).toList = rep zc.toList n := by
  apply List.ext_getElem?
  intro k
  by_cases hk : k < n * zc.size
  · rw [rep_get _ _ _ (by simpa using hk)]
    have hpos : 0 < zc.size := by
      rcases Nat.eq_zero_or_pos zc.size with q | q
      · rw [q] at hk; simp at hk
      · exact q
    have hm := Nat.mod_lt k hpos
    simp [hk, hm]
  · rw [List.getElem?_eq_none (by simpa using hk), List.getElem?_eq_none (by rw [rep_length]; simpa using hk)]

section
variable {P : Program} {C : Ctx} {o : Oper} {x : FX} {e : Env} {h : H} {g : G}

theorem allocV_s {V : AVal → H → Prop} {Q : List (AVal × Bool) → H → Prop} {ob : AObj} {v : AVal} (hV : h.next < 1048576 → V v (h.alloc ob)) : Step1 o.dst x e V Q (fun _ k => allocV o.dst x e h k ob v) :=
  Step1.when (t := fun _ k => (putF o.dst).run v x e (h.alloc ob) k) fun hr => Step1.put (hV (by simpa [H.room] using hr))

theorem opAlloc_s (K : COk C P) {t : TypeId} (ho : o.op = .alloc t) : Step1 o.dst x e (HV P o e h) NoP (fun p k => (opAlloc C t o.dst).run g x e h p k) :=
  Step1.so fun ti ht => Step1.so fun z hz => allocV_s fun hn ι w ρ r he => by
    obtain ⟨zv, z1, z2, z3, _⟩ := run_zero (K.ty _ _ ht) hz w
    have W := Went.row r hn (cSs_ren (ι := ι) z2) t ti.sz
    refine ⟨_, _, _, W, ren_ptr_of (upd_self _ _ _), .inl ?_⟩
    simp only [execOp, ho, Instr.alloc, newVar]
    simp [z1, run_newRow]

theorem opBox_s {t : TypeId} {a : Operand} (ho : o.op = .box t a) : Step1 o.dst x e (HV P o e h) NoP (fun p k => (opBox a o.dst).run g x e h p k) :=
  Step1.ox fun u hu => allocV_s fun hn ι w ρ r he => by
    have h1 := he a (by simp [ho, Op.operands]) _ hu
    have W := Went.row r hn (cells_ren h1) t (len (cellsL u))
    refine ⟨_, _, _, W, ren_ptr_of (upd_self _ _ _), .inl ?_⟩
    simp only [execOp, ho, Instr.box, newVar]
    simp [run_newRow]

theorem capOf_row {B n l c esz : Nat} : capOf ⟨B, 0, n, 0, esz⟩ l c = c := by unfold capOf; split <;> simp

theorem opBuildSl_s (K : COk C P) {t : TypeId} {n : Nat} {ps : Array (Nat × Operand)} (ho : o.op = .buildSlice t n ps) : Step1 o.dst x e (HV P o e h) NoP (fun p k => (opBuildSl C t n ps o.dst).run g x e h p k) :=
  Step1.so fun ti ht => Step1.so fun el hel => Step1.so fun te hte => Step1.so fun z hz => Step1.selF (fun hle => Step1.ox fun l hl => Step1.ox fun cs hcs => allocV_s fun hn ι w ρ r he => by
    have T := K.ty _ _ ht
    have TE := K.ty _ _ hte
    have hd : ti.desc = .slice el := by unfold sliceD at hel; split at hel <;> simp_all
    have he' : ∀ p ∈ ps.toList, ∀ u, (evF p.2).run e = some u → ren ι u = some (ρ p.2) := fun p hp u hu => he p.2 (by simp [ho, Op.operands]; exact ⟨p.1, by simpa using hp⟩) u hu
    obtain ⟨zv, z1, z2, z3, _⟩ := run_zero TE hz w
    have hzr := cSs_ren (ι := ι) z2
    have hzl := renL_length hzr
    have PR := placesN_s hl he'
    have hrep := rep_ren hzr n
    rw [← range_rep] at hrep
    obtain ⟨ccs, f1, f2⟩ := fill_s _ _ _ _ _ PR hcs hrep
    have W := Went.row r hn f2 el te.sz
    refine ⟨_, _, _, W, ren_slc_of (upd_self _ _ _) amb0, .inl ?_⟩
    rw [capOf_row]
    have hps : (Array.map (fun x => (x.fst, ρ x.snd)) ps).toList = ps.toList.map fun (i, x) => (i, ρ x) := by simp
    have hsz : zv.cells.size = te.sz := by simpa [z3] using hzl
    simp only [execOp, ho, Instr.buildSlice]
    rw [Sem.run_bind, run_bind (run_underlying T w), hd]
    simp only
    rw [run_bind (run_sizeOf TE w)]
    have hle' : ¬ n * te.sz > 2 ^ 24 := by simp at hle; omega
    rw [if_neg hle']
    by_cases h0 : n * te.sz = 0
    · rw [if_pos h0]
      have f1' : Instr.fill (fun i => some (i * te.sz, te.sz)) #[] (ps.toList.map fun (i, x) => (i, ρ x)) = some ccs := by
        rw [← f1]
        congr 1
        rw [hsz, h0]; simp
      simp only [Sem.run_bind, Sem.run_pure, Result.andThen_ok]
      rw [hps, h0]
      have e0 : Array.range 0 = #[] := rfl
      simp at f1'
      simp [e0, f1', run_newRow]
    · rw [if_neg h0]
      rw [hsz] at f1
      simp only [Sem.run_bind, Sem.run_pure, Result.andThen_ok, z1, hps, hsz, f1]
      simp [run_newRow]) fun _ => Step1.bad'

end
end Go.Sim
end
section
/- Stores, conversions, maps. -/
namespace Go.Sim

section
variable {P : Program} {C : Ctx} {o : Oper} {x : FX} {e : Env} {h : H} {g : G}

theorem writeX_s {V : AVal → H → Prop} {Q : List (AVal × Bool) → H → Prop} {b off : Nat} {cs : List AVal} {f : H → PK → K → XR}
    (hh : ∀ vs esz opn pars, h.get b = some (.cells vs esz opn false pars) → plains cs = true → off + cs.length ≤ vs.length →
      Step1 o.dst x e V Q (f ((kill h pars).setO b (.cells (vs.take off ++ cs ++ vs.drop (off + cs.length)) esz opn false [])))) :
    Step1 o.dst x e V Q (fun p k => writeX h b off cs (fun h' => f h' p k)) := by
  refine Step1.onCells fun vs esz opn frz pars hg => Step1.when fun hf => Step1.ox fun vs' hvs' => ?_
  simp at hf
  obtain ⟨rfl, hp⟩ := hf
  rw [putX_eq] at hvs'
  split at hvs'
  · rename_i hle
    cases hvs'
    exact hh vs esz opn pars hg hp hle
  · cases hvs'

theorem opStore_s (K : COk C P) {t : TypeId} {a b : Operand} (ho : o.op = .store t a b) : Step1 o.dst x e (HV P o e h) NoP (fun p k => (opStore C t a b o.dst).run g x e h p k) :=
  Step1.so fun ti ht => Step1.ox fun pv hpv => Step1.onPtr fun bk off hb => Step1.ox fun v hv => Step1.when fun hl => writeX_s fun vs esz opn pars hg hp hle => Step1.put fun ι w ρ r he => by
    subst hb
    have h1 := he a (by simp [ho, Op.operands]) _ hpv
    have h2 := he b (by simp [ho, Op.operands]) _ hv
    obtain ⟨i, hb, h3⟩ := ren_ptr h1
    have hc := cells_ren h2
    have hcl := renL_length hc
    obtain ⟨s1, W⟩ := Went.write P r hb hg hle hc hp
    refine ⟨_, _, undef, W, by simp [ren], .inr ⟨?_, rfl⟩⟩
    simp [len_eq] at hl hcl
    simp only [execOp, ho, Instr.storeAt, storeVar]
    simp [h3, Instr.sureAddr, run_sizeOf (K.ty _ _ ht), ← hl, hcl, s1]

theorem isU8_some {ti : TI} (h : isU8 ti = true) : ti.desc = .int .u8 ∧ ti.sz = 1 := by
  unfold isU8 at h
  split at h
  · rename_i hd; exact ⟨hd, by simpa using h⟩
  · cases h

theorem bytes_ren {ι : Inj} : ∀ (l : List UInt8), renL ι (map1 byteV l) = some (l.map fun b => .int .u8 b.toNat)
  | [] => by simp [map1_eq, renL]
  | b :: l => by
    have := bytes_ren (ι := ι) l
    rw [map1_eq] at this ⊢
    exact renL_cons.2 ⟨_, _, by simp [byteV, ren], this, rfl⟩

theorem run_choose' {P : Program} {w : World} {q : Question} (h : q.forced = false) : (choose q).run P w = .ok (q.cut (w.tape w.drawn q)) { w with drawn := w.drawn + 1 } := by
  rw [run_choose, h]; rfl

theorem modify_push {α : Type} (a : Array α) (z : α) (f : α → α) : (a.push z).modify a.size f = a.push (f z) := by
  apply Array.ext_getElem?
  intro k
  rw [Array.getElem?_modify, Array.getElem?_push, Array.getElem?_push]
  by_cases hk : k = a.size
  · subst hk; simp
  · rw [if_neg (fun q => hk q.symm), if_neg hk, if_neg hk]

theorem convI_s {s t : TypeId} {ts tt : TI} (T : TyOk P s ts) (T' : TyOk P t tt) {kd kd' : IntKind} (hs : ts.desc = .int kd') (ht : tt.desc = .int kd) {a : Operand} (ho : o.op = .convert s t a) :
    Step1 o.dst x e (HV P o e h) NoP (fun p k => (convI kd a o.dst).run g x e h p k) :=
  Step1.ox fun v hv => Step1.onInt fun k n hn => Step1.put fun ι w ρ r he => by
    subst hn
    have h1 := he a (by simp [ho, Op.operands]) _ hv
    simp [ren] at h1
    refine ⟨ι, w, .int kd (kd.wrap n), Went.refl r, by simp [ren, wrapK_eq], .inl ?_⟩
    simp only [execOp, ho, convert]
    simp [run_underlying T, run_underlying T', hs, ht, ← h1, Conv.intToInt]

theorem convSS_s {s t : TypeId} {ts tt : TI} (T : TyOk P s ts) (T' : TyOk P t tt) (hs : ts.desc = .string) (ht : tt.desc = .string) {a : Operand} (ho : o.op = .convert s t a) :
    Step1 o.dst x e (HV P o e h) NoP (fun p k => (convSS a o.dst).run g x e h p k) :=
  Step1.ox fun v hv => Step1.onStr fun b hb => Step1.put fun ι w ρ r he => by
    subst hb
    have h1 := he a (by simp [ho, Op.operands]) _ hv
    refine ⟨ι, w, _, Went.refl r, h1, .inl ?_⟩
    simp [ren] at h1
    simp only [execOp, ho, convert]
    simp [run_underlying T, run_underlying T', hs, ht, ← h1]

theorem convSB_s {s t el : TypeId} {ts tt te : TI} (T : TyOk P s ts) (T' : TyOk P t tt) (TE : TyOk P el te) (hs : ts.desc = .string) (ht : tt.desc = .slice el) (hu : te.desc = .int .u8) {a : Operand} (ho : o.op = .convert s t a) :
    Step1 o.dst x e (HV P o e h) NoP (fun p k => (convSB a o.dst).run g x e h p k) :=
  Step1.ox fun v hv => Step1.onStr fun b hb => allocV_s fun hn ι w ρ r he => by
    subst hb
    have h1 := he a (by simp [ho, Op.operands]) _ hv
    simp [ren] at h1
    have hz : (ByteArray.mk b.toArray).size = b.length := by simp [ByteArray.size]
    let q := Question.appendCap b.length 0 el
    let cap := q.cut (w.tape w.drawn q)
    have hcap : b.length ≤ cap := by show b.length ≤ b.length + _; omega
    let cells : Array Value := (b.toArray.map fun c => Value.int .u8 c.toNat) ++ Array.replicate (cap - b.length) (Value.int .u8 0)
    have hcs : cells.size = cap := by simp [cells]; omega
    let w1 : World := { w with drawn := w.drawn + 1 }
    let w3 : World := { w1 with heap := w.heap.push (.cells cells el (cap, cap + 1)) }
    have W := Went.cells (w1 := w3) r hn (bytes_ren b) (cells := cells) (T := el) (fz := (cap, cap + 1)) (esz := 1) (spare := cap - b.length) (opn := true) (pars := []) (by simp) (by rw [hcs, map1_eq]; simp; omega)
      (fun k u hk => by
        have hk' : k < b.length := by
          rcases Nat.lt_or_ge k b.length with q | q
          · exact q
          · rw [List.getElem?_eq_none (by simpa using q)] at hk; cases hk
        simp only [cells]
        rw [Array.getElem?_append_left (by simpa using hk')]
        simpa using hk) (fun k hk => by rw [hcs] at hk; simp; omega) rfl (fun p hp => by cases hp)
    refine ⟨_, w3, _, W, ren_slc_of (upd_self _ _ _) amb0, .inl ?_⟩
    have hcapOf : capOf ⟨w.heap.size, 0, (map1 byteV b).length, cap - b.length, 1⟩ 0 (len b) = cap := by
      unfold capOf
      rw [if_pos (by simp [len_eq, map1_eq]), len_eq]; simp; omega
    rw [hcapOf]
    simp only [execOp, ho, convert]
    have hfz : (w1.alloc (.cells cells el)).freeze ⟨w.heap.size, cap, none⟩ 1 = w3 := by
      simp only [World.freeze, World.alloc, w3, w1]
      rw [if_neg (by decide), modify_push]
      simp
    have hrun : (Conv.stringToBytes el ⟨b.toArray⟩).run P w = .ok (.slice (some ⟨w.heap.size, 0, none⟩) b.length cap) w3 := by
      unfold Conv.stringToBytes
      rw [hz, run_bind (run_choose' (q := q) rfl)]
      rw [run_bind (run_newRow el cells)]
      unfold markStringish
      simp only [Sem.run_bind, run_shape]
      have hsh : (w1.alloc (.cells cells el)).shape? w.heap.size = some (el, cap) := by simp [World.shape?, World.alloc, w1, hcs]
      have hsh' : (World.alloc { w with drawn := w.drawn + 1 } (Obj.cells cells el)).shape? w.heap.size = some (el, cap) := hsh
      simp only [Result.andThen_ok, hsh', run_freeze, Sem.run_pure]
      have hfz' : (World.alloc { w with drawn := w.drawn + 1 } (Obj.cells cells el)).freeze ⟨w.heap.size, cap, none⟩ 1 = w3 := hfz
      rw [hfz']
    rw [← h1]
    simp [run_underlying T, run_underlying T', run_underlying TE, hs, ht, hu, hrun, len_eq]

end
end Go.Sim
end
