/- Slices read; conversions; maps. -/
import Derived.Test.YtakbgbnnocmaiaaGreatDoorSe
import Derived.Laws.BytesArg
set_option linter.all false
section
namespace Go.Sim

section
variable {P : Program} {C : Ctx} {o : Oper} {x : FX} {e : Env} {h : H} {g : G}

theorem firstCells_slice {ι : Inj} {w : World} (r : Rel ι h w) {b off m : Nat} {i : BI} {vs q : List AVal} (hb : ι b = some i) (hc : cellsOf (h.get b) = some vs) (ht : takeX m (dropX off vs) = some q) :
    ∃ qc, renL ι q = some qc ∧ qc.length = m ∧ ∀ k u, qc[k]? = some u → w.cell? ⟨i.B, i.base + off + k, none⟩ = some u := by
  obtain ⟨esz, opn, frz, pars, cs, T, fz, hg, hh, R⟩ := r.cells hb hc
  have hl : loadC (some vs) true m off = some (.agg q) := by
    show ob (takeX m (dropX off vs)) _ = _
    rw [ht]
  obtain ⟨l, lc, h1, h2, h3, h4⟩ := loadC_true R.vals hl
  cases h1
  exact ⟨lc, h2, h3, fun k u hk => cell_of hh (h4 k u hk)⟩

theorem readSl_s {ι : Inj} {w : World} (r : Rel ι h w) {esz n : Nat} {v : AVal} {q : List AVal} {vc : Value} (hq : readSl h esz v = some (n, q)) (hv : ren ι v = some vc) :
    (Builtin.lenOf vc).run P w = .ok n w ∧ ∃ qc, renL ι q = some qc ∧ qc.length = n * esz ∧ ∀ m, m ≤ n → (Builtin.firstCells esz m vc).run P w = .ok (qc.take (m * esz)).toArray w := by
  unfold readSl at hq
  split at hq
  · rw [sel_eq] at hq
    split at hq
    · rename_i l c hl
      cases hq
      simp at hl; subst hl
      simp [ren] at hv; subst hv
      refine ⟨by simp [Builtin.lenOf], [], by simp [renL], by simp, fun m hm => ?_⟩
      simp [Builtin.firstCells]
    · cases hq
  · rename_i b off l c
    rw [sel_eq] at hq
    split at hq
    · rename_i hl
      obtain ⟨i, hb, rfl⟩ := ren_slcE hv
      simp at hl; subst hl
      cases hq
      refine ⟨by simp [Builtin.lenOf], [], by simp [renL], by simp, fun m hm => ?_⟩
      have : m = 0 := by omega
      subst this
      simp [Builtin.firstCells, loadCells, loadCellsFrom]
    · rename_i hl
      have hl : l ≠ 0 := by simpa using hl
      obtain ⟨i, hb, rfl⟩ := ren_slc hv (fun hh => hl hh.2.1)
      obtain ⟨vs, h1, h2⟩ := ob_eq.1 hq
      obtain ⟨q', h3, h4⟩ := ob_eq.1 h2
      cases h4
      obtain ⟨qc, g1, g2, g3⟩ := firstCells_slice r hb h1 h3
      refine ⟨by simp [Builtin.lenOf], qc, g1, g2, fun m hm => ?_⟩
      have hm' : m * esz ≤ n * esz := Nat.mul_le_mul_right _ hm
      have hlen : (qc.take (m * esz)).length = m * esz := by rw [List.length_take, g2]; exact Nat.min_eq_left hm'
      have := run_loadCells (P := P) (w := w) (B := i.B) (o := i.base + off) (qc.take (m * esz)) (fun k u hk => by
        rw [List.getElem?_take] at hk
        split at hk
        · exact g3 k u hk
        · cases hk)
      rw [hlen] at this
      simp only [Builtin.firstCells]
      exact this
  · rename_i s
    rw [sel_eq] at hq
    split at hq
    · rename_i hz
      simp at hz; subst hz
      cases hq
      simp [ren] at hv; subst hv
      have hsz : (ByteArray.mk s.toArray).size = s.length := by simp [ByteArray.size]
      refine ⟨by simp [Builtin.lenOf, hsz, len_eq], _, bytes_ren s, by simp [len_eq], fun m hm => ?_⟩
      simp only [Builtin.firstCells, Sem.run_pure, Nat.mul_one]
      congr 1
      rw [bytes_extract]
      simp [List.map_take]
    · cases hq
  · cases hq

theorem mapX_bytes {ι : Inj} : ∀ {q : List AVal} {b : List UInt8}, mapX byteOfV q = some b → ∃ ns : List Int, renL ι q = some (ns.map (Value.int .u8)) ∧ b = ns.map fun n => UInt8.ofNat n.toNat
  | [], b, h => by rw [mapX_nil] at h; cases h; exact ⟨[], by simp [renL], rfl⟩
  | v :: q, b, h => by
    rw [mapX_cons] at h
    obtain ⟨c, h1, h2⟩ := ob_eq.1 h
    obtain ⟨r, h3, h4⟩ := ob_eq.1 h2
    cases h4
    obtain ⟨ns, g1, g2⟩ := mapX_bytes h3
    unfold byteOfV at h1
    split at h1
    · rename_i n
      cases h1
      exact ⟨n :: ns, renL_cons.2 ⟨_, _, by simp [ren], g1, rfl⟩, by simp [g2]⟩
    · cases h1

theorem convBS_s {s t el : TypeId} {ts tt te : TI} (T : TyOk P s ts) (T' : TyOk P t tt) (TE : TyOk P el te) (hs : ts.desc = .slice el) (ht : tt.desc = .string) (hu : te.desc = .int .u8) {a : Operand} (ho : o.op = .convert s t a) :
    Step1 o.dst x e (HV P o e h) NoP (fun p k => (convBS a o.dst).run g x e h p k) :=
  Step1.ox fun v hv => Step1.onSlc fun sa l c hsl => Step1.ox fun p hp => Step1.ox fun b hb => Step1.put fun ι w ρ r he => by
    subst hsl
    have h1 := he a (by simp [ho, Op.operands]) _ hv
    obtain ⟨ns, n1, rfl⟩ := mapX_bytes (ι := ι) hb
    obtain ⟨n, q⟩ := p
    obtain ⟨r1, qc, q1, q2, q3⟩ := readSl_s (P := P) r hp h1
    rw [n1] at q1; cases q1
    refine ⟨ι, w, _, Went.refl r, by simp [ren]; rfl, .inl ?_⟩
    have r3 := q3 n (Nat.le_refl _)
    rw [List.take_of_length_le (by rw [q2]; exact Nat.le_refl _)] at r3
    obtain ⟨b', l', c', hr, _⟩ := ren_slcO h1
    have hbs : (Conv.bytesToString (ρ a)).run P w = .ok (.string ⟨(ns.map fun n => UInt8.ofNat n.toNat).toArray⟩) w := by
      rw [hr] at r3 r1 ⊢
      simp [Builtin.lenOf] at r1; subst r1
      cases b' with
      | none =>
        simp [Builtin.firstCells] at r3
        have : ns = [] := by simpa using r3
        subst this
        simp [Conv.bytesToString]; rfl
      | some ad =>
        simp only [Builtin.firstCells, Nat.mul_one] at r3
        rw [run_bytesToString w ad l' c' ns r3, foldl_push_bytes]
        simp
    simp only [execOp, ho]
    have hc := run_convert_bytes_string w s t el b' l' c' (by rw [T.desc, hs]) (by rw [TE.desc, hu]) (by rw [T'.desc, ht])
    rw [hr] at hbs
    simp [hr, hc, hbs]

theorem opConv_s (K : COk C P) {s t : TypeId} {a : Operand} (ho : o.op = .convert s t a) : Step1 o.dst x e (HV P o e h) NoP (fun p k => (opConv C s t a o.dst).run g x e h p k) := by
  refine Step1.so fun ts hts => Step1.so fun tt htt => ?_
  unfold convF
  split
  · rename_i kd kd' hd hd'
    exact convI_s (K.ty _ _ hts) (K.ty _ _ htt) (by assumption) (by assumption) ho
  · exact convSS_s (K.ty _ _ hts) (K.ty _ _ htt) (by assumption) (by assumption) ho
  · exact Step1.so fun te hte => Step1.selF (fun hu => convSB_s (K.ty _ _ hts) (K.ty _ _ htt) (K.ty _ _ hte) (by assumption) (by assumption) (isU8_some hu).1 ho) fun _ => Step1.bad'
  · exact Step1.so fun te hte => Step1.selF (fun hu => convBS_s (K.ty _ _ hts) (K.ty _ _ htt) (K.ty _ _ hte) (by assumption) (by assumption) (isU8_some hu).1 ho) fun _ => Step1.bad'
  · exact Step1.bad'

/-! ### Objects made -/

theorem alloc_heap (w : World) (co : Obj) : (w.alloc co).heap = w.heap.push co := rfl

theorem Went.obj {ι : Inj} {w : World} (r : Rel ι h w) (hn : h.next < 1048576) {ob : AObj} {co : Obj} (hno : ∀ vs esz opn frz pars, ob ≠ .cells vs esz opn frz pars)
    (ho : ∀ w1 : World, w1.heap[w.heap.size]? = some co → ObjRel (upd ι h.next ⟨w.heap.size, 0, 0, 0, 0⟩) ⟨w.heap.size, 0, 0, 0, 0⟩ w1 ob) :
    Went ι h w (upd ι h.next ⟨w.heap.size, 0, 0, 0, 0⟩) (h.alloc ob) (w.alloc co) :=
  Went.alloc r _ _ hn (by simp) (fun B hB => by rw [alloc_heap, Array.getElem?_push, if_neg (Nat.ne_of_lt hB)]) (Nat.le_refl _) (by simp)
    (ho _ (by rw [alloc_heap, Array.getElem?_push, if_pos rfl])) fun vs esz opn frz pars hq => absurd hq (hno _ _ _ _ _)

theorem opMap_s {t : TypeId} {rs : Option Operand} (ho : o.op = .makeMap t rs) : Step1 o.dst x e (HV P o e h) NoP (fun p k => (opMap rs o.dst).run g x e h p k) := by
  cases rs with
  | some q => exact Step1.bad'
  | none =>
    refine allocV_s fun hn ι w ρ r he => ?_
    have W := Went.obj (ob := .map [] 0) (co := .map #[] 0) r hn (by simp) (fun w1 hw1 => ⟨#[], 0, hw1, rfl, rfl, fun k p e hk => by simp at hk, fun e he => by simp at he, by simp⟩)
    refine ⟨_, _, .map (some w.heap.size), W, by simp [ren, upd_self], .inl ?_⟩
    simp [execOp, ho, Instr.makeMap]

theorem opRange_s (K : COk C P) {t : TypeId} {a : Operand} (ho : o.op = .range t a) : Step1 o.dst x e (HV P o e h) NoP (fun p k => (opRange C t a o.dst).run g x e h p k) :=
  Step1.so fun ti ht => Step1.selF (fun hd => Step1.ox fun v hv => Step1.onMap fun mr hmr => by
    subst hmr
    have hd' : ∃ k el, ti.desc = .map k el := by unfold isMapD at hd; split at hd; exact ⟨_, _, by assumption⟩; cases hd
    obtain ⟨kt, et, hd'⟩ := hd'
    have T := K.ty _ _ ht
    unfold rangeX
    cases mr with
    | none =>
      refine allocV_s fun hn ι w ρ r he => ?_
      have h1 := he a (by simp [ho, Op.operands]) _ hv
      simp [ren] at h1
      have W := Went.obj (ob := .iter none 0) (co := .mapIter none 0 #[] 0) r hn (by simp) (fun w1 hw1 => ⟨rfl, none, 0, 0, hw1, rfl, rfl, fun _ => rfl, fun r hr => by cases hr⟩)
      refine ⟨_, _, _, W, ren_ptr_of (upd_self _ _ _), .inl ?_⟩
      simp [execOp, ho, Instr.range, run_underlying T, hd', ← h1]
    | some rr =>
      refine Step1.onMapO fun es ck hg => allocV_s fun hn ι w ρ r he => ?_
      have h1 := he a (by simp [ho, Op.operands]) _ hv
      obtain ⟨i, hb, h2⟩ := ren_map' h1
      obtain ⟨es', clock, hh, M⟩ := r.map hb hg
      have hne : rr ≠ h.next := Nat.ne_of_lt (r.lt hb)
      have W := Went.obj (ob := .iter (some rr) ck) (co := .mapIter (some i.B) clock #[] clock) r hn (by simp) (fun w1 hw1 => ⟨rfl, some i.B, clock, clock, hw1, M.hclock, M.hclock, (fun hr => by cases hr), fun r' hr => by cases hr; exact ⟨i, by rw [upd_ne _ _ hne]; exact hb, rfl⟩⟩)
      refine ⟨_, _, _, W, ren_ptr_of (upd_self _ _ _), .inl ?_⟩
      simp [execOp, ho, Instr.range, run_underlying T, hd', h2, run_getObj hh (by simp)]) fun _ => Step1.bad'

theorem iterDone_some {b off : Nat} (hd : iterDone h b off = true) : off = 0 ∧ ((∃ since, h.get b = some (.iter none since)) ∨ ∃ r since ck, h.get b = some (.iter (some r) since) ∧ h.get r = some (.map [] ck)) := by
  unfold iterDone at hd
  split at hd
  · rename_i hg; exact ⟨rfl, .inl ⟨_, hg⟩⟩
  · rename_i r since hg
    split at hd
    · rename_i hm
      obtain ⟨ck, hm⟩ := mapOf_some hm
      exact ⟨rfl, .inr ⟨r, since, ck, hg, hm⟩⟩
    · exact absurd hd Bool.false_ne_true
  · exact absurd hd Bool.false_ne_true

theorem opNext_s {a : Operand} {isStr : Bool} (ho : o.op = .next a isStr) : Step1 o.dst x e (HV P o e h) NoP (fun p k => (opNext a isStr o.dst).run g x e h p k) := by
  refine Step1.selF (fun _ => Step1.bad') fun hs => Step1.ox fun v hv => Step1.onPtr fun b off hb => Step1.when fun hd => Step1.put fun ι w ρ r he => ?_
  subst hb hs
  have h1 := he a (by simp [ho, Op.operands]) _ hv
  obtain ⟨i, hb, h2⟩ := ren_ptr h1
  obtain ⟨hz, hd'⟩ := iterDone_some hd
  subst hz
  refine ⟨ι, w, .tuple #[.bool false], Went.refl r, by simp [ren, renL], .inl ?_⟩
  obtain ⟨_, q, hq, hob⟩ := r.dom b i hb
  rcases hd' with ⟨since, hg⟩ | ⟨rr, since, ck, hg, hm⟩
  · rw [hg] at hq; cases hq
    obtain ⟨h0, m', s', st, g1, g2, g3, g4, g5⟩ := hob
    have hm' := g4 rfl
    subst hm'
    simp [execOp, ho, Instr.next, h2, h0, run_getObj g1 (by simp)]
  · rw [hg] at hq; cases hq
    obtain ⟨h0, m', s', st, g1, g2, g3, g4, g5⟩ := hob
    obtain ⟨j, hj, rfl⟩ := g5 rr rfl
    obtain ⟨es', clock, hh, M⟩ := r.map hj hm
    have hes : es' = #[] := by
      have := M.hlen
      simpa using this
    subst hes
    simp [execOp, ho, Instr.next, h2, h0, run_getObj g1 (by simp), run_getObj hh (by simp), run_choose, Question.forced]

end
end Go.Sim
end
section
/- Maps changed; slices made. -/
namespace Go.Sim

section
variable {P : Program} {C : Ctx} {o : Oper} {x : FX} {e : Env} {h : H} {g : G}

theorem Rel.aloneObj {ι : Inj} {w : World} (r : Rel ι h w) {b : Nat} {i : BI} {ob : AObj} (hb : ι b = some i) (hg : h.get b = some ob) (hc : ∀ vs esz opn frz pars, ob ≠ .cells vs esz opn frz pars) (hd : ob ≠ .dead) :
    ∀ b2 i2 o2, b2 ≠ b → ι b2 = some i2 → i2.B = i.B → h.get b2 = some o2 → o2 = .dead := by
  intro b2 i2 o2 hne h2 hB g2
  have hs := r.sep b b2 i i2 ob o2 (Ne.symm hne) hb h2 hB.symm hg g2
  cases ob with
  | cells vs esz opn frz pars => exact absurd rfl (hc _ _ _ _ _)
  | dead => exact absurd rfl hd
  | _ => cases o2 <;> simp [ShareOk] at hs ⊢

/-- AN OBJECT THAT IS NO ROW OF CELLS, CHANGED. -/
theorem Went.set {ι : Inj} {w : World} (r : Rel ι h w) {b : Nat} {i : BI} {ob ob' : AObj} {co : Obj} (hb : ι b = some i) (hg : h.get b = some ob) (hc : ∀ vs esz opn frz pars, ob ≠ .cells vs esz opn frz pars) (hd : ob ≠ .dead)
    (hc' : ∀ vs esz opn frz pars, ob' ≠ .cells vs esz opn frz pars) (ho : ∀ w1 : World, w1.heap[i.B]? = some co → (∀ B, B ≠ i.B → w1.heap[B]? = w.heap[B]?) → ObjRel ι i w1 ob') :
    Went ι h w ι (h.setO b ob') { w with heap := w.heap.setIfInBounds i.B co } := by
  have hlt := r.fits b i hb
  have h1 : (w.heap.setIfInBounds i.B co)[i.B]? = some co := by rw [Array.getElem?_setIfInBounds, if_pos rfl, if_pos hlt]
  have h2 : ∀ B, B ≠ i.B → (w.heap.setIfInBounds i.B co)[B]? = w.heap[B]? := fun B hB => by rw [Array.getElem?_setIfInBounds, if_neg (Ne.symm hB)]
  exact Went.change r hb ob' (by simp) h2 (ho _ h1 h2) (r.aloneObj hb hg hc hd) fun vs esz opn frz pars hq => absurd hq (hc' _ _ _ _ _)

theorem eqS_true {ι : Inj} {q p : AVal} {uc kc : Value} (hq : eqS q p = some true) (hu : ren ι q = some uc) (hk : ren ι p = some kc) : uc = kc ∧ (∀ n, Instr.sameBits n kc kc = true) := by
  unfold eqS at hq
  split at hq
  · simp [ren] at hu hk; subst hu hk
    simp at hq; subst hq
    exact ⟨rfl, fun n => by cases n <;> simp [Instr.sameBits]⟩
  · simp [ren] at hu hk; subst hu hk
    simp [eqKd_eq, sel_eq, eqI_eq] at hq
    obtain ⟨rfl, rfl⟩ := hq
    exact ⟨rfl, fun n => by cases n <;> simp [Instr.sameBits]⟩
  · simp [ren] at hu hk; subst hu hk
    simp [eqB_eq] at hq; subst hq
    exact ⟨rfl, fun n => by cases n <;> simp [Instr.sameBits, beq_toListBytes]⟩
  · cases hq

theorem eqL_cons (x y : AVal) (a b : List AVal) : eqL (x :: a) (y :: b) = ob (eqS x y) (fun q => sel q (eqL a b) (some false)) := rfl

theorem eqL_true {ι : Inj} : ∀ {xs ys : List AVal} {xc yc : List Value}, eqL xs ys = some true → renL ι xs = some xc → renL ι ys = some yc → xc = yc ∧ ∀ n, ∀ v ∈ xc.zip yc, Instr.sameBits n v.1 v.2 = true
  | [], [], xc, yc, _, h1, h2 => by
    rw [renL_nil] at h1 h2; subst h1 h2
    exact ⟨rfl, fun n v hv => by simp at hv⟩
  | [], _ :: _, _, _, h, _, _ => by cases h
  | _ :: _, [], _, _, h, _, _ => by cases h
  | x :: xs, y :: ys, xc, yc, h, h1, h2 => by
    obtain ⟨a, as, p1, p2, rfl⟩ := renL_cons.1 h1
    obtain ⟨b, bs, q1, q2, rfl⟩ := renL_cons.1 h2
    rw [eqL_cons] at h
    obtain ⟨q, r1, r2⟩ := ob_eq.1 h
    cases q with
    | false => cases r2
    | true =>
      obtain ⟨rfl, e2⟩ := eqS_true r1 p1 q1
      obtain ⟨rfl, e4⟩ := eqL_true r2 p2 q2
      refine ⟨rfl, fun n v hv => ?_⟩
      simp only [List.zip_cons_cons, List.mem_cons] at hv
      rcases hv with rfl | hv
      · exact e2 n
      · exact e4 n v hv

theorem eqK_true {ι : Inj} {q p : AVal} {uc kc : Value} (hq : eqK q p = some true) (hu : ren ι q = some uc) (hk : ren ι p = some kc) : uc = kc ∧ Instr.sameBits 10000 kc kc = true := by
  cases q with
  | agg xs =>
    cases p with
    | agg ys =>
      obtain ⟨xc, h1, rfl⟩ := ren_agg hu
      obtain ⟨yc, h2, rfl⟩ := ren_agg hk
      obtain ⟨rfl, e2⟩ := eqL_true (hq : eqL xs ys = some true) h1 h2
      refine ⟨rfl, ?_⟩
      show Instr.sameBits (9999 + 1) _ _ = true
      rw [Instr.sameBits]
      simp only [beq_self_eq_true, Bool.true_and, List.all_eq_true]
      intro v hv
      exact e2 9999 v (by simpa using hv)
    | _ => simp [eqK, eqS] at hq
  | _ =>
    first
    | (have := eqS_true (hq : eqS _ _ = some true) hu hk; exact ⟨this.1, this.2 _⟩)
    | (cases p <;> simp [eqK, eqS] at hq)

theorem putE_some {q v : AVal} : ∀ {es : List (AVal × AVal)} {r : AVal}, findE q es = some (some r) → True := fun _ => trivial

theorem mapSet_s (K : COk C P) {t : TypeId} {ti tk : TI} {kt et : TypeId} (T : TyOk P t ti) (hd : ti.desc = .map kt et) (TK : TyOk P kt tk) {ι : Inj} {w : World} (r : Rel ι h w) {rr : Nat} {i : BI} {es : List (AVal × AVal)} {ck : Nat} (hb : ι rr = some i) (hg : h.get rr = some (.map es ck))
    {q v : AVal} {qc vc : Value} (hfit : keyFit (C.eqT kt) tk.desc q = true) (hq : ren ι q = some qc) (hv : ren ι v = some vc) {f : Option AVal} (hf : findE q es = some f) :
    (f = none → ∃ w', Went ι h w ι (h.setO rr (.map (es ++ [(q, v)]) (ck + 1))) w' ∧ (Instr.mapUpdate t (.map (some i.B)) qc vc).run P w = .ok () w') ∧
    (∀ u es2, f = some u → putE' q v es = some es2 → ∃ w', Went ι h w ι (h.setO rr (.map es2 ck)) w' ∧ (Instr.mapUpdate t (.map (some i.B)) qc vc).run P w = .ok () w') := by
  obtain ⟨es', clock, hh, M⟩ := r.map hb hg
  obtain ⟨r', f1, f2⟩ := findKey_s K TK hfit hq M hf w
  have hck := checkKey_s K TK hfit hq false w
  constructor
  · rintro rfl
    have f1' : r' = none := f1
    subst f1'
    refine ⟨_, Went.set (co := .map (es'.push { key := qc, val := vc, born := clock }) (clock + 1)) r hb hg (by simp) (by simp) (by simp) (fun w1 hw1 _ => ?_), ?_⟩
    · refine ⟨_, _, hw1, by rw [M.hclock], by simp [M.hlen], fun k p en hk hk' => ?_, fun en hen => ?_, ?_⟩
      · rw [List.getElem?_append] at hk
        rw [Array.getElem?_push] at hk'
        split at hk
        · rename_i hlt
          rw [if_neg (by rw [M.hlen]; omega)] at hk'
          exact M.rel k p en hk hk'
        · rename_i hge
          have hk0 : k = es.length := by
            rcases Nat.lt_or_ge (k - es.length) 1 with q | q
            · omega
            · rw [List.getElem?_eq_none (by simpa using q)] at hk; cases hk
          subst hk0
          simp at hk; subst hk
          rw [if_pos M.hlen.symm] at hk'
          cases hk'
          exact ⟨hq, hv⟩
      · simp only [Array.toList_push, List.mem_append, List.mem_singleton] at hen
        rcases hen with hen | rfl
        · have := M.born en hen; omega
        · show clock < _; rw [M.hclock]; omega
      · simp only [Array.toList_push, List.map_append, List.map_cons, List.map_nil]
        rw [List.nodup_append]
        refine ⟨M.nodup, by simp, fun a ha b hb' => ?_⟩
        simp only [List.mem_singleton] at hb'
        subst hb'
        obtain ⟨en, h1, rfl⟩ := List.mem_map.1 ha
        have := M.born en h1
        rw [M.hclock]; omega
    · unfold Instr.mapUpdate
      rw [run_bind (run_underlying T w), hd]
      simp [run_getObj hh (by simp), hck, f2, run_setObj hh (by simp)]
  · intro u es2 hfu hp
    subst hfu
    obtain ⟨j, en, p, a1, a2, a3, a4, a5, a6⟩ := f1
    have hes := a6 v es2 hp
    obtain ⟨hk1, hk2⟩ := eqK_true a5 hq a4.1
    have a2' : es'[j]? = some en := by simpa using a2
    refine ⟨_, Went.set (co := .map (es'.modify j fun e => { e with key := qc, val := vc }) clock) r hb hg (by simp) (by simp) (by simp) (fun w1 hw1 _ => ?_), ?_⟩
    · refine ⟨_, _, hw1, M.hclock, by simp [M.hlen, hes], fun k p' en' hk hk' => ?_, fun en' hen => ?_, ?_⟩
      · rw [hes, List.getElem?_set] at hk
        rw [Array.getElem?_modify] at hk'
        by_cases hjk : j = k
        · subst hjk
          rw [if_pos rfl, if_pos (by rw [← M.hlen]; exact (Array.getElem?_eq_some_iff.1 a2').1)] at hk
          rw [if_pos rfl, a2'] at hk'
          cases hk; cases hk'
          exact ⟨by rw [hk1]; exact a4.1, hv⟩
        · rw [if_neg hjk] at hk hk'
          exact M.rel k p' en' hk hk'
      · obtain ⟨k, hk⟩ := List.getElem?_of_mem hen
        rw [Array.getElem?_toList, Array.getElem?_modify] at hk
        split at hk
        · cases hz : es'[k]? with
          | none => rw [hz] at hk; cases hk
          | some e0 =>
            rw [hz] at hk; cases hk
            exact M.born e0 (List.mem_of_getElem? (by rw [Array.getElem?_toList]; exact hz))
        · exact M.born en' (List.mem_of_getElem? (by rw [Array.getElem?_toList]; exact hk))
      · have : ((es'.modify j fun e => { e with key := qc, val := vc }).toList.map (·.born)) = es'.toList.map (·.born) := by
          apply List.ext_getElem?
          intro k
          rw [List.getElem?_map, List.getElem?_map, Array.getElem?_toList, Array.getElem?_toList, Array.getElem?_modify]
          split
          · cases es'[k]? <;> rfl
          · rfl
        rw [this]
        exact M.nodup
    · unfold Instr.mapUpdate
      rw [run_bind (run_underlying T w), hd]
      rw [hk1] at f2 hck ⊢
      have hks : (Instr.keyThatStays en.key en.key).run P w = .ok en.key w := by
        unfold Instr.keyThatStays
        rw [if_pos hk2]; rfl
      simp [run_getObj hh (by simp), hck, f2, a1, a2', hks, run_setObj hh (by simp)]

theorem opMapSet_s (K : COk C P) {t : TypeId} {m q v : Operand} (ho : o.op = .mapUpdate t m q v ∨ o.op = .insert t m q v) : Step1 o.dst x e (HV P o e h) NoP (fun p k => (opMapSet C t m q v o.dst).run g x e h p k) :=
  Step1.so fun ti ht => Step1.so fun pr hpr => Step1.so fun tk htk => Step1.ox fun mv hmv => Step1.onMap fun mr hmr => Step1.ox fun rr hrr => Step1.ox fun qv hqv => Step1.ox fun vv hvv => Step1.when fun hfit => Step1.onMapO fun es ck hg => Step1.ox fun f hf => by
    subst hmr hrr
    obtain ⟨kt, et⟩ := pr
    have hd : ti.desc = .map kt et := by unfold mapD at hpr; split at hpr <;> simp_all
    have main : ∀ h', (∀ (ι : Inj) (w : World) (i : BI) (qc vc : Value), Rel ι h w → ι rr = some i → ren ι qv = some qc → ren ι vv = some vc → ∃ w', Went ι h w ι h' w' ∧ (Instr.mapUpdate t (.map (some i.B)) qc vc).run P w = .ok () w') → HV P o e h .undef h' := by
      intro h' hh ι w ρ r he
      have h1 := he m (by rcases ho with ho | ho <;> simp [ho, Op.operands]) _ hmv
      have h2 := he q (by rcases ho with ho | ho <;> simp [ho, Op.operands]) _ hqv
      have h3 := he v (by rcases ho with ho | ho <;> simp [ho, Op.operands]) _ hvv
      obtain ⟨i, hb, h4⟩ := ren_map' h1
      obtain ⟨w', W, hr⟩ := hh ι w i _ _ r hb h2 h3
      refine ⟨ι, w', undef, W, by simp [ren], .inr ⟨?_, rfl⟩⟩
      rcases ho with ho | ho <;> simp [execOp, ho, h4, hr]
    refine Step1.oe (fun hfn => Step1.put (main _ fun ι w i qc vc r hb hq hv => ?_)) fun u hfu => Step1.ox fun es2 hes2 => Step1.put (main _ fun ι w i qc vc r hb hq hv => ?_)
    · have := (mapSet_s K (K.ty _ _ ht) hd (K.ty _ _ htk) r hb hg hfit hq hv hf).1 hfn
      rw [app_eq]
      exact this
    · exact (mapSet_s K (K.ty _ _ ht) hd (K.ty _ _ htk) r hb hg hfit hq hv hf).2 u es2 hfu hes2

end
end Go.Sim
end
section
/- Slices made, appended to, copied, cleared. -/
namespace Go.Sim

theorem wrap64_small {n : Nat} (h : n ≤ 9223372036854775807) : IntKind.i64.wrap (n : Int) = (n : Int) := by
  rw [← wrap64_eq]
  show wrap64 (Int.ofNat n) = _
  simp only [wrap64, natBle, sel_eq]
  rw [if_pos (by simpa using h)]; rfl

section
variable {P : Program} {C : Ctx} {o : Oper} {x : FX} {e : Env} {h : H} {g : G}

theorem opMkSl_s (K : COk C P) {t : TypeId} {l c : Operand} (ho : o.op = .makeSlice t l c) : Step1 o.dst x e (HV P o e h) NoP (fun p k => (opMkSl C t l c o.dst).run g x e h p k) :=
  Step1.so fun ti ht => Step1.so fun el hel => Step1.so fun te hte => Step1.so fun z hz => Step1.ox fun lv hlv => Step1.ox fun cv hcv => Step1.onInt fun kl li hli => Step1.onInt fun kc ci hci =>
    Step1.ox fun cn hcn => Step1.ox fun ln hln => Step1.when fun hle => allocV_s fun hn ι w ρ r he => by
    subst hli hci
    obtain ⟨rfl, hc1⟩ := natIn_some hcn
    obtain ⟨rfl, hl1⟩ := natIn_some hln
    have T := K.ty _ _ ht
    have TE := K.ty _ _ hte
    have hd : ti.desc = .slice el := by unfold sliceD at hel; split at hel <;> simp_all
    have h1 := he l (by simp [ho, Op.operands]) _ hlv
    have h2 := he c (by simp [ho, Op.operands]) _ hcv
    simp [ren] at h1 h2
    obtain ⟨zv, z1, z2, z3, _⟩ := run_zero TE hz w
    have hzr := cSs_ren (ι := ι) z2
    have hzl := renL_length hzr
    have hsz : zv.cells.size = te.sz := by simpa [z3] using hzl
    have hrep := rep_ren hzr cn
    rw [← range_rep] at hrep
    have W := Went.row r hn hrep el te.sz
    refine ⟨_, _, _, W, ren_slc_of (upd_self _ _ _) amb0, .inl ?_⟩
    rw [capOf_row]
    obtain ⟨i, i1, i2, i3, _⟩ := TE.info
    have hwc : IntKind.i64.wrap (cn : Int) = (cn : Int) := wrap64_small (by omega)
    have hwl : IntKind.i64.wrap (ln : Int) = (ln : Int) := wrap64_small (by omega)
    have hbytes : te.bytes * cn ≤ 1099511627776 := by
      rw [natBle] at hle; exact of_decide_eq_true hle
    have hb' : ¬ ((i.bytes : Int) * (cn : Int) > 2 ^ 48) := by
      rw [i3]
      have h3 : ((te.bytes * cn : Nat) : Int) ≤ ((1099511627776 : Nat) : Int) := Int.ofNat_le.2 hbytes
      rw [Int.natCast_mul] at h3
      omega
    simp only [execOp, ho, Instr.makeSlice]
    rw [Sem.run_bind, run_bind (run_underlying T w), hd]
    simp only
    rw [← h1, ← h2]
    simp only [Sem.run_bind, asInt, asIntOf, Sem.run_pure, Result.andThen_ok, run_typeInfo i1, hwc, hwl]
    have c1 : ¬ (((decide ((cn : Int) < 0) || decide ((i.bytes : Int) * (cn : Int) > 2 ^ 48)) || decide ((ln : Int) < 0) || decide ((ln : Int) > (cn : Int))) = true) := by
      simp only [Bool.or_eq_true, decide_eq_true_eq]
      omega
    rw [if_neg c1]
    simp only [Sem.run_bind, run_askRoom, Result.andThen_ok, run_sizeOf TE, Int.toNat_natCast]
    by_cases h0 : cn * te.sz = 0
    · rw [if_pos h0]
      simp only [Sem.run_bind, Sem.run_pure, Result.andThen_ok]
      have e0 : (Array.range (cn * te.sz)).map (fun k => (#[] : Array Value)[k % (#[] : Array Value).size]!) = (Array.range (cn * zv.cells.size)).map (zv.cells[· % zv.cells.size]!) := by
        have e1 : Array.range 0 = #[] := rfl
        rw [hsz, h0, e1]; simp
      rw [e0, run_newRow]
      rfl
    · rw [if_neg h0]
      simp only [Sem.run_bind, z1, Sem.run_pure, Result.andThen_ok]
      rw [← hsz, run_newRow]
      rfl

/-! ### Appends -/

theorem elemT_some {ats : Array TypeId} {te : TI} (h : elemT C ats.toList = some te) : ∃ t ti el, ats[0]? = some t ∧ C.tt.get t = some ti ∧ ti.desc = .slice el ∧ C.tt.get el = some te := by
  unfold elemT at h
  split at h
  · rename_i t rest hl
    obtain ⟨ti, h1, h⟩ := ob_eq.1 h
    obtain ⟨el, h2, h⟩ := ob_eq.1 h
    refine ⟨t, ti, el, by rw [← Array.getElem?_toList, hl]; rfl, h1, ?_, h⟩
    unfold sliceD at h2; split at h2 <;> simp_all
  · cases h

theorem secondT_some (K : COk C P) {ats : Array TypeId} (h : secondT C ats.toList = true) : ∃ t d, ats[1]? = some t ∧ (∀ w, (underlying t).run P w = .ok d w) ∧ ∀ k, d ≠ .int k := by
  unfold secondT at h
  split at h
  · rename_i t0 t rest hl
    cases ht : C.tt.get t with
    | none => simp [ht] at h
    | some ti =>
      rw [ht, oe_some] at h
      refine ⟨t, ti.desc, by rw [← Array.getElem?_toList, hl]; rfl, fun w => run_underlying (K.ty _ _ ht) w, fun k hk => ?_⟩
      rw [hk] at h; simp [notIntD] at h
  · cases h

theorem growBy_le (need : Nat) : ∀ (n c : Nat), c < need → Builtin.growBy need n c ≤ need + (need + 768) / 4
  | 0, c, h => by simp [Builtin.growBy]; omega
  | n + 1, c, h => by
    unfold Builtin.growBy
    rw [if_neg (by omega)]
    by_cases q : c + (c + 768) / 4 < need
    · exact growBy_le need n _ q
    · cases n with
      | zero => simp [Builtin.growBy]; omega
      | succ n => unfold Builtin.growBy; rw [if_pos (by omega)]; omega

theorem nextslicecap_le {need oldCap : Nat} (h : oldCap < need) : Builtin.nextslicecap need oldCap ≤ 2 * need + 192 := by
  unfold Builtin.nextslicecap
  split
  · omega
  · split
    · omega
    · have := growBy_le need 4 oldCap h
      omega

/-- what the model's append does, in one statement -/
theorem run_append_in {t el : TypeId} {ti te : TI} (T : TyOk P t ti) (hd : ti.desc = .slice el) (TE : TyOk P el te) {ats : Array TypeId} {ty t2 : TypeId} {d2 : TypeDesc} (h0 : ats[0]? = some t) (h1 : ats[1]? = some t2)
    {base : Option Addr} {l capc n : Nat} {y : Value} {w w' : World} (hd2 : (underlying t2).run P w = .ok d2 w) (hn2 : ∀ k, d2 ≠ .int k) (hl : (Builtin.lenOf y).run P w = .ok n w) {new : Array Value} (hnew : (Builtin.firstCells te.sz n y).run P w = .ok new w)
    (hcap : l + n ≤ capc) (hst : ∀ a, base = some a → (storeCells (a.add (l * te.sz)) new.toList).run P w = .ok () w') (hnone : base = none → w' = w) :
    (Builtin.append_ ats ty #[.slice base l capc, y]).run P w = .ok (.slice base (l + n) capc) w' := by
  unfold Builtin.append_
  simp only [h0, h1]
  have hz : (match d2 with | .int _ => true | _ => false) = false := by cases d2 <;> first | rfl | exact absurd rfl (hn2 _)
  cases base with
  | none =>
    have := hnone rfl; subst this
    simp [run_underlying T, hd, run_sizeOf TE, hd2]
    cases d2 <;> first | exact absurd rfl (hn2 _) | simp [hl, hnew, hcap]
  | some a =>
    have hs := hst a rfl
    simp [run_underlying T, hd, run_sizeOf TE, hd2]
    cases d2 <;> first | exact absurd rfl (hn2 _) | simp [hl, hnew, hcap, hs]

theorem run_append_new {t el : TypeId} {ti te : TI} (T : TyOk P t ti) (hd : ti.desc = .slice el) (TE : TyOk P el te) {ats : Array TypeId} {ty t2 : TypeId} {d2 : TypeDesc} (h0 : ats[0]? = some t) (h1 : ats[1]? = some t2)
    {base : Option Addr} {l capc n : Nat} {y : Value} {w : World} (hd2 : ∀ w, (underlying t2).run P w = .ok d2 w) (hn2 : ∀ k, d2 ≠ .int k) (hl : (Builtin.lenOf y).run P w = .ok n w) {old new : Array Value}
    (hnew : ∀ w' : World, w'.heap = w.heap → (Builtin.firstCells te.sz n y).run P w' = .ok new w') (hold : ∀ w' : World, w'.heap = w.heap → (Builtin.firstCells te.sz l (.slice base l capc)).run P w' = .ok old w')
    (hcap : ¬ l + n ≤ capc) {z : List AVal} (hz : te.zero = some z) (hb1 : 1 ≤ te.bytes) (hb2 : te.bytes ≤ 1073741824) (hb : (l + n) * te.bytes ≤ 1099511627776) :
    ∃ w1 newCap rest, l + n ≤ newCap ∧ (rest : Array Value).size = (newCap - (l + n)) * te.sz ∧ w1.heap = w.heap.push (.cells (old ++ new ++ rest) el (0, 0)) ∧ SameOut w w1 ∧
      (Builtin.append_ ats ty #[.slice base l capc, y]).run P w = .ok (.slice (some ⟨w.heap.size, 0, none⟩) (l + n) newCap) w1 := by
  obtain ⟨i, i1, i2, i3, _⟩ := TE.info
  let q := Question.appendCap (l + n) capc el
  let newCap := q.cut (w.tape w.drawn q)
  have hnc : l + n ≤ newCap := by show l + n ≤ l + n + _; omega
  obtain ⟨zv, z1, z2, z3, _⟩ := run_zero TE hz w.drew
  have hzl : zv.cells.size = te.sz := by
    have := renL_length (cSs_ren (ι := fun _ => none) z2)
    simpa [z3] using this
  refine ⟨w.drew.alloc (.cells (old ++ new ++ Builtin.zeroCells zv.cells (newCap - (l + n))) el), newCap, Builtin.zeroCells zv.cells (newCap - (l + n)), hnc, by simp [Builtin.zeroCells, hzl], rfl, ⟨rfl, rfl, rfl⟩, ?_⟩
  have hneed : l + n ≤ 1099511627776 := Nat.le_trans (Nat.le_mul_of_pos_right _ hb1) hb
  have hns := nextslicecap_le (need := l + n) (oldCap := capc) (by omega)
  have hsmall : ¬ (281474976710656 < Builtin.nextslicecap (l + n) capc * te.bytes) := by
    have h1 : Builtin.nextslicecap (l + n) capc * te.bytes ≤ (2 * (l + n) + 192) * te.bytes := Nat.mul_le_mul_right _ hns
    have h2 : (2 * (l + n) + 192) * te.bytes = 2 * ((l + n) * te.bytes) + 192 * te.bytes := by rw [Nat.add_mul, Nat.mul_assoc]
    have h3 : 192 * te.bytes ≤ 192 * 1073741824 := Nat.mul_le_mul_left _ hb2
    omega
  have hmax : ¬ (9223372036854775807 < ((l : Int) + (n : Int))) := by omega
  have hbz : te.bytes ≠ 0 := by omega
  have hn0 := hnew w.drew rfl
  have ho0 := hold w.drew rfl
  have hq : (choose q).run P w = .ok newCap w.drew := run_choose' rfl
  simp only [Builtin.append_, h0, h1]
  have e0 : (#[Value.slice base l capc, y] : Array Value)[0]? = some (.slice base l capc) := rfl
  have e1 : (#[Value.slice base l capc, y] : Array Value)[1]? = some y := rfl
  rw [e0, e1]
  simp only
  rw [run_bind (run_underlying T w), hd]
  simp only
  rw [run_bind (run_sizeOf TE w)]
  rw [run_bind (hd2 w)]
  refine Eq.trans (run_bind (a := false) (w1 := w) (by cases d2 <;> first | rfl | exact absurd rfl (hn2 _))) ?_
  simp only [Bool.false_eq_true, if_false, Bool.not_false, if_true, false_or]
  rw [run_bind hl, if_neg hcap]
  have hm2 : IntKind.i64.max = 9223372036854775807 := by simp [IntKind.max, IntKind.bits, IntKind.signed]
  rw [run_bind (run_typeInfo i1 w), if_neg (by rw [hm2, i3]; omega), run_bind (run_typeInfo i1 w), if_neg (by rw [i3]; omega)]
  rw [run_bind hq, run_bind (run_typeInfo i1 _), run_bind (run_askRoom _ _ _), run_bind ho0, run_bind hn0, run_bind z1, run_bind (run_newRow _ _)]
  rfl

end
end Go.Sim
end
section
/- Append, copy, clear. -/
namespace Go.Sim

section
variable {P : Program} {C : Ctx} {o : Oper} {x : FX} {e : Env} {h : H} {g : G}

theorem Rel.heap {ι : Inj} {w w' : World} (r : Rel ι h w) (hw : w'.heap = w.heap) : Rel ι h w' where
  cap := r.cap
  dom := fun b i hb => let ⟨h1, q, h2, h3⟩ := r.dom b i hb; ⟨h1, q, h2, h3.mono (Ext.refl ι) (by rw [hw])⟩
  sep := r.sep
  fits := fun b i hb => by rw [hw]; exact r.fits b i hb
  par := r.par

/-- what the abstract append has to answer for -/
def AV (P : Program) (h : H) (ats : Array TypeId) (ty : TypeId) (sa : Option (Nat × Nat)) (l cap : Nat) (y : AVal) : AVal → H → Prop := fun v h' =>
  ∀ ι w sc yc, Rel ι h w → ren ι (.slc sa l cap) = some sc → ren ι y = some yc → ∃ ι' w' vc, Went ι h w ι' h' w' ∧ ren ι' v = some vc ∧ (Builtin.append_ ats ty #[sc, yc]).run P w = .ok vc w'

theorem allocV_p {V : AVal → H → Prop} {Q : List (AVal × Bool) → H → Prop} {h0 : H} {ob : AObj} {v : AVal} (hV : h0.next < 1048576 → V v (h0.alloc ob)) : Step1 o.dst x e V Q (fun _ k => allocV o.dst x e h0 k ob v) :=
  Step1.when (t := fun _ k => (putF o.dst).run v x e (h0.alloc ob) k) fun hr => Step1.put (hV (by simpa [H.room] using hr))

theorem append_new_s {t el : TypeId} {ti te : TI} (T : TyOk P t ti) (hd : ti.desc = .slice el) (TE : TyOk P el te) {ats : Array TypeId} {ty t2 : TypeId} {d2 : TypeDesc} (h0 : ats[0]? = some t) (h1 : ats[1]? = some t2)
    (hd2 : ∀ w, (underlying t2).run P w = .ok d2 w) (hn2 : ∀ k, d2 ≠ .int k) {z : List AVal} (hz : te.zero = some z) (hb1 : 1 ≤ te.bytes) (hb2 : te.bytes ≤ 1073741824) {l n : Nat} (hb : (l + n) * te.bytes ≤ 1099511627776)
    {y : AVal} {old new : List AVal} (hr : readSl h te.sz y = some (n, new)) {h1' : H} {pars : List Nat} (hn : h1'.next < 1048576) (hpars : ∀ p ∈ pars, p < h1'.next)
    {ι : Inj} {w : World} (r : Rel ι h w) (W1 : Went ι h w ι h1' w) {base : Option Addr} {capc : Nat} {yc : Value} (hy : ren ι y = some yc) (hcap : ¬ l + n ≤ capc)
    {oldc : List Value} (ho1 : renL ι old = some oldc) (ho2 : oldc.length = l * te.sz) (ho3 : ∀ w' : World, w'.heap = w.heap → (Builtin.firstCells te.sz l (.slice base l capc)).run P w' = .ok oldc.toArray w') :
    ∃ ι' w' vc, Went ι h w ι' (h1'.alloc (.cells (app old new) te.sz true false pars)) w' ∧ ren ι' (.slc (some (h1'.next, 0)) (l + n) (l + n)) = some vc ∧ (Builtin.append_ ats ty #[.slice base l capc, yc]).run P w = .ok vc w' := by
  obtain ⟨q1, newc, q2, q3, q4⟩ := readSl_s (P := P) r hr hy
  have hnew : ∀ w' : World, w'.heap = w.heap → (Builtin.firstCells te.sz n yc).run P w' = .ok newc.toArray w' := by
    intro w' hw'
    obtain ⟨_, newc', p2, p3, p4⟩ := readSl_s (P := P) (r.heap hw') hr hy
    rw [q2] at p2; cases p2
    have := p4 n (Nat.le_refl _)
    rwa [List.take_of_length_le (by rw [p3]; exact Nat.le_refl _)] at this
  obtain ⟨w1, newCap, rest, s1, s2, s3, so, s4⟩ := run_append_new (ty := ty) T hd TE h0 h1 hd2 hn2 q1 hnew ho3 hcap hz hb1 hb2 hb
  have hv : renL ι (old ++ new) = some (oldc ++ newc) := renL_append ho1 q2
  have hlen := renL_length hv
  have hmul : (l + n) * te.sz = l * te.sz + n * te.sz := Nat.add_mul _ _ _
  have hol : (old ++ new).length = (l + n) * te.sz := by rw [← hlen, List.length_append, ho2, q3, hmul]
  have hsp : (newCap - (l + n)) * te.sz = rest.size := s2.symm
  have W2 := Went.cells (w1 := w1) W1.rel hn (vs := old ++ new) hv (cells := oldc.toArray ++ newc.toArray ++ rest) (T := el) (fz := (0, 0)) (esz := te.sz) (spare := newCap - (l + n)) (opn := true) (pars := pars) (by simp)
    (by rw [hsp, ← hlen]; simp) (fun k u hk => by
      have hk' : k < (oldc ++ newc).length := by
        rcases Nat.lt_or_ge k (oldc ++ newc).length with q | q
        · exact q
        · rw [List.getElem?_eq_none q] at hk; cases hk
      have e : oldc.toArray ++ newc.toArray ++ rest = (oldc ++ newc ++ rest.toList).toArray := by apply Array.ext'; simp
      rw [e, List.getElem?_toArray, List.getElem?_append_left hk']
      exact hk) (fun k _ => by simp) s3 hpars so
  rw [app_eq]
  refine ⟨_, w1, _, W1.trans W2, ren_slc_of (upd_self _ _ _) amb0, ?_⟩
  have hc : capOf ⟨w.heap.size, 0, (old ++ new).length, newCap - (l + n), te.sz⟩ 0 (l + n) = newCap := by
    unfold capOf
    rw [if_pos (by simp only [hol]; omega)]
    show l + n + (newCap - (l + n)) = newCap
    omega
  rw [hc]
  exact s4

theorem appendA_s (K : COk C P) {t el : TypeId} {ti te : TI} (T : TyOk P t ti) (hd : ti.desc = .slice el) (TE : TyOk P el te) {ats : Array TypeId} {ty t2 : TypeId} {d2 : TypeDesc} (h0 : ats[0]? = some t) (h1 : ats[1]? = some t2)
    (hd2 : ∀ w, (underlying t2).run P w = .ok d2 w) (hn2 : ∀ k, d2 ≠ .int k) {z : List AVal} (hz : te.zero = some z) {sa : Option (Nat × Nat)} {l cap n : Nat} {y : AVal} {new : List AVal} (hr : readSl h te.sz y = some (n, new)) :
    Step1 o.dst x e (AV P h ats ty sa l cap y) NoP (fun p k => appendA o.dst x e h k te.sz te.bytes sa l cap n new) := by
  -- the slice's own value
  have hself : ∀ {ι : Inj} {sc : Value}, ren ι (.slc sa l cap) = some sc → ∃ base capc, sc = .slice base l capc ∧ cap ≤ capc := by
    intro ι sc hs
    cases sa with
    | none => simp [ren] at hs; exact ⟨none, cap, hs.symm, Nat.le_refl _⟩
    | some q => obtain ⟨i, _, rfl⟩ := ren_slcE (b := q.1) (off := q.2) hs; exact ⟨_, _, rfl, capE_le⟩
  refine Step1.sel (fun hn0 => Step1.when fun hlc => Step1.put ?_) fun hn0 => Step1.when fun hc => ?_
  · -- nothing is appended
    simp at hn0 hlc
    subst hn0
    intro ι w sc yc r hs hy
    obtain ⟨q1, newc, q2, q3, q4⟩ := readSl_s (P := P) r hr hy
    have q5 := q4 0 (Nat.le_refl _)
    simp at q5
    obtain ⟨base, capc, rfl, hle⟩ := hself hs
    have hrun := run_append_in (ty := ty) (w' := w) T hd TE h0 h1 (base := base) (l := l) (capc := capc) (hd2 w) hn2 q1 q5 (by omega) (fun a ha => by simp [storeCells]) (fun _ => rfl)
    exact ⟨ι, w, _, Went.refl r, hs, hrun⟩
  · simp at hn0
    simp only [Bool.and_eq_true, natBle, natBeq, decide_eq_true_eq, natAdd, natMul] at hc
    obtain ⟨⟨⟨hb, hb1⟩, hb2⟩, hnl⟩ := hc
    rw [len_eq] at hnl
    unfold appendB
    cases sa with
    | none =>
      refine Step1.when fun hz0 => allocV_p fun hroom => ?_
      simp at hz0
      obtain ⟨rfl, rfl⟩ := hz0
      intro ι w sc yc r hs hy
      simp [ren] at hs; subst hs
      have := append_new_s (base := none) (capc := 0) (ty := ty) (old := []) (pars := []) T hd TE h0 h1 hd2 hn2 hz hb1 hb2 hb hr hroom (fun p hp => by cases hp) r (Went.refl r) hy (by omega) (oldc := []) (by simp [renL]) (by simp) (fun w' _ => by simp [Builtin.firstCells])
      simpa [app_eq] using this
    | some q =>
      obtain ⟨b, off⟩ := q
      refine Step1.sel (fun hle => writeX_s fun vs esz opn pars hg hp hle2 => Step1.put ?_) fun hle => Step1.onCells fun vs e' opn frz pars hg => ?_
      · -- in place
        simp at hle hn0
        have hna : ¬ (amb ≤ off ∧ l = 0 ∧ cap = 0) := fun hh => by omega
        intro ι w sc yc r hs hy
        obtain ⟨i, hb', rfl⟩ := ren_slc hs hna
        obtain ⟨q1, newc, q2, q3, q4⟩ := readSl_s (P := P) r hr hy
        have q5 := q4 n (Nat.le_refl _)
        rw [List.take_of_length_le (by rw [q3]; exact Nat.le_refl _)] at q5
        obtain ⟨s1, W⟩ := Went.write P r hb' hg hle2 q2 hp
        have hcc := capOf_le (i := i) (off := off) (cap := cap)
        refine ⟨ι, _, _, W, ren_slc_of hb' (fun hh => by omega), ?_⟩
        exact run_append_in (ty := ty) T hd TE h0 h1 (hd2 w) hn2 q1 q5 (by omega) (fun a ha => by cases ha; rw [add_none]; simpa [Nat.add_assoc] using s1) (fun ha => by cases ha)
      · simp at hle
        refine Step1.ox fun old hold => Step1.sel (fun hcl => allocV_p fun hroom => ?_) fun hcl => Step1.when fun hcond => allocV_p fun hroom => ?_
        · -- a new block: the slice's room is known
          intro ι w sc yc r hs hy
          have hna : off < amb := by
            have hcl : sel (Nat.ble amb off) false (closedE te.sz off cap (h.get b)) = true := hcl
            rw [natBle, sel_eq] at hcl
            split at hcl
            · cases hcl
            · rename_i q; simp at q; omega
          obtain ⟨i, hb', rfl⟩ := ren_slc hs (fun hh => absurd hh.1 (by omega))
          obtain ⟨_, c1, _, _⟩ := closed_cap r hb' hcl
          obtain ⟨oldc, o1, o2, o3⟩ := firstCells_slice r hb' (by rw [hg]; rfl) hold
          have ho3 : ∀ w' : World, w'.heap = w.heap → (Builtin.firstCells te.sz l (.slice (some ⟨i.B, i.base + off, none⟩) l (capOf i off cap))).run P w' = .ok oldc.toArray w' := by
            intro w' hw'
            obtain ⟨oldc', p1, p2, p3⟩ := firstCells_slice (r.heap hw') hb' (by rw [hg]; rfl) hold
            rw [o1] at p1; cases p1
            have := run_loadCells (P := P) (w := w') oldc p3
            rw [o2] at this
            exact this
          have := append_new_s (pars := []) (ty := ty) T hd TE h0 h1 hd2 hn2 hz hb1 hb2 hb hr hroom (fun p hp => by cases hp) r (Went.refl r) hy (capc := capOf i off cap) (by rw [c1]; omega) o1 o2 ho3
          exact this
        · -- the slice ends where its block does: either
          intro ι w sc yc r hs hy
          simp only [Bool.and_eq_true, natBeq, natBle, decide_eq_true_eq, natAdd, natMul, Bool.not_eq_true', decide_eq_false_iff_not] at hcond
          obtain ⟨⟨⟨⟨⟨⟨hopn, hfrz⟩, hna⟩, hlc⟩, hesz⟩, hend⟩, hp⟩ := hcond
          obtain ⟨i, hb', rfl⟩ := ren_slc hs (fun hh => absurd hh.1 (by omega))
          subst hopn hfrz hlc hesz
          rw [len_eq] at hend
          obtain ⟨esz', opn', frz', pars', cs, TT, fz, hg', hh, R⟩ := r.cells hb' (by rw [hg]; rfl)
          rw [hg] at hg'; cases hg'
          have hcapc : capOf i off l = l + i.spare := by
            unfold capOf
            rw [R.hesz, R.hcells, if_pos hend]
          obtain ⟨oldc, o1, o2, o3⟩ := firstCells_slice r hb' (by rw [hg]; rfl) hold
          by_cases hfit : n ≤ i.spare
          · -- there is room
            obtain ⟨q1, newc, q2, q3, q4⟩ := readSl_s (P := P) r hr hy
            have q5 := q4 n (Nat.le_refl _)
            rw [List.take_of_length_le (by rw [q3]; exact Nat.le_refl _)] at q5
            have hold' : old = vs.drop off := by
              rw [takeX_eq, dropX_eq] at hold
              split at hold
              · cases hold
                rw [List.take_of_length_le (by simp; omega)]
              · cases hold
            have hol : old.length = l * te.sz := by rw [← renL_length o1]; exact o2
            obtain ⟨s1, W⟩ := Went.grow P r hb' hg (n := n) (by omega) hold' hnl q2 hp hfit (by simpa using hroom)
            rw [app_eq]
            have hnx : (h.setO b (.cells vs te.sz true true pars)).next = h.next := rfl
            refine ⟨_, _, _, W, ren_slc_of (upd_self _ _ _) amb0, ?_⟩
            have hc2 : capOf ⟨i.B, i.base + off, (old ++ new).length, i.spare - n, te.sz⟩ 0 (l + n) = capOf i off l := by
              rw [hcapc]
              unfold capOf
              rw [if_pos (by simp only [List.length_append, hol, hnl, Nat.add_mul]; omega)]
              show l + n + (i.spare - n) = l + i.spare
              omega
            simp only [natAdd]
            rw [hc2]
            refine run_append_in (ty := ty) T hd TE h0 h1 (hd2 w) hn2 q1 q5 (by omega) (fun a ha => ?_) (fun ha => by cases ha)
            cases ha
            rw [add_none]
            rw [show i.base + off + l * te.sz = i.base + vs.length by omega]
            exact s1
          · have ho3 : ∀ w' : World, w'.heap = w.heap → (Builtin.firstCells te.sz l (.slice (some ⟨i.B, i.base + off, none⟩) l (capOf i off l))).run P w' = .ok oldc.toArray w' := by
              intro w' hw'
              obtain ⟨oldc', p1, p2, p3⟩ := firstCells_slice (r.heap hw') hb' (by rw [hg]; rfl) hold
              rw [o1] at p1; cases p1
              have := run_loadCells (P := P) (w := w') oldc p3
              rw [o2] at this
              exact this
            have := append_new_s (h1' := h.setO b (.cells vs te.sz true true pars)) (pars := b :: pars) (ty := ty) T hd TE h0 h1 hd2 hn2 hz hb1 hb2 hb hr hroom
              (fun p hp => by
                cases hp with
                | head => exact r.lt hb'
                | tail _ hp => exact r.par b i _ _ _ _ _ hb' hg p hp) r (Went.freeze r hb' hg) hy (capc := capOf i off l) (by rw [hcapc]; omega) o1 o2 ho3
            exact this

theorem bAppend_s (K : COk C P) {c : Call} (ho : o.op = .call c) (hc : c.callee = .builtin .append) : Step1 o.dst x e (HV P o e h) NoP (fun p k => (bAppend C c.argTypes.toList c.args.toList o.dst).run g x e h p k) := by
  refine Step1.so fun te hte => Step1.so fun z hz => Step1.selF (fun h2 => ?_) fun _ => Step1.bad'
  obtain ⟨t, ti, el, t1, t2, t3, t4⟩ := elemT_some hte
  obtain ⟨t', d2, s1, hd2, s3⟩ := secondT_some K h2
  split
  · rename_i a b has
    refine Step1.ox fun u hu => Step1.onSlc fun sa l cap hsa => Step1.ox fun y hy => Step1.ox fun p hp => ?_
    obtain ⟨n, new⟩ := p
    refine (appendA_s K (K.ty _ _ t2) t3 (K.ty _ _ t4) (ty := o.type) t1 s1 hd2 s3 hz hp).mono (fun v h' hv ι w ρ r he => ?_) fun _ _ hf => hf
    subst hsa
    have h1 := he a (by simp [ho, Op.operands, Call.operands, hc, has]) _ hu
    have h2 := he b (by simp [ho, Op.operands, Call.operands, hc, has]) _ hy
    obtain ⟨ι', w', vc, W, v1, v2⟩ := hv ι w _ _ r h1 h2
    refine ⟨ι', w', vc, W, v1, .inl ?_⟩
    obtain ⟨consts, hr⟩ := run_builtin (P := P) (ρ := ρ) ho hc w
    rw [hr]
    have : c.args.map ρ = #[ρ a, ρ b] := by apply Array.ext'; rw [Array.toList_map, has]; rfl
    rw [this]
    simp [builtin, v2]
  · exact Step1.bad'

end
end Go.Sim
end
section
/- Copy, clear; panics. -/
namespace Go.Sim

section
variable {P : Program} {C : Ctx} {o : Oper} {x : FX} {e : Env} {h : H} {g : G}

theorem run_copy {t el : TypeId} {ti te : TI} (T : TyOk P t ti) (hd : ti.desc = .slice el) (TE : TyOk P el te) {ats : Array TypeId} {ty : TypeId} (h0 : ats[0]? = some t) {base : Option Addr} {l c n : Nat} {y : Value} {w w' : World}
    (hl : (Builtin.lenOf y).run P w = .ok n w) {new : Array Value} (hnew : (Builtin.firstCells te.sz (Nat.min n l) y).run P w = .ok new w)
    (hst : ∀ a, base = some a → (storeCells a new.toList).run P w = .ok () w') (hnone : base = none → w' = w) :
    (Builtin.copy_ ats ty #[.slice base l c, y]).run P w = .ok (goInt (Nat.min n l : Nat)) w' := by
  unfold Builtin.copy_
  have e0 : (#[Value.slice base l c, y] : Array Value)[0]? = some (.slice base l c) := rfl
  have e1 : (#[Value.slice base l c, y] : Array Value)[1]? = some y := rfl
  simp only [h0, e0, e1]
  rw [run_bind (run_underlying T w), hd]
  simp only
  rw [run_bind hl, run_bind (run_sizeOf TE w), run_bind hnew]
  cases base with
  | none => have := hnone rfl; subst this; rfl
  | some a => simp only []; rw [run_bind (hst a rfl)]; rfl

theorem bCopy_s (K : COk C P) {c : Call} (ho : o.op = .call c) (hc : c.callee = .builtin .copy) : Step1 o.dst x e (HV P o e h) NoP (fun p k => (bCopy C c.argTypes.toList c.args.toList o.dst).run g x e h p k) := by
  refine Step1.so fun te hte => ?_
  obtain ⟨t, ti, el, t1, t2, t3, t4⟩ := elemT_some hte
  split
  · rename_i a b has
    refine Step1.ox fun u hu => Step1.onSlc fun sa l cap hsa => Step1.ox fun y hy => Step1.ox fun p hp => ?_
    obtain ⟨n, cs⟩ := p
    subst hsa
    have fin : ∀ (ι : Inj) (w : World) (ρ : Operand → Value) (v : Value) (w' : World), (Builtin.copy_ c.argTypes o.type #[ρ a, ρ b]).run P w = .ok v w' → (execOp ρ o).run P w = .ok (.value v) w' := by
      intro ι w ρ v w' hr
      obtain ⟨consts, hr'⟩ := run_builtin (P := P) (ρ := ρ) ho hc w
      rw [hr']
      have : c.args.map ρ = #[ρ a, ρ b] := by apply Array.ext'; rw [Array.toList_map, has]; rfl
      rw [this]
      simp [builtin, hr]
    have args : ∀ {ι : Inj} {ρ : Operand → Value}, Evs ι e ρ o.op.operands.toList → ren ι (.slc sa l cap) = some (ρ a) ∧ ren ι y = some (ρ b) := fun he =>
      ⟨he a (by simp [ho, Op.operands, Call.operands, hc, has]) _ hu, he b (by simp [ho, Op.operands, Call.operands, hc, has]) _ hy⟩
    refine Step1.sel (fun hn0 => Step1.put fun ι w ρ r he => ?_) fun hn0 => Step1.ox fun q hq => Step1.ox fun cs' hcs' => writeX_s fun vs esz opn pars hg hpl hle => Step1.put fun ι w ρ r he => ?_
    · obtain ⟨h1, h2⟩ := args he
      simp [minN_eq] at hn0
      have hm : Nat.min n l = 0 := by simpa using hn0
      obtain ⟨q1, newc, q2, q3, q4⟩ := readSl_s (P := P) r hp h2
      have q5 := q4 (Nat.min n l) (Nat.min_le_left _ _)
      rw [hm] at q5
      simp at q5
      obtain ⟨b', l', c', hr, _⟩ := ren_slcO h1
      have hl' : l' = l := by
        cases sa with
        | none => simp [ren] at h1; rw [hr] at h1; simp at h1; exact h1.2.1.symm
        | some q => obtain ⟨i, _, h3⟩ := ren_slcE (b := q.1) (off := q.2) h1; rw [hr] at h3; simp at h3; exact h3.2.1
      subst hl'
      refine ⟨ι, w, .int .i64 0, Went.refl r, by simp [ren], .inl (fin ι w ρ _ _ ?_)⟩
      rw [hr]
      have := run_copy (ty := o.type) (c := c') (base := b') (w' := w) (K.ty _ _ t2) t3 (K.ty _ _ t4) t1 q1 (by rw [hm]; exact q5) (fun a _ => by simp [storeCells]) (fun _ => rfl)
      rw [hm] at this
      exact this
    · obtain ⟨h1, h2⟩ := args he
      subst hq
      obtain ⟨bk, off⟩ := q
      have hl0 : l ≠ 0 := fun hz => by subst hz; simp [minN_eq] at hn0
      obtain ⟨i, hb, hr⟩ := ren_slc h1 (fun hh => hl0 hh.2.1)
      obtain ⟨q1, newc, q2, q3, q4⟩ := readSl_s (P := P) r hp h2
      have q5 := q4 (Nat.min n l) (Nat.min_le_left _ _)
      rw [takeX_eq] at hcs'
      split at hcs'
      · cases hcs'
        rw [minN_eq] at hle hpl ⊢
        have hren := renL_take (ι := ι) (min n l * te.sz) q2
        obtain ⟨s1, W⟩ := Went.write P r hb hg hle hren hpl
        refine ⟨ι, _, .int .i64 (Nat.min n l : Nat), W, by simp [ren, minN_eq], .inl (fin ι w ρ _ _ ?_)⟩
        rw [hr]
        exact run_copy (ty := o.type) (K.ty _ _ t2) t3 (K.ty _ _ t4) t1 q1 q5 (fun a ha => by cases ha; exact s1) (fun ha => by cases ha)
      · cases hcs'
  · exact Step1.bad'

theorem bClear_s (K : COk C P) {c : Call} (ho : o.op = .call c) (hc : c.callee = .builtin .clear) : Step1 o.dst x e (HV P o e h) NoP (fun p k => (bClear C c.argTypes.toList c.args.toList o.dst).run g x e h p k) := by
  unfold bClear
  split
  · rename_i t ts a hts has
    have fin : ∀ (w : World) (ρ : Operand → Value) (w' : World), (Builtin.clear_ c.argTypes o.type #[ρ a]).run P w = .ok (.tuple #[]) w' → (execOp ρ o).run P w = .ok (.value undef) w' := by
      intro w ρ w' hr
      obtain ⟨consts, hr'⟩ := run_builtin (P := P) (ρ := ρ) ho hc w
      rw [hr']
      have : c.args.map ρ = #[ρ a] := by apply Array.ext'; rw [Array.toList_map, has]; rfl
      rw [this]
      simp [builtin, hr]; rfl
    have t1 : c.argTypes[0]? = some t := by rw [← Array.getElem?_toList, hts]; rfl
    refine Step1.so fun ti ht => ?_
    have T := K.ty _ _ ht
    have arg : ∀ {ι : Inj} {ρ : Operand → Value} {u : AVal}, Evs ι e ρ o.op.operands.toList → (evF a).run e = some u → ren ι u = some (ρ a) := fun he hu => he a (by simp [ho, Op.operands, Call.operands, hc, has]) _ hu
    unfold bClear2
    split
    · rename_i kt et hd
      refine Step1.ox fun u hu => Step1.onMap fun mr hmr => ?_
      subst hmr
      refine Step1.oe (fun hn => Step1.put fun ι w ρ r he => ?_) fun rr hrr => Step1.onMapO fun es ck hg => Step1.put fun ι w ρ r he => ?_
      · have h1 := arg he hu
        subst hn
        simp [ren] at h1
        refine ⟨ι, w, undef, Went.refl r, by simp [ren], .inl (fin w ρ w ?_)⟩
        simp [Builtin.clear_, t1, run_underlying T, hd, ← h1]
      · have h1 := arg he hu
        subst hrr
        obtain ⟨i, hb, h2⟩ := ren_map' h1
        obtain ⟨es', clock, hh, M⟩ := r.map hb hg
        have W := Went.set (ob' := .map [] ck) (co := .map #[] clock) r hb hg (by simp) (by simp) (by simp) (fun w1 hw1 _ => ⟨#[], clock, hw1, M.hclock, rfl, fun k p e hk => by simp at hk, fun e he => by simp at he, by simp⟩)
        refine ⟨ι, _, undef, W, by simp [ren], .inl (fin w ρ _ ?_)⟩
        simp [Builtin.clear_, t1, run_underlying T, hd, h2, run_getObj hh (by simp), run_setObj hh (by simp)]
    · rename_i el hd
      refine Step1.so fun te hte => Step1.so fun z hz => Step1.ox fun u hu => Step1.onSlc fun sa n cap hsa => ?_
      subst hsa
      refine Step1.oe (fun hn => Step1.put fun ι w ρ r he => ?_) fun q hq => Step1.sel (fun hn0 => Step1.put fun ι w ρ r he => ?_) fun hn0 => writeX_s fun vs esz opn pars hg hpl hle => Step1.put fun ι w ρ r he => ?_
      · have h1 := arg he hu
        subst hn
        simp [ren] at h1
        refine ⟨ι, w, undef, Went.refl r, by simp [ren], .inl (fin w ρ w ?_)⟩
        simp [Builtin.clear_, t1, run_underlying T, hd, ← h1]
      · have h1 := arg he hu
        subst hq
        obtain ⟨i, hb, h2⟩ := ren_slcE (b := q.1) (off := q.2) h1
        simp at hn0; subst hn0
        refine ⟨ι, w, undef, Went.refl r, by simp [ren], .inl (fin w ρ w ?_)⟩
        simp [Builtin.clear_, t1, run_underlying T, hd, h2]
      · have h1 := arg he hu
        subst hq
        simp at hn0
        obtain ⟨i, hb, h2⟩ := ren_slc (b := q.1) (off := q.2) h1 (fun hh => hn0 hh.2.1)
        obtain ⟨zv, z1, z2, z3, _⟩ := run_zero (K.ty _ _ hte) hz w
        have hrep := rep_ren (cSs_ren (ι := ι) z2) n
        obtain ⟨s1, W⟩ := Went.write P r hb hg hle hrep hpl
        refine ⟨ι, _, undef, W, by simp [ren], .inl (fin w ρ _ ?_)⟩
        have hzc : (Builtin.zeroCells zv.cells n).toList = rep zv.cells.toList n := range_rep _ _
        simp only [Builtin.clear_, t1]
        have e0 : (#[ρ a] : Array Value)[0]? = some (ρ a) := rfl
        rw [e0]
        simp only
        rw [run_bind (run_underlying T w), hd, h2]
        obtain ⟨m, rfl⟩ : ∃ m, n = m + 1 := ⟨n - 1, by omega⟩
        simp only
        rw [Sem.run_bind, z1, Result.andThen_ok, hzc, run_bind s1]
        rfl
    · exact Step1.bad'
  · exact Step1.bad'

theorem opPanic_s {a : Operand} (ho : o.op = .panic a) : Step1 o.dst x e (fun _ _ => False) (fun c h' => PSim P o e h c h') (fun p k => (opPanic a).run g x e h p k) := by
  refine Step1.ox fun u hu => Step1.onIface fun t v hv => .pan [(u, false)] h (fun p k => rfl) fun ι w ac r hg hs T hT => ?_
  subst hv
  have h1 := evs_of hg hs a (by simp [ho, Op.operands]) _ hu
  obtain ⟨vc, h2, h3⟩ := ren_iface h1
  refine ⟨ι, w, [{ v := ac.eval a, recovered := false }], Went.refl r, ⟨⟨h1, rfl, rfl⟩, trivial⟩, pans_panic hT (by simp [ho]) ?_⟩
  simp [execOp, ho, h3, Instr.panic]

end
end Go.Sim
end
