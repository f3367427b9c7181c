/- Operators on values. -/
import Derived.Test.YtakbgbnnocmaiaaGreatDoorSc
import Derived.Laws.Closers25
set_option linter.all false
section
namespace Go.Sim

theorem eqI_eq (a b : Int) : eqI a b = decide (a = b) := by
  cases a <;> cases b <;> simp [eqI] <;> omega
theorem leI_eq (a b : Int) : leI a b = decide (a ≤ b) := by
  cases a <;> cases b <;> simp [leI] <;> omega

theorem eqKd_eq (a b : IntKind) : eqKd a b = decide (a = b) := by cases a <;> cases b <;> rfl

theorem wrap64_eq (n : Int) : wrap64 n = IntKind.i64.wrap n := by
  have e : ∀ m : Int, IntKind.i64.wrap m = if (m % 18446744073709551616) ≥ 9223372036854775808 then m % 18446744073709551616 - 18446744073709551616 else m % 18446744073709551616 := by
    intro m
    simp [IntKind.wrap, IntKind.bits, IntKind.signed]
  cases n with
  | ofNat m =>
    simp only [wrap64, natBle, sel_eq]
    split
    · rename_i hm
      simp at hm
      rw [e]
      have : (Int.ofNat m) % 18446744073709551616 = Int.ofNat m := by
        apply Int.emod_eq_of_lt <;> simp <;> omega
      rw [this, if_neg (by simp; omega)]
    · rfl
  | negSucc m =>
    simp only [wrap64, natBle, sel_eq]
    split
    · rename_i hm
      simp at hm
      rw [e]
      omega
    · rfl

theorem wrapK_eq (k : IntKind) (n : Int) : wrapK k n = k.wrap n := by
  cases k <;> first | exact wrap64_eq n | rfl

theorem eqB_eq : ∀ (a b : List UInt8), eqB a b = decide (a = b)
  | [], [] => by simp; rfl
  | [], _ :: _ => by simp; rfl
  | _ :: _, [] => by simp; rfl
  | x :: a, y :: b => by
    show sel (Nat.beq x.toNat y.toNat) (eqB a b) false = _
    rw [eqB_eq a b, sel_eq, natBeq]
    by_cases h : x = y
    · subst h; simp
    · have : x.toNat ≠ y.toNat := fun q => h (UInt8.toNat_inj.1 q)
      simp [h, this]

theorem ltB_eq : ∀ (a b : List UInt8), ltB a b = Op.bytesLess a b
  | [], [] => by simp [Op.bytesLess]; rfl
  | [], _ :: _ => by simp [Op.bytesLess]; rfl
  | _ :: _, [] => by simp [Op.bytesLess]; rfl
  | x :: a, y :: b => by
    show sel (Nat.blt x.toNat y.toNat) true (sel (Nat.beq x.toNat y.toNat) (ltB a b) false) = _
    rw [ltB_eq a b, sel_eq, sel_eq, natBeq, natBlt, Op.bytesLess]
    by_cases h : x = y
    · subst h; simp
    · have : x.toNat ≠ y.toNat := fun q => h (UInt8.toNat_inj.1 q)
      by_cases h2 : x < y
      · simp [UInt8.lt_iff_toNat_lt] at h2; simp [h2, UInt8.lt_iff_toNat_lt]
      · simp [UInt8.lt_iff_toNat_lt] at h2; simp [h, this, UInt8.lt_iff_toNat_lt]

@[simp] theorem bytes_toList (a : List UInt8) : (ByteArray.mk a.toArray).toList = a := by
  rw [ByteArray.toList_eq]

theorem intBin_s {op : BinOp} {k : IntKind} {a b : Int} {v : AVal} (h : intBin op k a b = some v) (hs : isShift op = false) (t : TypeId) (P : Program) (w : World) :
    ∃ vc, (∀ ι, ren ι v = some vc) ∧ (binOp op t (.int k a) (.int k b)).run P w = .ok vc w := by
  cases op <;> simp only [intBin, isShift] at h hs <;> try (cases h; done)
  all_goals try (cases hs; done)
  case quo => 
    rw [eqI_eq, sel_eq] at h
    split at h
    · cases h
    · rename_i hb
      cases h
      refine ⟨_, fun ι => by simp [ren]; rfl, ?_⟩
      simp at hb
      simp [binOp, Op.intDiv, hb, wrapK_eq]
  case rem =>
    rw [eqI_eq, sel_eq] at h
    split at h
    · cases h
    · rename_i hb
      cases h
      refine ⟨_, fun ι => by simp [ren]; rfl, ?_⟩
      simp at hb
      simp [binOp, Op.intDiv, hb]
  all_goals
    cases h
    refine ⟨_, fun ι => by simp [ren]; rfl, ?_⟩
    simp [binOp, Op.intArith, Op.intBits, Op.intCmp, wrapK_eq, eqI_eq, leI_eq]
  all_goals first | rfl | (rw [← decide_not, decide_eq_decide]; omega)

theorem shiftA_s {op : BinOp} {k k' : IntKind} {a b : Int} {v : AVal} (h : shiftA op k a b = some v) (t : TypeId) (P : Program) (w : World) :
    ∃ vc, (∀ ι, ren ι v = some vc) ∧ (binOp op t (.int k a) (.int k' b)).run P w = .ok vc w := by
  cases op <;> simp only [shiftA, leI_eq, sel_eq] at h <;> try (cases h; done)
  all_goals
    split at h
    · rename_i hb
      cases h
      refine ⟨_, fun ι => by simp [ren]; rfl, ?_⟩
      simp at hb
      have hb' : ¬ b < 0 := by omega
      simp [binOp, Op.shift, hb']
    · cases h

theorem strBin_s {op : BinOp} {a b : List UInt8} {v : AVal} (h : strBin op a b = some v) (t : TypeId) (P : Program) (w : World) :
    ∃ vc, (∀ ι, ren ι v = some vc) ∧ (binOp op t (.string ⟨a.toArray⟩) (.string ⟨b.toArray⟩)).run P w = .ok vc w := by
  cases op <;> simp only [strBin] at h <;> try (cases h; done)
  case add =>
    rw [natBle, sel_eq, len_eq, len_eq, app_eq] at h
    split at h
    · rename_i hb
      simp at hb
      cases h
      refine ⟨_, fun ι => by simp [ren]; rfl, ?_⟩
      have hm : IntKind.i64.max = 9223372036854775807 := by simp [IntKind.max, IntKind.bits, IntKind.signed]
      have hz : ¬ (((ByteArray.mk a.toArray).size + (ByteArray.mk b.toArray).size : Nat) : Int) > IntKind.i64.max := by
        rw [hm]
        simp [ByteArray.size]
        omega
      simp only [binOp, Op.stringOp]
      rw [if_neg hz]
      simp only [Sem.run_pure]
      congr 2
    · cases h
  all_goals
    have hab : (a == b) = decide (a = b) := by by_cases q : a = b <;> simp [q]
    cases h
    refine ⟨_, fun ι => by simp [ren]; rfl, ?_⟩
    simp [binOp, Op.stringOp, eqB_eq, ltB_eq, hab]

theorem unA_s {op : UnOp} {u v : AVal} (h : unA op u = some v) {ι : Inj} {uc : Value} (hu : ren ι u = some uc) (P : Program) (w : World) :
    ∃ vc, ren ι v = some vc ∧ (Op.unary op uc).run P w = .ok vc w := by
  unfold unA at h
  split at h
  · cases h
    simp [ren] at hu; subst hu
    exact ⟨_, by simp [ren]; rfl, by simp [Op.unary, Op.intArith, wrapK_eq]⟩
  · cases h
    simp [ren] at hu; subst hu
    exact ⟨_, by simp [ren]; rfl, by simp [Op.unary]⟩
  · cases h
    simp [ren] at hu; subst hu
    exact ⟨_, by simp [ren]; rfl, by simp [Op.unary, Op.intBits]⟩
  · cases h

section
variable {P : Program} {C : Ctx} {o : Oper} {x : FX} {e : Env} {h : H} {g : G}

theorem opUn_s {op : UnOp} {t : TypeId} {a : Operand} (ho : o.op = .unOp op t a) : Step1 o.dst x e (PV P o e h) NoP (fun p k => (opUn op a o.dst).run g x e h p k) :=
  Step1.ox fun u hu => Step1.ox fun v hv => Step1.put ⟨rfl, fun ι w ρ he => by
    have h1 := he a (by simp [ho, Op.operands]) _ hu
    obtain ⟨vc, h2, h3⟩ := unA_s hv h1 P w
    exact ⟨vc, h2, by simp [execOp, ho, h3]⟩⟩

theorem run_equal {t : TypeId} {ti : TI} (T : TyOk P t ti) (uc vc : Value) (w : World) : (Op.equal t uc vc).run P w = (Op.equalIn (9999 + 1) t uc vc).run P w := rfl

theorem ren_ptrO {ι : Inj} {b : Option (Nat × Nat)} {v : Value} (h : ren ι (.ptr b) = some v) : ∃ b', v = .pointer b' ∧ b'.isNone = b.isNone := by
  cases b with
  | none => simp [ren] at h; exact ⟨none, h.symm, rfl⟩
  | some q => obtain ⟨i, _, rfl⟩ := ren_ptr (b := q.1) (off := q.2) h; exact ⟨_, rfl, rfl⟩
theorem ren_slcO {ι : Inj} {b : Option (Nat × Nat)} {l c : Nat} {v : Value} (h : ren ι (.slc b l c) = some v) : ∃ b' l' c', v = .slice b' l' c' ∧ b'.isNone = b.isNone := by
  cases b with
  | none => simp [ren] at h; exact ⟨none, _, _, h.symm, rfl⟩
  | some q => obtain ⟨i, _, rfl⟩ := ren_slcE (b := q.1) (off := q.2) h; exact ⟨_, _, _, rfl, rfl⟩
theorem ren_mapO {ι : Inj} {b : Option Nat} {v : Value} (h : ren ι (.map b) = some v) : ∃ b', v = .map b' ∧ b'.isNone = b.isNone := by
  cases b with
  | none => simp [ren] at h; exact ⟨none, h.symm, rfl⟩
  | some q => obtain ⟨i, _, rfl⟩ := ren_map' h; exact ⟨_, rfl, rfl⟩

def NoNum (u v : Value) : Prop := (∀ k n k' m, u = .int k n → v = .int k' m → False) ∧ (∀ s q, u = .string s → v = .string q → False) ∧ (∀ k n k' m, u = .float k n → v = .float k' m → False) ∧
  (∀ k n k' m i j, u = .complex k n i → v = .complex k' m j → False)

theorem eqO_s {C : Ctx} (K : COk C P) {t : TypeId} {ti : TI} (T : TyOk P t ti) {u v : AVal} {b : Bool} (hh : eqO (C.eqT t) ti.desc u v = some b) {ι : Inj} {uc vc : Value} (hu : ren ι u = some uc) (hv : ren ι v = some vc) (w : World) :
    (Op.equal t uc vc).run P w = .ok b w ∧ (∀ op x y, (eqGuard op t x y uc vc).run P w = .ok () w) ∧ NoNum uc vc := by
  unfold eqO at hh
  split at hh
  case h_2 xs ys =>
    rw [sel_eq] at hh
    split at hh
    · rename_i hf
      cases hk : C.eqT t with
      | none => simp [hk, fitO] at hf
      | some ks =>
        simp [hk, fitO] at hf
        have E := K.eqt t ks hk
        obtain ⟨xc, h1, rfl⟩ := ren_agg hu
        obtain ⟨yc, h2, rfl⟩ := ren_agg hv
        refine ⟨E.eq _ _ _ _ _ ι w hf hh h1 h2, fun op x y => ?_, by refine ⟨?_, ?_, ?_, ?_⟩ <;> (intros; simp_all)⟩
        unfold eqGuard
        cases op <;> simp [E.guard]
    · cases hh
  case h_14 => cases hh
  all_goals (split at hh <;> (try (cases hh; done)))
  all_goals (rename_i hd)
  all_goals
    first
    | (obtain ⟨i, hb, rfl⟩ := ren_ptr hu)
    | (obtain ⟨i, hb, rfl⟩ := ren_slcE hu)
    | (obtain ⟨i, hb, rfl⟩ := ren_map' hu)
    | (obtain ⟨vs, hb, rfl⟩ := ren_func hu)
    | (obtain ⟨vs, hb, rfl⟩ := ren_iface hu)
    | (simp only [ren, Option.some.injEq] at hu; subst hu)
  all_goals
    first
    | (obtain ⟨i, hb, rfl⟩ := ren_ptr hv)
    | (obtain ⟨i, hb, rfl⟩ := ren_slcE hv)
    | (obtain ⟨i, hb, rfl⟩ := ren_map' hv)
    | (obtain ⟨vs, hb, rfl⟩ := ren_func hv)
    | (obtain ⟨vs, hb, rfl⟩ := ren_iface hv)
    | (simp only [ren, Option.some.injEq] at hv; subst hv)
    | skip
  all_goals (first | (obtain ⟨b', rfl, hb'⟩ := ren_ptrO hv) | (obtain ⟨b', l', c', rfl, hb'⟩ := ren_slcO hv) | (obtain ⟨b', rfl, hb'⟩ := ren_mapO hv) | skip)
  all_goals (refine ⟨?_, fun op x y => ?_, ?_⟩)
  all_goals (try (refine ⟨?_, ?_, ?_, ?_⟩ <;> (intros; simp_all); done))
  all_goals (try (unfold eqGuard; cases op <;> simp; done))
  all_goals (try (rw [run_equal T, Op.equalIn, run_bind (run_underlying T w), hd]; (first | (cases hh; done) | skip); cases hh; simp; done))
  all_goals
    rw [run_equal T, Op.equalIn, run_bind (run_underlying T w), hd]
    cases hh; simp [hb']

theorem eqGuard_int {op : BinOp} {t : TypeId} {x y : Operand} {k k' : IntKind} {a b : Int} {w : World} : (eqGuard op t x y (.int k a) (.int k' b)).run P w = .ok () w := by
  unfold eqGuard; cases op <;> simp
theorem eqGuard_str {op : BinOp} {t : TypeId} {x y : Operand} {a b : ByteArray} {w : World} : (eqGuard op t x y (.string a) (.string b)).run P w = .ok () w := by
  unfold eqGuard; cases op <;> simp

theorem binOp_eql {op : BinOp} {t : TypeId} {u v : Value} {b : Bool} {r : AVal} {w : World} (hq : eqOp op (some b) = some r) (he : (Op.equal t u v).run P w = .ok b w) (hn : NoNum u v) :
    ∃ rc, (∀ ι, ren ι r = some rc) ∧ (binOp op t u v).run P w = .ok rc w := by
  cases op <;> simp only [eqOp] at hq <;> try (cases hq; done)
  · cases hq
    refine ⟨.bool b, fun ι => by simp [ren], ?_⟩
    unfold binOp
    split <;> first | exact (hn.1 _ _ _ _ rfl rfl).elim | exact (hn.2.1 _ _ rfl rfl).elim | exact (hn.2.2.1 _ _ _ _ rfl rfl).elim | exact (hn.2.2.2 _ _ _ _ _ _ rfl rfl).elim | simp_all
  · cases hq
    refine ⟨.bool !b, fun ι => by simp [ren], ?_⟩
    unfold binOp
    split <;> first | exact (hn.1 _ _ _ _ rfl rfl).elim | exact (hn.2.1 _ _ rfl rfl).elim | exact (hn.2.2.1 _ _ _ _ rfl rfl).elim | exact (hn.2.2.2 _ _ _ _ _ _ rfl rfl).elim | simp_all

theorem noNum_nil : NoNum .nilIface .nilIface := by refine ⟨?_, ?_, ?_, ?_⟩ <;> (intros; simp_all)

theorem binA_s {C : Ctx} (K : COk C P) {op : BinOp} {t : TypeId} {ti : TI} (T : TyOk P t ti) {u v r : AVal} (hh : binA (C.eqT t) ti.desc op u v = some r) {ι : Inj} {uc vc : Value} (hu : ren ι u = some uc) (hv : ren ι v = some vc)
    (x y : Operand) (w : World) : ∃ rc, ren ι r = some rc ∧ (eqGuard op t x y uc vc).run P w = .ok () w ∧ (binOp op t uc vc).run P w = .ok rc w := by
  unfold binA at hh
  split at hh
  · rename_i k a k' b
    simp [ren] at hu hv
    subst hu hv
    rw [sel_eq] at hh
    split at hh
    · obtain ⟨rc, h1, h2⟩ := shiftA_s (k' := k') hh t P w
      exact ⟨rc, h1 ι, eqGuard_int, h2⟩
    · rename_i hs
      rw [eqKd_eq, sel_eq] at hh
      split at hh
      · rename_i hk
        simp at hk; subst hk
        obtain ⟨rc, h1, h2⟩ := intBin_s hh (by simpa using hs) t P w
        exact ⟨rc, h1 ι, eqGuard_int, h2⟩
      · cases hh
  · simp [ren] at hu hv
    subst hu hv
    obtain ⟨rc, h1, h2⟩ := strBin_s hh t P w
    exact ⟨rc, h1 ι, eqGuard_str, h2⟩
  · cases hb : eqO (C.eqT t) ti.desc u v with
    | none => rw [hb] at hh; cases op <;> simp [eqOp] at hh
    | some b =>
      rw [hb] at hh
      obtain ⟨h1, h2, h3⟩ := eqO_s K T hb hu hv w
      obtain ⟨rc, h4, h5⟩ := binOp_eql (t := t) hh h1 h3
      exact ⟨rc, h4 ι, h2 op x y, h5⟩

theorem opBin_s {C : Ctx} (K : COk C P) {op : BinOp} {t ty : TypeId} {a b : Operand} {z : _} (ho : o.op = .binOp op t a b z) : Step1 o.dst x e (PV P o e h) NoP (fun p k => (opBin C op t a b o.dst).run g x e h p k) :=
  Step1.so fun ti ht => Step1.ox fun u hu => Step1.ox fun v hv => Step1.sel (fun hn => Step1.ox fun r hr => Step1.put ⟨rfl, fun ι w ρ he => by
    have h1 := he a (by simp [ho, Op.operands]) _ hu
    have h2 := he b (by simp [ho, Op.operands]) _ hv
    unfold isNil2 at hn
    split at hn
    · simp [ren] at h1 h2
      simp only [Bool.and_eq_true] at hn
      obtain ⟨hc, hi⟩ := hn
      have he : (Op.equal t .nilIface .nilIface).run P w = .ok true w := by
        rw [run_equal (K.ty _ _ ht), Op.equalIn, run_bind (run_underlying (K.ty _ _ ht) w)]
        cases hd : ti.desc <;> simp [hd, ifaceD] at hi ⊢
      obtain ⟨rc, h4, h5⟩ := binOp_eql (t := t) hr he noNum_nil
      refine ⟨rc, h4 ι, ?_⟩
      simp only [execOp, ho]
      rw [← h1, ← h2]
      have hg : (eqGuard op t a b .nilIface .nilIface).run P w = .ok () w := by
        unfold eqGuard
        unfold Region.isConst at hc
        cases a <;> cases b <;> cases op <;> simp at hc ⊢
      simp [hg, h5]
    · cases hn⟩) fun _ => Step1.ox fun r hr => Step1.put ⟨rfl, fun ι w ρ he => by
    have h1 := he a (by simp [ho, Op.operands]) _ hu
    have h2 := he b (by simp [ho, Op.operands]) _ hv
    obtain ⟨rc, h3, h4, h5⟩ := binA_s K (K.ty _ _ ht) hr h1 h2 a b w
    exact ⟨rc, h3, by simp [execOp, ho, h4, h5]⟩⟩

end
end Go.Sim
end
section
/- Slices of strings, slices and arrays; lengths. -/
namespace Go.Sim

theorem natIn_some {i : Int} {hi n : Nat} (h : natIn i hi = some n) : i = (n : Int) ∧ n ≤ hi := by
  cases i with
  | ofNat m =>
    simp only [natIn, natBle, sel_eq] at h
    split at h
    · rename_i q; cases h; simp at q; exact ⟨rfl, q⟩
    · cases h
  | negSucc m => cases h

theorem evo_s {ι : Inj} {e : Env} {ρ : Operand → Value} {x : Option Operand} {lo : Option Int} (h : (evoF x).run e = some lo) (he : ∀ y, x = some y → ∀ u, (evF y).run e = some u → ren ι u = some (ρ y)) :
    (x = none ∧ lo = none) ∨ ∃ y k i, x = some y ∧ lo = some i ∧ ρ y = .int k i := by
  cases x with
  | none => have h' : some none = some lo := h; cases h'; exact .inl ⟨rfl, rfl⟩
  | some y =>
    have h' : ob ((evF y).run e) (fun v => ob (asI v) (fun i => some (some i))) = some lo := h
    obtain ⟨u, h1, h'⟩ := ob_eq.1 h'
    obtain ⟨i, h2, h'⟩ := ob_eq.1 h'
    cases h'
    cases u <;> simp [asI] at h2
    subst h2
    have := he y rfl _ h1
    simp [ren] at this
    exact .inr ⟨y, _, _, rfl, rfl, this.symm⟩

theorem run_sliceBound {P : Program} {w : World} {k : IntKind} {n y : Nat} {code : BoundsCode} (h : n ≤ y) : (Instr.sliceBound (.int k (n : Int)) y code).run P w = .ok n w := by
  unfold Instr.sliceBound
  simp [asIntOf, h]

theorem bounds2_some {l cap : Nat} {lo hi : Option Int} {a b : Nat} (h : bounds2 l cap lo hi = some (a, b)) :
    ((hi = none ∧ b = l) ∨ (hi = some (b : Int) ∧ b ≤ cap)) ∧ ((lo = none ∧ a = 0) ∨ (lo = some (a : Int) ∧ a ≤ b)) := by
  unfold bounds2 at h
  obtain ⟨b', h1, h⟩ := ob_eq.1 h
  obtain ⟨a', h2, h⟩ := ob_eq.1 h
  cases h
  constructor
  · cases hi with
    | none => simp at h1; exact .inl ⟨rfl, h1.symm⟩
    | some i => obtain ⟨q1, q2⟩ := natIn_some h1; exact .inr ⟨by rw [q1], q2⟩
  · cases lo with
    | none => simp at h2; exact .inl ⟨rfl, h2.symm⟩
    | some i => obtain ⟨q1, q2⟩ := natIn_some h2; exact .inr ⟨by rw [q1], q2⟩

section
variable {P : Program} {C : Ctx} {o : Oper} {x : FX} {e : Env} {h : H} {g : G}

theorem run_sliceBounds {ι : Inj} {ρ : Operand → Value} {w : World} {isS : Bool} {l cap capc a b : Nat} {lo hi : Option Operand} {loi hii : Option Int} (hb : bounds2 l cap loi hii = some (a, b)) (hc : cap ≤ capc)
    (h1 : (evoF lo).run e = some loi) (h2 : (evoF hi).run e = some hii) (he1 : ∀ y, lo = some y → ∀ u, (evF y).run e = some u → ren ι u = some (ρ y)) (he2 : ∀ y, hi = some y → ∀ u, (evF y).run e = some u → ren ι u = some (ρ y)) :
    (Instr.sliceBounds isS l capc (lo.map ρ) (hi.map ρ) none).run P w = .ok (a, b, capc) w := by
  obtain ⟨q1, q2⟩ := bounds2_some hb
  unfold Instr.sliceBounds
  rcases evo_s h2 he2 with ⟨rfl, rfl⟩ | ⟨y, k, i, rfl, rfl, hy⟩ <;> rcases evo_s h1 he1 with ⟨rfl, rfl⟩ | ⟨y', k', i', rfl, rfl, hy'⟩ <;> simp at q1 q2
  · obtain rfl := q1; obtain rfl := q2; simp
  · obtain rfl := q1; obtain ⟨rfl, q2⟩ := q2; simp [hy', run_sliceBound q2]
  · obtain ⟨rfl, q1⟩ := q1; obtain rfl := q2; simp [hy, run_sliceBound (Nat.le_trans q1 hc)]
  · obtain ⟨rfl, q1⟩ := q1; obtain ⟨rfl, q2⟩ := q2; simp [hy, hy', run_sliceBound (Nat.le_trans q1 hc), run_sliceBound q2]

theorem run_sliceBounds3 {ι : Inj} {ρ : Operand → Value} {w : World} {isS : Bool} {l cap capc a b m : Nat} {lo hi mx : Option Operand} {loi hii : Option Int} {mi : Int} (hm : natIn mi cap = some m) (hb : bounds2 l m loi hii = some (a, b)) (hc : cap ≤ capc)
    (hs : hi.isSome = true) (h1 : (evoF lo).run e = some loi) (h2 : (evoF hi).run e = some hii) (h3 : (evoF mx).run e = some (some mi))
    (he1 : ∀ y, lo = some y → ∀ u, (evF y).run e = some u → ren ι u = some (ρ y)) (he2 : ∀ y, hi = some y → ∀ u, (evF y).run e = some u → ren ι u = some (ρ y)) (he3 : ∀ y, mx = some y → ∀ u, (evF y).run e = some u → ren ι u = some (ρ y)) :
    (Instr.sliceBounds isS l capc (lo.map ρ) (hi.map ρ) (mx.map ρ)).run P w = .ok (a, b, m) w := by
  obtain ⟨q1, q2⟩ := bounds2_some hb
  obtain ⟨rfl, q3⟩ := natIn_some hm
  unfold Instr.sliceBounds
  rcases evo_s h3 he3 with ⟨rfl, q⟩ | ⟨y3, k3, i3, rfl, q, hy3⟩
  · cases q
  simp at q; subst q
  have r3 := Nat.le_trans q3 hc
  rcases evo_s h2 he2 with ⟨rfl, rfl⟩ | ⟨y, k, i, rfl, rfl, hy⟩ <;> rcases evo_s h1 he1 with ⟨rfl, rfl⟩ | ⟨y', k', i', rfl, rfl, hy'⟩ <;> simp at q1 q2 hs
  · obtain ⟨rfl, q1⟩ := q1; obtain rfl := q2; simp [hy, hy3, run_sliceBound q1, run_sliceBound r3]
  · obtain ⟨rfl, q1⟩ := q1; obtain ⟨rfl, q2⟩ := q2; simp [hy, hy', hy3, run_sliceBound q1, run_sliceBound q2, run_sliceBound r3]

/-- the room of a slice, closed -/
theorem closed_cap {ι : Inj} {w : World} (r : Rel ι h w) {esz b off cap : Nat} {i : BI} (hb : ι b = some i) (hc : closedEnd h esz (some (b, off)) cap = true) :
    off < amb ∧ capOf i off cap = cap ∧ (∀ l, l ≤ cap → capOf i (off + l * esz) (cap - l) = cap - l) ∧ capOf i off 0 = 0 := by
  have hc0 : sel (Nat.ble amb off) false (closedE esz off cap (h.get b)) = true := hc
  rw [natBle, sel_eq] at hc0
  split at hc0
  · cases hc0
  rename_i hne
  refine ⟨by simpa using hne, ?_⟩
  have hc' : closedE esz off cap (h.get b) = true := hc0
  unfold closedE at hc'
  split at hc'
  · rename_i vs e' opn frz pars hg
    obtain ⟨_, q, hq, ho⟩ := r.dom b i hb
    rw [hg] at hq; cases hq
    obtain ⟨cs, T, fz, hh, R⟩ := ho
    cases opn with
    | false =>
      have hs := R.shut rfl
      have : ∀ a c, capOf i a c = c := fun a c => by unfold capOf; split <;> simp [hs]
      exact ⟨this _ _, fun l _ => this _ _, this _ _⟩
    | true =>
      rw [sel_true, sel_eq] at hc'
      split at hc'
      · rename_i he
        simp at he hc'
        subst he
        rw [len_eq, ← R.hcells] at hc'
        have hz := R.hesz
        refine ⟨?_, fun l hl => ?_, ?_⟩
        · unfold capOf; rw [hz, if_neg (by omega)]
        · unfold capOf
          rw [hz, if_neg]
          have : l * e' + (cap - l) * e' = cap * e' := by rw [← Nat.add_mul]; congr 1; omega
          omega
        · unfold capOf; rw [hz, if_neg (by omega)]
      · cases hc'
  · cases hc'

theorem esz_cap {ι : Inj} {w : World} (r : Rel ι h w) {esz b off cap l : Nat} {i : BI} (hb : ι b = some i) (hc : eszOk h esz (some (b, off)) = true) (hl : l ≤ cap) :
    capOf i (off + l * esz) (cap - l) = capOf i off cap - l := by
  have hc' : eszE esz (h.get b) = true := hc
  unfold eszE at hc'
  split at hc'
  · rename_i vs e' opn frz pars hg
    obtain ⟨_, q, hq, ho⟩ := r.dom b i hb
    rw [hg] at hq; cases hq
    obtain ⟨cs, T, fz, hh, R⟩ := ho
    cases opn with
    | false =>
      have hs := R.shut rfl
      have : ∀ a c, capOf i a c = c := fun a c => by unfold capOf; split <;> simp [hs]
      rw [this, this]
    | true =>
      simp at hc'
      subst hc'
      have hz := R.hesz
      unfold capOf
      rw [hz]
      have : l * e' + (cap - l) * e' = cap * e' := by rw [← Nat.add_mul]; congr 1; omega
      by_cases q : off + cap * e' = i.cells
      · rw [if_pos q, if_pos (by omega)]; omega
      · rw [if_neg q, if_neg (by omega)]
  · cases hc'


theorem bytes_extract {s : List UInt8} {a b : Nat} : (ByteArray.mk s.toArray).extract a b = ⟨((s.drop a).take (b - a)).toArray⟩ := by
  apply ByteArray.ext
  rw [ByteArray.data_extract]
  apply Array.ext'
  simp

theorem slice2_s {ι : Inj} {w : World} (R : Rel ι h w) {esz l0 cap l hh : Nat} {a : Option (Nat × Nat)} {v : AVal} {uc : Value} (hv : slice2 h esz a cap l hh = some v) (hu : ren ι (.slc a l0 cap) = some uc) :
    ∃ b capc, uc = .slice b l0 capc ∧ cap ≤ capc ∧ ren ι v = some (.slice (if capc = l then b else b.map (·.add (l * esz))) (hh - l) (capc - l)) := by
  unfold slice2 at hv
  rw [natBeq, sel_eq] at hv
  cases a with
  | none =>
    simp [ren] at hu
    subst hu
    refine ⟨none, cap, rfl, Nat.le_refl _, ?_⟩
    split at hv
    · rename_i hc
      simp at hc; subst hc
      simp [closedEnd] at hv
      subst hv; simp [ren]
    · simp [sel_eq, eszOk] at hv
      obtain ⟨_, rfl⟩ := hv
      simp [adv, ren]
  | some q =>
    obtain ⟨b, off⟩ := q
    obtain ⟨i, hb, rfl⟩ := ren_slcE hu
    refine ⟨_, _, rfl, capE_le, ?_⟩
    split at hv
    · rename_i hc
      simp at hc; subst hc
      rw [sel_eq] at hv
      split at hv
      · rename_i hce
        obtain ⟨c0, c1, c2, c3⟩ := closed_cap R hb hce
        cases hv
        have q1 : ∀ l c, adr i off l c = ⟨i.B, i.base + off, none⟩ := fun l c => adr_far fun hh => absurd hh.1 (by omega)
        have q2 : ∀ l c, capE i off l c = capOf i off c := fun l c => capE_far fun hh => absurd hh.1 (by omega)
        rw [ren_slc_ofE hb, q1, q1, q2, q2, c1, if_pos rfl, natSub, natSub, Nat.sub_self, c3]
      · rw [natBeq, sel_eq] at hv
        split at hv
        · rename_i hcap
          simp at hcap; subst hcap
          unfold ambEnd at hv
          split at hv
          · rename_i b' heq
            cases heq
            rw [sel_eq] at hv
            split at hv
            · rename_i hamb
              cases hv
              have q1 : ∀ l c, adr i 0 l c = ⟨i.B, i.base + 0, none⟩ := fun l c => adr_far amb0
              have q2 : ∀ l c, capE i 0 l c = capOf i 0 c := fun l c => capE_far amb0
              rw [ren_slc_ofE hb, q1, q2]
              unfold ambOk at hamb
              split at hamb
              · rename_i vs e' opn frz pars hg
                obtain ⟨_, q, hq, ho⟩ := R.dom b i hb
                rw [hg] at hq; cases hq
                obtain ⟨cs, T, fz, hh2, RR⟩ := ho
                rw [sel_eq] at hamb
                split at hamb
                · rw [natBeq, sel_eq] at hamb
                  split at hamb
                  · rename_i he
                    simp at he hamb
                    subst he
                    have hz := RR.hesz
                    have hcl := RR.hcells
                    rw [len_eq] at hamb
                    have e1 : capOf i 0 hh = hh + i.spare := by unfold capOf; rw [hz, if_pos (by omega)]
                    have e2 : adr i amb 0 0 = ⟨i.B, i.base + (if i.spare = 0 then 0 else i.cells), none⟩ := by rw [adr_near (by decide)]; unfold adrE; rw [if_pos ⟨rfl, rfl, rfl⟩]
                    have e3 : capE i amb 0 0 = i.spare := if_pos ⟨rfl, rfl, rfl⟩
                    rw [e1, e2, e3, Nat.sub_self, Nat.add_sub_cancel_left]
                    by_cases hs : i.spare = 0
                    · rw [if_pos hs, if_pos (by omega)]
                    · rw [if_neg hs, if_neg (by omega), hcl, ← hamb]
                      simp [add_none]
                  · cases hamb
                · cases hamb
              · cases hamb
            · cases hv
          · cases hv
        · cases hv
    · rename_i hc
      simp at hc
      rw [sel_eq] at hv
      split at hv
      · rename_i hq
        simp at hq
        obtain ⟨hq1, hq2⟩ := hq
        have := esz_cap R hb hq2 hq1
        have hle := capOf_le (i := i) (off := off) (cap := cap)
        cases hv
        simp only [adv, natAdd, natMul, natSub]
        have q1 : adr i off l0 cap = ⟨i.B, i.base + off, none⟩ := adr_far fun hh => by omega
        have q2 : capE i off l0 cap = capOf i off cap := capE_far fun hh => by omega
        rw [ren_slc_of hb (fun hh => by omega), q1, q2, this, if_neg (by omega)]
        simp [add_none, Nat.add_assoc]
      · cases hv

theorem slice3_s {ι : Inj} {w : World} (R : Rel ι h w) {esz m l hh : Nat} {a : Option (Nat × Nat)} {v : AVal} {b : Option Addr} (hv : slice3 h esz a m l hh = some v) (hl : l ≤ m)
    (hu : (a = none ∧ b = none) ∨ ∃ q i, a = some q ∧ ι q.1 = some i ∧ (q.2 < amb → b = some ⟨i.B, i.base + q.2, none⟩)) :
    ren ι v = some (.slice (if m = l then b else b.map (·.add (l * esz))) (hh - l) (m - l)) := by
  unfold slice3 at hv
  rw [sel_eq] at hv
  split at hv
  · rename_i hc
    cases hv
    rw [natBeq, sel_eq, natSub, natSub]
    rcases hu with ⟨rfl, rfl⟩ | ⟨⟨b0, off⟩, i, rfl, hb, hbb⟩
    · have e1 : (if decide (m = l) = true then none else adv none (Nat.mul l esz)) = none := by split <;> rfl
      rw [e1]; simp [ren]
    · obtain ⟨c0, c1, c2, c3⟩ := closed_cap R hb hc
      obtain rfl := hbb c0
      by_cases q : m = l
      · subst q
        simp only [decide_true, if_true, Nat.sub_self]
        rw [ren_slc_of hb (fun hh => absurd hh.1 (by omega)), c3]
      · rw [if_neg (by simpa using q), if_neg q]
        simp only [adv, natAdd, natMul]
        rw [ren_slc_of hb (fun hh => by omega), c2 l hl]
        simp [add_none, Nat.add_assoc]
  · cases hv

theorem slStr_s {t : TypeId} {ti : TI} (T : TyOk P t ti) (hd : ti.desc = .string) {a : Operand} {lo hi : Option Operand} (ho : o.op = .slice t a lo hi none) :
    Step1 o.dst x e (LV P o e h) NoP (fun p k => (slStr a (evoF lo) (evoF hi) o.dst).run g x e h p k) := by
  refine Step1.ox fun u hu => Step1.onStr fun s hs => Step1.ox fun loi hlo => Step1.ox fun hii hhi => Step1.ox fun p hp => Step1.ox fun r hr => Step1.put ⟨rfl, fun ι w ρ R he => ?_⟩
  subst hs
  have h1 := he a (by simp [ho, Op.operands]) _ hu
  simp [ren] at h1
  have hb := run_sliceBounds (P := P) (w := w) (ρ := ρ) (ι := ι) (isS := false) (l := s.length) (capc := s.length) (by rw [len_eq] at hp; exact hp) (Nat.le_refl _) hlo hhi
    (fun y hy => he y (by simp [ho, Op.operands, hy])) (fun y hy => he y (by simp [ho, Op.operands, hy]))
  rw [takeX_eq, dropX_eq] at hr
  split at hr
  · cases hr
    refine ⟨_, by simp [ren]; rfl, ?_⟩
    have hz : (ByteArray.mk s.toArray).size = s.length := by simp [ByteArray.size]
    simp only [execOp, ho, Instr.sliceAt, Instr.slice]
    simp [run_underlying T, hd, ← h1, hz, hb, bytes_extract]
  · cases hr

theorem slSl_s (K : COk C P) {t el : TypeId} {ti te : TI} (T : TyOk P t ti) (hd : ti.desc = .slice el) (TE : TyOk P el te) {a : Operand} {lo hi mx : Option Operand} (ho : o.op = .slice t a lo hi mx) (hs : (mx.isNone || hi.isSome) = true) :
    Step1 o.dst x e (LV P o e h) NoP (fun p k => (slSl te.sz a (evoF lo) (evoF hi) (evoF mx) o.dst).run g x e h p k) := by
  refine Step1.ox fun u hu => Step1.onSlc fun q l cap hq => Step1.ox fun loi hlo => Step1.ox fun hii hhi => Step1.ox fun mxi hmx => Step1.ox fun v hv => Step1.put ⟨rfl, fun ι w ρ R he => ?_⟩
  subst hq
  have h1 := he a (by simp [ho, Op.operands]) _ hu
  have e2 : ∀ y, lo = some y → ∀ u, (evF y).run e = some u → ren ι u = some (ρ y) := fun y hy => he y (by simp [ho, Op.operands, hy])
  have e3 : ∀ y, hi = some y → ∀ u, (evF y).run e = some u → ren ι u = some (ρ y) := fun y hy => he y (by simp [ho, Op.operands, hy])
  have e4 : ∀ y, mx = some y → ∀ u, (evF y).run e = some u → ren ι u = some (ρ y) := fun y hy => he y (by simp [ho, Op.operands, hy])
  simp only [execOp, ho, Instr.sliceAt, Instr.slice]
  unfold sliceA at hv
  cases mxi with
  | none =>
    have hm : mx = none := by rcases evo_s hmx e4 with ⟨q, _⟩ | ⟨y, k, i, _, q, _⟩; exact q; cases q
    subst hm
    rw [oe_none] at hv
    obtain ⟨p, hp, hv⟩ := ob_eq.1 hv
    obtain ⟨b, capc, hr, hle, h2⟩ := slice2_s R hv h1
    have hb := run_sliceBounds (P := P) (w := w) (ρ := ρ) (ι := ι) (isS := true) (capc := capc) hp hle hlo hhi e2 e3
    refine ⟨_, h2, ?_⟩
    simp only [hr]
    simp [run_underlying T, hd, hb, run_sizeOf TE]
  | some m =>
    rw [oe_some] at hv
    obtain ⟨m', hm, hv⟩ := ob_eq.1 hv
    obtain ⟨p, hp, hv⟩ := ob_eq.1 hv
    have hhs : hi.isSome = true := by
      rcases evo_s hmx e4 with ⟨q, q'⟩ | ⟨y, k, i, q, _, _⟩
      · cases q'
      · simpa [q] using hs
    obtain ⟨pa, pb⟩ := p
    obtain ⟨p1, p2⟩ := bounds2_some hp
    have hpl : pa ≤ m' := by
      have q2 : pa ≤ pb := by rcases p2 with ⟨_, rfl⟩ | ⟨_, q⟩; exact Nat.zero_le _; exact q
      have q3 : pb ≤ m' := by
        rcases p1 with ⟨q, _⟩ | ⟨_, q⟩
        · rcases evo_s hhi e3 with ⟨q', _⟩ | ⟨y, k, i, _, q', _⟩
          · simp [q'] at hhs
          · rw [q] at q'; cases q'
        · exact q
      omega
    have key : ∃ b capc, ρ a = .slice b l capc ∧ cap ≤ capc ∧ ((q = none ∧ b = none) ∨ ∃ q' i, q = some q' ∧ ι q'.1 = some i ∧ (q'.2 < amb → b = some ⟨i.B, i.base + q'.2, none⟩)) := by
      cases q with
      | none => simp [ren] at h1; exact ⟨none, cap, h1.symm, Nat.le_refl _, .inl ⟨rfl, rfl⟩⟩
      | some q' => obtain ⟨i, hb, hr⟩ := ren_slcE (b := q'.1) (off := q'.2) h1; exact ⟨_, _, hr, capE_le, .inr ⟨q', i, rfl, hb, fun hne => by rw [adr_far fun hh => absurd hh.1 (by omega)]⟩⟩
    obtain ⟨b, capc, hr, hle, hq⟩ := key
    have h2 := slice3_s R hv hpl hq
    have hb := run_sliceBounds3 (P := P) (w := w) (ρ := ρ) (ι := ι) (isS := true) (l := l) (capc := capc) hm hp hle hhs hlo hhi hmx e2 e3 e4
    refine ⟨_, h2, ?_⟩
    simp only [hr]
    simp [run_underlying T, hd, hb, run_sizeOf TE]

theorem slArr_s (K : COk C P) {t el : TypeId} {n : Nat} {ti te : TI} (T : TyOk P t ti) (hd : ti.desc = .array n el) (TE : TyOk P el te) {a : Operand} {lo hi : Option Operand} (ho : o.op = .slice t a lo hi none) :
    Step1 o.dst x e (LV P o e h) NoP (fun p k => (slArr n te.sz a (evoF lo) (evoF hi) o.dst).run g x e h p k) := by
  refine Step1.ox fun u hu => Step1.onPtr fun b off hq => Step1.ox fun loi hlo => Step1.ox fun hii hhi => Step1.ox fun p hp => Step1.ox fun v hv => Step1.put ⟨rfl, fun ι w ρ R he => ?_⟩
  subst hq
  have h1 := he a (by simp [ho, Op.operands]) _ hu
  obtain ⟨i, hb, hr⟩ := ren_ptr h1
  have e2 : ∀ y, lo = some y → ∀ u, (evF y).run e = some u → ren ι u = some (ρ y) := fun y hy => he y (by simp [ho, Op.operands, hy])
  have e3 : ∀ y, hi = some y → ∀ u, (evF y).run e = some u → ren ι u = some (ρ y) := fun y hy => he y (by simp [ho, Op.operands, hy])
  have hbb := run_sliceBounds (P := P) (w := w) (ρ := ρ) (ι := ι) (isS := false) hp (Nat.le_refl _) hlo hhi e2 e3
  obtain ⟨pa, pb⟩ := p
  obtain ⟨p1, p2⟩ := bounds2_some hp
  have hpl : pa ≤ n := by
    have q2 : pa ≤ pb := by rcases p2 with ⟨_, rfl⟩ | ⟨_, q⟩; exact Nat.zero_le _; exact q
    rcases p1 with ⟨_, rfl⟩ | ⟨_, q⟩ <;> omega
  have h2 := slice3_s R hv hpl (.inr ⟨(b, off), i, rfl, hb, fun _ => rfl⟩)
  refine ⟨_, h2, ?_⟩
  simp only [execOp, ho, Instr.sliceAt]
  simp only [hr]
  simp [run_underlying T, hd, hbb, run_sizeOf TE, Instr.sureAddr]
  split <;> rfl

theorem opSlice_s (K : COk C P) {t : TypeId} {a : Operand} {lo hi mx : Option Operand} (ho : o.op = .slice t a lo hi mx) : Step1 o.dst x e (LV P o e h) NoP (fun p k => (opSlice C t a lo hi mx o.dst).run g x e h p k) := by
  refine Step1.so fun ti ht => ?_
  have T := K.ty _ _ ht
  cases hd : ti.desc with
  | string =>
    cases mx with
    | none => exact slStr_s T hd ho
    | some m => exact Step1.bad'
  | slice el => exact Step1.selF (fun hs => Step1.so fun te hte => slSl_s K T hd (K.ty _ _ hte) ho hs) fun _ => Step1.bad'
  | array n el =>
    cases mx with
    | none => exact Step1.so fun te hte => slArr_s K T hd (K.ty _ _ hte) ho
    | some m => exact Step1.bad'
  | _ => exact Step1.bad'

end
end Go.Sim
end
section
/- Lengths, maps, type assertions, aggregates. -/
namespace Go.Sim

theorem run_getObj {P : Program} {w : World} {r : Nat} {ob : Obj} (h : w.heap[r]? = some ob) (hc : ∀ a b c, ob ≠ .cells a b c) : (getObj r).run P w = .ok ob w := by
  simp only [getObj, Sem.run, h]

theorem run_setObj {P : Program} {w : World} {r : Nat} {ob ob' : Obj} (h : w.heap[r]? = some ob) (hc : ∀ a b c, ob ≠ .cells a b c) : (setObj r ob').run P w = .ok () { w with heap := w.heap.setIfInBounds r ob' } := by
  simp only [setObj, Sem.run, h]

section
variable {P : Program} {C : Ctx} {o : Oper} {x : FX} {e : Env} {h : H} {g : G}

theorem mapOf_some {o : Option AObj} {es : List (AVal × AVal)} (h : mapOf o = some es) : ∃ ck, o = some (.map es ck) := by
  unfold mapOf at h
  split at h
  · cases h; exact ⟨_, rfl⟩
  · cases h

theorem Rel.map {ι : Inj} {w : World} (r : Rel ι h w) {b : Nat} {i : BI} {es : List (AVal × AVal)} {ck : Nat} (hb : ι b = some i) (hc : h.get b = some (.map es ck)) :
    ∃ es' clock, w.heap[i.B]? = some (.map es' clock) ∧ MapRel ι es ck es' clock := by
  obtain ⟨_, q, hq, ho⟩ := r.dom b i hb
  rw [hc] at hq; cases hq
  exact ho

theorem run_builtin {c : Call} {b : Builtin} {ρ : Operand → Value} (ho : o.op = .call c) (hc : c.callee = .builtin b) (w : World) :
    ∃ consts, (execOp ρ o).run P w = (builtin b c.argTypes o.type consts (c.args.map ρ)).run P w := by
  refine ⟨c.args.map fun | .const _ => true | _ => false, ?_⟩
  simp only [execOp, ho, resolve, hc]
  simp [invoke]
  rfl

theorem lenX_s {t : TypeId} {ti : TI} (T : TyOk P t ti) {v : AVal} {n : Nat} (hl : lenX ti.desc h v = some n) {ι : Inj} {w : World} (R : Rel ι h w) {vc : Value} (hv : ren ι v = some vc) (ats : Array TypeId) (ty : TypeId) (as : Array Value) (ha : ats[0]? = some t) (hs : as[0]? = some vc) :
    (Builtin.len_ ats ty as).run P w = .ok (goInt n) w := by
  unfold Builtin.len_
  simp only [ha, hs]
  unfold lenX at hl
  split at hl
  · rename_i s hd
    cases hl
    simp [ren] at hv; subst hv
    have hz : (ByteArray.mk s.toArray).size = len s := by rw [len_eq]; simp [ByteArray.size]
    rw [run_bind (run_underlying T w), hd]
    simp only [hz]
    rfl
  · rename_i el a n' c hd
    cases hl
    obtain ⟨b', l', c', rfl, _⟩ := ren_slcO hv
    have : l' = n := by
      cases a with
      | none => simp [ren] at hv; exact hv.2.1.symm
      | some q => obtain ⟨i, _, h2⟩ := ren_slcE (b := q.1) (off := q.2) hv; simp at h2; exact h2.2.1
    subst this
    simp [run_underlying T, hd]
  · rename_i k el hd
    cases hl
    simp [ren] at hv; subst hv
    simp [run_underlying T, hd]
  · rename_i k el r hd
    obtain ⟨es, h1, h2⟩ := ob_eq.1 hl
    cases h2
    obtain ⟨ck, hg⟩ := mapOf_some h1
    obtain ⟨i, hb, rfl⟩ := ren_map' hv
    obtain ⟨es', clock, hh, M⟩ := R.map hb hg
    simp [run_underlying T, hd, run_getObj hh (by simp), M.hlen, len_eq]
  · cases hl

theorem bLen_s (K : COk C P) {c : Call} (ho : o.op = .call c) (hc : c.callee = .builtin .len) : Step1 o.dst x e (LV P o e h) NoP (fun p k => (bLen C c.argTypes.toList c.args.toList o.dst).run g x e h p k) := by
  unfold bLen
  split
  · rename_i t ts a hts has
    refine Step1.so fun ti ht => Step1.ox fun v hv => Step1.ox fun n hn => Step1.put ⟨rfl, fun ι w ρ R he => ?_⟩
    have h1 := he a (by simp [ho, Op.operands, Call.operands, hc, has]) _ hv
    refine ⟨_, by simp [ren]; rfl, ?_⟩
    obtain ⟨consts, hr⟩ := run_builtin (P := P) (ρ := ρ) ho hc w
    rw [hr]
    have := lenX_s (K.ty _ _ ht) hn R h1 c.argTypes o.type (c.args.map ρ) (by rw [← Array.getElem?_toList, hts]; rfl) (by rw [← Array.getElem?_toList]; simp [has])
    simp [builtin, this, goInt]
  · exact Step1.bad'

theorem max2_s {u v r : AVal} (hh : max2A u v = some r) {ι : Inj} {uc vc : Value} (hu : ren ι u = some uc) (hv : ren ι v = some vc) (w : World) : ∃ rc, ren ι r = some rc ∧ (Builtin.max2 uc vc).run P w = .ok rc w := by
  unfold max2A at hh
  split at hh
  · cases hh
    simp [ren] at hu hv; subst hu hv
    refine ⟨_, by simp [ren]; rfl, ?_⟩
    simp only [Builtin.max2, Sem.run_pure, leI_eq, sel_eq]
    congr 2
    simp only [decide_eq_true_eq]
    split <;> split <;> omega
  · cases hh
theorem min2_s {u v r : AVal} (hh : min2A u v = some r) {ι : Inj} {uc vc : Value} (hu : ren ι u = some uc) (hv : ren ι v = some vc) (w : World) : ∃ rc, ren ι r = some rc ∧ (Builtin.min2 uc vc).run P w = .ok rc w := by
  unfold min2A at hh
  split at hh
  · cases hh
    simp [ren] at hu hv; subst hu hv
    refine ⟨_, by simp [ren]; rfl, ?_⟩
    simp only [Builtin.min2, Sem.run_pure, leI_eq, sel_eq]
    congr 2
    simp only [decide_eq_true_eq]
    split <;> split <;> omega
  · cases hh

theorem fold2_nil (f : AVal → AVal → Option AVal) (v : AVal) : fold2 f [] v = some v := rfl
theorem fold2_cons (f : AVal → AVal → Option AVal) (y : AVal) (l : List AVal) (v : AVal) : fold2 f (y :: l) v = ob (f v y) (fold2 f l) := rfl

theorem fold_s {f : AVal → AVal → Option AVal} {F : Value → Value → Sem Value} {ι : Inj} {w : World} (hf : ∀ u v r, f u v = some r → ∀ uc vc, ren ι u = some uc → ren ι v = some vc → ∃ rc, ren ι r = some rc ∧ (F uc vc).run P w = .ok rc w) :
    ∀ (l : List AVal) (lc : List Value) (u r : AVal) (uc : Value), fold2 f l u = some r → ren ι u = some uc → renL ι l = some lc → ∃ rc, ren ι r = some rc ∧ (lc.foldlM F uc).run P w = .ok rc w
  | [], lc, u, r, uc, hh, hu, hl => by
    rw [renL_nil] at hl; subst hl
    rw [fold2_nil] at hh; cases hh
    exact ⟨uc, hu, by simp⟩
  | y :: l, lc, u, r, uc, hh, hu, hl => by
    obtain ⟨yc, ys, h1, h2, rfl⟩ := renL_cons.1 hl
    rw [fold2_cons] at hh
    obtain ⟨q, h3, h4⟩ := ob_eq.1 hh
    obtain ⟨qc, h5, h6⟩ := hf _ _ _ h3 _ _ hu h1
    obtain ⟨rc, h7, h8⟩ := fold_s hf l ys q r qc h4 h5 h2
    exact ⟨rc, h7, by simp [h6, h8]⟩

theorem bFold_s {c : Call} {b : Builtin} (ho : o.op = .call c) (hc : c.callee = .builtin b) {f : AVal → AVal → Option AVal} {F : Value → Value → Sem Value}
    (hf : ∀ ι w u v r, f u v = some r → ∀ uc vc, ren ι u = some uc → ren ι v = some vc → ∃ rc, ren ι r = some rc ∧ (F uc vc).run P w = .ok rc w)
    (hb : ∀ consts y rest w rc, (rest.foldlM F y : Sem Value).run P w = .ok rc w → (builtin b c.argTypes o.type consts (y :: rest).toArray).run P w = .ok (.value rc) w) :
    Step1 o.dst x e (PV P o e h) NoP (fun p k => (bFold f c.args.toList o.dst).run g x e h p k) := by
  refine Step1.ox fun vs hvs => ?_
  cases vs with
  | nil => exact Step1.bad'
  | cons v r =>
    refine Step1.ox fun q hq => Step1.put ⟨rfl, fun ι w ρ he => ?_⟩
    have h1 := evs_renL (ι := ι) (ρ := ρ) (fun y hy => he y (by simp [ho, Op.operands, Call.operands, hc]; simpa using hy)) hvs
    obtain ⟨vc, rest, h2, h3, h4⟩ := renL_cons.1 h1
    obtain ⟨rc, h5, h6⟩ := fold_s (P := P) (w := w) (hf ι w) r rest v q vc hq h2 h3
    refine ⟨rc, h5, ?_⟩
    obtain ⟨consts, hr⟩ := run_builtin (P := P) (ρ := ρ) ho hc w
    rw [hr]
    have : c.args.map ρ = (vc :: rest).toArray := by rw [← h4, ← Array.toList_map]
    rw [this]
    exact hb _ _ _ _ _ h6

theorem bMax_s {c : Call} (ho : o.op = .call c) (hc : c.callee = .builtin .max) : Step1 o.dst x e (PV P o e h) NoP (fun p k => (bFold max2A c.args.toList o.dst).run g x e h p k) :=
  bFold_s ho hc (F := Builtin.max2) (fun ι w u v r hh uc vc hu hv => max2_s hh hu hv w) fun consts y rest w rc hr => by simp [builtin, Builtin.max_, hr]
theorem bMin_s {c : Call} (ho : o.op = .call c) (hc : c.callee = .builtin .min) : Step1 o.dst x e (PV P o e h) NoP (fun p k => (bFold min2A c.args.toList o.dst).run g x e h p k) :=
  bFold_s ho hc (F := Builtin.min2) (fun ι w u v r hh uc vc hu hv => min2_s hh hu hv w) fun consts y rest w rc hr => by simp [builtin, Builtin.min_, hr]

/-! ### Zero values -/

theorem zeroV_s {t : TypeId} {ti : TI} (T : TyOk P t ti) {z : AVal} (hz : zeroV ti = some z) (w : World) : ∃ zv, (zeroValue t).run P w = .ok zv w ∧ ∀ ι, ren ι z = some zv := by
  unfold zeroV at hz
  obtain ⟨l, h1, h2⟩ := ob_eq.1 hz
  obtain ⟨zv, q1, q2, q3, q4, q5⟩ := run_zero T h1 w
  refine ⟨zv, q1, fun ι => ?_⟩
  rw [sel_eq] at h2
  split at h2
  · rename_i hd
    cases h2
    obtain ⟨cs, rfl⟩ := q4 hd
    simp only [Value.cells] at q2
    have := cSs_ren (ι := ι) q2
    rw [ren_agg_of this]
  · rename_i hd
    split at h2
    · cases h2
      have h5 := q5 (by simpa using hd)
      have hc : zv.cells = #[zv] := by cases zv <;> first | rfl | exact absurd rfl (h5 _)
      rw [hc] at q2
      have := cSs_ren (ι := ι) q2
      obtain ⟨a, as, r1, r2, r3⟩ := renL_cons.1 this
      simp at r3
      rw [r1, r3.1]
    · cases h2

theorem assertX_s {t : TypeId} {ti : TI} {ok : Bool} {u : AVal} (T : TyOk P t ti) (hd : ifaceD ti.desc = false) {a : Operand} {it : TypeId} (ho : o.op = .typeAssert a it t ok) (hu : (evF a).run e = some u) :
    Step1 o.dst x e (PV P o e h) NoP (fun p k => assertX o.dst x e h k t ok (zeroV ti) u) := by
  cases u with
  | nilIface =>
    refine Step1.when fun hok => Step1.ox fun z hz => Step1.put ⟨rfl, fun ι w ρ he => ?_⟩
    have h1 := he a (by simp [ho, Op.operands]) _ hu
    simp [ren] at h1
    obtain ⟨zv, q1, q2⟩ := zeroV_s T hz w
    refine ⟨.tuple #[zv, .bool false], by simp [ren, renL, q2], ?_⟩
    simp only [execOp, ho, Instr.typeAssert]
    subst hok
    cases hdd : ti.desc <;> simp [hdd, ifaceD] at hd <;> simp [run_underlying T, hdd, ← h1, q1]
  | iface v u =>
    refine Step1.sel (fun hv => Step1.put ⟨rfl, fun ι w ρ he => ?_⟩) (fun hv => Step1.when fun hok => Step1.ox fun z hz => Step1.put ⟨rfl, fun ι w ρ he => ?_⟩)
    · have h1 := he a (by simp [ho, Op.operands]) _ hu
      obtain ⟨uc, h2, h3⟩ := ren_iface h1
      simp at hv; subst hv
      cases ok with
      | true =>
        refine ⟨.tuple #[uc, .bool true], by simp [ren, renL, h2], ?_⟩
        simp only [execOp, ho, Instr.typeAssert]
        cases hdd : ti.desc <;> simp [hdd, ifaceD] at hd <;> simp [run_underlying T, hdd, h3]
      | false =>
        refine ⟨uc, by simp [h2], ?_⟩
        simp only [execOp, ho, Instr.typeAssert]
        cases hdd : ti.desc <;> simp [hdd, ifaceD] at hd <;> simp [run_underlying T, hdd, h3]
    · have h1 := he a (by simp [ho, Op.operands]) _ hu
      obtain ⟨uc, h2, h3⟩ := ren_iface h1
      obtain ⟨zv, q1, q2⟩ := zeroV_s T hz w
      refine ⟨.tuple #[zv, .bool false], by simp [ren, renL, q2], ?_⟩
      simp only [execOp, ho, Instr.typeAssert]
      subst hok
      simp at hv
      cases hdd : ti.desc <;> simp [hdd, ifaceD] at hd <;> simp [run_underlying T, hdd, h3, q1, hv]
  | _ => exact Step1.bad'

theorem opAssert_s (K : COk C P) {t it : TypeId} {a : Operand} {ok : Bool} (ho : o.op = .typeAssert a it t ok) : Step1 o.dst x e (PV P o e h) NoP (fun p k => (opAssert C a t ok o.dst).run g x e h p k) :=
  Step1.so fun ti ht => Step1.selF (fun _ => Step1.bad') fun hd => Step1.ox fun u hu => assertX_s (K.ty _ _ ht) hd ho hu

end
end Go.Sim
end
