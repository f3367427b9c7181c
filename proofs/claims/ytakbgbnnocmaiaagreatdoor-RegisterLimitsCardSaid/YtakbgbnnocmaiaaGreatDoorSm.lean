/- Functions of the library that the executor takes as they are: strings.Join, bytealg.IndexByteString. -/
import Derived.Test.YtakbgbnnocmaiaaGreatDoorSl
import Derived.Shelf.Strings.OnBuilder
import Derived.Lib.Bytealg
import Derived.Laws.Externs
set_option linter.all false
section
namespace Go.Sim

/-! ### internal/bytealg.IndexByteString -/

noncomputable def idxB (c : Nat) (s : List UInt8) : Nat → Int :=
  @List.rec UInt8 (fun _ => Nat → Int) (fun _ => .negSucc 0) (fun b _ ih i => @Bool.rec (fun _ => Int) (ih (Nat.add i 1)) (.ofNat i) (Nat.beq b.toNat c)) s

noncomputable def ibF (args : List AVal) : Option AVal := match args with
  | [.str s, .int .u8 (.ofNat c)] => sel (Nat.blt c 256) (some (.int .i64 (idxB c s 0))) none
  | _ => none

theorem idxB_eq (c : Nat) (hc : c < 256) : ∀ (s : List UInt8) (i : Nat), idxB c s i = if Lib.indexByte s c.toUInt8 == -1 then -1 else Lib.indexByte s c.toUInt8 + i
  | [], i => by simp [Lib.indexByte]; rfl
  | b :: r, i => by
    show @Bool.rec (fun _ => Int) (idxB c r (i + 1)) (.ofNat i) (Nat.beq b.toNat c) = _
    have hb : (b == c.toUInt8) = Nat.beq b.toNat c := by
      rw [natBeq]
      by_cases h : b.toNat = c
      · have : b = c.toUInt8 := by
          apply UInt8.toNat_inj.1
          rw [h]; simp; omega
        simp [this]
        omega
      · have : ¬ b = c.toUInt8 := by
          rintro rfl
          apply h
          simp; omega
        simp [this, h]
    have hL : Lib.indexByte (b :: r) c.toUInt8 = if Nat.beq b.toNat c = true then 0 else if Lib.indexByte r c.toUInt8 == -1 then -1 else Lib.indexByte r c.toUInt8 + 1 := by
      rw [← hb]; rfl
    generalize Lib.indexByte (b :: r) c.toUInt8 = L at hL
    subst hL
    cases Nat.beq b.toNat c with
    | true => simp
    | false =>
      simp only [Bool.false_eq_true, if_false]
      rw [idxB_eq c hc r (i + 1)]
      by_cases h : Lib.indexByte r c.toUInt8 == -1
      · rw [if_pos h]; simp [h]
      · rw [if_neg h]
        have hnn : ∀ l : List UInt8, Lib.indexByte l c.toUInt8 = -1 ∨ 0 ≤ Lib.indexByte l c.toUInt8 := by
          intro l
          induction l with
          | nil => left; rfl
          | cons x l ih =>
            simp only [Lib.indexByte]
            split
            · right; decide
            · split
              · left; rfl
              · rename_i hq
                have : Lib.indexByte l c.toUInt8 ≠ -1 := by simpa using hq
                rcases ih with ih | ih
                · exact absurd ih this
                · right; omega
        have h' : Lib.indexByte r c.toUInt8 ≠ -1 := by simpa using h
        rw [if_neg h]
        have h2 : ¬ (Lib.indexByte r c.toUInt8 + 1 == -1) = true := by
          intro hq
          have hq : Lib.indexByte r c.toUInt8 + 1 = -1 := eq_of_beq hq
          have := hnn r
          omega
        rw [if_neg h2]
        omega

section
variable {P : Program}

theorem ib_ext {f : FuncId} {fn : Func} (hf : P.funcs[f]? = some fn) (hname : (fn.name == "runtime.NumGoroutine") = false) (hb : fn.body.isNone = true) (hn : Extern.findNext fn = none) (he : Extern.find fn = some Extern.BytealgIndexByte.indexByte)
    {vs : List AVal} {v : AVal} (hv : ibF vs = some v) (ι : Inj) (w : World) (cargs : List Value) (hr : renL ι vs = some cargs) : ∃ vc, ren ι v = some vc ∧ (callFunc f cargs.toArray).run P w = .ok (.value vc) w := by
  unfold ibF at hv
  split at hv
  · rename_i s c
    rw [sel_eq, natBlt] at hv
    split at hv
    · rename_i hc
      have hc : c < 256 := by simpa using hc
      cases hv
      obtain ⟨a, ar, h1, h2, rfl⟩ := renL_cons.1 hr
      obtain ⟨a2, ar2, h3, h4, rfl⟩ := renL_cons.1 h2
      rw [renL_nil] at h4; subst h4
      simp [ren] at h1 h3
      subst h1 h3
      refine ⟨_, by simp [ren]; rfl, ?_⟩
      rw [run_callFunc_extern hf hname hb hn he]
      show (Result.andThen ((Extern.BytealgIndexByte.indexByte #[.string ⟨s.toArray⟩, .int .u8 (c : Int)]).run P w) _) = _
      rw [Lib.run_indexByteString]
      simp only [Result.andThen]
      congr 2
      rw [idxB_eq c hc s 0]
      have : ((c : Int)).toNat = c := by simp
      rw [this]
      split
      · rename_i h
        have : Lib.indexByte s c.toUInt8 = -1 := by simpa using h
        simp [this]
      · simp
    · cases hv
  · cases hv

/-! ### strings.Join -/

noncomputable def joinT (sep : List UInt8) (l : List AVal) : Option (List UInt8) :=
  @List.rec AVal (fun _ => Option (List UInt8)) (some []) (fun v _ ih => @AVal.casesOn (fun _ => Option (List UInt8)) v none (fun _ => none) (fun _ _ => none) (fun s => ob ih (fun q => some (app sep (app s q))))
    (fun _ => none) (fun _ _ _ => none) (fun _ => none) (fun _ _ => none) (fun _ => none) none (fun _ _ => none) none (fun _ => none) (fun _ => none)) l

noncomputable def joinB (sep : List UInt8) (l : List AVal) : Option (List UInt8) :=
  match l with
  | [] => some []
  | .str a :: r => ob (joinT sep r) (fun q => some (app a q))
  | _ => none

/-- no address of another make -/
def evenA : Option (Nat × Nat) → Bool
  | none => true
  | some p => !Nat.beq p.2 odd

noncomputable def joinF : CallT → List AVal → H → CR := fun _ args h => match args with
  | [.slc a n c, .str sep] => @Option.casesOn _ (fun _ => CR) (readSl h 1 (.slc a n c)) .bad (fun p => @Option.casesOn _ (fun _ => CR) (joinB sep p.2) .bad (fun r => sel (Nat.ble (len r) 1000000000000 && Nat.ble n c && Nat.ble n 1000000000000 && evenA a) (.ok (.str r) h) .bad))
  | _ => .bad

theorem joinT_str {sep : List UInt8} : ∀ {l : List AVal} {q : List UInt8}, joinT sep l = some q → ∃ xs : List (List UInt8), l = xs.map .str ∧ q = Lib.joinTail sep xs
  | [], q, h => by
    have h : some [] = some q := h
    cases h
    exact ⟨[], rfl, rfl⟩
  | v :: l, q, h => by
    cases v with
    | str s =>
      have h : ob (joinT sep l) (fun q => some (app sep (app s q))) = some q := h
      obtain ⟨q1, h1, h2⟩ := ob_eq.1 h
      cases h2
      obtain ⟨xs, rfl, rfl⟩ := joinT_str h1
      exact ⟨s :: xs, rfl, by simp [Lib.joinTail, app_eq]⟩
    | _ => cases h

theorem joinB_str {sep : List UInt8} {l : List AVal} {q : List UInt8} (h : joinB sep l = some q) : ∃ xs : List (List UInt8), l = xs.map .str ∧ q = Lib.join xs sep := by
  unfold joinB at h
  split at h
  · cases h; exact ⟨[], rfl, by rw [Lib.join_nil]⟩
  · rename_i a r
    obtain ⟨q1, h1, h2⟩ := ob_eq.1 h
    cases h2
    obtain ⟨xs, rfl, rfl⟩ := joinT_str h1
    exact ⟨a :: xs, rfl, by rw [Lib.join_cons, app_eq]⟩
  · cases h

/-- what a contract of the kit says of a call, for a caller -/
theorem steps_of_calls {f : FuncId} {args : Array Value} {w : World} {R : World → Prop} {v : Value} (h : Calls P f args w fun e w' => e = .returned v ∧ R w') (c : Frame) (cs : List Frame) : ∃ w', R w' ∧ Steps P (lone (Frame.enter P f args .normal) (c :: cs) w) (lone (c.finish v) cs w') := by
  obtain ⟨e, w', fr, ⟨rfl, hR⟩, hc, _, hl⟩ := h (c :: cs)
  exact ⟨w', hR, Steps.trans hc (.one (step_leave_returned hl))⟩

open Go.RowKit in
theorem went_below {ι : Inj} {h : H} {w w' : World} (r : Rel ι h w) (hb : Below w.heap.size w w') : Went ι h w ι h w' :=
  ⟨Ext.refl ι, Nat.le_refl _, Nat.le_refl _, fun _ _ _ => rfl, fun b i h1 h2 => (by rw [h1] at h2; cases h2), hb.size, fun B hB hne => absurd (hb.block B hB) hne, r.grown hb.size hb.block, ⟨hb.os, hb.tape, hb.output⟩⟩

theorem joinF_some (call : CallT) (args : List AVal) (h : H) : joinF call args h = .bad ∨ ∃ a n c sep p q, args = [.slc a n c, .str sep] ∧ readSl h 1 (.slc a n c) = some p ∧ joinB sep p.2 = some q ∧ q.length ≤ 1000000000000 ∧ n ≤ c ∧ n ≤ 1000000000000 ∧ evenA a = true ∧ joinF call args h = .ok (.str q) h := by
  unfold joinF
  split
  · rename_i a n c sep
    cases hr : readSl h 1 (.slc a n c) with
    | none => exact .inl rfl
    | some p =>
      cases hj : joinB sep p.2 with
      | none => left; simp only; rw [hj]
      | some q =>
        by_cases hc : (Nat.ble (len q) 1000000000000 && Nat.ble n c && Nat.ble n 1000000000000 && evenA a) = true
        · right
          have hc' := hc
          simp only [Bool.and_eq_true, natBle, decide_eq_true_eq, len_eq] at hc'
          refine ⟨a, n, c, sep, p, q, rfl, hr, hj, hc'.1.1.1, hc'.1.1.2, hc'.1.2, hc'.2, ?_⟩
          simp only
          rw [hj]
          simp only
          rw [hc]
        · left
          have hc' : (Nat.ble (len q) 1000000000000 && Nat.ble n c && Nat.ble n 1000000000000 && evenA a) = false := by simpa using hc
          simp only
          rw [hj]
          simp only
          rw [hc']
  · exact .inl rfl

open Go.Proofs Go.Shelf Go.RowKit in
/-- strings.Join, over the kit's contracts -/
theorem join_ov {ρ : Ren} (L : Lays.n156 P ρ) (X : Builder.Extra P ρ) {f : FuncId} (hf : ρ.f 156 = f) (call : CallT) (args : List AVal) (h : H) : (match joinF call args h with
    | .bad => True
    | .ok v h' => ∀ ι w cargs, Rel ι h w → Glob ι → renL ι args = some cargs → ∀ c cs, ∃ ι' w' vc, Went ι h w ι' h' w' ∧ ren ι' v = some vc ∧
        Steps P (lone (Frame.enter P f cargs.toArray .normal) (c :: cs) w) (lone (c.finish vc) cs w')
    | .pan ch h' => ∀ ι w cargs, Rel ι h w → Glob ι → renL ι args = some cargs → ∀ c cs, ∃ ι' w' chain, Went ι h w ι' h' w' ∧ ChainRel ι' ch chain ∧
        Steps P (lone (Frame.enter P f cargs.toArray .normal) (c :: cs) w) (lone (c.raise chain) cs w')) := by
  rcases joinF_some call args h with hb | ⟨a, n, c, sep, p, q, rfl, hr, hj, c1, c2, c3, c4, hok⟩
  · rw [hb]; trivial
  · rw [hok]
    intro ι w cargs r hg hren fr cs
    obtain ⟨ac, ar, h1, h2, rfl⟩ := renL_cons.1 hren
    obtain ⟨sc, ar2, h3, h4, rfl⟩ := renL_cons.1 h2
    rw [renL_nil] at h4; subst h4
    have h3 : sc = .string ⟨sep.toArray⟩ := by simpa [ren] using h3.symm
    subst h3
    obtain ⟨xs, hxs, hq⟩ := joinB_str hj
    obtain ⟨pn, pl⟩ := p
    simp only at hxs hj
    subst hxs
    have key : ∃ cap : Nat, (ac = .slice none n cap ∧ n = 0 ∨ ∃ bk o, ac = .slice (some ⟨bk, o, none⟩) n cap ∧ n ≤ cap ∧ bk < w.heap.size ∧ (n = 0 ∨ (n = xs.length ∧ ∀ (j : Nat) x, xs[j]? = some x → w.cell? ⟨bk, o + j, none⟩ = some (.string ⟨x.toArray⟩)))) ∧ (n = 0 → xs = []) := by
      have hr0 := hr
      cases a with
      | none =>
        have h1 : ac = .slice none n c := by simpa [ren] using h1.symm
        have hr : sel (Nat.beq n 0) (some (0, [])) none = some (pn, xs.map AVal.str) := hr
        rw [natBeq, sel_eq] at hr
        split at hr
        · rename_i hn
          have hn : n = 0 := by simpa using hn
          refine ⟨c, .inl ⟨h1, hn⟩, fun _ => ?_⟩
          have : [] = xs.map AVal.str := by simpa using (Prod.mk.inj (Option.some.inj hr)).2
          simpa using this.symm
        · cases hr
      | some bo =>
        obtain ⟨b, off⟩ := bo
        obtain ⟨i, hb, rfl⟩ := ren_slcE h1
        have hev : off ≠ odd := fun e => by subst e; cases c4
        rw [adr_near hev]
        have hr : sel (Nat.beq n 0) (some (0, [])) (ob (cellsOf (h.get b)) (fun vs => ob (takeX (Nat.mul n 1) (dropX off vs)) (fun q => some (n, q)))) = some (pn, xs.map AVal.str) := hr
        have hcap : n ≤ capE i off n c := Nat.le_trans (by omega) capE_le
        rw [natBeq, sel_eq] at hr
        split at hr
        · rename_i hn
          have hn : n = 0 := by simpa using hn
          refine ⟨_, .inr ⟨i.B, i.base + adrE i off n c, rfl, hcap, r.fits b i hb, .inl hn⟩, fun _ => ?_⟩
          have : [] = xs.map AVal.str := by simpa using (Prod.mk.inj (Option.some.inj hr)).2
          simpa using this.symm
        · rename_i hn
          obtain ⟨vs, hvs, hr⟩ := ob_eq.1 hr
          obtain ⟨q2, ht, hr⟩ := ob_eq.1 hr
          have hq2 : q2 = xs.map AVal.str := (Prod.mk.inj (Option.some.inj hr)).2
          subst hq2
          have e1 : Nat.mul n 1 = n := Nat.mul_one n
          rw [e1, takeX_eq, dropX_eq] at ht
          split at ht
          · rename_i hle
            have ht : (vs.drop off).take n = xs.map AVal.str := Option.some.inj ht
            have hlen : n = xs.length := by
              have := congrArg List.length ht
              rw [List.length_take, List.length_map] at this
              omega
            obtain ⟨esz, opn, frz, pars, cs', T, fz, hgt, hheap, RR⟩ := r.cells hb hvs
            have hadr : adrE i off n c = off := if_neg fun hh => by simp [hh.2.1] at hn
            rw [hadr] at *
            refine ⟨_, .inr ⟨i.B, i.base + off, rfl, hcap, r.fits b i hb, .inr ⟨hlen, fun j x hx => ?_⟩⟩, fun h0 => absurd h0 (by simpa using hn)⟩
            have hj : ((vs.drop off).take n)[j]? = some (.str x) := by rw [ht, List.getElem?_map, hx]; rfl
            have hjn : j < n := by
              have := (List.getElem?_eq_some_iff.1 hx).1
              omega
            rw [List.getElem?_take, if_pos hjn, List.getElem?_drop] at hj
            obtain ⟨vc, v1, v2⟩ := RR.vals (off + j) _ hj
            have v1 : vc = .string ⟨x.toArray⟩ := by simpa [ren] using v1.symm
            subst v1
            exact cell_of hheap (by rw [show i.base + off + j = i.base + (off + j) by omega]; exact v2)
          · cases ht
    obtain ⟨cap, hk, hk0⟩ := key
    have hmap : (xs.map fun x => (⟨x.toArray⟩ : ByteArray)).map (·.data.toList) = xs := by
      rw [List.map_map]
      conv => rhs; rw [← List.map_id xs]
      apply List.map_congr_left
      intro x _; simp
    -- the contract
    have done_ : ∀ v, (Calls P f (ac :: [.string ⟨sep.toArray⟩]).toArray w fun e w' => e = .returned v ∧ Below w.heap.size w w') → v = .string ⟨q.toArray⟩ →
        ∃ ι' w' vc, Went ι h w ι' h w' ∧ ren ι' (.str q) = some vc ∧ Steps P (lone (Frame.enter P f (ac :: [.string ⟨sep.toArray⟩]).toArray .normal) (fr :: cs) w) (lone (fr.finish vc) cs w') := by
      intro v hcalls hv
      subst hv
      obtain ⟨w', hb, st⟩ := steps_of_calls hcalls fr cs
      exact ⟨ι, w', _, went_below r hb, by simp [ren], st⟩
    by_cases hn0 : n = 0
    · have hx0 := hk0 hn0
      subst hx0
      have hq0 : q = [] := by rw [hq, Lib.join_nil]
      have hac : ∃ ad, ac = .slice ad 0 cap := by
        rcases hk with ⟨rfl, _⟩ | ⟨bk, o, rfl, _⟩
        · exact ⟨none, by rw [hn0]⟩
        · exact ⟨_, by rw [hn0]⟩
      obtain ⟨ad, rfl⟩ := hac
      refine done_ (.string ⟨#[]⟩) ?_ (by rw [hq0])
      have := Any.strings_Join_none L X ad cap ⟨sep.toArray⟩ w
      rw [hf] at this
      exact this.mono fun e w' ⟨h1, h2⟩ => ⟨h1, h2 ▸ Below.refl _ _⟩
    · rcases hk with ⟨_, h0⟩ | ⟨bk, o, rfl, hcap, hbk, h0 | ⟨hlen, hcells⟩⟩
      · exact absurd h0 hn0
      · exact absurd h0 hn0
      · have hlx : (xs.map fun x => (⟨x.toArray⟩ : ByteArray)).length = n := by rw [List.length_map, hlen]
        have := Any.strings_Join L X bk o cap (xs.map fun x => ⟨x.toArray⟩) ⟨sep.toArray⟩ w (fun j x hx => by
          rw [List.getElem?_map] at hx
          cases hxx : xs[j]? with
          | none => rw [hxx] at hx; cases hx
          | some y => rw [hxx] at hx; cases hx; exact hcells j y hxx) hbk (by rw [hlx]; omega) (by rw [hlx]; exact hcap) (by
            rw [hmap]
            have : (⟨sep.toArray⟩ : ByteArray).data.toList = sep := by simp
            rw [this, ← hq]; omega)
        rw [hf, hlx, hmap] at this
        have e2 : (⟨sep.toArray⟩ : ByteArray).data.toList = sep := by simp
        rw [e2, ← hq] at this
        exact done_ _ this rfl

end
end Go.Sim
end
section
/- From the executor's answer to a contract in the kit's words. -/
namespace Go.Sim
open Go.RowKit

section
variable {P : Program} {C : Ctx} {g : G}

/-- a call that the executor answers, as 'Calls' -/
theorem callB_calls (K : COk C P) (O : FOk C P) (hG : GSim P g) {f : FuncId} {args : List AVal} {h h' : H} {v : AVal} (hr : callB C g f args h = .ok v h') {ι : Inj} {w : World} {cargs : List Value} (r : Rel ι h w) (hg : Glob ι) (ha : renL ι args = some cargs) :
    Calls P f cargs.toArray w fun e w' => ∃ ι' vc, e = .returned vc ∧ Went ι h w ι' h' w' ∧ ren ι' v = some vc := by
  cases hft : C.ft.get f with
  | none =>
    have : callB C g f args h = .bad := by unfold callB; rw [hft]
    rw [this] at hr; cases hr
  | some fn =>
    obtain ⟨hf, hn⟩ := O.fn f fn hft
    have e0 : callB C g f args h = bodyEnd C g fn (bodyA C g f fn args .nrm h) := by unfold callB; rw [hft]
    rw [e0] at hr
    cases hbody : bodyA C g f fn args .nrm h with
    | bad => rw [hbody] at hr; cases hr
    | mk ex x env h1 =>
      obtain ⟨s, ds, rc⟩ := x
      rw [hbody] at hr
      cases rc with
      | dfr m => cases hr
      | nrm =>
        have e1 : bodyEnd C g fn (.mk ex ⟨s, ds, .nrm⟩ env h1) = oe (modeOf ex) .bad (fun m => urEnd C env fn.results.toList (unwindA C g ds m h1)) := rfl
        rw [e1] at hr
        cases hmo : modeOf ex with
        | none => rw [hmo] at hr; cases hr
        | some m =>
          rw [hmo, oe_some] at hr
          cases hun : unwindA C g ds m h1 with
          | bad => rw [hun] at hr; cases hr
          | mk m2 h2 =>
            rw [hun] at hr
            cases m2 with
            | pan ch =>
              have hr : CR.pan ch h2 = .ok v h' := hr
              cases hr
            | ret =>
              have hr : oe (resA C env h2 fn.results.toList) .bad (fun vs => CR.ok (packA vs) h2) = .ok v h' := hr
              cases hres : resA C env h2 fn.results.toList with
              | none => rw [hres] at hr; cases hr
              | some vs =>
                rw [hres, oe_some] at hr
                cases hr
                intro cs
                obtain ⟨ι1, w1, a1, cs1, W1, F1, L1, S1, _, A1⟩ := body_s K O hG hft hbody r hg ha (kind := .normal) (cs := cs) rfl
                have := Callers.normal rfl L1
                subst this
                obtain ⟨todo, u, Mu, st⟩ := arr_leave (k := []) rfl A1 hmo
                obtain ⟨ι2, w2, u2, W2, M2, st2⟩ := unwind_s K O hG ds m h1 .ret h' hun ι1 w1 { (fbase f .normal).atR a1 todo with mode := u } cs1 W1.rel (hg.ext W1.ext) F1.ds Mu
                have M2 : u2 = .returning := M2
                subst M2
                obtain ⟨vc, v1, v2⟩ := results_s K W2.rel ((hg.ext W1.ext).ext W2.ext) (EnvRel.ext W2.ext F1.env) hres
                exact ⟨.returned vc, w2, _, ⟨ι2, vc, rfl, W1.trans W2, v1⟩, Steps.trans st st2, rfl, rfl, rfl, rfl, fn, hf, v2⟩

/-- A CLOSED CALL: no block that was there is changed. -/
theorem closed_calls (K : COk C P) (O : FOk C P) {fuel d : Nat} {f : FuncId} {h0 h1 : H} {v : AVal} {vc : Value} (hov : C.ov f = none) (hr : callN C fuel (d + 1) f [] h0 = .ok v h1) {N : Nat} (hlo : N ≤ h1.lo)
    {ι : Inj} {w : World} (r : Rel ι h0 w) (hg : Glob ι) (hd : ∀ b i, ι b = some i → b < N) (hren : ∀ ι', ren ι' v = some vc) : Calls P f #[] w fun e w' => e = .returned vc ∧ Below w.heap.size w w' := by
  have hr' : callB C (gN C fuel d) f [] h0 = .ok v h1 := by
    have e1 : callN C fuel (d + 1) f [] h0 = oe (C.ov f) (callB C (gN C fuel d) f [] h0) (fun F => F (gN C fuel d).call [] h0) := rfl
    rw [e1, hov, oe_none] at hr
    exact hr
  have := callB_calls K O (gN_s K O fuel d) hr' r hg (cargs := []) (by simp [renL])
  refine this.mono ?_
  rintro e w' ⟨ι', vc', rfl, W, hvc⟩
  rw [hren] at hvc
  cases hvc
  refine ⟨rfl, W.out.1, W.out.2.1, W.out.2.2, W.size, fun B hB => ?_⟩
  apply Classical.byContradiction
  intro hne
  obtain ⟨b, i, hb, _, hl⟩ := W.kept B hB hne
  have := hd b i hb
  omega

end
end Go.Sim
end
