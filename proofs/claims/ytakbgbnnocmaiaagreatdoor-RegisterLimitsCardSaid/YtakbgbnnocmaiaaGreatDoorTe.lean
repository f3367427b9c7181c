/- RegisterLimits: sanity returns true, and leaves what there was as it was. -/
import Derived.Test.YtakbgbnnocmaiaaGreatDoorTc
import Derived.Test.YtakbgbnnocmaiaaGreatDoorTd
import Derived.Test.YtakbgbnnocmaiaaGreatDoorTb
set_option linter.all false
section
namespace Go.Proofs
open Go.RowKit Go.Sim

theorem h0_get0 : h0.get 0 = some (.cells (pows 20 1) 20 false true []) := by kernel_rfl
theorem h0_get1 : h0.get 1 = some .dead := by kernel_rfl
theorem h0_get2 : h0.get 2 = some .dead := by kernel_rfl
theorem h0_get3 : h0.get 3 = some .dead := by kernel_rfl
theorem h0_get {g : Nat} (h1 : 1 ≤ g) (h2 : g < 4) : h0.get g = some .dead := by
  have : g = 1 ∨ g = 2 ∨ g = 3 := by omega
  rcases this with rfl | rfl | rfl
  · exact h0_get1
  · exact h0_get2
  · exact h0_get3

theorem pows_get : ∀ (n p k : Nat) {v : AVal}, (pows n p)[k]? = some v → k < n ∧ v = .int .u64 ((p * 10 ^ k : Nat) : Int)
  | 0, p, k, v, h => by simp [pows] at h
  | n + 1, p, 0, v, h => by
    simp [pows] at h
    subst h
    exact ⟨by omega, by simp⟩
  | n + 1, p, k + 1, v, h => by
    simp only [pows, List.getElem?_cons_succ] at h
    obtain ⟨h1, h2⟩ := pows_get n (Nat.mul p 10) k h
    refine ⟨by omega, ?_⟩
    rw [h2, natMul]
    congr 2
    rw [Nat.pow_succ, Nat.mul_assoc, Nat.mul_comm 10]

theorem pows_length : ∀ (n p : Nat), (pows n p).length = n
  | 0, _ => rfl
  | n + 1, p => by simp [pows, pows_length n]

/-- the package-level variables that sanity reads -/
def PowsLaid (w : World) : Prop := 4 ≤ w.heap.size ∧ ∃ cs T fz, w.heap[0]? = some (.cells cs T fz) ∧ ∀ k, k < 20 → cs[k]? = some (.int .u64 ((10 ^ k : Nat) : Int))

def inj0 : Inj := fun g => if g < 4 then some ⟨g, 0, if g = 0 then 20 else 0, 0, 20⟩ else none

theorem inj0_some {g : Nat} {i : BI} (h : inj0 g = some i) : g < 4 ∧ i = ⟨g, 0, if g = 0 then 20 else 0, 0, 20⟩ := by
  unfold inj0 at h
  split at h
  · rename_i hg; exact ⟨hg, (Option.some.inj h).symm⟩
  · cases h

theorem rel0 {w : World} (hw : PowsLaid w) : Rel inj0 h0 w := by
  obtain ⟨hs, cs, T, fz, hc, hv⟩ := hw
  have hobj : ∀ g i, inj0 g = some i → ∃ o, h0.get g = some o ∧ ObjRel inj0 i w o := by
    intro g i h
    obtain ⟨hg, rfl⟩ := inj0_some h
    by_cases h0' : g = 0
    · subst h0'
      refine ⟨_, h0_get0, cs, T, fz, hc, ?_⟩
      have hl := pows_length 20 1
      have hsz : 20 ≤ cs.size := by
        have := (Array.getElem?_eq_some_iff.1 (hv 19 (by omega))).1
        omega
      refine ⟨by simp [hl], rfl, fun _ => rfl, by simp [hl]; exact hsz, fun k v hk => ?_, fun hf => by cases hf⟩
      obtain ⟨k1, rfl⟩ := pows_get 20 1 k hk
      exact ⟨.int .u64 ((1 * 10 ^ k : Nat) : Int), by simp [ren], by rw [Nat.zero_add, hv k k1, Nat.one_mul]⟩
    · exact ⟨.dead, h0_get (by omega) hg, trivial⟩
  refine ⟨by decide, fun g i h => ⟨(inj0_some h).1, hobj g i h⟩, fun b1 b2 i1 i2 o1 o2 hne h1 h2 hB _ _ => ?_, fun g i h => ?_, fun g i vs esz opn frz pars h hg p hp => ?_⟩
  · obtain ⟨_, rfl⟩ := inj0_some h1
    obtain ⟨_, rfl⟩ := inj0_some h2
    exact absurd hB hne
  · obtain ⟨hg, rfl⟩ := inj0_some h
    show g < _
    omega
  · obtain ⟨hg', _⟩ := inj0_some h
    by_cases h0' : g = 0
    · subst h0'; rw [h0_get0] at hg; cases hg; cases hp
    · rw [h0_get (by omega) hg'] at hg; cases hg

theorem glob0 : Glob inj0 := fun g hg => ⟨_, if_pos hg, rfl, rfl⟩

/-- SANITY. -/
theorem sanity_c {w : World} (hw : PowsLaid w) : Calls Tryz.prog 4 #[] w fun e w' => e = .returned (.bool true) ∧ Below w.heap.size w w' := by
  have hr := sanity_run
  cases hc : callN (cx ov1) 2000 (59 + 1) 4 [] h0 with
  | bad => rw [hc] at hr; cases hr
  | pan ch h => rw [hc] at hr; cases hr
  | ok v h1 =>
    rw [hc] at hr
    cases v with
    | bool b =>
      have hr2 : sel b (Nat.ble 4 h1.lo) false = true := hr
      clear hr
      rw [sel_eq, natBle] at hr2
      split at hr2
      · rename_i hb
        subst hb
        exact closed_calls (K_ok ov1) (O_ok ov1_ok) rfl hc (N := 4) (by simpa using hr2) (rel0 hw) glob0 (fun b i hb => (inj0_some hb).1) (fun ι' => by simp [ren])
      · cases hr2
    | _ => cases hr

end Go.Proofs
end
section
/- Calls in the executor, by the weakest precondition; small functions. -/
namespace Go.Proofs
open Go.Sim

open Classical in
/-- sanity's answer, where the powers of ten lie as they are laid -/
noncomputable def sanityF : Ov := fun _ args h => if args = [] ∧ ∃ e o f p, h.get 0 = some (.cells (pows 20 1) e o f p) then .ok (.bool true) h else .bad

noncomputable def ovS : List (Nat × Ov) := (4, sanityF) :: ov1

theorem sanity_ov : OvOk Tryz.prog 4 sanityF := by
  intro call _ args h
  refine ⟨?_, fun _ args w => callFunc_enter Tryz.func4 (by kernel_rfl) rfl args w⟩
  unfold sanityF
  split
  · trivial
  · rename_i v h' heq
    split at heq
    · rename_i hc
      cases heq
      obtain ⟨rfl, e, o, f, p, hg⟩ := hc
      intro ι w cargs r hgl ha c cs
      rw [renL_nil] at ha; subst ha
      have hp : PowsLaid w := by
        obtain ⟨i3, hi3, hB3, _⟩ := hgl 3 (by decide)
        obtain ⟨i0, hi0, hB0, hb0⟩ := hgl 0 (by decide)
        have h4 : 4 ≤ w.heap.size := by have := r.fits 3 i3 hi3; omega
        obtain ⟨_, ob, hob, hrel⟩ := r.dom 0 i0 hi0
        rw [hg] at hob; cases hob
        obtain ⟨ccs, T, fz, hh, R⟩ := hrel
        rw [hB0] at hh
        refine ⟨h4, ccs, T, fz, hh, fun k hk => ?_⟩
        have hk' : (pows 20 1)[k]? = some (.int .u64 ((1 * 10 ^ k : Nat) : Int)) := by
          obtain ⟨v, hv⟩ : ∃ v, (pows 20 1)[k]? = some v := ⟨_, List.getElem?_eq_getElem (by rw [pows_length]; exact hk)⟩
          rw [hv, (pows_get 20 1 k hv).2]
        obtain ⟨vc, h1, h2⟩ := R.vals k _ hk'
        rw [hb0, Nat.zero_add] at h2
        have : vc = .int .u64 ((1 * 10 ^ k : Nat) : Int) := by simpa [ren] using h1.symm
        rw [h2, this, Nat.one_mul]
      obtain ⟨w', hw', st⟩ := steps_of_calls (R := fun w2 => Go.RowKit.Below w.heap.size w w2) (v := .bool true) ((sanity_c hp).mono fun e w' h => h) c cs
      exact ⟨ι, w', .bool true, went_below r hw', by simp [ren], st⟩
    · cases heq
  · rename_i ch h' heq
    split at heq <;> cases heq

theorem ovS_ok : ∀ p ∈ ovS, OvOk Tryz.prog p.1 p.2 := by
  intro p hp
  rcases List.mem_cons.1 hp with rfl | hp
  · exact sanity_ov
  · exact ov1_ok p hp

noncomputable def CX : Ctx := cx ovS
noncomputable abbrev GX (d : Nat) : G := gN CX 1000000 d

theorem fnsize : Tryz.prog.funcs.size < 4096 := by
  have : Nat.blt Tryz.prog.funcs.size 4096 = true := by kernel_rfl
  rw [natBlt] at this; simpa using this

theorem ft_get {f : Nat} {fn : Func} (h : Tryz.prog.funcs[f]? = some fn) : CX.ft.get f = some fn := by
  show (fnTree Tryz.prog).get f = some fn
  unfold fnTree
  exact ofList_get 12 _ f (by rw [Array.length_toList]; exact fnsize) (by rw [Array.getElem?_toList]; exact h)

theorem svx : SOk sv CX := sv_ok ovS

/-- a call, by the weakest precondition of the function's body -/
theorem call_w {d f : Nat} {fn : Func} (hf : Tryz.prog.funcs[f]? = some fn) (hov : CX.ov f = none) {args : List AVal} {h : H} {R : R2} (hw : wFn CX sv (GX d) fn args h R) : ∃ v h', (GX (d + 1)).call f args h = .ok v h' ∧ R v h' := by
  obtain ⟨v, h', h1, h2⟩ := wFn_ok svx (ft_get hf) hw
  refine ⟨v, h', ?_, h2⟩
  have : (GX (d + 1)).call f args h = oe (CX.ov f) (callB CX (gN CX 1000000 d) f args h) (fun F' => F' (gN CX 1000000 d).call args h) := rfl
  rw [this, hov]; exact h1

theorem call_eq {d f : Nat} {fn : Func} (hf : Tryz.prog.funcs[f]? = some fn) (hov : CX.ov f = none) {args : List AVal} {h : H} {r : AVal} (hw : wFn CX sv (GX d) fn args h (fun v h' => h' = h ∧ v = r)) : (GX (d + 1)).call f args h = .ok r h := by
  obtain ⟨v, h', h1, rfl, rfl⟩ := call_w hf hov hw
  exact h1

variable {d : Nat}

set_option maxRecDepth 100000 in
theorem within_x (n lo hi : Int) (h : H) : (GX (d + 1)).call 37 [.int .i64 n, .int .i64 lo, .int .i64 hi] h = .ok (.bool (leI lo n && leI n hi)) h := by
  refine call_eq Tryz.func37 rfl ?_
  rintro (_ | _) h1
  · exact ⟨rfl, by rw [h1]; rfl⟩
  · rintro (_ | _) h2
    · exact ⟨rfl, by rw [h1, h2]; rfl⟩
    · exact ⟨rfl, by rw [h1, h2]; rfl⟩

set_option maxRecDepth 100000 in
theorem in_x (n lo hi : Int) (h : H) : (GX (d + 1)).call 48 [.int .i64 n, .int .i64 lo, .int .i64 hi] h = .ok (.bool (leI lo n && leI n hi)) h := by
  refine call_eq Tryz.func48 rfl ?_
  rintro (_ | _) h1
  · exact ⟨rfl, by rw [h1]; rfl⟩
  · rintro (_ | _) h2
    · exact ⟨rfl, by rw [h1, h2]; rfl⟩
    · exact ⟨rfl, by rw [h1, h2]; rfl⟩

noncomputable def lightB (e : EV) : Bool := leI (Int.ofNat e.legsN) 12 && leI (Int.ofNat e.offsetsN) 12 && leI (Int.ofNat e.ringN) 12 && leI (Int.ofNat (len e.siLetters)) 100 && leI (Int.ofNat (len e.ruSource)) 1500

set_option maxRecDepth 100000 in
theorem light_x (e : EV) (h : H) (hn : h.next < 1048576) : ∃ h', (GX (d + 1)).call 5 [.agg e.cells] h = .ok (.bool (lightB e)) h' ∧ Kept 1 h h' := by
  have : ∃ v h', (GX (d + 1)).call 5 [.agg e.cells] h = .ok v h' ∧ v = .bool (lightB e) ∧ Kept 1 h h' := by
    refine call_w Tryz.func5 rfl ?_
    refine ⟨(room_iff h).2 hn, ?_⟩
    intro p h1 hp hh
    have G : h1.get p = some (.cells e.cells 61 false false []) := by rw [hh, hp]; exact alloc_get_new hn _
    have K : Kept 1 h h1 := by rw [hh]; exact Kept.alloc hn _
    clear hp hh
    repeat' first
      | refine ⟨_, ldg G rfl, ?_⟩
      | (rintro (_ | _) hb)
    all_goals exact ⟨by simp only [lightB, packA, *]; rfl, K⟩
  obtain ⟨v, h', h1, rfl, h2⟩ := this
  exact ⟨h', h1, h2⟩
end Go.Proofs
end
section
/- slices.Equal. -/
namespace Go.Proofs
open Go.Sim
variable {d : Nat}

set_option maxRecDepth 100000 in
theorem equalInts_x (h : H) (a b : SL) (ca cb n m : Nat) (xs ys : List Int) (ha : SlR h 1 intC a n xs) (hb : SlR h 1 intC b m ys) (hF : xs.length < 1000000) :
    ∃ r, (GX (d + 1)).call 78 [.slc a n ca, .slc b m cb] h = .ok (.bool r) h ∧ (r = true ↔ xs = ys) := by
  have : ∃ v h', (GX (d + 1)).call 78 [.slc a n ca, .slc b m cb] h = .ok v h' ∧ (h' = h ∧ ∃ r, v = .bool r ∧ (r = true ↔ xs = ys)) := by
    obtain ⟨rfl, -⟩ := id ha
    obtain ⟨rfl, -⟩ := id hb
    refine call_w Tryz.func78 rfl ?_
    rintro (_ | _) h1
    · have hl : xs.length = ys.length := eqI_len.1 (by simpa using h1)
      refine wLoopS (σ := Nat) svx (fun i => [(0, .slc a xs.length ca), (1, .slc b ys.length cb), (12, .int .i64 (Int.ofNat xs.length)), (13, .int .i64 (Int.ofNat i))])
        (fun i h' => h' = h ∧ i ≤ xs.length ∧ (∀ j, j < i → xs[j]? = ys[j]?)) (fun i => xs.length - i) (by decide) 0 hF ⟨rfl, rfl, rfl, rfl, trivial⟩ ⟨rfl, Nat.zero_le _, fun j hj => absurd hj (Nat.not_lt_zero _)⟩ ?_
      rintro i h' ⟨rfl, hi, hsame⟩
      rintro (_ | _) h2
      · have : xs.length ≤ i := leI_len.1 (by simpa using h2)
        refine ⟨rfl, true, rfl, ?_⟩
        have : xs = ys := List.ext_getElem? fun j => by
          by_cases hj : j < i
          · exact hsame j hj
          · rw [List.getElem?_eq_none (by omega), List.getElem?_eq_none (by omega)]
        simp [this]
      · have hlt : i < xs.length := by
          have : ¬ leI (Int.ofNat xs.length) (Int.ofNat i) = true := by simpa using h2
          rw [leI_len] at this
          omega
        obtain ⟨ba, oa, rfl, la⟩ := ha.at hlt
        obtain ⟨bb, ob, rfl, lb⟩ := hb.at (hl ▸ hlt)
        refine ⟨i, rfl, hlt, _, la.ld0 rfl (by decide) (by decide), i, rfl, hl ▸ hlt, _, lb.ld0 rfl (by decide) (by decide), ?_⟩
        rintro (_ | _) h3
        · have hx : xs[i] = ys[i] := eqI_iff.1 (by simpa using h3)
          refine ⟨i + 1, by omega, ⟨rfl, rfl, rfl, congrArg (fun z => some (AVal.int .i64 z)) (inc64 (by omega)), trivial⟩, rfl, hlt, fun j hj => ?_⟩
          by_cases hji : j = i
          · subst hji; rw [List.getElem?_eq_getElem hlt, List.getElem?_eq_getElem (hl ▸ hlt), hx]
          · exact hsame j (by omega)
        · refine ⟨rfl, false, rfl, ?_⟩
          have hx : xs[i] ≠ ys[i] := fun he => by
            rw [eqI_iff.2 he] at h3; cases h3
          have : xs ≠ ys := fun he => hx (by simp [he])
          simp [this]
    · refine ⟨rfl, false, rfl, ?_⟩
      have : xs ≠ ys := fun he => by
        have : eqI (Int.ofNat xs.length) (Int.ofNat ys.length) = true := eqI_len.2 (by rw [he])
        rw [this] at h1; cases h1
      simp [this]
  obtain ⟨v, h', h1, rfl, r, rfl, h2⟩ := this
  exact ⟨r, h1, h2⟩

set_option maxRecDepth 100000 in
theorem equalLegs_x (h : H) (a b : SL) (ca cb n m : Nat) (xs ys : List LegV) (ha : SlR h 8 LegV.cells a n xs) (hb : SlR h 8 LegV.cells b m ys) (hF : xs.length < 1000000) :
    ∃ r, (GX (d + 1)).call 79 [.slc a n ca, .slc b m cb] h = .ok (.bool r) h ∧ (r = true ↔ xs = ys) := by
  have : ∃ v h', (GX (d + 1)).call 79 [.slc a n ca, .slc b m cb] h = .ok v h' ∧ (h' = h ∧ ∃ r, v = .bool r ∧ (r = true ↔ xs = ys)) := by
    obtain ⟨rfl, -⟩ := id ha
    obtain ⟨rfl, -⟩ := id hb
    refine call_w Tryz.func79 rfl ?_
    rintro (_ | _) h1
    · have hl : xs.length = ys.length := eqI_len.1 (by simpa using h1)
      refine wLoopS (σ := Nat) svx (fun i => [(0, .slc a xs.length ca), (1, .slc b ys.length cb), (12, .int .i64 (Int.ofNat xs.length)), (13, .int .i64 (Int.ofNat i))])
        (fun i h' => h' = h ∧ i ≤ xs.length ∧ (∀ j, j < i → xs[j]? = ys[j]?)) (fun i => xs.length - i) (by decide) 0 hF ⟨rfl, rfl, rfl, rfl, trivial⟩ ⟨rfl, Nat.zero_le _, fun j hj => absurd hj (Nat.not_lt_zero _)⟩ ?_
      rintro i h' ⟨rfl, hi, hsame⟩
      rintro (_ | _) h2
      · have : xs.length ≤ i := leI_len.1 (by simpa using h2)
        refine ⟨rfl, true, rfl, ?_⟩
        have : xs = ys := List.ext_getElem? fun j => by
          by_cases hj : j < i
          · exact hsame j hj
          · rw [List.getElem?_eq_none (by omega), List.getElem?_eq_none (by omega)]
        simp [this]
      · have hlt : i < xs.length := by
          have : ¬ leI (Int.ofNat xs.length) (Int.ofNat i) = true := by simpa using h2
          rw [leI_len] at this
          omega
        obtain ⟨ba, oa, rfl, la⟩ := ha.at hlt
        obtain ⟨bb, ob, rfl, lb⟩ := hb.at (hl ▸ hlt)
        refine ⟨i, rfl, hlt, _, la.ld0 rfl (by decide) (by decide), i, rfl, hl ▸ hlt, _, lb.ld0 rfl (by decide) (by decide), ?_⟩
        obtain ⟨q, hq, hqi⟩ := eqL_iff (x := (LegV.cells xs[i])) (y := (LegV.cells ys[i])) rfl (by simp [LegV.cells, sk])
        refine ⟨q, hq, ?_⟩
        rintro (_ | _) h3
        · have hx : xs[i] = ys[i] := LegV.inj.1 (hqi.1 (by simpa using h3))
          refine ⟨i + 1, by omega, ⟨rfl, rfl, rfl, congrArg (fun z => some (AVal.int .i64 z)) (inc64 (by omega)), trivial⟩, rfl, hlt, fun j hj => ?_⟩
          by_cases hji : j = i
          · subst hji; rw [List.getElem?_eq_getElem hlt, List.getElem?_eq_getElem (hl ▸ hlt), hx]
          · exact hsame j (by omega)
        · refine ⟨rfl, false, rfl, ?_⟩
          have hx : xs[i] ≠ ys[i] := fun he => by
            rw [hqi.2 (by rw [he])] at h3; cases h3
          have : xs ≠ ys := fun he => hx (by simp [he])
          simp [this]
    · refine ⟨rfl, false, rfl, ?_⟩
      have : xs ≠ ys := fun he => by
        have : eqI (Int.ofNat xs.length) (Int.ofNat ys.length) = true := eqI_len.2 (by rw [he])
        rw [this] at h1; cases h1
      simp [this]
  obtain ⟨v, h', h1, rfl, r, rfl, h2⟩ := this
  exact ⟨r, h1, h2⟩

set_option maxRecDepth 100000 in
theorem equalOffs_x (h : H) (a b : SL) (ca cb n m : Nat) (xs ys : List OffV) (ha : SlR h 4 OffV.cells a n xs) (hb : SlR h 4 OffV.cells b m ys) (hF : xs.length < 1000000) :
    ∃ r, (GX (d + 1)).call 80 [.slc a n ca, .slc b m cb] h = .ok (.bool r) h ∧ (r = true ↔ xs = ys) := by
  have : ∃ v h', (GX (d + 1)).call 80 [.slc a n ca, .slc b m cb] h = .ok v h' ∧ (h' = h ∧ ∃ r, v = .bool r ∧ (r = true ↔ xs = ys)) := by
    obtain ⟨rfl, -⟩ := id ha
    obtain ⟨rfl, -⟩ := id hb
    refine call_w Tryz.func80 rfl ?_
    rintro (_ | _) h1
    · have hl : xs.length = ys.length := eqI_len.1 (by simpa using h1)
      refine wLoopS (σ := Nat) svx (fun i => [(0, .slc a xs.length ca), (1, .slc b ys.length cb), (12, .int .i64 (Int.ofNat xs.length)), (13, .int .i64 (Int.ofNat i))])
        (fun i h' => h' = h ∧ i ≤ xs.length ∧ (∀ j, j < i → xs[j]? = ys[j]?)) (fun i => xs.length - i) (by decide) 0 hF ⟨rfl, rfl, rfl, rfl, trivial⟩ ⟨rfl, Nat.zero_le _, fun j hj => absurd hj (Nat.not_lt_zero _)⟩ ?_
      rintro i h' ⟨rfl, hi, hsame⟩
      rintro (_ | _) h2
      · have : xs.length ≤ i := leI_len.1 (by simpa using h2)
        refine ⟨rfl, true, rfl, ?_⟩
        have : xs = ys := List.ext_getElem? fun j => by
          by_cases hj : j < i
          · exact hsame j hj
          · rw [List.getElem?_eq_none (by omega), List.getElem?_eq_none (by omega)]
        simp [this]
      · have hlt : i < xs.length := by
          have : ¬ leI (Int.ofNat xs.length) (Int.ofNat i) = true := by simpa using h2
          rw [leI_len] at this
          omega
        obtain ⟨ba, oa, rfl, la⟩ := ha.at hlt
        obtain ⟨bb, ob, rfl, lb⟩ := hb.at (hl ▸ hlt)
        refine ⟨i, rfl, hlt, _, la.ld0 rfl (by decide) (by decide), i, rfl, hl ▸ hlt, _, lb.ld0 rfl (by decide) (by decide), ?_⟩
        obtain ⟨q, hq, hqi⟩ := eqL_iff (x := (OffV.cells xs[i])) (y := (OffV.cells ys[i])) rfl (by simp [OffV.cells, sk])
        refine ⟨q, hq, ?_⟩
        rintro (_ | _) h3
        · have hx : xs[i] = ys[i] := OffV.inj.1 (hqi.1 (by simpa using h3))
          refine ⟨i + 1, by omega, ⟨rfl, rfl, rfl, congrArg (fun z => some (AVal.int .i64 z)) (inc64 (by omega)), trivial⟩, rfl, hlt, fun j hj => ?_⟩
          by_cases hji : j = i
          · subst hji; rw [List.getElem?_eq_getElem hlt, List.getElem?_eq_getElem (hl ▸ hlt), hx]
          · exact hsame j (by omega)
        · refine ⟨rfl, false, rfl, ?_⟩
          have hx : xs[i] ≠ ys[i] := fun he => by
            rw [hqi.2 (by rw [he])] at h3; cases h3
          have : xs ≠ ys := fun he => hx (by simp [he])
          simp [this]
    · refine ⟨rfl, false, rfl, ?_⟩
      have : xs ≠ ys := fun he => by
        have : eqI (Int.ofNat xs.length) (Int.ofNat ys.length) = true := eqI_len.2 (by rw [he])
        rw [this] at h1; cases h1
      simp [this]
  obtain ⟨v, h', h1, rfl, r, rfl, h2⟩ := this
  exact ⟨r, h1, h2⟩

end Go.Proofs
end
section
/- register.contentOf. -/
namespace Go.Proofs
open Go.Sim
variable {d : Nat}

noncomputable def ctk (k : Int) : Nat :=
  sel (eqI k 1) 161 (sel (eqI k 2) 163 (sel (eqI k 3) 165 (sel (eqI k 4) 167 (sel (eqI k 5) 168 (sel (eqI k 6) 169 (sel (eqI k 7) 170 (sel (eqI k 8) 172 (sel (eqI k 9) 173 (sel (eqI k 10) 175 (sel (eqI k 11) 177 (sel (eqI k 12) 179 (sel (eqI k 13) 181 (sel (eqI k 14) 183 (sel (eqI k 15) 184 185))))))))))))))

set_option maxRecDepth 100000 in
theorem contentOf_x (e : EV) (h : H) (hn : h.next < 1048576) : ∃ v h', (GX (d + 1)).call 25 [.agg e.cells] h = .ok (.iface (ctk e.kind) v) h' ∧ Kept 1 h h' := by
  have : ∃ v h', (GX (d + 1)).call 25 [.agg e.cells] h = .ok v h' ∧ (∃ u, v = .iface (ctk e.kind) u) ∧ Kept 1 h h' := by
    refine call_w Tryz.func25 rfl ?_
    refine ⟨(room_iff h).2 hn, ?_⟩
    intro p h1 hp hh
    have G : h1.get p = some (.cells e.cells 61 false false []) := by rw [hh, hp]; exact alloc_get_new hn _
    have K : Kept 1 h h1 := by rw [hh]; exact Kept.alloc hn _
    clear hp hh
    refine ⟨_, ldg G rfl, ?_⟩
    repeat' first
      | refine ⟨_, ldg G rfl, ?_⟩
      | (rintro (_ | _) hb)
    all_goals exact ⟨⟨_, by simp only [ctk, packA, *]; rfl⟩, K⟩
  obtain ⟨v, h', h1, ⟨u, rfl⟩, h2⟩ := this
  exact ⟨u, h', h1, h2⟩
end Go.Proofs
end
section
/- The specification's equality of lists. -/
namespace Go.Proofs
open Go.Sim
variable {d : Nat}

set_option maxRecDepth 100000 in
theorem ints_x (h : H) (a b : SL) (ca cb n m : Nat) (xs ys : List Int) (ha : SlR h 1 intC a n xs) (hb : SlR h 1 intC b m ys) (hF : xs.length < 1000000) :
    ∃ r, (GX (d + 1)).call 52 [.slc a n ca, .slc b m cb] h = .ok (.bool r) h ∧ (r = true ↔ xs = ys) := by
  have : ∃ v h', (GX (d + 1)).call 52 [.slc a n ca, .slc b m cb] h = .ok v h' ∧ (h' = h ∧ ∃ r, v = .bool r ∧ (r = true ↔ xs = ys)) := by
    obtain ⟨rfl, -⟩ := id ha
    obtain ⟨rfl, -⟩ := id hb
    refine call_w Tryz.func52 rfl ?_
    rintro (_ | _) h1
    · have hl : xs.length = ys.length := eqI_len.1 (by simpa using h1)
      refine wLoopS (σ := Nat) svx (fun i => [(0, .slc a xs.length ca), (1, .slc b ys.length cb), (5, .int .i64 (Int.ofNat i))])
        (fun i h' => h' = h ∧ i ≤ xs.length ∧ (∀ j, j < i → xs[j]? = ys[j]?)) (fun i => xs.length - i) (by decide) 0 hF ⟨rfl, rfl, rfl, trivial⟩ ⟨rfl, Nat.zero_le _, fun j hj => absurd hj (Nat.not_lt_zero _)⟩ ?_
      rintro i h' ⟨rfl, hi, hsame⟩
      rintro (_ | _) h2
      · have : xs.length ≤ i := leI_len.1 (by simpa using h2)
        refine ⟨rfl, true, rfl, ?_⟩
        have : xs = ys := List.ext_getElem? fun j => by
          by_cases hj : j < i
          · exact hsame j hj
          · rw [List.getElem?_eq_none (by omega), List.getElem?_eq_none (by omega)]
        simp [this]
      · have hlt : i < xs.length := by
          have : ¬ leI (Int.ofNat xs.length) (Int.ofNat i) = true := by simpa using h2
          rw [leI_len] at this
          omega
        obtain ⟨ba, oa, rfl, la⟩ := ha.at hlt
        obtain ⟨bb, ob, rfl, lb⟩ := hb.at (hl ▸ hlt)
        refine ⟨i, rfl, hlt, _, la.ld0 rfl (by decide) (by decide), i, rfl, hl ▸ hlt, _, lb.ld0 rfl (by decide) (by decide), ?_⟩
        rintro (_ | _) h3
        · have hx : xs[i] = ys[i] := eqI_iff.1 (by simpa using h3)
          refine ⟨i + 1, by omega, ⟨rfl, rfl, congrArg (fun z => some (AVal.int .i64 z)) (inc64 (by omega)), trivial⟩, rfl, hlt, fun j hj => ?_⟩
          by_cases hji : j = i
          · subst hji; rw [List.getElem?_eq_getElem hlt, List.getElem?_eq_getElem (hl ▸ hlt), hx]
          · exact hsame j (by omega)
        · refine ⟨rfl, false, rfl, ?_⟩
          have hx : xs[i] ≠ ys[i] := fun he => by
            rw [eqI_iff.2 he] at h3; cases h3
          have : xs ≠ ys := fun he => hx (by simp [he])
          simp [this]
    · refine ⟨rfl, false, rfl, ?_⟩
      have : xs ≠ ys := fun he => by
        have : eqI (Int.ofNat xs.length) (Int.ofNat ys.length) = true := eqI_len.2 (by rw [he])
        rw [this] at h1; cases h1
      simp [this]
  obtain ⟨v, h', h1, rfl, r, rfl, h2⟩ := this
  exact ⟨r, h1, h2⟩

set_option maxRecDepth 100000 in
theorem legs_x (h : H) (a b : SL) (ca cb n m : Nat) (xs ys : List LegV) (ha : SlR h 8 LegV.cells a n xs) (hb : SlR h 8 LegV.cells b m ys) (hF : xs.length < 1000000) :
    ∃ r, (GX (d + 1)).call 83 [.slc a n ca, .slc b m cb] h = .ok (.bool r) h ∧ (r = true ↔ xs = ys) := by
  have : ∃ v h', (GX (d + 1)).call 83 [.slc a n ca, .slc b m cb] h = .ok v h' ∧ (h' = h ∧ ∃ r, v = .bool r ∧ (r = true ↔ xs = ys)) := by
    obtain ⟨rfl, -⟩ := id ha
    obtain ⟨rfl, -⟩ := id hb
    refine call_w Tryz.func83 rfl ?_
    rintro (_ | _) h1
    · have hl : xs.length = ys.length := eqI_len.1 (by simpa using h1)
      refine wLoopS (σ := Nat) svx (fun i => [(0, .slc a xs.length ca), (1, .slc b ys.length cb), (5, .int .i64 (Int.ofNat i))])
        (fun i h' => h' = h ∧ i ≤ xs.length ∧ (∀ j, j < i → xs[j]? = ys[j]?)) (fun i => xs.length - i) (by decide) 0 hF ⟨rfl, rfl, rfl, trivial⟩ ⟨rfl, Nat.zero_le _, fun j hj => absurd hj (Nat.not_lt_zero _)⟩ ?_
      rintro i h' ⟨rfl, hi, hsame⟩
      rintro (_ | _) h2
      · have : xs.length ≤ i := leI_len.1 (by simpa using h2)
        refine ⟨rfl, true, rfl, ?_⟩
        have : xs = ys := List.ext_getElem? fun j => by
          by_cases hj : j < i
          · exact hsame j hj
          · rw [List.getElem?_eq_none (by omega), List.getElem?_eq_none (by omega)]
        simp [this]
      · have hlt : i < xs.length := by
          have : ¬ leI (Int.ofNat xs.length) (Int.ofNat i) = true := by simpa using h2
          rw [leI_len] at this
          omega
        obtain ⟨ba, oa, rfl, la⟩ := ha.at hlt
        obtain ⟨bb, ob, rfl, lb⟩ := hb.at (hl ▸ hlt)
        refine ⟨i, rfl, hlt, _, la.ld0 rfl (by decide) (by decide), i, rfl, hl ▸ hlt, _, lb.ld0 rfl (by decide) (by decide), ?_⟩
        obtain ⟨q, hq, hqi⟩ := eqL_iff (x := (LegV.cells xs[i])) (y := (LegV.cells ys[i])) rfl (by simp [LegV.cells, sk])
        refine ⟨q, hq, ?_⟩
        rintro (_ | _) h3
        · have hx : xs[i] = ys[i] := LegV.inj.1 (hqi.1 (by simpa using h3))
          refine ⟨i + 1, by omega, ⟨rfl, rfl, congrArg (fun z => some (AVal.int .i64 z)) (inc64 (by omega)), trivial⟩, rfl, hlt, fun j hj => ?_⟩
          by_cases hji : j = i
          · subst hji; rw [List.getElem?_eq_getElem hlt, List.getElem?_eq_getElem (hl ▸ hlt), hx]
          · exact hsame j (by omega)
        · refine ⟨rfl, false, rfl, ?_⟩
          have hx : xs[i] ≠ ys[i] := fun he => by
            rw [hqi.2 (by rw [he])] at h3; cases h3
          have : xs ≠ ys := fun he => hx (by simp [he])
          simp [this]
    · refine ⟨rfl, false, rfl, ?_⟩
      have : xs ≠ ys := fun he => by
        have : eqI (Int.ofNat xs.length) (Int.ofNat ys.length) = true := eqI_len.2 (by rw [he])
        rw [this] at h1; cases h1
      simp [this]
  obtain ⟨v, h', h1, rfl, r, rfl, h2⟩ := this
  exact ⟨r, h1, h2⟩

set_option maxRecDepth 100000 in
theorem offsets_x (h : H) (a b : SL) (ca cb n m : Nat) (xs ys : List OffV) (ha : SlR h 4 OffV.cells a n xs) (hb : SlR h 4 OffV.cells b m ys) (hF : xs.length < 1000000) :
    ∃ r, (GX (d + 1)).call 84 [.slc a n ca, .slc b m cb] h = .ok (.bool r) h ∧ (r = true ↔ xs = ys) := by
  have : ∃ v h', (GX (d + 1)).call 84 [.slc a n ca, .slc b m cb] h = .ok v h' ∧ (h' = h ∧ ∃ r, v = .bool r ∧ (r = true ↔ xs = ys)) := by
    obtain ⟨rfl, -⟩ := id ha
    obtain ⟨rfl, -⟩ := id hb
    refine call_w Tryz.func84 rfl ?_
    rintro (_ | _) h1
    · have hl : xs.length = ys.length := eqI_len.1 (by simpa using h1)
      refine wLoopS (σ := Nat) svx (fun i => [(0, .slc a xs.length ca), (1, .slc b ys.length cb), (5, .int .i64 (Int.ofNat i))])
        (fun i h' => h' = h ∧ i ≤ xs.length ∧ (∀ j, j < i → xs[j]? = ys[j]?)) (fun i => xs.length - i) (by decide) 0 hF ⟨rfl, rfl, rfl, trivial⟩ ⟨rfl, Nat.zero_le _, fun j hj => absurd hj (Nat.not_lt_zero _)⟩ ?_
      rintro i h' ⟨rfl, hi, hsame⟩
      rintro (_ | _) h2
      · have : xs.length ≤ i := leI_len.1 (by simpa using h2)
        refine ⟨rfl, true, rfl, ?_⟩
        have : xs = ys := List.ext_getElem? fun j => by
          by_cases hj : j < i
          · exact hsame j hj
          · rw [List.getElem?_eq_none (by omega), List.getElem?_eq_none (by omega)]
        simp [this]
      · have hlt : i < xs.length := by
          have : ¬ leI (Int.ofNat xs.length) (Int.ofNat i) = true := by simpa using h2
          rw [leI_len] at this
          omega
        obtain ⟨ba, oa, rfl, la⟩ := ha.at hlt
        obtain ⟨bb, ob, rfl, lb⟩ := hb.at (hl ▸ hlt)
        refine ⟨i, rfl, hlt, _, la.ld0 rfl (by decide) (by decide), i, rfl, hl ▸ hlt, _, lb.ld0 rfl (by decide) (by decide), ?_⟩
        obtain ⟨q, hq, hqi⟩ := eqL_iff (x := (OffV.cells xs[i])) (y := (OffV.cells ys[i])) rfl (by simp [OffV.cells, sk])
        refine ⟨q, hq, ?_⟩
        rintro (_ | _) h3
        · have hx : xs[i] = ys[i] := OffV.inj.1 (hqi.1 (by simpa using h3))
          refine ⟨i + 1, by omega, ⟨rfl, rfl, congrArg (fun z => some (AVal.int .i64 z)) (inc64 (by omega)), trivial⟩, rfl, hlt, fun j hj => ?_⟩
          by_cases hji : j = i
          · subst hji; rw [List.getElem?_eq_getElem hlt, List.getElem?_eq_getElem (hl ▸ hlt), hx]
          · exact hsame j (by omega)
        · refine ⟨rfl, false, rfl, ?_⟩
          have hx : xs[i] ≠ ys[i] := fun he => by
            rw [hqi.2 (by rw [he])] at h3; cases h3
          have : xs ≠ ys := fun he => hx (by simp [he])
          simp [this]
    · refine ⟨rfl, false, rfl, ?_⟩
      have : xs ≠ ys := fun he => by
        have : eqI (Int.ofNat xs.length) (Int.ofNat ys.length) = true := eqI_len.2 (by rw [he])
        rw [this] at h1; cases h1
      simp [this]
  obtain ⟨v, h', h1, rfl, r, rfl, h2⟩ := this
  exact ⟨r, h1, h2⟩

end Go.Proofs
end
