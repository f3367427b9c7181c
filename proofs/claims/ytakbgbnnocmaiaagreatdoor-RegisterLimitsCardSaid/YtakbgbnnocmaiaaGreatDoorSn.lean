/- A call without arguments whose answer is known: the executor lays it anew wherever it stands. -/
import Derived.Test.YtakbgbnnocmaiaaGreatDoorSm
set_option linter.all false
section
namespace Go.Sim

structure FO where
  vs : List AVal
  esz : Nat
  opn : Bool

noncomputable section

def shV (n : Nat) : AVal → AVal
  | .ptr (some (b, o)) => .ptr (some (Nat.add n b, o))
  | .slc (some (b, o)) l c => .slc (some (Nat.add n b, o)) l c
  | v => v

def layO (n : Nat) (o : FO) : AObj := .cells (map1 (shV n) o.vs) o.esz o.opn false []

def lay (n : Nat) (l : List FO) : H → H := @List.rec FO (fun _ => H → H) (fun h => h) (fun o _ ih h => ih (h.alloc (layO n o))) l

def memoF (fr : List FO) (v : AVal) : CallT → List AVal → H → CR := fun _ args h => match args with
  | [] => sel (Nat.ble (Nat.add h.next (len fr)) 1048576) (.ok (shV h.next v) (lay h.next fr h)) .bad
  | _ => .bad

def scal : AVal → Bool
  | .bool _ => true
  | .int _ _ => true
  | .str _ => true
  | .ptr none => true
  | .slc none _ _ => true
  | .map none => true
  | .nilFunc => true
  | .nilIface => true
  | _ => false

def corr (σ : List Nat) : AVal → AVal → Bool
  | .ptr (some (k, o)), .ptr (some (b, o')) => sel (oe (getX k σ) false (fun s => Nat.beq s b)) (Nat.beq o o') false
  | .slc (some (k, o)) l c, .slc (some (b, o')) l' c' => sel (oe (getX k σ) false (fun s => Nat.beq s b)) (sel (Nat.beq o o') (sel (Nat.beq l l') (Nat.beq c c') false) false) false
  | a, b => sel (scal a) (eqFlat a b) false

def corrL (σ : List Nat) (a : List AVal) : List AVal → Bool :=
  @List.rec AVal (fun _ => List AVal → Bool) (fun l => @List.casesOn AVal (fun _ => Bool) l true (fun _ _ => false))
    (fun x _ ih l => @List.casesOn AVal (fun _ => Bool) l false (fun y r => sel (corr σ x y) (ih r) false)) a

def chkObj (σ : List Nat) (o : FO) : Option AObj → Bool
  | some (.cells vs esz opn frz _) => sel (corrL σ o.vs vs) (sel (Nat.beq esz o.esz) (sel (opn == o.opn) (!frz) false) false) false
  | _ => false

def chkObjs (σ : List Nat) (h : H) (fr : List FO) : List Nat → Bool :=
  @List.rec FO (fun _ => List Nat → Bool) (fun l => @List.casesOn Nat (fun _ => Bool) l true (fun _ _ => false))
    (fun o _ ih l => @List.casesOn Nat (fun _ => Bool) l false (fun s r => sel (chkObj σ o (h.get s)) (sel (Nat.ble 4 s) (sel (memN s r) false (ih r)) false) false)) fr

def memoChk (σ : List Nat) (fr : List FO) (v : AVal) (r : CR) : Bool :=
  match r with
  | .ok u h => sel (Nat.ble 4 h.lo) (sel (corr σ v u) (chkObjs σ h fr σ) false) false
  | _ => false

/-- the heap with nothing in it -/
def hbase : H := H.alloc (H.alloc (H.alloc (H.alloc ⟨E.empty AObj 10, 0, big⟩ .dead) .dead) .dead) .dead

end

theorem hbase_next : hbase.next = 4 := rfl
theorem hbase_get {g : Nat} (hg : g < 4) : hbase.get g = some .dead := by
  unfold hbase
  rw [H.alloc_get _ _ (by omega) (by decide), H.alloc_get _ _ (by omega) (by decide), H.alloc_get _ _ (by omega) (by decide), H.alloc_get _ _ (by omega) (by decide)]
  simp only [H.alloc_next]
  have : g = 0 ∨ g = 1 ∨ g = 2 ∨ g = 3 := by omega
  rcases this with rfl | rfl | rfl | rfl <;> simp

theorem lay_cons (n : Nat) (o : FO) (l : List FO) (h : H) : lay n (o :: l) h = lay n l (h.alloc (layO n o)) := rfl
theorem lay_nil (n : Nat) (h : H) : lay n [] h = h := rfl

theorem lay_next (n : Nat) : ∀ (l : List FO) (h : H), (lay n l h).next = h.next + l.length
  | [], h => rfl
  | o :: l, h => by rw [lay_cons, lay_next n l, H.alloc_next, List.length_cons]; omega

theorem lay_lo (n : Nat) : ∀ (l : List FO) (h : H), (lay n l h).lo = h.lo
  | [], h => rfl
  | o :: l, h => by rw [lay_cons, lay_lo n l, H.alloc_lo]

theorem lay_get (n : Nat) : ∀ (l : List FO) (h : H) {b : Nat}, b < 1048576 → h.next + l.length ≤ 1048576 → (lay n l h).get b = if h.next ≤ b ∧ b < h.next + l.length then (l[b - h.next]?).map (layO n) else h.get b
  | [], h, b, hb, hl => by
    rw [lay_nil, if_neg]
    rintro ⟨h1, h2⟩; simp at h2; omega
  | o :: l, h, b, hb, hl => by
    simp only [List.length_cons] at hl
    rw [lay_cons, lay_get n l _ hb (by rw [H.alloc_next]; omega), H.alloc_next, H.alloc_get _ _ hb (by omega)]
    simp only [List.length_cons]
    by_cases h0 : b = h.next
    · subst h0
      rw [if_neg (by omega), if_pos rfl, if_pos (by omega)]
      simp
    · by_cases h1 : h.next + 1 ≤ b ∧ b < h.next + 1 + l.length
      · rw [if_pos h1, if_pos (by omega), show b - h.next = (b - (h.next + 1)) + 1 by omega, List.getElem?_cons_succ]
      · rw [if_neg h1, if_neg h0, if_neg (by omega)]

theorem corrL_spec {σ : List Nat} : ∀ {a b : List AVal}, corrL σ a b = true → a.length = b.length ∧ ∀ (k : Nat) x, a[k]? = some x → ∃ y, b[k]? = some y ∧ corr σ x y = true
  | [], [], _ => ⟨rfl, fun k x h => by simp at h⟩
  | [], _ :: _, h => by cases h
  | _ :: _, [], h => by cases h
  | x :: a, y :: b, h => by
    have h : sel (corr σ x y) (corrL σ a b) false = true := h
    rw [sel_eq] at h
    split at h
    · rename_i hc
      obtain ⟨h1, h2⟩ := corrL_spec h
      refine ⟨by simp [h1], fun k z hk => ?_⟩
      cases k with
      | zero => have : x = z := by simpa using hk
                subst this; exact ⟨y, rfl, hc⟩
      | succ k => simpa using h2 k z (by simpa using hk)
    · cases h

theorem chkObjs_spec {σ : List Nat} {h : H} : ∀ {fr : List FO} {l : List Nat}, chkObjs σ h fr l = true → fr.length = l.length ∧ l.Nodup ∧ ∀ (k : Nat) s, l[k]? = some s → 4 ≤ s ∧ ∃ o, fr[k]? = some o ∧ chkObj σ o (h.get s) = true
  | [], [], _ => ⟨rfl, List.nodup_nil, fun k s hk => by simp at hk⟩
  | [], _ :: _, h => by cases h
  | _ :: _, [], h => by cases h
  | o :: fr, s :: l, hh => by
    have hh : sel (chkObj σ o (h.get s)) (sel (Nat.ble 4 s) (sel (memN s l) false (chkObjs σ h fr l)) false) false = true := hh
    simp only [sel_eq, natBle, memN_eq] at hh
    split at hh
    · rename_i h1
      split at hh
      · rename_i h2
        split at hh
        · cases hh
        · rename_i h3
          obtain ⟨q1, q2, q3⟩ := chkObjs_spec hh
          refine ⟨by simp [q1], List.nodup_cons.2 ⟨by simpa using h3, q2⟩, fun k z hk => ?_⟩
          cases k with
          | zero => have : s = z := by simpa using hk
                    subst this; exact ⟨by simpa using h2, o, rfl, h1⟩
          | succ k => simpa using q3 k z (by simpa using hk)
      · cases hh
    · cases hh

section
variable {P : Program} {C : Ctx}

/-- the injection behind it -/
def memoI (ι ι' : Inj) (n : Nat) (σ : List Nat) : Inj := fun b => if b < n then ι b else (σ[b - n]?).bind ι'

theorem corr_ren {σ : List Nat} {ι ι' : Inj} {n : Nat} {a u : AVal} {x : Value} (hc : corr σ a u = true) (hu : ren ι' u = some x) : ren (memoI ι ι' n σ) (shV n a) = some x := by
  have hget : ∀ k s, σ[k]? = some s → memoI ι ι' n σ (Nat.add n k) = ι' s := by
    intro k s hk
    unfold memoI
    rw [natAdd, if_neg (by omega), show n + k - n = k by omega, hk]; rfl
  have hsc : ∀ {a : AVal}, scal a = true → eqFlat a u = true → ren (memoI ι ι' n σ) (shV n a) = some x := by
    intro a hs he
    have := eqFlat_true he
    subst this
    rw [← hu]
    cases a with
    | ptr p => cases p with
      | none => rfl
      | some q => cases hs
    | slc p l c => cases p with
      | none => rfl
      | some q => cases hs
    | map r => cases r with
      | none => rfl
      | some q => cases hs
    | _ => first | rfl | cases hs
  unfold corr at hc
  split at hc
  · rename_i k o b o'
    simp only [sel_eq] at hc
    split at hc
    · rename_i h1
      cases hk : getX k σ with
      | none => rw [hk] at h1; cases h1
      | some s =>
        rw [hk, oe_some, natBeq] at h1
        have h1 : s = b := by simpa using h1
        subst h1
        have hc : o = o' := by simpa using hc
        subst hc
        rw [getX_eq] at hk
        simp only [shV, ren, hget k s hk]
        simpa [ren] using hu
    · cases hc
  · rename_i k o l c b o' l' c'
    simp only [sel_eq] at hc
    split at hc
    · rename_i h1
      cases hk : getX k σ with
      | none => rw [hk] at h1; cases h1
      | some s =>
        rw [hk, oe_some, natBeq] at h1
        have h1 : s = b := by simpa using h1
        subst h1
        split at hc
        · rename_i h2
          have h2 : o = o' := by simpa using h2
          subst h2
          split at hc
          · rename_i h3
            have h3 : l = l' := by simpa using h3
            have hc : c = c' := by simpa using hc
            subst h3 hc
            rw [getX_eq] at hk
            simp only [shV, ren, hget k s hk]
            simpa [ren] using hu
          · cases hc
        · cases hc
    · cases hc
  · simp only [sel_eq] at hc
    split at hc
    · rename_i hs
      exact hsc hs hc
    · cases hc

/-- A CALL WITHOUT ARGUMENTS, KNOWN. -/
theorem memo_ov (K : COk C P) (O : FOk C P) {f : FuncId} {fuel d : Nat} {fr : List FO} {v : AVal} {σ : List Nat} (hov : C.ov f = none) (hchk : memoChk σ fr v (callN C fuel (d + 1) f [] hbase) = true) (call : CallT) (args : List AVal) (h : H) : (match memoF fr v call args h with
    | .bad => True
    | .ok v h' => ∀ ι w cargs, Rel ι h w → Glob ι → renL ι args = some cargs → ∀ c cs, ∃ ι' w' vc, Went ι h w ι' h' w' ∧ ren ι' v = some vc ∧
        Steps P (lone (Frame.enter P f cargs.toArray .normal) (c :: cs) w) (lone (c.finish vc) cs w')
    | .pan ch h' => ∀ ι w cargs, Rel ι h w → Glob ι → renL ι args = some cargs → ∀ c cs, ∃ ι' w' chain, Went ι h w ι' h' w' ∧ ChainRel ι' ch chain ∧
        Steps P (lone (Frame.enter P f cargs.toArray .normal) (c :: cs) w) (lone (c.raise chain) cs w')) ∧
    (memoF fr v call args h ≠ .bad → ∀ cargs w, (callFunc f cargs).run P w = .ok (.enter f cargs) w) := by
  have e1 : callN C fuel (d + 1) f [] hbase = callB C (gN C fuel d) f [] hbase := by
    have e1 : callN C fuel (d + 1) f [] hbase = oe (C.ov f) (callB C (gN C fuel d) f [] hbase) (fun F => F (gN C fuel d).call [] hbase) := rfl
    rw [e1, hov, oe_none]
  rw [e1] at hchk
  cases hr : callB C (gN C fuel d) f [] hbase with
  | bad => rw [hr] at hchk; cases hchk
  | pan ch hu => rw [hr] at hchk; cases hchk
  | ok u hu =>
    rw [hr] at hchk
    have hchk : sel (Nat.ble 4 hu.lo) (sel (corr σ v u) (chkObjs σ hu fr σ) false) false = true := hchk
    simp only [sel_eq, natBle] at hchk
    split at hchk
    · rename_i hlo
      have hlo : 4 ≤ hu.lo := by simpa using hlo
      split at hchk
      · rename_i hcv
        obtain ⟨q1, q2, q3⟩ := chkObjs_spec hchk
        refine ⟨?_, fun _ cargs w => callB_enters O (by rw [hr]; simp) cargs w⟩
        cases args with
        | cons _ _ => trivial
        | nil =>
          have eF : memoF fr v call [] h = if h.next + fr.length ≤ 1048576 then .ok (shV h.next v) (lay h.next fr h) else .bad := by
            show sel (Nat.ble (Nat.add h.next (len fr)) 1048576) _ _ = _
            rw [natBle, natAdd, len_eq, sel_eq]; simp
          rw [eF]
          by_cases hfit : h.next + fr.length ≤ 1048576
          · rw [if_pos hfit]
            intro ι w cargs r hg ha c cs
            rw [renL_nil] at ha
            subst ha
            -- the call, over the heap with nothing in it
            have h4 : 4 ≤ h.next := by
              obtain ⟨i, hi, _⟩ := hg 3 (by decide)
              have := r.lt hi
              omega
            have r0 : Rel (cut ι 4) hbase w := by
              refine ⟨by rw [hbase_next]; decide, fun b i hb => ?_, fun b1 b2 i1 i2 o1 o2 hne h1 h2 hB g1 g2 => ?_, fun b i hb => r.fits b i (cut_some.1 hb).2, fun b i vs esz opn frz pars hb hgt => ?_⟩
              · have := (cut_some.1 hb).1
                exact ⟨by rw [hbase_next]; exact this, .dead, hbase_get this, trivial⟩
              · rw [hbase_get (cut_some.1 h1).1] at g1; cases g1; trivial
              · rw [hbase_get (cut_some.1 hb).1] at hgt; cases hgt
            have g0 : Glob (cut ι 4) := fun gl hgl => by
              obtain ⟨i, a1, a2⟩ := hg gl hgl
              exact ⟨i, cut_some.2 ⟨hgl, a1⟩, a2⟩
            obtain ⟨e, w', frm, ⟨ι', vc, rfl, W, hv⟩, hc, _, hl⟩ := callB_calls K O (gN_s K O fuel d) hr r0 g0 (cargs := []) (by simp [renL]) (c :: cs)
            have st : Steps P (lone (Frame.enter P f [].toArray .normal) (c :: cs) w) (lone (c.finish vc) cs w') := Steps.trans hc (.one (step_leave_returned hl))
            -- nothing that was there has changed
            have hsame : ∀ B, B < w.heap.size → w'.heap[B]? = w.heap[B]? := by
              intro B hB
              apply Classical.byContradiction
              intro hne
              obtain ⟨b, i, hb, _, hl⟩ := W.kept B hB hne
              have := (cut_some.1 hb).1
              omega
            have hnewB : ∀ s i, ι' s = some i → 4 ≤ s → w.heap.size ≤ i.B := by
              intro s i hs h4s
              have hn : cut ι 4 s = none := by unfold cut; rw [if_neg (by omega)]
              rcases (W.new s i hs hn).2 with q | ⟨b0, i0, e0, _, hl⟩
              · exact q
              · have := (cut_some.1 e0).1; omega
            have rg := r.grown W.size hsame
            have hIlt : ∀ b, b < h.next → memoI ι ι' h.next σ b = ι b := fun b hb => if_pos hb
            have hExt : Ext ι (memoI ι ι' h.next σ) := fun b i hb => by rw [hIlt b (r.lt hb)]; exact hb
            have hcase : ∀ b i, memoI ι ι' h.next σ b = some i → (b < h.next ∧ ι b = some i) ∨ (¬ b < h.next ∧ b < h.next + fr.length ∧ ∃ s, σ[b - h.next]? = some s ∧ ι' s = some i) := by
              intro b i hb
              unfold memoI at hb
              split at hb
              · rename_i hlt; exact .inl ⟨hlt, hb⟩
              · rename_i hlt
                cases hs : σ[b - h.next]? with
                | none => rw [hs] at hb; cases hb
                | some s =>
                  rw [hs] at hb
                  have := (List.getElem?_eq_some_iff.1 hs).1
                  exact .inr ⟨hlt, by omega, s, rfl, hb⟩
            have hget : ∀ b, b < 1048576 → (lay h.next fr h).get b = if h.next ≤ b ∧ b < h.next + fr.length then (fr[b - h.next]?).map (layO h.next) else h.get b := fun b hb => lay_get h.next fr h hb hfit
            have hnewobj : ∀ b s i, ¬ b < h.next → b < h.next + fr.length → σ[b - h.next]? = some s → ι' s = some i → ∃ o vs, fr[b - h.next]? = some o ∧ (lay h.next fr h).get b = some (layO h.next o) ∧ (∃ pars, hu.get s = some (.cells vs o.esz o.opn false pars)) ∧ ObjRel (memoI ι ι' h.next σ) i w' (layO h.next o) := by
              intro b s i hb1 hb2 hs hi
              obtain ⟨_, o, ho, hco⟩ := q3 _ s hs
              obtain ⟨hsl, ob, d1, d2⟩ := W.rel.dom s i hi
              unfold chkObj at hco
              rw [d1] at hco
              split at hco
              · rename_i vs esz opn frz pars heq
                cases heq
                simp only [sel_eq, natBeq] at hco
                split at hco
                · rename_i k1
                  split at hco
                  · rename_i k2
                    split at hco
                    · rename_i k3
                      have k2 : esz = o.esz := by simpa using k2
                      have k3 : opn = o.opn := by simpa using k3
                      have k4 : frz = false := by simpa using hco
                      subst k2 k3 k4
                      refine ⟨o, vs, ho, ?_, ⟨pars, d1⟩, ?_⟩
                      · rw [hget b (by omega), if_pos ⟨by omega, hb2⟩, ho]; rfl
                      · obtain ⟨ccs, T, fz, hh, R⟩ := d2
                        obtain ⟨l1, l2⟩ := corrL_spec k1
                        refine ⟨ccs, T, fz, hh, ?_⟩
                        have hlen : (map1 (shV h.next) o.vs).length = vs.length := by rw [map1_eq, List.length_map, l1]
                        refine ⟨by rw [hlen]; exact R.hcells, R.hesz, R.shut, by rw [hlen]; exact R.room, fun k z hk => ?_, fun hf k a1 a2 => R.free hf k a1 (by rw [hlen] at a2; exact a2)⟩
                        rw [map1_eq, List.getElem?_map] at hk
                        cases hx : o.vs[k]? with
                        | none => rw [hx] at hk; cases hk
                        | some xx =>
                          rw [hx] at hk; cases hk
                          obtain ⟨y, y1, y2⟩ := l2 k xx hx
                          obtain ⟨vc2, v1, v2⟩ := R.vals k y y1
                          exact ⟨vc2, corr_ren y2 v1, v2⟩
                    · cases hco
                  · cases hco
                · cases hco
              · cases hco
            have hrel : Rel (memoI ι ι' h.next σ) (lay h.next fr h) w' := by
              refine ⟨by rw [lay_next]; exact hfit, fun b i hb => ?_, fun b1 b2 i1 i2 o1 o2 hne h1 h2 hB g1 g2 => ?_, fun b i hb => ?_, fun b i vs esz opn frz pars hb hgt p hp => ?_⟩
              · rcases hcase b i hb with ⟨hlt, hi⟩ | ⟨hge, hlt, s, hs, hi⟩
                · obtain ⟨d0, ob, d1, d2⟩ := rg.dom b i hi
                  refine ⟨by rw [lay_next]; omega, ob, ?_, d2.mono hExt rfl⟩
                  rw [hget b (r.lt' hi), if_neg (by omega)]; exact d1
                · obtain ⟨o, vs, a1, a2, a3, a4⟩ := hnewobj b s i hge hlt hs hi
                  exact ⟨by rw [lay_next]; omega, _, a2, a4⟩
              · rcases hcase b1 i1 h1 with ⟨l1, c1⟩ | ⟨l1, l1', s1, hs1, c1⟩
                · rcases hcase b2 i2 h2 with ⟨l2, c2⟩ | ⟨l2, l2', s2, hs2, c2⟩
                  · rw [hget b1 (r.lt' c1), if_neg (by omega)] at g1
                    rw [hget b2 (r.lt' c2), if_neg (by omega)] at g2
                    exact rg.sep b1 b2 i1 i2 o1 o2 hne c1 c2 hB g1 g2
                  · have f1 := r.fits b1 i1 c1
                    have f2 := hnewB s2 i2 c2 (q3 _ s2 hs2).1
                    omega
                · rcases hcase b2 i2 h2 with ⟨l2, c2⟩ | ⟨l2, l2', s2, hs2, c2⟩
                  · have f1 := r.fits b2 i2 c2
                    have f2 := hnewB s1 i1 c1 (q3 _ s1 hs1).1
                    omega
                  · exfalso
                    obtain ⟨oo1, vs1, _, _, ⟨p1, a1⟩, _⟩ := hnewobj b1 s1 i1 l1 l1' hs1 c1
                    obtain ⟨oo2, vs2, _, _, ⟨p2, a2⟩, _⟩ := hnewobj b2 s2 i2 l2 l2' hs2 c2
                    have hss : s1 ≠ s2 := by
                      rintro rfl
                      have hlt1 : b1 - h.next < σ.length := (List.getElem?_eq_some_iff.1 hs1).1
                      have := (List.getElem?_inj hlt1 q2).1 (hs1.trans hs2.symm)
                      omega
                    have := W.rel.sep s1 s2 i1 i2 _ _ hss c1 c2 hB a1 a2
                    obtain ⟨h0, _⟩ := this
                    rcases h0 with h0 | h0 <;> cases h0
              · rcases hcase b i hb with ⟨hlt, hi⟩ | ⟨hge, hlt, s, hs, hi⟩
                · exact rg.fits b i hi
                · exact W.rel.fits s i hi
              · rcases hcase b i hb with ⟨hlt, hi⟩ | ⟨hge, hlt, s, hs, hi⟩
                · rw [hget b (r.lt' hi), if_neg (by omega)] at hgt
                  have := r.par b i vs esz opn frz pars hi hgt p hp
                  rw [lay_next]; omega
                · obtain ⟨o, vs', a1, a2, _, _⟩ := hnewobj b s i hge hlt hs hi
                  rw [a2] at hgt
                  cases hgt
                  cases hp
            refine ⟨memoI ι ι' h.next σ, w', vc, ⟨hExt, by rw [lay_next]; omega, by rw [lay_lo]; exact Nat.le_refl _, fun b hb _ => ?_, fun b i hb hn => ?_, W.size, fun B hB hne => absurd (hsame B hB) hne, hrel, W.out⟩, corr_ren hcv hv, st⟩
            · rw [hget b (by have := r.cap; omega), if_neg (by omega)]
            · rcases hcase b i hb with ⟨hlt, hi⟩ | ⟨hge, hlt, s, hs, hi⟩
              · rw [hn] at hi; cases hi
              · exact ⟨by omega, .inl (hnewB s i hi (q3 _ s hs).1)⟩
          · rw [if_neg hfit]; trivial
      · cases hchk
    · cases hchk

end
end Go.Sim
end
section
/- The executor's tables, out of a program's own. -/
namespace Go.Sim

theorem evens_get {α : Type} : ∀ (l : List α) (k : Nat), (evens l)[k]? = l[2 * k]?
  | [], k => by simp [evens]
  | [a], 0 => by simp [evens]
  | [a], k + 1 => by simp [evens]
  | a :: b :: r, 0 => by simp [evens]
  | a :: b :: r, k + 1 => by
    rw [evens, List.getElem?_cons_succ, evens_get r k, show 2 * (k + 1) = 2 * k + 1 + 1 by omega, List.getElem?_cons_succ, List.getElem?_cons_succ]

theorem odds_get {α : Type} : ∀ (l : List α) (k : Nat), (odds l)[k]? = l[2 * k + 1]?
  | [], k => by simp [odds]
  | [a], k => by simp [odds]
  | a :: b :: r, 0 => by simp [odds]
  | a :: b :: r, k + 1 => by
    rw [odds, List.getElem?_cons_succ, odds_get r k, show 2 * (k + 1) + 1 = 2 * k + 1 + 1 + 1 by omega, List.getElem?_cons_succ, List.getElem?_cons_succ]

theorem ofList_some {α : Type} : ∀ (d : Nat) (l : List α) (n : Nat) {x : α}, (Tree.ofList d l).get n = some x → l[n]? = some x
  | 0, l, n, x, h => by simp only [Tree.ofList, Tree.get_leaf] at h; cases h
  | d + 1, [], n, x, h => by simp only [Tree.ofList, Tree.get_leaf] at h; cases h
  | d + 1, a :: r, n, x, h => by
    rw [Tree.ofList, Tree.get_node] at h
    split at h
    · rename_i h0; subst h0; exact h
    · rename_i h0
      split at h
      · rename_i h1
        have := ofList_some d _ _ h
        rw [evens_get] at this
        rw [show n = 2 * (n / 2) + 1 by omega, List.getElem?_cons_succ]; exact this
      · rename_i h1
        have := ofList_some d _ _ h
        rw [odds_get] at this
        rw [show n = 2 * (n / 2 - 1) + 1 + 1 by omega, List.getElem?_cons_succ]; exact this

theorem evens_length {α : Type} : ∀ (l : List α), (evens l).length = (l.length + 1) / 2
  | [] => by simp [evens]
  | [a] => by simp [evens]
  | a :: b :: r => by rw [evens, List.length_cons, evens_length r]; simp; omega
theorem odds_length {α : Type} : ∀ (l : List α), (odds l).length = l.length / 2
  | [] => by simp [odds]
  | [a] => by simp [odds]
  | a :: b :: r => by rw [odds, List.length_cons, odds_length r]; simp; omega

theorem ofList_get {α : Type} : ∀ (d : Nat) (l : List α) (n : Nat) {x : α}, l.length < 2 ^ d → l[n]? = some x → (Tree.ofList d l).get n = some x
  | 0, l, n, x, hl, h => by
    have : l = [] := List.length_eq_zero_iff.1 (by simp at hl; simpa using hl)
    subst this; simp at h
  | d + 1, [], n, x, hl, h => by simp at h
  | d + 1, a :: r, n, x, hl, h => by
    have hp : 2 ^ (d + 1) = 2 * 2 ^ d := by rw [Nat.pow_succ]; omega
    simp only [List.length_cons] at hl
    rw [Tree.ofList, Tree.get_node]
    split
    · rename_i h0; subst h0; simpa using h
    · rename_i h0
      split
      · rename_i h1
        refine ofList_get d _ _ (by rw [evens_length]; omega) ?_
        rw [evens_get]
        rw [show n = 2 * (n / 2) + 1 by omega, List.getElem?_cons_succ] at h; exact h
      · rename_i h1
        refine ofList_get d _ _ (by rw [odds_length]; omega) ?_
        rw [odds_get]
        rw [show n = 2 * (n / 2 - 1) + 1 + 1 by omega, List.getElem?_cons_succ] at h; exact h

section
variable {P : Program}

noncomputable def tyTree (P : Program) : Tree TI := Tree.ofList 12 (map1 (mkTI P) P.types.toList)
noncomputable def fnTree (P : Program) : Tree Func := Tree.ofList 12 P.funcs.toList

theorem info_types {t : Nat} {i : TypeInfo} (h : P.types[t]? = some i) : P.info? t = some i := by
  unfold Tables.info?
  rw [if_pos (Array.getElem?_eq_some_iff.1 h).1]; exact h

theorem tyTree_some {t : Nat} {ti : TI} (h : (tyTree P).get t = some ti) : ∃ i, P.types[t]? = some i ∧ ti = mkTI P i := by
  have := ofList_some 12 _ t h
  rw [map1_eq, List.getElem?_map] at this
  cases hi : P.types.toList[t]? with
  | none => rw [hi] at this; cases this
  | some i => rw [hi] at this; cases this; exact ⟨i, by rw [← Array.getElem?_toList]; exact hi, rfl⟩

theorem tyTree_get {t : Nat} (hs : P.types.size < 4096) (ht : t < P.types.size) : ∃ ti, (tyTree P).get t = some ti := by
  refine ⟨mkTI P P.types[t], ofList_get 12 _ t (by rw [map1_eq, List.length_map, Array.length_toList]; exact hs) ?_⟩
  rw [map1_eq, List.getElem?_map, Array.getElem?_toList, Array.getElem?_eq_getElem ht]; rfl

/-- one type's fields lie in the table -/
noncomputable def fldChk1 (P : Program) (n : Nat) (i : TypeInfo) : Bool :=
  match (mkTI P i).desc with
  | .struct fs => fs.toList.all fun f => Nat.blt f.type n
  | _ => true

noncomputable def eqChk1 (P : Program) (p : Nat × List Nat) : Bool :=
  (match P.underlying p.1 with
    | some (.struct _) => true
    | _ => false) && (flatT P 6 p.1 == some p.2) && !P.eqGuardType P.depth p.1

noncomputable def eqOf (l : List (Nat × List Nat)) (t : Nat) : Option (List Nat) := @List.rec (Nat × List Nat) (fun _ => Option (List Nat)) none (fun p _ ih => sel (Nat.beq t p.1) (some p.2) ih) l

theorem eqOf_mem : ∀ {l : List (Nat × List Nat)} {t : Nat} {ks : List Nat}, eqOf l t = some ks → (t, ks) ∈ l
  | [], t, ks, h => by cases h
  | p :: l, t, ks, h => by
    have h : sel (Nat.beq t p.1) (some p.2) (eqOf l t) = some ks := h
    rw [natBeq, sel_eq] at h
    split at h
    · rename_i ht
      have ht : t = p.1 := by simpa using ht
      cases h
      subst ht
      simp
    · simp [eqOf_mem h]

theorem cok {C : Ctx} (htt : C.tt = tyTree P) {el : List (Nat × List Nat)} (heq : C.eqT = eqOf el) (h1 : P.types.toList.all (tyChk1 P) = true) (h2 : P.types.toList.all (fldChk1 P P.types.size) = true) (h3 : P.types.size < 4096) (h4 : el.all (eqChk1 P) = true)
    (hx : ∀ f F vs v, C.ext f = some F → F vs = some v → ∀ ι w cargs, renL ι vs = some cargs → ∃ vc, ren ι v = some vc ∧ (callFunc f cargs.toArray).run P w = .ok (.value vc) w) : COk C P := by
  refine ⟨fun t ti h => ?_, fun t ti fs h hd f hf => ?_, fun t ks h => ?_, hx⟩
  · rw [htt] at h
    obtain ⟨i, hi, rfl⟩ := tyTree_some h
    exact mkTI_ok (info_types hi) (List.all_eq_true.1 h1 i (List.mem_of_getElem? (by rw [Array.getElem?_toList]; exact hi)))
  · rw [htt] at h ⊢
    obtain ⟨i, hi, rfl⟩ := tyTree_some h
    have := List.all_eq_true.1 h2 i (List.mem_of_getElem? (by rw [Array.getElem?_toList]; exact hi))
    unfold fldChk1 at this
    rw [hd] at this
    have := List.all_eq_true.1 this f hf
    rw [natBlt] at this
    exact tyTree_get h3 (by simpa using this)
  · rw [heq] at h
    have := List.all_eq_true.1 h4 _ (eqOf_mem h)
    unfold eqChk1 at this
    simp only [Bool.and_eq_true, Bool.not_eq_true'] at this
    obtain ⟨⟨a1, a2⟩, a3⟩ := this
    have a2 : flatT P 6 t = some ks := eq_of_beq a2
    have hs : ∃ fs, P.underlying t = some (.struct fs) := by
      split at a1
      · rename_i fs hq; exact ⟨fs, hq⟩
      · cases a1
    obtain ⟨fs, hs⟩ := hs
    exact eqOk_flat hs a2 (by omega) a3

theorem fnTree_some {f : Nat} {fn : Func} (h : (fnTree P).get f = some fn) : P.funcs[f]? = some fn := by
  rw [← Array.getElem?_toList]; exact ofList_some 12 _ f h

/-! ### Known answers, listed -/

abbrev Ov := CallT → List AVal → H → CR

noncomputable def ovOf (l : List (Nat × Ov)) (f : Nat) : Option Ov := @List.rec (Nat × Ov) (fun _ => Option Ov) none (fun p _ ih => sel (Nat.beq f p.1) (some p.2) ih) l

theorem ovOf_mem : ∀ {l : List (Nat × Ov)} {f : Nat} {F : Ov}, ovOf l f = some F → (f, F) ∈ l
  | [], f, F, h => by cases h
  | p :: l, f, F, h => by
    have h : sel (Nat.beq f p.1) (some p.2) (ovOf l f) = some F := h
    rw [natBeq, sel_eq] at h
    split at h
    · rename_i ht
      have ht : f = p.1 := by simpa using ht
      cases h
      subst ht
      simp
    · simp [ovOf_mem h]

/-- what is to be shown of a known answer -/
def OvOk (P : Program) (f : FuncId) (F : Ov) : Prop := ∀ call, CallSim P call → ∀ args h, (match F call args h with
    | .bad => True
    | .ok v h' => ∀ ι w cargs, Rel ι h w → Glob ι → renL ι args = some cargs → ∀ c cs, ∃ ι' w' vc, Went ι h w ι' h' w' ∧ ren ι' v = some vc ∧
        Steps P (lone (Frame.enter P f cargs.toArray .normal) (c :: cs) w) (lone (c.finish vc) cs w')
    | .pan ch h' => ∀ ι w cargs, Rel ι h w → Glob ι → renL ι args = some cargs → ∀ c cs, ∃ ι' w' chain, Went ι h w ι' h' w' ∧ ChainRel ι' ch chain ∧
        Steps P (lone (Frame.enter P f cargs.toArray .normal) (c :: cs) w) (lone (c.raise chain) cs w')) ∧
    (F call args h ≠ .bad → ∀ cargs w, (callFunc f cargs).run P w = .ok (.enter f cargs) w)

theorem fok {C : Ctx} (hft : C.ft = fnTree P) {l : List (Nat × Ov)} (hov : C.ov = ovOf l) (h1 : P.funcs.toList.all (fun fn => !(fn.name == "runtime.NumGoroutine")) = true) (h2 : P.follows .mixedOrders = true) (h3 : ∀ p ∈ l, OvOk P p.1 p.2) : FOk C P := by
  refine ⟨fun f fn h => ?_, h2, fun f F h => ?_⟩
  · rw [hft] at h
    have hf := fnTree_some h
    have := List.all_eq_true.1 h1 fn (List.mem_of_getElem? (by rw [Array.getElem?_toList]; exact hf))
    exact ⟨hf, by simpa using this⟩
  · rw [hov] at h
    exact h3 _ (ovOf_mem h)

/-! ### Tests of one byte -/

def byteF (p : Nat → Bool) : Ov := fun _ args h => match args with
  | [.int .u8 (.ofNat n)] => .ok (.bool (p n)) h
  | _ => .bad

theorem byteF_ok {f : FuncId} {p : Nat → Bool} (hc : ∀ (n : Nat) (w : World), Calls P f #[.int .u8 (n : Int)] w fun e w' => e = .returned (.bool (p n)) ∧ w' = w) (he : ∀ cargs w, (callFunc f cargs).run P w = .ok (.enter f cargs) w) : OvOk P f (byteF p) := by
  intro call _ args h
  refine ⟨?_, fun _ => he⟩
  unfold byteF
  split
  · trivial
  · rename_i v h' heq
    split at heq
    · rename_i n
      cases heq
      intro ι w cargs r hg ha c cs
      obtain ⟨a, ar, h1, h2, rfl⟩ := renL_cons.1 ha
      rw [renL_nil] at h2; subst h2
      have h1 : a = .int .u8 (n : Int) := by simpa [ren] using h1.symm
      subst h1
      obtain ⟨w', rfl, st⟩ := steps_of_calls (R := fun w' => w' = w) (hc n w) c cs
      exact ⟨ι, w', _, Went.refl r, by simp [ren], st⟩
    · cases heq
  · rename_i ch h' heq
    split at heq <;> cases heq

end
end Go.Sim
end
