/- A store into a block; an append that stays in its block. -/
import Derived.Test.YtakbgbnnocmaiaaGreatDoorSb
import Derived.AtR
set_option linter.all false
section
namespace Go.Sim

theorem Rel.alone {ι : Inj} {h : H} {w : World} (r : Rel ι h w) {b : Nat} {i : BI} {vs : List AVal} {esz : Nat} {opn : Bool} {pars : List Nat}
    (hb : ι b = some i) (hg : h.get b = some (.cells vs esz opn false pars)) :
    ∀ b2 i2 o2, b2 ≠ b → ι b2 = some i2 → i2.B = i.B → (kill h pars).get b2 = some o2 → o2 = .dead := by
  intro b2 i2 o2 hne h2 hB g2
  have hp : ∀ p ∈ pars, p < 1048576 := fun p hp => Nat.lt_of_lt_of_le (r.par b i _ _ _ _ _ hb hg p hp) r.cap
  rw [kill_get pars h (r.lt' h2) hp] at g2
  by_cases e : b2 ∈ pars
  · rw [if_pos e] at g2; cases g2; rfl
  · rw [if_neg e] at g2
    have hs := r.sep b2 b i2 i o2 _ hne h2 hb hB g2 hg
    cases o2 with
    | dead => rfl
    | cells vs2 e2 op2 f2 p2 => simp only [ShareOk] at hs; exact absurd (hs.2.1 trivial).1 e
    | _ => simp [ShareOk] at hs

theorem Went.write {ι : Inj} {h : H} {w : World} (P : Program) (r : Rel ι h w) {b off : Nat} {i : BI} {vs cs : List AVal} {esz : Nat} {opn : Bool} {pars : List Nat} {cvs : List Value}
    (hb : ι b = some i) (hg : h.get b = some (.cells vs esz opn false pars)) (hl : off + cs.length ≤ vs.length) (hc : renL ι cs = some cvs) (hp : plains cs = true) :
    (storeCells ⟨i.B, i.base + off, none⟩ cvs).run P w = .ok () (stW w i.B (i.base + off) cvs) ∧
      Went ι h w ι ((kill h pars).setO b (.cells (vs.take off ++ cs ++ vs.drop (off + cs.length)) esz opn false [])) (stW w i.B (i.base + off) cvs) := by
  obtain ⟨_, q, hq, ho⟩ := r.dom b i hb
  rw [hg] at hq; cases hq
  obtain ⟨ccs, T, fz, hh, R⟩ := ho
  have hcl := renL_length hc
  have hroom : i.base + off + cvs.length ≤ ccs.size := by have := R.room; omega
  refine ⟨run_storeCells cvs w 0 hh (by simpa using hroom) (plains_ren hc hp) (fun k h1 h2 => R.free rfl k (by omega) (by omega)), ?_⟩
  have hk := Went.killed pars r (r.par b i _ _ _ _ _ hb hg)
  refine hk.trans (Went.change hk.rel hb (.cells (vs.take off ++ cs ++ vs.drop (off + cs.length)) esz opn false []) (stW_size _ _ _ _) (fun B hB => stW_other _ _ _ _ hB) ?_ (r.alone hb hg) (fun _ _ _ _ _ h => by injection h with _ _ _ _ h5; exact h5.symm) (stW_out _ _ _ _))
  obtain ⟨cs', g1, g2, g3⟩ := stW_heap cvs w i.B (i.base + off) hh hroom
  have hlen : (vs.take off ++ cs ++ vs.drop (off + cs.length)).length = vs.length := by simp; omega
  refine ⟨cs', T, fz, g1, ?_, R.hesz, R.shut, ?_, ?_, ?_⟩
  · rw [hlen]; exact R.hcells
  · rw [hlen, g2]; exact R.room
  · intro k v hk
    rw [g3]
    by_cases c1 : k < off
    · rw [if_neg (by omega)]
      rw [List.append_assoc, List.getElem?_append_left (by simp; omega), List.getElem?_take_of_lt c1] at hk
      exact R.vals k v hk
    · by_cases c2 : k < off + cs.length
      · rw [if_pos (by omega)]
        rw [List.append_assoc, List.getElem?_append_right (by simp; omega), List.getElem?_append_left (by simp; omega)] at hk
        have hmin : min off vs.length = off := by omega
        simp only [List.length_take, hmin] at hk
        obtain ⟨vc, a1, a2⟩ := renL_get hc (k - off) v hk
        exact ⟨vc, a1, by rw [show i.base + k - (i.base + off) = k - off by omega]; exact a2⟩
      · rw [if_neg (by omega)]
        rw [List.getElem?_append_right (by simp; omega)] at hk
        have hmin : min off vs.length = off := by omega
        simp only [List.length_append, List.length_take, hmin, List.getElem?_drop] at hk
        rw [show off + cs.length + (k - (off + cs.length)) = k by omega] at hk
        exact R.vals k v hk
  · rw [hlen]; exact R.free

theorem plains_append : ∀ (a b : List AVal), plains (a ++ b) = (plains a && plains b)
  | [], b => by simp only [List.nil_append]; show _ = (true && _); simp
  | x :: a, b => by rw [List.cons_append, plains_cons, plains_cons, plains_append a b, Bool.and_assoc]

/-- A BLOCK IS SHUT. -/
theorem Went.freeze {ι : Inj} {h : H} {w : World} (r : Rel ι h w) {b : Nat} {i : BI} {vs : List AVal} {esz : Nat} {opn frz : Bool} {pars : List Nat} (hb : ι b = some i) (hg : h.get b = some (.cells vs esz opn frz pars)) :
    Went ι h w ι (h.setO b (.cells vs esz opn true pars)) w := by
  have hget : ∀ x, x < 1048576 → (h.setO b (.cells vs esz opn true pars)).get x = if x = b then some (.cells vs esz opn true pars) else h.get x := fun x hx => H.setO_get h _ hx (r.lt' hb)
  have hlt := r.lt hb
  refine ⟨Ext.refl ι, by simp, by simp; omega, fun x hx hl => ?_, fun x j hx hx' => (by rw [hx] at hx'; cases hx'), Nat.le_refl _, fun B _ hne => absurd rfl hne, ?_, SameOut.refl w⟩
  · have hc := r.cap
    simp at hl
    rw [hget x (by omega), if_neg (by omega)]
  · constructor
    · simpa using r.cap
    · intro x j hx
      obtain ⟨h1, q, h2, h3⟩ := r.dom x j hx
      by_cases e : x = b
      · subst e
        rw [hb] at hx; cases hx
        rw [hg] at h2; cases h2
        obtain ⟨ccs, T, fz, hh, R⟩ := h3
        exact ⟨by simpa using h1, .cells vs esz opn true pars, by rw [hget _ (r.lt' hb), if_pos rfl], ccs, T, fz, hh, R.hcells, R.hesz, R.shut, R.room, R.vals, fun h => by cases h⟩
      · exact ⟨by simpa using h1, q, by rw [hget x (r.lt' hx), if_neg e]; exact h2, h3⟩
    · intro b1 b2 i1 i2 o1 o2 hne h1 h2 hB g1 g2
      rw [hget b1 (r.lt' h1)] at g1
      rw [hget b2 (r.lt' h2)] at g2
      by_cases c1 : b1 = b
      · rw [if_pos c1] at g1; cases g1
        subst c1
        rw [if_neg (Ne.symm hne)] at g2
        have hs := r.sep b1 b2 i1 i2 _ o2 hne h1 h2 hB hg g2
        cases o2 with
        | dead => trivial
        | cells vs2 e2' op2 f2 p2 =>
          simp only [ShareOk] at hs ⊢
          exact ⟨.inl trivial, hs.2.1, fun h => by cases h⟩
        | _ => simp [ShareOk] at hs
      · rw [if_neg c1] at g1
        by_cases c2 : b2 = b
        · rw [if_pos c2] at g2; cases g2
          subst c2
          have hs := r.sep b1 b2 i1 i2 o1 _ hne h1 h2 hB g1 hg
          cases o1 with
          | dead => trivial
          | cells vs2 e2' op2 f2 p2 =>
            simp only [ShareOk] at hs ⊢
            exact ⟨.inr trivial, (fun h => by cases h), hs.2.2⟩
          | _ => simp [ShareOk] at hs
        · rw [if_neg c2] at g2
          exact r.sep b1 b2 i1 i2 o1 o2 hne h1 h2 hB g1 g2
    · intro x j hx
      exact r.fits x j hx
    · intro x j vs2 e2 op2 f2 p2 hx gx p hpm
      simp only [H.setO_next]
      rw [hget x (r.lt' hx)] at gx
      by_cases e : x = b
      · rw [if_pos e] at gx; cases gx
        exact r.par b i _ _ _ _ _ hb hg p hpm
      · rw [if_neg e] at gx
        exact r.par x j _ _ _ _ _ hx gx p hpm

/-- AN APPEND THAT STAYS IN ITS BLOCK: the old slice is shut, the new one is a block of its own here, in the same block of the model's heap. -/
theorem Went.grow {ι : Inj} {h : H} {w : World} (P : Program) (r : Rel ι h w) {b off n : Nat} {i : BI} {vs old new : List AVal} {esz : Nat} {pars : List Nat} {cvs : List Value}
    (hb : ι b = some i) (hg : h.get b = some (.cells vs esz true false pars)) (hend : off + old.length = vs.length) (hold : old = vs.drop off)
    (hnew : new.length = n * esz) (hc : renL ι new = some cvs) (hp : plains new = true) (hsp : n ≤ i.spare) (hn : h.next < 1048576) :
    (storeCells ⟨i.B, i.base + vs.length, none⟩ cvs).run P w = .ok () (stW w i.B (i.base + vs.length) cvs) ∧
      Went ι h w (upd ι h.next ⟨i.B, i.base + off, (old ++ new).length, i.spare - n, esz⟩)
        ((h.setO b (.cells vs esz true true pars)).alloc (.cells (old ++ new) esz true false (b :: pars))) (stW w i.B (i.base + vs.length) cvs) := by
  obtain ⟨hbn, q, hq, ho⟩ := r.dom b i hb
  rw [hg] at hq; cases hq
  obtain ⟨ccs, T, fz, hh, R⟩ := ho
  have hcl := renL_length hc
  have hmul : n * esz ≤ i.spare * esz := Nat.mul_le_mul_right _ hsp
  have hRroom := R.room
  have hroom : i.base + vs.length + cvs.length ≤ ccs.size := by omega
  refine ⟨run_storeCells cvs w 0 hh (by simpa using hroom) (plains_ren hc hp) (fun k h1 h2 => R.free rfl k (by omega) (by omega)), ?_⟩
  obtain ⟨cs', g1, g2, g3⟩ := stW_heap cvs w i.B (i.base + vs.length) hh hroom
  have hb65 := r.lt' hb
  have hout := stW_out cvs w i.B (i.base + vs.length)
  generalize hw1 : stW w i.B (i.base + vs.length) cvs = w1 at *
  have hsz : w1.heap.size = w.heap.size := by rw [← hw1]; exact stW_size _ _ _ _
  have hoth : ∀ B, B ≠ i.B → w1.heap[B]? = w.heap[B]? := fun B hB => by rw [← hw1]; exact stW_other _ _ _ _ hB
  let i' : BI := ⟨i.B, i.base + off, (old ++ new).length, i.spare - n, esz⟩
  let h1 := h.setO b (.cells vs esz true true pars)
  have hget : ∀ x, x < 1048576 → (h1.alloc (.cells (old ++ new) esz true false (b :: pars))).get x =
      if x = h.next then some (.cells (old ++ new) esz true false (b :: pars)) else if x = b then some (.cells vs esz true true pars) else h.get x := by
    intro x hx
    rw [H.alloc_get _ _ hx (by simpa [h1] using hn)]
    show (if x = h.next then _ else (h.setO b (.cells vs esz true true pars)).get x) = _
    rw [H.setO_get h _ hx hb65]
  have hnone := r.none (Nat.le_refl h.next)
  have hext : Ext ι (upd ι h.next i') := Ext.upd hnone
  have hfin : i'.fin = i.fin + new.length := by
    simp only [BI.fin, i', R.hcells, List.length_append]; omega
  have hcells := R.hcells
  -- a shut block that reads the model's block below the old end: still right
  have hstill : ∀ (x : Nat) (j : BI) vs2 e2 op2 p2, j.B = i.B → j.fin ≤ i.fin → ObjRel ι j w (.cells vs2 e2 op2 true p2) → ObjRel (upd ι h.next i') j w1 (.cells vs2 e2 op2 true p2) := by
    intro x j vs2 e2 op2 p2 eB hf ro
    obtain ⟨ccs2, T2, fz2, hh2, R2⟩ := ro
    rw [eB, hh] at hh2; cases hh2
    refine ⟨cs', T, fz, by rw [eB]; exact g1, R2.hcells, R2.hesz, R2.shut, by rw [g2]; exact R2.room, ?_, fun hf => by cases hf⟩
    intro k v hk
    obtain ⟨vc, a1, a2⟩ := R2.vals k v hk
    refine ⟨vc, ren_ext hext v a1, ?_⟩
    have hkl : k < vs2.length := by
      rcases Nat.lt_or_ge k vs2.length with h | h
      · exact h
      · rw [List.getElem?_eq_none h] at hk; cases hk
    have := R2.hcells
    simp only [BI.fin] at hf
    rw [g3, if_neg (by omega)]
    exact a2
  have hcap := r.cap
  refine ⟨hext, by simp, by simp; omega, fun x hx hl => ?_, fun x j hx hx' => ?_, by omega, fun B _ hne => ?_, ?_, hout⟩
  · simp [h1] at hl
    show (h1.alloc _).get x = _
    rw [hget x (by omega), if_neg (by omega), if_neg (by omega)]
  · by_cases e : x = h.next
    · subst e; rw [upd_self] at hx; cases hx
      exact ⟨Nat.le_refl _, .inr ⟨b, i, hb, rfl, by simp; omega⟩⟩
    · rw [upd_ne _ _ e, hx'] at hx; cases hx
  · by_cases e : B = i.B
    · exact ⟨b, i, hb, e.symm, by simp; omega⟩
    · exact absurd (hoth B e) hne
  · constructor
    · simp; omega
    · intro x j hx
      by_cases e : x = h.next
      · subst e; rw [upd_self] at hx; cases hx
        refine ⟨by simp, .cells (old ++ new) esz true false (b :: pars), by rw [hget _ hn, if_pos rfl], cs', T, fz, g1, rfl, rfl, fun h => by simp at h, ?_, ?_, ?_⟩
        · have : (i.spare - n) * esz + n * esz = i.spare * esz := by rw [← Nat.add_mul, Nat.sub_add_cancel hsp]
          simp only [List.length_append]
          show i.base + off + (old.length + new.length) + (i.spare - n) * esz ≤ cs'.size
          omega
        · intro k v hk
          show ∃ vc, _ ∧ cs'[i.base + off + k]? = some vc
          rw [g3]
          by_cases c : k < old.length
          · rw [List.getElem?_append_left c] at hk
            rw [hold, List.getElem?_drop] at hk
            obtain ⟨vc, a1, a2⟩ := R.vals (off + k) v hk
            exact ⟨vc, ren_ext hext v a1, by rw [if_neg (by omega)]; rw [Nat.add_assoc]; exact a2⟩
          · rw [List.getElem?_append_right (by omega)] at hk
            obtain ⟨vc, a1, a2⟩ := renL_get hc _ v hk
            have hlt : k - old.length < new.length := by
              rcases Nat.lt_or_ge (k - old.length) new.length with h | h
              · exact h
              · rw [List.getElem?_eq_none h] at hk; cases hk
            refine ⟨vc, ren_ext hext v a1, ?_⟩
            rw [if_pos (by omega), show i.base + off + k - (i.base + vs.length) = k - old.length by omega]
            exact a2
        · intro _ k h1 h2
          refine R.free rfl k (by have : (⟨i.B, i.base + off, (old ++ new).length, i.spare - n, esz⟩ : BI).base = i.base + off := rfl; omega) ?_
          have : (i.spare - n) * esz + n * esz = i.spare * esz := by rw [← Nat.add_mul, Nat.sub_add_cancel hsp]
          simp only [List.length_append] at h2
          omega
      · rw [upd_ne _ _ e] at hx
        obtain ⟨q1, o, q2, q3⟩ := r.dom x j hx
        by_cases e2 : x = b
        · subst e2; rw [hb] at hx; cases hx
          rw [hg] at q2; cases q2
          refine ⟨by simp; omega, .cells vs esz true true pars, by rw [hget _ hb65, if_neg e, if_pos rfl], hstill x i vs esz true pars rfl (Nat.le_refl _) ?_⟩
          exact ⟨ccs, T, fz, hh, R.hcells, R.hesz, R.shut, R.room, R.vals, fun h => by cases h⟩
        · refine ⟨by simp; omega, o, by rw [hget x (r.lt' hx), if_neg e, if_neg e2]; exact q2, ?_⟩
          by_cases eB : j.B = i.B
          · have hs := r.sep x b j i o _ e2 hx hb eB q2 hg
            cases o with
            | dead => trivial
            | cells vs2 e2 op2 f2 p2 =>
              simp only [ShareOk] at hs
              have hf2 : f2 = true := by rcases hs.1 with h | h; exact h; cases h
              subst hf2
              exact hstill x j vs2 e2 op2 p2 eB (hs.2.1 trivial).2 q3
            | _ => simp [ShareOk] at hs
          · exact q3.mono hext (hoth _ eB)
    · intro b1 b2 i1 i2 o1 o2 hne e1 e2 hB q1 q2
      -- the new block beside another one
      have hnewcase : ∀ (x : Nat) (j : BI) o, ι x = some j → j.B = i.B → (if x = b then some (AObj.cells vs esz true true pars) else h.get x) = some o →
          ShareOk x h.next j i' o (.cells (old ++ new) esz true false (b :: pars)) := by
        intro x j o hx eB go
        by_cases e : x = b
        · rw [if_pos e] at go; cases go
          subst e; rw [hb] at hx; cases hx
          exact ⟨.inl rfl, fun _ => ⟨by simp, by rw [hfin]; omega⟩, fun h => by cases h⟩
        · rw [if_neg e] at go
          have hs := r.sep x b j i o _ e hx hb eB go hg
          cases o with
          | dead => trivial
          | cells vs2 e2 op2 f2 p2 =>
            simp only [ShareOk] at hs ⊢
            have hf2 : f2 = true := by rcases hs.1 with h | h; exact h; cases h
            exact ⟨.inl hf2, fun _ => ⟨by simp [(hs.2.1 trivial).1], by rw [hfin]; have := (hs.2.1 trivial).2; omega⟩, fun h => by rw [hf2] at h; cases h⟩
          | _ => simp [ShareOk] at hs
      by_cases d1 : b1 = h.next
      · subst d1; rw [upd_self] at e1; cases e1
        rw [upd_ne _ _ (Ne.symm hne)] at e2
        rw [hget _ hn, if_pos rfl] at q1; cases q1
        rw [hget b2 (r.lt' e2), if_neg (Ne.symm hne)] at q2
        exact (hnewcase b2 i2 o2 e2 hB.symm q2).symm
      · rw [upd_ne _ _ d1] at e1
        by_cases d2 : b2 = h.next
        · subst d2; rw [upd_self] at e2; cases e2
          rw [hget _ hn, if_pos rfl] at q2; cases q2
          rw [hget b1 (r.lt' e1), if_neg hne] at q1
          exact hnewcase b1 i1 o1 e1 hB q1
        · rw [upd_ne _ _ d2] at e2
          rw [hget b1 (r.lt' e1), if_neg d1] at q1
          rw [hget b2 (r.lt' e2), if_neg d2] at q2
          by_cases c1 : b1 = b
          · rw [if_pos c1] at q1; cases q1
            subst c1
            rw [if_neg (Ne.symm hne)] at q2
            have hs := r.sep b1 b2 i1 i2 _ o2 hne e1 e2 hB hg q2
            cases o2 with
            | dead => trivial
            | cells vs2 e2' op2 f2 p2 =>
              simp only [ShareOk] at hs ⊢
              exact ⟨.inl trivial, hs.2.1, fun h => by cases h⟩
            | _ => simp [ShareOk] at hs
          · rw [if_neg c1] at q1
            by_cases c2 : b2 = b
            · rw [if_pos c2] at q2; cases q2
              subst c2
              have hs := r.sep b1 b2 i1 i2 o1 _ hne e1 e2 hB q1 hg
              cases o1 with
              | dead => trivial
              | cells vs2 e2' op2 f2 p2 =>
                simp only [ShareOk] at hs ⊢
                exact ⟨.inr trivial, (fun h => by cases h), hs.2.2⟩
              | _ => simp [ShareOk] at hs
            · rw [if_neg c2] at q2
              exact r.sep b1 b2 i1 i2 o1 o2 hne e1 e2 hB q1 q2
    · intro x j hx
      by_cases e : x = h.next
      · subst e; rw [upd_self] at hx; cases hx
        rw [hsz]; exact r.fits b i hb
      · rw [upd_ne _ _ e] at hx
        rw [hsz]; exact r.fits x j hx
    · intro x j vs2 e2 op2 f2 p2 hx gx p hpm
      show p < h.next + 1
      by_cases e : x = h.next
      · subst e
        rw [hget _ hn, if_pos rfl] at gx; cases gx
        cases hpm with
        | head => omega
        | tail _ hpm => have := r.par b i _ _ _ _ _ hb hg p hpm; omega
      · rw [upd_ne _ _ e] at hx
        rw [hget x (r.lt' hx), if_neg e] at gx
        by_cases e2 : x = b
        · rw [if_pos e2] at gx; cases gx
          have := r.par b i _ _ _ _ _ hb hg p hpm; omega
        · rw [if_neg e2] at gx
          have := r.par x j _ _ _ _ _ hx gx p hpm; omega

end Go.Sim
end
section
/- What an operation, a call and a piece of code do on the model's machine, beside the abstract one. -/
namespace Go.Sim

def Glob (ι : Inj) : Prop := ∀ g, g < ngl → ∃ i, ι g = some i ∧ i.B = g ∧ i.base = 0

theorem Glob.ext {ι ι' : Inj} (h : Glob ι) (e : Ext ι ι') : Glob ι' := fun g hg => let ⟨i, a, b⟩ := h g hg; ⟨i, e g i a, b⟩

/-- the slots that are named, in relation -/
def SlotsRel (ι : Inj) (e : Env) (a : Act) (l : List Nat) : Prop := ∀ t, t ∈ l → t < 256 → ∀ u, e.get t = some u → ∃ uc, ren ι u = some uc ∧ a.tmps[t]? = some uc

theorem mem_tmpsOf {t : Nat} : ∀ {l : List Operand}, t ∈ tmpsOf l ↔ Operand.tmp t ∈ l
  | [] => by simp [show tmpsOf [] = [] from rfl]
  | x :: r => by
    show t ∈ app (tmpOf x) (tmpsOf r) ↔ _
    rw [app_eq, List.mem_append, mem_tmpsOf (l := r), List.mem_cons]
    cases x <;> simp [tmpOf]

theorem ev_ren {ι : Inj} {e : Env} {a : Act} {l : List Nat} (hg : Glob ι) (hs : SlotsRel ι e a l) {x : Operand} {u : AVal} (hx : ∀ t, x = .tmp t → t ∈ l) (h : (evF x).run e = some u) :
    ren ι u = some (a.eval x) := by
  cases x with
  | tmp t =>
    have h' : (sel (Nat.blt t 256) (⟨(getE 4 t).run⟩ : EvF) ⟨fun _ => none⟩).run e = some u := h
    rw [natBlt, sel_eq] at h'
    split at h'
    · rename_i ht
      obtain ⟨uc, h1, h2⟩ := hs t (hx t rfl) (by simpa using ht) u h'
      rw [h1]
      simp [Act.eval, h2]
    · cases h'
  | const v => exact cV_ren h
  | global g =>
    have h' : (sel (Nat.blt g ngl) (⟨fun _ => some (.ptr (some (g, 0)))⟩ : EvF) ⟨fun _ => none⟩).run e = some u := h
    rw [natBlt, sel_eq] at h'
    split at h'
    · rename_i hgl
      obtain ⟨i, h1, h2, h3⟩ := hg g (by simpa using hgl)
      have h' : some (AVal.ptr (some (g, 0))) = some u := h'
      cases h'
      simp [ren, h1, h2, h3, Act.eval]
    · cases h'
  | func f =>
    have h' : some (AVal.func f []) = some u := h
    cases h'
    simp [ren, renL, Act.eval]

/-! ### An operation -/

/-- where a frame stands when it comes to an operation -/
structure At where
  b : Frame
  ops : Array Oper
  i : Nat
  rest : List Nat
  K : List Item
  cs : List Frame

def At.frame (T : At) (a : Act) : Frame := T.b.atR a (.inRegion T.ops (T.i :: T.rest) :: T.K)
def At.next (T : At) (a : Act) : Frame := T.b.atR a (.inRegion T.ops T.rest :: T.K)
def At.ok (T : At) (o : Oper) (a : Act) : Prop := T.ops[T.i]? = some o ∧ Region.wanted o (yielded T.ops a.tmps) = true

/-- THE OPERATION COMES TO A VALUE (which goes into its slot), from 'w' to 'w''. -/
def Goes (P : Program) (o : Oper) (a : Act) (w : World) (v : Value) (w' : World) (T : At) : Prop :=
  Steps P (lone (T.frame a) T.cs w) (lone (T.next (a.put o.dst v)) T.cs w')

/-- THE OPERATION PANICS. -/
def Pans (P : Program) (a : Act) (w : World) (chain : List PanicEntry) (w' : World) (T : At) : Prop :=
  ∃ todo, Steps P (lone (T.frame a) T.cs w) (lone { T.b.atR a todo with mode := .panicking chain } T.cs w')

theorem At.finish {T : At} {o : Oper} {a : Act} (h : T.ok o a) (v : Value) : (T.frame a).finish v = T.next (a.put o.dst v) := by
  unfold At.frame At.next
  rw [Frame.finish_atR, h.1]; rfl

theorem step_op {P : Program} {o : Oper} {a : Act} {w : World} {T : At} (h : T.ok o a) (hd : ∀ c, o.op ≠ .defer c) :
    stepG P true { frame := T.frame a, callers := T.cs, status := .running, dying := none } w = stepG.apply P true (T.frame a) T.cs none (execOp a.eval o) w := by
  unfold At.frame
  rw [stepGR_op h.1 h.2, Oper.semAt_eq _ _ _ hd]

theorem goes_value {P : Program} {o : Oper} {a : Act} {w w' : World} {v : Value} {T : At} (hT : T.ok o a) (hd : ∀ c, o.op ≠ .defer c) (h : (execOp a.eval o).run P w = .ok (.value v) w') : Goes P o a w v w' T := by
  refine .one (step_lone_go ?_)
  rw [step_op hT hd, ← At.finish hT]
  simp [stepG.apply, h]

theorem goes_skip {P : Program} {o : Oper} {a : Act} {w w' : World} {T : At} (hT : T.ok o a) (hd : ∀ c, o.op ≠ .defer c) (h : (execOp a.eval o).run P w = .ok .skip w') : Goes P o a w undef w' T := by
  refine .one (step_lone_go ?_)
  rw [step_op hT hd, ← At.finish hT]
  simp [stepG.apply, h]

theorem goes_call {P : Program} {o : Oper} {a : Act} {w w1 w' : World} {f : FuncId} {args : Array Value} {v : Value} {T : At} (hT : T.ok o a) (hd : ∀ c, o.op ≠ .defer c) (h : (execOp a.eval o).run P w = .ok (.enter f args) w1)
    (hc : Steps P (lone (Frame.enter P f args .normal) (T.frame a :: T.cs) w1) (lone ((T.frame a).finish v) T.cs w')) : Goes P o a w v w' T := by
  refine .head (m₁ := lone (Frame.enter P f args .normal) (T.frame a :: T.cs) w1) (step_lone_go ?_) ?_
  · rw [step_op hT hd]
    simp [stepG.apply, h, At.frame, Frame.atR]
  · rwa [At.finish hT] at hc

theorem pans_call {P : Program} {o : Oper} {a : Act} {w w1 w' : World} {f : FuncId} {args : Array Value} {chain : List PanicEntry} {T : At} (hT : T.ok o a) (hd : ∀ c, o.op ≠ .defer c) (h : (execOp a.eval o).run P w = .ok (.enter f args) w1)
    (hc : Steps P (lone (Frame.enter P f args .normal) (T.frame a :: T.cs) w1) (lone ((T.frame a).raise chain) T.cs w')) : Pans P a w chain w' T := by
  refine ⟨.inRegion T.ops (T.i :: T.rest) :: T.K, .head (m₁ := lone (Frame.enter P f args .normal) (T.frame a :: T.cs) w1) (step_lone_go ?_) ?_⟩
  · rw [step_op hT hd]
    simp [stepG.apply, h, At.frame, Frame.atR]
  · rwa [At.frame, Frame.raise_atR] at hc

theorem goes_round {P : Program} {o : Oper} {a : Act} {w w1 w' : World} {l : Nat} {f : FuncId} {tmps : Array Value} {asg body : Code} {v : Value} {T : At} (hT : T.ok o a) (hd : ∀ c, o.op ≠ .defer c)
    (h : (execOp a.eval o).run P w = .ok (.round l f tmps asg body) w1)
    (hc : Steps P (lone (Frame.round l f tmps asg body .normal) (T.frame a :: T.cs) w1) (lone ((T.frame a).finish v) T.cs w')) : Goes P o a w v w' T := by
  refine .head (m₁ := lone (Frame.round l f tmps asg body .normal) (T.frame a :: T.cs) w1) (step_lone_go ?_) ?_
  · rw [step_op hT hd]
    simp [stepG.apply, h, At.frame, Frame.atR]
  · rwa [At.finish hT] at hc

theorem pans_panic {P : Program} {o : Oper} {a : Act} {w w' : World} {v : Value} {T : At} (hT : T.ok o a) (hd : ∀ c, o.op ≠ .defer c) (h : (execOp a.eval o).run P w = .halt (.panic v) w') : Pans P a w [{ v, recovered := false }] w' T := by
  refine ⟨.inRegion T.ops (T.i :: T.rest) :: T.K, .one (step_lone_go ?_)⟩
  rw [step_op hT hd, ← Frame.raise_atR]
  simp [stepG.apply, h, At.frame]

/-! ### Panics, deferred calls, frames -/

def EntryRel (ι : Inj) (p : AVal × Bool) (q : PanicEntry) : Prop := ren ι p.1 = some q.v ∧ q.recovered = p.2 ∧ q.goexit = false

def ChainRel (ι : Inj) : List (AVal × Bool) → List PanicEntry → Prop
  | [], [] => True
  | p :: c, q :: d => EntryRel ι p q ∧ ChainRel ι c d
  | _, _ => False

theorem ChainRel.ext {ι ι' : Inj} (h : Ext ι ι') : ∀ {c : List (AVal × Bool)} {d : List PanicEntry}, ChainRel ι c d → ChainRel ι' c d
  | [], [], _ => trivial
  | p :: c, q :: d, ⟨r, s⟩ => ⟨⟨ren_ext h _ r.1, r.2⟩, s.ext h⟩
  | [], _ :: _, r => r.elim
  | _ :: _, [], r => r.elim

theorem ChainRel.append {ι : Inj} : ∀ {c c' : List (AVal × Bool)} {d d' : List PanicEntry}, ChainRel ι c d → ChainRel ι c' d' → ChainRel ι (c ++ c') (d ++ d')
  | [], _, [], _, _, h => h
  | p :: c, _, q :: d, _, ⟨r, s⟩, h => ⟨r, s.append h⟩
  | [], _, _ :: _, _, r, _ => r.elim
  | _ :: _, _, [], _, r, _ => r.elim

def ModeRel (ι : Inj) : AMode → FrameMode → Prop
  | .ret, m => m = .returning
  | .pan c, m => ∃ d, m = .panicking d ∧ ChainRel ι c d

theorem ModeRel.ext {ι ι' : Inj} (h : Ext ι ι') {m : AMode} {u : FrameMode} (r : ModeRel ι m u) : ModeRel ι' m u := by
  cases m with
  | ret => exact r
  | pan c => obtain ⟨d, h1, h2⟩ := r; exact ⟨d, h1, h2.ext h⟩

def DRel (ι : Inj) : AD → Deferred → Prop
  | .call g args, d => ∃ cap, d.target = .fn (.func g) cap ∧ renL ι args = some (d.args ++ cap).toList
  | .coll r, d => ∃ j, ι r = some j ∧ d.target = .collected j.B

def DsRel (ι : Inj) : List AD → List Deferred → Prop
  | [], [] => True
  | p :: c, q :: d => DRel ι p q ∧ DsRel ι c d
  | _, _ => False

theorem DRel.ext {ι ι' : Inj} (h : Ext ι ι') {p : AD} {q : Deferred} (r : DRel ι p q) : DRel ι' p q := by
  cases p with
  | call g args => obtain ⟨cap, h1, h2⟩ := r; exact ⟨cap, h1, renL_ext h _ h2⟩
  | coll x => obtain ⟨j, h1, h2⟩ := r; exact ⟨j, h x j h1, h2⟩

theorem DsRel.ext {ι ι' : Inj} (h : Ext ι ι') : ∀ {c : List AD} {d : List Deferred}, DsRel ι c d → DsRel ι' c d
  | [], [], _ => trivial
  | p :: c, q :: d, ⟨r, s⟩ => ⟨r.ext h, s.ext h⟩
  | [], _ :: _, r => r.elim
  | _ :: _, [], r => r.elim

def RndRel (ι : Inj) : Option Nat → Option Nat → Prop
  | none, r => r = none
  | some l, r => ∃ j, ι l = some j ∧ r = some j.B

theorem RndRel.ext {ι ι' : Inj} (h : Ext ι ι') {a b : Option Nat} (r : RndRel ι a b) : RndRel ι' a b := by
  cases a with
  | none => exact r
  | some l => obtain ⟨j, h1, h2⟩ := r; exact ⟨j, h l j h1, h2⟩

def RcRel (ι : Inj) (b : Frame) (cs : List Frame) : RC → Prop
  | .nrm => b.kind = .normal
  | .dfr m => b.kind = .deferred ∧ b.roundOf = none ∧ ∃ c0 rest, cs = c0 :: rest ∧ ModeRel ι m c0.mode

theorem RcRel.ext {ι ι' : Inj} (h : Ext ι ι') {b : Frame} {cs : List Frame} {r : RC} (q : RcRel ι b cs r) : RcRel ι' b cs r := by
  cases r with
  | nrm => exact q
  | dfr m => obtain ⟨h1, h2, c0, rest, h3, h4⟩ := q; exact ⟨h1, h2, c0, rest, h3, h4.ext h⟩

/-- a frame -/
structure FrRel (ι : Inj) (x : FX) (e : Env) (b : Frame) (a : Act) (cs : List Frame) : Prop where
  fn : b.fn = x.s.fn
  rnd : RndRel ι x.s.rnd b.roundOf
  env : EnvRel ι x.s.n e a.tmps
  ds : DsRel ι x.ds a.defers
  rc : RcRel ι b cs x.rc

theorem FrRel.ext {ι ι' : Inj} (h : Ext ι ι') {x : FX} {e : Env} {b : Frame} {a : Act} {cs : List Frame} (r : FrRel ι x e b a cs) : FrRel ι' x e b a cs :=
  ⟨r.fn, r.rnd.ext h, r.env.ext h, r.ds.ext h, r.rc.ext h⟩

/-- the callers behind a piece of a frame's run: a deferred call may have recovered its caller -/
def Callers (b : Frame) (cs cs' : List Frame) : Prop :=
  cs' = cs ∨ (b.kind = .deferred ∧ ∃ c0 rest m, cs = c0 :: rest ∧ cs' = { c0 with mode := m } :: rest)

theorem Callers.refl (b : Frame) (cs : List Frame) : Callers b cs cs := .inl rfl

theorem Callers.trans {b : Frame} {c1 c2 c3 : List Frame} (h : Callers b c1 c2) (h' : Callers b c2 c3) : Callers b c1 c3 := by
  rcases h with rfl | ⟨hk, c0, rest, m, rfl, rfl⟩
  · exact h'
  · rcases h' with rfl | ⟨_, c0', rest', m', e1, rfl⟩
    · exact .inr ⟨hk, c0, rest, m, rfl, rfl⟩
    · cases e1
      exact .inr ⟨hk, c0, rest, m', rfl, rfl⟩

/-- a call -/
def CallSim (P : Program) (call : CallT) : Prop := ∀ f args h, match call f args h with
  | .bad => True
  | .ok v h' => ∀ ι w cargs, Rel ι h w → Glob ι → renL ι args = some cargs → ∀ c cs, ∃ ι' w' vc, Went ι h w ι' h' w' ∧ ren ι' v = some vc ∧
      Steps P (lone (Frame.enter P f cargs.toArray .normal) (c :: cs) w) (lone (c.finish vc) cs w')
  | .pan ch h' => ∀ ι w cargs, Rel ι h w → Glob ι → renL ι args = some cargs → ∀ c cs, ∃ ι' w' chain, Went ι h w ι' h' w' ∧ ChainRel ι' ch chain ∧
      Steps P (lone (Frame.enter P f cargs.toArray .normal) (c :: cs) w) (lone (c.raise chain) cs w')

/-- where a piece of code comes to -/
def Arr (P : Program) (m : Machine) (b : Frame) (k : List Item) (cs : List Frame) (ι : Inj) (a : Act) (w : World) : Ex → Prop
  | .normal => Steps P m (lone (b.atR a k) cs w)
  | .exit id => ∃ k', exitTo id k' = exitTo id k ∧ Steps P m (lone (b.atR a (.code (.exit id) :: k')) cs w)
  | .ret => ∃ k', Steps P m (lone (b.atR a (.code .ret :: k')) cs w)
  | .panic c => ∃ todo chain, ChainRel ι c chain ∧ Steps P m (lone { b.atR a todo with mode := .panicking chain } cs w)

/-- a piece of code -/
def CodeSim (P : Program) (c : Code) (x : FX) (e : Env) (h : H) (r : XR) : Prop := match r with
  | .bad => True
  | .mk ex x' e' h' => ∀ ι w b a k cs, Rel ι h w → Glob ι → FrRel ι x e b a cs → ∃ ι' w' a' cs', Went ι h w ι' h' w' ∧ FrRel ι' x' e' b a' cs' ∧ Callers b cs cs' ∧ x'.s = x.s ∧
      Arr P (lone (b.atR a (.code c :: k)) cs w) b k cs' ι' a' w' ex

structure GSim (P : Program) (g : G) : Prop where
  call : CallSim P g.call
  enters : ∀ f args h, g.call f args h ≠ .bad → ∀ cargs w, (callFunc f cargs).run P w = .ok (.enter f cargs) w
  exec : ∀ c x e h, CodeSim P c x e h (g.exec c x e h)

end Go.Sim
end
section
/- The shape of an operation's run on the abstract machine, and what has to be shown of it. -/
namespace Go.Sim

inductive Step1 (d : Option Nat) (x : FX) (e : Env) (V : AVal → H → Prop) (Q : List (AVal × Bool) → H → Prop) (f : PK → K → XR) : Prop
  | bad (hb : ∀ p k, f p k = .bad)
  | val (v : AVal) (h' : H) (hf : ∀ p k, f p k = (putF d).run v x e h' k) (hv : V v h')
  | pan (c : List (AVal × Bool)) (h' : H) (hf : ∀ p k, f p k = p c x e h') (hq : Q c h')

namespace Step1
variable {d : Option Nat} {x : FX} {e : Env} {V : AVal → H → Prop} {Q : List (AVal × Bool) → H → Prop}

theorem bad' : Step1 d x e V Q (fun _ _ => .bad) := .bad fun _ _ => rfl

theorem put {v : AVal} {h' : H} (hv : V v h') : Step1 d x e V Q (fun _ k => (putF d).run v x e h' k) := .val v h' (fun _ _ => rfl) hv

theorem mono {V' : AVal → H → Prop} {Q' : List (AVal × Bool) → H → Prop} {f : PK → K → XR} (s : Step1 d x e V Q f) (hV : ∀ v h, V v h → V' v h) (hQ : ∀ c h, Q c h → Q' c h) : Step1 d x e V' Q' f := by
  cases s with
  | bad hb => exact .bad hb
  | val v h' hf hv => exact .val v h' hf (hV _ _ hv)
  | pan c h' hf hq => exact .pan c h' hf (hQ _ _ hq)

theorem ox {α : Type} {o : Option α} {f : α → PK → K → XR} (hh : ∀ a, o = some a → Step1 d x e V Q (f a)) : Step1 d x e V Q (fun p k => Sim.ox o (fun a => f a p k)) := by
  cases o with
  | none => exact bad'
  | some a => exact hh a rfl

theorem so {α : Type} {g : G} {h : H} {o : Option α} {F : α → OpF} (hh : ∀ a, o = some a → Step1 d x e V Q (fun p k => (F a).run g x e h p k)) :
    Step1 d x e V Q (fun p k => (Sim.so o F).run g x e h p k) := by
  cases o with
  | none => exact bad'
  | some a => exact hh a rfl

theorem oe {α : Type} {o : Option α} {n : PK → K → XR} {f : α → PK → K → XR} (h0 : o = none → Step1 d x e V Q n) (hh : ∀ a, o = some a → Step1 d x e V Q (f a)) :
    Step1 d x e V Q (fun p k => Sim.oe o (n p k) (fun a => f a p k)) := by
  cases o with
  | none => exact h0 rfl
  | some a => exact hh a rfl

theorem sel {b : Bool} {t f : PK → K → XR} (h1 : b = true → Step1 d x e V Q t) (h2 : b = false → Step1 d x e V Q f) : Step1 d x e V Q (fun p k => Sim.sel b (t p k) (f p k)) := by
  cases b with
  | true => exact h1 rfl
  | false => exact h2 rfl

theorem selF {b : Bool} {g : G} {h : H} {t f : OpF} (h1 : b = true → Step1 d x e V Q (fun p k => t.run g x e h p k)) (h2 : b = false → Step1 d x e V Q (fun p k => f.run g x e h p k)) :
    Step1 d x e V Q (fun p k => (Sim.sel b t f).run g x e h p k) := by
  cases b with
  | true => exact h1 rfl
  | false => exact h2 rfl

theorem when {b : Bool} {t : PK → K → XR} (h1 : b = true → Step1 d x e V Q t) : Step1 d x e V Q (fun p k => Sim.sel b (t p k) .bad) := sel h1 fun _ => bad'

theorem onInt {v : AVal} {f : IntKind → Int → PK → K → XR} (hh : ∀ kd n, v = .int kd n → Step1 d x e V Q (f kd n)) : Step1 d x e V Q (fun p k => Sim.onInt v (fun kd n => f kd n p k)) := by
  cases v <;> first | exact bad' | exact hh _ _ rfl
theorem onBool {v : AVal} {f : Bool → PK → K → XR} (hh : ∀ b, v = .bool b → Step1 d x e V Q (f b)) : Step1 d x e V Q (fun p k => Sim.onBool v (fun b => f b p k)) := by
  cases v <;> first | exact bad' | exact hh _ rfl
theorem onStr {v : AVal} {f : List UInt8 → PK → K → XR} (hh : ∀ b, v = .str b → Step1 d x e V Q (f b)) : Step1 d x e V Q (fun p k => Sim.onStr v (fun b => f b p k)) := by
  cases v <;> first | exact bad' | exact hh _ rfl
theorem onPtr {v : AVal} {f : Nat → Nat → PK → K → XR} (hh : ∀ b o, v = .ptr (some (b, o)) → Step1 d x e V Q (f b o)) : Step1 d x e V Q (fun p k => Sim.onPtr v (fun b o => f b o p k)) := by
  cases v with
  | ptr a => cases a with
    | none => exact bad'
    | some q => exact hh _ _ rfl
  | _ => exact bad'
theorem onSlc {v : AVal} {f : Option (Nat × Nat) → Nat → Nat → PK → K → XR} (hh : ∀ a l c, v = .slc a l c → Step1 d x e V Q (f a l c)) : Step1 d x e V Q (fun p k => Sim.onSlc v (fun a l c => f a l c p k)) := by
  cases v <;> first | exact bad' | exact hh _ _ _ rfl
theorem onTup {v : AVal} {f : List AVal → PK → K → XR} (hh : ∀ b, v = .tup b → Step1 d x e V Q (f b)) : Step1 d x e V Q (fun p k => Sim.onTup v (fun b => f b p k)) := by
  cases v <;> first | exact bad' | exact hh _ rfl
theorem onAgg {v : AVal} {f : List AVal → PK → K → XR} (hh : ∀ b, v = .agg b → Step1 d x e V Q (f b)) : Step1 d x e V Q (fun p k => Sim.onAgg v (fun b => f b p k)) := by
  cases v <;> first | exact bad' | exact hh _ rfl
theorem onMap {v : AVal} {f : Option Nat → PK → K → XR} (hh : ∀ b, v = .map b → Step1 d x e V Q (f b)) : Step1 d x e V Q (fun p k => Sim.onMap v (fun b => f b p k)) := by
  cases v <;> first | exact bad' | exact hh _ rfl
theorem onIface {v : AVal} {f : Nat → AVal → PK → K → XR} (hh : ∀ t u, v = .iface t u → Step1 d x e V Q (f t u)) : Step1 d x e V Q (fun p k => Sim.onIface v (fun t u => f t u p k)) := by
  cases v <;> first | exact bad' | exact hh _ _ rfl
theorem onCells {o : Option AObj} {f : List AVal → Nat → Bool → Bool → List Nat → PK → K → XR} (hh : ∀ vs n a b l, o = some (.cells vs n a b l) → Step1 d x e V Q (f vs n a b l)) :
    Step1 d x e V Q (fun p k => Sim.onCells o (fun vs n a b l => f vs n a b l p k)) := by
  cases o with
  | none => exact bad'
  | some q => cases q <;> first | exact bad' | exact hh _ _ _ _ _ rfl
theorem onMapO {o : Option AObj} {f : List (AVal × AVal) → Nat → PK → K → XR} (hh : ∀ es ck, o = some (.map es ck) → Step1 d x e V Q (f es ck)) :
    Step1 d x e V Q (fun p k => Sim.onMapO o (fun es ck => f es ck p k)) := by
  cases o with
  | none => exact bad'
  | some q => cases q <;> first | exact bad' | exact hh _ _ rfl

end Step1

/-! ### Types -/

structure TyOk (P : Program) (t : TypeId) (ti : TI) : Prop where
  desc : P.underlying t = some ti.desc
  info : ∃ i, P.info? t = some i ∧ i.size = ti.sz ∧ i.bytes = ti.bytes ∧ i.methods = ti.meths ∧
    ∀ z, ti.zero = some z → ∃ zv, i.zero = some zv ∧ mapX cS zv.cells.toList = some z ∧ z.length = ti.sz ∧ (aggD ti.desc = true → ∃ cs, zv = .agg cs) ∧ (aggD ti.desc = false → ∀ cs, zv ≠ .agg cs)

/-- equality of values all of whose cells are integers, strings or booleans -/
structure EqOk (P : Program) (t : TypeId) (ks : List Nat) : Prop where
  guard : P.eqGuardType P.depth t = false
  eq : ∀ xs ys b vx vy ι w, fitK ks xs = true → eqL xs ys = some b → renL ι xs = some vx → renL ι ys = some vy → (Op.equal t (.agg vx.toArray) (.agg vy.toArray)).run P w = .ok b w
  key : ∀ em xs vx ι w, fitK ks xs = true → renL ι xs = some vx → (Instr.checkKey em 10000 t (.agg vx.toArray)).run P w = .ok () w

structure COk (C : Ctx) (P : Program) : Prop where
  ty : ∀ t ti, C.tt.get t = some ti → TyOk P t ti
  flds : ∀ t ti fs, C.tt.get t = some ti → ti.desc = .struct fs → ∀ f ∈ fs.toList, ∃ tf, C.tt.get f.type = some tf
  eqt : ∀ t ks, C.eqT t = some ks → EqOk P t ks
  ext : ∀ f F vs v, C.ext f = some F → F vs = some v → ∀ ι w cargs, renL ι vs = some cargs → ∃ vc, ren ι v = some vc ∧ (callFunc f cargs.toArray).run P w = .ok (.value vc) w

section
variable {P : Program} {t : TypeId} {ti : TI} (T : TyOk P t ti) (w : World)

theorem run_underlying (T : TyOk P t ti) (w : World) : (underlying t).run P w = .ok ti.desc w := by
  unfold underlying
  rw [run_bind (run_program P w)]
  simp [T.desc]

theorem run_typeInfo {i : TypeInfo} (h : P.info? t = some i) (w : World) : (typeInfo t).run P w = .ok i w := by
  unfold typeInfo
  rw [run_bind (run_program P w)]
  simp [h]

theorem run_sizeOf (T : TyOk P t ti) (w : World) : (sizeOf t).run P w = .ok ti.sz w := by
  obtain ⟨i, h1, h2, _⟩ := T.info
  unfold sizeOf
  rw [run_bind (run_typeInfo h1 w)]
  simp [h2]

theorem run_isAgg (T : TyOk P t ti) (w : World) : (isAgg t).run P w = .ok (aggD ti.desc) w := by
  unfold isAgg
  rw [run_bind (run_underlying T w)]
  cases ti.desc <;> rfl

theorem run_zero (T : TyOk P t ti) {z : List AVal} (hz : ti.zero = some z) (w : World) : ∃ zv, (zeroValue t).run P w = .ok zv w ∧ mapX cS zv.cells.toList = some z ∧ z.length = ti.sz ∧
    (aggD ti.desc = true → ∃ cs, zv = .agg cs) ∧ (aggD ti.desc = false → ∀ cs, zv ≠ .agg cs) := by
  obtain ⟨i, h1, _, _, _, h2⟩ := T.info
  obtain ⟨zv, h3, h4, h5, h6⟩ := h2 z hz
  refine ⟨zv, ?_, h4, h5, h6⟩
  unfold zeroValue
  rw [run_bind (run_typeInfo h1 w)]
  simp [h3]
end

/-! ### What is to be shown of an operation -/

def Evs (ι : Inj) (e : Env) (ρ : Operand → Value) (l : List Operand) : Prop := ∀ x ∈ l, ∀ u, (evF x).run e = some u → ren ι u = some (ρ x)

theorem evs_of {ι : Inj} {e : Env} {a : Act} {l : List Operand} (hg : Glob ι) (hs : SlotsRel ι e a (tmpsOf l)) : Evs ι e a.eval l :=
  fun x hx u hu => ev_ren hg hs (fun t ht => mem_tmpsOf.2 (ht ▸ hx)) hu

/-- it neither looks at memory nor changes it -/
def Pure1 (P : Program) (o : Oper) (e : Env) (v : AVal) : Prop :=
  ∀ ι w ρ, Evs ι e ρ o.op.operands.toList → ∃ vc, ren ι v = some vc ∧ (execOp ρ o).run P w = .ok (.value vc) w

/-- it does not change memory -/
def Look1 (P : Program) (o : Oper) (e : Env) (h : H) (v : AVal) : Prop :=
  ∀ ι w ρ, Rel ι h w → Evs ι e ρ o.op.operands.toList → ∃ vc, ren ι v = some vc ∧ (execOp ρ o).run P w = .ok (.value vc) w

def Heavy1 (P : Program) (o : Oper) (e : Env) (h : H) (v : AVal) (h' : H) : Prop :=
  ∀ ι w ρ, Rel ι h w → Evs ι e ρ o.op.operands.toList → ∃ ι' w' vc, Went ι h w ι' h' w' ∧ ren ι' v = some vc ∧
    ((execOp ρ o).run P w = .ok (.value vc) w' ∨ ((execOp ρ o).run P w = .ok .skip w' ∧ vc = undef))

def VSim (P : Program) (o : Oper) (e : Env) (h : H) (v : AVal) (h' : H) : Prop :=
  ∀ ι w a, Rel ι h w → Glob ι → SlotsRel ι e a (tmpsOf o.op.operands.toList) → ∀ T : At, T.ok o a → ∃ ι' w' vc, Went ι h w ι' h' w' ∧ ren ι' v = some vc ∧ Goes P o a w vc w' T

def PSim (P : Program) (o : Oper) (e : Env) (h : H) (c : List (AVal × Bool)) (h' : H) : Prop :=
  ∀ ι w a, Rel ι h w → Glob ι → SlotsRel ι e a (tmpsOf o.op.operands.toList) → ∀ T : At, T.ok o a → ∃ ι' w' ch, Went ι h w ι' h' w' ∧ ChainRel ι' c ch ∧ Pans P a w ch w' T

theorem Pure1.look {P : Program} {o : Oper} {e : Env} {v : AVal} (s : Pure1 P o e v) (h : H) : Look1 P o e h v := fun ι w ρ _ he => s ι w ρ he

theorem Look1.heavy {P : Program} {o : Oper} {e : Env} {h : H} {v : AVal} (s : Look1 P o e h v) : Heavy1 P o e h v h := fun ι w ρ r he =>
  let ⟨vc, h1, h2⟩ := s ι w ρ r he
  ⟨ι, w, vc, Went.refl r, h1, .inl h2⟩

theorem Heavy1.vsim {P : Program} {o : Oper} {e : Env} {h h' : H} {v : AVal} (hd : ∀ c, o.op ≠ .defer c) (s : Heavy1 P o e h v h') : VSim P o e h v h' := fun ι w a r hg hs T hT => by
  obtain ⟨ι', w', vc, h1, h2, h3⟩ := s ι w a.eval r (evs_of hg hs)
  refine ⟨ι', w', vc, h1, h2, ?_⟩
  rcases h3 with h3 | ⟨h3, rfl⟩
  · exact goes_value hT hd h3
  · exact goes_skip hT hd h3

end Go.Sim
end
section
/- Operations that do not change memory. -/
namespace Go.Sim

@[reducible] def PV (P : Program) (o : Oper) (e : Env) (h : H) : AVal → H → Prop := fun v h' => h' = h ∧ Pure1 P o e v
@[reducible] def LV (P : Program) (o : Oper) (e : Env) (h : H) : AVal → H → Prop := fun v h' => h' = h ∧ Look1 P o e h v
@[reducible] def NoP : List (AVal × Bool) → H → Prop := fun _ _ => False

section
variable {P : Program} {C : Ctx} {o : Oper} {x : FX} {e : Env} {h : H} {g : G}

theorem opMove_s {a : Operand} (ho : o.op = .move a ∨ o.op = .assign a) : Step1 o.dst x e (PV P o e h) NoP (fun p k => (opMove a o.dst).run g x e h p k) :=
  Step1.ox fun v hv => Step1.put ⟨rfl, fun ι w ρ he => ⟨_, he a (by rcases ho with ho | ho <;> simp [ho, Op.operands]) v hv, by rcases ho with ho | ho <;> simp [execOp, ho]⟩⟩

theorem opPick_s {c a b : Operand} (ho : o.op = .pick c a b) : Step1 o.dst x e (PV P o e h) NoP (fun p k => (opPick c a b o.dst).run g x e h p k) :=
  Step1.ox fun u hu => Step1.onBool fun t ht => Step1.ox fun v hv => Step1.put ⟨rfl, fun ι w ρ he => by
    subst ht
    have h1 := he c (by simp [ho, Op.operands]) _ hu
    simp [ren] at h1
    cases t with
    | true => exact ⟨_, he a (by simp [ho, Op.operands]) v hv, by simp [execOp, ho, ← h1, asBool]⟩
    | false => exact ⟨_, he b (by simp [ho, Op.operands]) v hv, by simp [execOp, ho, ← h1, asBool]⟩⟩

theorem ren_ptr {ι : Inj} {b off : Nat} {v : Value} (h : ren ι (.ptr (some (b, off))) = some v) : ∃ i, ι b = some i ∧ v = .pointer (some ⟨i.B, i.base + off, none⟩) := by
  simp only [ren] at h
  cases hb : ι b with
  | none => simp [hb] at h
  | some i => simp [hb] at h; exact ⟨i, rfl, h.symm⟩

theorem amb_odd : odd = amb + 1 := rfl
theorem adr_near {i : BI} {o l c : Nat} (hn : o ≠ odd) : adr i o l c = ⟨i.B, i.base + adrE i o l c, none⟩ := if_neg fun h => hn h.1
theorem adr_far {i : BI} {o l c : Nat} (hn : ¬ (amb ≤ o ∧ l = 0 ∧ c = 0)) : adr i o l c = ⟨i.B, i.base + o, none⟩ := by
  have h1 : ¬ (o = odd ∧ l = 0 ∧ c = 0) := fun h => hn ⟨by rw [h.1, amb_odd]; omega, h.2⟩
  have h2 : ¬ (o = amb ∧ l = 0 ∧ c = 0) := fun h => hn ⟨by rw [h.1]; omega, h.2⟩
  unfold adr adrE
  rw [if_neg h1, if_neg h2]
theorem capE_far {i : BI} {o l c : Nat} (hn : ¬ (amb ≤ o ∧ l = 0 ∧ c = 0)) : capE i o l c = capOf i o c := if_neg fun h => hn ⟨by rw [h.1]; omega, h.2⟩

theorem ren_slcE {ι : Inj} {b off l c : Nat} {v : Value} (h : ren ι (.slc (some (b, off)) l c) = some v) : ∃ i, ι b = some i ∧ v = .slice (some (adr i off l c)) l (capE i off l c) := by
  simp only [ren] at h
  cases hb : ι b with
  | none => simp [hb] at h
  | some i => simp [hb] at h; exact ⟨i, rfl, h.symm⟩

theorem ren_slc {ι : Inj} {b off l c : Nat} {v : Value} (h : ren ι (.slc (some (b, off)) l c) = some v) (hn : ¬ (amb ≤ off ∧ l = 0 ∧ c = 0)) : ∃ i, ι b = some i ∧ v = .slice (some ⟨i.B, i.base + off, none⟩) l (capOf i off c) := by
  obtain ⟨i, h1, h2⟩ := ren_slcE h
  refine ⟨i, h1, ?_⟩
  rw [adr_far hn, capE_far hn] at h2
  exact h2

theorem capOf_le {i : BI} {off cap : Nat} : cap ≤ capOf i off cap := by unfold capOf; split <;> omega
theorem capE_le {i : BI} {off l cap : Nat} : cap ≤ capE i off l cap := by
  unfold capE
  split
  · omega
  · exact capOf_le

theorem ren_map' {ι : Inj} {r : Nat} {v : Value} (h : ren ι (.map (some r)) = some v) : ∃ i, ι r = some i ∧ v = .map (some i.B) := by
  simp only [ren] at h
  cases hb : ι r with
  | none => simp [hb] at h
  | some i => simp [hb] at h; exact ⟨i, rfl, h.symm⟩

theorem ren_agg {ι : Inj} {cs : List AVal} {v : Value} (h : ren ι (.agg cs) = some v) : ∃ vs, renL ι cs = some vs ∧ v = .agg vs.toArray := by
  simp only [ren] at h
  cases hb : renL ι cs with
  | none => simp [hb] at h
  | some i => simp [hb] at h; exact ⟨i, rfl, h.symm⟩

theorem ren_tup {ι : Inj} {cs : List AVal} {v : Value} (h : ren ι (.tup cs) = some v) : ∃ vs, renL ι cs = some vs ∧ v = .tuple vs.toArray := by
  simp only [ren] at h
  cases hb : renL ι cs with
  | none => simp [hb] at h
  | some i => simp [hb] at h; exact ⟨i, rfl, h.symm⟩

theorem ren_func {ι : Inj} {f : Nat} {cs : List AVal} {v : Value} (h : ren ι (.func f cs) = some v) : ∃ vs, renL ι cs = some vs ∧ v = .func (.func f) #[] vs.toArray := by
  simp only [ren] at h
  cases hb : renL ι cs with
  | none => simp [hb] at h
  | some i => simp [hb] at h; exact ⟨i, rfl, h.symm⟩

theorem ren_iface {ι : Inj} {t : Nat} {u : AVal} {v : Value} (h : ren ι (.iface t u) = some v) : ∃ uc, ren ι u = some uc ∧ v = .iface t uc := by
  simp only [ren] at h
  cases hb : ren ι u with
  | none => simp [hb] at h
  | some i => simp [hb] at h; exact ⟨i, rfl, h.symm⟩

theorem ren_agg_of {ι : Inj} {cs : List AVal} {vs : List Value} (h : renL ι cs = some vs) : ren ι (.agg cs) = some (.agg vs.toArray) := by simp [ren, h]
theorem ren_tup_of {ι : Inj} {cs : List AVal} {vs : List Value} (h : renL ι cs = some vs) : ren ι (.tup cs) = some (.tuple vs.toArray) := by simp [ren, h]
theorem ren_ptr_of {ι : Inj} {b off : Nat} {i : BI} (h : ι b = some i) : ren ι (.ptr (some (b, off))) = some (.pointer (some ⟨i.B, i.base + off, none⟩)) := by simp [ren, h]
theorem ren_slc_ofE {ι : Inj} {b off l c : Nat} {i : BI} (h : ι b = some i) : ren ι (.slc (some (b, off)) l c) = some (.slice (some (adr i off l c)) l (capE i off l c)) := by simp [ren, h]
theorem ren_slc_of {ι : Inj} {b off l c : Nat} {i : BI} (h : ι b = some i) (hn : ¬ (amb ≤ off ∧ l = 0 ∧ c = 0)) : ren ι (.slc (some (b, off)) l c) = some (.slice (some ⟨i.B, i.base + off, none⟩) l (capOf i off c)) := by
  rw [ren_slc_ofE h, adr_far hn, capE_far hn]
theorem amb0 {l c : Nat} : ¬ (amb ≤ 0 ∧ l = 0 ∧ c = 0) := fun h => absurd h.1 (by decide)

theorem opNilck_s {a : Operand} (ho : o.op = .nilCheck a) : Step1 o.dst x e (PV P o e h) NoP (fun p k => (opNilck a o.dst).run g x e h p k) :=
  Step1.ox fun u hu => Step1.onPtr fun b off hb => Step1.put ⟨rfl, fun ι w ρ he => by
    subst hb
    have h1 := he a (by simp [ho, Op.operands]) _ hu
    obtain ⟨i, h2, h3⟩ := ren_ptr h1
    exact ⟨_, h1, by simp [execOp, ho, h3]⟩⟩

theorem opIface_s (K : COk C P) {t : TypeId} {a : Operand} (ho : o.op = .makeInterface t a) : Step1 o.dst x e (PV P o e h) NoP (fun p k => (opIface C t a o.dst).run g x e h p k) :=
  Step1.so fun ti ht => Step1.selF (fun _ => Step1.bad') fun hd => Step1.ox fun u hu => Step1.put ⟨rfl, fun ι w ρ he => by
    have h1 := he a (by simp [ho, Op.operands]) _ hu
    refine ⟨.iface t (ρ a), by simp [ren, h1], ?_⟩
    simp only [execOp, ho, Instr.makeInterface]
    simp only [Sem.run_bind, run_underlying (K.ty _ _ ht), Result.andThen_ok]
    cases hdd : ti.desc <;> simp [hdd, ifaceD] at hd ⊢⟩

theorem fnOf_some {fn : Fn} {fs : List Operand} {f : FuncId} (h : fnOf fn fs = some f) : fn = .func f ∧ fs = [] := by
  unfold fnOf at h
  split at h <;> simp_all

theorem evs_renL {ι : Inj} {e : Env} {ρ : Operand → Value} : ∀ {l : List Operand} {vs : List AVal}, (∀ x ∈ l, ∀ u, (evF x).run e = some u → ren ι u = some (ρ x)) → (evsF l).run e = some vs → renL ι vs = some (l.map ρ)
  | [], vs, _, h => by
    have : some [] = some vs := h
    cases this; simp [renL]
  | x :: l, vs, he, h => by
    have h' : ob ((evF x).run e) (fun v => ob ((evsF l).run e) (fun vs => some (v :: vs))) = some vs := h
    rw [ob_eq] at h'
    obtain ⟨u, h1, h'⟩ := h'
    rw [ob_eq] at h'
    obtain ⟨us, h2, h'⟩ := h'
    cases h'
    exact renL_cons.2 ⟨_, _, he x (by simp) u h1, evs_renL (fun y hy => he y (by simp [hy])) h2, rfl⟩

theorem opFunc_s {fn : Fn} {fs cs : Array Operand} (ho : o.op = .makeFunc fn fs cs) : Step1 o.dst x e (PV P o e h) NoP (fun p k => (opFunc fn fs cs o.dst).run g x e h p k) :=
  Step1.so fun f hf => Step1.ox fun vs hvs => Step1.put ⟨rfl, fun ι w ρ he => by
    obtain ⟨rfl, h0⟩ := fnOf_some hf
    have h1 := evs_renL (ι := ι) (ρ := ρ) (fun y hy => he y (by simp [ho, Op.operands]; exact .inr (by simpa using hy))) hvs
    refine ⟨_, by simp [ren, h1]; rfl, ?_⟩
    have h0' : fs = #[] := by simpa using h0
    subst h0'
    simp [execOp, ho, Instr.makeFunc, ← Array.toList_map]⟩

theorem opExtract_s {a : Operand} {i : Nat} (ho : o.op = .extract a i) : Step1 o.dst x e (PV P o e h) NoP (fun p k => (opExtract a i o.dst).run g x e h p k) :=
  Step1.ox fun u hu => Step1.onTup fun vs hvs => Step1.ox fun v hv => Step1.put ⟨rfl, fun ι w ρ he => by
    subst hvs
    have h1 := he a (by simp [ho, Op.operands]) _ hu
    obtain ⟨cs, h2, h3⟩ := ren_tup h1
    rw [getX_eq] at hv
    obtain ⟨vc, h4, h5⟩ := renL_get h2 i v hv
    exact ⟨vc, h4, by simp [execOp, ho, h3, Instr.extract, h5]⟩⟩

/-! ### Places in aggregates and in memory -/

theorem renL_exists {ι : Inj} : ∀ {l : List AVal} {Q : Nat → Value → Prop}, (∀ k v, l[k]? = some v → ∃ vc, ren ι v = some vc ∧ Q k vc) →
    ∃ lc, renL ι l = some lc ∧ lc.length = l.length ∧ ∀ k u, lc[k]? = some u → Q k u
  | [], Q, _ => ⟨[], by simp [renL], rfl, fun k u hk => by simp at hk⟩
  | v :: l, Q, hq => by
    obtain ⟨vc, h1, h2⟩ := hq 0 v (by simp)
    obtain ⟨lc, h3, h4, h5⟩ := renL_exists (l := l) (Q := fun k => Q (k + 1)) (fun k u hk => hq (k + 1) u (by simpa using hk))
    refine ⟨vc :: lc, renL_cons.2 ⟨_, _, h1, h3, rfl⟩, by simp [h4], fun k u hk => ?_⟩
    cases k with
    | zero => simp at hk; subst hk; exact h2
    | succ k => simp at hk; exact h5 k u hk

theorem row_eq {cs lc : List Value} {m n : Nat} (hl : lc.length = n) (h : ∀ k u, lc[k]? = some u → cs[m + k]? = some u) : (cs.drop m).take n = lc := by
  apply List.ext_getElem?
  intro k
  rw [List.getElem?_take]
  by_cases hk : k < n
  · rw [if_pos hk, List.getElem?_drop]
    have := h k lc[k] (by simp [hl ▸ hk])
    rw [this, List.getElem?_eq_getElem (by omega)]
  · rw [if_neg hk, List.getElem?_eq_none (by omega)]

theorem loadC_true {ι : Inj} {vs : List AVal} {cs : Array Value} {base off n : Nat} {v : AVal} (hr : ∀ k u, vs[k]? = some u → ∃ uc, ren ι u = some uc ∧ cs[base + k]? = some uc)
    (hl : loadC (some vs) true n off = some v) : ∃ l lc, v = .agg l ∧ renL ι l = some lc ∧ lc.length = n ∧ ∀ k u, lc[k]? = some u → cs[base + off + k]? = some u := by
  simp only [loadC, ob_some, sel_true, ob_eq] at hl
  obtain ⟨l0, h0, l, h1, h2⟩ := hl
  cases h0
  rw [takeX_eq, dropX_eq] at h1
  split at h1
  · rename_i hn
    cases h1
    obtain ⟨lc, h3, h4, h5⟩ := renL_exists (ι := ι) (l := (vs.drop off).take n) (Q := fun k u => cs[base + off + k]? = some u) (fun k u hk => by
      rw [List.getElem?_take] at hk
      split at hk
      · rw [List.getElem?_drop] at hk
        obtain ⟨uc, q1, q2⟩ := hr _ _ hk
        exact ⟨uc, q1, by rw [Nat.add_assoc]; exact q2⟩
      · cases hk)
    cases h2
    exact ⟨_, lc, rfl, h3, by rw [h4, List.length_take]; omega, h5⟩
  · cases h1

theorem loadC_false {ι : Inj} {vs : List AVal} {cs : Array Value} {base off n : Nat} {v : AVal} (hr : ∀ k u, vs[k]? = some u → ∃ uc, ren ι u = some uc ∧ cs[base + k]? = some uc)
    (hl : loadC (some vs) false n off = some v) : ∃ vc, ren ι v = some vc ∧ cs[base + off]? = some vc := by
  simp only [loadC, ob_some, sel_false, getX_eq] at hl
  exact hr _ _ hl

theorem renL_arr {ι : Inj} {vs : List AVal} {cs : List Value} (h : renL ι vs = some cs) : ∀ k u, vs[k]? = some u → ∃ uc, ren ι u = some uc ∧ cs.toArray[0 + k]? = some uc := fun k u hk => by
  obtain ⟨uc, h1, h2⟩ := renL_get h k u hk
  exact ⟨uc, h1, by simpa using h2⟩

theorem run_part {t : TypeId} {ti : TI} (T : TyOk P t ti) {ι : Inj} {vs : List AVal} {cs : List Value} {off : Nat} {v : AVal} (hr : renL ι vs = some cs) (hl : loadC (some vs) (aggD ti.desc) ti.sz off = some v) (w : World) :
    ∃ vc, ren ι v = some vc ∧ (part t cs.toArray off).run P w = .ok vc w := by
  unfold part
  rw [run_bind (run_isAgg T w)]
  cases hd : aggD ti.desc with
  | true =>
    rw [hd] at hl
    obtain ⟨l, lc, rfl, h1, h2, h3⟩ := loadC_true (renL_arr hr) hl
    refine ⟨_, ren_agg_of h1, ?_⟩
    simp only [if_true]
    rw [run_bind (run_sizeOf T w)]
    simp only [Sem.run_pure]
    congr 2
    have := row_eq (cs := cs) (m := off) h2 (fun k u hk => by simpa using h3 k u hk)
    rw [← this]
    apply Array.ext'
    simp
  | false =>
    rw [hd] at hl
    obtain ⟨vc, h1, h2⟩ := loadC_false (renL_arr hr) hl
    refine ⟨vc, h1, ?_⟩
    simp at h2
    simp [h2]

theorem fieldOf_some {C : Ctx} {t : TypeId} {f : Nat} {p : Nat × Nat × Bool} (h : fieldOf C t f = some p) :
    ∃ ti fs fd tf, C.tt.get t = some ti ∧ ti.desc = .struct fs ∧ fs[f]? = some fd ∧ C.tt.get fd.type = some tf ∧ p = (fd.offset, tf.sz, aggD tf.desc) := by
  unfold fieldOf at h
  obtain ⟨ti, h1, h⟩ := ob_eq.1 h
  obtain ⟨fs, h2, h⟩ := ob_eq.1 h
  obtain ⟨fd, h3, h⟩ := ob_eq.1 h
  obtain ⟨tf, h4, h⟩ := ob_eq.1 h
  cases h
  refine ⟨ti, fs, fd, tf, h1, ?_, by simpa [getX_eq] using h3, h4, rfl⟩
  unfold structD at h2
  split at h2 <;> simp_all

theorem opField_s (K : COk C P) {t : TypeId} {a : Operand} {f : Nat} (ho : o.op = .field t a f) : Step1 o.dst x e (PV P o e h) NoP (fun p k => (opField C t a f o.dst).run g x e h p k) :=
  Step1.so fun p hp => Step1.ox fun u hu => Step1.onAgg fun cs hcs => Step1.ox fun v hv => Step1.put ⟨rfl, fun ι w ρ he => by
    subst hcs
    have h1 := he a (by simp [ho, Op.operands]) _ hu
    obtain ⟨ti, fs, fd, tf, q1, q2, q3, q4, rfl⟩ := fieldOf_some hp
    obtain ⟨vs, h2, h3⟩ := ren_agg h1
    obtain ⟨vc, h4, h5⟩ := run_part (K.ty _ _ q4) h2 hv w
    refine ⟨vc, h4, ?_⟩
    simp only [execOp, ho, Instr.field]
    simp [run_underlying (K.ty _ _ q1), q2, q3, h3, asAgg, h5]⟩

/-! ### Loads and addresses -/

theorem cellsOf_some {o : Option AObj} {vs : List AVal} (h : cellsOf o = some vs) : ∃ e a b l, o = some (.cells vs e a b l) := by
  unfold cellsOf at h
  split at h
  · cases h; exact ⟨_, _, _, _, rfl⟩
  · cases h

/-- what is known of a block of cells -/
theorem Rel.cells {ι : Inj} {w : World} (r : Rel ι h w) {b : Nat} {i : BI} {vs : List AVal} (hb : ι b = some i) (hc : cellsOf (h.get b) = some vs) :
    ∃ esz opn frz pars cs T fz, h.get b = some (.cells vs esz opn frz pars) ∧ w.heap[i.B]? = some (.cells cs T fz) ∧ CellsRel ι i vs esz opn frz cs fz := by
  obtain ⟨esz, opn, frz, pars, hg⟩ := cellsOf_some hc
  obtain ⟨_, q, hq, ho⟩ := r.dom b i hb
  rw [hg] at hq; cases hq
  obtain ⟨cs, T, fz, h1, h2⟩ := ho
  exact ⟨esz, opn, frz, pars, cs, T, fz, hg, h1, h2⟩

theorem loadP_some {h : H} {agg : Bool} {n : Nat} {p v : AVal} (hl : loadP h agg n p = some v) : ∃ b off vs, p = .ptr (some (b, off)) ∧ cellsOf (h.get b) = some vs ∧ loadC (some vs) agg n off = some v := by
  unfold loadP at hl
  split at hl
  · rename_i b off
    unfold loadC at hl
    obtain ⟨vs, h1, h2⟩ := ob_eq.1 hl
    exact ⟨b, off, vs, rfl, h1, by simpa [loadC] using h2⟩
  · cases hl

theorem run_loadVar {t : TypeId} {ti : TI} (T : TyOk P t ti) {ι : Inj} {w : World} {p v : AVal} {pc : Value} (r : Rel ι h w) (hp : ren ι p = some pc) (hl : loadT h ti p = some v) :
    ∃ a vc, pc = .pointer (some a) ∧ ren ι v = some vc ∧ (loadVar t a).run P w = .ok vc w := by
  obtain ⟨b, off, vs, rfl, h1, h2⟩ := loadP_some hl
  obtain ⟨i, hb, rfl⟩ := ren_ptr hp
  obtain ⟨esz, opn, frz, pars, cs, TT, fz, hg, hh, R⟩ := r.cells hb h1
  refine ⟨⟨i.B, i.base + off, none⟩, ?_⟩
  unfold loadVar
  rw [run_bind (run_isAgg T w)]
  cases hd : aggD ti.desc with
  | true =>
    rw [hd] at h2
    obtain ⟨l, lc, rfl, h3, h4, h5⟩ := loadC_true R.vals h2
    refine ⟨_, rfl, ren_agg_of h3, ?_⟩
    simp only [if_true]
    rw [run_bind (run_sizeOf T w), ← h4, run_bind (run_loadCells lc (fun k u hk => cell_of hh (h5 k u hk)))]
    rfl
  | false =>
    rw [hd] at h2
    obtain ⟨vc, h3, h4⟩ := loadC_false R.vals h2
    refine ⟨vc, rfl, h3, ?_⟩
    simp only [Bool.false_eq_true, if_false]
    exact Sim.run_load (cell_of hh h4)

theorem opLoad_s (K : COk C P) {t : TypeId} {a : Operand} (ho : o.op = .load t a) : Step1 o.dst x e (LV P o e h) NoP (fun p k => (opLoad C t a o.dst).run g x e h p k) :=
  Step1.so fun ti ht => Step1.ox fun u hu => Step1.ox fun v hv => Step1.put ⟨rfl, fun ι w ρ r he => by
    have h1 := he a (by simp [ho, Op.operands]) _ hu
    obtain ⟨ad, vc, h2, h3, h4⟩ := run_loadVar (K.ty _ _ ht) r h1 hv
    exact ⟨vc, h3, by simp [execOp, ho, Instr.loadAt, Instr.sureAddr, h2, h4]⟩⟩

theorem opFaddr_s (K : COk C P) {t : TypeId} {a : Operand} {f : Nat} (ho : o.op = .fieldAddr t a f) : Step1 o.dst x e (PV P o e h) NoP (fun p k => (opFaddr C t a f o.dst).run g x e h p k) :=
  Step1.so fun p hp => Step1.selF (fun _ => Step1.bad') fun hz => Step1.ox fun u hu => Step1.onPtr fun b off hb => Step1.put ⟨rfl, fun ι w ρ he => by
    subst hb
    have h1 := he a (by simp [ho, Op.operands]) _ hu
    obtain ⟨ti, fs, fd, tf, q1, q2, q3, q4, rfl⟩ := fieldOf_some hp
    obtain ⟨i, hb, h2⟩ := ren_ptr h1
    have hz' : tf.sz ≠ 0 := by simpa using hz
    refine ⟨_, ren_ptr_of hb, ?_⟩
    simp only [execOp, ho, Instr.fieldAt, fieldPlace]
    simp [run_underlying (K.ty _ _ q1), q2, q3, h2, Instr.sureAddr, run_sizeOf (K.ty _ _ q4), hz', add_none, Nat.add_assoc]⟩

theorem iaX_s {V : AVal → H → Prop} {Q : List (AVal × Bool) → H → Prop} {esz b off l : Nat} {i : Int} (hV : ∀ n : Nat, i = Int.ofNat n → n < l → V (.ptr (some (b, off + n * esz))) h) :
    Step1 o.dst x e V Q (fun p k => iaX o.dst x e h k esz b off l i) := by
  cases i with
  | ofNat n => exact Step1.when (t := fun p k => (putF o.dst).run (.ptr (some (b, Nat.add off (Nat.mul n esz)))) x e h k) fun hn => Step1.put (hV n rfl (by simpa using hn))
  | negSucc n => exact Step1.bad'

theorem opIaddr_s (K : COk C P) {t : TypeId} {a i : Operand} (ho : o.op = .indexAddr t a i) : Step1 o.dst x e (PV P o e h) NoP (fun p k => (opIaddr C t a i o.dst).run g x e h p k) :=
  Step1.so fun ti ht => by
    unfold iaF
    split
    · rename_i el hd
      refine Step1.so fun te hte => Step1.ox fun u hu => Step1.onSlc fun q l c hq => Step1.ox fun q' hq' => Step1.ox fun iv hiv => Step1.onInt fun kd n hn => iaX_s fun m hm hl => ⟨rfl, fun ι w ρ he => ?_⟩
      subst hq hq' hn
      have h1 := he a (by simp [ho, Op.operands]) _ hu
      have h2 := he i (by simp [ho, Op.operands]) _ hiv
      obtain ⟨b, off⟩ := q'
      obtain ⟨j, hb, h3⟩ := ren_slc h1 (fun hh => by omega)
      simp [ren] at h2
      refine ⟨_, ren_ptr_of hb, ?_⟩
      simp only [execOp, ho, Instr.indexAt]
      subst hm
      simp [run_underlying (K.ty _ _ ht), hd, ← h2, h3, asIntOf, run_sizeOf (K.ty _ _ hte), add_none, Nat.add_assoc, hl]
    · rename_i n el hd
      refine Step1.so fun te hte => Step1.ox fun u hu => Step1.onPtr fun b off hb => Step1.ox fun iv hiv => Step1.onInt fun kd z hz => iaX_s fun m hm hl => ⟨rfl, fun ι w ρ he => ?_⟩
      subst hb hz
      have h1 := he a (by simp [ho, Op.operands]) _ hu
      have h2 := he i (by simp [ho, Op.operands]) _ hiv
      obtain ⟨j, hb, h3⟩ := ren_ptr h1
      simp [ren] at h2
      refine ⟨_, ren_ptr_of hb, ?_⟩
      simp only [execOp, ho, Instr.indexAt]
      subst hm
      simp [run_underlying (K.ty _ _ ht), hd, ← h2, h3, asIntOf, Instr.sureAddr, run_sizeOf (K.ty _ _ hte), add_none, Nat.add_assoc, hl]
    · exact Step1.bad'

theorem opIndex_s (K : COk C P) {t : TypeId} {a i : Operand} (ho : o.op = .index t a i) : Step1 o.dst x e (PV P o e h) NoP (fun p k => (opIndex C t a i o.dst).run g x e h p k) :=
  Step1.so fun ti ht => Step1.selF (fun hd => Step1.ox fun u hu => Step1.onStr fun s hs => Step1.ox fun iv hiv => Step1.onInt fun kd z hz => Step1.ox fun b hb => Step1.put ⟨rfl, fun ι w ρ he => by
    subst hs hz
    have h1 := he a (by simp [ho, Op.operands]) _ hu
    have h2 := he i (by simp [ho, Op.operands]) _ hiv
    simp [ren] at h1 h2
    have hd' : ti.desc = .string := by unfold isStrD at hd; split at hd <;> simp_all
    refine ⟨.int .u8 b.toNat, by simp [byteV, ren], ?_⟩
    simp only [execOp, ho, Instr.index]
    cases z with
    | negSucc n => simp [strAt] at hb
    | ofNat n =>
      simp [strAt, getX_eq] at hb
      have hn : n < s.length := by
        rcases Nat.lt_or_ge n s.length with q | q
        · exact q
        · rw [List.getElem?_eq_none q] at hb; cases hb
      have hb' : s[n] = b := by rw [List.getElem?_eq_getElem hn] at hb; simpa using hb
      have hix : (ByteArray.mk s.toArray)[n]? = some b := by
        rw [getElem?_pos _ _ (by simpa [ByteArray.size] using hn)]
        simp [ByteArray.getElem_eq_getElem_data, hb']
      simp [run_underlying (K.ty _ _ ht), hd', ← h2, ← h1, asIntOf, hix]⟩) fun _ => Step1.bad'

end
end Go.Sim
end
