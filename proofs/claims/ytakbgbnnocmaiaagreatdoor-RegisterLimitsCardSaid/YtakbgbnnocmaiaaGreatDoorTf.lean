/- register.bare. -/
import Derived.Test.YtakbgbnnocmaiaaGreatDoorTe
set_option linter.all false
section
namespace Go.Proofs
open Go.Sim
variable {d : Nat}

def zE : EV := { written := 0, kind := 0, chID := 0, chYear := 0, chLo := 0, chHi := 0, chWear := 0, prID := 0, prChain := 0, prYear := 0, prLo := 0, prHi := 0, reID := 0, reChain := 0, reYear := 0, reLo := 0, reHi := 0, stone := 0, haStep := 0, haPlace := 0, haSink := 0, siID := 0, siYear := 0, siXLo := 0, siXHi := 0, siYLo := 0, siYHi := 0, siLetters := [], siHLo := 0, siHHi := 0, noID := 0, noKind := 0, noFrom := 0, noTo := 0, ringA := none, ringN := 0, ringC := 0, changes := 0, wiID := 0, wiRight := 0, wiWrong := 0, by_ := 0, waID := 0, waYear := 0, legsA := none, legsN := 0, legsC := 0, offsetsA := none, offsetsN := 0, offsetsC := 0, fiNumber := 0, fiX := 0, fiY := 0, fiPence := 0, paField := 0, paYear := 0, paVestry := 0, paPence := 0, ruFrom := 0, ruTo := 0, ruSource := [], clField := 0, clYear := 0, clUntil := 0, taVestry := 0, taLine := 0, vestry := 0 }

/-- an entry with only the fields of its kind's content -/
noncomputable def bareT (t : Nat) (e : EV) : EV :=
  sel (Nat.beq t 161) { zE with written := e.written, kind := e.kind, chID := e.chID, chYear := e.chYear, chLo := e.chLo, chHi := e.chHi, chWear := e.chWear } (
  sel (Nat.beq t 163) { zE with written := e.written, kind := e.kind, prID := e.prID, prChain := e.prChain, prYear := e.prYear, prLo := e.prLo, prHi := e.prHi } (
  sel (Nat.beq t 165) { zE with written := e.written, kind := e.kind, reID := e.reID, reChain := e.reChain, reYear := e.reYear, reLo := e.reLo, reHi := e.reHi } (
  sel (Nat.beq t 167) { zE with written := e.written, kind := e.kind, stone := e.stone, haStep := e.haStep, haPlace := e.haPlace, haSink := e.haSink, siID := e.siID, siYear := e.siYear, siXLo := e.siXLo, siXHi := e.siXHi, siYLo := e.siYLo, siYHi := e.siYHi, siLetters := e.siLetters, siHLo := e.siHLo, siHHi := e.siHHi } (
  sel (Nat.beq t 168) { zE with written := e.written, kind := e.kind, stone := e.stone, siID := e.siID, siYear := e.siYear, siXLo := e.siXLo, siXHi := e.siXHi, siYLo := e.siYLo, siYHi := e.siYHi, siLetters := e.siLetters, siHLo := e.siHLo, siHHi := e.siHHi } (
  sel (Nat.beq t 169) { zE with written := e.written, kind := e.kind, stone := e.stone, noID := e.noID, noKind := e.noKind, noFrom := e.noFrom, noTo := e.noTo } (
  sel (Nat.beq t 170) { zE with written := e.written, kind := e.kind, ringA := e.ringA, ringN := e.ringN, ringC := e.ringC, changes := e.changes } (
  sel (Nat.beq t 172) { zE with written := e.written, kind := e.kind, wiID := e.wiID, wiRight := e.wiRight, wiWrong := e.wiWrong } (
  sel (Nat.beq t 173) { zE with written := e.written, kind := e.kind, by_ := e.by_, waID := e.waID, waYear := e.waYear, legsA := e.legsA, legsN := e.legsN, legsC := e.legsC, offsetsA := e.offsetsA, offsetsN := e.offsetsN, offsetsC := e.offsetsC } (
  sel (Nat.beq t 175) { zE with written := e.written, kind := e.kind, fiNumber := e.fiNumber, fiX := e.fiX, fiY := e.fiY, fiPence := e.fiPence } (
  sel (Nat.beq t 177) { zE with written := e.written, kind := e.kind, paField := e.paField, paYear := e.paYear, paVestry := e.paVestry, paPence := e.paPence } (
  sel (Nat.beq t 179) { zE with written := e.written, kind := e.kind, ruFrom := e.ruFrom, ruTo := e.ruTo, ruSource := e.ruSource } (
  sel (Nat.beq t 181) { zE with written := e.written, kind := e.kind, clField := e.clField, clYear := e.clYear, clUntil := e.clUntil } (
  sel (Nat.beq t 183) { zE with written := e.written, kind := e.kind, taVestry := e.taVestry, taLine := e.taLine } (
  sel (Nat.beq t 184) { zE with written := e.written, kind := e.kind, taVestry := e.taVestry, taLine := e.taLine, vestry := e.vestry } (
  sel (Nat.beq t 185) { zE with written := e.written, kind := e.kind, taVestry := e.taVestry, taLine := e.taLine } (
  zE))))))))))))))))
noncomputable def bareE (e : EV) : EV := bareT (ctk e.kind) e

theorem ctk_mem (k : Int) : ctk k = 161 ∨ ctk k = 163 ∨ ctk k = 165 ∨ ctk k = 167 ∨ ctk k = 168 ∨ ctk k = 169 ∨ ctk k = 170 ∨ ctk k = 172 ∨ ctk k = 173 ∨ ctk k = 175 ∨ ctk k = 177 ∨ ctk k = 179 ∨ ctk k = 181 ∨ ctk k = 183 ∨ ctk k = 184 ∨ ctk k = 185 := by
  unfold ctk
  cases eqI k 1 with
  | true => exact .inl rfl
  | false =>
  cases eqI k 2 with
  | true => exact .inr (.inl rfl)
  | false =>
  cases eqI k 3 with
  | true => exact .inr (.inr (.inl rfl))
  | false =>
  cases eqI k 4 with
  | true => exact .inr (.inr (.inr (.inl rfl)))
  | false =>
  cases eqI k 5 with
  | true => exact .inr (.inr (.inr (.inr (.inl rfl))))
  | false =>
  cases eqI k 6 with
  | true => exact .inr (.inr (.inr (.inr (.inr (.inl rfl)))))
  | false =>
  cases eqI k 7 with
  | true => exact .inr (.inr (.inr (.inr (.inr (.inr (.inl rfl))))))
  | false =>
  cases eqI k 8 with
  | true => exact .inr (.inr (.inr (.inr (.inr (.inr (.inr (.inl rfl)))))))
  | false =>
  cases eqI k 9 with
  | true => exact .inr (.inr (.inr (.inr (.inr (.inr (.inr (.inr (.inl rfl))))))))
  | false =>
  cases eqI k 10 with
  | true => exact .inr (.inr (.inr (.inr (.inr (.inr (.inr (.inr (.inr (.inl rfl)))))))))
  | false =>
  cases eqI k 11 with
  | true => exact .inr (.inr (.inr (.inr (.inr (.inr (.inr (.inr (.inr (.inr (.inl rfl))))))))))
  | false =>
  cases eqI k 12 with
  | true => exact .inr (.inr (.inr (.inr (.inr (.inr (.inr (.inr (.inr (.inr (.inr (.inl rfl)))))))))))
  | false =>
  cases eqI k 13 with
  | true => exact .inr (.inr (.inr (.inr (.inr (.inr (.inr (.inr (.inr (.inr (.inr (.inr (.inl rfl))))))))))))
  | false =>
  cases eqI k 14 with
  | true => exact .inr (.inr (.inr (.inr (.inr (.inr (.inr (.inr (.inr (.inr (.inr (.inr (.inr (.inl rfl)))))))))))))
  | false =>
  cases eqI k 15 with
  | true => exact .inr (.inr (.inr (.inr (.inr (.inr (.inr (.inr (.inr (.inr (.inr (.inr (.inr (.inr (.inl rfl))))))))))))))
  | false =>
  exact .inr (.inr (.inr (.inr (.inr (.inr (.inr (.inr (.inr (.inr (.inr (.inr (.inr (.inr (.inr (rfl)))))))))))))))

/-- three blocks of one's own, each an entry -/
structure T3 (h0 h : H) (b1 : Nat) (c1 : List AVal) (b2 : Nat) (c2 : List AVal) (b3 : Nat) (c3 : List AVal) : Prop where
  g1 : h.get b1 = some (.cells c1 61 false false [])
  g2 : h.get b2 = some (.cells c2 61 false false [])
  g3 : h.get b3 = some (.cells c3 61 false false [])
  n12 : b1 ≠ b2
  n13 : b1 ≠ b3
  n23 : b2 ≠ b3
  l1 : h0.next ≤ b1 ∧ b1 < h.next
  l2 : h0.next ≤ b2 ∧ b2 < h.next
  l3 : h0.next ≤ b3 ∧ b3 < h.next
  k : Kept 4 h0 h
  cap : h.next ≤ 1048576

theorem setO_next (h : H) (b : Nat) (o : AObj) : (h.setO b o).next = h.next := by cases h; rfl
theorem setO_lo (h : H) (b : Nat) (o : AObj) : (h.setO b o).lo = min h.lo b := by cases h; exact minN_eq _ _

theorem T3.st3 {h0 h h' : H} {b1 b2 b3 : Nat} {c1 c2 c3 c' : List AVal} (T : T3 h0 h b1 c1 b2 c2 b3 c3) (hh : h' = (kill h []).setO b3 (.cells c' 61 false false [])) : T3 h0 h' b1 c1 b2 c2 b3 c' := by
  have hh : h' = h.setO b3 (.cells c' 61 false false []) := hh
  subst hh
  have g : ∀ x, x < h.next → (h.setO b3 (.cells c' 61 false false [])).get x = if x = b3 then some (.cells c' 61 false false []) else h.get x := fun x hx => H.setO_get h _ (Nat.lt_of_lt_of_le hx T.cap) (Nat.lt_of_lt_of_le T.l3.2 T.cap)
  refine ⟨by rw [g _ T.l1.2, if_neg T.n13]; exact T.g1, by rw [g _ T.l2.2, if_neg T.n23]; exact T.g2, by rw [g _ T.l3.2, if_pos rfl], T.n12, T.n13, T.n23, by rw [setO_next]; exact T.l1, by rw [setO_next]; exact T.l2, by rw [setO_next]; exact T.l3, ?_, by rw [setO_next]; exact T.cap⟩
  refine ⟨by rw [setO_next]; exact T.k.next, by rw [setO_next]; exact T.k.few, fun b hb => ?_, ?_⟩
  · have := T.l3.1
    rw [g b (Nat.lt_of_lt_of_le hb T.k.next), if_neg (by omega)]; exact T.k.get b hb
  · rw [setO_lo]; have := T.k.lo; have := T.l3.1; omega

theorem T3.st2 {h0 h h' : H} {b1 b2 b3 : Nat} {c1 c2 c3 c' : List AVal} (T : T3 h0 h b1 c1 b2 c2 b3 c3) (hh : h' = (kill h []).setO b2 (.cells c' 61 false false [])) : T3 h0 h' b1 c1 b2 c' b3 c3 := by
  have T' : T3 h0 h b1 c1 b3 c3 b2 c2 := ⟨T.g1, T.g3, T.g2, T.n13, T.n12, T.n23.symm, T.l1, T.l3, T.l2, T.k, T.cap⟩
  have T' := T'.st3 hh
  exact ⟨T'.g1, T'.g3, T'.g2, T'.n13, T'.n12, T'.n23.symm, T'.l1, T'.l3, T'.l2, T'.k, T'.cap⟩

theorem T3.kept {h0 h h' : H} {b1 b2 b3 : Nat} {c1 c2 c3 : List AVal} (T : T3 h0 h b1 c1 b2 c2 b3 c3) (hk : Kept 1 h h') (hf : h'.next ≤ h0.next + 4) (hc : h'.next ≤ 1048576) : T3 h0 h' b1 c1 b2 c2 b3 c3 := by
  refine ⟨(hk.get _ T.l1.2).trans T.g1, (hk.get _ T.l2.2).trans T.g2, (hk.get _ T.l3.2).trans T.g3, T.n12, T.n13, T.n23, ⟨T.l1.1, Nat.lt_of_lt_of_le T.l1.2 hk.next⟩, ⟨T.l2.1, Nat.lt_of_lt_of_le T.l2.2 hk.next⟩, ⟨T.l3.1, Nat.lt_of_lt_of_le T.l3.2 hk.next⟩, ?_, hc⟩
  exact ⟨Nat.le_trans T.k.next hk.next, hf, fun b hb => (hk.get b (Nat.lt_of_lt_of_le hb T.k.next)).trans (T.k.get b hb), by have := T.k.lo; have := hk.lo; have := T.k.next; omega⟩

theorem T3.bg {h0 h : H} {b1 b2 b3 : Nat} {c1 c2 c3 : List AVal} (T : T3 h0 h b1 c1 b2 c2 b3 c3) : T3 h0 (h.withLo big) b1 c1 b2 c2 b3 c3 := by
  refine ⟨by rw [withLo_get]; exact T.g1, by rw [withLo_get]; exact T.g2, by rw [withLo_get]; exact T.g3, T.n12, T.n13, T.n23, by rw [withLo_next]; exact T.l1, by rw [withLo_next]; exact T.l2, by rw [withLo_next]; exact T.l3, ?_, by rw [withLo_next]; exact T.cap⟩
  refine ⟨by rw [withLo_next]; exact T.k.next, by rw [withLo_next]; exact T.k.few, fun b hb => by rw [withLo_get]; exact T.k.get b hb, ?_⟩
  rw [withLo_lo]; have := T.l1; have := T.cap; unfold big; omega

theorem T3.lo {h0 h h' : H} {b1 b2 b3 : Nat} {c1 c2 c3 c1' c2' c3' : List AVal} (T : T3 h0 h b1 c1 b2 c2 b3 c3) (T' : T3 h0 h' b1 c1' b2 c2' b3 c3') : T3 h0 (h'.withLo (minN h.lo h'.lo)) b1 c1' b2 c2' b3 c3' := by
  refine ⟨by rw [withLo_get]; exact T'.g1, by rw [withLo_get]; exact T'.g2, by rw [withLo_get]; exact T'.g3, T'.n12, T'.n13, T'.n23, by rw [withLo_next]; exact T'.l1, by rw [withLo_next]; exact T'.l2, by rw [withLo_next]; exact T'.l3, ?_, by rw [withLo_next]; exact T'.cap⟩
  refine ⟨by rw [withLo_next]; exact T'.k.next, by rw [withLo_next]; exact T'.k.few, fun b hb => by rw [withLo_get]; exact T'.k.get b hb, ?_⟩
  rw [withLo_lo, minN_eq]; have := T.k.lo; have := T'.k.lo; omega

set_option maxHeartbeats 8000000 in
set_option maxRecDepth 100000 in
theorem bare_x (e : EV) (h : H) (hn : h.next + 4 ≤ 1048576) : ∃ h', (GX (d + 2)).call 54 [.agg e.cells] h = .ok (.agg (bareE e).cells) h' ∧ Kept 4 h h' := by
  have : ∃ v h', (GX (d + 2)).call 54 [.agg e.cells] h = .ok v h' ∧ v = .agg (bareE e).cells ∧ Kept 4 h h' := by
    refine call_w Tryz.func54 rfl ?_
    refine ⟨(room_iff h).2 (by omega), ?_⟩
    intro p1 h1 hp1 hh1
    refine ⟨(room_iff h1).2 (by rw [hh1, alloc_next]; omega), ?_⟩
    intro p2 h2 hp2 hh2
    have e1 : h1.next = h.next + 1 := by rw [hh1, alloc_next]
    have e2 : h2.next = h.next + 2 := by rw [hh2, alloc_next, e1]
    have G1 : h2.get p1 = some (.cells e.cells 61 false false []) := by
      rw [hh2, H.alloc_get _ _ (by omega) (by omega), if_neg (by omega), hh1, hp1]; exact alloc_get_new (by omega) _
    refine ⟨_, ldg G1 rfl, _, ldg G1 rfl, ?_⟩
    refine ⟨(room_iff h2).2 (by omega), ?_⟩
    intro p3 h3 hp3 hh3
    have e3 : h3.next = h.next + 3 := by rw [hh3, alloc_next, e2]
    have T : T3 h h3 p1 e.cells p2 zE.cells p3 zE.cells := by
      refine ⟨?_, ?_, ?_, by omega, by omega, by omega, by omega, by omega, by omega, ?_, by omega⟩
      · rw [hh3, H.alloc_get _ _ (by omega) (by omega), if_neg (by omega)]; exact G1
      · rw [hh3, H.alloc_get _ _ (by omega) (by omega), if_neg (by omega), hh2, hp2]; exact alloc_get_new (by omega) _
      · rw [hh3, hp3]; exact alloc_get_new (by omega) _
      · have a1 : Kept 1 h h1 := by rw [hh1]; exact Kept.alloc (by omega) _
        have a2 : Kept 1 h1 h2 := by rw [hh2]; exact Kept.alloc (by omega) _
        have a3 : Kept 1 h2 h3 := by rw [hh3]; exact Kept.alloc (by omega) _
        exact ((a1.trans a2).trans a3).mono (by omega)
    clear hh1 hh2 hh3 G1
    refine ⟨rfl, _, _, _, _, _, T.g3, rfl, rfl, ?_⟩
    intro h4 hh4
    have e4 : h4.next = h.next + 3 := by rw [hh4]; exact (setO_next h3 p3 _).trans e3
    replace T := T.st3 hh4
    clear hh4
    refine ⟨_, ldg T.g1 rfl, ?_⟩
    obtain ⟨u, h5, hc, K5⟩ := contentOf_x (d := d) e h4 (by omega)
    refine ⟨_, h5, hc, ?_⟩
    have e5 : h5.next ≤ h.next + 4 := by have := K5.few; omega
    replace T := T.kept K5 (by omega) (by omega)
    clear hc
    have hb : bareE e = bareT (ctk e.kind) e := rfl
    rw [hb]
    have hm := ctk_mem e.kind
    generalize ctk e.kind = t at hm ⊢
    rcases hm with rfl | rfl | rfl | rfl | rfl | rfl | rfl | rfl | rfl | rfl | rfl | rfl | rfl | rfl | rfl | rfl
    all_goals
      repeat' first
        | refine ⟨_, ldg T.g1 rfl, ?_⟩
        | (refine ⟨rfl, _, _, _, _, _, T.g3, rfl, rfl, ?_⟩; intro hx hhx; replace T := T.st3 hhx; clear hhx)
        | (refine ⟨rfl, _, _, _, _, _, T.bg.g3, rfl, rfl, ?_⟩; intro hx hhx; have T' := T.bg.st3 hhx; clear hhx; refine ⟨.inr ?_, ?_⟩; (repeat' first | exact trivial | refine ⟨⟨rfl, _, ldg T.g1 rfl, ldg T'.g1 rfl, rfl⟩, ?_⟩); intro hy hhy; replace T := (hhy ▸ T.lo T'); clear hhy T')
        | (refine ⟨rfl, _, _, _, _, _, T.g2, rfl, rfl, ?_⟩; intro hx hhx; replace T := T.st2 hhx; clear hhx)
        | refine ⟨_, ldg T.g3 rfl, ?_⟩
        | refine ⟨_, ldg T.g2 rfl, ?_⟩
    all_goals exact ⟨rfl, T.k⟩
  obtain ⟨v, h', h1, rfl, h2⟩ := this
  exact ⟨h', h1, h2⟩
end Go.Proofs
end
