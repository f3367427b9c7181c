/- The specification's 'pure'. -/
import Derived.Test.YtakbgbnnocmaiaaGreatDoorTl
set_option linter.all false
section
namespace Go.Proofs
open Go.Sim Go.SortL
variable {D : Nat}

/-- an entry with only those fields that its kind has -/
noncomputable def pureE (e : EV) : EV :=
  sel (eqI e.kind 1) { zE with written := e.written, kind := e.kind, chID := e.chID, chYear := e.chYear, chLo := e.chLo, chHi := e.chHi, chWear := e.chWear } (
  sel (eqI e.kind 2) { zE with written := e.written, kind := e.kind, prChain := e.prChain, prYear := e.prYear, prLo := e.prLo, prHi := e.prHi } (
  sel (eqI e.kind 3) { zE with written := e.written, kind := e.kind, reChain := e.reChain, reYear := e.reYear, reLo := e.reLo, reHi := e.reHi } (
  sel (eqI e.kind 4) { zE with written := e.written, kind := e.kind, stone := e.stone, haStep := e.haStep, haPlace := e.haPlace, haSink := e.haSink, siYear := e.siYear, siXLo := e.siXLo, siXHi := e.siXHi, siYLo := e.siYLo, siYHi := e.siYHi, siLetters := e.siLetters, siHLo := e.siHLo, siHHi := e.siHHi } (
  sel (eqI e.kind 5) { zE with written := e.written, kind := e.kind, stone := e.stone, siYear := e.siYear, siXLo := e.siXLo, siXHi := e.siXHi, siYLo := e.siYLo, siYHi := e.siYHi, siLetters := e.siLetters, siHLo := e.siHLo, siHHi := e.siHHi } (
  sel (eqI e.kind 6) { zE with written := e.written, kind := e.kind, stone := e.stone, noKind := e.noKind, noFrom := e.noFrom, noTo := e.noTo } (
  sel (eqI e.kind 7) { zE with written := e.written, kind := e.kind, ringA := e.ringA, ringN := e.ringN, ringC := e.ringC, changes := e.changes } (
  sel (eqI e.kind 8) { zE with written := e.written, kind := e.kind, wiID := e.wiID, wiRight := e.wiRight, wiWrong := e.wiWrong } (
  sel (eqI e.kind 9) { zE with written := e.written, kind := e.kind, by_ := e.by_, waYear := e.waYear, legsA := e.legsA, legsN := e.legsN, legsC := e.legsC, offsetsA := e.offsetsA, offsetsN := e.offsetsN, offsetsC := e.offsetsC } (
  sel (eqI e.kind 10) { zE with written := e.written, kind := e.kind, fiNumber := e.fiNumber, fiX := e.fiX, fiY := e.fiY, fiPence := e.fiPence } (
  sel (eqI e.kind 11) { zE with written := e.written, kind := e.kind, paField := e.paField, paYear := e.paYear, paVestry := e.paVestry, paPence := e.paPence } (
  sel (eqI e.kind 12) { zE with written := e.written, kind := e.kind, ruFrom := e.ruFrom, ruTo := e.ruTo, ruSource := e.ruSource } (
  sel (eqI e.kind 13) { zE with written := e.written, kind := e.kind, clField := e.clField, clYear := e.clYear, clUntil := e.clUntil } (
  sel (eqI e.kind 14) { zE with written := e.written, kind := e.kind, taVestry := e.taVestry, taLine := e.taLine } (
  sel (eqI e.kind 15) { zE with written := e.written, kind := e.kind, taVestry := e.taVestry, taLine := e.taLine, vestry := e.vestry } (
  sel (eqI e.kind 16) { zE with written := e.written, kind := e.kind, taLine := e.taLine } (
  { zE with written := e.written, kind := e.kind }))))))))))))))))

set_option maxHeartbeats 8000000 in
set_option maxRecDepth 100000 in
theorem pure_x (hD : 1 ≤ D) (e : EV) (h : H) (hn : h.next + 4 ≤ 1048576) : ∃ h', (GX D).call 81 [.agg e.cells] h = .ok (.agg (pureE e).cells) h' ∧ Kept 4 h h' := by
  obtain ⟨d, rfl, hd⟩ := dsucc hD
  have : ∃ v h', (GX (d + 1)).call 81 [.agg e.cells] h = .ok v h' ∧ v = .agg (pureE e).cells ∧ Kept 4 h h' := by
    refine call_w Tryz.func81 rfl ?_
    refine ⟨(room_iff h).2 (by omega), ?_⟩
    intro p1 h1 hp1 hh1
    refine ⟨(room_iff h1).2 (by rw [hh1, alloc_next]; omega), ?_⟩
    intro p2 h2 hp2 hh2
    have e1 : h1.next = h.next + 1 := by rw [hh1, alloc_next]
    have e2 : h2.next = h.next + 2 := by rw [hh2, alloc_next, e1]
    have G1 : h2.get p1 = some (.cells e.cells 61 false false []) := by
      rw [hh2, H.alloc_get _ _ (by omega) (by omega), if_neg (by omega), hh1, hp1]; exact alloc_get_new (by omega) _
    refine ⟨_, ldg G1 rfl, _, ldg G1 rfl, ?_⟩
    refine ⟨(room_iff h2).2 (by omega), ?_⟩
    intro p3 h3 hp3 hh3
    have e3 : h3.next = h.next + 3 := by rw [hh3, alloc_next, e2]
    have T : T3 h h3 p1 e.cells p2 zE.cells p3 zE.cells := by
      refine ⟨?_, ?_, ?_, by omega, by omega, by omega, by omega, by omega, by omega, ?_, by omega⟩
      · rw [hh3, H.alloc_get _ _ (by omega) (by omega), if_neg (by omega)]; exact G1
      · rw [hh3, H.alloc_get _ _ (by omega) (by omega), if_neg (by omega), hh2, hp2]; exact alloc_get_new (by omega) _
      · rw [hh3, hp3]; exact alloc_get_new (by omega) _
      · have a1 : Kept 1 h h1 := by rw [hh1]; exact Kept.alloc (by omega) _
        have a2 : Kept 1 h1 h2 := by rw [hh2]; exact Kept.alloc (by omega) _
        have a3 : Kept 1 h2 h3 := by rw [hh3]; exact Kept.alloc (by omega) _
        exact ((a1.trans a2).trans a3).mono (by omega)
    clear hh1 hh2 hh3 G1
    refine ⟨rfl, _, _, _, _, _, T.g3, rfl, rfl, ?_⟩
    intro h4 hh4
    replace T := T.st3 hh4
    clear hh4
    refine ⟨_, ldg T.g1 rfl, ?_⟩
    rintro (_ | _) b1
    rotate_left
    · refine ⟨_, ldg T.g1 rfl, ?_⟩
      refine ⟨rfl, _, _, _, _, _, T.g3, rfl, rfl, ?_⟩
      intro hx hhx
      replace T := T.st3 hhx
      clear hhx
      refine ⟨_, ldg T.g3 rfl, ?_⟩
      refine ⟨rfl, _, _, _, _, _, T.g2, rfl, rfl, ?_⟩
      intro hy hhy
      replace T := T.st2 hhy
      clear hhy
      refine ⟨_, ldg T.g2 rfl, ?_⟩
      exact ⟨by simp only [pureE, b1]; rfl, T.k⟩
    rintro (_ | _) b2
    rotate_left
    · refine ⟨_, ldg T.g1 rfl, ?_⟩
      refine ⟨rfl, _, _, _, _, _, T.g3, rfl, rfl, ?_⟩
      intro hx hhx
      replace T := T.st3 hhx
      clear hhx
      refine ⟨rfl, _, _, _, _, _, T.g3, rfl, rfl, ?_⟩
      intro hx hhx
      replace T := T.st3 hhx
      clear hhx
      refine ⟨_, ldg T.g3 rfl, ?_⟩
      refine ⟨rfl, _, _, _, _, _, T.g2, rfl, rfl, ?_⟩
      intro hy hhy
      replace T := T.st2 hhy
      clear hhy
      refine ⟨_, ldg T.g2 rfl, ?_⟩
      exact ⟨by simp only [pureE, b1, b2]; rfl, T.k⟩
    rintro (_ | _) b3
    rotate_left
    · refine ⟨_, ldg T.g1 rfl, ?_⟩
      refine ⟨rfl, _, _, _, _, _, T.g3, rfl, rfl, ?_⟩
      intro hx hhx
      replace T := T.st3 hhx
      clear hhx
      refine ⟨rfl, _, _, _, _, _, T.g3, rfl, rfl, ?_⟩
      intro hx hhx
      replace T := T.st3 hhx
      clear hhx
      refine ⟨_, ldg T.g3 rfl, ?_⟩
      refine ⟨rfl, _, _, _, _, _, T.g2, rfl, rfl, ?_⟩
      intro hy hhy
      replace T := T.st2 hhy
      clear hhy
      refine ⟨_, ldg T.g2 rfl, ?_⟩
      exact ⟨by simp only [pureE, b1, b2, b3]; rfl, T.k⟩
    rintro (_ | _) b4
    rotate_left
    · refine ⟨_, ldg T.g1 rfl, ?_⟩
      refine ⟨rfl, _, _, _, _, _, T.g3, rfl, rfl, ?_⟩
      intro hx hhx
      replace T := T.st3 hhx
      clear hhx
      refine ⟨_, ldg T.g1 rfl, ?_⟩
      refine ⟨rfl, _, _, _, _, _, T.g3, rfl, rfl, ?_⟩
      intro hx hhx
      replace T := T.st3 hhx
      clear hhx
      refine ⟨_, ldg T.g1 rfl, ?_⟩
      refine ⟨rfl, _, _, _, _, _, T.g3, rfl, rfl, ?_⟩
      intro hx hhx
      replace T := T.st3 hhx
      clear hhx
      refine ⟨rfl, _, _, _, _, _, T.g3, rfl, rfl, ?_⟩
      intro hx hhx
      replace T := T.st3 hhx
      clear hhx
      refine ⟨_, ldg T.g3 rfl, ?_⟩
      refine ⟨rfl, _, _, _, _, _, T.g2, rfl, rfl, ?_⟩
      intro hy hhy
      replace T := T.st2 hhy
      clear hhy
      refine ⟨_, ldg T.g2 rfl, ?_⟩
      exact ⟨by simp only [pureE, b1, b2, b3, b4]; rfl, T.k⟩
    rintro (_ | _) b5
    rotate_left
    · refine ⟨_, ldg T.g1 rfl, ?_⟩
      refine ⟨rfl, _, _, _, _, _, T.g3, rfl, rfl, ?_⟩
      intro hx hhx
      replace T := T.st3 hhx
      clear hhx
      refine ⟨_, ldg T.g1 rfl, ?_⟩
      refine ⟨rfl, _, _, _, _, _, T.g3, rfl, rfl, ?_⟩
      intro hx hhx
      replace T := T.st3 hhx
      clear hhx
      refine ⟨rfl, _, _, _, _, _, T.g3, rfl, rfl, ?_⟩
      intro hx hhx
      replace T := T.st3 hhx
      clear hhx
      refine ⟨_, ldg T.g3 rfl, ?_⟩
      refine ⟨rfl, _, _, _, _, _, T.g2, rfl, rfl, ?_⟩
      intro hy hhy
      replace T := T.st2 hhy
      clear hhy
      refine ⟨_, ldg T.g2 rfl, ?_⟩
      exact ⟨by simp only [pureE, b1, b2, b3, b4, b5]; rfl, T.k⟩
    rintro (_ | _) b6
    rotate_left
    · refine ⟨_, ldg T.g1 rfl, ?_⟩
      refine ⟨rfl, _, _, _, _, _, T.g3, rfl, rfl, ?_⟩
      intro hx hhx
      replace T := T.st3 hhx
      clear hhx
      refine ⟨_, ldg T.g1 rfl, ?_⟩
      refine ⟨rfl, _, _, _, _, _, T.g3, rfl, rfl, ?_⟩
      intro hx hhx
      replace T := T.st3 hhx
      clear hhx
      refine ⟨rfl, _, _, _, _, _, T.g3, rfl, rfl, ?_⟩
      intro hx hhx
      replace T := T.st3 hhx
      clear hhx
      refine ⟨_, ldg T.g3 rfl, ?_⟩
      refine ⟨rfl, _, _, _, _, _, T.g2, rfl, rfl, ?_⟩
      intro hy hhy
      replace T := T.st2 hhy
      clear hhy
      refine ⟨_, ldg T.g2 rfl, ?_⟩
      exact ⟨by simp only [pureE, b1, b2, b3, b4, b5, b6]; rfl, T.k⟩
    rintro (_ | _) b7
    rotate_left
    · refine ⟨_, ldg T.g1 rfl, ?_⟩
      refine ⟨rfl, _, _, _, _, _, T.g3, rfl, rfl, ?_⟩
      intro hx hhx
      replace T := T.st3 hhx
      clear hhx
      refine ⟨_, ldg T.g1 rfl, ?_⟩
      refine ⟨rfl, _, _, _, _, _, T.g3, rfl, rfl, ?_⟩
      intro hx hhx
      replace T := T.st3 hhx
      clear hhx
      refine ⟨_, ldg T.g3 rfl, ?_⟩
      refine ⟨rfl, _, _, _, _, _, T.g2, rfl, rfl, ?_⟩
      intro hy hhy
      replace T := T.st2 hhy
      clear hhy
      refine ⟨_, ldg T.g2 rfl, ?_⟩
      exact ⟨by simp only [pureE, b1, b2, b3, b4, b5, b6, b7]; rfl, T.k⟩
    rintro (_ | _) b8
    rotate_left
    · refine ⟨_, ldg T.g1 rfl, ?_⟩
      refine ⟨rfl, _, _, _, _, _, T.g3, rfl, rfl, ?_⟩
      intro hx hhx
      replace T := T.st3 hhx
      clear hhx
      refine ⟨_, ldg T.g3 rfl, ?_⟩
      refine ⟨rfl, _, _, _, _, _, T.g2, rfl, rfl, ?_⟩
      intro hy hhy
      replace T := T.st2 hhy
      clear hhy
      refine ⟨_, ldg T.g2 rfl, ?_⟩
      exact ⟨by simp only [pureE, b1, b2, b3, b4, b5, b6, b7, b8]; rfl, T.k⟩
    rintro (_ | _) b9
    rotate_left
    · refine ⟨_, ldg T.g1 rfl, ?_⟩
      refine ⟨rfl, _, _, _, _, _, T.g3, rfl, rfl, ?_⟩
      intro hx hhx
      replace T := T.st3 hhx
      clear hhx
      refine ⟨_, ldg T.g1 rfl, ?_⟩
      refine ⟨rfl, _, _, _, _, _, T.g3, rfl, rfl, ?_⟩
      intro hx hhx
      replace T := T.st3 hhx
      clear hhx
      refine ⟨rfl, _, _, _, _, _, T.g3, rfl, rfl, ?_⟩
      intro hx hhx
      replace T := T.st3 hhx
      clear hhx
      refine ⟨_, ldg T.g3 rfl, ?_⟩
      refine ⟨rfl, _, _, _, _, _, T.g2, rfl, rfl, ?_⟩
      intro hy hhy
      replace T := T.st2 hhy
      clear hhy
      refine ⟨_, ldg T.g2 rfl, ?_⟩
      exact ⟨by simp only [pureE, b1, b2, b3, b4, b5, b6, b7, b8, b9]; rfl, T.k⟩
    rintro (_ | _) b10
    rotate_left
    · refine ⟨_, ldg T.g1 rfl, ?_⟩
      refine ⟨rfl, _, _, _, _, _, T.g3, rfl, rfl, ?_⟩
      intro hx hhx
      replace T := T.st3 hhx
      clear hhx
      refine ⟨_, ldg T.g3 rfl, ?_⟩
      refine ⟨rfl, _, _, _, _, _, T.g2, rfl, rfl, ?_⟩
      intro hy hhy
      replace T := T.st2 hhy
      clear hhy
      refine ⟨_, ldg T.g2 rfl, ?_⟩
      exact ⟨by simp only [pureE, b1, b2, b3, b4, b5, b6, b7, b8, b9, b10]; rfl, T.k⟩
    rintro (_ | _) b11
    rotate_left
    · refine ⟨_, ldg T.g1 rfl, ?_⟩
      refine ⟨rfl, _, _, _, _, _, T.g3, rfl, rfl, ?_⟩
      intro hx hhx
      replace T := T.st3 hhx
      clear hhx
      refine ⟨_, ldg T.g3 rfl, ?_⟩
      refine ⟨rfl, _, _, _, _, _, T.g2, rfl, rfl, ?_⟩
      intro hy hhy
      replace T := T.st2 hhy
      clear hhy
      refine ⟨_, ldg T.g2 rfl, ?_⟩
      exact ⟨by simp only [pureE, b1, b2, b3, b4, b5, b6, b7, b8, b9, b10, b11]; rfl, T.k⟩
    rintro (_ | _) b12
    rotate_left
    · refine ⟨_, ldg T.g1 rfl, ?_⟩
      refine ⟨rfl, _, _, _, _, _, T.g3, rfl, rfl, ?_⟩
      intro hx hhx
      replace T := T.st3 hhx
      clear hhx
      refine ⟨_, ldg T.g3 rfl, ?_⟩
      refine ⟨rfl, _, _, _, _, _, T.g2, rfl, rfl, ?_⟩
      intro hy hhy
      replace T := T.st2 hhy
      clear hhy
      refine ⟨_, ldg T.g2 rfl, ?_⟩
      exact ⟨by simp only [pureE, b1, b2, b3, b4, b5, b6, b7, b8, b9, b10, b11, b12]; rfl, T.k⟩
    rintro (_ | _) b13
    rotate_left
    · refine ⟨_, ldg T.g1 rfl, ?_⟩
      refine ⟨rfl, _, _, _, _, _, T.g3, rfl, rfl, ?_⟩
      intro hx hhx
      replace T := T.st3 hhx
      clear hhx
      refine ⟨_, ldg T.g3 rfl, ?_⟩
      refine ⟨rfl, _, _, _, _, _, T.g2, rfl, rfl, ?_⟩
      intro hy hhy
      replace T := T.st2 hhy
      clear hhy
      refine ⟨_, ldg T.g2 rfl, ?_⟩
      exact ⟨by simp only [pureE, b1, b2, b3, b4, b5, b6, b7, b8, b9, b10, b11, b12, b13]; rfl, T.k⟩
    rintro (_ | _) b14
    rotate_left
    · refine ⟨_, ldg T.g1 rfl, ?_⟩
      refine ⟨rfl, _, _, _, _, _, T.g3, rfl, rfl, ?_⟩
      intro hx hhx
      replace T := T.st3 hhx
      clear hhx
      refine ⟨_, ldg T.g3 rfl, ?_⟩
      refine ⟨rfl, _, _, _, _, _, T.g2, rfl, rfl, ?_⟩
      intro hy hhy
      replace T := T.st2 hhy
      clear hhy
      refine ⟨_, ldg T.g2 rfl, ?_⟩
      exact ⟨by simp only [pureE, b1, b2, b3, b4, b5, b6, b7, b8, b9, b10, b11, b12, b13, b14]; rfl, T.k⟩
    rintro (_ | _) b15
    rotate_left
    · refine ⟨_, ldg T.g1 rfl, ?_⟩
      refine ⟨rfl, _, _, _, _, _, T.g3, rfl, rfl, ?_⟩
      intro hx hhx
      replace T := T.st3 hhx
      clear hhx
      refine ⟨_, ldg T.g1 rfl, ?_⟩
      refine ⟨rfl, _, _, _, _, _, T.g3, rfl, rfl, ?_⟩
      intro hx hhx
      replace T := T.st3 hhx
      clear hhx
      refine ⟨_, ldg T.g3 rfl, ?_⟩
      refine ⟨rfl, _, _, _, _, _, T.g2, rfl, rfl, ?_⟩
      intro hy hhy
      replace T := T.st2 hhy
      clear hhy
      refine ⟨_, ldg T.g2 rfl, ?_⟩
      exact ⟨by simp only [pureE, b1, b2, b3, b4, b5, b6, b7, b8, b9, b10, b11, b12, b13, b14, b15]; rfl, T.k⟩
    rintro (_ | _) b16
    · refine ⟨_, ldg T.g3 rfl, ?_⟩
      refine ⟨rfl, _, _, _, _, _, T.g2, rfl, rfl, ?_⟩
      intro hy hhy
      replace T := T.st2 hhy
      clear hhy
      refine ⟨_, ldg T.g2 rfl, ?_⟩
      exact ⟨by simp only [pureE, b1, b2, b3, b4, b5, b6, b7, b8, b9, b10, b11, b12, b13, b14, b15, b16]; rfl, T.k⟩
    · refine ⟨_, ldg T.g1 rfl, ?_⟩
      refine ⟨rfl, _, _, _, _, _, T.g3, rfl, rfl, ?_⟩
      intro hx hhx
      replace T := T.st3 hhx
      clear hhx
      refine ⟨_, ldg T.g3 rfl, ?_⟩
      refine ⟨rfl, _, _, _, _, _, T.g2, rfl, rfl, ?_⟩
      intro hy hhy
      replace T := T.st2 hhy
      clear hhy
      refine ⟨_, ldg T.g2 rfl, ?_⟩
      exact ⟨by simp only [pureE, b1, b2, b3, b4, b5, b6, b7, b8, b9, b10, b11, b12, b13, b14, b15, b16]; rfl, T.k⟩
  obtain ⟨v, h', h1, rfl, h2⟩ := this
  exact ⟨h', h1, h2⟩

/-- what an entry's 'pure' is -/
noncomputable def pureD (A : ED) : ED := ⟨pureE A.e, sel (eqI A.e.kind 7) A.ring [], sel (eqI A.e.kind 9) A.legs [], sel (eqI A.e.kind 9) A.offs []⟩

theorem kinds (k : Int) : k = 1 ∨ k = 2 ∨ k = 3 ∨ k = 4 ∨ k = 5 ∨ k = 6 ∨ k = 7 ∨ k = 8 ∨ k = 9 ∨ k = 10 ∨ k = 11 ∨ k = 12 ∨ k = 13 ∨ k = 14 ∨ k = 15 ∨ k = 16 ∨ (k < 1 ∨ 16 < k) := by omega

theorem pureE_of (e : EV) : 
    (e.kind = 1 → pureE e = { zE with written := e.written, kind := e.kind, chID := e.chID, chYear := e.chYear, chLo := e.chLo, chHi := e.chHi, chWear := e.chWear } ∧ bareE e = { zE with written := e.written, kind := e.kind, chID := e.chID, chYear := e.chYear, chLo := e.chLo, chHi := e.chHi, chWear := e.chWear }) ∧
    (e.kind = 2 → pureE e = { zE with written := e.written, kind := e.kind, prChain := e.prChain, prYear := e.prYear, prLo := e.prLo, prHi := e.prHi } ∧ bareE e = { zE with written := e.written, kind := e.kind, prID := e.prID, prChain := e.prChain, prYear := e.prYear, prLo := e.prLo, prHi := e.prHi }) ∧
    (e.kind = 3 → pureE e = { zE with written := e.written, kind := e.kind, reChain := e.reChain, reYear := e.reYear, reLo := e.reLo, reHi := e.reHi } ∧ bareE e = { zE with written := e.written, kind := e.kind, reID := e.reID, reChain := e.reChain, reYear := e.reYear, reLo := e.reLo, reHi := e.reHi }) ∧
    (e.kind = 4 → pureE e = { zE with written := e.written, kind := e.kind, stone := e.stone, haStep := e.haStep, haPlace := e.haPlace, haSink := e.haSink, siYear := e.siYear, siXLo := e.siXLo, siXHi := e.siXHi, siYLo := e.siYLo, siYHi := e.siYHi, siLetters := e.siLetters, siHLo := e.siHLo, siHHi := e.siHHi } ∧ bareE e = { zE with written := e.written, kind := e.kind, stone := e.stone, haStep := e.haStep, haPlace := e.haPlace, haSink := e.haSink, siID := e.siID, siYear := e.siYear, siXLo := e.siXLo, siXHi := e.siXHi, siYLo := e.siYLo, siYHi := e.siYHi, siLetters := e.siLetters, siHLo := e.siHLo, siHHi := e.siHHi }) ∧
    (e.kind = 5 → pureE e = { zE with written := e.written, kind := e.kind, stone := e.stone, siYear := e.siYear, siXLo := e.siXLo, siXHi := e.siXHi, siYLo := e.siYLo, siYHi := e.siYHi, siLetters := e.siLetters, siHLo := e.siHLo, siHHi := e.siHHi } ∧ bareE e = { zE with written := e.written, kind := e.kind, stone := e.stone, siID := e.siID, siYear := e.siYear, siXLo := e.siXLo, siXHi := e.siXHi, siYLo := e.siYLo, siYHi := e.siYHi, siLetters := e.siLetters, siHLo := e.siHLo, siHHi := e.siHHi }) ∧
    (e.kind = 6 → pureE e = { zE with written := e.written, kind := e.kind, stone := e.stone, noKind := e.noKind, noFrom := e.noFrom, noTo := e.noTo } ∧ bareE e = { zE with written := e.written, kind := e.kind, stone := e.stone, noID := e.noID, noKind := e.noKind, noFrom := e.noFrom, noTo := e.noTo }) ∧
    (e.kind = 7 → pureE e = { zE with written := e.written, kind := e.kind, ringA := e.ringA, ringN := e.ringN, ringC := e.ringC, changes := e.changes } ∧ bareE e = { zE with written := e.written, kind := e.kind, ringA := e.ringA, ringN := e.ringN, ringC := e.ringC, changes := e.changes }) ∧
    (e.kind = 8 → pureE e = { zE with written := e.written, kind := e.kind, wiID := e.wiID, wiRight := e.wiRight, wiWrong := e.wiWrong } ∧ bareE e = { zE with written := e.written, kind := e.kind, wiID := e.wiID, wiRight := e.wiRight, wiWrong := e.wiWrong }) ∧
    (e.kind = 9 → pureE e = { zE with written := e.written, kind := e.kind, by_ := e.by_, waYear := e.waYear, legsA := e.legsA, legsN := e.legsN, legsC := e.legsC, offsetsA := e.offsetsA, offsetsN := e.offsetsN, offsetsC := e.offsetsC } ∧ bareE e = { zE with written := e.written, kind := e.kind, by_ := e.by_, waID := e.waID, waYear := e.waYear, legsA := e.legsA, legsN := e.legsN, legsC := e.legsC, offsetsA := e.offsetsA, offsetsN := e.offsetsN, offsetsC := e.offsetsC }) ∧
    (e.kind = 10 → pureE e = { zE with written := e.written, kind := e.kind, fiNumber := e.fiNumber, fiX := e.fiX, fiY := e.fiY, fiPence := e.fiPence } ∧ bareE e = { zE with written := e.written, kind := e.kind, fiNumber := e.fiNumber, fiX := e.fiX, fiY := e.fiY, fiPence := e.fiPence }) ∧
    (e.kind = 11 → pureE e = { zE with written := e.written, kind := e.kind, paField := e.paField, paYear := e.paYear, paVestry := e.paVestry, paPence := e.paPence } ∧ bareE e = { zE with written := e.written, kind := e.kind, paField := e.paField, paYear := e.paYear, paVestry := e.paVestry, paPence := e.paPence }) ∧
    (e.kind = 12 → pureE e = { zE with written := e.written, kind := e.kind, ruFrom := e.ruFrom, ruTo := e.ruTo, ruSource := e.ruSource } ∧ bareE e = { zE with written := e.written, kind := e.kind, ruFrom := e.ruFrom, ruTo := e.ruTo, ruSource := e.ruSource }) ∧
    (e.kind = 13 → pureE e = { zE with written := e.written, kind := e.kind, clField := e.clField, clYear := e.clYear, clUntil := e.clUntil } ∧ bareE e = { zE with written := e.written, kind := e.kind, clField := e.clField, clYear := e.clYear, clUntil := e.clUntil }) ∧
    (e.kind = 14 → pureE e = { zE with written := e.written, kind := e.kind, taVestry := e.taVestry, taLine := e.taLine } ∧ bareE e = { zE with written := e.written, kind := e.kind, taVestry := e.taVestry, taLine := e.taLine }) ∧
    (e.kind = 15 → pureE e = { zE with written := e.written, kind := e.kind, taVestry := e.taVestry, taLine := e.taLine, vestry := e.vestry } ∧ bareE e = { zE with written := e.written, kind := e.kind, taVestry := e.taVestry, taLine := e.taLine, vestry := e.vestry }) ∧
    (e.kind = 16 → pureE e = { zE with written := e.written, kind := e.kind, taLine := e.taLine } ∧ bareE e = { zE with written := e.written, kind := e.kind, taVestry := e.taVestry, taLine := e.taLine }) := by
  refine ⟨?_, ?_, ?_, ?_, ?_, ?_, ?_, ?_, ?_, ?_, ?_, ?_, ?_, ?_, ?_, ?_⟩
  · intro h
    have hk : ctk e.kind = 161 := by rw [h]; rfl
    refine ⟨by unfold pureE; rw [h]; rfl, by unfold bareE; rw [hk]; rfl⟩
  · intro h
    have hk : ctk e.kind = 163 := by rw [h]; rfl
    refine ⟨by unfold pureE; rw [h]; rfl, by unfold bareE; rw [hk]; rfl⟩
  · intro h
    have hk : ctk e.kind = 165 := by rw [h]; rfl
    refine ⟨by unfold pureE; rw [h]; rfl, by unfold bareE; rw [hk]; rfl⟩
  · intro h
    have hk : ctk e.kind = 167 := by rw [h]; rfl
    refine ⟨by unfold pureE; rw [h]; rfl, by unfold bareE; rw [hk]; rfl⟩
  · intro h
    have hk : ctk e.kind = 168 := by rw [h]; rfl
    refine ⟨by unfold pureE; rw [h]; rfl, by unfold bareE; rw [hk]; rfl⟩
  · intro h
    have hk : ctk e.kind = 169 := by rw [h]; rfl
    refine ⟨by unfold pureE; rw [h]; rfl, by unfold bareE; rw [hk]; rfl⟩
  · intro h
    have hk : ctk e.kind = 170 := by rw [h]; rfl
    refine ⟨by unfold pureE; rw [h]; rfl, by unfold bareE; rw [hk]; rfl⟩
  · intro h
    have hk : ctk e.kind = 172 := by rw [h]; rfl
    refine ⟨by unfold pureE; rw [h]; rfl, by unfold bareE; rw [hk]; rfl⟩
  · intro h
    have hk : ctk e.kind = 173 := by rw [h]; rfl
    refine ⟨by unfold pureE; rw [h]; rfl, by unfold bareE; rw [hk]; rfl⟩
  · intro h
    have hk : ctk e.kind = 175 := by rw [h]; rfl
    refine ⟨by unfold pureE; rw [h]; rfl, by unfold bareE; rw [hk]; rfl⟩
  · intro h
    have hk : ctk e.kind = 177 := by rw [h]; rfl
    refine ⟨by unfold pureE; rw [h]; rfl, by unfold bareE; rw [hk]; rfl⟩
  · intro h
    have hk : ctk e.kind = 179 := by rw [h]; rfl
    refine ⟨by unfold pureE; rw [h]; rfl, by unfold bareE; rw [hk]; rfl⟩
  · intro h
    have hk : ctk e.kind = 181 := by rw [h]; rfl
    refine ⟨by unfold pureE; rw [h]; rfl, by unfold bareE; rw [hk]; rfl⟩
  · intro h
    have hk : ctk e.kind = 183 := by rw [h]; rfl
    refine ⟨by unfold pureE; rw [h]; rfl, by unfold bareE; rw [hk]; rfl⟩
  · intro h
    have hk : ctk e.kind = 184 := by rw [h]; rfl
    refine ⟨by unfold pureE; rw [h]; rfl, by unfold bareE; rw [hk]; rfl⟩
  · intro h
    have hk : ctk e.kind = 185 := by rw [h]; rfl
    refine ⟨by unfold pureE; rw [h]; rfl, by unfold bareE; rw [hk]; rfl⟩

theorem pureE_else (e : EV) (h : e.kind < 1 ∨ 16 < e.kind) : pureE e = { zE with written := e.written, kind := e.kind } := by
  have hne : ∀ k : Int, 1 ≤ k → k ≤ 16 → eqI e.kind k = false := fun k h1 h2 => by
    cases hb : eqI e.kind k with
    | false => rfl
    | true => have := eqT hb; omega
  unfold pureE
  rw [hne 1 (by decide) (by decide), hne 2 (by decide) (by decide), hne 3 (by decide) (by decide), hne 4 (by decide) (by decide), hne 5 (by decide) (by decide), hne 6 (by decide) (by decide), hne 7 (by decide) (by decide), hne 8 (by decide) (by decide), hne 9 (by decide) (by decide), hne 10 (by decide) (by decide), hne 11 (by decide) (by decide), hne 12 (by decide) (by decide), hne 13 (by decide) (by decide), hne 14 (by decide) (by decide), hne 15 (by decide) (by decide), hne 16 (by decide) (by decide)]

theorem pureD_at {h : H} {A : ED} (E : EAt h A) : EAt h (pureD A) := by
  unfold pureD
  have P := pureE_of A.e
  rcases kinds A.e.kind with k | k | k | k | k | k | k | k | k | k | k | k | k | k | k | k | k
  · rw [(P.1 k).1, k]; exact ⟨SlR.none, SlR.none, SlR.none⟩
  · rw [(P.2.1 k).1, k]; exact ⟨SlR.none, SlR.none, SlR.none⟩
  · rw [(P.2.2.1 k).1, k]; exact ⟨SlR.none, SlR.none, SlR.none⟩
  · rw [(P.2.2.2.1 k).1, k]; exact ⟨SlR.none, SlR.none, SlR.none⟩
  · rw [(P.2.2.2.2.1 k).1, k]; exact ⟨SlR.none, SlR.none, SlR.none⟩
  · rw [(P.2.2.2.2.2.1 k).1, k]; exact ⟨SlR.none, SlR.none, SlR.none⟩
  · rw [(P.2.2.2.2.2.2.1 k).1, k]; exact ⟨E.ring, SlR.none, SlR.none⟩
  · rw [(P.2.2.2.2.2.2.2.1 k).1, k]; exact ⟨SlR.none, SlR.none, SlR.none⟩
  · rw [(P.2.2.2.2.2.2.2.2.1 k).1, k]; exact ⟨SlR.none, E.legs, E.offs⟩
  · rw [(P.2.2.2.2.2.2.2.2.2.1 k).1, k]; exact ⟨SlR.none, SlR.none, SlR.none⟩
  · rw [(P.2.2.2.2.2.2.2.2.2.2.1 k).1, k]; exact ⟨SlR.none, SlR.none, SlR.none⟩
  · rw [(P.2.2.2.2.2.2.2.2.2.2.2.1 k).1, k]; exact ⟨SlR.none, SlR.none, SlR.none⟩
  · rw [(P.2.2.2.2.2.2.2.2.2.2.2.2.1 k).1, k]; exact ⟨SlR.none, SlR.none, SlR.none⟩
  · rw [(P.2.2.2.2.2.2.2.2.2.2.2.2.2.1 k).1, k]; exact ⟨SlR.none, SlR.none, SlR.none⟩
  · rw [(P.2.2.2.2.2.2.2.2.2.2.2.2.2.2.1 k).1, k]; exact ⟨SlR.none, SlR.none, SlR.none⟩
  · rw [(P.2.2.2.2.2.2.2.2.2.2.2.2.2.2.2 k).1, k]; exact ⟨SlR.none, SlR.none, SlR.none⟩
  · have e7 : eqI A.e.kind 7 = false := by
      cases hb : eqI A.e.kind 7 with
      | false => rfl
      | true => have := eqT hb; omega
    have e9 : eqI A.e.kind 9 = false := by
      cases hb : eqI A.e.kind 9 with
      | false => rfl
      | true => have := eqT hb; omega
    rw [pureE_else A.e k, e7, e9]
    exact ⟨SlR.none, SlR.none, SlR.none⟩
end Go.Proofs
end
