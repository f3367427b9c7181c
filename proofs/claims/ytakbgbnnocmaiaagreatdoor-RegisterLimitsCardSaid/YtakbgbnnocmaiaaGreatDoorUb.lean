/- An entry's cells, read. (Printed by mkst2.py.) -/
import Derived.Test.YtakbgbnnocmaiaaGreatDoorUa
import Derived.Test.YtakbgbnnocmaiaaGreatDoorTh
import Derived.Test.YtakbgbnnocmaiaaGreatDoorTq
set_option linter.all false
section
namespace Go.Proofs
open Go.RowKit Go.Sim

theorem ren_i {ι : Inj} {k : IntKind} {n : Int} : ren ι (.int k n) = some (.int k n) := by simp [ren]
theorem ren_b {ι : Inj} {b : Bool} : ren ι (.bool b) = some (.bool b) := by simp [ren]
theorem ren_st {ι : Inj} {s : ByteArray} : ren ι (.str s.data.toList) = some (.string s) := by simp [ren]
theorem renL_c {ι : Inj} {v : AVal} {r : List AVal} {a : Value} {q : List Value} (h : ren ι v = some a) (k : renL ι r = some q) : renL ι (v :: r) = some (a :: q) := renL_cons.2 ⟨a, q, h, k, rfl⟩
theorem renL_n {ι : Inj} : renL ι [] = some [] := renL_nil.2 rfl

def entL : List Leaf := .int .i64 :: .int .i64 :: .int .i64 :: .int .i64 :: .int .i64 :: .int .i64 :: .int .i64 :: .int .i64 :: .int .i64 :: .int .i64 :: .int .i64 :: .int .i64 :: .int .i64 :: .int .i64 :: .int .i64 :: .int .i64 :: .int .i64 :: .int .i64 :: .int .i64 :: .int .i64 :: .int .i64 :: .int .i64 :: .int .i64 :: .int .i64 :: .int .i64 :: .int .i64 :: .int .i64 :: .int .i64 :: .int .i64 :: .str :: .int .i64 :: .int .i64 :: .int .i64 :: .int .i64 :: .int .i64 :: .int .i64 :: .slc 3 :: .int .i64 :: .int .i64 :: .int .i64 :: .int .i64 :: .int .i64 :: .int .i64 :: .int .i64 :: .slc 150 :: .slc 153 :: .int .i64 :: .int .i64 :: .int .i64 :: .int .i64 :: .int .i64 :: .int .i64 :: .int .i64 :: .int .i64 :: .int .i64 :: .int .i64 :: .str :: .int .i64 :: .int .i64 :: .int .i64 :: .int .i64 :: .int .i64 :: .int .i64 :: []
theorem leaves62 : leaves Tryz.prog 12 62 = some entL := by kernel_rfl
theorem leaves3 : leaves Tryz.prog 12 3 = some [.int .i64] := by kernel_rfl
theorem leaves150 : leaves Tryz.prog 12 150 = some [.int .i64, .int .i64, .int .i64, .int .i64, .int .i64, .int .i64, .int .i64, .int .i64] := by kernel_rfl
theorem leaves153 : leaves Tryz.prog 12 153 = some [.int .i64, .int .i64, .int .i64, .bool] := by kernel_rfl
theorem cells62 : Tryz.prog.cellsOf 62 = 63 := by kernel_rfl
theorem cells3 : Tryz.prog.cellsOf 3 = 1 := by kernel_rfl
theorem cells150 : Tryz.prog.cellsOf 150 = 8 := by kernel_rfl
theorem cells153 : Tryz.prog.cellsOf 153 = 4 := by kernel_rfl

section
variable {Hd : Type} {enc : TypeId × Value → Hd} {w : World}

theorem int_row {cs : List Value} (h : ∃ fuel x, DataW.trod enc Tryz.prog w 0 (fun _ => true) true fuel 3 cs = some x) : ∃ y : Int, (intC y).length = 1 ∧ ∀ ι, renL ι (intC y) = some cs := by
  obtain ⟨_, _, rfl, ⟨a0, rfl⟩, g0⟩ := (leaves_ok 12 3 _ cs leaves3 h).uncons
  clear h
  obtain rfl := g0.unnil
  exact ⟨a0, rfl, fun ι => renL_c ren_i renL_n⟩
theorem leg_row {cs : List Value} (h : ∃ fuel x, DataW.trod enc Tryz.prog w 0 (fun _ => true) true fuel 150 cs = some x) : ∃ y : LegV, y.cells.length = 8 ∧ ∀ ι, renL ι y.cells = some cs := by
  obtain ⟨_, _, rfl, ⟨a0, rfl⟩, g0⟩ := (leaves_ok 12 150 _ cs leaves150 h).uncons
  clear h
  obtain ⟨_, _, rfl, ⟨a1, rfl⟩, g1⟩ := g0.uncons
  obtain ⟨_, _, rfl, ⟨a2, rfl⟩, g2⟩ := g1.uncons
  obtain ⟨_, _, rfl, ⟨a3, rfl⟩, g3⟩ := g2.uncons
  obtain ⟨_, _, rfl, ⟨a4, rfl⟩, g4⟩ := g3.uncons
  obtain ⟨_, _, rfl, ⟨a5, rfl⟩, g5⟩ := g4.uncons
  obtain ⟨_, _, rfl, ⟨a6, rfl⟩, g6⟩ := g5.uncons
  obtain ⟨_, _, rfl, ⟨a7, rfl⟩, g7⟩ := g6.uncons
  obtain rfl := g7.unnil
  exact ⟨⟨a0, a1, a2, a3, a4, a5, a6, a7⟩, rfl, fun ι => renL_c ren_i (renL_c ren_i (renL_c ren_i (renL_c ren_i (renL_c ren_i (renL_c ren_i (renL_c ren_i (renL_c ren_i renL_n)))))))⟩
theorem off_row {cs : List Value} (h : ∃ fuel x, DataW.trod enc Tryz.prog w 0 (fun _ => true) true fuel 153 cs = some x) : ∃ y : OffV, y.cells.length = 4 ∧ ∀ ι, renL ι y.cells = some cs := by
  obtain ⟨_, _, rfl, ⟨a0, rfl⟩, g0⟩ := (leaves_ok 12 153 _ cs leaves153 h).uncons
  clear h
  obtain ⟨_, _, rfl, ⟨a1, rfl⟩, g1⟩ := g0.uncons
  obtain ⟨_, _, rfl, ⟨a2, rfl⟩, g2⟩ := g1.uncons
  obtain ⟨_, _, rfl, ⟨a3, rfl⟩, g3⟩ := g2.uncons
  obtain rfl := g3.unnil
  exact ⟨⟨a0, a1, a2, a3⟩, rfl, fun ι => renL_c ren_i (renL_c ren_i (renL_c ren_i (renL_c ren_b renL_n)))⟩

set_option maxRecDepth 100000 in
theorem ent_row {cs : List Value} (hw : 0 < w.heap.size) (h : ∃ fuel x, DataW.trod enc Tryz.prog w 0 (fun _ => true) true fuel 62 cs = some x) :
    ∃ (x : Nat → XD) (A B C : Blk), (still A.o ∧ still B.o ∧ still C.o) ∧ (A.i.B < w.heap.size ∧ B.i.B < w.heap.size ∧ C.i.B < w.heap.size) ∧ (∀ ι, ObjRel ι A.i w A.o ∧ ObjRel ι B.i w B.o ∧ ObjRel ι C.i w C.o) ∧
      (∀ b ι, ι b = some A.i → ι (b + 1) = some B.i → ι (b + 2) = some C.i → renL ι (x b).cells = some cs) ∧
      (∀ b h, b + 2 < h.next → h.get b = some A.o → h.get (b + 1) = some B.o → h.get (b + 2) = some C.o → EAt h (x b).d) := by
  have g := leaves_ok 12 62 _ cs leaves62 h
  clear h
  obtain ⟨_, _, rfl, ⟨a0, rfl⟩, g0⟩ := g.uncons
  obtain ⟨_, _, rfl, ⟨a1, rfl⟩, g1⟩ := g0.uncons
  obtain ⟨_, _, rfl, ⟨a2, rfl⟩, g2⟩ := g1.uncons
  obtain ⟨_, _, rfl, ⟨a3, rfl⟩, g3⟩ := g2.uncons
  obtain ⟨_, _, rfl, ⟨a4, rfl⟩, g4⟩ := g3.uncons
  obtain ⟨_, _, rfl, ⟨a5, rfl⟩, g5⟩ := g4.uncons
  obtain ⟨_, _, rfl, ⟨a6, rfl⟩, g6⟩ := g5.uncons
  obtain ⟨_, _, rfl, ⟨a7, rfl⟩, g7⟩ := g6.uncons
  obtain ⟨_, _, rfl, ⟨a8, rfl⟩, g8⟩ := g7.uncons
  obtain ⟨_, _, rfl, ⟨a9, rfl⟩, g9⟩ := g8.uncons
  obtain ⟨_, _, rfl, ⟨a10, rfl⟩, g10⟩ := g9.uncons
  obtain ⟨_, _, rfl, ⟨a11, rfl⟩, g11⟩ := g10.uncons
  obtain ⟨_, _, rfl, ⟨a12, rfl⟩, g12⟩ := g11.uncons
  obtain ⟨_, _, rfl, ⟨a13, rfl⟩, g13⟩ := g12.uncons
  obtain ⟨_, _, rfl, ⟨a14, rfl⟩, g14⟩ := g13.uncons
  obtain ⟨_, _, rfl, ⟨a15, rfl⟩, g15⟩ := g14.uncons
  obtain ⟨_, _, rfl, ⟨a16, rfl⟩, g16⟩ := g15.uncons
  obtain ⟨_, _, rfl, ⟨a17, rfl⟩, g17⟩ := g16.uncons
  obtain ⟨_, _, rfl, ⟨a18, rfl⟩, g18⟩ := g17.uncons
  obtain ⟨_, _, rfl, ⟨a19, rfl⟩, g19⟩ := g18.uncons
  obtain ⟨_, _, rfl, ⟨a20, rfl⟩, g20⟩ := g19.uncons
  obtain ⟨_, _, rfl, ⟨a21, rfl⟩, g21⟩ := g20.uncons
  obtain ⟨_, _, rfl, ⟨a22, rfl⟩, g22⟩ := g21.uncons
  obtain ⟨_, _, rfl, ⟨a23, rfl⟩, g23⟩ := g22.uncons
  obtain ⟨_, _, rfl, ⟨a24, rfl⟩, g24⟩ := g23.uncons
  obtain ⟨_, _, rfl, ⟨a25, rfl⟩, g25⟩ := g24.uncons
  obtain ⟨_, _, rfl, ⟨a26, rfl⟩, g26⟩ := g25.uncons
  obtain ⟨_, _, rfl, ⟨a27, rfl⟩, g27⟩ := g26.uncons
  obtain ⟨_, _, rfl, ⟨a28, rfl⟩, g28⟩ := g27.uncons
  obtain ⟨_, _, rfl, ⟨a29, rfl⟩, g29⟩ := g28.uncons
  obtain ⟨_, _, rfl, ⟨a30, rfl⟩, g30⟩ := g29.uncons
  obtain ⟨_, _, rfl, ⟨a31, rfl⟩, g31⟩ := g30.uncons
  obtain ⟨_, _, rfl, ⟨a32, rfl⟩, g32⟩ := g31.uncons
  obtain ⟨_, _, rfl, ⟨a33, rfl⟩, g33⟩ := g32.uncons
  obtain ⟨_, _, rfl, ⟨a34, rfl⟩, g34⟩ := g33.uncons
  obtain ⟨_, _, rfl, ⟨a35, rfl⟩, g35⟩ := g34.uncons
  obtain ⟨u36, _, rfl, hu36, g36⟩ := g35.uncons
  obtain ⟨_, _, rfl, ⟨a37, rfl⟩, g37⟩ := g36.uncons
  obtain ⟨_, _, rfl, ⟨a38, rfl⟩, g38⟩ := g37.uncons
  obtain ⟨_, _, rfl, ⟨a39, rfl⟩, g39⟩ := g38.uncons
  obtain ⟨_, _, rfl, ⟨a40, rfl⟩, g40⟩ := g39.uncons
  obtain ⟨_, _, rfl, ⟨a41, rfl⟩, g41⟩ := g40.uncons
  obtain ⟨_, _, rfl, ⟨a42, rfl⟩, g42⟩ := g41.uncons
  obtain ⟨_, _, rfl, ⟨a43, rfl⟩, g43⟩ := g42.uncons
  obtain ⟨u44, _, rfl, hu44, g44⟩ := g43.uncons
  obtain ⟨u45, _, rfl, hu45, g45⟩ := g44.uncons
  obtain ⟨_, _, rfl, ⟨a46, rfl⟩, g46⟩ := g45.uncons
  obtain ⟨_, _, rfl, ⟨a47, rfl⟩, g47⟩ := g46.uncons
  obtain ⟨_, _, rfl, ⟨a48, rfl⟩, g48⟩ := g47.uncons
  obtain ⟨_, _, rfl, ⟨a49, rfl⟩, g49⟩ := g48.uncons
  obtain ⟨_, _, rfl, ⟨a50, rfl⟩, g50⟩ := g49.uncons
  obtain ⟨_, _, rfl, ⟨a51, rfl⟩, g51⟩ := g50.uncons
  obtain ⟨_, _, rfl, ⟨a52, rfl⟩, g52⟩ := g51.uncons
  obtain ⟨_, _, rfl, ⟨a53, rfl⟩, g53⟩ := g52.uncons
  obtain ⟨_, _, rfl, ⟨a54, rfl⟩, g54⟩ := g53.uncons
  obtain ⟨_, _, rfl, ⟨a55, rfl⟩, g55⟩ := g54.uncons
  obtain ⟨_, _, rfl, ⟨a56, rfl⟩, g56⟩ := g55.uncons
  obtain ⟨_, _, rfl, ⟨a57, rfl⟩, g57⟩ := g56.uncons
  obtain ⟨_, _, rfl, ⟨a58, rfl⟩, g58⟩ := g57.uncons
  obtain ⟨_, _, rfl, ⟨a59, rfl⟩, g59⟩ := g58.uncons
  obtain ⟨_, _, rfl, ⟨a60, rfl⟩, g60⟩ := g59.uncons
  obtain ⟨_, _, rfl, ⟨a61, rfl⟩, g61⟩ := g60.uncons
  obtain ⟨_, _, rfl, ⟨a62, rfl⟩, g62⟩ := g61.uncons
  obtain rfl := g62.unnil
  obtain ⟨k1, n1, c1, xs1, A, sA, fA, oA, rA, tA⟩ := slc_rep hu36 cells3 (by decide) hw fun cs' h' => int_row h'
  obtain ⟨k2, n2, c2, xs2, B, sB, fB, oB, rB, tB⟩ := slc_rep hu44 cells150 (by decide) hw fun cs' h' => leg_row h'
  obtain ⟨k3, n3, c3, xs3, C, sC, fC, oC, rC, tC⟩ := slc_rep hu45 cells153 (by decide) hw fun cs' h' => off_row h'
  refine ⟨fun b => ⟨a0, a1, ⟨⟨a2, a3, a4, a5, a6, a7, a8, a9, a10, a11, a12, a13, a14, a15, a16, a17, a18, a19, a20, a21, a22, a23, a24, a25, a26, a27, a28, a29.data.toList, a30, a31, a32, a33, a34, a35, sl k1 b, n1, c1, a37, a38, a39, a40, a41, a42, a43, sl k2 (b + 1), n2, c2, sl k3 (b + 2), n3, c3, a46, a47, a48, a49, a50, a51, a52, a53, a54, a55, a56.data.toList, a57, a58, a59, a60, a61, a62⟩, xs1, xs2, xs3⟩⟩, A, B, C, ⟨sA, sB, sC⟩, ⟨fA, fB, fC⟩, fun ι => ⟨oA ι, oB ι, oC ι⟩, fun b ι i1 i2 i3 => ?_, fun b h hn g1 g2 g3 => ⟨tA b h (by omega) g1, tB (b + 1) h (by omega) g2, tC (b + 2) h hn g3⟩⟩
  exact (renL_c ren_i (renL_c ren_i (renL_c ren_i (renL_c ren_i (renL_c ren_i (renL_c ren_i (renL_c ren_i (renL_c ren_i (renL_c ren_i (renL_c ren_i (renL_c ren_i (renL_c ren_i (renL_c ren_i (renL_c ren_i (renL_c ren_i (renL_c ren_i (renL_c ren_i (renL_c ren_i (renL_c ren_i (renL_c ren_i (renL_c ren_i (renL_c ren_i (renL_c ren_i (renL_c ren_i (renL_c ren_i (renL_c ren_i (renL_c ren_i (renL_c ren_i (renL_c ren_i (renL_c ren_st (renL_c ren_i (renL_c ren_i (renL_c ren_i (renL_c ren_i (renL_c ren_i (renL_c ren_i (renL_c (rA b ι i1) (renL_c ren_i (renL_c ren_i (renL_c ren_i (renL_c ren_i (renL_c ren_i (renL_c ren_i (renL_c ren_i (renL_c (rB (b + 1) ι i2) (renL_c (rC (b + 2) ι i3) (renL_c ren_i (renL_c ren_i (renL_c ren_i (renL_c ren_i (renL_c ren_i (renL_c ren_i (renL_c ren_i (renL_c ren_i (renL_c ren_i (renL_c ren_i (renL_c ren_st (renL_c ren_i (renL_c ren_i (renL_c ren_i (renL_c ren_i (renL_c ren_i (renL_c ren_i renL_n)))))))))))))))))))))))))))))))))))))))))))))))))))))))))))))))
end
end Go.Proofs
end
section
/- RegisterLimits: from the executor's answer to the program's, whatever lies in the arguments. -/
namespace Go.Proofs
open Go.RowKit Go.Sim

theorem limits_run {args : List AVal} {h h' : H} {k : Nat} (hr : (GX 23).call 3 args h = .ok (.bool true) h') (K : Kept k h h') (hlo : h.lo = Sim.big) {ι : Inj} {w : World} {cargs : List Value} (r : Rel ι h w) (hg : Glob ι) (ha : renL ι args = some cargs) :
    Calls Tryz.prog 3 cargs.toArray w fun e w' => e = .returned (.bool true) ∧ Below w.heap.size w w' := by
  have e1 : (GX 23).call 3 args h = oe (CX.ov 3) (callB CX (gN CX 1000000 22) 3 args h) (fun F => F (gN CX 1000000 22).call args h) := rfl
  have e2 : CX.ov 3 = none := rfl
  rw [e1, e2, oe_none] at hr
  refine (callB_calls (K_ok ovS) (O_ok ovS_ok) (gN_s (K_ok ovS) (O_ok ovS_ok) 1000000 22) hr r hg ha).mono fun e w' ⟨ι', vc, he, W, hv⟩ => ?_
  have : vc = .bool true := by simpa [ren] using hv.symm
  subst this
  refine ⟨he, W.out.1, W.out.2.1, W.out.2.2, W.size, fun B hB => ?_⟩
  refine Classical.byContradiction fun hne => ?_
  obtain ⟨b, i, hb, _, hl⟩ := W.kept B hB hne
  have h1 := (r.dom b i hb).1
  have h2 := K.lo
  have h3 := r.cap
  have h4 : Sim.big = 1000000000000000000 := rfl
  omega

structure ER where
  x : Nat → XD
  A : Blk
  B : Blk
  C : Blk

def xsOf : Nat → List ER → List XD
  | _, [] => []
  | b, e :: r => e.x b :: xsOf (b + 3) r
def bsOf : List ER → List Blk
  | [] => []
  | e :: r => e.A :: e.B :: e.C :: bsOf r

theorem xsOf_len : ∀ (es : List ER) (b : Nat), (xsOf b es).length = es.length
  | [], _ => rfl
  | e :: r, b => by simp [xsOf, xsOf_len r]
theorem xsOf_get : ∀ (es : List ER) (b i : Nat) {x : XD}, (xsOf b es)[i]? = some x → ∃ e, es[i]? = some e ∧ x = e.x (b + 3 * i)
  | [], _, _, _, h => by simp [xsOf] at h
  | e :: r, b, 0, x, h => by simp [xsOf] at h; exact ⟨e, rfl, by simpa using h.symm⟩
  | e :: r, b, i + 1, x, h => by
    simp only [xsOf, List.getElem?_cons_succ] at h
    obtain ⟨e', h1, h2⟩ := xsOf_get r (b + 3) i h
    exact ⟨e', by simpa using h1, by rw [h2]; congr 1; omega⟩
theorem bsOf_len : ∀ (es : List ER), (bsOf es).length = 3 * es.length
  | [] => rfl
  | e :: r => by simp only [bsOf, List.length_cons, bsOf_len r]; omega
theorem bsOf_get : ∀ (es : List ER) (i : Nat) {e : ER}, es[i]? = some e → (bsOf es)[3 * i]? = some e.A ∧ (bsOf es)[3 * i + 1]? = some e.B ∧ (bsOf es)[3 * i + 2]? = some e.C
  | [], _, _, h => by simp at h
  | e' :: r, 0, e, h => by simp at h; subst h; exact ⟨rfl, rfl, rfl⟩
  | e' :: r, i + 1, e, h => by
    simp only [List.getElem?_cons_succ] at h
    obtain ⟨h1, h2, h3⟩ := bsOf_get r i h
    have e1 : 3 * (i + 1) = 3 * i + 1 + 1 + 1 := by omega
    rw [e1]
    exact ⟨h1, h2, h3⟩
theorem bsOf_mem : ∀ {es : List ER} {b : Blk}, b ∈ bsOf es → ∃ e ∈ es, b = e.A ∨ b = e.B ∨ b = e.C
  | [], _, h => by cases h
  | e :: r, b, h => by
    simp only [bsOf, List.mem_cons] at h
    rcases h with h | h | h | h
    · exact ⟨e, by simp, .inl h⟩
    · exact ⟨e, by simp, .inr (.inl h)⟩
    · exact ⟨e, by simp, .inr (.inr h)⟩
    · obtain ⟨e', h1, h2⟩ := bsOf_mem h
      exact ⟨e', by simp [h1], h2⟩

theorem pows_start {bs : List Blk} (hn : 4 + bs.length ≤ 1048576) : PowsAt (start bs) :=
  ⟨by rw [start_next]; omega, _, _, _, _, (start_old hn (by decide)).trans h0_get0⟩

set_option maxRecDepth 100000 in
/-- REGISTERLIMITS: whatever the register: true, and memory is left as it was. -/
theorem limits_c {Hd : Type} {enc : TypeId × Value → Hd} {w : World} (hw : PowsLaid w) {v : Value} (hv : Leaf.ok enc Tryz.prog w (.slc 62) v) (known : Int) :
    Calls Tryz.prog 3 #[v, .int .i64 known] w fun e w' => e = .returned (.bool true) ∧ Below w.heap.size w w' := by
  have hw0 : 0 < w.heap.size := by have := hw.1; omega
  rcases hv with rfl | ⟨a, len, cap, rfl, h1, h2, h3⟩
  · obtain ⟨h', r1, r2⟩ := limits_x (D := 23) (by omega) none 0 0 [] known (start []) ⟨rfl, .inl rfl⟩ (fun x hx => by cases hx) (pows_start (by decide)) (by rw [start_next]; decide)
    exact limits_run r1 r2 (start_lo []) (rel_start hw (bs := []) (by decide) (fun b hb => by cases hb) (fun b hb => by cases hb) (fun b hb => by cases hb)) (glob_start []) (renL_c (by simp [ren]) (renL_c ren_i renL_n))
  · by_cases hc : cap = 0
    · subst hc
      have : len = 0 := by omega
      subst this
      have hO : ∀ ι b, ι b = some ⟨0, a.block, a.off, 0, match a.spot with | none => 0 | some s => s + 1⟩ → ren ι (.slc (some (b, odd)) 0 0) = some (.slice (some a) 0 0) := fun ι b hb => by
        rw [ren_slc_ofE hb]
        have e1 : adr ⟨0, a.block, a.off, 0, match a.spot with | none => 0 | some s => s + 1⟩ odd 0 0 = a := by
          unfold adr
          rw [if_pos ⟨rfl, rfl, rfl⟩]
          cases a with
          | mk bl o s => cases s <;> rfl
        have e2 : capE ⟨0, a.block, a.off, 0, match a.spot with | none => 0 | some s => s + 1⟩ odd 0 0 = 0 := by
          unfold capE
          rw [if_neg (fun h => absurd h.1 (by decide))]
          unfold capOf
          generalize (match a.spot with | none => 0 | some s => s + 1) = q
          show (if odd + 0 * q = a.off then 0 + 0 else 0) = 0
          split <;> rfl
        rw [e1, e2]
      obtain ⟨bs, hbs⟩ : ∃ bs : List Blk, bs = [⟨.dead, ⟨0, a.block, a.off, 0, match a.spot with | none => 0 | some s => s + 1⟩⟩] := ⟨_, rfl⟩
      have hl : bs.length = 1 := by rw [hbs]; rfl
      have hb0 : bs[0]? = some ⟨.dead, ⟨0, a.block, a.off, 0, match a.spot with | none => 0 | some s => s + 1⟩⟩ := by rw [hbs]; rfl
      obtain ⟨h', r1, r2⟩ := limits_x (D := 23) (by omega) (some (4, odd)) 0 0 [] known (start bs) ⟨rfl, .inl rfl⟩ (fun x hx => by cases hx) (pows_start (by omega)) (by rw [start_next]; omega)
      exact limits_run r1 r2 (start_lo bs) (rel_start hw (by omega) (fun b hb => by rw [hbs] at hb; simp at hb; subst hb; trivial) (fun b hb => by rw [hbs] at hb; simp at hb; subst hb; exact hw0) (fun b hb => by rw [hbs] at hb; simp at hb; subst hb; trivial)) (glob_start bs)
        (renL_c (hO _ 4 (injB_at hb0)) (renL_c ren_i renL_n))
    · obtain ⟨cs0, hc0, _⟩ := h3 0 (by omega)
      rw [Nat.zero_mul] at hc0
      have e0 : a.add 0 = a := by simp [Addr.add]
      rw [e0, cells62] at hc0
      obtain ⟨_, q1, q2⟩ := World.cells?_some hc0
      have ha : ∃ v, w.cell? a = some v := by
        have := q2 0 (by omega)
        rw [e0] at this
        exact ⟨cs0[0]'(by omega), this.trans (List.getElem?_eq_getElem _)⟩
      have hs : a.spot = none := by obtain ⟨v, hv⟩ := ha; exact World.cell?_spot hv
      have hae : (⟨a.block, a.off + 0, none⟩ : Addr) = a := by have := addr_add hs 0; simpa [Addr.add] using this.symm
      have hB : a.block < w.heap.size := by
        obtain ⟨v, hv⟩ := ha
        rw [← hae] at hv
        obtain ⟨_, _, _, hb, _⟩ := cell_heap hv
        exact (Array.getElem?_eq_some_iff.1 hb).1
      have hA : ∀ ι n k, ι 4 = some ⟨a.block, a.off, n, 0, k⟩ → ren ι (.slc (some (4, 0)) len cap) = some (.slice (some a) len cap) := fun ι n k hb => by
        rw [ren_slc_of hb amb0]
        have e1 : capOf ⟨a.block, a.off, n, 0, k⟩ 0 cap = cap := by unfold capOf; split <;> rfl
        rw [e1]
        show some (Value.slice (some ⟨a.block, a.off + 0, none⟩) len cap) = _
        rw [hae]
      by_cases hlong : 400 < len
      · obtain ⟨bs, hbs⟩ : ∃ bs : List Blk, bs = [⟨.dead, ⟨a.block, a.off, 0, 0, 0⟩⟩] := ⟨_, rfl⟩
        have hl : bs.length = 1 := by rw [hbs]; rfl
        have hb0 : bs[0]? = some ⟨.dead, ⟨a.block, a.off, 0, 0, 0⟩⟩ := by rw [hbs]; rfl
        obtain ⟨h', r1, r2⟩ := limits_long (D := 23) (by omega) (some (4, 0)) len cap known (start bs) (pows_start (by omega)) hlong
        exact limits_run r1 r2 (start_lo bs) (rel_start hw (by omega) (fun b hb => by rw [hbs] at hb; simp at hb; subst hb; trivial) (fun b hb => by rw [hbs] at hb; simp at hb; subst hb; exact hB) (fun b hb => by rw [hbs] at hb; simp at hb; subst hb; trivial)) (glob_start bs)
          (renL_c (hA _ _ _ (injB_at hb0)) (renL_c ren_i renL_n))
      · obtain ⟨es, hel, hes⟩ := list_of (Q := fun i (e : ER) => (still e.A.o ∧ still e.B.o ∧ still e.C.o) ∧ (e.A.i.B < w.heap.size ∧ e.B.i.B < w.heap.size ∧ e.C.i.B < w.heap.size) ∧ (∀ ι, ObjRel ι e.A.i w e.A.o ∧ ObjRel ι e.B.i w e.B.o ∧ ObjRel ι e.C.i w e.C.o) ∧
            (∃ cs', w.cells? 0 (a.add (i * 63)) 63 = some cs' ∧ ∀ b ι, ι b = some e.A.i → ι (b + 1) = some e.B.i → ι (b + 2) = some e.C.i → renL ι (e.x b).cells = some cs') ∧
            (∀ b h, b + 2 < h.next → h.get b = some e.A.o → h.get (b + 1) = some e.B.o → h.get (b + 2) = some e.C.o → EAt h (e.x b).d)) len fun i hi => by
          obtain ⟨cs', g1, g2⟩ := h3 i (by omega)
          rw [cells62] at g1
          obtain ⟨x, A, B, C, p1, p2, p3, p4, p5⟩ := ent_row hw0 g2
          exact ⟨⟨x, A, B, C⟩, p1, p2, p3, ⟨cs', g1, p4⟩, p5⟩
        obtain ⟨xs, hxs⟩ : ∃ xs, xs = xsOf 5 es := ⟨_, rfl⟩
        have hxl : xs.length = len := by rw [hxs, xsOf_len, hel]
        obtain ⟨bs, hbs⟩ : ∃ bs : List Blk, bs = ⟨.cells (xs.map XD.cells).flatten 63 false true [], ⟨a.block, a.off, (xs.map XD.cells).flatten.length, 0, 63⟩⟩ :: bsOf es := ⟨_, rfl⟩
        have hl : bs.length = 1 + 3 * len := by rw [hbs, List.length_cons, bsOf_len, hel]; omega
        have hn : 4 + bs.length ≤ 1048576 := by omega
        have hb0 : bs[0]? = some ⟨.cells (xs.map XD.cells).flatten 63 false true [], ⟨a.block, a.off, (xs.map XD.cells).flatten.length, 0, 63⟩⟩ := by rw [hbs]; rfl
        have hbi : ∀ i e, es[i]? = some e → bs[1 + 3 * i]? = some e.A ∧ bs[1 + 3 * i + 1]? = some e.B ∧ bs[1 + 3 * i + 2]? = some e.C := fun i e he => by
          obtain ⟨g1, g2, g3⟩ := bsOf_get es i he
          rw [hbs]
          refine ⟨?_, ?_, ?_⟩
          · rw [show 1 + 3 * i = 3 * i + 1 by omega]; exact g1
          · rw [show 1 + 3 * i + 1 = (3 * i + 1) + 1 by omega]; exact g2
          · rw [show 1 + 3 * i + 2 = (3 * i + 2) + 1 by omega]; exact g3
        have hrow : ∀ i r, (xs.map XD.cells)[i]? = some r → r.length = 63 ∧ ∃ cs', w.cells? 0 (a.add (i * 63)) 63 = some cs' ∧ renL (injB bs) r = some cs' := fun i r hr => by
          rw [List.getElem?_map] at hr
          cases hy : xs[i]? with
          | none => simp [hy] at hr
          | some y =>
            simp [hy] at hr
            subst hr
            rw [hxs] at hy
            obtain ⟨e, he, rfl⟩ := xsOf_get es 5 i hy
            obtain ⟨_, _, _, ⟨cs', g1, g2⟩, _⟩ := hes i e he
            obtain ⟨b1, b2, b3⟩ := hbi i e he
            refine ⟨XD.len _, cs', g1, g2 (5 + 3 * i) (injB bs) ?_ ?_ ?_⟩
            · rw [show 5 + 3 * i = 4 + (1 + 3 * i) by omega]; exact injB_at b1
            · rw [show 5 + 3 * i + 1 = 4 + (1 + 3 * i + 1) by omega]; exact injB_at b2
            · rw [show 5 + 3 * i + 2 = 4 + (1 + 3 * i + 2) by omega]; exact injB_at b3
        have hlen : ∀ r ∈ xs.map XD.cells, r.length = 63 := fun r hm => by
          obtain ⟨i, hi, rfl⟩ := List.getElem_of_mem hm
          exact (hrow i _ (List.getElem?_eq_getElem hi)).1
        have hE : ∀ x ∈ xs, EAt (start bs) x.d := fun x hx => by
          obtain ⟨i, hi, rfl⟩ := List.getElem_of_mem hx
          have hy : (xsOf 5 es)[i]? = some xs[i] := by rw [← hxs]; exact List.getElem?_eq_getElem hi
          obtain ⟨e, he, hxe⟩ := xsOf_get es 5 i hy
          obtain ⟨_, _, _, _, g⟩ := hes i e he
          obtain ⟨b1, b2, b3⟩ := hbi i e he
          have hil : i < len := by rw [← hxl]; exact hi
          rw [hxe]
          refine g (5 + 3 * i) (start bs) (by rw [start_next]; omega) ?_ ?_ ?_
          · rw [show 5 + 3 * i = 4 + (1 + 3 * i) by omega]; exact start_at hn b1
          · rw [show 5 + 3 * i + 1 = 4 + (1 + 3 * i + 1) by omega]; exact start_at hn b2
          · rw [show 5 + 3 * i + 2 = 4 + (1 + 3 * i + 2) by omega]; exact start_at hn b3
        have hSl : SlR (start bs) 63 XD.cells (some (4, 0)) len xs := ⟨hxl, rows_ok (by rw [start_next]; omega) (start_at hn (k := 0) hb0) hlen⟩
        obtain ⟨h', r1, r2⟩ := limits_x (D := 23) (by omega) (some (4, 0)) len cap xs known (start bs) hSl hE (pows_start hn) (by rw [start_next]; omega)
        have hmem : ∀ b ∈ bs, b = ⟨.cells (xs.map XD.cells).flatten 63 false true [], ⟨a.block, a.off, (xs.map XD.cells).flatten.length, 0, 63⟩⟩ ∨ ∃ (i : Nat) (e : ER), es[i]? = some e ∧ (b = e.A ∨ b = e.B ∨ b = e.C) := fun b hb => by
          rw [hbs] at hb
          rcases List.mem_cons.1 hb with h | h
          · exact .inl h
          · obtain ⟨e, he, hq⟩ := bsOf_mem h
            obtain ⟨i, hi, rfl⟩ := List.getElem_of_mem he
            exact .inr ⟨i, _, List.getElem?_eq_getElem hi, hq⟩
        refine limits_run r1 r2 (start_lo bs) (rel_start hw hn (fun b hb => ?_) (fun b hb => ?_) (fun b hb => ?_)) (glob_start bs) (renL_c (hA _ _ _ (injB_at hb0)) (renL_c ren_i renL_n))
        · rcases hmem b hb with rfl | ⟨i, e, he, hq⟩
          · exact ⟨rfl, rfl⟩
          · obtain ⟨⟨s1, s2, s3⟩, _⟩ := hes i e he
            rcases hq with rfl | rfl | rfl
            · exact s1
            · exact s2
            · exact s3
        · rcases hmem b hb with rfl | ⟨i, e, he, hq⟩
          · exact hB
          · obtain ⟨_, ⟨s1, s2, s3⟩, _⟩ := hes i e he
            rcases hq with rfl | rfl | rfl
            · exact s1
            · exact s2
            · exact s3
        · rcases hmem b hb with rfl | ⟨i, e, he, hq⟩
          · exact rows_obj (by decide) hs ha rfl hrow
          · obtain ⟨_, _, s, _⟩ := hes i e he
            obtain ⟨s1, s2, s3⟩ := s (injB bs)
            rcases hq with rfl | rfl | rfl
            · exact s1
            · exact s2
            · exact s3
end Go.Proofs
end
