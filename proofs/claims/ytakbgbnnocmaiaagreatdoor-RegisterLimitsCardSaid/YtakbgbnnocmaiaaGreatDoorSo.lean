/- A weakest precondition over the executor: what a piece of code asks of its slots and of memory, so that it ends as is said. It is made to be computed: a test of a value that is not known becomes a choice, a look into memory or a call a question. -/
import Derived.Test.YtakbgbnnocmaiaaGreatDoorSa
import Derived.Test.YtakbgbnnocmaiaaGreatDoorSj
set_option linter.all false
section
namespace Go.Sim

noncomputable section

/-! ### Slots: what is known of them -/

abbrev Pv := List (Nat × AVal)

def fnd (t : Nat) : Pv → Option AVal
  | [] => none
  | p :: l => sel (Nat.beq t p.1) (some p.2) (fnd t l)

def evP (l : Pv) : Operand → Option AVal
  | .tmp t => fnd t l
  | .const v => cV v
  | .global g => sel (Nat.blt g ngl) (some (.ptr (some (g, 0)))) none
  | .func f => some (.func f [])

def evPs (l : Pv) : List Operand → Option (List AVal)
  | [] => some []
  | x :: r => ob (evP l x) (fun v => ob (evPs l r) (fun vs => some (v :: vs)))

def evPo (l : Pv) : Option Operand → Option (Option Int)
  | none => some none
  | some x => ob (evP l x) (fun v => ob (asI v) (fun i => some (some i)))

abbrev R2 := AVal → H → Prop

def pe {α : Type} (o : Option α) (k : α → Prop) : Prop := @Option.rec α (fun _ => Prop) False k o
def ps (b : Bool) (p q : Prop) : Prop := @Bool.rec (fun _ => Prop) q p b

/-! ### What is known of types and functions -/

structure SV where
  ld : Nat → Option (Bool × Nat)
  fld : Nat → Nat → Option (Nat × Nat × Bool)
  el : Nat → Option (Nat × Nat)
  str : Nat → Bool
  nif : Nat → Bool
  eqt : Nat → Option (List Nat)
  zero : Nat → Option (List AVal)
  strc : Nat → Bool
  ext : Nat → Bool

/-- what a load, a build and their like lean on -/
structure SOk (S : SV) (C : Ctx) : Prop where
  ld : ∀ t p, S.ld t = some p → ∃ ti, C.tt.get t = some ti ∧ aggD ti.desc = p.1 ∧ ti.sz = p.2
  fld : ∀ t f p, S.fld t f = some p → fieldOf C t f = some p
  el : ∀ t p, S.el t = some p → ∃ ti e te, C.tt.get t = some ti ∧ ti.desc = .slice e ∧ C.tt.get e = some te ∧ te.sz = p.1 ∧ te.bytes = p.2
  str : ∀ t, S.str t = true → ∃ ti, C.tt.get t = some ti ∧ ti.desc = .string
  nif : ∀ t, S.nif t = true → ∃ ti, C.tt.get t = some ti ∧ ifaceD ti.desc = false
  eqt : ∀ t ks, S.eqt t = some ks → C.eqT t = some ks
  zero : ∀ t z, S.zero t = some z → ∃ ti, C.tt.get t = some ti ∧ ti.zero = some z
  strc : ∀ t, S.strc t = true → ∃ ti fs, C.tt.get t = some ti ∧ ti.desc = .struct fs
  ext : ∀ f, S.ext f = true → C.ext f = none

section
variable (C : Ctx) (S : SV) (g : G) (n : Nat)

def Agree (l : Pv) (e : Env) : Prop := ∀ t v, fnd t l = some v → t < 256 ∧ e.get t = some v

/-- an operation answers so and so, whatever comes behind it -/
def OpRun (op : Op) (l : Pv) (h : H) (v : AVal) (h' : H) : Prop :=
  ∀ d x e p k, x.s.n = n → Agree l e → (opF C d op).run g x e h p k = (putF d).run v x e h' k

def wGen (op : Op) (l : Pv) (h : H) (R : R2) : Prop := ∃ v h', OpRun C g n op l h v h' ∧ R v h'

/-- a truth value that is not known: it has one of two -/
def w2 (r : AVal) (h : H) (R : R2) : Prop :=
  match r with
  | .bool b => ∀ c, b = c → R (.bool c) h
  | r => R r h

def wBin (op : BinOp) (t : TypeId) (u v : AVal) (h : H) (R : R2) : Prop :=
  match u, v with
  | .int k a, .int k' b => ps (isShift op) (pe (shiftA op k a b) (fun r => R r h)) (ps (eqKd k k') (pe (intBin op k a b) (fun r => w2 r h R)) False)
  | .str a, .str b => pe (strBin op a b) (fun r => w2 r h R)
  | .agg x, .agg y => match op with
    | .eql => ∃ b, sel (fitO (S.eqt t) x) (eqL x y) none = some b ∧ w2 (.bool b) h R
    | .neq => ∃ b, sel (fitO (S.eqt t) x) (eqL x y) none = some b ∧ w2 (.bool (!b)) h R
    | _ => False
  | .slc a _ _, .slc none _ _ => pe (S.el t) (fun _ => match op with
    | .eql => w2 (.bool a.isNone) h R
    | .neq => w2 (.bool (!a.isNone)) h R
    | _ => False)
  | _, _ => False

/-- the parts of a struct that is built -/
def wPlaces (l : Pv) (t : TypeId) : List (Nat × Operand) → Option (List (Nat × Nat × AVal))
  | [] => some []
  | p :: r => ob (S.fld t p.1) (fun q => ob (evP l p.2) (fun v => ob (wPlaces l t r) (fun r => some ((q.1, q.2.1, v) :: r))))

def wAssert (t : TypeId) (ok : Bool) (v : AVal) (h : H) (R : R2) : Prop :=
  match v with
  | .iface u w => ps (Nat.beq u t) (R (sel ok (.tup [w, .bool true]) w) h) (ps ok (pe (S.ld t) (fun q => pe (S.zero t) (fun z => pe (sel q.1 (some (.agg z)) (match z with | [v] => some v | _ => none)) (fun z => R (.tup [z, .bool false]) h)))) False)
  | _ => False

def wLen (t : TypeId) (v : AVal) (h : H) (R : R2) : Prop :=
  match v with
  | .slc _ m _ => pe (S.el t) (fun _ => R (.int .i64 (Int.ofNat m)) h)
  | .str s => ps (S.str t) (R (.int .i64 (Int.ofNat (len s))) h) False
  | _ => False

/-- a new block, under a name of its own -/
def wAlloc (o : AObj) (h : H) (R : Nat → H → Prop) : Prop := h.room = true ∧ ∀ p h', p = h.next → h' = h.alloc o → R p h'

def wCall (f : FuncId) (vs : List AVal) (h : H) (R : R2) : Prop := ∃ v h', g.call f vs h = .ok v h' ∧ w2 v h' R

def wOp (op : Op) (l : Pv) (h : H) (R : R2) : Prop :=
  match op with
  | .move a => pe (evP l a) (fun v => R v h)
  | .assign a => pe (evP l a) (fun v => R v h)
  | .pick c a b => pe (evP l c) (fun t => match t with | .bool t => ps t (pe (evP l a) (fun v => R v h)) (pe (evP l b) (fun v => R v h)) | _ => False)
  | .load t a => pe (evP l a) (fun p => pe (S.ld t) (fun q => ∃ v, loadP h q.1 q.2 p = some v ∧ R v h))
  | .box _ a => pe (evP l a) (fun v => wAlloc (.cells (cellsL v) (len (cellsL v)) false false []) h (fun p h' => R (.ptr (some (p, 0))) h'))
  | .alloc t => pe (S.ld t) (fun q => pe (S.zero t) (fun z => wAlloc (.cells z q.2 false false []) h (fun p h' => R (.ptr (some (p, 0))) h')))
  | .makeMap _ none => wAlloc (.map [] 0) h (fun p h' => R (.map (some p)) h')
  | .store t a b => pe (evP l a) (fun p => match p with
    | .ptr (some (b', off)) => pe (evP l b) (fun v => pe (S.ld t) (fun q => Nat.beq (len (cellsL v)) q.2 = true ∧ ∃ vs esz opn pars vs', h.get b' = some (.cells vs esz opn false pars) ∧ plains (cellsL v) = true ∧ putX off (cellsL v) vs = some vs' ∧
        ∀ h', h' = (kill h pars).setO b' (.cells vs' esz opn false []) → R .undef h'))
    | _ => False)
  | .nilCheck a => pe (evP l a) (fun v => match v with | .ptr (some _) => R v h | _ => False)
  | .fieldAddr t a f => pe (evP l a) (fun v => match v with
    | .ptr (some (b, off)) => pe (S.fld t f) (fun q => ps (Nat.beq q.2.1 0) False (R (.ptr (some (b, Nat.add off q.1))) h))
    | _ => False)
  | .field t a f => pe (evP l a) (fun v => match v with
    | .agg cs => pe (S.fld t f) (fun q => pe (loadC (some cs) q.2.2 q.2.1 q.1) (fun v => R v h))
    | _ => False)
  | .indexAddr t a i => pe (evP l a) (fun v => match v with
    | .slc (some p) m _ => pe (evP l i) (fun i => match i with
      | .int _ i => pe (S.el t) (fun q => ∃ j : Nat, i = Int.ofNat j ∧ j < m ∧ R (.ptr (some (p.1, Nat.add p.2 (Nat.mul j q.1)))) h)
      | _ => False)
    | _ => False)
  | .binOp op t a b _ => ps (S.nif t) (pe (evP l a) (fun u => pe (evP l b) (fun v => wBin S op t u v h R))) False
  | .unOp op _ a => pe (evP l a) (fun v => pe (unA op v) (fun r => R r h))
  | .makeInterface t a => ps (S.nif t) (pe (evP l a) (fun v => R (.iface t v) h)) False
  | .makeFunc fn fs cs => pe (fnOf fn fs.toList) (fun f => pe (evPs l cs.toList) (fun vs => R (.func f vs) h))
  | .build t q => ps (S.strc t) (pe (S.zero t) (fun z => pe (wPlaces S l t q.toList) (fun r => pe (fillA r z) (fun cs => R (.agg cs) h)))) False
  | .slice t a lo hi mx => pe (evP l a) (fun v => match v with
    | .slc p m c => ps (mx.isNone || hi.isSome) (pe (S.el t) (fun q => pe (evPo l lo) (fun lo => pe (evPo l hi) (fun hi => pe (evPo l mx) (fun mx => ∃ r, sliceA h q.1 p m c lo hi mx = some r ∧ R r h))))) False
    | _ => False)
  | .typeAssert a _ t ok => ps (S.nif t) (pe (evP l a) (fun v => wAssert S t ok v h R)) False
  | .extract a i => pe (evP l a) (fun v => match v with
    | .tup vs => pe (getX i vs) (fun v => R v h)
    | _ => False)
  | .call c => match c.callee with
    | .value (.func f) => ps (S.ext f) (pe (evPs l c.args.toList) (fun vs => wCall g f vs h R)) False
    | .value a => pe (evP l a) (fun fv => match fv with
      | .func f caps => pe (evPs l c.args.toList) (fun vs => wCall g f (app vs caps) h R)
      | _ => False)
    | .builtin .len => match c.argTypes.toList, c.args.toList with
      | t :: _, [a] => pe (evP l a) (fun v => wLen S t v h R)
      | _, _ => False
    | _ => wGen C g n (.call c) l h R
  | op => wGen C g n op l h R

def wPut (d : Option Nat) (l : Pv) (K : Pv → H → Prop) : R2 := fun v h => @Option.rec Nat (fun _ => Prop) (K l h) (fun d => ps (Nat.blt d n) (K ((d, v) :: l) h) False) d

/-- one operation, wanted or not -/
def wStep (all : List Oper) (o : Oper) (l : Pv) (h : H) (K : Pv → H → Prop) : Prop :=
  match o.guard with
  | none => wOp C S g n o.op l h (wPut n o.dst l K)
  | some p => pe (slotOf all p.1) (fun s => pe (fnd s l) (fun v => match v with
    | .bool b => ps b (ps p.2 (wOp C S g n o.op l h (wPut n o.dst l K)) (wPut n o.dst l K .undef h)) (ps p.2 (wPut n o.dst l K .undef h) (wOp C S g n o.op l h (wPut n o.dst l K)))
    | .undef => wPut n o.dst l K .undef h
    | _ => False))

def wOps (all : List Oper) : List Oper → Pv → H → (Pv → H → Prop) → Prop
  | [], l, h, K => K l h
  | o :: r, l, h, K => wStep C S g n all o l h (fun l h => wOps all r l h K)

def flat1 : AVal → Bool
  | .bool _ => true
  | .int _ _ => true
  | .str _ => true
  | .ptr _ => true
  | .slc _ _ _ => true
  | .map _ => true
  | .nilFunc => true
  | .nilIface => true
  | _ => false

def flats (l : List AVal) : Bool := @List.rec AVal (fun _ => Bool) true (fun v _ ih => sel (flat1 v) ih false) l

def flatV : AVal → Bool
  | .agg cs => flats cs
  | v => flat1 v

/-- a look that a change of memory does not turn -/
def wStable (l : Pv) (h h' : H) (all : List Oper) (o : Oper) : Prop :=
  oe o.dst true (fun d => !memN d (namesA all o)) = true ∧ match o.guard, o.op with
  | none, .load t a => pe (evP l a) (fun p => pe (S.ld t) (fun q => ∃ v, loadP h q.1 q.2 p = some v ∧ loadP h' q.1 q.2 p = some v ∧ flatV v = true))
  | none, .call c => match c.callee, c.argTypes.toList, c.args.toList with
    | .builtin .len, t :: _, [a] => pe (evP l a) (fun v => match v with
      | .slc _ _ _ => pe (S.el t) (fun _ => True)
      | .str _ => ps (S.str t) True False
      | _ => False)
    | _, _, _ => False
  | _, _ => False

/-- may the operation 'i' change memory? -/
def wMod (all : List Oper) (anc : List Nat) (tail i : Nat) (l : Pv) (h h' : H) : List Oper → Nat → Prop
  | [], _ => True
  | o :: r, j => ps (Nat.blt j tail)
      (ps (Nat.beq j i) (wMod all anc tail i l h h' r (Nat.add j 1))
        (ps (Nat.blt j i)
          (ps (Nat.testBit (oe (getX i anc) 0 (fun n => n)) j) (wMod all anc tail i l h h' r (Nat.add j 1)) (ps (isHeavy o.op) False (ps (isLook o.op) (wStable S l h h' all o ∧ wMod all anc tail i l h h' r (Nat.add j 1)) (wMod all anc tail i l h h' r (Nat.add j 1)))))
          (ps (Nat.testBit (oe (getX j anc) 0 (fun n => n)) i) (wMod all anc tail i l h h' r (Nat.add j 1)) (ps (isHeavy o.op || isLook o.op) False (wMod all anc tail i l h h' r (Nat.add j 1)))))) True

/-- a region that draws its order -/
def wDraw (all : List Oper) (ri : RInfo) : List Oper → Nat → Pv → H → (Pv → H → Prop) → Prop
  | [], _, l, h, K => K l h
  | o :: r, i, l, h, K => ps (Nat.blt i ri.tail)
      (ps (isHeavy o.op)
        (wStep C S g n all o l (h.withLo big) (fun l' h' => (h.next ≤ h'.lo ∨ wMod S all ri.anc ri.tail i l h h' all 0) ∧ ∀ h2, h2 = h'.withLo (minN h.lo h'.lo) → wDraw all ri r (Nat.add i 1) l' h2 K))
        (wStep C S g n all o l h (fun l h => wDraw all ri r (Nat.add i 1) l h K)))
      (wOps C S g n all (o :: r) l h K)

abbrev Post := Ex → Pv → H → Prop

def isNil {α : Type} : List α → Bool
  | [] => true
  | _ => false

/-- the frame stays as it is; the slots that the code ends with are known in part -/
def Sat (x : FX) (r : XR) (Q : Post) : Prop := ∃ ex e h l, r = .mk ex x e h ∧ Agree l e ∧ Q ex l h

def wRun (c : Code) (l : Pv) (h : H) (Q : Post) : Prop := ∀ x e, x.s.n = n → Agree l e → Sat x ((comp C c).run g x e h) Q

def wC : Code → Pv → H → Post → Prop
  | .skip, l, h, Q => Q .normal l h
  | .region _ ops draw, l, h, Q => ps draw (pe (rinfo ops.toList) (fun ri => wDraw C S g n ops.toList ri ops.toList 0 l h (Q .normal))) (wOps C S g n ops.toList ops.toList l h (Q .normal))
  | .seq a b, l, h, Q => wC a l h (fun ex l h => match ex with | .normal => wC b l h Q | ex => Q ex l h)
  | .cond c a b, l, h, Q => pe (evP l c) (fun v => match v with | .bool t => ps t (wC a l h Q) (wC b l h Q) | _ => False)
  | .block id b, l, h, Q => match mapLoop? id b with
    | none => wC b l h (fun ex l h => match ex with | .exit i => ps (Nat.beq i id) (Q .normal l h) (Q (.exit i) l h) | ex => Q ex l h)
    | some _ => False
  | .exit id, l, h, Q => Q (.exit id) l h
  | .ret, l, h, Q => Q .ret l h
  | c, l, h, Q => wRun C g n c l h Q

def wRes (l : Pv) (h : H) : List ResultVar → (List AVal → Prop) → Prop
  | [], k => k []
  | .tmp t :: r, k => pe (fnd t l) (fun v => wRes l h r (fun vs => k (v :: vs)))
  | .cell a t :: r, k => pe (fnd a l) (fun p => pe (S.ld t) (fun q => ∃ v, loadP h q.1 q.2 p = some v ∧ wRes l h r (fun vs => k (v :: vs))))

def setP : List AVal → Nat → Pv
  | [], _ => []
  | v :: r, i => (i, v) :: setP r (Nat.add i 1)

def wFn (fn : Func) (args : List AVal) (h : H) (R : R2) : Prop :=
  pe fn.body (fun c => ps (Nat.ble (len args) fn.ntmps && Nat.ble fn.ntmps 256)
    (wC C S g fn.ntmps c (setP args 0) h (fun ex l h => match ex with
      | .normal => wRes S l h fn.results.toList (fun vs => R (packA vs) h)
      | .ret => wRes S l h fn.results.toList (fun vs => R (packA vs) h)
      | _ => False)) False)

end
end

end Go.Sim
end
section
/- The weakest precondition is sound for the executor. -/
namespace Go.Sim

theorem pe_iff {α : Type} {o : Option α} {k : α → Prop} : pe o k ↔ ∃ v, o = some v ∧ k v := by
  cases o with
  | none => exact ⟨fun h => h.elim, fun ⟨_, h, _⟩ => by cases h⟩
  | some v => exact ⟨fun h => ⟨v, rfl, h⟩, fun ⟨_, h, h'⟩ => by cases h; exact h'⟩

theorem ps_iff {b : Bool} {p q : Prop} : ps b p q ↔ (b = true ∧ p) ∨ (b = false ∧ q) := by
  cases b with
  | true => exact ⟨fun h => .inl ⟨rfl, h⟩, fun h => by rcases h with ⟨_, h⟩ | ⟨h, _⟩; exact h; cases h⟩
  | false => exact ⟨fun h => .inr ⟨rfl, h⟩, fun h => by rcases h with ⟨h, _⟩ | ⟨_, h⟩; cases h; exact h⟩

theorem psF {b : Bool} {p : Prop} (h : ps b p False) : b = true ∧ p := by
  rcases ps_iff.1 h with h | ⟨_, h⟩
  · exact h
  · exact h.elim

variable {C : Ctx} {S : SV} {g : G} {n : Nat}

theorem evP_ok {l : Pv} {e : Env} (A : Agree l e) {x : Operand} {v : AVal} (h : evP l x = some v) : (evF x).run e = some v := by
  cases x with
  | tmp t =>
    obtain ⟨h1, h2⟩ := A t v h
    have : evF (.tmp t) = sel (Nat.blt t 256) ⟨(getE 4 t).run⟩ ⟨fun _ => none⟩ := rfl
    rw [this, natBlt, decide_eq_true h1]
    exact h2
  | const c => exact h
  | global gl =>
    have h : sel (Nat.blt gl ngl) (some (.ptr (some (gl, 0)))) none = some v := h
    have : evF (.global gl) = sel (Nat.blt gl ngl) ⟨fun _ => some (.ptr (some (gl, 0)))⟩ ⟨fun _ => none⟩ := rfl
    rw [this]
    cases hb : Nat.blt gl ngl with
    | true => rw [hb] at h; exact h
    | false => rw [hb] at h; cases h
  | func f => exact h

theorem evPs_ok {l : Pv} {e : Env} (A : Agree l e) : ∀ {xs : List Operand} {vs : List AVal}, evPs l xs = some vs → (evsF xs).run e = some vs
  | [], vs, h => h
  | x :: r, vs, h => by
    have h : ob (evP l x) (fun v => ob (evPs l r) (fun vs => some (v :: vs))) = some vs := h
    rw [ob_eq] at h
    obtain ⟨v, h1, h⟩ := h
    rw [ob_eq] at h
    obtain ⟨q, h2, h⟩ := h
    show ob ((evF x).run e) (fun v => ob ((evsF r).run e) (fun vs => some (v :: vs))) = some vs
    rw [evP_ok A h1, ob_some, evPs_ok A h2, ob_some]; exact h

theorem evPo_ok {l : Pv} {e : Env} (A : Agree l e) {x : Option Operand} {v : Option Int} (h : evPo l x = some v) : (evoF x).run e = some v := by
  cases x with
  | none => exact h
  | some x =>
    have h : ob (evP l x) (fun v => ob (asI v) (fun i => some (some i))) = some v := h
    rw [ob_eq] at h
    obtain ⟨u, h1, h⟩ := h
    show ob ((evF x).run e) (fun v => ob (asI v) (fun i => some (some i))) = some v
    rw [evP_ok A h1, ob_some]; exact h

theorem Agree.set {l : Pv} {e : Env} (A : Agree l e) {d : Nat} (hd : d < 256) (v : AVal) : Agree ((d, v) :: l) (e.set d v) := by
  intro t u h
  have h : sel (Nat.beq t d) (some v) (fnd t l) = some u := h
  rw [natBeq, sel_eq] at h
  split at h
  · rename_i ht
    have ht : t = d := by simpa using ht
    exact ⟨ht ▸ hd, by rw [Env.get_set _ _ _ _ (ht ▸ hd) hd, if_pos ht]; exact h⟩
  · rename_i ht
    have ht : t ≠ d := by simpa using ht
    obtain ⟨h1, h2⟩ := A t u h
    exact ⟨h1, by rw [Env.get_set _ _ _ _ h1 hd, if_neg ht]; exact h2⟩

theorem Agree.nil {e : Env} : Agree [] e := fun _ _ h => by cases h

/-- an operation whose value is reckoned from its slots alone -/
theorem OpRun.gen {op : Op} {l : Pv} {h : H} {R : R2} {v : AVal} {h' : H} (hr : R v h') (hx : OpRun C g n op l h v h') : wGen C g n op l h R := ⟨v, h', hx, hr⟩

theorem evX_ok {l : Pv} {e : Env} (A : Agree l e) {x : Operand} {v : AVal} (h : evP l x = some v) (k : AVal → XR) : evX e x k = k v := by
  show ox ((evF x).run e) k = k v
  rw [evP_ok A h, ox_some]

theorem w2_ok {r : AVal} {h : H} {R : R2} (hw : w2 r h R) : R r h := by
  cases r with
  | bool b => exact hw b rfl
  | _ => exact hw

theorem wPlaces_ok (K : SOk S C) {l : Pv} {e : Env} (A : Agree l e) {t : TypeId} {fs : Array Field} {ti : TI} (ht : C.tt.get t = some ti) (hd : ti.desc = .struct fs) : ∀ {q : List (Nat × Operand)} {r : List (Nat × Nat × AVal)}, wPlaces S l t q = some r → (places C fs q).run e = some r
  | [], r, h => h
  | p :: q, r, h => by
    have h : ob (S.fld t p.1) (fun q' => ob (evP l p.2) (fun v => ob (wPlaces S l t q) (fun r => some ((q'.1, q'.2.1, v) :: r)))) = some r := h
    rw [ob_eq] at h
    obtain ⟨f, h1, h⟩ := h
    rw [ob_eq] at h
    obtain ⟨v, h2, h⟩ := h
    rw [ob_eq] at h
    obtain ⟨r', h3, h⟩ := h
    have hf := K.fld _ _ _ h1
    have hf : ob (C.tt.get t) (fun ti => ob (structD ti.desc) (fun fs => ob (getX p.1 fs.toList) (fun fd => ob (C.tt.get fd.type) (fun tf => some (fd.offset, tf.sz, aggD tf.desc))))) = some f := hf
    rw [ht, ob_some, hd] at hf
    have hf : ob (getX p.1 fs.toList) (fun fd => ob (C.tt.get fd.type) (fun tf => some (fd.offset, tf.sz, aggD tf.desc))) = some f := hf
    rw [ob_eq] at hf
    obtain ⟨fd, hf1, hf⟩ := hf
    rw [ob_eq] at hf
    obtain ⟨tf, hf2, hf⟩ := hf
    show (place1 C fs p (places C fs q)).run e = some r
    unfold place1
    rw [hf1, oe_some, hf2, oe_some]
    show ob ((evF p.2).run e) (fun v => ob ((places C fs q).run e) (fun r => some ((fd.offset, tf.sz, v) :: r))) = some r
    rw [evP_ok A h2, ob_some, wPlaces_ok K A ht hd h3, ob_some]
    cases hf
    exact h

theorem wOp_ok (K : SOk S C) {op : Op} {l : Pv} {h : H} {R : R2} (hw : wOp C S g n op l h R) : wGen C g n op l h R := by
  cases op with
  | move a =>
    obtain ⟨v, hv, hr⟩ := pe_iff.1 hw
    exact ⟨v, h, fun d x e p k _ A => evX_ok A hv _, hr⟩
  | assign a =>
    obtain ⟨v, hv, hr⟩ := pe_iff.1 hw
    exact ⟨v, h, fun d x e p k _ A => evX_ok A hv _, hr⟩
  | pick c a b =>
    obtain ⟨t, ht, hw⟩ := pe_iff.1 hw
    cases t with
    | bool t =>
      rcases ps_iff.1 hw with ⟨rfl, hw⟩ | ⟨rfl, hw⟩
      · obtain ⟨v, hv, hr⟩ := pe_iff.1 hw
        exact ⟨v, h, fun d x e p k _ A => (evX_ok A ht _).trans (evX_ok A hv _), hr⟩
      · obtain ⟨v, hv, hr⟩ := pe_iff.1 hw
        exact ⟨v, h, fun d x e p k _ A => (evX_ok A ht _).trans (evX_ok A hv _), hr⟩
    | _ => exact hw.elim
  | load t a =>
    obtain ⟨p, hp, hw⟩ := pe_iff.1 hw
    obtain ⟨q, hq, v, hv, hr⟩ := pe_iff.1 hw
    obtain ⟨ti, h1, h2, h3⟩ := K.ld t q hq
    refine ⟨v, h, fun d x e p' k _ A => ?_, hr⟩
    show (opLoad C t a d).run g x e h p' k = _
    unfold opLoad
    rw [h1]
    show evX e a (fun p => ox (loadT h ti p) (fun v => (putF d).run v x e h k)) = _
    rw [evX_ok A hp]
    unfold loadT
    rw [h2, h3, hv, ox_some]
  | box t a =>
    obtain ⟨v, hv, hroom, hr⟩ := pe_iff.1 hw
    refine ⟨_, _, fun d x e p k _ A => ?_, hr _ _ rfl rfl⟩
    show evX e a (fun v => allocX d x e h k (.cells (cellsL v) (len (cellsL v)) false false [])) = _
    rw [evX_ok A hv]
    show sel h.room _ _ = _
    rw [hroom]
  | alloc t =>
    obtain ⟨q, hq, hw⟩ := pe_iff.1 hw
    obtain ⟨z, hz, hroom, hr⟩ := pe_iff.1 hw
    obtain ⟨ti, h1, h2, h3⟩ := K.ld t q hq
    obtain ⟨ti', h1', h2'⟩ := K.zero t z hz
    rw [h1] at h1'; cases h1'
    refine ⟨_, _, fun d x e p k _ A => ?_, hr _ _ rfl rfl⟩
    show (opAlloc C t d).run g x e h p k = _
    unfold opAlloc
    rw [h1]
    show (so ti.zero (fun z => (⟨fun _ x e h _ k => allocX d x e h k (.cells z ti.sz false false [])⟩ : OpF))).run g x e h p k = _
    rw [h2']
    show sel h.room _ _ = _
    rw [hroom, h3]
  | store t a b =>
    obtain ⟨p, hp, hw⟩ := pe_iff.1 hw
    cases p with
    | ptr o =>
      cases o with
      | none => exact hw.elim
      | some q =>
        obtain ⟨b', off⟩ := q
        obtain ⟨v, hv, hw⟩ := pe_iff.1 hw
        obtain ⟨q, hq, hlen, vs, esz, opn, pars, vs', hg, hpl, hput, hr⟩ := pe_iff.1 hw
        obtain ⟨ti, h1, h2, h3⟩ := K.ld t q hq
        refine ⟨_, _, fun d x e p k _ A => ?_, hr _ rfl⟩
        show (opStore C t a b d).run g x e h p k = _
        unfold opStore
        rw [h1]
        show evX e a (fun p => onPtr p (fun b' off => evX e b (fun v => sel (Nat.beq (len (cellsL v)) ti.sz) (writeX h b' off (cellsL v) (fun h' => (putF d).run .undef x e h' k)) .bad))) = _
        rw [evX_ok A hp]
        show evX e b (fun v => sel (Nat.beq (len (cellsL v)) ti.sz) (writeX h b' off (cellsL v) (fun h' => (putF d).run .undef x e h' k)) .bad) = _
        rw [evX_ok A hv, h3, hlen]
        show writeX h b' off (cellsL v) (fun h' => (putF d).run .undef x e h' k) = _
        unfold writeX
        rw [hg]
        show sel (!false && plains (cellsL v)) (ox (putX off (cellsL v) vs) (fun vs' => (putF d).run .undef x e ((kill h pars).setO b' (.cells vs' esz opn false [])) k)) .bad = _
        rw [hpl, hput]
        rfl
    | _ => exact hw.elim
  | nilCheck a =>
    obtain ⟨v, hv, hw⟩ := pe_iff.1 hw
    cases v with
    | ptr o =>
      cases o with
      | none => exact hw.elim
      | some q => exact ⟨_, h, fun d x e p k _ A => evX_ok A hv _, hw⟩
    | _ => exact hw.elim
  | fieldAddr t a f =>
    obtain ⟨v, hv, hw⟩ := pe_iff.1 hw
    cases v with
    | ptr o =>
      cases o with
      | none => exact hw.elim
      | some q =>
        obtain ⟨b, off⟩ := q
        obtain ⟨q, hq, hw⟩ := pe_iff.1 hw
        rcases ps_iff.1 hw with ⟨_, hw⟩ | ⟨hz, hr⟩
        · exact hw.elim
        · refine ⟨_, h, fun d x e p k _ A => ?_, hr⟩
          show (opFaddr C t a f d).run g x e h p k = _
          unfold opFaddr
          rw [K.fld t f q hq]
          show (sel (Nat.beq q.2.1 0) OpF.bad (⟨fun _ x e h _ k => evX e a (fun v => onPtr v (fun b off => (putF d).run (.ptr (some (b, Nat.add off q.1))) x e h k))⟩ : OpF)).run g x e h p k = _
          rw [hz]
          exact evX_ok A hv _
    | _ => exact hw.elim
  | field t a f =>
    obtain ⟨v, hv, hw⟩ := pe_iff.1 hw
    cases v with
    | agg cs =>
      obtain ⟨q, hq, hw⟩ := pe_iff.1 hw
      obtain ⟨u, hu, hr⟩ := pe_iff.1 hw
      refine ⟨_, h, fun d x e p k _ A => ?_, hr⟩
      show (opField C t a f d).run g x e h p k = _
      unfold opField
      rw [K.fld t f q hq]
      show evX e a (fun v => onAgg v (fun cs => ox (loadC (some cs) q.2.2 q.2.1 q.1) (fun v => (putF d).run v x e h k))) = _
      rw [evX_ok A hv]
      show ox (loadC (some cs) q.2.2 q.2.1 q.1) (fun v => (putF d).run v x e h k) = _
      rw [hu, ox_some]
    | _ => exact hw.elim
  | indexAddr t a i =>
    obtain ⟨v, hv, hw⟩ := pe_iff.1 hw
    cases v with
    | slc o m c =>
      cases o with
      | none => exact hw.elim
      | some p =>
        obtain ⟨i', hi, hw⟩ := pe_iff.1 hw
        cases i' with
        | int kd i' =>
          obtain ⟨q, hq, j, rfl, hj, hr⟩ := pe_iff.1 hw
          obtain ⟨ti, el, te, h1, h2, h3, h4, _⟩ := K.el t q hq
          refine ⟨_, h, fun d x e p' k _ A => ?_, hr⟩
          show (opIaddr C t a i d).run g x e h p' k = _
          unfold opIaddr
          rw [h1]
          show (iaF C a i d ti.desc).run g x e h p' k = _
          rw [h2]
          show (so (C.tt.get el) (fun te => iaSl te.sz a i d)).run g x e h p' k = _
          rw [h3]
          show evX e a (fun v => onSlc v (fun p l _ => ox p (fun p => evX e i (fun i => onInt i (fun _ i => iaX d x e h k te.sz p.1 p.2 l i))))) = _
          rw [evX_ok A hv]
          show evX e i (fun i => onInt i (fun _ i => iaX d x e h k te.sz p.1 p.2 m i)) = _
          rw [evX_ok A hi]
          show sel (Nat.blt j m) ((putF d).run (.ptr (some (p.1, Nat.add p.2 (Nat.mul j te.sz)))) x e h k) .bad = _
          rw [natBlt, decide_eq_true hj, h4]
        | _ => exact hw.elim
    | _ => exact hw.elim
  | binOp op t a b q =>
    obtain ⟨hn, hw⟩ := psF hw
    obtain ⟨u, hu, hw⟩ := pe_iff.1 hw
    obtain ⟨v, hv, hw⟩ := pe_iff.1 hw
    obtain ⟨ti, h1, h2⟩ := K.nif t hn
    have run : ∀ r, (isNil2 false u v = false) → binA (C.eqT t) ti.desc op u v = some r → R r h → wGen C g n (.binOp op t a b q) l h R := fun r hn hb hr => by
      refine ⟨r, h, fun d x e p k _ A => ?_, hr⟩
      show (opBin C op t a b d).run g x e h p k = _
      unfold opBin
      rw [h1]
      show evX e a (fun u => evX e b (fun v => sel (isNil2 ((Region.isConst a || Region.isConst b) && ifaceD ti.desc) u v)
        (ox (eqOp op (some true)) (fun v => (putF d).run v x e h k)) (ox (binA (C.eqT t) ti.desc op u v) (fun v => (putF d).run v x e h k)))) = _
      rw [evX_ok A hu, evX_ok A hv, h2, Bool.and_false, hn, hb]
    cases u with
    | int k x =>
      cases v with
      | int k' y =>
        rcases ps_iff.1 hw with ⟨hs, hw⟩ | ⟨hs, hw⟩
        · obtain ⟨r, hr, hw⟩ := pe_iff.1 hw
          exact run r rfl (by show sel (isShift op) (shiftA op k x y) (sel (eqKd k k') (intBin op k x y) none) = _; rw [hs]; exact hr) hw
        · obtain ⟨hk, hw⟩ := psF hw
          obtain ⟨r, hr, hw⟩ := pe_iff.1 hw
          exact run r rfl (by show sel (isShift op) (shiftA op k x y) (sel (eqKd k k') (intBin op k x y) none) = _; rw [hs, hk]; exact hr) (w2_ok hw)
      | _ => exact hw.elim
    | str x =>
      cases v with
      | str y =>
        obtain ⟨r, hr, hw⟩ := pe_iff.1 hw
        exact run r rfl hr (w2_ok hw)
      | _ => exact hw.elim
    | agg x =>
      cases v with
      | agg y =>
        have hfit : ∀ r, sel (fitO (S.eqt t) x) (eqL x y) none = some r → sel (fitO (C.eqT t) x) (eqL x y) none = some r := fun r hr => by
          cases he : S.eqt t with
          | none =>
            have : fitO (none : Option (List Nat)) x = false := rfl
            rw [he, this] at hr; cases hr
          | some ks => rw [he] at hr; rw [K.eqt t ks he]; exact hr
        cases op with
        | eql =>
          obtain ⟨r, hr, hw⟩ := hw
          exact run _ rfl (by show eqOp .eql (sel (fitO (C.eqT t) x) (eqL x y) none) = _; rw [hfit r hr]; rfl) (w2_ok hw)
        | neq =>
          obtain ⟨r, hr, hw⟩ := hw
          exact run _ rfl (by show eqOp .neq (sel (fitO (C.eqT t) x) (eqL x y) none) = _; rw [hfit r hr]; rfl) (w2_ok hw)
        | _ => exact hw.elim
      | _ => exact hw.elim
    | slc o m c =>
      cases v with
      | slc o' m' c' =>
        cases o' with
        | some _ => exact hw.elim
        | none =>
          obtain ⟨q', hq, hw⟩ := pe_iff.1 hw
          obtain ⟨ti', el, te, e1, e2, _⟩ := K.el t q' hq
          rw [h1] at e1; cases e1
          cases op with
          | eql => exact run _ rfl (by show eqOp .eql (eqO (C.eqT t) ti.desc (.slc o m c) (.slc none m' c')) = _; rw [e2]; cases o <;> rfl) (w2_ok hw)
          | neq => exact run _ rfl (by show eqOp .neq (eqO (C.eqT t) ti.desc (.slc o m c) (.slc none m' c')) = _; rw [e2]; cases o <;> rfl) (w2_ok hw)
          | _ => exact hw.elim
      | _ => exact hw.elim
    | _ => exact hw.elim
  | unOp op t a =>
    obtain ⟨v, hv, hw⟩ := pe_iff.1 hw
    obtain ⟨r, hr, hw⟩ := pe_iff.1 hw
    refine ⟨r, h, fun d x e p k _ A => ?_, hw⟩
    show evX e a (fun v => ox (unA op v) (fun v => (putF d).run v x e h k)) = _
    rw [evX_ok A hv, hr, ox_some]
  | makeInterface t a =>
    obtain ⟨hn, hw⟩ := psF hw
    obtain ⟨v, hv, hw⟩ := pe_iff.1 hw
    obtain ⟨ti, h1, h2⟩ := K.nif t hn
    refine ⟨_, h, fun d x e p k _ A => ?_, hw⟩
    show (opIface C t a d).run g x e h p k = _
    unfold opIface
    rw [h1]
    show (sel (ifaceD ti.desc) OpF.bad (⟨fun _ x e h _ k => evX e a (fun v => (putF d).run (.iface t v) x e h k)⟩ : OpF)).run g x e h p k = _
    rw [h2]
    exact evX_ok A hv _
  | makeFunc fn fs cs =>
    obtain ⟨f, hf, hw⟩ := pe_iff.1 hw
    obtain ⟨vs, hv, hw⟩ := pe_iff.1 hw
    refine ⟨_, h, fun d x e p k _ A => ?_, hw⟩
    show (opFunc fn fs cs d).run g x e h p k = _
    unfold opFunc
    rw [hf]
    show ox ((evsF cs.toList).run e) (fun vs => (putF d).run (.func f vs) x e h k) = _
    rw [evPs_ok A hv, ox_some]
  | build t q =>
    obtain ⟨hs, hw⟩ := psF hw
    obtain ⟨z, hz, hw⟩ := pe_iff.1 hw
    obtain ⟨r, hr, hw⟩ := pe_iff.1 hw
    obtain ⟨cs, hc, hw⟩ := pe_iff.1 hw
    obtain ⟨ti, fs, h1, h2⟩ := K.strc t hs
    obtain ⟨ti', h1', h2'⟩ := K.zero t z hz
    rw [h1] at h1'; cases h1'
    refine ⟨_, h, fun d x e p k _ A => ?_, hw⟩
    show (opBuild C t q d).run g x e h p k = _
    unfold opBuild
    rw [h1]
    show (so ti.zero (fun z => (⟨fun _ x e h _ k => ox ((buildParts C ti.desc q.toList).run e) (fun l => ox (fillA l z) (fun cs => (putF d).run (.agg cs) x e h k))⟩ : OpF))).run g x e h p k = _
    rw [h2', h2]
    show ox ((places C fs q.toList).run e) (fun l => ox (fillA l z) (fun cs => (putF d).run (.agg cs) x e h k)) = _
    rw [wPlaces_ok K A h1 h2 hr, ox_some, hc, ox_some]
  | slice t a lo hi mx =>
    obtain ⟨v, hv, hw⟩ := pe_iff.1 hw
    cases v with
    | slc o m c =>
      obtain ⟨hm, hw⟩ := psF hw
      obtain ⟨q, hq, hw⟩ := pe_iff.1 hw
      obtain ⟨lo', h1, hw⟩ := pe_iff.1 hw
      obtain ⟨hi', h2, hw⟩ := pe_iff.1 hw
      obtain ⟨mx', h3, r, hr, hw⟩ := pe_iff.1 hw
      obtain ⟨ti, el, te, e1, e2, e3, e4, _⟩ := K.el t q hq
      refine ⟨_, h, fun d x e p k _ A => ?_, hw⟩
      show (opSlice C t a lo hi mx d).run g x e h p k = _
      unfold opSlice
      rw [e1]
      show (slF C a lo hi mx d ti.desc).run g x e h p k = _
      rw [e2]
      have : slF C a lo hi mx d (.slice el) = sel (mx.isNone || hi.isSome) (so (C.tt.get el) (fun te => slSl te.sz a (evoF lo) (evoF hi) (evoF mx) d)) OpF.bad := by cases mx <;> rfl
      rw [this, hm, e3]
      show evX e a (fun v => onSlc v (fun a l cap => ox ((evoF lo).run e) (fun lo => ox ((evoF hi).run e) (fun hi => ox ((evoF mx).run e) (fun mx =>
        ox (sliceA h te.sz a l cap lo hi mx) (fun v => (putF d).run v x e h k)))))) = _
      rw [evX_ok A hv]
      show ox ((evoF lo).run e) (fun lo => ox ((evoF hi).run e) (fun hi => ox ((evoF mx).run e) (fun mx => ox (sliceA h te.sz o m c lo hi mx) (fun v => (putF d).run v x e h k)))) = _
      rw [evPo_ok A h1, ox_some, evPo_ok A h2, ox_some, evPo_ok A h3, ox_some, e4, hr, ox_some]
    | _ => exact hw.elim
  | typeAssert a t0 t ok =>
    obtain ⟨hn, hw⟩ := psF hw
    obtain ⟨v, hv, hw⟩ := pe_iff.1 hw
    obtain ⟨ti, h1, h2⟩ := K.nif t hn
    have run : ∀ r, (∀ d x e k, assertX d x e h k t ok (zeroV ti) v = (putF d).run r x e h k) → R r h → wGen C g n (.typeAssert a t0 t ok) l h R := fun r hx hr => by
      refine ⟨r, h, fun d x e p k _ A => ?_, hr⟩
      show (opAssert C a t ok d).run g x e h p k = _
      unfold opAssert
      rw [h1]
      show (sel (ifaceD ti.desc) OpF.bad (⟨fun _ x e h _ k => evX e a (fun v => assertX d x e h k t ok (zeroV ti) v)⟩ : OpF)).run g x e h p k = _
      rw [h2]
      show evX e a (fun v => assertX d x e h k t ok (zeroV ti) v) = _
      rw [evX_ok A hv]
      exact hx d x e k
    cases v with
    | iface u w =>
      rcases ps_iff.1 hw with ⟨hu, hw⟩ | ⟨hu, hw⟩
      · exact run _ (fun d x e k => by show sel (Nat.beq u t) _ _ = _; rw [hu]) hw
      · obtain ⟨hok, hw⟩ := psF hw
        obtain ⟨q, hq, hw⟩ := pe_iff.1 hw
        obtain ⟨z, hz, hw⟩ := pe_iff.1 hw
        obtain ⟨ti1, e1, e2, e3⟩ := K.ld t q hq
        rw [h1] at e1; cases e1
        obtain ⟨ti2, f1, f2⟩ := K.zero t z hz
        rw [h1] at f1; cases f1
        obtain ⟨z', hz', hw⟩ := pe_iff.1 hw
        refine run _ (fun d x e k => ?_) hw
        show sel (Nat.beq u t) _ (sel ok (ox (zeroV ti) (fun z => (putF d).run (.tup [z, .bool false]) x e h k)) .bad) = _
        rw [hu, hok]
        show ox (zeroV ti) (fun z => (putF d).run (.tup [z, .bool false]) x e h k) = _
        have : zeroV ti = some z' := by
          unfold zeroV
          rw [f2, ob_some, e2]; exact hz'
        rw [this, ox_some]
    | _ => exact hw.elim
  | extract a i =>
    obtain ⟨v, hv, hw⟩ := pe_iff.1 hw
    cases v with
    | tup vs =>
      obtain ⟨u, hu, hw⟩ := pe_iff.1 hw
      refine ⟨_, h, fun d x e p k _ A => ?_, hw⟩
      show evX e a (fun v => onTup v (fun vs => ox (getX i vs) (fun v => (putF d).run v x e h k))) = _
      rw [evX_ok A hv]
      show ox (getX i vs) (fun v => (putF d).run v x e h k) = _
      rw [hu, ox_some]
    | _ => exact hw.elim
  | makeMap t r =>
    cases r with
    | none =>
      obtain ⟨hroom, hr⟩ := hw
      refine ⟨_, _, fun d x e p k _ A => ?_, hr _ _ rfl rfl⟩
      show sel h.room _ _ = _
      rw [hroom]
    | some _ => exact hw
  | call c =>
    have builtin_len : ∀ t ts a, c.callee = .builtin .len → c.argTypes.toList = t :: ts → c.args.toList = [a] → (pe (evP l a) (fun v => wLen S t v h R)) → wGen C g n (.call c) l h R := fun t ts a h1 h2 h3 hw => by
      obtain ⟨v, hv, hw⟩ := pe_iff.1 hw
      have run : ∀ ti m, C.tt.get t = some ti → lenX ti.desc h v = some m → R (.int .i64 (Int.ofNat m)) h → wGen C g n (.call c) l h R := fun ti m ht hl hr => by
        refine ⟨_, h, fun d x e p k _ A => ?_, hr⟩
        show (calleeF C c.argTypes.toList c.args.toList d c.callee).run g x e h p k = _
        rw [h1, h2, h3]
        show (bLen C (t :: ts) [a] d).run g x e h p k = _
        show (so (C.tt.get t) (fun ti => (⟨fun _ x e h _ k => evX e a (fun v => ox (lenX ti.desc h v) (fun n => (putF d).run (.int .i64 (Int.ofNat n)) x e h k))⟩ : OpF))).run g x e h p k = _
        rw [ht]
        show evX e a (fun v => ox (lenX ti.desc h v) (fun n => (putF d).run (.int .i64 (Int.ofNat n)) x e h k)) = _
        rw [evX_ok A hv, hl, ox_some]
      cases v with
      | slc o m c' =>
        obtain ⟨q, hq, hw⟩ := pe_iff.1 hw
        obtain ⟨ti, el, te, e1, e2, _⟩ := K.el t q hq
        exact run ti m e1 (by rw [e2]; rfl) hw
      | str s =>
        obtain ⟨hs, hw⟩ := psF hw
        obtain ⟨ti, e1, e2⟩ := K.str t hs
        exact run ti _ e1 (by rw [e2]; rfl) hw
      | _ => exact hw.elim
    have static : ∀ f, c.callee = .value (.func f) → ps (S.ext f) (pe (evPs l c.args.toList) (fun vs => wCall g f vs h R)) False → wGen C g n (.call c) l h R := fun f h1 hw => by
      obtain ⟨he, hw⟩ := psF hw
      obtain ⟨vs, hv, v, h', hc, hr⟩ := pe_iff.1 hw
      replace hr := w2_ok hr
      refine ⟨v, h', fun d x e p k _ A => ?_, hr⟩
      show (calleeF C c.argTypes.toList c.args.toList d c.callee).run g x e h p k = _
      rw [h1]
      show (callS C f (evsF c.args.toList) d).run g x e h p k = _
      unfold callS
      rw [K.ext f he]
      show ox ((evsF c.args.toList).run e) (fun vs => ofC d x e p k (g.call f vs h)) = _
      rw [evPs_ok A hv, ox_some, hc]
      rfl
    have dyn : ∀ a, c.callee = .value a → (∀ f, a ≠ .func f) → (pe (evP l a) (fun fv => match fv with
        | .func f caps => pe (evPs l c.args.toList) (fun vs => wCall g f (app vs caps) h R)
        | _ => False)) → wGen C g n (.call c) l h R := fun a h1 hne hw => by
      obtain ⟨fv, hf, hw⟩ := pe_iff.1 hw
      cases fv with
      | func f caps =>
        obtain ⟨vs, hv, v, h', hc, hr⟩ := pe_iff.1 hw
        replace hr := w2_ok hr
        refine ⟨v, h', fun d x e p k _ A => ?_, hr⟩
        show (calleeF C c.argTypes.toList c.args.toList d c.callee).run g x e h p k = _
        rw [h1]
        have : calleeF C c.argTypes.toList c.args.toList d (.value a) = ⟨fun g x e h p k => evX e a (fun fv => ox ((evsF c.args.toList).run e) (fun vs => ofC d x e p k (callV g vs h fv)))⟩ := by
          cases a with
          | func f => exact absurd rfl (hne f)
          | _ => rfl
        rw [this]
        show evX e a (fun fv => ox ((evsF c.args.toList).run e) (fun vs => ofC d x e p k (callV g vs h fv))) = _
        rw [evX_ok A hf, evPs_ok A hv, ox_some]
        show ofC d x e p k (g.call f (app vs caps) h) = _
        rw [hc]
        rfl
      | _ => exact hw.elim
    have hw : (match c.callee with
      | .value (.func f) => ps (S.ext f) (pe (evPs l c.args.toList) (fun vs => wCall g f vs h R)) False
      | .value a => pe (evP l a) (fun fv => match fv with
        | .func f caps => pe (evPs l c.args.toList) (fun vs => wCall g f (app vs caps) h R)
        | _ => False)
      | .builtin .len => match c.argTypes.toList, c.args.toList with
        | t :: _, [a] => pe (evP l a) (fun v => wLen S t v h R)
        | _, _ => False
      | _ => wGen C g n (.call c) l h R) := hw
    cases hc : c.callee with
    | value a =>
      rw [hc] at hw
      cases a with
      | func f => exact static f hc hw
      | tmp t => exact dyn _ hc (fun f hf => by cases hf) hw
      | const t => exact dyn _ hc (fun f hf => by cases hf) hw
      | global t => exact dyn _ hc (fun f hf => by cases hf) hw
    | builtin b =>
      rw [hc] at hw
      cases b with
      | len =>
        cases h2 : c.argTypes.toList with
        | nil => rw [h2] at hw; exact hw.elim
        | cons t ts =>
          cases h3 : c.args.toList with
          | nil => rw [h2, h3] at hw; exact hw.elim
          | cons a r =>
            cases r with
            | nil => rw [h2, h3] at hw; exact builtin_len t ts a hc h2 h3 hw
            | cons a2 r2 => rw [h2, h3] at hw; exact hw.elim
      | _ => exact hw
    | _ => rw [hc] at hw; exact hw
  | _ => exact hw

/-! ### Operations in their places -/

theorem wPut_ok {op : Op} {l : Pv} {h : H} {K : Pv → H → Prop} {d : Option Nat} (hn : n ≤ 256) (hw : wGen C g n op l h (wPut n d l K)) {x : FX} {e : Env} (hx : x.s.n = n) (A : Agree l e) :
    ∃ e' l' h', Agree l' e' ∧ K l' h' ∧ ∀ p k, (opF C d op).run g x e h p k = k x e' h' := by
  obtain ⟨v, h', hr, hk⟩ := hw
  cases d with
  | none => exact ⟨e, l, h', A, hk, fun p k => (hr none x e p k hx A).trans rfl⟩
  | some d =>
    obtain ⟨hd, hk⟩ := psF (p := K ((d, v) :: l) h') hk
    have hd : d < n := by rw [natBlt] at hd; simpa using hd
    refine ⟨e.set d v, _, h', A.set (by omega) v, hk, fun p k => (hr (some d) x e p k hx A).trans ?_⟩
    show sel (Nat.blt d x.s.n) (k x ((putE 4 d).run (some v) e) h') .bad = _
    rw [hx, natBlt, decide_eq_true hd]

theorem wUndef_ok {l : Pv} {h : H} {K : Pv → H → Prop} {d : Option Nat} (hn : n ≤ 256) (hw : wPut n d l K .undef h) {x : FX} {e : Env} (hx : x.s.n = n) (A : Agree l e) :
    ∃ e' l' h', Agree l' e' ∧ K l' h' ∧ ∀ (k : Sim.K), (putF d).run .undef x e h k = k x e' h' := by
  cases d with
  | none => exact ⟨e, l, h, A, hw, fun k => rfl⟩
  | some d =>
    obtain ⟨hd, hk⟩ := psF (p := K ((d, .undef) :: l) h) hw
    have hd : d < n := by rw [natBlt] at hd; simpa using hd
    refine ⟨e.set d .undef, _, h, A.set (by omega) .undef, hk, fun k => ?_⟩
    show sel (Nat.blt d x.s.n) (k x ((putE 4 d).run (some .undef) e) h) .bad = _
    rw [hx, natBlt, decide_eq_true hd]

theorem wStep_ok (KS : SOk S C) {all : List Oper} {o : Oper} {l : Pv} {h : H} {K : Pv → H → Prop} (hn : n ≤ 256) (hw : wStep C S g n all o l h K) {x : FX} {e : Env} (hx : x.s.n = n) (A : Agree l e) :
    ∃ e' l' h', Agree l' e' ∧ K l' h' ∧ ∀ p k, (stepF C all o).run g x e h p k = k x e' h' := by
  cases hg : o.guard with
  | none =>
    have hw : wOp C S g n o.op l h (wPut n o.dst l K) := by unfold wStep at hw; rw [hg] at hw; exact hw
    obtain ⟨e', l', h', h1, h2, h3⟩ := wPut_ok hn (wOp_ok KS hw) hx A
    refine ⟨e', l', h', h1, h2, fun p k => ?_⟩
    unfold stepF
    rw [hg, oe_none]; exact h3 p k
  | some q =>
    have hw : pe (slotOf all q.1) (fun s => pe (fnd s l) (fun v => match v with
      | .bool b => ps b (ps q.2 (wOp C S g n o.op l h (wPut n o.dst l K)) (wPut n o.dst l K .undef h)) (ps q.2 (wPut n o.dst l K .undef h) (wOp C S g n o.op l h (wPut n o.dst l K)))
      | .undef => wPut n o.dst l K .undef h
      | _ => False)) := by unfold wStep at hw; rw [hg] at hw; exact hw
    obtain ⟨s, hs, hw⟩ := pe_iff.1 hw
    obtain ⟨v, hv, hw⟩ := pe_iff.1 hw
    have hwant : (wantF all o.guard).run e = yields q.2 v := by
      unfold wantF
      rw [hg, oe_some, hs, oe_some]
      show ob ((evF (.tmp s)).run e) (yields q.2) = _
      rw [evP_ok A (x := .tmp s) hv, ob_some]
    have run : ∀ w, yields q.2 v = some w → ∀ p k, (stepF C all o).run g x e h p k = sel w ((opF C o.dst o.op).run g x e h p k) ((putF o.dst).run .undef x e h k) := fun w hy p k => by
      unfold stepF
      rw [hg, oe_some]
      show ox ((wantF all (some q)).run e) (fun w => sel w ((opF C o.dst o.op).run g x e h p k) ((putF o.dst).run .undef x e h k)) = _
      rw [hg] at hwant
      rw [hwant, hy, ox_some]
    have yes : yields q.2 v = some true → wOp C S g n o.op l h (wPut n o.dst l K) → ∃ e' l' h', Agree l' e' ∧ K l' h' ∧ ∀ p k, (stepF C all o).run g x e h p k = k x e' h' := fun hy hw => by
      obtain ⟨e', l', h', h1, h2, h3⟩ := wPut_ok hn (wOp_ok KS hw) hx A
      exact ⟨e', l', h', h1, h2, fun p k => (run _ hy p k).trans (h3 p k)⟩
    have no : yields q.2 v = some false → wPut n o.dst l K .undef h → ∃ e' l' h', Agree l' e' ∧ K l' h' ∧ ∀ p k, (stepF C all o).run g x e h p k = k x e' h' := fun hy hw => by
      obtain ⟨e', l', h', h1, h2, h3⟩ := wUndef_ok hn hw hx A
      exact ⟨e', l', h', h1, h2, fun p k => (run _ hy p k).trans (h3 k)⟩
    cases v with
    | undef => exact no rfl hw
    | bool b =>
      rcases ps_iff.1 hw with ⟨rfl, hw2⟩ | ⟨rfl, hw2⟩
      · rcases ps_iff.1 hw2 with ⟨hq, hw3⟩ | ⟨hq, hw3⟩
        · exact yes (by rw [hq]; rfl) hw3
        · exact no (by rw [hq]; rfl) hw3
      · rcases ps_iff.1 hw2 with ⟨hq, hw3⟩ | ⟨hq, hw3⟩
        · exact no (by rw [hq]; rfl) hw3
        · exact yes (by rw [hq]; rfl) hw3
    | _ => exact hw.elim

theorem wOps_ok (KS : SOk S C) {all : List Oper} (hn : n ≤ 256) {x : FX} (hx : x.s.n = n) : ∀ {r : List Oper} {l : Pv} {h : H} {K : Pv → H → Prop} {e : Env}, wOps C S g n all r l h K → Agree l e →
    ∃ e' l' h', Agree l' e' ∧ K l' h' ∧ (runOps C all r).run g x e h = .mk .normal x e' h'
  | [], l, h, K, e, hw, A => ⟨e, l, h, A, hw, rfl⟩
  | o :: r, l, h, K, e, hw, A => by
    obtain ⟨e1, l1, h1, A1, hw1, run1⟩ := wStep_ok KS hn hw hx A
    obtain ⟨e2, l2, h2, A2, hk, run2⟩ := wOps_ok KS hn hx hw1 A1
    exact ⟨e2, l2, h2, A2, hk, (run1 panX _).trans run2⟩

theorem eqFlat_refl {v : AVal} (h : flat1 v = true) : eqFlat v v = true := by
  have hi : ∀ a : Int, eqI a a = true := fun a => by cases a <;> simp [eqI]
  have hb : ∀ s : List UInt8, eqB s s = true := fun s => by
    induction s with
    | nil => rfl
    | cons x s ih =>
      show sel (Nat.beq x.toNat x.toNat) (eqB s s) false = true
      rw [natBeq, decide_eq_true rfl]; exact ih
  cases v with
  | bool b => simp [eqFlat]
  | int k n => simp [eqFlat, eqKd, hi]
  | str s => exact hb s
  | ptr p => cases p <;> simp [eqFlat]
  | slc p l c => cases p <;> simp [eqFlat]
  | map r => cases r <;> simp [eqFlat]
  | nilFunc => rfl
  | nilIface => rfl
  | _ => cases h

theorem eqFlats_refl : ∀ {l : List AVal}, flats l = true → eqFlats l l = true
  | [], _ => rfl
  | v :: r, h => by
    have h : sel (flat1 v) (flats r) false = true := h
    show sel (eqFlat v v) (eqFlats r r) false = true
    cases hf : flat1 v with
    | false => rw [hf] at h; cases h
    | true => rw [hf] at h; rw [eqFlat_refl hf]; exact eqFlats_refl h

theorem eqFlatA_refl {v : AVal} (h : flatV v = true) : eqFlatA v v = true := by
  cases v with
  | agg cs => exact eqFlats_refl h
  | bool b => exact eqFlat_refl (v := .bool b) h
  | int k n => exact eqFlat_refl (v := .int k n) h
  | str s => exact eqFlat_refl (v := .str s) h
  | ptr p => exact eqFlat_refl (v := .ptr p) h
  | slc p l c => exact eqFlat_refl (v := .slc p l c) h
  | map r => exact eqFlat_refl (v := .map r) h
  | nilFunc => rfl
  | nilIface => rfl
  | _ => cases h

theorem wStable_ok (KS : SOk S C) {l : Pv} {e : Env} (A : Agree l e) {h h' : H} {all : List Oper} {o : Oper} (hw : wStable S l h h' all o) : stableA C all e h h' o = true := by
  obtain ⟨h1, hw⟩ := hw
  unfold stableA
  rw [h1, Bool.true_and]
  cases hg : o.guard with
  | some p => rw [hg] at hw; exact hw.elim
  | none =>
    rw [hg] at hw
    show stableLoad C e h h' o.op = true
    cases hop : o.op with
    | load t a =>
      rw [hop] at hw
      obtain ⟨p, hp, hw⟩ := pe_iff.1 hw
      obtain ⟨q, hq, v, hv, hv', hf⟩ := pe_iff.1 hw
      obtain ⟨ti, e1, e2, e3⟩ := KS.ld t q hq
      show oe (C.tt.get t) false (fun ti => oe ((evF a).run e) false (fun p => sameO (loadT h ti p) (loadT h' ti p))) = true
      rw [e1, oe_some, evP_ok A hp, oe_some]
      unfold loadT
      rw [e2, e3, hv, hv']
      exact eqFlatA_refl hf
    | call c =>
      rw [hop] at hw
      cases hc : c.callee with
      | builtin bt =>
        cases h2 : c.argTypes.toList with
        | nil => simp only [hc, h2] at hw
        | cons t ts =>
          cases h3 : c.args.toList with
          | nil => simp only [hc, h2, h3] at hw
          | cons a r =>
            cases r with
            | cons a2 r2 => simp only [hc, h2, h3] at hw
            | nil =>
              cases bt <;> simp only [hc, h2, h3] at hw
              obtain ⟨v, hv, hw⟩ := pe_iff.1 hw
              simp only [stableLoad, hc, h2, h3]
              show oe (C.tt.get t) false (fun ti => oe ((evF a).run e) false (fun v => oe (lenX ti.desc h v) false (fun n => oe (lenX ti.desc h' v) false (fun m => Nat.beq n m)))) = true
              cases v with
              | slc x y z =>
                obtain ⟨q, hq, _⟩ := pe_iff.1 hw
                obtain ⟨ti, el, te, e1, e2, _⟩ := KS.el t q hq
                rw [e1, oe_some, evP_ok A hv, oe_some, e2]
                show Nat.beq y y = true
                simp
              | str s =>
                obtain ⟨hs, _⟩ := psF hw
                obtain ⟨ti, e1, e2⟩ := KS.str t hs
                rw [e1, oe_some, evP_ok A hv, oe_some, e2]
                show Nat.beq (len s) (len s) = true
                simp
              | _ => exact hw.elim
      | _ => simp only [hc] at hw
    | _ => rw [hop] at hw; exact hw.elim

theorem wMod_ok (KS : SOk S C) {l : Pv} {e : Env} (A : Agree l e) {h h' : H} {all : List Oper} {anc : List Nat} {tail i : Nat} : ∀ {r : List Oper} {j : Nat}, wMod S all anc tail i l h h' r j → modOk anc tail i (stableA C all e h h') r j = true
  | [], _, _ => rfl
  | o :: r, j, hw => by
    have eM : modOk anc tail i (stableA C all e h h') (o :: r) j = sel (Nat.blt j tail)
      (sel (Nat.beq j i) (modOk anc tail i (stableA C all e h h') r (Nat.add j 1))
        (sel (Nat.blt j i)
          (sel (Nat.testBit (oe (getX i anc) 0 (fun n => n)) j) (modOk anc tail i (stableA C all e h h') r (Nat.add j 1)) (sel (isHeavy o.op) false (sel (isLook o.op) (sel (stableA C all e h h' o) (modOk anc tail i (stableA C all e h h') r (Nat.add j 1)) false) (modOk anc tail i (stableA C all e h h') r (Nat.add j 1)))))
          (sel (Nat.testBit (oe (getX j anc) 0 (fun n => n)) i) (modOk anc tail i (stableA C all e h h') r (Nat.add j 1)) (sel (isHeavy o.op || isLook o.op) false (modOk anc tail i (stableA C all e h h') r (Nat.add j 1)))))) true := rfl
    rw [eM]
    rcases ps_iff.1 hw with ⟨q, hw⟩ | ⟨q, hw⟩ <;> rw [q]
    rcases ps_iff.1 hw with ⟨q, hw⟩ | ⟨q, hw⟩ <;> rw [q]
    · exact wMod_ok KS A hw
    rcases ps_iff.1 hw with ⟨q, hw⟩ | ⟨q, hw⟩ <;> rw [q]
    · rcases ps_iff.1 hw with ⟨q, hw⟩ | ⟨q, hw⟩ <;> rw [q]
      · exact wMod_ok KS A hw
      · rcases ps_iff.1 hw with ⟨q, hw⟩ | ⟨q, hw⟩ <;> rw [q]
        · exact hw.elim
        · rcases ps_iff.1 hw with ⟨q, hw⟩ | ⟨q, hw⟩ <;> rw [q]
          · rw [wStable_ok KS A hw.1]; exact wMod_ok KS A hw.2
          · exact wMod_ok KS A hw
    · rcases ps_iff.1 hw with ⟨q, hw⟩ | ⟨q, hw⟩ <;> rw [q]
      · exact wMod_ok KS A hw
      · rcases ps_iff.1 hw with ⟨q, hw⟩ | ⟨q, hw⟩ <;> rw [q]
        · exact hw.elim
        · exact wMod_ok KS A hw

theorem wDraw_ok (KS : SOk S C) {all : List Oper} {ri : RInfo} (hn : n ≤ 256) {x : FX} (hx : x.s.n = n) : ∀ {r : List Oper} {i : Nat} {l : Pv} {h : H} {K : Pv → H → Prop} {e : Env}, wDraw C S g n all ri r i l h K → Agree l e →
    ∃ e' l' h', Agree l' e' ∧ K l' h' ∧ (runM C all ri r i).run g x e h = .mk .normal x e' h'
  | [], i, l, h, K, e, hw, A => ⟨e, l, h, A, hw, rfl⟩
  | o :: r, i, l, h, K, e, hw, A => by
    have eM : (runM C all ri (o :: r) i) = sel (Nat.blt i ri.tail)
      (sel (isHeavy o.op)
        ⟨fun g x e h => (stepF C all o).run g x e (h.withLo big) panBad (heavyEnd C all ri i e h ((runM C all ri r (Nat.add i 1)).run g))⟩
        ⟨fun g x e h => (stepF C all o).run g x e h panBad ((runM C all ri r (Nat.add i 1)).run g)⟩)
      ⟨fun g => (runOps C all (o :: r)).run g⟩ := rfl
    rw [eM]
    rcases ps_iff.1 hw with ⟨ht, hw⟩ | ⟨ht, hw⟩
    · rw [ht]
      rcases ps_iff.1 hw with ⟨hh, hw⟩ | ⟨hh, hw⟩
      · rw [hh]
        obtain ⟨e1, l1, h1, A1, ⟨hor, hw1⟩, run1⟩ := wStep_ok KS hn hw hx A
        obtain ⟨e2, l2, h2, A2, hk, run2⟩ := wDraw_ok KS hn hx (hw1 _ rfl) A1
        refine ⟨e2, l2, h2, A2, hk, (run1 panBad _).trans ?_⟩
        by_cases hle : h.next ≤ h1.lo
        · show sel (Nat.ble h.next h1.lo) _ _ = _
          rw [natBle, decide_eq_true hle]
          exact run2
        · rcases hor with q | q
          · exact absurd q hle
          · show sel (Nat.ble h.next h1.lo) _ (sel (modOk ri.anc ri.tail i (stableA C all e h h1) all 0) _ (XR.bad)) = _
            rw [natBle, decide_eq_false hle, wMod_ok KS A q]
            exact run2
      · rw [hh]
        obtain ⟨e1, l1, h1, A1, hw1, run1⟩ := wStep_ok KS hn hw hx A
        obtain ⟨e2, l2, h2, A2, hk, run2⟩ := wDraw_ok KS hn hx hw1 A1
        exact ⟨e2, l2, h2, A2, hk, (run1 panBad _).trans run2⟩
    · rw [ht]
      exact wOps_ok KS hn hx hw A

/-! ### Code -/

theorem wC_ok (KS : SOk S C) (hn : n ≤ 256) {x : FX} (hx : x.s.n = n) : ∀ (c : Code) {l : Pv} {h : H} {Q : Post} {e : Env}, wC C S g n c l h Q → Agree l e → Sat x ((comp C c).run g x e h) Q
  | .skip, l, h, Q, e, hw, A => ⟨.normal, e, h, l, rfl, A, hw⟩
  | .exit id, l, h, Q, e, hw, A => ⟨.exit id, e, h, l, rfl, A, hw⟩
  | .ret, l, h, Q, e, hw, A => ⟨.ret, e, h, l, rfl, A, hw⟩
  | .region id ops draw, l, h, Q, e, hw, A => by
    show Sat x ((cRegion C ops.toList draw).run g x e h) Q
    unfold cRegion
    rcases ps_iff.1 hw with ⟨rfl, hw⟩ | ⟨rfl, hw⟩
    · obtain ⟨ri, hri, hw⟩ := pe_iff.1 hw
      obtain ⟨e2, l2, h2, A2, hk, run⟩ := wDraw_ok KS hn hx hw A
      rw [hri]
      exact ⟨.normal, e2, h2, l2, run, A2, hk⟩
    · obtain ⟨e2, l2, h2, A2, hk, run⟩ := wOps_ok KS hn hx hw A
      exact ⟨.normal, e2, h2, l2, run, A2, hk⟩
  | .seq a b, l, h, Q, e, hw, A => by
    obtain ⟨ex, e1, h1, l1, run, A1, hw1⟩ := wC_ok KS hn hx a hw A
    show Sat x (((comp C a).run g x e h).andThen ((comp C b).run g)) Q
    rw [run]
    cases ex with
    | normal => exact wC_ok KS hn hx b hw1 A1
    | exit i => exact ⟨_, _, _, _, rfl, A1, hw1⟩
    | ret => exact ⟨_, _, _, _, rfl, A1, hw1⟩
    | panic c => exact ⟨_, _, _, _, rfl, A1, hw1⟩
  | .cond c a b, l, h, Q, e, hw, A => by
    obtain ⟨v, hv, hw⟩ := pe_iff.1 hw
    show Sat x (evX e c (fun v => onBool v (fun t => sel t ((comp C a).run g x e h) ((comp C b).run g x e h)))) Q
    rw [evX_ok A hv]
    cases v with
    | bool t =>
      rcases ps_iff.1 hw with ⟨rfl, hw⟩ | ⟨rfl, hw⟩
      · exact wC_ok KS hn hx a hw A
      · exact wC_ok KS hn hx b hw A
    | _ => exact hw.elim
  | .block id b, l, h, Q, e, hw, A => by
    cases hm : mapLoop? id b with
    | some ml =>
      have hw : (match mapLoop? id b with
        | none => wC C S g n b l h (fun ex l h => match ex with | .exit i => ps (Nat.beq i id) (Q .normal l h) (Q (.exit i) l h) | ex => Q ex l h)
        | some _ => False) := hw
      rw [hm] at hw
      exact hw.elim
    | none =>
      have hw : (match mapLoop? id b with
        | none => wC C S g n b l h (fun ex l h => match ex with | .exit i => ps (Nat.beq i id) (Q .normal l h) (Q (.exit i) l h) | ex => Q ex l h)
        | some _ => False) := hw
      rw [hm] at hw
      obtain ⟨W, R, hc, _⟩ := comp_block (C := C) id b
      rw [hc, hm]
      show Sat x (blockEnd id ((comp C b).run g x e h)) Q
      obtain ⟨ex, e1, h1, l1, run, A1, hw1⟩ := wC_ok KS hn hx b hw A
      rw [run]
      cases ex with
      | exit i =>
        show Sat x (sel (Nat.beq i id) (.mk .normal x e1 h1) (.mk (.exit i) x e1 h1)) Q
        rcases ps_iff.1 hw1 with ⟨hi, hw1⟩ | ⟨hi, hw1⟩
        · rw [hi]; exact ⟨_, _, _, _, rfl, A1, hw1⟩
        · rw [hi]; exact ⟨_, _, _, _, rfl, A1, hw1⟩
      | normal => exact ⟨_, _, _, _, rfl, A1, hw1⟩
      | ret => exact ⟨_, _, _, _, rfl, A1, hw1⟩
      | panic c => exact ⟨_, _, _, _, rfl, A1, hw1⟩
  | .loop b, l, h, Q, e, hw, A => hw x e hx A
  | .rangeFunc f ps a b, l, h, Q, e, hw, A => hw x e hx A
  | .scope b, l, h, Q, e, hw, A => hw x e hx A
  | .label b, l, h, Q, e, hw, A => hw x e hx A
  | .goto b, l, h, Q, e, hw, A => hw x e hx A
  | .refuse b, l, h, Q, e, hw, A => hw x e hx A

/-! ### Loops -/

/-- A LOOP BY AN INVARIANT: 'I m l h': what is known at its head, with fewer than 'm' rounds to come. -/
theorem wLoop (KS : SOk S C) (hn : n ≤ 256) {b : Code} {Q : Post} (I : Nat → Pv → H → Prop)
    (hb : ∀ m l h, I m l h → wC C S g n b l h (fun ex l' h' => match ex with
      | .normal => ∃ m' l'', m' < m ∧ (∀ e, Agree l' e → Agree l'' e) ∧ I m' l'' h'
      | ex => Q ex l' h')) {l : Pv} {h : H} {m : Nat} (hm : m < g.fuel) (h0 : I m l h) : wRun C g n (.loop b) l h Q := by
  intro x e hx A
  show Sat x ((@Nat.rec (fun _ => Sim.K) (fun _ _ _ => .bad) (fun _ ih x e h => ((comp C b).run g x e h).andThen ih) g.fuel) x e h) Q
  have key : ∀ (f m : Nat) (l : Pv) (h : H) (e : Env), m < f → I m l h → Agree l e → Sat x ((@Nat.rec (fun _ => Sim.K) (fun _ _ _ => .bad) (fun _ ih x e h => ((comp C b).run g x e h).andThen ih) f) x e h) Q := by
    intro f
    induction f with
    | zero =>
      intro m l h e hmf hI A
      omega
    | succ f ih =>
      intro m l h e hmf hI A
      obtain ⟨ex, e1, h1, l1, run, A1, hw1⟩ := wC_ok KS hn hx b (hb m l h hI) A
      show Sat x (((comp C b).run g x e h).andThen _) Q
      rw [run]
      cases ex with
      | normal =>
        obtain ⟨m', l'', hlt, hsub, hI'⟩ := hw1
        exact ih m' l'' h1 e1 (by omega) hI' (hsub e1 A1)
      | exit i => exact ⟨_, _, _, _, rfl, A1, hw1⟩
      | ret => exact ⟨_, _, _, _, rfl, A1, hw1⟩
      | panic c => exact ⟨_, _, _, _, rfl, A1, hw1⟩
  exact key _ m l h e hm h0 A

/-! ### Functions -/

theorem setFrom_other : ∀ (vs : List AVal) (i : Nat) (e : Env) {t : Nat}, t < i → i + vs.length ≤ 256 → (setFrom vs i e).get t = e.get t
  | [], i, e, t, h, hl => rfl
  | v :: r, i, e, t, h, hl => by
    simp only [List.length_cons] at hl
    show (setFrom r (Nat.add i 1) (e.set i v)).get t = _
    rw [setFrom_other r (Nat.add i 1) (e.set i v) (by simp only [natAdd]; omega) (by simp only [natAdd]; omega), Env.get_set _ _ _ _ (by omega) (by omega), if_neg (by omega)]

theorem setFrom_agree : ∀ (vs : List AVal) (i : Nat) (e : Env), i + vs.length ≤ 256 → Agree (setP vs i) (setFrom vs i e)
  | [], i, e, hl => Agree.nil
  | v :: r, i, e, hl => by
    simp only [List.length_cons] at hl
    intro t u ht
    have ht : sel (Nat.beq t i) (some v) (fnd t (setP r (Nat.add i 1))) = some u := ht
    rw [natBeq, sel_eq] at ht
    split at ht
    · rename_i hti
      have hti : t = i := by simpa using hti
      refine ⟨by omega, ?_⟩
      show (setFrom r (Nat.add i 1) (e.set i v)).get t = _
      rw [setFrom_other r (Nat.add i 1) (e.set i v) (by simp only [natAdd]; omega) (by simp only [natAdd]; omega), Env.get_set _ _ _ _ (by omega) (by omega), if_pos hti]
      exact ht
    · exact setFrom_agree r (Nat.add i 1) (e.set i v) (by simp only [natAdd]; omega) t u ht

theorem wRes_ok (KS : SOk S C) {l : Pv} {e : Env} {h : H} (A : Agree l e) : ∀ {rs : List ResultVar} {k : List AVal → Prop}, wRes S l h rs k → ∃ vs, resA C e h rs = some vs ∧ k vs
  | [], k, hw => ⟨[], rfl, hw⟩
  | .tmp t :: r, k, hw => by
    obtain ⟨v, hv, hw⟩ := pe_iff.1 hw
    obtain ⟨vs, h1, h2⟩ := wRes_ok KS A hw
    refine ⟨v :: vs, ?_, h2⟩
    show ob ((evF (.tmp t)).run e) (fun b => ob (resA C e h r) (fun q => some (b :: q))) = _
    rw [evP_ok A (x := .tmp t) hv, ob_some, h1, ob_some]
  | .cell a t :: r, k, hw => by
    obtain ⟨p, hp, hw⟩ := pe_iff.1 hw
    obtain ⟨q, hq, v, hv, hw⟩ := pe_iff.1 hw
    obtain ⟨vs, h1, h2⟩ := wRes_ok KS A hw
    obtain ⟨ti, e1, e2, e3⟩ := KS.ld t q hq
    refine ⟨v :: vs, ?_, h2⟩
    show ob (ob ((evF (.tmp a)).run e) (fun p => ob (C.tt.get t) (fun ti => loadT h ti p))) (fun b => ob (resA C e h r) (fun q => some (b :: q))) = _
    rw [evP_ok A (x := .tmp a) hp, ob_some, e1]
    show ob (loadP h (aggD ti.desc) ti.sz p) (fun b => ob (resA C e h r) (fun q => some (b :: q))) = _
    rw [e2, e3, hv, ob_some, h1, ob_some]

/-- A FUNCTION: what the weakest precondition of its body says, a call does. -/
theorem wFn_ok (KS : SOk S C) {f : FuncId} {fn : Func} (hf : C.ft.get f = some fn) {args : List AVal} {h : H} {R : R2} (hw : wFn C S g fn args h R) : ∃ v h', callB C g f args h = .ok v h' ∧ R v h' := by
  obtain ⟨c, hc, hw⟩ := pe_iff.1 hw
  obtain ⟨hsz, hw⟩ := psF hw
  simp only [Bool.and_eq_true] at hsz
  obtain ⟨hs1, hs2⟩ := hsz
  have e1 : len args ≤ fn.ntmps := by simpa using hs1
  have e2 : fn.ntmps ≤ 256 := by simpa using hs2
  rw [len_eq] at e1
  obtain ⟨ex, e, h', l, run, A, hq⟩ := wC_ok KS e2 (x := ⟨⟨f, fn.ntmps, none⟩, [], .nrm⟩) rfl c hw (setFrom_agree args 0 (E.empty AVal 4) (by omega))
  have hbody : bodyA C g f fn args .nrm h = .mk ex ⟨⟨f, fn.ntmps, none⟩, [], .nrm⟩ e h' := by
    unfold bodyA
    rw [hc, ox_some, hs1, hs2]
    exact run
  have done : (ex = .normal ∨ ex = .ret) → wRes S l h' fn.results.toList (fun vs => R (packA vs) h') → ∃ v h', callB C g f args h = .ok v h' ∧ R v h' := fun hex hres => by
    obtain ⟨vs, h1, h2⟩ := wRes_ok KS A hres
    refine ⟨packA vs, h', ?_, h2⟩
    unfold callB
    rw [hf, oe_some, hbody]
    have : bodyEnd C g fn (.mk ex ⟨⟨f, fn.ntmps, none⟩, [], .nrm⟩ e h') = oe (modeOf ex) .bad (fun m => urEnd C e fn.results.toList (unwindA C g [] m h')) := rfl
    rw [this]
    have hm : modeOf ex = some .ret := by rcases hex with rfl | rfl <;> rfl
    rw [hm, oe_some]
    show oe (resA C e h' fn.results.toList) .bad (fun vs => CR.ok (packA vs) h') = _
    rw [h1, oe_some]
  cases ex with
  | normal => exact done (.inl rfl) hq
  | ret => exact done (.inr rfl) hq
  | _ => exact hq.elim

end Go.Sim
end
