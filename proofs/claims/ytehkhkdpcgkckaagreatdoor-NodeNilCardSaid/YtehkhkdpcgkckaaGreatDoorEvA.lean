/- The evaluator's data: an abstract heap with names, registers, values that are renamed. By an AI agent. -/
import Derived.Calls
import GoSem.Dispatch
import Derived.Orders
import Derived.Laws.Sem
import Derived.Laws.Cells
import Derived.Laws.IdiomCopy
import Derived.Laws.World
namespace Go.Eng
open Go
noncomputable section

/-- a trie over numbers -/
inductive Tr (α : Type) where
  | nil
  | node (v : Option α) (l r : Tr α)

namespace Tr
variable {α : Type}
def getC : Tr α → Nat → Option α
  | .nil, _ => none
  | .node v l r, k =>
    match k with
    | 0 => v
    | k + 1 => match Nat.beq (k % 2) 0 with
      | true => l.getC (k / 2)
      | false => r.getC (k / 2)
def setFC : Nat → Tr α → Nat → Option α → Tr α
  | 0, t, _, _ => t
  | n + 1, t, k, x =>
    match k, t with
    | 0, .nil => .node x .nil .nil
    | 0, .node _ l r => .node x l r
    | k + 1, .nil => match Nat.beq (k % 2) 0 with
      | true => .node none (setFC n .nil (k / 2) x) .nil
      | false => .node none .nil (setFC n .nil (k / 2) x)
    | k + 1, .node v l r => match Nat.beq (k % 2) 0 with
      | true => .node v (setFC n l (k / 2) x) r
      | false => .node v l (setFC n r (k / 2) x)

theorem getC_setFC : ∀ (n : Nat) (t : Tr α) (k : Nat) (x : Option α) (j : Nat), k < n → (setFC n t k x).getC j = if j = k then x else t.getC j := by
  intro n
  induction n with
  | zero => intro t k x j h; omega
  | succ n ih =>
    intro t k x j h
    match k, t with
    | 0, .nil =>
      cases j with
      | zero => simp [setFC, getC]
      | succ j => simp only [setFC, getC]; split <;> simp
    | 0, .node v l r => cases j <;> simp [setFC, getC]
    | k + 1, .nil =>
      cases hb : Nat.beq (k % 2) 0 <;> simp only [setFC, hb]
      · cases j with
        | zero => simp [getC]
        | succ j =>
          simp only [getC]
          cases hj : Nat.beq (j % 2) 0 <;> simp only
          · rw [ih _ _ _ _ (by omega)]
            have hb' : k % 2 ≠ 0 := fun e => by rw [e] at hb; cases hb
            have hj' : j % 2 ≠ 0 := fun e => by rw [e] at hj; cases hj
            by_cases e : j = k
            · subst e; simp
            · have : j / 2 ≠ k / 2 := by omega
              rw [if_neg this, if_neg (by omega)]; rfl
          · have hb' : k % 2 ≠ 0 := fun e => by rw [e] at hb; cases hb
            have hj' : j % 2 = 0 := Nat.eq_of_beq_eq_true hj
            rw [if_neg (by omega)]
      · cases j with
        | zero => simp [getC]
        | succ j =>
          simp only [getC]
          cases hj : Nat.beq (j % 2) 0 <;> simp only
          · have hb' : k % 2 = 0 := Nat.eq_of_beq_eq_true hb
            have hj' : j % 2 ≠ 0 := fun e => by rw [e] at hj; cases hj
            rw [if_neg (by omega)]
          · rw [ih _ _ _ _ (by omega)]
            have hb' : k % 2 = 0 := Nat.eq_of_beq_eq_true hb
            have hj' : j % 2 = 0 := Nat.eq_of_beq_eq_true hj
            by_cases e : j = k
            · subst e; simp
            · have : j / 2 ≠ k / 2 := by omega
              rw [if_neg this, if_neg (by omega)]; rfl
    | k + 1, .node v l r =>
      cases hb : Nat.beq (k % 2) 0 <;> simp only [setFC, hb]
      · cases j with
        | zero => simp [getC]
        | succ j =>
          simp only [getC]
          cases hj : Nat.beq (j % 2) 0 <;> simp only
          · rw [ih _ _ _ _ (by omega)]
            have hb' : k % 2 ≠ 0 := fun e => by rw [e] at hb; cases hb
            have hj' : j % 2 ≠ 0 := fun e => by rw [e] at hj; cases hj
            by_cases e : j = k
            · subst e; simp
            · have : j / 2 ≠ k / 2 := by omega
              rw [if_neg this, if_neg (by omega)]
          · have hb' : k % 2 ≠ 0 := fun e => by rw [e] at hb; cases hb
            have hj' : j % 2 = 0 := Nat.eq_of_beq_eq_true hj
            rw [if_neg (by omega)]
      · cases j with
        | zero => simp [getC]
        | succ j =>
          simp only [getC]
          cases hj : Nat.beq (j % 2) 0 <;> simp only
          · have hb' : k % 2 = 0 := Nat.eq_of_beq_eq_true hb
            have hj' : j % 2 ≠ 0 := fun e => by rw [e] at hj; cases hj
            rw [if_neg (by omega)]
          · rw [ih _ _ _ _ (by omega)]
            have hb' : k % 2 = 0 := Nat.eq_of_beq_eq_true hb
            have hj' : j % 2 = 0 := Nat.eq_of_beq_eq_true hj
            by_cases e : j = k
            · subst e; simp
            · have : j / 2 ≠ k / 2 := by omega
              rw [if_neg this, if_neg (by omega)]
def forceC (t : Tr α) (k : Tr α → Tr α) : Tr α := k t
/-- the same, said so that the kernel is quick at it -/
def get (t : Tr α) (k : Nat) : Option α :=
  Tr.rec (motive := fun _ => Nat → Option α) (fun _ => none)
    (fun v _ _ gl gr k => Nat.rec (motive := fun _ => Option α) v
      (fun j _ => Bool.rec (motive := fun _ => Option α) (gr (Nat.div j 2)) (gl (Nat.div j 2)) (Nat.beq (Nat.mod j 2) 0)) k) t k
/-- a tree that is reckoned out ahead -/
def force (t : Tr α) (k : Tr α → Tr α) : Tr α := Tr.rec (motive := fun _ => Tr α) (k .nil) (fun v l r _ _ => k (.node v l r)) t
theorem force_eq (t : Tr α) (k : Tr α → Tr α) : force t k = k t := by cases t <;> rfl
def setF (n : Nat) (t : Tr α) (k : Nat) (x : Option α) : Tr α :=
  Nat.rec (motive := fun _ => Tr α → Nat → Tr α) (fun t _ => t)
    (fun _ ih t k => Nat.rec (motive := fun _ => Tr α) (Tr.rec (motive := fun _ => Tr α) (.node x .nil .nil) (fun _ l r _ _ => .node x l r) t)
      (fun j _ => Bool.rec (motive := fun _ => Tr α)
        (Tr.rec (motive := fun _ => Tr α) (force (ih .nil (Nat.div j 2)) fun c => .node none .nil c) (fun v l r _ _ => force (ih r (Nat.div j 2)) fun c => .node v l c) t)
        (Tr.rec (motive := fun _ => Tr α) (force (ih .nil (Nat.div j 2)) fun c => .node none c .nil) (fun v l r _ _ => force (ih l (Nat.div j 2)) fun c => .node v c r) t)
        (Nat.beq (Nat.mod j 2) 0)) k) n t k
theorem get_eq : ∀ (t : Tr α) (k : Nat), t.get k = t.getC k
  | .nil, _ => rfl
  | .node v l r, 0 => rfl
  | .node v l r, k + 1 => by
    have e1 : (Tr.node v l r).get (k + 1) = Bool.rec (motive := fun _ => Option α) (r.get (k / 2)) (l.get (k / 2)) (Nat.beq (k % 2) 0) := rfl
    rw [e1, get_eq l, get_eq r]
    simp only [getC]
    cases Nat.beq (k % 2) 0 <;> rfl
theorem setF_eq : ∀ (n : Nat) (t : Tr α) (k : Nat) (x : Option α), setF n t k x = setFC n t k x
  | 0, _, _, _ => rfl
  | n + 1, .nil, 0, x => rfl
  | n + 1, .node v l r, 0, x => rfl
  | n + 1, .nil, k + 1, x => by
    have e1 : setF (n + 1) .nil (k + 1) x = Bool.rec (motive := fun _ => Tr α) (force (setF n .nil (k / 2) x) fun c => .node none .nil c) (force (setF n .nil (k / 2) x) fun c => .node none c .nil) (Nat.beq (k % 2) 0) := rfl
    rw [e1, force_eq, force_eq, setF_eq n]
    simp only [setFC]
    cases Nat.beq (k % 2) 0 <;> rfl
  | n + 1, .node v l r, k + 1, x => by
    have e1 : setF (n + 1) (.node v l r) (k + 1) x = Bool.rec (motive := fun _ => Tr α) (force (setF n r (k / 2) x) fun c => .node v l c) (force (setF n l (k / 2) x) fun c => .node v c r) (Nat.beq (k % 2) 0) := rfl
    rw [e1, force_eq, force_eq, setF_eq n, setF_eq n]
    simp only [setFC]
    cases Nat.beq (k % 2) 0 <;> rfl
def set (t : Tr α) (k : Nat) (x : Option α) : Tr α := setF (k + 1) t k x
theorem get_nil (k : Nat) : (Tr.nil : Tr α).get k = none := rfl
theorem get_set (t : Tr α) (k : Nat) (x : Option α) (j : Nat) : (t.set k x).get j = if j = k then x else t.get j := by
  unfold set
  rw [get_eq, get_eq, setF_eq]
  exact getC_setFC _ _ _ _ _ (by omega)
end Tr

/-- the value that is like any value: nothing is known of it -/
def junk : Value := .complex .f64 7 7
def isJunk : Value → Bool
  | .complex .. => true
  | _ => false

/-- registers: the last written first, then a base -/
structure Regs where
  n : Nat
  ov : List (Nat × Value)
  base : Tr Value

namespace Regs
def getLC : List (Nat × Value) → Nat → Option Value
  | [], _ => none
  | (k, v) :: l, t => match Nat.beq k t with
    | true => some v
    | false => getLC l t
def getL (l : List (Nat × Value)) (t : Nat) : Option Value :=
  List.rec (motive := fun _ => Option Value) none (fun x _ ih => Bool.rec (motive := fun _ => Option Value) ih (some x.2) (Nat.beq x.1 t)) l
theorem getL_nil (t : Nat) : getL [] t = none := rfl
theorem getL_cons (k : Nat) (v : Value) (l : List (Nat × Value)) (t : Nat) : getL ((k, v) :: l) t = match Nat.beq k t with
    | true => some v
    | false => getL l t := by
  have e1 : getL ((k, v) :: l) t = Bool.rec (motive := fun _ => Option Value) (getL l t) (some v) (Nat.beq k t) := rfl
  rw [e1]
  cases Nat.beq k t <;> rfl
def get (r : Regs) (t : Nat) : Value :=
  match r with
  | ⟨_, ov, base⟩ => match getL ov t with
    | some v => v
    | none => match base.get t with
      | some v => v
      | none => undef
def set (r : Regs) (t : Nat) (v : Value) : Regs :=
  match r with
  | ⟨n, ov, base⟩ => match Nat.blt t n with
    | true => ⟨n, (t, v) :: ov, base⟩
    | false => ⟨n, ov, base⟩
def put (r : Regs) (d : Option Nat) (v : Value) : Regs :=
  match d with
  | some t => r.set t v
  | none => r
def flushL : List (Nat × Value) → Tr Value → Tr Value
  | [], b => b
  | (k, v) :: l, b => (flushL l b).set k (some v)
def flush (r : Regs) : Regs := match r with
  | ⟨n, ov, base⟩ => ⟨n, [], flushL ov base⟩

theorem getL_flush (l : List (Nat × Value)) (b : Tr Value) (t : Nat) : (flushL l b).get t = match getL l t with | some v => some v | none => b.get t := by
  induction l with
  | nil => rfl
  | cons x l ih =>
    obtain ⟨k, v⟩ := x
    simp only [flushL, Tr.get_set, getL_cons]
    cases h : Nat.beq k t with
    | true => rw [if_pos (Nat.eq_of_beq_eq_true h).symm]
    | false => rw [if_neg (fun e => by rw [← e, Nat.beq_refl] at h; cases h), ih]
theorem get_flush (r : Regs) (t : Nat) : r.flush.get t = r.get t := by
  obtain ⟨n, ov, base⟩ := r
  unfold get flush
  simp only [getL_nil, getL_flush]
  cases getL ov t <;> rfl
theorem get_set (r : Regs) (t : Nat) (v : Value) (j : Nat) : (r.set t v).get j = if j = t ∧ t < r.n then v else r.get j := by
  obtain ⟨n, ov, base⟩ := r
  unfold set
  simp only
  cases h : Nat.blt t n with
  | true =>
    have ht : t < n := Nat.le_of_ble_eq_true h
    simp only [get, getL_cons]
    cases hj : Nat.beq t j with
    | true => rw [if_pos ⟨(Nat.eq_of_beq_eq_true hj).symm, ht⟩]
    | false => rw [if_neg (fun e => by rw [e.1, Nat.beq_refl] at hj; cases hj)]
  | false =>
    have ht : ¬ t < n := fun e => by
      have : Nat.blt t n = true := Nat.ble_eq_true_of_le e
      rw [this] at h; cases h
    simp only
    rw [if_neg (fun e => ht e.2)]
theorem set_n (r : Regs) (t : Nat) (v : Value) : (r.set t v).n = r.n := by
  obtain ⟨n, ov, base⟩ := r
  unfold set
  simp only
  cases Nat.blt t n <;> rfl
theorem put_n (r : Regs) (t : Option Nat) (v : Value) : (r.put t v).n = r.n := by cases t <;> simp [put, set_n]
theorem flush_n (r : Regs) : r.flush.n = r.n := rfl
end Regs

/-- what is known of a block -/
inductive AObj where
  | cells (c : List Value) (elem : TypeId) (fz : Nat × Nat)
  | grown (c : List Value) (elem : TypeId)
  | map (es : List MapEntry) (clock : Nat)
  | siter (s : ByteArray) (pos : Nat)
  | loop (state : LoopState) (pending : Option Code) (fn : FuncId) (regs : Regs) (params : Array Tmp) (assign body : Code) (defers : Nat)
  | deferred (calls : Option (List Deferred))
  | other (o : Obj)

structure Heap where
  m : Tr AObj
  nx : Nat

namespace Heap
def get (h : Heap) (n : Nat) : Option AObj := match h with
  | ⟨m, _⟩ => m.get n
def set (h : Heap) (n : Nat) (o : AObj) : Heap := match h with
  | ⟨m, nx⟩ => ⟨m.set n (some o), nx⟩
def drop (h : Heap) (n : Nat) : Heap := match h with
  | ⟨m, nx⟩ => ⟨m.set n none, nx⟩
/-- the name that comes next -/
def fresh (h : Heap) : Nat := 2 * h.nx + 1
def newC (h : Heap) (o : AObj) : Heap := ⟨h.m.set (2 * h.nx + 1) (some o), h.nx + 1⟩
def new (h : Heap) (o : AObj) : Heap := match h with
  | ⟨m, nx⟩ => Nat.rec (motive := fun _ => Heap) ⟨m, nx⟩ (fun j _ => ⟨m.set (2 * j + 1) (some o), Nat.succ j⟩) (nx + 1)
theorem new_m (h : Heap) (o : AObj) : (h.new o).m = h.m.set (2 * h.nx + 1) (some o) := rfl
theorem new_nx (h : Heap) (o : AObj) : (h.new o).nx = h.nx + 1 := rfl
theorem get_set (h : Heap) (n : Nat) (o : AObj) (j : Nat) : (h.set n o).get j = if j = n then some o else h.get j := Tr.get_set ..
theorem get_drop (h : Heap) (n j : Nat) : (h.drop n).get j = if j = n then none else h.get j := Tr.get_set ..
theorem get_new (h : Heap) (o : AObj) (j : Nat) : (h.new o).get j = if j = h.fresh then some o else h.get j := by
  have := Tr.get_set h.m (2 * h.nx + 1) (some o) j
  exact this
end Heap

/-- a value without a name in it -/
def plain1 : Value → Bool
  | .bool _ | .int .. | .float .. | .string _ | .nilFunc | .nilIface | .pointer none | .slice none _ _ | .map none | .chan none => true
  | _ => false
def plain : Value → Bool
  | .agg cs => cs.toList.all plain1
  | .tuple vs => vs.toList.all plain1
  | v => plain1 v
def aeval (r : Regs) : Operand → Value
  | .tmp t => r.get t
  | .const v => match plain v with
    | true => v
    | false => junk
  | .global g => .pointer (some ⟨2 * g, 0, none⟩)
  | .func f => .func (.func f) #[] #[]
end
end Go.Eng

namespace Go.Eng
open Go
noncomputable section

def BIG : Nat := 2 ^ 69
def BIG2 : Nat := 2 ^ 70

structure Ctx where
  P : Program
  sums : Nat → Option (List Value → Heap → Option (Value × Heap))

inductive Out where
  | val (v : Value) (h : Heap)
  | skip (h : Heap)
  | call (f : FuncId) (args : List Value) (h : Heap)
  | round (l : Nat) (args : List Value) (h : Heap)

def und (c : Ctx) (t : TypeId) : Option TypeDesc := c.P.underlying t
def info (c : Ctx) (t : TypeId) : Option TypeInfo := c.P.info? t
def szOf (c : Ctx) (t : TypeId) : Option Nat :=
  match c.P.info? t with
  | some i => some i.size
  | none => none
def aggT (c : Ctx) (t : TypeId) : Option Bool :=
  match c.P.underlying t with
  | some (.struct _) => some true
  | some (.array _ _) => some true
  | some _ => some false
  | none => none
def zeroCells (c : Ctx) (t : TypeId) : Option (List Value) :=
  match c.P.info? t with
  | some i => match i.zero with
    | some z => match z.cells.toList.all plain1 with
      | true => some z.cells.toList
      | false => none
    | none => none
  | none => none

/-- a value that may be stored into one cell -/
def oneCell : Value → Bool
  | .agg _ | .tuple _ | .complex .. => false
  | _ => true

def readCells (h : Heap) (n off len : Nat) : Option (List Value) :=
  match h.get n with
  | some (.cells c _ _) => match Nat.ble (off + len) c.length with
    | true => some ((c.drop off).take len)
    | false => none
  | some (.grown c _) => match Nat.ble (off + len) c.length with
    | true => some ((c.drop off).take len)
    | false => none
  | _ => none
def splice (c : List Value) (off : Nat) (vs : List Value) : List Value := c.take off ++ (vs ++ c.drop (off + vs.length))
def writeCells (h : Heap) (n off : Nat) (vs : List Value) : Option Heap :=
  match vs.all oneCell with
  | false => none
  | true =>
  match h.get n with
  | some (.cells c e fz) => match Nat.ble (off + vs.length) c.length && (Nat.ble fz.2 off || Nat.ble (off + vs.length) fz.1 || Nat.ble fz.2 fz.1) with
    | true => some (h.set n (.cells (splice c off vs) e fz))
    | false => none
  | some (.grown c e) => match Nat.ble (off + vs.length) c.length with
    | true => some (h.set n (.grown (splice c off vs) e))
    | false => none
  | _ => none

def ptr (n off : Nat) : Value := .pointer (some ⟨n, off, none⟩)

def aload (c : Ctx) (h : Heap) (t : TypeId) : Value → Option Value
  | .pointer (some ⟨n, off, none⟩) =>
    match aggT c t, szOf c t with
    | some true, some s => match readCells h n off s with
      | some l => some (.agg l.toArray)
      | none => none
    | some false, some _ => match readCells h n off 1 with
      | some [v] => some v
      | _ => none
    | _, _ => none
  | _ => none
def astore (c : Ctx) (h : Heap) (t : TypeId) (a v : Value) : Option Heap :=
  match a with
  | .pointer (some ⟨n, off, none⟩) =>
    match szOf c t with
    | some s => match Nat.beq v.cells.size s with
      | true => writeCells h n off v.cells.toList
      | false => none
    | none => none
  | _ => none

def apart (c : Ctx) (t : TypeId) (cs : Array Value) (off : Nat) : Option Value :=
  match aggT c t, szOf c t with
  | some true, some s => some (.agg (cs.extract off (off + s)))
  | some false, some _ => cs[off]?
  | _, _ => none

def okInt (k : IntKind) (b : Bool) (v : Int) : Option Value := if b then some (.int k v) else none

def abits (k : IntKind) (op : BinOp) (x y : Int) : Option Value :=
  let a := BitVec.ofInt k.bits x
  let b := BitVec.ofInt k.bits y
  match op with
  | .and => some (.int k (k.wrap (a &&& b).toNat))
  | .or => some (.int k (k.wrap (a ||| b).toNat))
  | .xor => some (.int k (k.wrap (a ^^^ b).toNat))
  | .andNot => some (.int k (k.wrap (a &&& ~~~b).toNat))
  | _ => none

def abinInt (op : BinOp) (k : IntKind) (x y : Int) : Option Value :=
  match op with
  | .add => some (.int k (k.wrap (x + y)))
  | .sub => some (.int k (k.wrap (x - y)))
  | .mul => some (.int k (k.wrap (x * y)))
  | .quo => if y = 0 then none else some (.int k (k.wrap (x.tdiv y)))
  | .rem => if y = 0 then none else some (.int k (x.tmod y))
  | .eql => some (.bool (x == y))
  | .neq => some (.bool (x != y))
  | .lss => some (.bool (x < y))
  | .leq => some (.bool (x ≤ y))
  | .gtr => some (.bool (x > y))
  | .geq => some (.bool (x ≥ y))
  | .and | .or | .xor | .andNot => abits k op x y
  | _ => none

def abinStr (op : BinOp) (x y : ByteArray) : Option Value :=
  match op with
  | .add => if ((x.size + y.size : Nat) : Int) > IntKind.i64.max then none else some (.string (x ++ y))
  | .eql => some (.bool (x.data.toList == y.data.toList))
  | .neq => some (.bool (!(x.data.toList == y.data.toList)))
  | .lss => some (.bool (Op.bytesLess x.data.toList y.data.toList))
  | .leq => some (.bool (Op.bytesLess x.data.toList y.data.toList || x.data.toList == y.data.toList))
  | .gtr => some (.bool (!(Op.bytesLess x.data.toList y.data.toList || x.data.toList == y.data.toList)))
  | .geq => some (.bool (!Op.bytesLess x.data.toList y.data.toList))
  | _ => none

def allF (p : Field → Option Bool) : List Field → Option Bool
  | [] => some true
  | f :: l => if f.name = "_" then allF p l else match p f with
    | some true => allF p l
    | some false => some false
    | none => none
def allI (p : Nat → Option Bool) : List Nat → Option Bool
  | [] => some true
  | i :: l => match p i with
    | some true => allI p l
    | some false => some false
    | none => none
/-- == of two values of a type -/
def aeqIn (c : Ctx) : Nat → TypeId → Value → Value → Option Bool
  | 0, _, _, _ => none
  | d + 1, t, x, y =>
  match c.P.underlying t, x, y with
  | some .bool, .bool a, .bool b => some (a == b)
  | some (.int _), .int k a, .int k' b => if k = k' then some (a == b) else none
  | some .string, .string a, .string b => some (a.data.toList == b.data.toList)
  | some (.pointer _), .pointer none, .pointer none => some true
  | some (.pointer _), .pointer none, .pointer (some _) => some false
  | some (.pointer _), .pointer (some _), .pointer none => some false
  | some (.pointer e), .pointer (some ⟨n, o, none⟩), .pointer (some ⟨n', o', none⟩) =>
    match Nat.beq n n', szOf c e with
    | true, some (_ + 1) => some (Nat.beq o o')
    | _, _ => none
  | some (.interface _), .nilIface, .nilIface => some true
  | some (.interface _), .nilIface, .iface _ _ => some false
  | some (.interface _), .iface _ _, .nilIface => some false
  | some (.interface _), .iface tx vx, .iface ty vy =>
    if tx ≠ ty then some false else match info c tx with
      | some i => if i.comparable = true then aeqIn c d tx vx vy else none
      | none => none
  | some (.slice _), .slice none _ _, .slice none _ _ => some true
  | some (.slice _), .slice none _ _, .slice (some _) _ _ => some false
  | some (.slice _), .slice (some _) _ _, .slice none _ _ => some false
  | some (.map _ _), .map none, .map none => some true
  | some (.map _ _), .map none, .map (some _) => some false
  | some (.map _ _), .map (some _), .map none => some false
  | some (.func _ _ _), .nilFunc, .nilFunc => some true
  | some (.func _ _ _), .nilFunc, .func _ _ _ => some false
  | some (.func _ _ _), .func _ _ _, .nilFunc => some false
  | some (.struct fs), .agg xs, .agg ys => match c.P.stoodInHeld t with
    | true => none
    | false => allF (fun f => match apart c f.type xs f.offset, apart c f.type ys f.offset with
      | some x, some y => aeqIn c d f.type x y
      | _, _ => none) fs.toList
  | some (.array len e), .agg xs, .agg ys => match szOf c e with
    | none => none
    | some n => allI (fun i => match apart c e xs (i * n), apart c e ys (i * n) with
      | some x, some y => aeqIn c d e x y
      | _, _ => none) (List.range len)
  | _, _, _ => none
def aequal (c : Ctx) (t : TypeId) (x y : Value) : Option Bool :=
  match x, y with
  | .agg _, .agg _ => match c.P.eqGuardType c.P.depth t with
    | true => none
    | false => aeqIn c 20 t x y
  | _, _ => aeqIn c 20 t x y

def abin (c : Ctx) (op : BinOp) (t : TypeId) (x y : Value) (cx cy : Bool) : Option Value :=
  match op, x, y with
  | .shl, .int k a, .int _ b => if b < 0 then none else some (.int k (k.wrap (a * 2 ^ (min b.toNat k.bits))))
  | .shr, .int k a, .int _ b => if b < 0 then none else some (.int k (a.fdiv (2 ^ (min b.toNat k.bits))))
  | op, .int k a, .int k' b => if k = k' then abinInt op k a b else none
  | op, .string a, .string b => abinStr op a b
  | .eql, .nilIface, .nilIface => match cx || cy, aequal c t x y with
    | true, some b => some (.bool b)
    | _, _ => none
  | .neq, .nilIface, .nilIface => match cx || cy, aequal c t x y with
    | true, some b => some (.bool (!b))
    | _, _ => none
  | .eql, x, y => match aequal c t x y with
    | some b => some (.bool b)
    | none => none
  | .neq, x, y => match aequal c t x y with
    | some b => some (.bool (!b))
    | none => none
  | _, _, _ => none

def aun (op : UnOp) (x : Value) : Option Value :=
  match op, x with
  | .neg, .int k n => some (.int k (k.wrap (0 - n)))
  | .xor, .int k n => abits k .xor (if k.signed then -1 else k.max) n
  | .not, .bool b => some (.bool !b)
  | _, _ => none

def bytesOfCells : List Value → Option (List UInt8)
  | [] => some []
  | .int .u8 n :: l => match bytesOfCells l with
    | some r => some (UInt8.ofNat n.toNat :: r)
    | none => none
  | _ => none
def cellsOfBytes (s : ByteArray) : List Value := s.data.toList.map fun b => .int .u8 b.toNat

/-- the place behind the end is frozen -/
def markEnd (fz : Nat × Nat) (n : Nat) : Nat × Nat := if fz.1 == fz.2 then (n, n + 1) else (min fz.1 n, max fz.2 (n + 1))
def aconvSlice (c : Ctx) (src dst e : TypeId) (a : Option Addr) (l k : Nat) (h : Heap) : Option (Value × Heap) :=
  match Nat.beq src dst, c.P.underlying e, a with
  | true, some (.int .u8), some ⟨n, off, none⟩ => match h.get n with
    | some (.cells cs e' fz) => some (.slice (some ⟨n, off, none⟩) l k, h.set n (.cells cs e' (markEnd fz cs.length)))
    | some (.grown _ _) => some (.slice (some ⟨n, off, none⟩) l k, h)
    | _ => none
  | _, _, _ => none
def aconvert (c : Ctx) (src dst : TypeId) (x : Value) (h : Heap) : Option (Value × Heap) :=
  match c.P.underlying src, c.P.underlying dst, x with
  | some _, some (.int k), .int _ n => some (.int k (k.wrap n), h)
  | some _, some .string, .string s => some (.string s, h)
  | some _, some (.slice e), .string s =>
    match c.P.underlying e with
    | some (.int .u8) => match szOf c e with
      | some 1 => if s.size ≤ 2 ^ 60 then some (.slice (some ⟨h.fresh, 0, none⟩) s.size BIG2, h.new (.grown (cellsOfBytes s) e)) else none
      | _ => none
    | _ => none
  | some (.slice _), some (.slice e), .slice a l k => aconvSlice c src dst e a l k h
  | some (.slice e), some .string, .slice a len _ =>
    match c.P.underlying e with
    | some (.int .u8) => match a with
      | none => some (.string .empty, h)
      | some ⟨n, off, none⟩ => match readCells h n off len with
        | some l => match bytesOfCells l with
          | some bs => some (.string ⟨bs.toArray⟩, h)
          | none => none
        | none => none
      | some ⟨_, _, some _⟩ => match len with
        | 0 => some (.string .empty, h)
        | _ => none
    | _ => none
  | some (.pointer t), some .unsafePointer, .pointer (some ⟨n, off, none⟩) =>
    match szOf c t, h.get n with
    | some (_ + 1), some (.cells l _ _) => match Nat.blt off l.length with
      | true => some (.pointer (some ⟨n, off, none⟩), h)
      | false => none
    | _, _ => none
  | some .unsafePointer, some (.pointer u), .pointer (some ⟨n, off, none⟩) =>
    match szOf c u, h.get n with
    | some (_ + 1), some (.cells l e _) => match liesAt c.P c.P.depth e (l.length / c.P.cellsOf e) off u 1 with
      | true => some (.pointer (some ⟨n, off, none⟩), h)
      | false => none
    | _, _ => none
  | _, _, _ => none

def asNat (v : Value) : Option Nat :=
  match v with
  | .int _ i => if 0 ≤ i then some i.toNat else none
  | _ => none

/-- an empty slice that is not nil: where it lies is not known -/
def eslice : Value := .slice (some ⟨0, 0, some 0⟩) 0 0
/-- the bounds of a slice expression -/
def abound (y : Nat) : Option Value → Nat → Option Nat
  | none, d => some d
  | some (.int _ i), _ => if 0 ≤ i ∧ i ≤ y then some i.toNat else none
  | some _, _ => none

def asliceArr (size n : Nat) (a : Addr) (low high max : Option Value) : Option Value :=
  match Nat.blt n BIG with
  | false => none
  | true =>
  match abound n max n with
  | none => none
  | some m => match (if max.isSome && high.isNone then none else abound m high n) with
    | none => none
    | some hi => match abound hi low 0 with
      | none => none
      | some lo => if lo = m then some (.slice (some a) (hi - lo) (m - lo)) else some (.slice (some ⟨a.block, a.off + lo * size, none⟩) (hi - lo) (m - lo))

/-- how many elements a row that grew surely has room for, from a slice's begin on -/
def known (c : Ctx) (h : Heap) (n size len cap : Nat) : Nat :=
  match h.get n with
  | some (.grown cs e) => match szOf c e with
    | some s => match Nat.beq s size with
      | true => Nat.max len (cs.length / size - (BIG2 - cap))
      | false => len
    | none => len
  | _ => len
def aslice (c : Ctx) (t : TypeId) (x : Value) (low high max : Option Value) (h : Heap) : Option Value :=
  match c.P.underlying t, x with
  | some .string, .string s =>
    match max with
    | some _ => none
    | none => match abound s.size high s.size with
      | none => none
      | some hi => match abound hi low 0 with
        | none => none
        | some lo => some (.string (s.extract lo hi))
  | some (.slice e), .slice none len cap => match len, cap with
    | 0, 0 => match abound 0 max 0, szOf c e with
      | none, _ => none
      | _, none => none
      | some _, some _ => match (if max.isSome && high.isNone then none else abound 0 high 0), abound 0 low 0 with
        | some _, some _ => some (.slice none 0 0)
        | _, _ => none
    | _, _ => none
  | some (.slice e), .slice (some ⟨n, off, none⟩) len cap =>
    match szOf c e with
    | none => none
    | some size => match Nat.blt cap BIG with
      | true =>
        match abound cap max cap with
        | none => none
        | some m => match (if max.isSome && high.isNone then none else abound m high len) with
          | none => none
          | some hi => match abound hi low 0 with
            | none => none
            | some lo => if lo = m then some (.slice (some ⟨n, off, none⟩) (hi - lo) (m - lo)) else some (.slice (some ⟨n, off + lo * size, none⟩) (hi - lo) (m - lo))
      | false =>
        match max with
        | some v => match abound (known c h n size len cap) (some v) 0 with
          | none => none
          | some m => match (if high.isNone then none else abound m high len) with
            | none => none
            | some hi => match abound hi low 0 with
              | none => none
              | some lo => if lo = m then some (.slice (some ⟨n, off, none⟩) (hi - lo) (m - lo)) else some (.slice (some ⟨n, off + lo * size, none⟩) (hi - lo) (m - lo))
        | none => match abound (known c h n size len cap) high len with
          | none => none
          | some hi => match abound hi low 0 with
            | none => none
            | some lo => if lo = 0 then some (.slice (some ⟨n, off, none⟩) hi cap) else if lo < known c h n size len cap then some (.slice (some ⟨n, off + lo * size, none⟩) (hi - lo) (cap - lo)) else some eslice
  | some (.slice e), .slice (some ⟨0, 0, some 0⟩) 0 0 =>
    match szOf c e, max, abound 0 high 0, abound 0 low 0 with
    | some _, none, some _, some _ => some eslice
    | _, _, _, _ => none
  | some (.array n e), .pointer (some ⟨b, off, none⟩) =>
    match szOf c e with
    | none => none
    | some size => asliceArr size n ⟨b, off, none⟩ low high max
  | some (.pointer arr), .pointer (some ⟨b, off, none⟩) =>
    match c.P.underlying arr with
    | some (.array n e) => match szOf c e with
      | none => none
      | some size => asliceArr size n ⟨b, off, none⟩ low high max
    | _ => none
  | _, _ => none

def aindexAddr (c : Ctx) (t : TypeId) (x ix : Value) : Option Value :=
  match ix with
  | .int _ i => match c.P.underlying t, x with
    | some (.array len e), .pointer (some ⟨n, off, none⟩) => match szOf c e with
      | some s => if 0 ≤ i ∧ i < len then some (ptr n (off + i.toNat * s)) else none
      | none => none
    | some (.slice e), .slice (some ⟨n, off, none⟩) len _ => match szOf c e with
      | some s => if 0 ≤ i ∧ i < len then some (ptr n (off + i.toNat * s)) else none
      | none => none
    | _, _ => none
  | _ => none
def aindex (c : Ctx) (t : TypeId) (x ix : Value) : Option Value :=
  match ix with
  | .int _ i => match c.P.underlying t, x with
    | some (.array len e), .agg cs => match szOf c e with
      | some s => if 0 ≤ i ∧ i < len then apart c e cs (i.toNat * s) else none
      | none => none
    | some .string, .string s => if 0 ≤ i then match s[i.toNat]? with
        | some b => some (.int .u8 b.toNat)
        | none => none
      else none
    | _, _ => none
  | _ => none

def afieldAddr (c : Ctx) (t : TypeId) (x : Value) (f : Nat) : Option Value :=
  match c.P.underlying t, x with
  | some (.struct fs), .pointer (some ⟨n, off, none⟩) => match fs[f]? with
    | some fd => match szOf c fd.type with
      | some (_ + 1) => some (ptr n (off + fd.offset))
      | _ => none
    | none => none
  | _, _ => none
def afield (c : Ctx) (t : TypeId) (x : Value) (f : Nat) : Option Value :=
  match c.P.underlying t, x with
  | some (.struct fs), .agg cs => match fs[f]? with
    | some fd => apart c fd.type cs fd.offset
    | none => none
  | _, _ => none

def places (c : Ctx) : List Field → Option (List (Nat × Nat))
  | [] => some []
  | f :: l => match szOf c f.type, places c l with
    | some s, some r => some ((f.offset, s) :: r)
    | _, _ => none
def noJunk (vs : List (Nat × Value)) : Bool := vs.all fun p => !isJunk p.2
def abuild (c : Ctx) (t : TypeId) (parts : List (Nat × Value)) : Option Value :=
  match noJunk parts, zeroCells c t, c.P.underlying t with
  | true, some z, some (.struct fs) => match places c fs.toList with
    | some pl => match Instr.fill (fun i => pl[i]?) z.toArray parts with
      | some cs => some (.agg cs)
      | none => none
    | none => none
  | true, some z, some (.array _ e) => match szOf c e with
    | some s => match Instr.fill (fun i => some (i * s, s)) z.toArray parts with
      | some cs => some (.agg cs)
      | none => none
    | none => none
  | _, _, _ => none
def rep (z : List Value) (n : Nat) : List Value := (List.range n).map fun i => z.getD (i % z.length) junk
def abuildSlice (c : Ctx) (t : TypeId) (len : Nat) (parts : List (Nat × Value)) (h : Heap) : Option (Value × Heap) :=
  match noJunk parts, c.P.underlying t with
  | true, some (.slice e) => match szOf c e, zeroCells c e with
    | some s, some z =>
      if len * s > 2 ^ 24 ∨ ¬ len < BIG then none else
      match Instr.fill (fun i => some (i * s, s)) (rep z (len * s)).toArray parts with
      | some cs => some (.slice (some ⟨h.fresh, 0, none⟩) len len, h.new (.cells cs.toList e (0, 0)))
      | none => none
    | _, _ => none
  | _, _ => none

def amakeSlice (c : Ctx) (t : TypeId) (l k : Value) (h : Heap) : Option (Value × Heap) :=
  match c.P.underlying t, l, k with
  | some (.slice e), .int _ l, .int _ k => match info c e, zeroCells c e with
    | some i, some z =>
      if 0 ≤ l ∧ l ≤ k ∧ k ≤ 2 ^ 48 ∧ i.bytes * k ≤ 2 ^ 48 then
        some (.slice (some ⟨h.fresh, 0, none⟩) l.toNat k.toNat, h.new (.cells (rep z (k.toNat * i.size)) e (0, 0)))
      else none
    | _, _ => none
  | _, _, _ => none

/-- what append and copy read: so many elements of it -/
def source (h : Heap) (size n : Nat) : Value → Option (List Value)
  | .slice none _ _ => match n with
    | 0 => some []
    | _ => none
  | .slice (some ⟨b, off, none⟩) _ _ => readCells h b off (n * size)
  | .slice (some ⟨_, _, some _⟩) _ _ => match n with
    | 0 => some []
    | _ => none
  | .string s => match size with
    | 1 => some ((cellsOfBytes s).take n)
    | _ => none
  | _ => none
def lenOf : Value → Option Nat
  | .slice _ n _ => some n
  | .string s => some s.size
  | _ => none

def aappend (c : Ctx) (ts : List TypeId) (s x : Value) (h : Heap) : Option (Value × Heap) :=
  match ts with
  | [st, xt] => match c.P.underlying st, c.P.underlying xt with
    | some (.slice _), some (.int _) => none
    | some (.slice e), some _ => match info c e, zeroCells c e, lenOf x with
      | some i, some z, some n => match source h i.size n x with
        | none => none
        | some new =>
          if i.size = 0 ∨ i.bytes = 0 ∨ z.length ≠ i.size ∨ new.all oneCell = false then none else
          match s with
          | .slice none sl sc => match sl, sc with
            | 0, 0 => if n = 0 then some (s, h) else
              if n * i.bytes > 2 ^ 47 then none else some (.slice (some ⟨h.fresh, 0, none⟩) n BIG2, h.new (.grown new e))
            | _, _ => none
          | .slice (some ⟨b, off, none⟩) sl sc =>
            match Nat.blt sc BIG with
            | true =>
              if sl + n ≤ sc then match writeCells h b (off + sl * i.size) new with
                | some h' => some (.slice (some ⟨b, off, none⟩) (sl + n) sc, h')
                | none => none
              else if (2 * (sl + n) + 1000) * i.bytes > 2 ^ 47 then none else match readCells h b off (sl * i.size) with
                | some old => some (.slice (some ⟨h.fresh, 0, none⟩) (sl + n) BIG2, h.new (.grown (old ++ new) e))
                | none => none
            | false =>
              if n = 0 then some (s, h) else
              if sl + n ≤ known c h b i.size sl sc then match writeCells h b (off + sl * i.size) new with
                | some h' => some (.slice (some ⟨b, off, none⟩) (sl + n) sc, h')
                | none => none
              else
              if (2 * (sl + n) + 1000) * i.bytes > 2 ^ 47 then none else
                match h.get b with
                | some (.grown _ e') => if e' = e ∧ off = (BIG2 - sc) * i.size then match readCells h b off (sl * i.size) with
                    | some old => some (.slice (some ⟨h.fresh, 0, none⟩) (sl + n) BIG2, (h.drop b).new (.grown (old ++ new) e))
                    | none => none
                  else none
                | _ => none
          | _ => none
      | _, _, _ => none
    | _, _ => none
  | _ => none

def acopy (c : Ctx) (ts : List TypeId) (d x : Value) (h : Heap) : Option (Value × Heap) :=
  match ts with
  | dt :: _ => match c.P.underlying dt with
    | some (.slice e) => match szOf c e, lenOf x, d with
      | some s, some m, .slice a dl _ =>
        let n := Nat.min m dl
        match source h s n x with
        | none => none
        | some cs => match a with
          | none => match n with
            | 0 => some (.int .i64 0, h)
            | _ => none
          | some ⟨b, off, none⟩ => match writeCells h b off cs with
            | some h' => some (.int .i64 n, h')
            | none => match cs with
              | [] => some (.int .i64 n, h)
              | _ => none
          | some ⟨_, _, some _⟩ => match n with
            | 0 => some (.int .i64 0, h)
            | _ => none
      | _, _, _ => none
    | _ => none
  | _ => none

def alen (c : Ctx) (t : TypeId) (x : Value) (h : Heap) : Option Value :=
  match c.P.underlying t, x with
  | some .string, .string s => some (.int .i64 s.size)
  | some (.array n _), _ => some (.int .i64 n)
  | some (.pointer arr), _ => match c.P.underlying arr with
    | some (.array n _) => some (.int .i64 n)
    | _ => none
  | some (.slice _), .slice _ n _ => some (.int .i64 n)
  | some (.map _ _), .map none => some (.int .i64 0)
  | some (.map _ _), .map (some r) => match h.get r with
    | some (.map es _) => some (.int .i64 es.length)
    | _ => none
  | _, _ => none
def acap (c : Ctx) (t : TypeId) (x : Value) : Option Value :=
  match c.P.underlying t, x with
  | some (.array n _), _ => some (.int .i64 n)
  | some (.slice _), .slice none _ n => some (.int .i64 n)
  | some (.slice _), .slice (some ⟨_, _, none⟩) _ n => match Nat.blt n BIG with
    | true => some (.int .i64 n)
    | false => none
  | _, _ => none

def min2 : Value → Value → Option Value
  | .int k x, .int _ y => some (.int k (if y < x then y else x))
  | _, _ => none
def max2 : Value → Value → Option Value
  | .int k x, .int _ y => some (.int k (if x < y then y else x))
  | _, _ => none
def fold2 (f : Value → Value → Option Value) : Value → List Value → Option Value
  | x, [] => some x
  | x, y :: l => match f x y with
    | some z => fold2 f z l
    | none => none

def aunsafeString (c : Ctx) (ts : List TypeId) (p n : Value) (h : Heap) : Option (Value × Heap) :=
  match p, n with
  | .pointer none, .int _ 0 => some (.string .empty, h)
  | .pointer (some _), .int _ 0 => some (.string .empty, h)
  | .pointer (some ⟨b, off, none⟩), .int _ n =>
    if 0 < n ∧ n ≤ IntKind.i64.max then
      match ts with
      | pt :: _ => match c.P.underlying pt with
        | some (.pointer e) => match c.P.underlying e, h.get b with
          | some (.int .u8), some (.grown _ e') =>
            if c.P.underlyingId e' = c.P.underlyingId e ∧ szOf c e' = some 1 then
              match readCells h b off n.toNat with
              | some l => match bytesOfCells l with
                | some bs => some (.string ⟨bs.toArray⟩, h.drop b)
                | none => none
              | none => none
            else none
          | _, _ => none
        | _ => none
      | _ => none
    else none
  | _, _ => none

/-- a key that may be asked for -/
def akeyOk (c : Ctx) : Nat → TypeId → Value → Bool
  | 0, _, _ => false
  | d + 1, t, v =>
    match c.P.underlying t, v with
    | some (.struct fs), .agg cs => fs.toList.all fun f => f.name = "_" || match apart c f.type cs f.offset with
      | some x => akeyOk c d f.type x
      | none => false
    | some (.struct _), _ => false
    | some (.array _ _), _ => false
    | some (.interface _), _ => false
    | some _, _ => true
    | none, _ => false
def afind (c : Ctx) (t : TypeId) (k : Value) : List MapEntry → Nat → Option (Option (Nat × Value))
  | [], _ => some none
  | e :: es, i => match aequal c t k e.key with
    | some true => some (some (i, e.val))
    | some false => afind c t k es (i + 1)
    | none => none
def zeroVal (c : Ctx) (t : TypeId) : Option Value :=
  match c.P.info? t with
  | some i => match i.zero with
    | some z => match plain z with
      | true => some z
      | false => none
    | none => none
  | none => none
def amapOf (h : Heap) : Value → Option (List MapEntry)
  | .map none => some []
  | .map (some r) => match h.get r with
    | some (.map es _) => some es
    | _ => none
  | _ => none
def alookup (c : Ctx) (t : TypeId) (x k : Value) (ok : Bool) (h : Heap) : Option Value :=
  match c.P.underlying t, amapOf h x with
  | some (.map kt e), some es => match akeyOk c 10 kt k, afind c kt k es 0, zeroVal c e with
    | true, some (some (_, v)), some _ => some (if ok then .tuple #[v, .bool true] else v)
    | true, some none, some z => some (if ok then .tuple #[z, .bool false] else z)
    | _, _, _ => none
  | _, _ => none
def amapUpdate (c : Ctx) (t : TypeId) (m k v : Value) (h : Heap) : Option Heap :=
  match c.P.underlying t, m with
  | some (.map kt _), .map (some r) => match h.get r with
    | some (.map es clock) => match akeyOk c 10 kt k, plain k, afind c kt k es 0 with
      | true, true, some (some (i, _)) => match es[i]? with
        | some old => match plain old.key && Instr.sameBits 10000 old.key k with
          | true => some (h.set r (.map (es.modify i fun e => { e with key := k, val := v }) clock))
          | false => none
        | none => none
      | true, true, some none => some (h.set r (.map (es ++ [{ key := k, val := v, born := clock }]) (clock + 1)))
      | _, _, _ => none
    | _ => none
  | _, _ => none
def adelete (c : Ctx) (t : TypeId) (m k : Value) (h : Heap) : Option (Value × Heap) :=
  match c.P.underlying t, m with
  | some (.map kt _), .map none => match akeyOk c 10 kt k with
    | true => some (undef, h)
    | false => none
  | some (.map kt _), .map (some r) => match h.get r with
    | some (.map es clock) => match akeyOk c 10 kt k, afind c kt k es 0 with
      | true, some (some (i, _)) => some (undef, h.set r (.map (es.eraseIdx i) clock))
      | true, some none => some (undef, h)
      | _, _ => none
    | _ => none
  | _, _ => none
def atypeAssert (c : Ctx) (x : Value) (t : TypeId) (ok : Bool) : Option Value :=
  match c.P.underlying t, x with
  | some (.interface _), .nilIface => match ok, zeroVal c t with
    | true, some z => some (.tuple #[z, .bool false])
    | _, _ => none
  | some (.interface want), .iface u v => match info c u with
    | some i => match Instr.missingMethod want i.methods with
      | none => some (if ok then .tuple #[.iface u v, .bool true] else .iface u v)
      | some _ => match ok, zeroVal c t with
        | true, some z => some (.tuple #[z, .bool false])
        | _, _ => none
    | none => none
  | some _, .nilIface => match ok, zeroVal c t with
    | true, some z => some (.tuple #[z, .bool false])
    | _, _ => none
  | some _, .iface u v => match Nat.beq u t with
    | true => some (if ok then .tuple #[v, .bool true] else v)
    | false => match ok, zeroVal c t with
      | true, some z => some (.tuple #[z, .bool false])
      | _, _ => none
  | _, _ => none
def aarrayAt (c : Ctx) (t : TypeId) (x : Value) : Option Value :=
  match c.P.underlying t, x with
  | some (.array n _), .slice (some ⟨b, off, none⟩) len _ => match Nat.ble n len with
    | true => some (ptr b off)
    | false => none
  | _, _ => none
def aclear (c : Ctx) (t : TypeId) (x : Value) (h : Heap) : Option (Value × Heap) :=
  match c.P.underlying t, x with
  | some (.slice _), .slice none _ _ => some (undef, h)
  | some (.slice _), .slice (some _) 0 _ => some (undef, h)
  | some (.slice e), .slice (some ⟨b, off, none⟩) n _ => match szOf c e, zeroCells c e with
    | some s, some z => match Nat.beq z.length s, writeCells h b off (rep z (n * s)) with
      | true, some h' => some (undef, h')
      | _, _ => none
    | _, _ => none
  | some (.map _ _), .map none => some (undef, h)
  | some (.map _ _), .map (some r) => match h.get r with
    | some (.map _ clock) => some (undef, h.set r (.map [] clock))
    | _ => none
  | _, _ => none
def abuiltin (c : Ctx) (b : Builtin) (ts : List TypeId) (args : List Value) (h : Heap) : Option (Value × Heap) :=
  match b, args with
  | .append, [s, x] => aappend c ts s x h
  | .copy, [d, x] => acopy c ts d x h
  | .len, [x] => match ts with
    | t :: _ => match alen c t x h with
      | some v => some (v, h)
      | none => none
    | _ => none
  | .cap, [x] => match ts with
    | t :: _ => match acap c t x with
      | some v => some (v, h)
      | none => none
    | _ => none
  | .min, x :: l => match fold2 min2 x l with
    | some v => some (v, h)
    | none => none
  | .max, x :: l => match fold2 max2 x l with
    | some v => some (v, h)
    | none => none
  | .delete, [m, k] => match ts with
    | t :: _ => adelete c t m k h
    | _ => none
  | .clear, [x] => match ts with
    | t :: _ => aclear c t x h
    | _ => none
  | .unsafeString, [p, n] => match ts with
    | [] => none
    | _ :: _ => aunsafeString c ts p n h
  | .unsafeSliceData, [.slice none _ _] => some (.pointer none, h)
  | .unsafeSliceData, [.slice (some a) (_ + 1) _] => some (.pointer (some a), h)
  | _, _ => none

/-- the function and the receiver of a method of a value in an interface -/
def amethod (c : Ctx) (h : Heap) (t : TypeId) (v : Value) (name : String) : Option (FuncId × Value) :=
  match info c t with
  | some i => match i.methods.toList.find? (·.name == name) with
    | some m => match m.path.toList, m.func with
      | [], some (f, true) => match c.P.underlying t with
        | some (.pointer _) => some (f, v)
        | _ => none
      | [], some (f, false) => match c.P.underlying t with
        | some (.pointer e) => match aload c h e v with
          | some r => some (f, r)
          | none => none
        | some _ => some (f, v)
        | none => none
      | [st], some (f, true) => match st.deref, c.P.underlying st.struct, v with
        | true, some (.struct fs), .pointer (some ⟨n, off, none⟩) => match fs[st.index]? with
          | some fd => match szOf c fd.type, c.P.underlying fd.type with
            | some (_ + 1), some (.struct _) => some (f, ptr n (off + fd.offset))
            | _, _ => none
          | none => none
        | _, _, _ => none
      | _, _ => none
    | none => none
  | none => none

def acallMethod (c : Ctx) (recv : Value) (name : String) (args : List Value) (h : Heap) : Option Out :=
  match recv with
  | .iface t v => match amethod c h t v name with
    | some (f, r) => some (.call f (r :: args) h)
    | none => none
  | _ => none

def acallValue (c : Ctx) (f : Value) (args : List Value) (h : Heap) : Option Out :=
  match f with
  | .func (.func f) first cap => some (.call f (first.toList ++ args ++ cap.toList) h)
  | .func (.yield l) first _ => some (.round l (first.toList ++ args) h)
  | .func (.method name) first _ => match first.toList ++ args with
    | recv :: rest => acallMethod c recv name rest h
    | [] => none
  | .func (.methodOf t name) first _ => match first.toList ++ args with
    | recv :: rest => match c.P.underlying t with
      | some (.interface _) => acallMethod c recv name rest h
      | some _ => match isJunk recv with
        | true => none
        | false => acallMethod c (.iface t recv) name rest h
      | none => none
    | [] => none
  | _ => none

def acall (c : Ctx) (ρ : Operand → Value) (cl : Call) (h : Heap) : Option Out :=
  let args := cl.args.toList.map ρ
  match cl.callee with
  | .builtin b => match abuiltin c b cl.argTypes.toList args h with
    | some (v, h') => some (.val v h')
    | none => none
  | .invoke recv name => acallMethod c (ρ recv) name args h
  | .value f => acallValue c (ρ f) args h

def arange (c : Ctx) (t : TypeId) (x : Value) (h : Heap) : Option (Value × Heap) :=
  match c.P.underlying t, x with
  | some .string, .string s => some (ptr h.fresh 0, h.new (.siter s 0))
  | _, _ => none
def anext (it : Value) (isString : Bool) (h : Heap) : Option (Value × Heap) :=
  match it, isString with
  | .pointer (some ⟨n, 0, none⟩), true => match h.get n with
    | some (.siter s pos) =>
      if pos < s.size then some (.tuple #[.bool true, .int .i64 pos, .int .i32 (Utf8.decode s pos).1], h.set n (.siter s (pos + (Utf8.decode s pos).2)))
      else some (.tuple #[.bool false], h)
    | _ => none
  | _, _ => none

def isC : Operand → Bool
  | .const _ => true
  | _ => false
def val1 (h : Heap) : Option Value → Option Out
  | some v => some (.val v h)
  | none => none
def val2 : Option (Value × Heap) → Option Out
  | some (v, h) => some (.val v h)
  | none => none

def aop (c : Ctx) (ρ : Operand → Value) (o : Op) (h : Heap) : Option Out :=
  match o with
  | .move x | .assign x => some (.val (ρ x) h)
  | .pick a x y => match ρ a with
    | .bool true => some (.val (ρ x) h)
    | .bool false => some (.val (ρ y) h)
    | _ => none
  | .alloc t => match zeroCells c t with
    | some z => some (.val (ptr h.fresh 0) (h.new (.cells z t (0, 0))))
    | none => none
  | .box t x => match isJunk (ρ x) with
    | true => none
    | false => some (.val (ptr h.fresh 0) (h.new (.cells (ρ x).cells.toList t (0, 0))))
  | .build t parts => val1 h (abuild c t (parts.toList.map fun (i, x) => (i, ρ x)))
  | .buildSlice t len parts => val2 (abuildSlice c t len (parts.toList.map fun (i, x) => (i, ρ x)) h)
  | .load t a => val1 h (aload c h t (ρ a))
  | .store t a x => match astore c h t (ρ a) (ρ x) with
    | some h' => some (.skip h')
    | none => none
  | .nilCheck x => match ρ x with
    | .pointer (some a) => some (.val (.pointer (some a)) h)
    | .iface t v => some (.val (.iface t v) h)
    | .func (.func f) a b => some (.val (.func (.func f) a b) h)
    | .func (.yield f) a b => some (.val (.func (.yield f) a b) h)
    | _ => none
  | .binOp op t x y _ => val1 h (abin c op t (ρ x) (ρ y) (isC x) (isC y))
  | .unOp op _ x => val1 h (aun op (ρ x))
  | .convert s d x => val2 (aconvert c s d (ρ x) h)
  | .makeInterface t x => match c.P.underlying t with
    | some (.interface _) => none
    | some _ => some (.val (.iface t (ρ x)) h)
    | none => none
  | .makeFunc fn first cap => match fn with
    | .yield _ => none
    | _ => some (.val (.func fn (first.map ρ) (cap.map ρ)) h)
  | .makeSlice t l k => val2 (amakeSlice c t (ρ l) (ρ k) h)
  | .slice t x lo hi mx => val1 h (aslice c t (ρ x) (lo.map ρ) (hi.map ρ) (mx.map ρ) h)
  | .fieldAddr t x f => val1 h (afieldAddr c t (ρ x) f)
  | .field t x f => val1 h (afield c t (ρ x) f)
  | .indexAddr t x i => val1 h (aindexAddr c t (ρ x) (ρ i))
  | .index t x i => val1 h (aindex c t (ρ x) (ρ i))
  | .extract x i => match ρ x with
    | .tuple vs => match vs[i]? with
      | some v => some (.val v h)
      | none => none
    | _ => none
  | .makeMap t r => match r.map ρ with
    | none => some (.val (.map (some h.fresh)) (h.new (.map [] 0)))
    | some (.int _ _) => match c.P.underlying t with
      | some (.map _ _) => some (.val (.map (some h.fresh)) (h.new (.map [] 0)))
      | _ => none
    | some _ => none
  | .lookup t x k ok => val1 h (alookup c t (ρ x) (ρ k) ok h)
  | .mapUpdate t m k x => match amapUpdate c t (ρ m) (ρ k) (ρ x) h with
    | some h' => some (.skip h')
    | none => none
  | .insert t m k x => match amapUpdate c t (ρ m) (ρ k) (ρ x) h with
    | some h' => some (.skip h')
    | none => none
  | .typeAssert x _ t ok => val1 h (atypeAssert c (ρ x) t ok)
  | .sliceToArrayPointer t x => val1 h (aarrayAt c t (ρ x))
  | .range t x => val2 (arange c t (ρ x) h)
  | .next it s => val2 (anext (ρ it) s h)
  | .call cl => acall c ρ cl h
  | _ => none
end
end Go.Eng

namespace Go.Eng
open Go
noncomputable section

structure St where
  r : Regs
  h : Heap
  d : List Nat

inductive Ex where
  | nrm
  | jmp (c : Code)

inductive Req where
  | code (f : FuncId) (rd : Option Nat) (c : Code) (st : St)
  | scope (f : FuncId) (rd : Option Nat) (body cur : Code) (st : St)
  | call (f : FuncId) (args : List Value) (h : Heap)
  | round (l : Nat) (args : List Value) (h : Heap)

inductive Ans where
  | fin (e : Ex) (st : St)
  | ret (v : Value) (h : Heap)

abbrev Rec := Req → Option Ans

/-- is an operation carried out? none: not known -/
def awanted (ops : Array Oper) (o : Oper) (ρ : Operand → Value) : Option Bool :=
  match o.guard with
  | none => some true
  | some (j, want) => match ops[j]? with
    | some oj => match oj.dst with
      | some t => match ρ (.tmp t) with
        | .bool b => some (b == want)
        | .complex .. => none
        | _ => some false
      | none => some false
    | none => some false

def doOut (rec : Rec) (r : Regs) (dst : Option Tmp) : Out → Option (Regs × Heap)
  | .val v h => some (r.put dst v, h)
  | .skip h => some (r.put dst undef, h)
  | .call f args h => match rec (.call f args h) with
    | some (.ret v h') => some (r.put dst v, h')
    | _ => none
  | .round l args h => match rec (.round l args h) with
    | some (.ret v h') => some (r.put dst v, h')
    | _ => none
def evOp (rec : Rec) (c : Ctx) (ops : Array Oper) (o : Oper) (r : Regs) (h : Heap) : Option (Regs × Heap) :=
  match awanted ops o (aeval r) with
  | none => none
  | some false => some (r.put o.dst undef, h)
  | some true => match aop c (aeval r) o.op h with
    | some out => doOut rec r o.dst out
    | none => none
def evOps (rec : Rec) (c : Ctx) (ops : Array Oper) : List Oper → Regs → Heap → Option (Regs × Heap)
  | [], r, h => some (r, h)
  | o :: l, r, h => match evOp rec c ops o r h with
    | some (r', h') => evOps rec c ops l r' h'
    | none => none

/-- operations that only read -/
def quietK (c : Ctx) : Op → Bool
  | .move _ | .assign _ | .pick .. | .build .. | .load .. | .nilCheck _ | .binOp .. | .unOp .. | .makeInterface .. | .makeFunc .. | .slice .. | .fieldAddr .. | .field .. | .indexAddr .. | .index .. | .extract .. => true
  | .convert _ d _ => match c.P.underlying d with
    | some (.slice _) => false
    | _ => true
  | .call { callee := .builtin b, .. } => match b with
    | .len | .cap | .min | .max | .unsafeSliceData => true
    | _ => false
  | _ => false
/-- operations that do not look at memory -/
def pureK : Op → Bool
  | .move _ | .assign _ | .pick .. | .build .. | .nilCheck _ | .binOp .. | .unOp .. | .makeInterface .. | .makeFunc .. | .fieldAddr .. | .field .. | .indexAddr .. | .index .. | .extract .. => true
  | _ => false
/-- the value of an operation that only reads -/
def qval (c : Ctx) (ops : Array Oper) (o : Oper) (ρ : Operand → Value) (h : Heap) : Option Value :=
  match awanted ops o ρ with
  | none => none
  | some false => some undef
  | some true => match quietK c o.op with
    | false => none
    | true => match aop c ρ o.op h with
      | some (.val v _) => some v
      | _ => none

/-- equality of values that is told by running -/
def beqV1 : Value → Value → Bool
  | .bool a, .bool b => a == b
  | .int k a, .int k' b => k == k' && a == b
  | .string a, .string b => a.data.toList == b.data.toList
  | .pointer none, .pointer none => true
  | .pointer (some ⟨n, o, none⟩), .pointer (some ⟨n', o', none⟩) => Nat.beq n n' && Nat.beq o o'
  | .slice none a b, .slice none a' b' => Nat.beq a a' && Nat.beq b b'
  | .slice (some ⟨n, o, none⟩) a b, .slice (some ⟨n', o', none⟩) a' b' => Nat.beq n n' && Nat.beq o o' && Nat.beq a a' && Nat.beq b b'
  | .map none, .map none => true
  | .map (some a), .map (some b) => Nat.beq a b
  | .nilFunc, .nilFunc => true
  | .nilIface, .nilIface => true
  | .complex .f64 7 7, .complex .f64 7 7 => true
  | .slice (some ⟨0, 0, some 0⟩) 0 0, .slice (some ⟨0, 0, some 0⟩) 0 0 => true
  | _, _ => false
def beqL : List Value → List Value → Bool
  | [], [] => true
  | a :: l, b :: m => beqV1 a b && beqL l m
  | _, _ => false
def beqV : Value → Value → Bool
  | .agg a, .agg b => beqL a.toList b.toList
  | .tuple a, .tuple b => beqL a.toList b.toList
  | .iface t a, .iface u b => Nat.beq t u && match a, b with
    | .agg a, .agg b => beqL a.toList b.toList
    | a, b => beqV1 a b
  | a, b => beqV1 a b

/-- what an operation that was taken ahead has read -/
structure Fact where
  i : Nat
  o : Oper
  r : Regs
  v : Value
def factHolds (c : Ctx) (ops : Array Oper) (h : Heap) (f : Fact) : Bool :=
  match qval c ops f.o (aeval f.r) h with
  | some v => beqV v f.v
  | none => false
def findQ (ops : Array Oper) (c : Ctx) (listed : Array Bool) (r : Regs) (h : Heap) : List Nat → Option (Nat × Oper × Value)
  | [] => none
  | i :: l => match ops[i]? with
    | some o => match qval c ops o (aeval r) h with
      | some v => match Region.free .any ops listed i with
        | true => some (i, o, v)
        | false => findQ ops c listed r h l
      | none => findQ ops c listed r h l
    | none => findQ ops c listed r h l
/-- operations that make a block and look at nothing: the block, and the value, of its name -/
def anew (c : Ctx) (ρ : Operand → Value) : Op → Option (AObj × (Nat → Value))
  | .alloc t => match zeroCells c t with
    | some z => some (.cells z t (0, 0), fun n => ptr n 0)
    | none => none
  | .box t x => match isJunk (ρ x) with
    | true => none
    | false => some (.cells (ρ x).cells.toList t (0, 0), fun n => ptr n 0)
  | _ => none
def findN (ops : Array Oper) (c : Ctx) (listed : Array Bool) (r : Regs) : List Nat → Option (Nat × Oper × AObj × (Nat → Value))
  | [] => none
  | i :: l => match ops[i]? with
    | some o => match awanted ops o (aeval r), anew c (aeval r) o.op with
      | some true, some (ob, mk) => match Region.free .any ops listed i with
        | true => some (i, o, ob, mk)
        | false => findN ops c listed r l
      | _, _ => findN ops c listed r l
    | none => findN ops c listed r l
/-- a fact to be kept, of an operation that looks at memory -/
def keepFact (f : Fact) (l : List Fact) : List Fact :=
  match pureK f.o.op with
  | true => l
  | false => f :: l
def evDraw (rec : Rec) (c : Ctx) (ops : Array Oper) (B : Array Nat) : Nat → Array Bool → List Fact → Regs → Heap → Option (Regs × Heap)
  | 0, listed, _, r, h =>
    match Region.ready .any ops listed with
    | [] => some (r, h)
    | _ :: _ => none
  | n + 1, listed, facts, r, h =>
    match Region.ready .any ops listed with
    | [] => some (r, h)
    | i :: rest =>
      match findQ ops c listed r h (i :: rest) with
      | some (j, o, v) => evDraw rec c ops B n (listed.setIfInBounds j true) (keepFact ⟨j, o, r, v⟩ facts) (r.put o.dst v) h
      | none => match rest, ops[i]? with
        | [], some o => match evOp rec c ops o r h with
          | some (r', h') =>
            let facts' := facts.filter fun f => !(B.getD i 0).testBit f.i
            match facts'.all (factHolds c ops h') with
            | true => evDraw rec c ops B n (listed.setIfInBounds i true) facts' r' h'
            | false => none
          | none => none
        | _, _ => match findN ops c listed r (i :: rest) with
          | some (j, o, ob, mk) => match facts.all (factHolds c ops (h.new ob)) with
            | true => evDraw rec c ops B n (listed.setIfInBounds j true) facts (r.put o.dst (mk h.fresh)) (h.new ob)
            | false => none
          | none => none

def evRegion (rec : Rec) (c : Ctx) (ops : Array Oper) (draw : Bool) (r : Regs) (h : Heap) : Option (Regs × Heap) :=
  match draw with
  | false => evOps rec c ops ops.toList r h
  | true => evDraw rec c ops (Region.before ops) ops.size (Array.replicate ops.size false) [] r h

def aresult (c : Ctx) (r : Regs) (h : Heap) : List ResultVar → Option (List Value)
  | [] => some []
  | .tmp t :: l => match aresult c r h l with
    | some vs => some (r.get t :: vs)
    | none => none
  | .cell a t :: l => match aload c h t (r.get a), aresult c r h l with
    | some v, some vs => some (v :: vs)
    | _, _ => none
def aresults (c : Ctx) (fn : Func) (r : Regs) (h : Heap) : Option Value :=
  match aresult c r h fn.results.toList with
  | some [v] => some v
  | some vs => some (.tuple vs.toArray)
  | none => none

def zipFrom : Nat → List Value → List (Nat × Value)
  | _, [] => []
  | n, v :: l => (n, v) :: zipFrom (n + 1) l
def enterRegs (ntmps : Nat) (args : List Value) : Regs := { n := max args.length ntmps, ov := zipFrom 0 args, base := .nil }
def setAll : Regs → List (Tmp × Value) → Regs
  | r, [] => r
  | r, (t, v) :: l => setAll (r.set t v) l
/-- the marks' blocks are taken -/
def unmark : List Nat → Heap → Option Heap
  | [], h => some h
  | n :: l, h => match h.get n with
    | some (.deferred (some [])) => unmark l (h.set n (.deferred none))
    | _ => none

def evF (c : Ctx) (rec : Rec) : Req → Option Ans
  | .code f rd cd st =>
    match cd with
    | .skip => some (.fin .nrm st)
    | .label _ => some (.fin .nrm st)
    | .region _ ops draw => match evRegion rec c ops draw st.r st.h with
      | some (r, h) => some (.fin .nrm { st with r, h })
      | none => none
    | .seq a b => match rec (.code f rd a st) with
      | some (.fin .nrm st') => rec (.code f rd b st')
      | x => x
    | .cond x a b => match aeval st.r x with
      | .bool true => rec (.code f rd a st)
      | .bool false => rec (.code f rd b st)
      | _ => none
    | .block id b => match rec (.code f rd b st) with
      | some (.fin (.jmp (.exit id')) st') => match Nat.beq id' id with
        | true => some (.fin .nrm st')
        | false => some (.fin (.jmp (.exit id')) st')
      | x => x
    | .loop b => match rec (.code f rd b st) with
      | some (.fin .nrm st') => rec (.code f rd (.loop b) { st' with r := st'.r.flush })
      | x => x
    | .scope b => rec (.scope f rd b b st)
    | .exit id => some (.fin (.jmp (.exit id)) st)
    | .goto l => some (.fin (.jmp (.goto l)) st)
    | .ret => some (.fin (.jmp .ret) st)
    | .refuse _ => none
    | .rangeFunc x params assign body =>
      match (match rd with
        | none => some (st.h.new (.deferred (some [])), st.h.fresh :: st.d, st.h.fresh)
        | some l => match st.h.get l with
          | some (.loop _ _ _ _ _ _ _ ds) => some (st.h, st.d, ds)
          | _ => none) with
      | none => none
      | some (h1, d1, ds) =>
        let l := h1.fresh
        match acallValue c (aeval st.r x) [.func (.yield l) #[] #[]] (h1.new (.loop .ready none f st.r.flush params assign body ds)) with
        | some (.call g args h2) => match rec (.call g args h2) with
          | some (.ret _ h3) => match h3.get l with
            | some (.loop .busy _ _ _ _ _ _ _) => none
            | some (.loop _ pending fn rs ps as bd dd) =>
              let st' : St := { r := st.r, h := h3.set l (.loop .exhausted pending fn rs ps as bd dd), d := d1 }
              match pending with
              | none => some (.fin .nrm st')
              | some j => rec (.code f rd j st')
            | _ => none
          | _ => none
        | _ => none
  | .scope f rd body cur st =>
    match rec (.code f rd cur st) with
    | some (.fin (.jmp (.goto l)) st') => match findLabel body l with
      | some rest => rec (.scope f rd body rest { st' with r := st'.r.flush })
      | none => some (.fin (.jmp (.goto l)) st')
    | x => x
  | .round l args h =>
    match h.get l with
    | some (.loop s p fn rs ps as bd dd) =>
      match Nat.beq args.length ps.size, s with
      | true, .ready =>
        match rec (.code fn (some l) as { r := setAll rs (ps.toList.zip args), h, d := [] }) with
        | some (.fin .nrm st1) => match st1.h.get l with
          | some (.loop .ready p1 fn1 rs1 ps1 as1 bd1 dd1) =>
            match rec (.code fn (some l) bd { st1 with h := st1.h.set l (.loop .busy p1 fn1 rs1 ps1 as1 bd1 dd1) }) with
            | some (.fin e st2) => match st2.h.get l with
              | some (.loop _ _ fn2 rs2 ps2 as2 bd2 dd2) =>
                match e with
                | .nrm => some (.ret (.bool true) (st2.h.set l (.loop .ready none fn2 rs2 ps2 as2 bd2 dd2)))
                | .jmp j => some (.ret (.bool false) (st2.h.set l (.loop .done (some j) fn2 rs2 ps2 as2 bd2 dd2)))
              | _ => none
            | _ => none
          | _ => none
        | _ => none
      | _, _ => none
    | _ => none
  | .call f args h =>
    match c.sums f with
    | some s => match s args h with
      | some (v, h') => some (.ret v h')
      | none => none
    | none => match c.P.funcs.toList[f]? with
      | none => none
      | some fn => match fn.body with
        | none => none
        | some body =>
          match rec (.code f none body { r := enterRegs fn.ntmps args, h, d := [] }) with
          | some (.fin e st) => match (match e with | .nrm => true | .jmp .ret => true | _ => false), unmark st.d st.h with
            | true, some h' => match aresults c fn st.r h' with
              | some v => some (.ret v h')
              | none => none
            | _, _ => none
          | _ => none

/-- the evaluator -/
def ev (c : Ctx) (n : Nat) : Req → Option Ans :=
  Nat.rec (motive := fun _ => Req → Option Ans) (fun _ => none) (fun _ ih => evF c ih) n
theorem ev_zero (c : Ctx) (q : Req) : ev c 0 q = none := rfl
theorem ev_succ (c : Ctx) (n : Nat) (q : Req) : ev c (n + 1) q = evF c (ev c n) q := rfl
end
end Go.Eng

namespace Go.Eng
open Go
noncomputable section

/-- what a name stands for: a block, where its cells begin in it, how many elements it holds; or a block that is not made yet -/
inductive Slot where
  | made (x : Nat × Nat × Nat)
  | pend (o : AObj)
def Slot.get : Option Slot → Option (Nat × Nat × Nat)
  | some (.made x) => some x
  | _ => none
/-- of each name that was given -/
abbrev Env := List Slot
def Env.at (e : Env) (n : Nat) : Option (Nat × Nat × Nat) := if n % 2 = 0 then some (n / 2, 0, 0) else Slot.get e[n / 2]?
/-- each name that stands for a block does so there too -/
def Sub (e e' : Env) : Prop := ∀ (n : Nat) (x : Nat × Nat × Nat), e.at n = some x → e'.at n = some x
def Env.le (e e' : Env) : Prop := ∃ l, e' = e ++ l
theorem Env.le_refl (e : Env) : e.le e := ⟨[], by simp⟩
theorem Env.le_trans {a b c : Env} (h : a.le b) (g : b.le c) : a.le c := by
  obtain ⟨l, rfl⟩ := h; obtain ⟨m, rfl⟩ := g; exact ⟨l ++ m, by simp⟩
theorem Env.at_mono {e e' : Env} (h : e.le e') {n : Nat} {x : Nat × Nat × Nat} (g : e.at n = some x) : e'.at n = some x := by
  obtain ⟨l, rfl⟩ := h
  unfold Env.at at *
  split
  · rename_i hn; rw [if_pos hn] at g; exact g
  · rename_i hn; rw [if_neg hn] at g
    rw [List.getElem?_append_left]
    · exact g
    · cases hx : e[n / 2]? with
      | none => rw [hx] at g; cases g
      | some y => exact (List.getElem?_eq_some_iff.1 hx).1
theorem Env.le.sub {e e' : Env} (h : e.le e') : Sub e e' := fun _ _ g => Env.at_mono h g
theorem Env.le_snoc (e : Env) (x : Slot) : e.le (e ++ [x]) := ⟨[x], rfl⟩
theorem Env.at_snoc (e : Env) (x : Nat × Nat × Nat) : (Env.at (e ++ [.made x]) (2 * e.length + 1)) = some x := by
  unfold Env.at
  rw [if_neg (by omega), show (2 * e.length + 1) / 2 = e.length from by omega]
  simp [Slot.get]
theorem Env.at_even (e : Env) (b : Nat) : e.at (2 * b) = some (b, 0, 0) := by
  unfold Env.at
  rw [if_pos (by omega), show 2 * b / 2 = b from by omega]
/-- what stands in the longer one alone -/
theorem Env.at_new {e : Env} {x y : Nat × Nat × Nat} {n : Nat} (h : Env.at (e ++ [.made x]) n = some y) : e.at n = some y ∨ (n = 2 * e.length + 1 ∧ y = x) := by
  unfold Env.at at *
  by_cases hn : n % 2 = 0
  · rw [if_pos hn] at h ⊢; exact .inl h
  · rw [if_neg hn] at h ⊢
    rcases Nat.lt_or_ge (n / 2) e.length with hl | hl
    · rw [List.getElem?_append_left hl] at h; exact .inl h
    · rw [List.getElem?_append_right hl] at h
      have hz : n / 2 - e.length = 0 := by
        rcases Nat.eq_zero_or_pos (n / 2 - e.length) with z | z
        · exact z
        · rw [List.getElem?_eq_none (by simp; omega)] at h; cases h
      rw [hz] at h
      simp [Slot.get] at h
      exact .inr ⟨by omega, h.symm⟩
theorem Env.some_new {e : Env} {x : Nat × Nat × Nat} {n : Nat} (h : (Env.at (e ++ [.made x]) n).isSome = true) (hn : n ≠ 2 * e.length + 1) : (e.at n).isSome = true := by
  obtain ⟨y, hy⟩ := Option.isSome_iff_exists.1 h
  rcases Env.at_new hy with h | ⟨h, _⟩
  · rw [h]; rfl
  · exact absurd h hn

theorem at_some {α : Type} {x : Option α} {y : α} (h : x = some y) : x.isSome = true := by rw [h]; rfl
inductive FnR (e : Env) : Fn → Fn → Prop
  | func (f : FuncId) : FnR e (.func f) (.func f)
  | method (n : String) : FnR e (.method n) (.method n)
  | methodOf (t : TypeId) (n : String) : FnR e (.methodOf t n) (.methodOf t n)
  | via (t : TypeId) (p : Array FieldStep) (f : FuncId) (q : Bool) : FnR e (.via t p f q) (.via t p f q)
  | yield {l b k : Nat} (h : e.at l = some (b, 0, k)) : FnR e (.yield l) (.yield b)

/-- the real capacity of a slice -/
def rcap (κ c : Nat) : Nat := if c < BIG then c else κ - (BIG2 - c)

mutual
inductive VR (e : Env) : Value → Value → Prop
  | junk (v : Value) : VR e junk v
  | bool (b : Bool) : VR e (.bool b) (.bool b)
  | int (k : IntKind) (n : Int) : VR e (.int k n) (.int k n)
  | float (k : FloatKind) (n : Nat) : VR e (.float k n) (.float k n)
  | string (s : ByteArray) : VR e (.string s) (.string s)
  | ptr0 : VR e (.pointer none) (.pointer none)
  | ptr {n b base κ : Nat} (off : Nat) (h : e.at n = some (b, base, κ)) : VR e (.pointer (some ⟨n, off, none⟩)) (.pointer (some ⟨b, base + off, none⟩))
  | slice0 (l c : Nat) : VR e (.slice none l c) (.slice none l c)
  | slice {n b base κ : Nat} (off l c : Nat) (h : e.at n = some (b, base, κ)) (hc : c < BIG ∨ (c ≤ BIG2 ∧ BIG2 - c ≤ κ ∧ κ ≤ 2 ^ 64)) (hl : l ≤ rcap κ c) :
      VR e (.slice (some ⟨n, off, none⟩) l c) (.slice (some ⟨b, base + off, none⟩) l (rcap κ c))
  | sliceE (x : Addr) (c : Nat) : VR e (.slice (some ⟨0, 0, some 0⟩) 0 0) (.slice (some x) 0 c)
  | map0 : VR e (.map none) (.map none)
  | map {n b κ : Nat} (h : e.at n = some (b, 0, κ)) : VR e (.map (some n)) (.map (some b))
  | chan0 : VR e (.chan none) (.chan none)
  | chan {n b κ : Nat} (h : e.at n = some (b, 0, κ)) : VR e (.chan (some n)) (.chan (some b))
  | func {f g : Fn} {a b c d : Array Value} (hf : FnR e f g) (ha : VRs e a.toList b.toList) (hc : VRs e c.toList d.toList) : VR e (.func f a c) (.func g b d)
  | nilFunc : VR e .nilFunc .nilFunc
  | iface (t : TypeId) {v v' : Value} (h : VR e v v') : VR e (.iface t v) (.iface t v')
  | nilIface : VR e .nilIface .nilIface
  | agg {a b : Array Value} (h : VRs e a.toList b.toList) : VR e (.agg a) (.agg b)
  | tuple {a b : Array Value} (h : VRs e a.toList b.toList) : VR e (.tuple a) (.tuple b)
inductive VRs (e : Env) : List Value → List Value → Prop
  | nil : VRs e [] []
  | cons {v w : Value} {l m : List Value} (h : VR e v w) (t : VRs e l m) : VRs e (v :: l) (w :: m)
end

theorem FnR.sub {e e' : Env} (h : Sub e e') {f g : Fn} (r : FnR e f g) : FnR e' f g := by
  cases r with
  | func f => exact .func f
  | method n => exact .method n
  | methodOf t n => exact .methodOf t n
  | via t p f q => exact .via t p f q
  | yield h' => exact .yield (h _ _ h')
mutual
theorem VR.sub {e e' : Env} (h : Sub e e') : ∀ {v w : Value}, VR e v w → VR e' v w
  | _, _, .junk v => .junk v
  | _, _, .bool b => .bool b
  | _, _, .int k n => .int k n
  | _, _, .float k n => .float k n
  | _, _, .string s => .string s
  | _, _, .ptr0 => .ptr0
  | _, _, .ptr off g => .ptr off (h _ _ g)
  | _, _, .slice0 l c => .slice0 l c
  | _, _, .slice off l c g hc hl => .slice off l c (h _ _ g) hc hl
  | _, _, .sliceE x c => .sliceE x c
  | _, _, .map0 => .map0
  | _, _, .map g => .map (h _ _ g)
  | _, _, .chan0 => .chan0
  | _, _, .chan g => .chan (h _ _ g)
  | _, _, .func hf ha hc => .func (hf.sub h) (VRs.sub h ha) (VRs.sub h hc)
  | _, _, .nilFunc => .nilFunc
  | _, _, .iface t g => .iface t (VR.sub h g)
  | _, _, .nilIface => .nilIface
  | _, _, .agg g => .agg (VRs.sub h g)
  | _, _, .tuple g => .tuple (VRs.sub h g)
theorem VRs.sub {e e' : Env} (h : Sub e e') : ∀ {v w : List Value}, VRs e v w → VRs e' v w
  | _, _, .nil => .nil
  | _, _, .cons g t => .cons (VR.sub h g) (VRs.sub h t)
end

theorem FnR.mono {e e' : Env} (h : e.le e') {f g : Fn} (r : FnR e f g) : FnR e' f g := r.sub h.sub
theorem VR.mono {e e' : Env} (h : e.le e') {v w : Value} (r : VR e v w) : VR e' v w := r.sub h.sub
theorem VRs.mono {e e' : Env} (h : e.le e') {v w : List Value} (r : VRs e v w) : VRs e' v w := r.sub h.sub
theorem VRs.length {e : Env} : ∀ {l m : List Value}, VRs e l m → l.length = m.length
  | _, _, .nil => rfl
  | _, _, .cons _ t => by simp [t.length]
theorem VRs.get {e : Env} : ∀ {l m : List Value}, VRs e l m → ∀ (i : Nat) (v : Value), l[i]? = some v → ∃ w, m[i]? = some w ∧ VR e v w
  | _, _, .nil, i, v, h => by simp at h
  | _, _, .cons g t, 0, v, h => by simp at h; subst h; exact ⟨_, rfl, g⟩
  | _, _, .cons g t, i + 1, v, h => by simp at h ⊢; exact t.get i v h
theorem VRs.append {e : Env} : ∀ {l m l' m' : List Value}, VRs e l m → VRs e l' m' → VRs e (l ++ l') (m ++ m')
  | _, _, _, _, .nil, h => h
  | _, _, _, _, .cons g t, h => .cons g (t.append h)
theorem VRs.take {e : Env} : ∀ {l m : List Value}, VRs e l m → ∀ n, VRs e (l.take n) (m.take n)
  | _, _, .nil, n => by simp; exact .nil
  | _, _, .cons g t, 0 => by simp; exact .nil
  | _, _, .cons g t, n + 1 => by simp; exact .cons g (t.take n)
theorem VRs.drop {e : Env} : ∀ {l m : List Value}, VRs e l m → ∀ n, VRs e (l.drop n) (m.drop n)
  | _, _, .nil, n => by simp; exact .nil
  | _, _, .cons g t, 0 => by simp; exact .cons g t
  | _, _, .cons g t, n + 1 => by simp; exact t.drop n
theorem VRs.of_get {e : Env} : ∀ {l m : List Value}, l.length = m.length → (∀ (i : Nat) (v w : Value), l[i]? = some v → m[i]? = some w → VR e v w) → VRs e l m
  | [], [], _, _ => .nil
  | v :: l, w :: m, hl, h => .cons (h 0 v w rfl rfl) (VRs.of_get (by simpa using hl) fun i v' w' hv hw => h (i + 1) v' w' (by simpa using hv) (by simpa using hw))
  | [], _ :: _, hl, _ => by simp at hl
  | _ :: _, [], hl, _ => by simp at hl

theorem VR.plain1 {e : Env} {v : Value} (h : plain1 v = true) : VR e v v := by
  unfold Eng.plain1 at h
  split at h
  · exact .bool _
  · exact .int _ _
  · exact .float _ _
  · exact .string _
  · exact .nilFunc
  · exact .nilIface
  · exact .ptr0
  · exact .slice0 _ _
  · exact .map0
  · exact .chan0
  · cases h
theorem VRs.plain {e : Env} : ∀ {l : List Value}, l.all Eng.plain1 = true → VRs e l l
  | [], _ => .nil
  | v :: l, h => by simp at h; exact .cons (VR.plain1 h.1) (VRs.plain (by simpa using h.2))
theorem VR.plain {e : Env} {v : Value} (h : plain v = true) : VR e v v := by
  unfold Eng.plain at h
  split at h
  · exact .agg (VRs.plain h)
  · exact .tuple (VRs.plain h)
  · exact VR.plain1 h
theorem VR.undef {e : Env} : VR e undef undef := .tuple (by exact .nil)

/-- registers -/
def RR (e : Env) (r : Regs) (t : Array Value) : Prop := r.n = t.size ∧ ∀ i, VR e (r.get i) (t.getD i undef)
theorem RR.sub {e e' : Env} (h : Sub e e') {r : Regs} {t : Array Value} (g : RR e r t) : RR e' r t := ⟨g.1, fun i => (g.2 i).sub h⟩
theorem RR.mono {e e' : Env} (h : e.le e') {r : Regs} {t : Array Value} (g : RR e r t) : RR e' r t := g.sub h.sub
theorem RR.flush {e : Env} {r : Regs} {t : Array Value} (g : RR e r t) : RR e r.flush t := ⟨g.1, fun i => by rw [Regs.get_flush]; exact g.2 i⟩
theorem getD_setIfInBounds (t : Array Value) (i j : Nat) (v : Value) : (t.setIfInBounds i v).getD j undef = if j = i ∧ i < t.size then v else t.getD j undef := by
  rcases Nat.lt_or_ge j t.size with hj | hj
  · simp only [Array.getD_eq_getD_getElem?]
    by_cases hij : j = i
    · subst hij; simp [hj]
    · rw [Array.getElem?_setIfInBounds_ne (by omega)]; simp [hij]
  · simp only [Array.getD_eq_getD_getElem?]
    rw [Array.getElem?_eq_none (by simpa using hj), Array.getElem?_eq_none hj]
    rw [if_neg (by omega)]
theorem RR.set {e : Env} {r : Regs} {t : Array Value} (g : RR e r t) (i : Nat) {v w : Value} (h : VR e v w) : RR e (r.set i v) (t.setIfInBounds i w) := by
  refine ⟨by simp [Regs.set_n, g.1], fun j => ?_⟩
  rw [Regs.get_set, getD_setIfInBounds, g.1]
  split
  · exact h
  · exact g.2 j
/-- what a frame's operands are -/
def reval (t : Array Value) : Operand → Value
  | .tmp i => t.getD i undef
  | .const v => v
  | .global g => .pointer (some ⟨g, 0, none⟩)
  | .func f => .func (.func f) #[] #[]
theorem RR.eval {e : Env} {r : Regs} {t : Array Value} (g : RR e r t) (x : Operand) : VR e (aeval r x) (reval t x) := by
  cases x with
  | tmp i => exact g.2 i
  | const v =>
    simp only [aeval, reval]
    cases h : Eng.plain v with
    | true => exact VR.plain h
    | false => exact .junk v
  | global n => exact VR.ptr 0 (Env.at_even e n)
  | func f => exact .func (.func f) .nil .nil
/-- the destination -/
def rput (t : Array Value) (d : Option Nat) (v : Value) : Array Value :=
  match d with
  | some i => t.setIfInBounds i v
  | none => t
theorem RR.put {e : Env} {r : Regs} {t : Array Value} (g : RR e r t) (d : Option Nat) {v w : Value} (h : VR e v w) : RR e (r.put d v) (rput t d w) := by
  cases d with
  | none => exact g
  | some i => exact g.set i h

/-- a map's entries -/
inductive ERs (e : Env) : List MapEntry → List MapEntry → Prop
  | nil : ERs e [] []
  | cons {x y : MapEntry} {l m : List MapEntry} (hk : VR e x.key y.key) (hv : VR e x.val y.val) (hb : x.born = y.born) (t : ERs e l m) : ERs e (x :: l) (y :: m)
theorem ERs.sub {e e' : Env} (h : Sub e e') : ∀ {l m : List MapEntry}, ERs e l m → ERs e' l m
  | _, _, .nil => .nil
  | _, _, .cons hk hv hb t => .cons (hk.sub h) (hv.sub h) hb (t.sub h)
theorem ERs.mono {e e' : Env} (h : e.le e') {l m : List MapEntry} (g : ERs e l m) : ERs e' l m := g.sub h.sub
theorem ERs.length {e : Env} : ∀ {l m : List MapEntry}, ERs e l m → l.length = m.length
  | _, _, .nil => rfl
  | _, _, .cons _ _ _ t => by simp [t.length]

/-- a block -/
inductive OR (P : Program) (e : Env) (base κ : Nat) : AObj → Obj → Prop
  | cells {c : List Value} {C : Array Value} (elem : TypeId) (fz : Nat × Nat) (hb : base = 0) (h : VRs e c C.toList) : OR P e base κ (.cells c elem fz) (.cells C elem fz)
  | grown {c : List Value} {C : Array Value} (elem : TypeId) (fz : Nat × Nat) (h : VRs e c ((C.toList.drop base).take c.length))
      (hs : base + κ * P.cellsOf elem = C.size) (hz : fz.1 = fz.2 ∨ C.size ≤ fz.1) (hk : κ ≤ 2 ^ 64) : OR P e base κ (.grown c elem) (.cells C elem fz)
  | map {l : List MapEntry} {L : Array MapEntry} (clock : Nat) (hb : base = 0) (h : ERs e l L.toList) : OR P e base κ (.map l clock) (.map L clock)
  | siter (s : ByteArray) (pos : Nat) (hb : base = 0) : OR P e base κ (.siter s pos) (.stringIter s pos)
  | loop {r : Regs} {t : Array Value} (state : LoopState) (pending : Option Code) (fn : FuncId) (params : Array Tmp) (assign body : Code) {d D k : Nat} (hb : base = 0)
      (h : RR e r t) (hd : e.at d = some (D, 0, k)) : OR P e base κ (.loop state pending fn r params assign body d) (.loop { state, pending, fn, tmps := t, params, assign, body, defers := D })
  | deferred0 (hb : base = 0) : OR P e base κ (.deferred none) (.deferred none)
  | deferred1 (hb : base = 0) : OR P e base κ (.deferred (some [])) (.deferred (some []))
theorem OR.sub {P : Program} {e e' : Env} (h : Sub e e') {base κ : Nat} {o : AObj} {ob : Obj} (g : OR P e base κ o ob) : OR P e' base κ o ob := by
  cases g with
  | cells elem fz hb g => exact .cells elem fz hb (g.sub h)
  | grown elem fz g hs hz hk => exact .grown elem fz (g.sub h) hs hz hk
  | map clock hb g => exact .map clock hb (g.sub h)
  | siter s pos hb => exact .siter s pos hb
  | loop state pending fn params assign body hb g hd => exact .loop state pending fn params assign body hb (g.sub h) (h _ _ hd)
  | deferred0 hb => exact .deferred0 hb
  | deferred1 hb => exact .deferred1 hb
theorem OR.mono {P : Program} {e e' : Env} (h : e.le e') {base κ : Nat} {o : AObj} {ob : Obj} (g : OR P e base κ o ob) : OR P e' base κ o ob := g.sub h.sub

/-- what a run begins with: the world, and the old blocks that it may touch -/
structure Base where
  c : Ctx
  w0 : World
  F : Nat → Prop
abbrev Base.P (B : Base) : Program := B.c.P

structure HS (B : Base) (e : Env) (h : Heap) (w : World) : Prop where
  live : ∀ n o, h.get n = some o → (e.at n).isSome = true → ∃ b base κ ob, e.at n = some (b, base, κ) ∧ w.heap[b]? = some ob ∧ OR B.P e base κ o ob ∧ (b < B.w0.heap.size → B.F b)
  inj : ∀ n m o o' b p q p' q', h.get n = some o → h.get m = some o' → e.at n = some (b, p, q) → e.at m = some (b, p', q') → n = m
  known : ∀ n o, h.get n = some o → n % 2 = 1 → n / 2 < e.length
  pend : ∀ (i : Nat) o, e[i]? = some (.pend o) → h.get (2 * i + 1) = some o
  nx : h.nx = e.length
  blk : ∀ x, Slot.made x ∈ e → x.1 < w.heap.size
  size : B.w0.heap.size ≤ w.heap.size
  frame : ∀ b, b < B.w0.heap.size → ¬ B.F b → w.heap[b]? = B.w0.heap[b]?
  world : w.tape = B.w0.tape ∧ w.os = B.w0.os ∧ w.output = B.w0.output

theorem HS.fresh_none {B : Base} {e : Env} {h : Heap} {w : World} (s : HS B e h w) : h.get h.fresh = none := by
  cases g : h.get h.fresh with
  | none => rfl
  | some o =>
    have := s.known _ o g (by unfold Heap.fresh; omega)
    unfold Heap.fresh at this
    have := s.nx
    omega
theorem HS.freshName {B : Base} {e : Env} {h : Heap} {w : World} (s : HS B e h w) : h.fresh = 2 * e.length + 1 := by
  unfold Heap.fresh; rw [s.nx]
theorem HS.lt {B : Base} {e : Env} {h : Heap} {w : World} (s : HS B e h w) {n : Nat} {o : AObj} (g : h.get n = some o) : n ≠ h.fresh := by
  intro e'; rw [e', s.fresh_none] at g; cases g
theorem pend_at {e : Env} {i : Nat} {o : AObj} (h : e[i]? = some (.pend o)) : e.at (2 * i + 1) = none := by
  unfold Env.at
  rw [if_neg (by omega), show (2 * i + 1) / 2 = i from by omega, h]; rfl
theorem HS.congr {B : Base} {e : Env} {h : Heap} {w w' : World} (s : HS B e h w) (hh : w'.heap = w.heap) (ht : w'.tape = w.tape) (ho : w'.os = w.os) (hp : w'.output = w.output) : HS B e h w' where
  live := fun n o g hx => by rw [hh]; exact s.live n o g hx
  inj := s.inj
  known := s.known
  pend := s.pend
  nx := s.nx
  blk := by rw [hh]; exact s.blk
  size := by rw [hh]; exact s.size
  frame := by rw [hh]; exact s.frame
  world := by rw [ht, ho, hp]; exact s.world
/-- a block more -/
theorem HS.new {B : Base} {e : Env} {h : Heap} {w w' : World} (s : HS B e h w) {o : AObj} {ob : Obj} (base κ : Nat) (r : OR B.P (e ++ [.made (w.heap.size, base, κ)]) base κ o ob)
    (hh : w'.heap = w.heap.push ob) (ht : w'.tape = w.tape) (ho : w'.os = w.os) (hp : w'.output = w.output) : HS B (e ++ [.made (w.heap.size, base, κ)]) (h.new o) w' where
  live := fun n o' g hx => by
    rw [Heap.get_new] at g
    split at g
    · rename_i en
      cases g
      rw [en, s.freshName]
      refine ⟨w.heap.size, base, κ, ob, Env.at_snoc _ _, by rw [hh]; simp, r, fun hlt => ?_⟩
      have := s.size; omega
    · rename_i en
      obtain ⟨b, p, q, ob', ha, hb, hr, hF⟩ := s.live n o' g (Env.some_new hx (by rw [← s.freshName]; exact en))
      refine ⟨b, p, q, ob', Env.at_mono (Env.le_snoc _ _) ha, ?_, hr.mono (Env.le_snoc _ _), hF⟩
      rw [hh, Array.getElem?_push]
      have := (Array.getElem?_eq_some_iff.1 hb).1
      rw [if_neg (by omega)]; exact hb
  inj := fun n m o1 o2 b p q p' q' g1 g2 a1 a2 => by
    rw [Heap.get_new] at g1 g2
    rw [s.freshName] at g1 g2
    by_cases en : n = 2 * e.length + 1
    · by_cases em : m = 2 * e.length + 1
      · omega
      · rw [if_neg em] at g2
        subst en
        rw [Env.at_snoc] at a1
        cases a1
        obtain ⟨b', p1, q1, ob', ha, hb, _⟩ := s.live m o2 g2 (Env.some_new (by rw [a2]; rfl) em)
        have h2 := Env.at_mono (Env.le_snoc e (.made (w.heap.size, base, κ))) ha
        rw [a2] at h2; cases h2
        have := (Array.getElem?_eq_some_iff.1 hb).1
        omega
    · rw [if_neg en] at g1
      by_cases em : m = 2 * e.length + 1
      · subst em
        rw [Env.at_snoc] at a2
        cases a2
        obtain ⟨b', p1, q1, ob', ha, hb, _⟩ := s.live n o1 g1 (Env.some_new (by rw [a1]; rfl) en)
        have h2 := Env.at_mono (Env.le_snoc e (.made (w.heap.size, base, κ))) ha
        rw [a1] at h2; cases h2
        have := (Array.getElem?_eq_some_iff.1 hb).1
        omega
      · rw [if_neg em] at g2
        rcases Env.at_new a1 with a1 | ⟨a1, _⟩
        · rcases Env.at_new a2 with a2 | ⟨a2, _⟩
          · exact s.inj n m o1 o2 b p q p' q' g1 g2 a1 a2
          · exact absurd a2 em
        · exact absurd a1 en
  known := fun n o' g hn => by
    rw [Heap.get_new] at g
    simp only [List.length_append, List.length_cons, List.length_nil]
    split at g
    · rename_i en; rw [s.freshName] at en; omega
    · have := s.known n o' g hn; omega
  pend := fun i o' g => by
    have hi : i < e.length := by
      rcases Nat.lt_or_ge i e.length with h1 | h1
      · exact h1
      · rw [List.getElem?_append_right h1] at g
        rcases Nat.eq_zero_or_pos (i - e.length) with z | z
        · rw [z] at g; cases g
        · rw [List.getElem?_eq_none (by simp; omega)] at g; cases g
    rw [List.getElem?_append_left hi] at g
    rw [Heap.get_new, if_neg (by rw [s.freshName]; omega)]
    exact s.pend i o' g
  nx := by simp [Heap.new_nx, s.nx]
  blk := fun x hx => by
    rw [hh]
    simp at hx ⊢
    rcases hx with hx | rfl
    · have := s.blk x hx; omega
    · simp
  size := by rw [hh]; simp; have := s.size; omega
  frame := fun b hb hF => by
    rw [hh, Array.getElem?_push, if_neg (by have := s.size; omega)]; exact s.frame b hb hF
  world := by rw [ht, ho, hp]; exact s.world

/-- one block is another one -/
structure Upd (w : World) (b : Nat) (ob : Obj) (w' : World) : Prop where
  same : w'.heap[b]? = some ob
  other : ∀ j, j ≠ b → w'.heap[j]? = w.heap[j]?
  size : w'.heap.size = w.heap.size
  tape : w'.tape = w.tape
  os : w'.os = w.os
  output : w'.output = w.output

theorem HS.upd {B : Base} {e : Env} {h : Heap} {w w' : World} (s : HS B e h w) {n b base κ : Nat} {o o' : AObj} {ob' : Obj} (g : h.get n = some o) (ha : e.at n = some (b, base, κ))
    (r : OR B.P e base κ o' ob') (u : Upd w b ob' w') : HS B e (h.set n o') w' where
  live := fun m o2 g2 hx => by
    rw [Heap.get_set] at g2
    split at g2
    · rename_i en
      cases g2
      subst en
      obtain ⟨b', p, q, ob, ha', _, _, hF⟩ := s.live m o g hx
      rw [ha] at ha'; cases ha'
      exact ⟨b, base, κ, ob', ha, u.same, r, hF⟩
    · rename_i en
      obtain ⟨b', p, q, ob, ha', hb, hr, hF⟩ := s.live m o2 g2 hx
      refine ⟨b', p, q, ob, ha', ?_, hr, hF⟩
      rw [u.other]
      · exact hb
      · intro e'; subst e'; exact en (s.inj m n o2 o b' p q base κ g2 g ha' ha)
  known := fun m o2 g2 hn => by
    rw [Heap.get_set] at g2
    split at g2
    · rename_i en; subst en; exact s.known m o g hn
    · exact s.known m o2 g2 hn
  pend := fun i o2 g2 => by
    rw [Heap.get_set, if_neg]
    · exact s.pend i o2 g2
    · intro en
      have := pend_at g2
      rw [en, ha] at this; cases this
  inj := fun m1 m2 o1 o2 b' p q p' q' g1 g2 a1 a2 => by
    have h1 : ∃ o, h.get m1 = some o := by
      rw [Heap.get_set] at g1; split at g1
      · rename_i en; exact ⟨o, by rw [en]; exact g⟩
      · exact ⟨_, g1⟩
    have h2 : ∃ o, h.get m2 = some o := by
      rw [Heap.get_set] at g2; split at g2
      · rename_i en; exact ⟨o, by rw [en]; exact g⟩
      · exact ⟨_, g2⟩
    obtain ⟨o1', h1⟩ := h1
    obtain ⟨o2', h2⟩ := h2
    exact s.inj m1 m2 o1' o2' b' p q p' q' h1 h2 a1 a2
  nx := s.nx
  blk := by rw [u.size]; exact s.blk
  size := by rw [u.size]; exact s.size
  frame := fun j hj hF => by
    obtain ⟨b', p, q, ob, ha', _, _, hF'⟩ := s.live n o g (by rw [ha]; rfl)
    rw [ha] at ha'; cases ha'
    by_cases e' : j = b
    · subst e'; exact absurd (hF' hj) hF
    · rw [u.other j e']; exact s.frame j hj hF
  world := by rw [u.tape, u.os, u.output]; exact s.world

/-- one block is another one, and yet the same to the names -/
theorem HS.touch {B : Base} {e : Env} {h : Heap} {w w' : World} (s : HS B e h w) {n b base κ : Nat} {o : AObj} {ob' : Obj} (g : h.get n = some o) (ha : e.at n = some (b, base, κ))
    (r : OR B.P e base κ o ob') (u : Upd w b ob' w') : HS B e h w' where
  live := fun m o2 g2 hx => by
    by_cases en : m = n
    · subst en
      rw [g] at g2; cases g2
      obtain ⟨b', p, q, ob, ha', _, _, hF⟩ := s.live m o g hx
      rw [ha] at ha'; cases ha'
      exact ⟨b, base, κ, ob', ha, u.same, r, hF⟩
    · obtain ⟨b', p, q, ob, ha', hb, hr, hF⟩ := s.live m o2 g2 hx
      refine ⟨b', p, q, ob, ha', ?_, hr, hF⟩
      rw [u.other]
      · exact hb
      · intro e'; subst e'; exact en (s.inj m n o2 o b' p q base κ g2 g ha' ha)
  known := s.known
  pend := s.pend
  inj := s.inj
  nx := s.nx
  blk := by rw [u.size]; exact s.blk
  size := by rw [u.size]; exact s.size
  frame := fun j hj hF => by
    obtain ⟨b', p, q, ob, ha', _, _, hF'⟩ := s.live n o g (by rw [ha]; rfl)
    rw [ha] at ha'; cases ha'
    by_cases e' : j = b
    · subst e'; exact absurd (hF' hj) hF
    · rw [u.other j e']; exact s.frame j hj hF
  world := by rw [u.tape, u.os, u.output]; exact s.world

theorem HS.drop {B : Base} {e : Env} {h : Heap} {w : World} (s : HS B e h w) {n : Nat} (hn : (e.at n).isSome = true) : HS B e (h.drop n) w where
  live := fun m o g hx => by
    rw [Heap.get_drop] at g
    split at g
    · cases g
    · exact s.live m o g hx
  known := fun m o g hn => by
    rw [Heap.get_drop] at g
    split at g
    · cases g
    · exact s.known m o g hn
  pend := fun i o2 g2 => by
    rw [Heap.get_drop, if_neg]
    · exact s.pend i o2 g2
    · intro en
      have := pend_at g2
      rw [en] at this; rw [this] at hn; cases hn
  inj := fun n1 m1 o1 o2 b p q p' q' g1 g2 a1 a2 => by
    rw [Heap.get_drop] at g1 g2
    split at g1
    · cases g1
    · split at g2
      · cases g2
      · exact s.inj n1 m1 o1 o2 b p q p' q' g1 g2 a1 a2
  nx := s.nx
  blk := s.blk
  size := s.size
  frame := s.frame
  world := s.world

/-- a block gets a new name; the old one is given up -/
theorem HS.move {B : Base} {e : Env} {h : Heap} {w w' : World} (s : HS B e h w) {n b base κ base' κ' : Nat} {o o' : AObj} {ob' : Obj} (g : h.get n = some o) (ha : e.at n = some (b, base, κ))
    (r : OR B.P (e ++ [.made (b, base', κ')]) base' κ' o' ob') (u : Upd w b ob' w') : HS B (e ++ [.made (b, base', κ')]) ((h.drop n).new o') w' := by
  obtain ⟨b0, p0, q0, ob0, ha0, hb0, _, hF0⟩ := s.live n o g (by rw [ha]; rfl)
  rw [ha] at ha0; cases ha0
  have hfr : ∀ m, (h.drop n).fresh = m ↔ m = 2 * e.length + 1 := fun m => by
    have : (h.drop n).fresh = h.fresh := rfl
    rw [this, s.freshName]; exact eq_comm
  refine { live := fun m o2 g2 hx => ?_, known := fun m o2 g2 hn => ?_, pend := fun i o2 g2 => ?_, inj := fun n1 m1 o1 o2 b1 p q p' q' g1 g2 a1 a2 => ?_, nx := ?_, blk := fun x hx => ?_, size := ?_, frame := fun j hj hF => ?_, world := ?_ }
  · rw [Heap.get_new, Heap.get_drop] at g2
    split at g2
    · rename_i en
      cases g2
      have en' := (hfr m).1 en.symm
      subst en'
      exact ⟨b, base', κ', ob', Env.at_snoc _ _, u.same, r, hF0⟩
    · split at g2
      · cases g2
      · rename_i en
        rename_i en0
        obtain ⟨b', p, q, ob, ha', hb, hr, hF⟩ := s.live m o2 g2 (Env.some_new hx (fun x => en0 ((hfr m).2 x).symm))
        refine ⟨b', p, q, ob, Env.at_mono (Env.le_snoc _ _) ha', ?_, hr.mono (Env.le_snoc _ _), hF⟩
        rw [u.other]
        · exact hb
        · intro e'; subst e'; exact en (s.inj m n o2 o b' p q base κ g2 g ha' ha)
  · have fx : (h.drop n).fresh = 2 * e.length + 1 := (hfr _).2 rfl
    rw [Heap.get_new, Heap.get_drop, fx] at g1 g2
    have key : ∀ k ok, k ≠ 2 * e.length + 1 → (if k = n then none else h.get k) = some ok → ∀ p q, Env.at (e ++ [.made (b, base', κ')]) k = some (b, p, q) → False := by
      intro k ok hk gk p q ak
      split at gk
      · cases gk
      · rename_i en
        rcases Env.at_new ak with ak | ⟨ak, _⟩
        · exact en (s.inj k n ok o b p q base κ gk g ak ha)
        · exact hk ak
    by_cases en : n1 = 2 * e.length + 1
    · by_cases em : m1 = 2 * e.length + 1
      · omega
      · rw [if_neg em] at g2
        subst en
        rw [Env.at_snoc] at a1
        cases a1
        exact (key m1 o2 em g2 _ _ a2).elim
    · rw [if_neg en] at g1
      by_cases em : m1 = 2 * e.length + 1
      · subst em
        rw [Env.at_snoc] at a2
        cases a2
        exact (key n1 o1 en g1 _ _ a1).elim
      · rw [if_neg em] at g2
        split at g1
        · cases g1
        · split at g2
          · cases g2
          · rcases Env.at_new a1 with a1 | ⟨a1, _⟩
            · rcases Env.at_new a2 with a2 | ⟨a2, _⟩
              · exact s.inj n1 m1 o1 o2 b1 p q p' q' g1 g2 a1 a2
              · exact absurd a2 em
            · exact absurd a1 en
  · rw [Heap.get_new, Heap.get_drop] at g2
    simp only [List.length_append, List.length_cons, List.length_nil]
    split at g2
    · rename_i en; have := (hfr m).1 en.symm; omega
    · split at g2
      · cases g2
      · have := s.known m o2 g2 hn; omega
  · have hi : i < e.length := by
      rcases Nat.lt_or_ge i e.length with h1 | h1
      · exact h1
      · rw [List.getElem?_append_right h1] at g2
        rcases Nat.eq_zero_or_pos (i - e.length) with z | z
        · rw [z] at g2; cases g2
        · rw [List.getElem?_eq_none (by simp; omega)] at g2; cases g2
    rw [List.getElem?_append_left hi] at g2
    have fx : (h.drop n).fresh = 2 * e.length + 1 := (hfr _).2 rfl
    rw [Heap.get_new, fx, if_neg (by omega), Heap.get_drop, if_neg]
    · exact s.pend i o2 g2
    · intro en
      have := pend_at g2
      rw [en, ha] at this; cases this
  · simp [Heap.new_nx, Heap.drop, s.nx]
  · rw [u.size]
    simp at hx
    rcases hx with hx | rfl
    · exact s.blk x hx
    · exact (Array.getElem?_eq_some_iff.1 hb0).1
  · rw [u.size]; exact s.size
  · by_cases e' : j = b
    · subst e'; exact absurd (hF0 hj) hF
    · rw [u.other j e']; exact s.frame j hj hF
  · rw [u.tape, u.os, u.output]; exact s.world
/-- a block that is to be made later has its name now -/
theorem HS.reserve {B : Base} {e : Env} {h : Heap} {w : World} (s : HS B e h w) (o : AObj) : HS B (e ++ [.pend o]) (h.new o) w := by
  have hat : ∀ n x, Env.at (e ++ [.pend o]) n = some x → e.at n = some x := by
    intro n x hx
    unfold Env.at at *
    by_cases hn : n % 2 = 0
    · rw [if_pos hn] at hx ⊢; exact hx
    · rw [if_neg hn] at hx ⊢
      rcases Nat.lt_or_ge (n / 2) e.length with hl | hl
      · rw [List.getElem?_append_left hl] at hx; exact hx
      · rw [List.getElem?_append_right hl] at hx
        rcases Nat.eq_zero_or_pos (n / 2 - e.length) with z | z
        · rw [z] at hx; cases hx
        · rw [List.getElem?_eq_none (by simp; omega)] at hx; cases hx
  have hfr : Env.at (e ++ [.pend o]) h.fresh = none := by
    rw [s.freshName]
    unfold Env.at
    rw [if_neg (by omega), show (2 * e.length + 1) / 2 = e.length from by omega]
    simp [Slot.get]
  refine { live := fun n o2 g hx => ?_, inj := fun n m o1 o2 b p q p' q' g1 g2 a1 a2 => ?_, known := fun n o2 g hn => ?_, pend := fun i o2 g => ?_, nx := ?_, blk := fun x hx => ?_, size := s.size, frame := s.frame, world := s.world }
  · rw [Heap.get_new] at g
    split at g
    · rename_i en; rw [en, hfr] at hx; cases hx
    · obtain ⟨y, hy⟩ := Option.isSome_iff_exists.1 hx
      obtain ⟨b, base, κ, ob, ha, hb, hr, hF⟩ := s.live n o2 g (by rw [hat _ _ hy]; rfl)
      exact ⟨b, base, κ, ob, Env.at_mono (Env.le_snoc _ _) ha, hb, hr.mono (Env.le_snoc _ _), hF⟩
  · rw [Heap.get_new] at g1 g2
    rw [if_neg (fun x => by rw [x, hfr] at a1; cases a1)] at g1
    rw [if_neg (fun x => by rw [x, hfr] at a2; cases a2)] at g2
    exact s.inj n m o1 o2 b p q p' q' g1 g2 (hat _ _ a1) (hat _ _ a2)
  · rw [Heap.get_new] at g
    simp only [List.length_append, List.length_cons, List.length_nil]
    split at g
    · rename_i en; rw [s.freshName] at en; omega
    · have := s.known n o2 g hn; omega
  · rw [Heap.get_new]
    rcases Nat.lt_or_ge i e.length with hi | hi
    · rw [List.getElem?_append_left hi] at g
      rw [if_neg (by rw [s.freshName]; omega)]
      exact s.pend i o2 g
    · rw [List.getElem?_append_right hi] at g
      rcases Nat.eq_zero_or_pos (i - e.length) with z | z
      · rw [z] at g
        simp at g
        rw [if_pos (by rw [s.freshName]; omega), g]
      · rw [List.getElem?_eq_none (by simp; omega)] at g; cases g
  · simp [Heap.new_nx, s.nx]
  · simp at hx
    exact s.blk x hx

/-- the block is made -/
theorem HS.fill {B : Base} {e : Env} {h : Heap} {w w' : World} (s : HS B e h w) {i : Nat} {o : AObj} {ob : Obj} (hi : e[i]? = some (.pend o)) (base κ : Nat) (r : OR B.P e base κ o ob)
    (hh : w'.heap = w.heap.push ob) (ht : w'.tape = w.tape) (ho : w'.os = w.os) (hp : w'.output = w.output) :
    HS B (e.set i (.made (w.heap.size, base, κ))) h w' ∧ Sub e (e.set i (.made (w.heap.size, base, κ))) ∧ Env.at (e.set i (.made (w.heap.size, base, κ))) (2 * i + 1) = some (w.heap.size, base, κ) := by
  have hlt : i < e.length := (List.getElem?_eq_some_iff.1 hi).1
  have hget : ∀ j, (e.set i (.made (w.heap.size, base, κ)))[j]? = if j = i then some (.made (w.heap.size, base, κ)) else e[j]? := by
    intro j
    rw [List.getElem?_set]
    by_cases hj : i = j
    · subst hj; simp [hlt]
    · rw [if_neg hj, if_neg (fun x => hj x.symm)]
  have hat : ∀ n x, Env.at (e.set i (.made (w.heap.size, base, κ))) n = some x → (n = 2 * i + 1 ∧ x = (w.heap.size, base, κ)) ∨ (n ≠ 2 * i + 1 ∧ e.at n = some x) := by
    intro n x hx
    unfold Env.at at *
    by_cases hn : n % 2 = 0
    · rw [if_pos hn] at hx ⊢; exact .inr ⟨by omega, hx⟩
    · rw [if_neg hn] at hx ⊢
      rw [hget] at hx
      split at hx
      · rename_i hj; simp [Slot.get] at hx; exact .inl ⟨by omega, hx.symm⟩
      · rename_i hj; exact .inr ⟨by omega, hx⟩
  have hself : Env.at (e.set i (.made (w.heap.size, base, κ))) (2 * i + 1) = some (w.heap.size, base, κ) := by
    unfold Env.at
    rw [if_neg (by omega), show (2 * i + 1) / 2 = i from by omega, hget, if_pos rfl]; rfl
  have hsub : Sub e (e.set i (.made (w.heap.size, base, κ))) := by
    intro n x hx
    have hne : n ≠ 2 * i + 1 := fun x' => by rw [x', pend_at hi] at hx; cases hx
    unfold Env.at at *
    by_cases hn : n % 2 = 0
    · rw [if_pos hn] at hx ⊢; exact hx
    · rw [if_neg hn] at hx ⊢
      rw [hget, if_neg (by omega)]; exact hx
  refine ⟨{ live := fun n o2 g hx => ?_, inj := fun n m o1 o2 b p q p' q' g1 g2 a1 a2 => ?_, known := fun n o2 g hn => ?_, pend := fun j o2 g => ?_, nx := ?_, blk := fun x hx => ?_, size := ?_, frame := fun j hj hF => ?_, world := ?_ }, hsub, hself⟩
  · obtain ⟨y, hy⟩ := Option.isSome_iff_exists.1 hx
    rcases hat _ _ hy with ⟨hn, _⟩ | ⟨hn, hy'⟩
    · subst hn
      rw [s.pend i o hi] at g
      cases g
      refine ⟨w.heap.size, base, κ, ob, hself, by rw [hh]; simp, r.sub hsub, fun hl => ?_⟩
      have := s.size; omega
    · obtain ⟨b, base', κ', ob', ha, hb, hr, hF⟩ := s.live n o2 g (by rw [hy']; rfl)
      refine ⟨b, base', κ', ob', hsub _ _ ha, ?_, hr.sub hsub, hF⟩
      rw [hh, Array.getElem?_push]
      have := (Array.getElem?_eq_some_iff.1 hb).1
      rw [if_neg (by omega)]; exact hb
  · have old : ∀ k ok, h.get k = some ok → ∀ p q, e.at k = some (w.heap.size, p, q) → False := by
      intro k ok gk p q ak
      obtain ⟨b2, p2, q2, ob2, ha2, hb2, _⟩ := s.live k ok gk (by rw [ak]; rfl)
      rw [ak] at ha2; cases ha2
      have := (Array.getElem?_eq_some_iff.1 hb2).1
      omega
    rcases hat _ _ a1 with ⟨hn, hx⟩ | ⟨hn, a1'⟩
    · cases hx
      rcases hat _ _ a2 with ⟨hm, hy⟩ | ⟨hm, a2'⟩
      · omega
      · exact (old m o2 g2 _ _ a2').elim
    · rcases hat _ _ a2 with ⟨hm, hy⟩ | ⟨hm, a2'⟩
      · cases hy
        exact (old n o1 g1 _ _ a1').elim
      · exact s.inj n m o1 o2 b p q p' q' g1 g2 a1' a2'
  · rw [List.length_set]; exact s.known n o2 g hn
  · rw [hget] at g
    split at g
    · cases g
    · exact s.pend j o2 g
  · rw [List.length_set]; exact s.nx
  · rw [hh]
    rcases List.mem_or_eq_of_mem_set hx with hx | hx
    · have := s.blk x hx; simp; omega
    · cases hx; simp
  · rw [hh]; simp; have := s.size; omega
  · rw [hh, Array.getElem?_push, if_neg (by have := s.size; omega)]; exact s.frame j hj hF
  · rw [ht, ho, hp]; exact s.world
end
end Go.Eng

namespace Go.Eng
open Go
noncomputable section

section
variable {B : Base} {e : Env} {h : Heap} {w : World}

theorem add_mid (b o j : Nat) : (⟨b, o, none⟩ : Addr).add j = ⟨b, o + j, none⟩ := by unfold Addr.add; split <;> simp_all

theorem oneCell_oneCell' {v v' : Value} (hv : oneCell v = true) (hr : VR e v v') : v'.oneCell' = true := by
  cases hr <;> first | rfl | (simp [oneCell, junk] at hv)
theorem oneCells {l l' : List Value} (hv : l.all oneCell = true) (hr : VRs e l l') : ∀ v ∈ l', v.oneCell' = true := by
  induction l generalizing l' with
  | nil => cases hr; simp
  | cons x l ih =>
    cases hr with
    | cons hx ht =>
      simp only [List.all_cons, Bool.and_eq_true] at hv
      intro v hm
      rcases List.mem_cons.1 hm with rfl | hm
      · exact oneCell_oneCell' hv.1 hx
      · exact ih hv.2 ht v hm

/-- what is read of a live name lies in the world -/
theorem read_cells (s : HS B e h w) {n off len : Nat} {l : List Value} (hr : readCells h n off len = some l) (hx : (e.at n).isSome = true) :
    ∃ b base κ l', e.at n = some (b, base, κ) ∧ VRs e l l' ∧ l.length = len ∧ (∀ j v, l'[j]? = some v → w.cell? ⟨b, base + off + j, none⟩ = some v) := by
  unfold readCells at hr
  split at hr
  · rename_i c elem fz hg
    split at hr
    · rename_i hb
      cases hr
      have hle := Nat.le_of_ble_eq_true hb
      obtain ⟨b, base, κ, ob, ha, hw, ho, _⟩ := s.live n _ hg hx
      cases ho with
      | cells _ _ hb0 hv =>
        subst hb0
        rename_i C
        refine ⟨b, 0, κ, (C.toList.drop off).take len, ha, (hv.drop off).take len, by simp; omega, fun j v hj => ?_⟩
        have h1 : C[off + j]? = some v := by
          rw [List.getElem?_take] at hj
          split at hj
          · rw [List.getElem?_drop] at hj; simpa using hj
          · cases hj
        simp only [World.cell?, hw, Nat.zero_add]
        simpa using h1
    · cases hr
  · rename_i c elem hg
    split at hr
    · rename_i hb
      cases hr
      have hle := Nat.le_of_ble_eq_true hb
      obtain ⟨b, base, κ, ob, ha, hw, ho, _⟩ := s.live n _ hg hx
      cases ho with
      | grown _ fz hv hs hz hk =>
        rename_i C
        refine ⟨b, base, κ, (((C.toList.drop base).take c.length).drop off).take len, ha, (hv.drop off).take len, by simp; omega, fun j v hj => ?_⟩
        have h1 : C[base + (off + j)]? = some v := by
          rw [List.getElem?_take] at hj
          split at hj
          · rw [List.getElem?_drop, List.getElem?_take] at hj
            split at hj
            · rw [List.getElem?_drop] at hj; simpa using hj
            · cases hj
          · cases hj
        simp only [World.cell?, hw]
        rw [Nat.add_assoc]
        simpa using h1
    · cases hr
  · cases hr

theorem run_read (s : HS B e h w) {n off len : Nat} {l : List Value} (hr : readCells h n off len = some l) (hx : (e.at n).isSome = true) :
    ∃ b base κ l', e.at n = some (b, base, κ) ∧ VRs e l l' ∧ l.length = len ∧ (loadCells ⟨b, base + off, none⟩ len).run B.P w = .ok l'.toArray w := by
  obtain ⟨b, base, κ, l', ha, hv, hl, hc⟩ := read_cells s hr hx
  refine ⟨b, base, κ, l', ha, hv, hl, ?_⟩
  have := run_loadCells_list (P := B.P) (w := w) ⟨b, base + off, none⟩ l' (fun j v hj => by rw [add_mid]; exact hc j v hj)
  rwa [← hv.length, hl] at this

theorem run_read1 (s : HS B e h w) {n off : Nat} {v : Value} (hr : readCells h n off 1 = some [v]) (hx : (e.at n).isSome = true) :
    ∃ b base κ v', e.at n = some (b, base, κ) ∧ VR e v v' ∧ w.cell? ⟨b, base + off, none⟩ = some v' := by
  obtain ⟨b, base, κ, l', ha, hv, hl, hc⟩ := read_cells s hr hx
  cases hv with
  | cons hx ht =>
    cases ht
    exact ⟨b, base, κ, _, ha, hx, by simpa using hc 0 _ rfl⟩

theorem setCells_block (b : Nat) : ∀ (vs : List Value) (o : Nat) (w : World) (C : Array Value) (t : TypeId) (fz : Nat × Nat), w.heap[b]? = some (.cells C t fz) → o + vs.length ≤ C.size →
    ∃ C' : Array Value, C'.toList = splice C.toList o vs ∧ Upd w b (.cells C' t fz) (w.setCells b o vs)
  | [], o, w, C, t, fz, hb, _ => ⟨C, by simp [splice], ⟨hb, fun _ _ => rfl, rfl, rfl, rfl, rfl⟩⟩
  | v :: vs, o, w, C, t, fz, hb, hl => by
    simp only [List.length_cons] at hl
    have hsz := (Array.getElem?_eq_some_iff.1 hb).1
    have h1 : (w.setCell ⟨b, o, none⟩ v).heap[b]? = some (.cells (C.setIfInBounds o v) t fz) := by
      simp only [World.setCell, Array.getElem?_modify, hb]
      simp
    obtain ⟨C', hC, u⟩ := setCells_block b vs (o + 1) (w.setCell ⟨b, o, none⟩ v) (C.setIfInBounds o v) t fz h1 (by simp; omega)
    refine ⟨C', ?_, ⟨u.same, fun j hj => ?_, ?_, u.tape, u.os, u.output⟩⟩
    · rw [hC]
      unfold splice
      simp only [Array.toList_setIfInBounds, List.length_cons]
      rw [List.take_succ_eq_append_getElem (by simp; omega)]
      rw [List.drop_set]
      simp only [List.getElem_set_self, List.append_assoc, List.singleton_append]
      rw [List.take_set_of_le (by omega)]
      rw [if_pos (by omega), show o + 1 + vs.length = o + (vs.length + 1) from by omega]
      rfl
    · rw [World.setCells, u.other j hj]
      simp only [World.setCell]
      rw [Array.getElem?_modify, if_neg (by omega)]
    · rw [World.setCells, u.size]; simp [World.setCell]

theorem VRs.splice {c C vs vs' : List Value} (hc : VRs e c C) (hv : VRs e vs vs') (off : Nat) : VRs e (splice c off vs) (splice C off vs') := by
  unfold Eng.splice
  exact (hc.take off).append (hv.append (by rw [hv.length]; exact hc.drop _))

theorem splice_length (c : List Value) (off : Nat) (vs : List Value) (h : off + vs.length ≤ c.length) : (splice c off vs).length = c.length := by
  unfold splice; simp; omega

theorem drop_splice (C : List Value) (base off : Nat) (vs : List Value) (h : base + off + vs.length ≤ C.length) : (splice C (base + off) vs).drop base = splice (C.drop base) off vs := by
  unfold splice
  rw [List.drop_append, List.drop_take, List.length_take, Nat.min_eq_left (by omega)]
  simp only [show base + off - base = off from by omega, show base - (base + off) = 0 from by omega, List.drop_zero, List.drop_drop]
  rw [show base + (off + vs.length) = base + off + vs.length from by omega]

theorem take_splice (C : List Value) (off k : Nat) (vs : List Value) (h : off + vs.length ≤ k) (hk : k ≤ C.length) : (splice C off vs).take k = splice (C.take k) off vs := by
  unfold splice
  rw [List.take_append, List.take_append, List.take_take, List.length_take, Nat.min_eq_left (a := off) (by omega)]
  congr 1
  · rw [List.take_take, Nat.min_comm]
  · congr 1
    · exact List.take_of_length_le (by omega)
    · rw [List.drop_take]
      congr 1
      omega

theorem run_write (s : HS B e h w) {n off : Nat} {vs vs' : List Value} {h' : Heap} (hr : writeCells h n off vs = some h') (hv : VRs e vs vs') (hx : (e.at n).isSome = true) :
    ∃ b base κ w', e.at n = some (b, base, κ) ∧ (storeCells ⟨b, base + off, none⟩ vs').run B.P w = .ok () w' ∧ HS B e h' w' := by
  unfold writeCells at hr
  split at hr
  · cases hr
  · rename_i hone
    have h1 := oneCells hone hv
    split at hr
    · rename_i c elem fz hg
      split at hr
      · rename_i hb
        cases hr
        simp only [Bool.and_eq_true, Bool.or_eq_true, Nat.ble_eq] at hb
        obtain ⟨hle, hfz⟩ := hb
        obtain ⟨b, base, κ, ob, ha, hw, ho, _⟩ := s.live n _ hg hx
        cases ho with
        | cells _ _ hb0 hc =>
          subst hb0
          rename_i C
          have hlC := hc.length
          have hlv := hv.length
          simp at hlC
          obtain ⟨C', hC', u⟩ := setCells_block b vs' off w C elem fz hw (by omega)
          refine ⟨b, 0, κ, w.setCells b off vs', ha, ?_, s.upd hg ha (.cells elem fz rfl (by rw [hC']; exact hc.splice hv off)) u⟩
          have hst := run_storeCells_cells (P := B.P) b (0 + off) vs' 0 w (fun j hj => by
            simp only [World.cell?, hw]
            simp; omega) (fun j hj => by
            simp only [World.frozen?, hw]
            simp; omega) h1
          simpa using hst
      · cases hr
    · rename_i c elem hg
      split at hr
      · rename_i hb
        cases hr
        have hle := Nat.le_of_ble_eq_true hb
        obtain ⟨b, base, κ, ob, ha, hw, ho, _⟩ := s.live n _ hg hx
        cases ho with
        | grown _ fz hc hs hz hk =>
          rename_i C
          have hlC := hc.length
          have hlv := hv.length
          simp at hlC
          obtain ⟨C', hC', u⟩ := setCells_block b vs' (base + off) w C elem fz hw (by omega)
          have hsz : C'.size = C.size := by
            have := congrArg List.length hC'
            rw [splice_length _ _ _ (by simp; omega)] at this
            simpa using this
          refine ⟨b, base, κ, w.setCells b (base + off) vs', ha, ?_, s.upd hg ha (.grown elem fz ?_ (by rw [hsz]; exact hs) (by rw [hsz]; exact hz) hk) u⟩
          · have hst := run_storeCells_cells (P := B.P) b (base + off) vs' 0 w (fun j hj => by
              simp only [World.cell?, hw]
              simp; omega) (fun j hj => by
              simp only [World.frozen?, hw]
              simp; omega) h1
            simpa using hst
          · rw [hC', drop_splice _ _ _ _ (by simp; omega), splice_length _ _ _ (by omega), take_splice _ _ _ _ (by omega) (by simp; omega)]
            exact hc.splice hv off
      · cases hr
    · cases hr

/-- the table's answers -/
theorem run_underlying' {t : TypeId} {d : TypeDesc} (hd : B.c.P.underlying t = some d) (w : World) : (underlying t).run B.P w = .ok d w := by
  simp only [underlying, Sem.run_bind, run_program, Result.andThen_ok, hd, Sem.run_pure]
theorem run_info {t : TypeId} {i : TypeInfo} (hd : B.c.P.info? t = some i) (w : World) : (typeInfo t).run B.P w = .ok i w := by
  simp only [typeInfo, Sem.run_bind, run_program, Result.andThen_ok, hd, Sem.run_pure]
theorem szOf_info {c : Ctx} {t : TypeId} {s : Nat} (hs : szOf c t = some s) : ∃ i, c.P.info? t = some i ∧ i.size = s := by
  unfold szOf at hs
  split at hs
  · rename_i i hi; cases hs; exact ⟨i, hi, rfl⟩
  · cases hs
theorem run_sizeOf' {t : TypeId} {s : Nat} (hs : szOf B.c t = some s) (w : World) : (sizeOf t).run B.P w = .ok s w := by
  obtain ⟨i, hi, rfl⟩ := szOf_info hs
  simp only [sizeOf, Sem.run_bind, run_info hi, Result.andThen_ok, Sem.run_pure]
theorem run_isAgg' {t : TypeId} {b : Bool} (hs : aggT B.c t = some b) (w : World) : (isAgg t).run B.P w = .ok b w := by
  unfold aggT at hs
  split at hs
  · rename_i hd; cases hs; simp only [isAgg, Sem.run_bind, run_underlying' hd, Result.andThen_ok, Sem.run_pure]
  · rename_i hd; cases hs; simp only [isAgg, Sem.run_bind, run_underlying' hd, Result.andThen_ok, Sem.run_pure]
  · rename_i d hd h1 h2
    cases hs
    simp only [isAgg, Sem.run_bind, run_underlying' h2, Result.andThen_ok]
    rfl
  · cases hs
theorem zero_info {c : Ctx} {t : TypeId} {z : List Value} (hz : zeroCells c t = some z) : ∃ i v, c.P.info? t = some i ∧ i.zero = some v ∧ v.cells.toList = z ∧ z.all plain1 = true := by
  unfold zeroCells at hz
  split at hz
  · rename_i i hi
    split at hz
    · rename_i v hv
      split at hz
      · rename_i hp; cases hz; exact ⟨i, v, hi, hv, rfl, hp⟩
      · cases hz
    · cases hz
  · cases hz
theorem run_zero {t : TypeId} {z : List Value} (hz : zeroCells B.c t = some z) (w : World) : ∃ v, (zeroValue t).run B.P w = .ok v w ∧ v.cells.toList = z := by
  obtain ⟨i, v, hi, hv, hc, _⟩ := zero_info hz
  exact ⟨v, by simp only [zeroValue, Sem.run_bind, run_info hi, Result.andThen_ok, hv, Sem.run_pure], hc⟩

/-- a pointer's load -/
theorem run_aload (s : HS B e h w) {t : TypeId} {a a' v : Value} (hl : aload B.c h t a = some v) (ha : VR e a a') : ∃ v', (Instr.loadAt t a').run B.P w = .ok v' w ∧ VR e v v' := by
  unfold aload at hl
  split at hl
  · rename_i n off
    cases ha with
    | ptr _ hat =>
      simp only [Instr.loadAt, Instr.sureAddr, Sem.run_bind, Sem.run_pure, Result.andThen_ok, loadVar]
      split at hl
      · rename_i sz hag hsz
        split at hl
        · rename_i l hr
          cases hl
          obtain ⟨b, base, κ, l', ha', hv, hlen, hrun⟩ := run_read s hr (at_some hat)
          rw [hat] at ha'; cases ha'
          refine ⟨.agg l'.toArray, ?_, .agg (by simpa using hv)⟩
          simp only [run_isAgg' hag, Result.andThen_ok, if_true, Sem.run_bind, run_sizeOf' hsz, hrun, Sem.run_pure]
        · cases hl
      · rename_i sz hag hsz
        split at hl
        · rename_i v0 hr
          cases hl
          obtain ⟨b, base, κ, v', ha', hv, hc⟩ := run_read1 s hr (at_some hat)
          rw [hat] at ha'; cases ha'
          refine ⟨v', ?_, hv⟩
          simp only [run_isAgg' hag, Result.andThen_ok, if_false, Bool.false_eq_true, run_load, hc]
        · cases hl
      · cases hl
  · cases hl

theorem cells_VRs {v v' : Value} (hv : VR e v v') (hj : isJunk v = false) : VRs e v.cells.toList v'.cells.toList := by
  cases hv with
  | junk => simp [isJunk, junk] at hj
  | agg hl => exact hl
  | bool b => exact .cons (.bool b) .nil
  | int k n => exact .cons (.int k n) .nil
  | float k n => exact .cons (.float k n) .nil
  | string s => exact .cons (.string s) .nil
  | ptr0 => exact .cons .ptr0 .nil
  | ptr off h => exact .cons (.ptr off h) .nil
  | slice0 l c => exact .cons (.slice0 l c) .nil
  | slice off l c h hc hl => exact .cons (.slice off l c h hc hl) .nil
  | sliceE x c => exact .cons (.sliceE x c) .nil
  | map0 => exact .cons .map0 .nil
  | map h => exact .cons (.map h) .nil
  | chan0 => exact .cons .chan0 .nil
  | chan h => exact .cons (.chan h) .nil
  | func hf ha hc => exact .cons (.func hf ha hc) .nil
  | nilFunc => exact .cons .nilFunc .nil
  | iface t h => exact .cons (.iface t h) .nil
  | nilIface => exact .cons .nilIface .nil
  | tuple h => exact .cons (.tuple h) .nil

theorem run_astore (s : HS B e h w) {t : TypeId} {a a' v v' : Value} {h' : Heap} (hl : astore B.c h t a v = some h') (ha : VR e a a') (hv : VR e v v') :
    ∃ w', (Instr.storeAt t a' v').run B.P w = .ok () w' ∧ HS B e h' w' := by
  unfold astore at hl
  split at hl
  · rename_i n off
    cases ha with
    | ptr _ hat =>
      split at hl
      · rename_i sz hsz
        split at hl
        · rename_i hb
          have hj : isJunk v = false := by
            cases hv with
            | junk => simp [writeCells, Value.cells, junk, oneCell] at hl
            | _ => rfl
          have hcv := cells_VRs hv hj
          obtain ⟨b, base, κ, w', ha', hrun, hs'⟩ := run_write s hl hcv (at_some hat)
          rw [hat] at ha'; cases ha'
          refine ⟨w', ?_, hs'⟩
          have hsize : v'.cells.size = sz := by
            have h1 := hcv.length
            have h2 := Nat.eq_of_beq_eq_true hb
            simp at h1
            omega
          simp only [Instr.storeAt, Instr.sureAddr, Sem.run_bind, Sem.run_pure, Result.andThen_ok, storeVar, run_sizeOf' hsz, hsize, ne_eq, not_true_eq_false, if_false, hrun]
        · cases hl
      · cases hl
  · cases hl
end
end
end Go.Eng
