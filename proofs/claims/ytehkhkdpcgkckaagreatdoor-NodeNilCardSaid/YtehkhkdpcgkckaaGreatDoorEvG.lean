/- The operations with types looked up in a table of their own: the same answers. By an AI agent. -/
import Derived.Test.YtehkhkdpcgkckaaGreatDoorEvF
import Derived.KernelRfl
namespace Go.Eng
open Go
noncomputable section
/-- a program, and how its types are looked up -/
structure Cu where
  P : Program
  und : TypeId → Option TypeDesc
  inf : TypeId → Option TypeInfo
  fn : Nat → Option Func
  sums : Nat → Option (List Value → Heap → Option (Value × Heap))
  strict : Bool
/-- looked up as the model does -/
def Ctx.cu (c : Ctx) (b : Bool) : Cu := ⟨c.P, c.P.underlying, c.P.info?, fun f => c.P.funcs.toList[f]?, c.sums, b⟩
namespace U
def und (c : Cu) (t : TypeId) : Option TypeDesc := c.und t
def info (c : Cu) (t : TypeId) : Option TypeInfo := c.inf t
def szOf (c : Cu) (t : TypeId) : Option Nat :=
  match c.inf t with
  | some i => some i.size
  | none => none
def aggT (c : Cu) (t : TypeId) : Option Bool :=
  match c.und t with
  | some (.struct _) => some true
  | some (.array _ _) => some true
  | some _ => some false
  | none => none
def zeroCells (c : Cu) (t : TypeId) : Option (List Value) :=
  match c.inf t with
  | some i => match i.zero with
    | some z => match z.cells.toList.all plain1 with
      | true => some z.cells.toList
      | false => none
    | none => none
  | none => none

def aload (c : Cu) (h : Heap) (t : TypeId) : Value → Option Value
  | .pointer (some ⟨n, off, none⟩) =>
    match aggT c t, szOf c t with
    | some true, some s => match readCells h n off s with
      | some l => some (.agg l.toArray)
      | none => none
    | some false, some _ => match readCells h n off 1 with
      | some [v] => some v
      | _ => none
    | _, _ => none
  | _ => none
def astore (c : Cu) (h : Heap) (t : TypeId) (a v : Value) : Option Heap :=
  match a with
  | .pointer (some ⟨n, off, none⟩) =>
    match szOf c t with
    | some s => match Nat.beq v.cells.size s with
      | true => writeCells h n off v.cells.toList
      | false => none
    | none => none
  | _ => none

def apart (c : Cu) (t : TypeId) (cs : Array Value) (off : Nat) : Option Value :=
  match aggT c t, szOf c t with
  | some true, some s => some (.agg (cs.extract off (off + s)))
  | some false, some _ => cs[off]?
  | _, _ => none

def aeqIn (c : Cu) : Nat → TypeId → Value → Value → Option Bool
  | 0, _, _, _ => none
  | d + 1, t, x, y =>
  match c.und t, x, y with
  | some .bool, .bool a, .bool b => some (a == b)
  | some (.int _), .int k a, .int k' b => if k = k' then some (a == b) else none
  | some .string, .string a, .string b => some (a.data.toList == b.data.toList)
  | some (.pointer _), .pointer none, .pointer none => some true
  | some (.pointer _), .pointer none, .pointer (some _) => some false
  | some (.pointer _), .pointer (some _), .pointer none => some false
  | some (.pointer e), .pointer (some ⟨n, o, none⟩), .pointer (some ⟨n', o', none⟩) =>
    match Nat.beq n n', szOf c e with
    | true, some (_ + 1) => some (Nat.beq o o')
    | _, _ => none
  | some (.interface _), .nilIface, .nilIface => some true
  | some (.interface _), .nilIface, .iface _ _ => some false
  | some (.interface _), .iface _ _, .nilIface => some false
  | some (.interface _), .iface tx vx, .iface ty vy =>
    if tx ≠ ty then some false else match info c tx with
      | some i => if i.comparable = true then aeqIn c d tx vx vy else none
      | none => none
  | some (.slice _), .slice none _ _, .slice none _ _ => some true
  | some (.slice _), .slice none _ _, .slice (some _) _ _ => some false
  | some (.slice _), .slice (some _) _ _, .slice none _ _ => some false
  | some (.map _ _), .map none, .map none => some true
  | some (.map _ _), .map none, .map (some _) => some false
  | some (.map _ _), .map (some _), .map none => some false
  | some (.func _ _ _), .nilFunc, .nilFunc => some true
  | some (.func _ _ _), .nilFunc, .func _ _ _ => some false
  | some (.func _ _ _), .func _ _ _, .nilFunc => some false
  | some (.struct fs), .agg xs, .agg ys => match c.P.stoodInHeld t with
    | true => none
    | false => allF (fun f => match apart c f.type xs f.offset, apart c f.type ys f.offset with
      | some x, some y => aeqIn c d f.type x y
      | _, _ => none) fs.toList
  | some (.array len e), .agg xs, .agg ys => match szOf c e with
    | none => none
    | some n => allI (fun i => match apart c e xs (i * n), apart c e ys (i * n) with
      | some x, some y => aeqIn c d e x y
      | _, _ => none) (List.range len)
  | _, _, _ => none
def aequal (c : Cu) (t : TypeId) (x y : Value) : Option Bool :=
  match x, y with
  | .agg _, .agg _ => match c.P.eqGuardType c.P.depth t with
    | true => none
    | false => aeqIn c 20 t x y
  | _, _ => aeqIn c 20 t x y

def abin (c : Cu) (op : BinOp) (t : TypeId) (x y : Value) (cx cy : Bool) : Option Value :=
  match op, x, y with
  | .shl, .int k a, .int _ b => if b < 0 then none else some (.int k (k.wrap (a * 2 ^ (min b.toNat k.bits))))
  | .shr, .int k a, .int _ b => if b < 0 then none else some (.int k (a.fdiv (2 ^ (min b.toNat k.bits))))
  | op, .int k a, .int k' b => if k = k' then abinInt op k a b else none
  | op, .string a, .string b => abinStr op a b
  | .eql, .nilIface, .nilIface => match cx || cy, aequal c t x y with
    | true, some b => some (.bool b)
    | _, _ => none
  | .neq, .nilIface, .nilIface => match cx || cy, aequal c t x y with
    | true, some b => some (.bool (!b))
    | _, _ => none
  | .eql, x, y => match aequal c t x y with
    | some b => some (.bool b)
    | none => none
  | .neq, x, y => match aequal c t x y with
    | some b => some (.bool (!b))
    | none => none
  | _, _, _ => none

def aconvSlice (c : Cu) (src dst e : TypeId) (a : Option Addr) (l k : Nat) (h : Heap) : Option (Value × Heap) :=
  match Nat.beq src dst, c.und e, a with
  | true, some (.int .u8), some ⟨n, off, none⟩ => match h.get n with
    | some (.cells cs e' fz) => some (.slice (some ⟨n, off, none⟩) l k, h.set n (.cells cs e' (markEnd fz cs.length)))
    | some (.grown _ _) => some (.slice (some ⟨n, off, none⟩) l k, h)
    | _ => none
  | _, _, _ => none
def aconvert (c : Cu) (src dst : TypeId) (x : Value) (h : Heap) : Option (Value × Heap) :=
  match c.und src, c.und dst, x with
  | some _, some (.int k), .int _ n => some (.int k (k.wrap n), h)
  | some _, some .string, .string s => some (.string s, h)
  | some _, some (.slice e), .string s =>
    match c.und e with
    | some (.int .u8) => match szOf c e with
      | some 1 => if s.size ≤ 2 ^ 60 then some (.slice (some ⟨h.fresh, 0, none⟩) s.size BIG2, h.new (.grown (cellsOfBytes s) e)) else none
      | _ => none
    | _ => none
  | some (.slice _), some (.slice e), .slice a l k => aconvSlice c src dst e a l k h
  | some (.slice e), some .string, .slice a len _ =>
    match c.und e with
    | some (.int .u8) => match a with
      | none => some (.string .empty, h)
      | some ⟨n, off, none⟩ => match readCells h n off len with
        | some l => match bytesOfCells l with
          | some bs => some (.string ⟨bs.toArray⟩, h)
          | none => none
        | none => none
      | some ⟨_, _, some _⟩ => match len with
        | 0 => some (.string .empty, h)
        | _ => none
    | _ => none
  | some (.pointer t), some .unsafePointer, .pointer (some ⟨n, off, none⟩) =>
    match szOf c t, h.get n with
    | some (_ + 1), some (.cells l _ _) => match Nat.blt off l.length with
      | true => some (.pointer (some ⟨n, off, none⟩), h)
      | false => none
    | _, _ => none
  | some .unsafePointer, some (.pointer u), .pointer (some ⟨n, off, none⟩) =>
    match szOf c u, h.get n with
    | some (_ + 1), some (.cells l e _) => match liesAt c.P c.P.depth e (l.length / c.P.cellsOf e) off u 1 with
      | true => some (.pointer (some ⟨n, off, none⟩), h)
      | false => none
    | _, _ => none
  | _, _, _ => none

def known (c : Cu) (h : Heap) (n size len cap : Nat) : Nat :=
  match h.get n with
  | some (.grown cs e) => match szOf c e with
    | some s => match Nat.beq s size with
      | true => Nat.max len (cs.length / size - (BIG2 - cap))
      | false => len
    | none => len
  | _ => len
def aslice (c : Cu) (t : TypeId) (x : Value) (low high max : Option Value) (h : Heap) : Option Value :=
  match c.und t, x with
  | some .string, .string s =>
    match max with
    | some _ => none
    | none => match abound s.size high s.size with
      | none => none
      | some hi => match abound hi low 0 with
        | none => none
        | some lo => some (.string (s.extract lo hi))
  | some (.slice e), .slice none len cap => match len, cap with
    | 0, 0 => match abound 0 max 0, szOf c e with
      | none, _ => none
      | _, none => none
      | some _, some _ => match (if max.isSome && high.isNone then none else abound 0 high 0), abound 0 low 0 with
        | some _, some _ => some (.slice none 0 0)
        | _, _ => none
    | _, _ => none
  | some (.slice e), .slice (some ⟨n, off, none⟩) len cap =>
    match szOf c e with
    | none => none
    | some size => match Nat.blt cap BIG with
      | true =>
        match abound cap max cap with
        | none => none
        | some m => match (if max.isSome && high.isNone then none else abound m high len) with
          | none => none
          | some hi => match abound hi low 0 with
            | none => none
            | some lo => if lo = m then some (.slice (some ⟨n, off, none⟩) (hi - lo) (m - lo)) else some (.slice (some ⟨n, off + lo * size, none⟩) (hi - lo) (m - lo))
      | false =>
        match max with
        | some v => match abound (known c h n size len cap) (some v) 0 with
          | none => none
          | some m => match (if high.isNone then none else abound m high len) with
            | none => none
            | some hi => match abound hi low 0 with
              | none => none
              | some lo => if lo = m then some (.slice (some ⟨n, off, none⟩) (hi - lo) (m - lo)) else some (.slice (some ⟨n, off + lo * size, none⟩) (hi - lo) (m - lo))
        | none => match abound (known c h n size len cap) high len with
          | none => none
          | some hi => match abound hi low 0 with
            | none => none
            | some lo => if lo = 0 then some (.slice (some ⟨n, off, none⟩) hi cap) else if lo < known c h n size len cap then some (.slice (some ⟨n, off + lo * size, none⟩) (hi - lo) (cap - lo)) else some eslice
  | some (.slice e), .slice (some ⟨0, 0, some 0⟩) 0 0 =>
    match szOf c e, max, abound 0 high 0, abound 0 low 0 with
    | some _, none, some _, some _ => some eslice
    | _, _, _, _ => none
  | some (.array n e), .pointer (some ⟨b, off, none⟩) =>
    match szOf c e with
    | none => none
    | some size => asliceArr size n ⟨b, off, none⟩ low high max
  | some (.pointer arr), .pointer (some ⟨b, off, none⟩) =>
    match c.und arr with
    | some (.array n e) => match szOf c e with
      | none => none
      | some size => asliceArr size n ⟨b, off, none⟩ low high max
    | _ => none
  | _, _ => none

def aindexAddr (c : Cu) (t : TypeId) (x ix : Value) : Option Value :=
  match ix with
  | .int _ i => match c.und t, x with
    | some (.array len e), .pointer (some ⟨n, off, none⟩) => match szOf c e with
      | some s => if 0 ≤ i ∧ i < len then some (ptr n (off + i.toNat * s)) else none
      | none => none
    | some (.slice e), .slice (some ⟨n, off, none⟩) len _ => match szOf c e with
      | some s => if 0 ≤ i ∧ i < len then some (ptr n (off + i.toNat * s)) else none
      | none => none
    | _, _ => none
  | _ => none
def aindex (c : Cu) (t : TypeId) (x ix : Value) : Option Value :=
  match ix with
  | .int _ i => match c.und t, x with
    | some (.array len e), .agg cs => match szOf c e with
      | some s => if 0 ≤ i ∧ i < len then apart c e cs (i.toNat * s) else none
      | none => none
    | some .string, .string s => if 0 ≤ i then match s[i.toNat]? with
        | some b => some (.int .u8 b.toNat)
        | none => none
      else none
    | _, _ => none
  | _ => none

def afieldAddr (c : Cu) (t : TypeId) (x : Value) (f : Nat) : Option Value :=
  match c.und t, x with
  | some (.struct fs), .pointer (some ⟨n, off, none⟩) => match fs[f]? with
    | some fd => match szOf c fd.type with
      | some (_ + 1) => some (ptr n (off + fd.offset))
      | _ => none
    | none => none
  | _, _ => none
def afield (c : Cu) (t : TypeId) (x : Value) (f : Nat) : Option Value :=
  match c.und t, x with
  | some (.struct fs), .agg cs => match fs[f]? with
    | some fd => apart c fd.type cs fd.offset
    | none => none
  | _, _ => none

def places (c : Cu) : List Field → Option (List (Nat × Nat))
  | [] => some []
  | f :: l => match szOf c f.type, places c l with
    | some s, some r => some ((f.offset, s) :: r)
    | _, _ => none
def abuild (c : Cu) (t : TypeId) (parts : List (Nat × Value)) : Option Value :=
  match noJunk parts, zeroCells c t, c.und t with
  | true, some z, some (.struct fs) => match places c fs.toList with
    | some pl => match Instr.fill (fun i => pl[i]?) z.toArray parts with
      | some cs => some (.agg cs)
      | none => none
    | none => none
  | true, some z, some (.array _ e) => match szOf c e with
    | some s => match Instr.fill (fun i => some (i * s, s)) z.toArray parts with
      | some cs => some (.agg cs)
      | none => none
    | none => none
  | _, _, _ => none
def abuildSlice (c : Cu) (t : TypeId) (len : Nat) (parts : List (Nat × Value)) (h : Heap) : Option (Value × Heap) :=
  match noJunk parts, c.und t with
  | true, some (.slice e) => match szOf c e, zeroCells c e with
    | some s, some z =>
      if len * s > 2 ^ 24 ∨ ¬ len < BIG then none else
      match Instr.fill (fun i => some (i * s, s)) (rep z (len * s)).toArray parts with
      | some cs => some (.slice (some ⟨h.fresh, 0, none⟩) len len, h.new (.cells cs.toList e (0, 0)))
      | none => none
    | _, _ => none
  | _, _ => none

def amakeSlice (c : Cu) (t : TypeId) (l k : Value) (h : Heap) : Option (Value × Heap) :=
  match c.und t, l, k with
  | some (.slice e), .int _ l, .int _ k => match info c e, zeroCells c e with
    | some i, some z =>
      if 0 ≤ l ∧ l ≤ k ∧ k ≤ 2 ^ 48 ∧ i.bytes * k ≤ 2 ^ 48 then
        some (.slice (some ⟨h.fresh, 0, none⟩) l.toNat k.toNat, h.new (.cells (rep z (k.toNat * i.size)) e (0, 0)))
      else none
    | _, _ => none
  | _, _, _ => none

def aappend (c : Cu) (ts : List TypeId) (s x : Value) (h : Heap) : Option (Value × Heap) :=
  match ts with
  | [st, xt] => match c.und st, c.und xt with
    | some (.slice _), some (.int _) => none
    | some (.slice e), some _ => match info c e, zeroCells c e, lenOf x with
      | some i, some z, some n => match source h i.size n x with
        | none => none
        | some new =>
          if i.size = 0 ∨ i.bytes = 0 ∨ z.length ≠ i.size ∨ new.all oneCell = false then none else
          match s with
          | .slice none sl sc => match sl, sc with
            | 0, 0 => if n = 0 then some (s, h) else
              if n * i.bytes > 2 ^ 47 then none else some (.slice (some ⟨h.fresh, 0, none⟩) n BIG2, h.new (.grown new e))
            | _, _ => none
          | .slice (some ⟨b, off, none⟩) sl sc =>
            match Nat.blt sc BIG with
            | true =>
              if sl + n ≤ sc then match writeCells h b (off + sl * i.size) new with
                | some h' => some (.slice (some ⟨b, off, none⟩) (sl + n) sc, h')
                | none => none
              else if (2 * (sl + n) + 1000) * i.bytes > 2 ^ 47 then none else match readCells h b off (sl * i.size) with
                | some old => some (.slice (some ⟨h.fresh, 0, none⟩) (sl + n) BIG2, h.new (.grown (old ++ new) e))
                | none => none
            | false =>
              if n = 0 then some (s, h) else
              if sl + n ≤ known c h b i.size sl sc then match writeCells h b (off + sl * i.size) new with
                | some h' => some (.slice (some ⟨b, off, none⟩) (sl + n) sc, h')
                | none => none
              else
              if (2 * (sl + n) + 1000) * i.bytes > 2 ^ 47 then none else
                match h.get b with
                | some (.grown _ e') => if e' = e ∧ off = (BIG2 - sc) * i.size then match readCells h b off (sl * i.size) with
                    | some old => some (.slice (some ⟨h.fresh, 0, none⟩) (sl + n) BIG2, (h.drop b).new (.grown (old ++ new) e))
                    | none => none
                  else none
                | _ => none
          | _ => none
      | _, _, _ => none
    | _, _ => none
  | _ => none

def acopy (c : Cu) (ts : List TypeId) (d x : Value) (h : Heap) : Option (Value × Heap) :=
  match ts with
  | dt :: _ => match c.und dt with
    | some (.slice e) => match szOf c e, lenOf x, d with
      | some s, some m, .slice a dl _ =>
        let n := Nat.min m dl
        match source h s n x with
        | none => none
        | some cs => match a with
          | none => match n with
            | 0 => some (.int .i64 0, h)
            | _ => none
          | some ⟨b, off, none⟩ => match writeCells h b off cs with
            | some h' => some (.int .i64 n, h')
            | none => match cs with
              | [] => some (.int .i64 n, h)
              | _ => none
          | some ⟨_, _, some _⟩ => match n with
            | 0 => some (.int .i64 0, h)
            | _ => none
      | _, _, _ => none
    | _ => none
  | _ => none

def alen (c : Cu) (t : TypeId) (x : Value) (h : Heap) : Option Value :=
  match c.und t, x with
  | some .string, .string s => some (.int .i64 s.size)
  | some (.array n _), _ => some (.int .i64 n)
  | some (.pointer arr), _ => match c.und arr with
    | some (.array n _) => some (.int .i64 n)
    | _ => none
  | some (.slice _), .slice _ n _ => some (.int .i64 n)
  | some (.map _ _), .map none => some (.int .i64 0)
  | some (.map _ _), .map (some r) => match h.get r with
    | some (.map es _) => some (.int .i64 es.length)
    | _ => none
  | _, _ => none
def acap (c : Cu) (t : TypeId) (x : Value) : Option Value :=
  match c.und t, x with
  | some (.array n _), _ => some (.int .i64 n)
  | some (.slice _), .slice none _ n => some (.int .i64 n)
  | some (.slice _), .slice (some ⟨_, _, none⟩) _ n => match Nat.blt n BIG with
    | true => some (.int .i64 n)
    | false => none
  | _, _ => none

def aunsafeString (c : Cu) (ts : List TypeId) (p n : Value) (h : Heap) : Option (Value × Heap) :=
  match p, n with
  | .pointer none, .int _ 0 => some (.string .empty, h)
  | .pointer (some _), .int _ 0 => some (.string .empty, h)
  | .pointer (some ⟨b, off, none⟩), .int _ n =>
    if 0 < n ∧ n ≤ IntKind.i64.max then
      match ts with
      | pt :: _ => match c.und pt with
        | some (.pointer e) => match c.und e, h.get b with
          | some (.int .u8), some (.grown _ e') =>
            if c.P.underlyingId e' = c.P.underlyingId e ∧ szOf c e' = some 1 then
              match readCells h b off n.toNat with
              | some l => match bytesOfCells l with
                | some bs => some (.string ⟨bs.toArray⟩, h.drop b)
                | none => none
              | none => none
            else none
          | _, _ => none
        | _ => none
      | _ => none
    else none
  | _, _ => none

def akeyOk (c : Cu) : Nat → TypeId → Value → Bool
  | 0, _, _ => false
  | d + 1, t, v =>
    match c.und t, v with
    | some (.struct fs), .agg cs => fs.toList.all fun f => f.name = "_" || match apart c f.type cs f.offset with
      | some x => akeyOk c d f.type x
      | none => false
    | some (.struct _), _ => false
    | some (.array _ _), _ => false
    | some (.interface _), _ => false
    | some _, _ => true
    | none, _ => false
def afind (c : Cu) (t : TypeId) (k : Value) : List MapEntry → Nat → Option (Option (Nat × Value))
  | [], _ => some none
  | e :: es, i => match aequal c t k e.key with
    | some true => some (some (i, e.val))
    | some false => afind c t k es (i + 1)
    | none => none
def zeroVal (c : Cu) (t : TypeId) : Option Value :=
  match c.inf t with
  | some i => match i.zero with
    | some z => match plain z with
      | true => some z
      | false => none
    | none => none
  | none => none
def alookup (c : Cu) (t : TypeId) (x k : Value) (ok : Bool) (h : Heap) : Option Value :=
  match c.und t, amapOf h x with
  | some (.map kt e), some es => match akeyOk c 10 kt k, afind c kt k es 0, zeroVal c e with
    | true, some (some (_, v)), some _ => some (if ok then .tuple #[v, .bool true] else v)
    | true, some none, some z => some (if ok then .tuple #[z, .bool false] else z)
    | _, _, _ => none
  | _, _ => none
def amapUpdate (c : Cu) (t : TypeId) (m k v : Value) (h : Heap) : Option Heap :=
  match c.und t, m with
  | some (.map kt _), .map (some r) => match h.get r with
    | some (.map es clock) => match akeyOk c 10 kt k, plain k, afind c kt k es 0 with
      | true, true, some (some (i, _)) => match es[i]? with
        | some old => match plain old.key && Instr.sameBits 10000 old.key k with
          | true => some (h.set r (.map (es.modify i fun e => { e with key := k, val := v }) clock))
          | false => none
        | none => none
      | true, true, some none => some (h.set r (.map (es ++ [{ key := k, val := v, born := clock }]) (clock + 1)))
      | _, _, _ => none
    | _ => none
  | _, _ => none
def adelete (c : Cu) (t : TypeId) (m k : Value) (h : Heap) : Option (Value × Heap) :=
  match c.und t, m with
  | some (.map kt _), .map none => match akeyOk c 10 kt k with
    | true => some (undef, h)
    | false => none
  | some (.map kt _), .map (some r) => match h.get r with
    | some (.map es clock) => match akeyOk c 10 kt k, afind c kt k es 0 with
      | true, some (some (i, _)) => some (undef, h.set r (.map (es.eraseIdx i) clock))
      | true, some none => some (undef, h)
      | _, _ => none
    | _ => none
  | _, _ => none
def atypeAssert (c : Cu) (x : Value) (t : TypeId) (ok : Bool) : Option Value :=
  match c.und t, x with
  | some (.interface _), .nilIface => match ok, zeroVal c t with
    | true, some z => some (.tuple #[z, .bool false])
    | _, _ => none
  | some (.interface want), .iface u v => match info c u with
    | some i => match Instr.missingMethod want i.methods with
      | none => some (if ok then .tuple #[.iface u v, .bool true] else .iface u v)
      | some _ => match ok, zeroVal c t with
        | true, some z => some (.tuple #[z, .bool false])
        | _, _ => none
    | none => none
  | some _, .nilIface => match ok, zeroVal c t with
    | true, some z => some (.tuple #[z, .bool false])
    | _, _ => none
  | some _, .iface u v => match Nat.beq u t with
    | true => some (if ok then .tuple #[v, .bool true] else v)
    | false => match ok, zeroVal c t with
      | true, some z => some (.tuple #[z, .bool false])
      | _, _ => none
  | _, _ => none
def aarrayAt (c : Cu) (t : TypeId) (x : Value) : Option Value :=
  match c.und t, x with
  | some (.array n _), .slice (some ⟨b, off, none⟩) len _ => match Nat.ble n len with
    | true => some (ptr b off)
    | false => none
  | _, _ => none
def aclear (c : Cu) (t : TypeId) (x : Value) (h : Heap) : Option (Value × Heap) :=
  match c.und t, x with
  | some (.slice _), .slice none _ _ => some (undef, h)
  | some (.slice _), .slice (some _) 0 _ => some (undef, h)
  | some (.slice e), .slice (some ⟨b, off, none⟩) n _ => match szOf c e, zeroCells c e with
    | some s, some z => match Nat.beq z.length s, writeCells h b off (rep z (n * s)) with
      | true, some h' => some (undef, h')
      | _, _ => none
    | _, _ => none
  | some (.map _ _), .map none => some (undef, h)
  | some (.map _ _), .map (some r) => match h.get r with
    | some (.map _ clock) => some (undef, h.set r (.map [] clock))
    | _ => none
  | _, _ => none
def abuiltin (c : Cu) (b : Builtin) (ts : List TypeId) (args : List Value) (h : Heap) : Option (Value × Heap) :=
  match b, args with
  | .append, [s, x] => aappend c ts s x h
  | .copy, [d, x] => acopy c ts d x h
  | .len, [x] => match ts with
    | t :: _ => match alen c t x h with
      | some v => some (v, h)
      | none => none
    | _ => none
  | .cap, [x] => match ts with
    | t :: _ => match acap c t x with
      | some v => some (v, h)
      | none => none
    | _ => none
  | .min, x :: l => match fold2 min2 x l with
    | some v => some (v, h)
    | none => none
  | .max, x :: l => match fold2 max2 x l with
    | some v => some (v, h)
    | none => none
  | .delete, [m, k] => match ts with
    | t :: _ => adelete c t m k h
    | _ => none
  | .clear, [x] => match ts with
    | t :: _ => aclear c t x h
    | _ => none
  | .unsafeString, [p, n] => match ts with
    | [] => none
    | _ :: _ => aunsafeString c ts p n h
  | .unsafeSliceData, [.slice none _ _] => some (.pointer none, h)
  | .unsafeSliceData, [.slice (some a) (_ + 1) _] => some (.pointer (some a), h)
  | _, _ => none

def amethod (c : Cu) (h : Heap) (t : TypeId) (v : Value) (name : String) : Option (FuncId × Value) :=
  match info c t with
  | some i => match i.methods.toList.find? (·.name == name) with
    | some m => match m.path.toList, m.func with
      | [], some (f, true) => match c.und t with
        | some (.pointer _) => some (f, v)
        | _ => none
      | [], some (f, false) => match c.und t with
        | some (.pointer e) => match aload c h e v with
          | some r => some (f, r)
          | none => none
        | some _ => some (f, v)
        | none => none
      | [st], some (f, true) => match st.deref, c.und st.struct, v with
        | true, some (.struct fs), .pointer (some ⟨n, off, none⟩) => match fs[st.index]? with
          | some fd => match szOf c fd.type, c.und fd.type with
            | some (_ + 1), some (.struct _) => some (f, ptr n (off + fd.offset))
            | _, _ => none
          | none => none
        | _, _, _ => none
      | _, _ => none
    | none => none
  | none => none

def acallMethod (c : Cu) (recv : Value) (name : String) (args : List Value) (h : Heap) : Option Out :=
  match recv with
  | .iface t v => match amethod c h t v name with
    | some (f, r) => some (.call f (r :: args) h)
    | none => none
  | _ => none

def acallValue (c : Cu) (f : Value) (args : List Value) (h : Heap) : Option Out :=
  match f with
  | .func (.func f) first cap => some (.call f (first.toList ++ args ++ cap.toList) h)
  | .func (.yield l) first _ => some (.round l (first.toList ++ args) h)
  | .func (.method name) first _ => match first.toList ++ args with
    | recv :: rest => acallMethod c recv name rest h
    | [] => none
  | .func (.methodOf t name) first _ => match first.toList ++ args with
    | recv :: rest => match c.und t with
      | some (.interface _) => acallMethod c recv name rest h
      | some _ => match isJunk recv with
        | true => none
        | false => acallMethod c (.iface t recv) name rest h
      | none => none
    | [] => none
  | _ => none

def acall (c : Cu) (ρ : Operand → Value) (cl : Call) (h : Heap) : Option Out :=
  let args := cl.args.toList.map ρ
  match cl.callee with
  | .builtin b => match abuiltin c b cl.argTypes.toList args h with
    | some (v, h') => some (.val v h')
    | none => none
  | .invoke recv name => acallMethod c (ρ recv) name args h
  | .value f => acallValue c (ρ f) args h

def arange (c : Cu) (t : TypeId) (x : Value) (h : Heap) : Option (Value × Heap) :=
  match c.und t, x with
  | some .string, .string s => some (ptr h.fresh 0, h.new (.siter s 0))
  | _, _ => none
def aop (c : Cu) (ρ : Operand → Value) (o : Op) (h : Heap) : Option Out :=
  match o with
  | .move x | .assign x => some (.val (ρ x) h)
  | .pick a x y => match ρ a with
    | .bool true => some (.val (ρ x) h)
    | .bool false => some (.val (ρ y) h)
    | _ => none
  | .alloc t => match zeroCells c t with
    | some z => some (.val (ptr h.fresh 0) (h.new (.cells z t (0, 0))))
    | none => none
  | .box t x => match isJunk (ρ x) with
    | true => none
    | false => some (.val (ptr h.fresh 0) (h.new (.cells (ρ x).cells.toList t (0, 0))))
  | .build t parts => val1 h (abuild c t (parts.toList.map fun (i, x) => (i, ρ x)))
  | .buildSlice t len parts => val2 (abuildSlice c t len (parts.toList.map fun (i, x) => (i, ρ x)) h)
  | .load t a => val1 h (aload c h t (ρ a))
  | .store t a x => match astore c h t (ρ a) (ρ x) with
    | some h' => some (.skip h')
    | none => none
  | .nilCheck x => match ρ x with
    | .pointer (some a) => some (.val (.pointer (some a)) h)
    | .iface t v => some (.val (.iface t v) h)
    | .func (.func f) a b => some (.val (.func (.func f) a b) h)
    | .func (.yield f) a b => some (.val (.func (.yield f) a b) h)
    | _ => none
  | .binOp op t x y _ => val1 h (abin c op t (ρ x) (ρ y) (isC x) (isC y))
  | .unOp op _ x => val1 h (aun op (ρ x))
  | .convert s d x => val2 (aconvert c s d (ρ x) h)
  | .makeInterface t x => match c.und t with
    | some (.interface _) => none
    | some _ => some (.val (.iface t (ρ x)) h)
    | none => none
  | .makeFunc fn first cap => match fn with
    | .yield _ => none
    | _ => some (.val (.func fn (first.map ρ) (cap.map ρ)) h)
  | .makeSlice t l k => val2 (amakeSlice c t (ρ l) (ρ k) h)
  | .slice t x lo hi mx => val1 h (aslice c t (ρ x) (lo.map ρ) (hi.map ρ) (mx.map ρ) h)
  | .fieldAddr t x f => val1 h (afieldAddr c t (ρ x) f)
  | .field t x f => val1 h (afield c t (ρ x) f)
  | .indexAddr t x i => val1 h (aindexAddr c t (ρ x) (ρ i))
  | .index t x i => val1 h (aindex c t (ρ x) (ρ i))
  | .extract x i => match ρ x with
    | .tuple vs => match vs[i]? with
      | some v => some (.val v h)
      | none => none
    | _ => none
  | .makeMap t r => match r.map ρ with
    | none => some (.val (.map (some h.fresh)) (h.new (.map [] 0)))
    | some (.int _ _) => match c.und t with
      | some (.map _ _) => some (.val (.map (some h.fresh)) (h.new (.map [] 0)))
      | _ => none
    | some _ => none
  | .lookup t x k ok => val1 h (alookup c t (ρ x) (ρ k) ok h)
  | .mapUpdate t m k x => match amapUpdate c t (ρ m) (ρ k) (ρ x) h with
    | some h' => some (.skip h')
    | none => none
  | .insert t m k x => match amapUpdate c t (ρ m) (ρ k) (ρ x) h with
    | some h' => some (.skip h')
    | none => none
  | .typeAssert x _ t ok => val1 h (atypeAssert c (ρ x) t ok)
  | .sliceToArrayPointer t x => val1 h (aarrayAt c t (ρ x))
  | .range t x => val2 (arange c t (ρ x) h)
  | .next it s => val2 (anext (ρ it) s h)
  | .call cl => acall c ρ cl h
  | _ => none

end U
section
variable (c : Ctx) (b : Bool)
theorem U_und (t : TypeId)  : U.und (c.cu b) t = und c t := rfl
theorem U_szOf (t : TypeId)  : U.szOf (c.cu b) t = szOf c t := rfl
theorem U_aggT (t : TypeId)  : U.aggT (c.cu b) t = aggT c t := rfl
theorem U_zeroCells (t : TypeId)  : U.zeroCells (c.cu b) t = zeroCells c t := rfl
theorem U_aload (h : Heap) (t : TypeId) (y0 : Value) : U.aload (c.cu b) h t y0 = aload c h t y0 := rfl
theorem U_astore (h : Heap) (t : TypeId) (a v : Value)  : U.astore (c.cu b) h t a v = astore c h t a v := rfl
theorem U_apart (t : TypeId) (cs : Array Value) (off : Nat)  : U.apart (c.cu b) t cs off = apart c t cs off := rfl
theorem U_aeqIn : ∀ (y0 : Nat) (y1 : TypeId) (y2 : Value) (y3 : Value), U.aeqIn (c.cu b) y0 y1 y2 y3 = aeqIn c y0 y1 y2 y3
  | 0, _, _, _ => rfl
  | d + 1, t, x, y => by
    unfold U.aeqIn aeqIn
    (try simp only [U_aeqIn d, U_szOf c b, U_apart c b, show ∀ t, U.info (c.cu b) t = info c t from fun _ => rfl]) <;> rfl
theorem U_aequal (t : TypeId) (x y : Value)  : U.aequal (c.cu b) t x y = aequal c t x y := by unfold U.aequal aequal; (try simp only [U_aeqIn c b]) <;> rfl
theorem U_abin (op : BinOp) (t : TypeId) (x y : Value) (cx cy : Bool)  : U.abin (c.cu b) op t x y cx cy = abin c op t x y cx cy := by unfold U.abin abin; (try simp only [U_aequal c b]) <;> rfl
theorem U_aconvSlice (src dst e : TypeId) (a : Option Addr) (l k : Nat) (h : Heap)  : U.aconvSlice (c.cu b) src dst e a l k h = aconvSlice c src dst e a l k h := rfl
theorem U_aconvert (src dst : TypeId) (x : Value) (h : Heap)  : U.aconvert (c.cu b) src dst x h = aconvert c src dst x h := rfl
theorem U_known (h : Heap) (n size len cap : Nat)  : U.known (c.cu b) h n size len cap = known c h n size len cap := rfl
theorem U_aslice (t : TypeId) (x : Value) (low high max : Option Value) (h : Heap)  : U.aslice (c.cu b) t x low high max h = aslice c t x low high max h := rfl
theorem U_aindexAddr (t : TypeId) (x ix : Value)  : U.aindexAddr (c.cu b) t x ix = aindexAddr c t x ix := rfl
theorem U_aindex (t : TypeId) (x ix : Value)  : U.aindex (c.cu b) t x ix = aindex c t x ix := rfl
theorem U_afieldAddr (t : TypeId) (x : Value) (f : Nat)  : U.afieldAddr (c.cu b) t x f = afieldAddr c t x f := rfl
theorem U_afield (t : TypeId) (x : Value) (f : Nat)  : U.afield (c.cu b) t x f = afield c t x f := rfl
theorem U_places : ∀ (y0 : List Field), U.places (c.cu b) y0 = places c y0
  | [] => rfl
  | f :: l => by unfold U.places places; rw [U_places l, U_szOf c b]; rfl
theorem U_abuild (t : TypeId) (parts : List (Nat × Value))  : U.abuild (c.cu b) t parts = abuild c t parts := by unfold U.abuild abuild; (try simp only [U_places c b, U_szOf c b, U_zeroCells c b]) <;> rfl
theorem U_abuildSlice (t : TypeId) (len : Nat) (parts : List (Nat × Value)) (h : Heap)  : U.abuildSlice (c.cu b) t len parts h = abuildSlice c t len parts h := rfl
theorem U_amakeSlice (t : TypeId) (l k : Value) (h : Heap)  : U.amakeSlice (c.cu b) t l k h = amakeSlice c t l k h := rfl
theorem U_aappend (ts : List TypeId) (s0 x : Value) (h : Heap)  : U.aappend (c.cu b) ts s0 x h = aappend c ts s0 x h := rfl
theorem U_acopy (ts : List TypeId) (d x : Value) (h : Heap)  : U.acopy (c.cu b) ts d x h = acopy c ts d x h := rfl
theorem U_alen (t : TypeId) (x : Value) (h : Heap)  : U.alen (c.cu b) t x h = alen c t x h := rfl
theorem U_acap (t : TypeId) (x : Value)  : U.acap (c.cu b) t x = acap c t x := rfl
theorem U_aunsafeString (ts : List TypeId) (p n : Value) (h : Heap)  : U.aunsafeString (c.cu b) ts p n h = aunsafeString c ts p n h := rfl
theorem U_akeyOk : ∀ (y0 : Nat) (y1 : TypeId) (y2 : Value), U.akeyOk (c.cu b) y0 y1 y2 = akeyOk c y0 y1 y2
  | 0, _, _ => rfl
  | d + 1, t, v => by
    unfold U.akeyOk akeyOk
    (try simp only [U_akeyOk d, U_apart c b]) <;> rfl
theorem U_afind (t : TypeId) (k : Value) : ∀ (y0 : List MapEntry) (y1 : Nat), U.afind (c.cu b) t k y0 y1 = afind c t k y0 y1
  | [], _ => rfl
  | e :: es, i => by unfold U.afind afind; rw [U_aequal c b, U_afind t k es (i + 1)]; rfl
theorem U_zeroVal (t : TypeId)  : U.zeroVal (c.cu b) t = zeroVal c t := rfl
theorem U_alookup (t : TypeId) (x k : Value) (ok : Bool) (h : Heap)  : U.alookup (c.cu b) t x k ok h = alookup c t x k ok h := by unfold U.alookup alookup; (try simp only [U_akeyOk c b, U_afind c b, U_zeroVal c b]) <;> rfl
theorem U_amapUpdate (t : TypeId) (m k v : Value) (h : Heap)  : U.amapUpdate (c.cu b) t m k v h = amapUpdate c t m k v h := by unfold U.amapUpdate amapUpdate; (try simp only [U_akeyOk c b, U_afind c b]) <;> rfl
theorem U_adelete (t : TypeId) (m k : Value) (h : Heap)  : U.adelete (c.cu b) t m k h = adelete c t m k h := by unfold U.adelete adelete; (try simp only [U_akeyOk c b, U_afind c b]) <;> rfl
theorem U_atypeAssert (x : Value) (t : TypeId) (ok : Bool)  : U.atypeAssert (c.cu b) x t ok = atypeAssert c x t ok := rfl
theorem U_aarrayAt (t : TypeId) (x : Value)  : U.aarrayAt (c.cu b) t x = aarrayAt c t x := rfl
theorem U_aclear (t : TypeId) (x : Value) (h : Heap)  : U.aclear (c.cu b) t x h = aclear c t x h := rfl
theorem U_abuiltin (b1 : Builtin) (ts : List TypeId) (args : List Value) (h : Heap)  : U.abuiltin (c.cu b) b1 ts args h = abuiltin c b1 ts args h := by unfold U.abuiltin abuiltin; (try simp only [U_aappend c b, U_acopy c b, U_alen c b, U_acap c b, U_adelete c b, U_aclear c b, U_aunsafeString c b]) <;> rfl
theorem U_amethod (h : Heap) (t : TypeId) (v : Value) (name : String)  : U.amethod (c.cu b) h t v name = amethod c h t v name := rfl
theorem U_acallMethod (recv : Value) (name : String) (args : List Value) (h : Heap)  : U.acallMethod (c.cu b) recv name args h = acallMethod c recv name args h := rfl
theorem U_acallValue (f : Value) (args : List Value) (h : Heap)  : U.acallValue (c.cu b) f args h = acallValue c f args h := rfl
theorem U_acall (ρ : Operand → Value) (cl : Call) (h : Heap)  : U.acall (c.cu b) ρ cl h = acall c ρ cl h := by unfold U.acall acall; (try simp only [U_abuiltin c b, U_acallMethod c b, U_acallValue c b]) <;> rfl
theorem U_arange (t : TypeId) (x : Value) (h : Heap)  : U.arange (c.cu b) t x h = arange c t x h := rfl
theorem U_aop (ρ : Operand → Value) (o : Op) (h : Heap)  : U.aop (c.cu b) ρ o h = aop c ρ o h := by
  unfold U.aop aop
  (try simp only [U_zeroCells c b, U_abuild c b, U_abuildSlice c b, U_aload c b, U_astore c b, U_abin c b, U_aconvert c b, U_amakeSlice c b, U_aslice c b, U_afieldAddr c b, U_afield c b, U_aindexAddr c b, U_aindex c b, U_alookup c b, U_amapUpdate c b, U_atypeAssert c b, U_aarrayAt c b, U_arange c b, U_acall c b]) <;> rfl
end
end
end Go.Eng

namespace Go.Eng
open Go
noncomputable section
/-- numbers that are reckoned out ahead -/
def forceNat {β : Type} (m : Nat) (f : Nat → β) : β := Nat.rec (motive := fun _ => β) (f 0) (fun j _ => f (Nat.succ j)) m
def forceInt {β : Type} (n : Int) (f : Int → β) : β := match n with
  | .ofNat m => forceNat m fun m => f (.ofNat m)
  | .negSucc m => forceNat m fun m => f (.negSucc m)
def forceV {β : Type} (v : Value) (f : Value → β) : β := match v with
  | .int k n => forceInt n fun n => f (.int k n)
  | v => f v
theorem forceNat_eq {β : Type} (m : Nat) (f : Nat → β) : forceNat m f = f m := by cases m <;> rfl
theorem forceInt_eq {β : Type} (n : Int) (f : Int → β) : forceInt n f = f n := by
  cases n with
  | ofNat m => exact forceNat_eq m fun m => f (.ofNat m)
  | negSucc m => exact forceNat_eq m fun m => f (.negSucc m)
theorem forceV_eq {β : Type} (v : Value) (f : Value → β) : forceV v f = f v := by
  cases v with
  | int k n => exact forceInt_eq n fun n => f (.int k n)
  | _ => rfl
namespace U
def doOut (b : Bool) (rec : Rec) (r : Regs) (dst : Option Tmp) (o : Out) : Option (Regs × Heap) :=
  match o with
  | .val v h => match b with
    | true => forceV v fun v => some (r.put dst v, h)
    | false => some (r.put dst v, h)
  | .skip h => some (r.put dst undef, h)
  | .call f args h => match rec (.call f args h) with
    | some (.ret v h') => some (r.put dst v, h')
    | _ => none
  | .round l args h => match rec (.round l args h) with
    | some (.ret v h') => some (r.put dst v, h')
    | _ => none
def evOp (rec : Rec) (c : Cu) (ops : Array Oper) (o : Oper) (r : Regs) (h : Heap) : Option (Regs × Heap) :=
  match awanted ops o (aeval r) with
  | none => none
  | some false => some (r.put o.dst undef, h)
  | some true => match aop c (aeval r) o.op h with
    | some out => doOut c.strict rec r o.dst out
    | none => none
def evOps (rec : Rec) (c : Cu) (ops : Array Oper) : List Oper → Regs → Heap → Option (Regs × Heap)
  | [], r, h => some (r, h)
  | o :: l, r, h => match evOp rec c ops o r h with
    | some (r', h') => evOps rec c ops l r' h'
    | none => none

def quietK (c : Cu) : Op → Bool
  | .move _ | .assign _ | .pick .. | .build .. | .load .. | .nilCheck _ | .binOp .. | .unOp .. | .makeInterface .. | .makeFunc .. | .slice .. | .fieldAddr .. | .field .. | .indexAddr .. | .index .. | .extract .. => true
  | .convert _ d _ => match c.und d with
    | some (.slice _) => false
    | _ => true
  | .call { callee := .builtin b, .. } => match b with
    | .len | .cap | .min | .max | .unsafeSliceData => true
    | _ => false
  | _ => false
def qval (c : Cu) (ops : Array Oper) (o : Oper) (ρ : Operand → Value) (h : Heap) : Option Value :=
  match awanted ops o ρ with
  | none => none
  | some false => some undef
  | some true => match quietK c o.op with
    | false => none
    | true => match aop c ρ o.op h with
      | some (.val v _) => some v
      | _ => none

def factHolds (c : Cu) (ops : Array Oper) (h : Heap) (f : Fact) : Bool :=
  match qval c ops f.o (aeval f.r) h with
  | some v => beqV v f.v
  | none => false
def findQ (ops : Array Oper) (c : Cu) (listed : Array Bool) (r : Regs) (h : Heap) : List Nat → Option (Nat × Oper × Value)
  | [] => none
  | i :: l => match ops[i]? with
    | some o => match qval c ops o (aeval r) h with
      | some v => match Region.free .any ops listed i with
        | true => some (i, o, v)
        | false => findQ ops c listed r h l
      | none => findQ ops c listed r h l
    | none => findQ ops c listed r h l
def anew (c : Cu) (ρ : Operand → Value) : Op → Option (AObj × (Nat → Value))
  | .alloc t => match zeroCells c t with
    | some z => some (.cells z t (0, 0), fun n => ptr n 0)
    | none => none
  | .box t x => match isJunk (ρ x) with
    | true => none
    | false => some (.cells (ρ x).cells.toList t (0, 0), fun n => ptr n 0)
  | _ => none
def findN (ops : Array Oper) (c : Cu) (listed : Array Bool) (r : Regs) : List Nat → Option (Nat × Oper × AObj × (Nat → Value))
  | [] => none
  | i :: l => match ops[i]? with
    | some o => match awanted ops o (aeval r), anew c (aeval r) o.op with
      | some true, some (ob, mk) => match Region.free .any ops listed i with
        | true => some (i, o, ob, mk)
        | false => findN ops c listed r l
      | _, _ => findN ops c listed r l
    | none => findN ops c listed r l
def evDraw (rec : Rec) (c : Cu) (ops : Array Oper) (B : Array Nat) : Nat → Array Bool → List Fact → Regs → Heap → Option (Regs × Heap)
  | 0, listed, _, r, h =>
    match Region.ready .any ops listed with
    | [] => some (r, h)
    | _ :: _ => none
  | n + 1, listed, facts, r, h =>
    match Region.ready .any ops listed with
    | [] => some (r, h)
    | i :: rest =>
      match findQ ops c listed r h (i :: rest) with
      | some (j, o, v) => evDraw rec c ops B n (listed.setIfInBounds j true) (keepFact ⟨j, o, r, v⟩ facts) (r.put o.dst v) h
      | none => match rest, ops[i]? with
        | [], some o => match evOp rec c ops o r h with
          | some (r', h') =>
            let facts' := facts.filter fun f => !(B.getD i 0).testBit f.i
            match facts'.all (factHolds c ops h') with
            | true => evDraw rec c ops B n (listed.setIfInBounds i true) facts' r' h'
            | false => none
          | none => none
        | _, _ => match findN ops c listed r (i :: rest) with
          | some (j, o, ob, mk) => match facts.all (factHolds c ops (h.new ob)) with
            | true => evDraw rec c ops B n (listed.setIfInBounds j true) facts (r.put o.dst (mk h.fresh)) (h.new ob)
            | false => none
          | none => none

def evRegion (rec : Rec) (c : Cu) (ops : Array Oper) (draw : Bool) (r : Regs) (h : Heap) : Option (Regs × Heap) :=
  match draw with
  | false => evOps rec c ops ops.toList r h
  | true => evDraw rec c ops (Region.before ops) ops.size (Array.replicate ops.size false) [] r h

def aresult (c : Cu) (r : Regs) (h : Heap) : List ResultVar → Option (List Value)
  | [] => some []
  | .tmp t :: l => match aresult c r h l with
    | some vs => some (r.get t :: vs)
    | none => none
  | .cell a t :: l => match aload c h t (r.get a), aresult c r h l with
    | some v, some vs => some (v :: vs)
    | _, _ => none
def aresults (c : Cu) (fn : Func) (r : Regs) (h : Heap) : Option Value :=
  match aresult c r h fn.results.toList with
  | some [v] => some v
  | some vs => some (.tuple vs.toArray)
  | none => none

def evF (c : Cu) (rec : Rec) : Req → Option Ans
  | .code f rd cd st =>
    match cd with
    | .skip => some (.fin .nrm st)
    | .label _ => some (.fin .nrm st)
    | .region _ ops draw => match st with
      | ⟨r0, h0, d0⟩ => match evRegion rec c ops draw r0 h0 with
        | some (r, h) => some (.fin .nrm ⟨r, h, d0⟩)
        | none => none
    | .seq a b => match rec (.code f rd a st) with
      | some (.fin .nrm st') => rec (.code f rd b st')
      | x => x
    | .cond x a b => match aeval st.r x with
      | .bool true => rec (.code f rd a st)
      | .bool false => rec (.code f rd b st)
      | _ => none
    | .block id b => match rec (.code f rd b st) with
      | some (.fin (.jmp (.exit id')) st') => match Nat.beq id' id with
        | true => some (.fin .nrm st')
        | false => some (.fin (.jmp (.exit id')) st')
      | x => x
    | .loop b => match rec (.code f rd b st) with
      | some (.fin .nrm ⟨r', h', d'⟩) => rec (.code f rd (.loop b) ⟨r'.flush, h', d'⟩)
      | x => x
    | .scope b => rec (.scope f rd b b st)
    | .exit id => some (.fin (.jmp (.exit id)) st)
    | .goto l => some (.fin (.jmp (.goto l)) st)
    | .ret => some (.fin (.jmp .ret) st)
    | .refuse _ => none
    | .rangeFunc x params assign body =>
      match (match rd with
        | none => some (st.h.new (.deferred (some [])), st.h.fresh :: st.d, st.h.fresh)
        | some l => match st.h.get l with
          | some (.loop _ _ _ _ _ _ _ ds) => some (st.h, st.d, ds)
          | _ => none) with
      | none => none
      | some (h1, d1, ds) =>
        let l := h1.fresh
        match acallValue c (aeval st.r x) [.func (.yield l) #[] #[]] (h1.new (.loop .ready none f st.r.flush params assign body ds)) with
        | some (.call g args h2) => match rec (.call g args h2) with
          | some (.ret _ h3) => match h3.get l with
            | some (.loop .busy _ _ _ _ _ _ _) => none
            | some (.loop _ pending fn rs ps as bd dd) =>
              let st' : St := { r := st.r, h := h3.set l (.loop .exhausted pending fn rs ps as bd dd), d := d1 }
              match pending with
              | none => some (.fin .nrm st')
              | some j => rec (.code f rd j st')
            | _ => none
          | _ => none
        | _ => none
  | .scope f rd body cur st =>
    match rec (.code f rd cur st) with
    | some (.fin (.jmp (.goto l)) st') => match findLabel body l with
      | some rest => rec (.scope f rd body rest { st' with r := st'.r.flush })
      | none => some (.fin (.jmp (.goto l)) st')
    | x => x
  | .round l args h =>
    match h.get l with
    | some (.loop s p fn rs ps as bd dd) =>
      match Nat.beq args.length ps.size, s with
      | true, .ready =>
        match rec (.code fn (some l) as { r := setAll rs (ps.toList.zip args), h, d := [] }) with
        | some (.fin .nrm st1) => match st1.h.get l with
          | some (.loop .ready p1 fn1 rs1 ps1 as1 bd1 dd1) =>
            match rec (.code fn (some l) bd { st1 with h := st1.h.set l (.loop .busy p1 fn1 rs1 ps1 as1 bd1 dd1) }) with
            | some (.fin e st2) => match st2.h.get l with
              | some (.loop _ _ fn2 rs2 ps2 as2 bd2 dd2) =>
                match e with
                | .nrm => some (.ret (.bool true) (st2.h.set l (.loop .ready none fn2 rs2 ps2 as2 bd2 dd2)))
                | .jmp j => some (.ret (.bool false) (st2.h.set l (.loop .done (some j) fn2 rs2 ps2 as2 bd2 dd2)))
              | _ => none
            | _ => none
          | _ => none
        | _ => none
      | _, _ => none
    | _ => none
  | .call f args h =>
    match c.sums f with
    | some s => match s args h with
      | some (v, h') => some (.ret v h')
      | none => none
    | none => match c.fn f with
      | none => none
      | some fn => match fn.body with
        | none => none
        | some body =>
          match rec (.code f none body { r := enterRegs fn.ntmps args, h, d := [] }) with
          | some (.fin e st) => match (match e with | .nrm => true | .jmp .ret => true | _ => false), unmark st.d st.h with
            | true, some h' => match aresults c fn st.r h' with
              | some v => some (.ret v h')
              | none => none
            | _, _ => none
          | _ => none

def ev (c : Cu) (n : Nat) : Req → Option Ans :=
  Nat.rec (motive := fun _ => Req → Option Ans) (fun _ => none) (fun _ ih => evF c ih) n

end U
section
variable (c : Ctx) (b : Bool)
theorem U_doOut (rec : Rec) (r : Regs) (dst : Option Tmp) (o : Out) : U.doOut b rec r dst o = doOut rec r dst o := by
  cases o with
  | val v h => cases b with
    | true => exact forceV_eq v fun v => some (r.put dst v, h)
    | false => rfl
  | skip h => rfl
  | call f a h => rfl
  | round f a h => rfl
theorem U_evOp (rec : Rec) (ops : Array Oper) (o : Oper) (r : Regs) (h : Heap) : U.evOp rec (c.cu b) ops o r h = evOp rec c ops o r h := by
  unfold U.evOp evOp
  simp only [U_aop c b, U_doOut, show ∀ x, (c.cu x).strict = x from fun _ => rfl]
  rfl
theorem U_evOps (rec : Rec) (ops : Array Oper) : ∀ (l : List Oper) (r : Regs) (h : Heap), U.evOps rec (c.cu b) ops l r h = evOps rec c ops l r h
  | [], _, _ => rfl
  | o :: l, r, h => by
    unfold U.evOps evOps
    simp only [U_evOp c b, U_evOps rec ops l]
    rfl
theorem U_quietK (o : Op) : U.quietK (c.cu b) o = quietK c o := rfl
theorem U_qval (ops : Array Oper) (o : Oper) (ρ : Operand → Value) (h : Heap) : U.qval (c.cu b) ops o ρ h = qval c ops o ρ h := by
  unfold U.qval qval
  simp only [U_aop c b, U_quietK c b]
  rfl
theorem U_factHolds (ops : Array Oper) (h : Heap) : U.factHolds (c.cu b) ops h = factHolds c ops h := by
  funext f
  unfold U.factHolds factHolds
  rw [U_qval c b]
  rfl
theorem U_findQ (ops : Array Oper) (listed : Array Bool) (r : Regs) (h : Heap) : ∀ (l : List Nat), U.findQ ops (c.cu b) listed r h l = findQ ops c listed r h l
  | [] => rfl
  | i :: l => by
    unfold U.findQ findQ
    simp only [U_qval c b, U_findQ ops listed r h l]
    rfl
theorem U_anew (ρ : Operand → Value) (o : Op) : U.anew (c.cu b) ρ o = anew c ρ o := rfl
theorem U_findN (ops : Array Oper) (listed : Array Bool) (r : Regs) : ∀ (l : List Nat), U.findN ops (c.cu b) listed r l = findN ops c listed r l
  | [] => rfl
  | i :: l => by
    unfold U.findN findN
    simp only [U_anew c b, U_findN ops listed r l]
    rfl
theorem U_evDraw (rec : Rec) (ops : Array Oper) (B : Array Nat) : ∀ (n : Nat) (listed : Array Bool) (facts : List Fact) (r : Regs) (h : Heap), U.evDraw rec (c.cu b) ops B n listed facts r h = evDraw rec c ops B n listed facts r h
  | 0, _, _, _, _ => rfl
  | n + 1, listed, facts, r, h => by
    unfold U.evDraw evDraw
    simp only [U_evOp c b, U_findQ c b, U_findN c b, U_factHolds c b, U_evDraw rec ops B n]
    rfl
theorem U_evRegion (rec : Rec) (ops : Array Oper) (draw : Bool) (r : Regs) (h : Heap) : U.evRegion rec (c.cu b) ops draw r h = evRegion rec c ops draw r h := by
  unfold U.evRegion evRegion
  simp only [U_evOps c b, U_evDraw c b]
  rfl
theorem U_aresult (r : Regs) (h : Heap) : ∀ (l : List ResultVar), U.aresult (c.cu b) r h l = aresult c r h l
  | [] => rfl
  | .tmp t :: l => by unfold U.aresult aresult; rw [U_aresult r h l]; rfl
  | .cell a t :: l => by unfold U.aresult aresult; rw [U_aresult r h l, U_aload c b]; rfl
theorem U_aresults (fn : Func) (r : Regs) (h : Heap) : U.aresults (c.cu b) fn r h = aresults c fn r h := by
  unfold U.aresults aresults
  rw [U_aresult c b]
  rfl
theorem U_evF (rec : Rec) : U.evF (c.cu b) rec = evF c rec := by
  funext q
  cases q with
  | code f rd cd st =>
    cases cd with
    | loop bd =>
      unfold U.evF evF
      simp only
      cases rec (.code f rd bd st) with
      | none => rfl
      | some a => cases a with
        | ret v h => rfl
        | fin e st' => cases e <;> rfl
    | _ =>
      unfold U.evF evF
      simp only [U_evRegion c b, U_aresults c b, U_acallValue c b, show (c.cu b).sums = c.sums from rfl, show ∀ f, (c.cu b).fn f = c.P.funcs.toList[f]? from fun _ => rfl] <;> rfl
  | _ =>
    unfold U.evF evF
    simp only [U_evRegion c b, U_aresults c b, U_acallValue c b, show (c.cu b).sums = c.sums from rfl, show ∀ f, (c.cu b).fn f = c.P.funcs.toList[f]? from fun _ => rfl] <;> rfl
theorem U_ev : ∀ n, U.ev (c.cu b) n = ev c n
  | 0 => rfl
  | n + 1 => by
    show U.evF (c.cu b) (U.ev (c.cu b) n) = evF c (ev c n)
    rw [U_evF c b, U_ev n]
end

/-- a table of a row -/
def rowTrie {α : Type} : List α → Nat → Tr α → Tr α
  | [], _, t => t
  | x :: l, i, t => rowTrie l (i + 1) (t.set i (some x))
theorem rowTrie_get {α : Type} : ∀ (l : List α) (i : Nat) (t : Tr α) (j : Nat), (rowTrie l i t).get j = if i ≤ j ∧ j < i + l.length then l[j - i]? else t.get j
  | [], i, t, j => by simp only [rowTrie]; rw [if_neg (fun h => by simp at h; omega)]
  | x :: l, i, t, j => by
    simp only [rowTrie]
    rw [rowTrie_get l (i + 1) _ j, Tr.get_set]
    by_cases h1 : i + 1 ≤ j ∧ j < i + 1 + l.length
    · rw [if_pos h1, if_pos (by simp; omega), show j - i = (j - (i + 1)) + 1 from by omega]
      simp
    · rw [if_neg h1]
      by_cases h2 : j = i
      · subst h2
        rw [if_pos rfl, if_pos (by simp)]
        simp
      · rw [if_neg h2, if_neg (by simp; omega)]
theorem rowTrie_nil {α : Type} (l : List α) (j : Nat) : (rowTrie l 0 .nil).get j = l[j]? := by
  rw [rowTrie_get]
  by_cases h : j < l.length
  · rw [if_pos (by omega), Nat.sub_zero]
  · rw [if_neg (by omega), List.getElem?_eq_none (by omega)]; rfl
def typeTrie (P : Program) : Tr TypeInfo := rowTrie P.types.toList 0 .nil
def funcTrie (P : Program) : Tr Func := rowTrie P.funcs.toList 0 .nil
def infF (P : Program) (t : TypeId) : Option TypeInfo := match (typeTrie P).get t with
  | some i => some i
  | none => P.info? t
theorem infF_eq (P : Program) : infF P = P.info? := by
  funext t
  unfold infF
  cases h : (typeTrie P).get t with
  | none => rfl
  | some i =>
    have h1 : P.types.toList[t]? = some i := by rw [← h]; exact (rowTrie_nil _ _).symm
    rw [Array.getElem?_toList] at h1
    have hlt : t < P.types.size := (Array.getElem?_eq_some_iff.1 h1).1
    show some i = Tables.info? P.toTables t
    unfold Tables.info?
    rw [if_pos hlt, h1]
def undF (P : Program) (t : TypeId) : Option TypeDesc := match infF P t with
  | some { desc := .named _ u, .. } => (infF P u).map (·.desc)
  | some i => some i.desc
  | none => none
def fnF (P : Program) (f : Nat) : Option Func := (funcTrie P).get f
/-- the evaluator with tables -/
def evFast (P : Program) (b : Bool) (s : Nat → Option (List Value → Heap → Option (Value × Heap))) : Nat → Req → Option Ans := U.ev ⟨P, undF P, infF P, fnF P, s, b⟩
theorem undF_eq (P : Program) : undF P = P.underlying := by
  funext t
  unfold undF Program.underlying
  simp only [infF_eq]
  rfl
theorem fnF_eq (P : Program) : fnF P = fun f => P.funcs.toList[f]? := by
  funext f
  exact rowTrie_nil _ _
theorem evFast_eq (P : Program) (b : Bool) (s : Nat → Option (List Value → Heap → Option (Value × Heap))) (n : Nat) : evFast P b s n = ev ⟨P, s⟩ n := by
  rw [← U_ev ⟨P, s⟩ b n]
  unfold evFast Ctx.cu
  rw [undF_eq, infF_eq, fnF_eq]
end
end Go.Eng
