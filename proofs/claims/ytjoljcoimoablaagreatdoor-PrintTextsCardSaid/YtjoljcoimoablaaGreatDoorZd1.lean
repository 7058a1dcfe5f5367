/-
  The plain machine: operations with all that hangs on types worked out, and a run without choice.
-/
import Derived.Test.YtjoljcoimoablaaGreatDoorZd0
namespace Go.Det

inductive Kind where
  | box | arr | row
  deriving DecidableEq, Repr

/-- A block: so many cells that may be looked at; a row may share memory with those that it grew out of (anc). -/
structure Blk where
  size : Nat
  cells : PM Value
  kind : Kind
  esz : Nat
  ext : Bool
  anc : List Nat
  ro : Bool

structure Heap where
  blk : PM Blk
  mp : PM (List (Value × Value))
  next : Nat

/-! ### Operations -/
inductive DCall where
  | func (f : FuncId)
  | value (x : Operand)

inductive DOp where
  | fail
  | move (x : Operand)
  | pick (c a b : Operand)
  | new (cells : List Value)
  | box (x : Operand)
  | build (zero : List Value) (parts : List (Nat × Nat × Operand))
  | buildSlice (len esz : Nat) (zero : List Value) (parts : List (Nat × Nat × Operand))
  | load (n : Option Nat) (a : Operand)
  | store (n : Nat) (a v : Operand)
  | nilCheck (x : Operand)
  | bin (op : BinOp) (t : TypeId) (x y : Operand)
  | eqBool (neg : Bool) (x y : Operand)
  | eqIface (neg lit : Bool) (E : List TypeId) (x y : Operand)
  | eqAgg (neg : Bool) (leaves : List Nat) (x y : Operand)
  | eqPtr (neg : Bool) (x y : Operand)
  | eqNilSlice (neg : Bool) (x y : Operand)
  | un (op : UnOp) (x : Operand)
  | convInt (k : IntKind) (x : Operand)
  | intToStr (x : Operand)
  | bytesToStr (x : Operand)
  | strToBytes (x : Operand)
  | iface (t : TypeId) (x : Operand)
  | func (f : FuncId) (first captured : List Operand)
  | makeMap
  | lookup (zero : Value) (ok : Bool) (m k : Operand)
  | mapUpdate (m k v : Operand)
  | makeSlice (esz bytes : Nat) (zero : List Value) (len cap : Operand)
  | sliceStr (x : Operand) (lo hi : Option Operand)
  | sliceSl (esz : Nat) (x : Operand) (lo hi : Option Operand)
  | sliceArr (n esz : Nat) (x : Operand) (lo hi : Option Operand)
  | fieldAddr (off : Nat) (x : Operand)
  | field (off : Nat) (n : Option Nat) (x : Operand)
  | idxArr (len esz : Nat) (x i : Operand)
  | idxSl (esz : Nat) (x i : Operand)
  | indexArr (len esz : Nat) (n : Option Nat) (x i : Operand)
  | indexStr (x i : Operand)
  | assertT (t : TypeId) (zero : Value) (x : Operand)
  | extract (i : Nat) (x : Operand)
  | call (c : DCall) (args : List Operand)
  | lenOf (str : Bool) (x : Operand)
  | strStr (x : Operand)
  | append (esz bytes : Nat) (s x : Operand)
  | copy (esz : Nat) (s x : Operand)
  | extreme (max : Bool) (xs : List Operand)

/-- How an operation stands to the heap: it looks at nothing there; it looks; it makes a block; it does more. -/
inductive Cls where
  | pure | read | make | eff
  deriving DecidableEq, Repr

def DOp.cls : DOp → Cls
  | .load .. | .bytesToStr _ | .lookup .. | .sliceSl .. | .sliceArr .. | .eqIface .. | .eqPtr .. => .read
  | .new _ | .box _ | .buildSlice .. => .make
  | .store .. | .strToBytes _ | .makeMap | .mapUpdate .. | .makeSlice .. | .call .. | .append .. | .copy .. | .fail => .eff
  | _ => .pure

structure DOper where
  dst : Option Tmp
  op : DOp
  guard : Option (Tmp × Bool)

inductive DCode where
  | fail
  | skip
  | ops (os : List DOper)
  /-- In any order: 'ord' is one that the edges allow, all but effects as early as may be; with each its number; with an effect those that are looked at again. -/
  | draw (n : Nat) (ord : List (Nat × DOper × List Nat))
  | seq (a b : DCode)
  | cond (c : Operand) (a b : DCode)
  | block (id : Nat) (c : DCode)
  | loop (c : DCode)
  | exit (id : Nat)
  | ret

inductive DRes where
  | tmp (t : Tmp)
  | cell (a : Tmp) (n : Option Nat)

structure DFunc where
  results : List DRes
  body : DCode

/-! ### Values -/
def scalar : Value → Bool
  | .bool _ | .int _ _ | .string _ => true
  | _ => false
def pureOf : Sem Value → Option Value
  | .pure v => some v
  | _ => none
def cellOk : Value → Bool
  | .agg _ | .tuple _ => false
  | _ => true

/-- The same value? (Says no where it can't tell.) -/
def veqN : Nat → Value → Value → Bool
  | 0, _, _ => false
  | n + 1, a, b => match a, b with
    | .bool x, .bool y => x == y
    | .int k x, .int l y => k == l && x == y
    | .string x, .string y => x.data.toList == y.data.toList
    | .pointer x, .pointer y => x == y
    | .slice x n c, .slice y m d => x == y && n == m && c == d
    | .map x, .map y => x == y
    | .nilFunc, .nilFunc => true
    | .nilIface, .nilIface => true
    | .iface t x, .iface u y => t == u && veqN n x y
    | .agg xs, .agg ys => all n xs.toList ys.toList
    | .tuple xs, .tuple ys => all n xs.toList ys.toList
    | _, _ => false
  where all (n : Nat) : List Value → List Value → Bool
  | [], [] => true
  | x :: xs, y :: ys => veqN n x y && all n xs ys
  | _, _ => false

/-! ### The heap -/
def voidA : Addr := ⟨0, 0, some 0⟩
def addA (a : Addr) (n : Nat) : Addr := ⟨a.block, a.off + n, a.spot⟩

def Heap.look (H : Heap) (a : Addr) (n : Nat) : Option (List Value) :=
  match a.spot with
  | some _ => none
  | none => match H.blk.get a.block with
    | some b => if a.off + n ≤ b.size then b.cells.getN a.off n else none
    | none => none

/-- A variable: an aggregate of so many cells, or one cell. -/
def Heap.loadN (H : Heap) (a : Addr) : Option Nat → Option Value
  | some n => (H.look a n).map fun cs => .agg cs.toArray
  | none => match H.look a 1 with
    | some [v] => some v
    | _ => none

def Heap.make (H : Heap) (id : Nat) (b : Blk) : Heap := { H with blk := H.blk.set id b, next := Nat.max H.next (id + 1) }

/-- The blocks whose memory it may share are never looked at again. -/
def killOne (p : Nat) (m : PM Blk) : PM Blk :=
  match m.get p with
  | some b => m.set p { b with size := 0, ext := false }
  | none => m
def kill : List Nat → PM Blk → PM Blk
  | [], m => m
  | p :: ps, m => kill ps (killOne p m)

def Heap.write (H : Heap) (a : Addr) (vs : List Value) : Option Heap :=
  match a.spot with
  | some _ => none
  | none => match H.blk.get a.block with
    | some b =>
      if b.ro || !(a.off + vs.length ≤ b.size) || !vs.all cellOk then none else
      match b.kind with
      | .box => some { H with blk := H.blk.set a.block { b with cells := b.cells.setList a.off vs } }
      | _ => if b.ext then some { H with blk := (kill b.anc H.blk).set a.block { b with cells := b.cells.setList a.off vs, anc := [] } } else none
    | none => none

def mkBlk (kind : Kind) (esz : Nat) (cells : List Value) : Blk := { size := cells.length, cells := .ofList cells, kind, esz, ext := true, anc := [], ro := false }

def ptr (b : Nat) : Value := .pointer (some ⟨b, 0, none⟩)
def zeros (zero : List Value) : Nat → List Value
  | 0 => []
  | n + 1 => zero ++ zeros zero n

/-- Parts laid over cells: (where, how many, what). -/
def lay (ev : Operand → Value) (cells : List Value) : List (Nat × Nat × Operand) → Option (List Value)
  | [] => some cells
  | (off, size, x) :: rest =>
    let vs := (ev x).cells.toList
    if vs.length == size && off + size ≤ cells.length then lay ev (cells.take off ++ (vs ++ cells.drop (off + size))) rest else none

def sliceLen : Value → Option Nat
  | .slice _ n _ => some n
  | .string s => some s.size
  | _ => none
def bytesOfStr (s : ByteArray) : List Value := s.data.toList.map fun b => .int .u8 b.toNat
def Heap.elems (H : Heap) (esz n : Nat) : Value → Option (List Value)
  | .slice none _ _ => some []
  | .slice (some a) _ _ => if n * esz = 0 then some [] else H.look a (n * esz)
  | .string s => if esz = 1 then some ((bytesOfStr s).take n) else none
  | _ => none

def Heap.append (H : Heap) (id : Nat) (esz bytes : Nat) (s x : Value) : Option (Value × Heap) :=
  match s, sliceLen x with
  | .slice base len cap, some n =>
    match H.elems esz n x with
    | none => none
    | some new =>
      if n = 0 then (if len ≤ cap then some (s, H) else none) else
      if (len + n) * bytes ≤ 2 ^ 46 ∧ len + n ≤ 2 ^ 40 ∧ 0 < esz ∧ new.length = n * esz ∧ new.all cellOk = true then
      let res : Value := .slice (some ⟨id, 0, none⟩) (len + n) (len + n)
      match base with
      | none => if cap = 0 ∧ len = 0 then some (res, H.make id (mkBlk .row esz new)) else none
      | some a =>
        match a.spot, H.elems esz len s, H.blk.get a.block with
        | none, some old, some b =>
          if old.length ≠ len * esz then none else
          match b.kind with
          | .box => if len + n ≤ cap then none else some (res, H.make id (mkBlk .row esz (old ++ new)))
          | _ =>
            if b.esz = esz then
              if b.kind = .arr ∧ cap < len + n ∨ b.kind = .row ∧ a.off + cap * esz < b.size ∧ cap < len + n then some (res, H.make id (mkBlk .row esz (old ++ new)))
              else if b.ro = false ∧ b.ext = true ∧ (b.kind = .arr ∨ len = cap ∧ b.size ≤ a.off + len * esz) ∧ a.off + len * esz ≤ b.size then
                some (res, { H with blk := H.blk.set a.block { b with size := a.off + len * esz, ext := false } }.make id { mkBlk .row esz (old ++ new) with anc := a.block :: b.anc })
              else none
            else none
        | _, _, _ => none
      else none
  | _, _ => none

def keyOk : Value → Bool
  | .string _ => true
  | _ => false
def keyEq : Value → Value → Bool
  | .string a, .string b => a.data.toList == b.data.toList
  | _, _ => false
def mapFind (k : Value) : List (Value × Value) → Option Value
  | [] => none
  | (j, v) :: es => if keyEq k j then some v else mapFind k es
def mapPut (k v : Value) : List (Value × Value) → List (Value × Value)
  | [] => [(k, v)]
  | (j, u) :: es => if keyEq k j then (j, v) :: es else (j, u) :: mapPut k v es

def partOf (cs : List Value) (off : Nat) : Option Nat → Option Value
  | some n => if off + n ≤ cs.length then some (.agg ((cs.drop off).take n).toArray) else none
  | none => cs[off]?

def intOf? : Value → Option Int
  | .int _ n => some n
  | _ => none

/-- A bound of a cut: from 0 to a greatest one; none given: so much. -/
def boundOf (most dflt : Nat) : Option Value → Option Nat
  | none => some dflt
  | some v => match intOf? v with
    | some i => if 0 ≤ i ∧ i ≤ most then some i.toNat else none
    | none => none
/-- The bounds of a cut: low, high. -/
def bounds (len cap : Nat) (lo hi : Option Value) : Option (Nat × Nat) :=
  match boundOf cap len hi with
  | none => none
  | some h => match boundOf h 0 lo with
    | some l => some (l, h)
    | none => none

def sameBlockEq (H : Heap) (a b : Addr) : Option Bool :=
  if a.block = b.block then (if a.spot = none ∧ b.spot = none then some (a == b) else none) else
  match a.spot, b.spot, H.blk.get a.block, H.blk.get b.block with
  | none, none, some x, some y => if x.kind = .box ∧ y.kind = .box ∧ a.off < x.size ∧ b.off < y.size then some false else none
  | _, _, _, _ => none

def ifaceEq (H : Heap) (lit : Bool) (E : List TypeId) : Value → Value → Option Bool
  | .nilIface, .nilIface => if lit then some true else none
  | .nilIface, .iface _ _ => some false
  | .iface _ _, .nilIface => some false
  | .iface t x, .iface u y => if t = u then (match x, y, E.contains t with
      | .pointer (some a), .pointer (some b), true => sameBlockEq H a b
      | _, _, _ => none) else some false
  | _, _ => none

def leavesEq (xs ys : List Value) : List Nat → Option Bool
  | [] => some true
  | i :: is => match xs[i]?, ys[i]? with
    | some (.int k a), some (.int l b) => if k = l then (if a = b then leavesEq xs ys is else some false) else none
    | _, _ => none

def isNeq : BinOp → Bool
  | .neq => true
  | _ => false
def nots (neg : Bool) (r : Option Bool) : Option Value := r.map fun b => .bool (if neg then !b else b)

def extremeOf (mx : Bool) : Value → List Value → Option Value
  | v, [] => some v
  | .int k x, .int l y :: rest => if k = l then extremeOf mx (.int k (if mx then (if y > x then y else x) else (if y < x then y else x))) rest else none
  | _, _ => none

def bytesString : List Value → Option (List UInt8)
  | [] => some []
  | .int .u8 n :: rest => (bytesString rest).map (UInt8.ofNat n.toNat :: ·)
  | _ => none

def resolveFn (f : Value) (args : List Value) : Option (FuncId × List Value) :=
  match f with
  | .func (.func g) first captured => some (g, first.toList ++ args ++ captured.toList)
  | _ => none

def scalars (r : Option Value) (H : Heap) : Option (Value × Heap) :=
  match r with
  | some u => if scalar u then some (u, H) else none
  | none => none

/-- What an operation comes to that is no call: its value (undef where it has none), the heap; what it makes is block 'id'. -/
def evalOp (ev : Operand → Value) (H : Heap) (id : Nat) : DOp → Option (Value × Heap)
  | .fail => none
  | .move x => some (ev x, H)
  | .pick c a b => match ev c with
    | .bool t => some (if t then ev a else ev b, H)
    | _ => none
  | .new cells => if cells.all cellOk then some (ptr id, H.make id (mkBlk .box 0 cells)) else none
  | .box x => let cs := (ev x).cells.toList; if cs.all cellOk then some (ptr id, H.make id (mkBlk .box 0 cs)) else none
  | .build zero parts => (lay ev zero parts).map fun cs => (.agg cs.toArray, H)
  | .buildSlice len esz zero parts => match lay ev (zeros zero len) parts with
    | some cs => if cs.all cellOk && len * esz = cs.length then some (.slice (some ⟨id, 0, none⟩) len len, H.make id (mkBlk .row esz cs)) else none
    | none => none
  | .load n a => match ev a with
    | .pointer (some p) => (H.loadN p n).map (·, H)
    | _ => none
  | .store n a v => match ev a with
    | .pointer (some p) => let cs := (ev v).cells.toList; if cs.length = n then (H.write p cs).map fun H' => (undef, H') else none
    | _ => none
  | .nilCheck x => match ev x with
    | .pointer (some p) => some (.pointer (some p), H)
    | .func (.func f) a b => some (.func (.func f) a b, H)
    | _ => none
  | .bin op t x y => let a := ev x; let b := ev y; if scalar a && scalar b then scalars (pureOf (binOp op t a b)) H else none
  | .eqBool neg x y => match ev x, ev y with
    | .bool a, .bool b => some (.bool (if neg then !(a == b) else a == b), H)
    | _, _ => none
  | .eqIface neg lit E x y => (nots neg (ifaceEq H lit E (ev x) (ev y))).map (·, H)
  | .eqAgg neg leaves x y => match ev x, ev y with
    | .agg xs, .agg ys => (nots neg (leavesEq xs.toList ys.toList leaves)).map (·, H)
    | _, _ => none
  | .eqPtr neg x y => match ev x, ev y with
    | .pointer none, .pointer b => (nots neg (some b.isNone)).map (·, H)
    | .pointer (some _), .pointer none => (nots neg (some false)).map (·, H)
    | .pointer (some a), .pointer (some b) => (nots neg (sameBlockEq H a b)).map (·, H)
    | _, _ => none
  | .eqNilSlice neg x y => match ev x, ev y with
    | .slice none _ _, .slice b _ _ => (nots neg (some b.isNone)).map (·, H)
    | .slice (some _) _ _, .slice none _ _ => (nots neg (some false)).map (·, H)
    | _, _ => none
  | .un op x => if scalar (ev x) then scalars (pureOf (Op.unary op (ev x))) H else none
  | .convInt k x => match ev x with
    | .int _ n => some (.int k (k.wrap n), H)
    | _ => none
  | .intToStr x => match ev x with
    | .int _ n => some (.string (Utf8.encode n), H)
    | _ => none
  | .bytesToStr x => match ev x with
    | .slice none _ _ => some (.string .empty, H)
    | .slice (some a) len _ => match H.elems 1 len (.slice (some a) len len) with
      | some cs => (bytesString cs).map fun l => (.string ⟨l.toArray⟩, H)
      | none => none
    | _ => none
  | .strToBytes x => match ev x with
    | .string s => some (.slice (some ⟨id, 0, none⟩) s.size s.size, H.make id (mkBlk .row 1 (bytesOfStr s)))
    | _ => none
  | .iface t x => some (.iface t (ev x), H)
  | .func f first captured => some (.func (.func f) (first.map ev).toArray (captured.map ev).toArray, H)
  | .makeMap => some (.map (some id), { H with mp := H.mp.set id [], next := Nat.max H.next (id + 1) })
  | .lookup zero ok m k =>
    let back (r : Option Value) : Option (Value × Heap) := match r with
      | some v => some (if ok then .tuple #[v, .bool true] else v, H)
      | none => some (if ok then .tuple #[zero, .bool false] else zero, H)
    match ev m, keyOk (ev k) with
    | .map none, true => back none
    | .map (some r), true => match H.mp.get r with
      | some es => back (mapFind (ev k) es)
      | none => none
    | _, _ => none
  | .mapUpdate m k v => match ev m, keyOk (ev k) with
    | .map (some r), true => match H.mp.get r with
      | some es => some (undef, { H with mp := H.mp.set r (mapPut (ev k) (ev v) es) })
      | none => none
    | _, _ => none
  | .makeSlice esz bytes zero len cap => match intOf? (ev len), intOf? (ev cap) with
    | some l, some c => if 0 ≤ l ∧ l ≤ c ∧ c * bytes ≤ 2 ^ 46 ∧ c ≤ 2 ^ 40 ∧ esz = zero.length ∧ 0 < esz then
        some (.slice (some ⟨id, 0, none⟩) l.toNat c.toNat, H.make id (mkBlk .arr esz (zeros zero c.toNat))) else none
    | _, _ => none
  | .sliceStr x lo hi => match ev x with
    | .string s => (bounds s.size s.size (lo.map ev) (hi.map ev)).map fun (l, h) => (.string (s.extract l h), H)
    | _ => none
  | .sliceSl esz x lo hi => match ev x with
    | .slice none n c => if n = 0 ∧ c = 0 then (match bounds 0 0 (lo.map ev) (hi.map ev) with
      | some _ => some (.slice none 0 0, H)
      | none => none) else none
    | .slice (some a) len cap => match bounds len cap (lo.map ev) (hi.map ev) with
      | some (l, h) => if l = cap then some (.slice (some voidA) 0 0, H) else (match a.spot, H.blk.get a.block with
        | none, some b => if b.kind = .box ∨ b.esz = esz then some (.slice (some (addA a (l * esz))) (h - l) (cap - l), H) else none
        | _, _ => none)
      | none => none
    | _ => none
  | .sliceArr n esz x lo hi => match ev x with
    | .pointer (some a) => match bounds n n (lo.map ev) (hi.map ev) with
      | some (l, h) => if l = n then some (.slice (some voidA) 0 0, H) else (match a.spot, H.blk.get a.block with
        | none, some b => if b.kind = .box then some (.slice (some (addA a (l * esz))) (h - l) (n - l), H) else none
        | _, _ => none)
      | none => none
    | _ => none
  | .fieldAddr off x => match ev x with
    | .pointer (some a) => some (.pointer (some (addA a off)), H)
    | _ => none
  | .field off n x => match ev x with
    | .agg cs => (partOf cs.toList off n).map (·, H)
    | _ => none
  | .idxArr len esz x i => match ev x, intOf? (ev i) with
    | .pointer (some a), some j => if 0 ≤ j ∧ j < len then some (.pointer (some (addA a (j.toNat * esz))), H) else none
    | _, _ => none
  | .idxSl esz x i => match ev x, intOf? (ev i) with
    | .slice (some a) len _, some j => if 0 ≤ j ∧ j < len then some (.pointer (some (addA a (j.toNat * esz))), H) else none
    | _, _ => none
  | .indexArr len esz n x i => match ev x, intOf? (ev i) with
    | .agg cs, some j => if 0 ≤ j ∧ j < len then (partOf cs.toList (j.toNat * esz) n).map (·, H) else none
    | _, _ => none
  | .indexStr x i => match ev x, intOf? (ev i) with
    | .string s, some j => if 0 ≤ j then (match s.data.toList[j.toNat]? with
      | some b => some (.int .u8 b.toNat, H)
      | none => none) else none
    | _, _ => none
  | .assertT t zero x => match ev x with
    | .nilIface => some (.tuple #[zero, .bool false], H)
    | .iface u v => some (if u = t then .tuple #[v, .bool true] else .tuple #[zero, .bool false], H)
    | _ => none
  | .extract i x => match ev x with
    | .tuple vs => (vs.toList[i]?).map (·, H)
    | _ => none
  | .call .. => none
  | .lenOf str x => match str, ev x with
    | true, .string s => some (.int .i64 s.size, H)
    | false, .slice _ n _ => some (.int .i64 n, H)
    | _, _ => none
  | .strStr x => match ev x with
    | .string s => some (.string s, H)
    | _ => none
  | .append esz bytes s x => H.append id esz bytes (ev s) (ev x)
  | .copy esz s x => match ev s, sliceLen (ev x) with
    | .slice base dLen _, some m =>
      let n := Nat.min m dLen
      match H.elems esz n (ev x) with
      | some cs => match base with
        | none => some (.int .i64 n, H)
        | some a => if n * esz = 0 then some (.int .i64 n, H) else (H.write a cs).map fun H' => (.int .i64 n, H')
      | none => none
    | _, _ => none
  | .extreme mx xs => match xs.map ev with
    | v :: rest => (extremeOf mx v rest).map (·, H)
    | [] => none

/-! ### The run -/
inductive Ex where
  | norm
  | exit (id : Nat)
  | ret
  deriving DecidableEq

abbrev Tmps := PM Value
def ev (T : Tmps) : Operand → Value
  | .tmp t => (T.get t).getD undef
  | .const v => v
  | .global g => .pointer (some ⟨g, 0, none⟩)
  | .func f => .func (.func f) #[] #[]
def putT (T : Tmps) (dst : Option Tmp) (v : Value) : Tmps :=
  match dst with
  | some d => T.set d v
  | none => T
def wantedT (T : Tmps) : Option (Tmp × Bool) → Bool
  | none => true
  | some (t, b) => match T.get t with
    | some (.bool c) => c == b
    | _ => false

abbrev CallFn := FuncId → List Value → Heap → Option (Value × Heap)

def stepOp (call : CallFn) (T : Tmps) (H : Heap) (id : Nat) : DOp → Option (Value × Heap)
  | .call (.func f) args => call f (args.map (ev T)) H
  | .call (.value x) args => match resolveFn (ev T x) (args.map (ev T)) with
    | some (f, vs) => call f vs H
    | none => none
  | op => evalOp (ev T) H id op

def runOps (call : CallFn) : List DOper → Tmps → Heap → Option (Tmps × Heap)
  | [], T, H => some (T, H)
  | o :: os, T, H =>
    match wantedT T o.guard with
    | true => match stepOp call T H H.next o.op with
      | some (v, H') => runOps call os (putT T o.dst v) H'
      | none => none
    | false => runOps call os (putT T o.dst undef) H

/-- What was read, to be looked at again: number, operation, the frame as it was, the value. -/
abbrev Seen := List (Nat × DOp × Tmps × Value)

def again (H : Heap) (js : List Nat) : Seen → Bool
  | [] => true
  | (j, op, T, v) :: rest =>
    (!js.contains j || (match evalOp (ev T) H 0 op with
      | some (u, _) => veqN 60 u v
      | none => false)) && again H js rest

def runDraw (call : CallFn) (base : Nat) : List (Nat × DOper × List Nat) → Seen → Tmps → Heap → Option (Tmps × Heap)
  | [], _, T, H => some (T, H)
  | (i, o, js) :: os, seen, T, H =>
    match wantedT T o.guard with
    | true =>
      match o.op.cls with
      | .eff => match stepOp call T H H.next o.op with
        | some (v, H') => if again H' js seen then runDraw call base os seen (putT T o.dst v) H' else none
        | none => none
      | .read => match evalOp (ev T) H 0 o.op with
        | some (v, _) => runDraw call base os ((i, o.op, T, v) :: seen) (putT T o.dst v) H
        | none => none
      | _ => match evalOp (ev T) H (base + i) o.op with
        | some (v, H') => runDraw call base os seen (putT T o.dst v) H'
        | none => none
    | false => runDraw call base os seen (putT T o.dst undef) H

def resultOf (T : Tmps) (H : Heap) : DRes → Option Value
  | .tmp t => some ((T.get t).getD undef)
  | .cell a n => match (T.get a) with
    | some (.pointer (some p)) => H.loadN p n
    | _ => none
def resultsOf (T : Tmps) (H : Heap) : List DRes → Option (List Value)
  | [] => some []
  | r :: rs => match resultOf T H r with
    | some v => (resultsOf T H rs).map (v :: ·)
    | none => none
def tupled : List Value → Value
  | [v] => v
  | vs => .tuple vs.toArray

section
variable (ext : FuncId → Option (List Value → Heap → Option Value)) (D : FuncId → Option DFunc)

def exec : Nat → DCode → Tmps → Heap → Option (Ex × Tmps × Heap)
  | 0, _, _, _ => none
  | n + 1, c, T, H =>
    let call : CallFn := fun f args H => match ext f with
      | some g => (g args H).map (·, H)
      | none => match D f with
        | some d => match exec n d.body (PM.ofList args) H with
          | some (.exit _, _, _) => none
          | some (_, T', H') => match resultsOf T' H' d.results with
            | some vs => some (tupled vs, H')
            | none => none
          | none => none
        | none => none
    match c with
    | .fail => none
    | .skip => some (.norm, T, H)
    | .ops os => match runOps call os T H with
      | some (T', H') => some (.norm, T', H')
      | none => none
    | .draw m ord => match runDraw call H.next ord [] T { H with next := H.next + m } with
      | some (T', H') => some (.norm, T', H')
      | none => none
    | .seq a b => match exec n a T H with
      | some (.norm, T', H') => exec n b T' H'
      | r => r
    | .cond c a b => match ev T c with
      | .bool true => exec n a T H
      | .bool false => exec n b T H
      | _ => none
    | .block id c => match exec n c T H with
      | some (.exit i, T', H') => some (if i = id then .norm else .exit i, T', H')
      | r => r
    | .loop c => match exec n c T H with
      | some (.norm, T', H') => exec n (.loop c) T' H'
      | r => r
    | .exit id => some (.exit id, T, H)
    | .ret => some (.ret, T, H)

def callF (n : Nat) : CallFn := fun f args H => match ext f with
  | some g => (g args H).map (·, H)
  | none => match D f with
    | some d => match exec ext D n d.body (PM.ofList args) H with
      | some (.exit _, _, _) => none
      | some (_, T', H') => match resultsOf T' H' d.results with
        | some vs => some (tupled vs, H')
        | none => none
      | none => none
    | none => none
end
end Go.Det
