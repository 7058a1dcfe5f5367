/-
  A loaded function for the plain machine.
-/
import Derived.Test.YtjoljcoimoablaaGreatDoorZd1
namespace Go.Det

/-- A value that leads nowhere. -/
def plainV : Nat → Value → Bool
  | 0, _ => false
  | n + 1, v => match v with
    | .bool _ | .int _ _ | .float _ _ | .complex _ _ _ | .string _ | .pointer none | .slice none _ _ | .map none | .chan none | .nilFunc | .nilIface => true
    | .iface _ v => plainV n v
    | .agg xs => xs.toList.all (plainV n)
    | .tuple xs => xs.toList.all (plainV n)
    | _ => false

section
variable (P : Program) (G : Nat → Bool) (E : List TypeId)

def isAggD : TypeDesc → Bool
  | .struct _ | .array _ _ => true
  | _ => false
/-- How a variable of a type is looked at: a part of so many cells, or one cell. -/
def aggN (t : TypeId) : Option (Option Nat) :=
  match P.underlying t with
  | some d => if isAggD d then some (some (P.cellsOf t)) else some none
  | none => none
def zeroOf (t : TypeId) : Option Value := match (P.info? t).bind (·.zero) with
  | some z => if plainV 30 z then some z else none
  | none => none
def fieldOf (t : TypeId) (i : Nat) : Option Field :=
  match P.underlying t with
  | some (.struct fs) => fs[i]?
  | _ => none

/-- The cells that '==' looks at, in order; none: not whole numbers alone. -/
def leavesOf (t : TypeId) : Option (List Nat) :=
  if P.stoodInHeld t then none else
  match P.underlying t with
  | some (.struct fs) => fs.toList.mapM fun f => if f.name = "_" then none else match P.underlying f.type with
    | some (.int _) => some f.offset
    | _ => none
  | _ => none

def isConst : Operand → Bool
  | .const _ => true
  | _ => false

def isEq : BinOp → Bool
  | .eql | .neq => true
  | _ => false

def convBin (op : BinOp) (t : TypeId) (x y : Operand) : DOp :=
  let neg := isNeq op
  let eq := isEq op
  match P.underlying t with
  | some (.int _) | some .string => .bin op t x y
  | some .bool => if eq then .eqBool neg x y else .fail
  | some (.interface _) => if eq then .eqIface neg (isConst x || isConst y) E x y else .fail
  | some (.struct _) =>
    if eq && !P.eqGuardType P.depth t then (match leavesOf P t with
      | some l => .eqAgg neg l x y
      | none => .fail) else .fail
  | some (.pointer e) => if eq && P.cellsOf e != 0 then .eqPtr neg x y else .fail
  | some (.slice _) => if eq then .eqNilSlice neg x y else .fail
  | _ => .fail

def places (t : TypeId) (parts : Array (Nat × Operand)) : Option (List (Nat × Nat × Operand)) :=
  match P.underlying t with
  | some (.struct fs) => match fs.toList.mapM (fun f => (P.info? f.type).map fun i => (f.offset, i.size)) with
    | some pl => parts.toList.mapM fun q => (pl[q.1]?).map fun p => (p.1, p.2, q.2)
    | none => none
  | some (.array _ e) => match P.info? e with
    | some i => some (parts.toList.map fun q => (q.1 * i.size, i.size, q.2))
    | none => none
  | _ => none

def isU8 (e : TypeId) : Bool := match P.underlying e with | some (.int .u8) => true | _ => false

def convConv (s t : TypeId) (x : Operand) : DOp :=
  match P.underlying s, P.underlying t with
  | some (.int _), some (.int k) => .convInt k x
  | some (.int _), some .string => .intToStr x
  | some .string, some .string => .strStr x
  | some .string, some (.slice e) => if isU8 P e then .strToBytes x else .fail
  | some (.slice e), some .string => if isU8 P e then .bytesToStr x else .fail
  | _, _ => .fail

def convCall (c : Call) : DOp :=
  match c.callee with
  | .value (.func f) => .call (.func f) c.args.toList
  | .value x => .call (.value x) c.args.toList
  | .invoke _ _ => .fail
  | .builtin .len => match c.argTypes[0]?, c.args[0]? with
    | some t, some x => (match P.underlying t with
      | some .string => .lenOf true x
      | some (.slice _) => .lenOf false x
      | _ => .fail)
    | _, _ => .fail
  | .builtin .append => match c.argTypes[0]?, c.argTypes[1]?, c.args[0]?, c.args[1]? with
    | some t, some u, some s, some x => (match P.underlying t, P.underlying u with
      | some (.slice _), some (.int _) => .fail
      | some (.slice e), some _ => (match zeroOf P e with
        | some z => if z.cells.size = P.cellsOf e ∧ c.args.size = 2 then .append (P.cellsOf e) (P.bytesOf e) s x else .fail
        | none => .fail)
      | _, _ => .fail)
    | _, _, _, _ => .fail
  | .builtin .copy => match c.argTypes[0]?, c.args[0]?, c.args[1]? with
    | some t, some s, some x => (match P.underlying t with
      | some (.slice e) => if (P.info? e).isSome then .copy (P.cellsOf e) s x else .fail
      | _ => .fail)
    | _, _, _ => .fail
  | .builtin .max => .extreme true c.args.toList
  | .builtin .min => .extreme false c.args.toList
  | .builtin _ => .fail

def convOp (o : Op) : DOp :=
  match o with
  | .move x | .assign x => .move x
  | .pick c a b => .pick c a b
  | .alloc e => match zeroOf P e with
    | some z => .new z.cells.toList
    | none => .fail
  | .box _ x => .box x
  | .build t parts => match zeroOf P t, places P t parts with
    | some z, some ps => .build z.cells.toList ps
    | _, _ => .fail
  | .buildSlice t len parts => match P.underlying t with
    | some (.slice e) => match zeroOf P e with
      | some z => if len * P.cellsOf e ≤ 2 ^ 24 ∧ z.cells.size = P.cellsOf e ∧ 0 < P.cellsOf e then
          .buildSlice len (P.cellsOf e) z.cells.toList (parts.toList.map fun q => (q.1 * P.cellsOf e, P.cellsOf e, q.2)) else .fail
      | none => .fail
    | _ => .fail
  | .load t a => match aggN P t with
    | some n => .load n a
    | none => .fail
  | .store t a v => if (P.info? t).isSome then .store (P.cellsOf t) a v else .fail
  | .nilCheck x => .nilCheck x
  | .binOp op t x y _ => convBin P E op t x y
  | .unOp op _ x => .un op x
  | .convert s t x => convConv P s t x
  | .makeInterface t x => match P.underlying t with
    | some (.interface _) => .fail
    | some _ => .iface t x
    | none => .fail
  | .makeFunc (.func f) a b => .func f a.toList b.toList
  | .makeMap _ none => .makeMap
  | .lookup t m k ok => match P.underlying t with
    | some (.map kt e) => match P.underlying kt, zeroOf P e with
      | some .string, some z => .lookup z ok m k
      | _, _ => .fail
    | _ => .fail
  | .mapUpdate t m k v => match P.underlying t with
    | some (.map kt _) => match P.underlying kt with
      | some .string => .mapUpdate m k v
      | _ => .fail
    | _ => .fail
  | .makeSlice t l c => match P.underlying t with
    | some (.slice e) => match zeroOf P e with
      | some z => if z.cells.size = P.cellsOf e then .makeSlice (P.cellsOf e) (P.bytesOf e) z.cells.toList l c else .fail
      | none => .fail
    | _ => .fail
  | .slice t x lo hi none => match P.underlying t with
    | some .string => .sliceStr x lo hi
    | some (.slice e) => if (P.info? e).isSome ∧ 0 < P.cellsOf e then .sliceSl (P.cellsOf e) x lo hi else .fail
    | some (.array n e) => if (P.info? e).isSome ∧ 0 < P.cellsOf e then .sliceArr n (P.cellsOf e) x lo hi else .fail
    | _ => .fail
  | .fieldAddr s x i => match fieldOf P s i with
    | some f => if P.cellsOf f.type = 0 then .fail else .fieldAddr f.offset x
    | none => .fail
  | .field s x i => match fieldOf P s i with
    | some f => match aggN P f.type with
      | some n => .field f.offset n x
      | none => .fail
    | none => .fail
  | .indexAddr t x i => match P.underlying t with
    | some (.array n e) => if (P.info? e).isSome then .idxArr n (P.cellsOf e) x i else .fail
    | some (.slice e) => if (P.info? e).isSome then .idxSl (P.cellsOf e) x i else .fail
    | _ => .fail
  | .index t x i => match P.underlying t with
    | some (.array n e) => (match aggN P e with
      | some k => .indexArr n (P.cellsOf e) k x i
      | none => .fail)
    | some .string => .indexStr x i
    | _ => .fail
  | .typeAssert x _ t true => match P.underlying t with
    | some (.interface _) => .fail
    | some _ => (match zeroOf P t with
      | some z => .assertT t z x
      | none => .fail)
    | none => .fail
  | .extract x i => .extract i x
  | .call c => convCall P c
  | _ => .fail

def operandOk : Operand → Bool
  | .const v => plainV 30 v
  | .global g => G g
  | _ => true
/-- The target below a bound; constants that lead nowhere, variables that are known. -/
def operandsOk (n : Nat) (o : Oper) : Bool := (match o.dst with | some d => decide (d < n) | none => true) && o.op.operands.toList.all (operandOk G)

def convGuard (ops : Array Oper) (o : Oper) : Option (Option (Tmp × Bool)) :=
  match o.guard with
  | none => some none
  | some (j, want) => match (ops[j]?).bind (·.dst) with
    | some t => some (some (t, want))
    | none => none

def convOper (n : Nat) (ops : Array Oper) (o : Oper) : Option DOper :=
  match operandsOk G n o, convGuard ops o with
  | true, some g => some { dst := o.dst, op := convOp P E o.op, guard := g }
  | _, _ => none

/-! #### An order for a region that draws -/
def pickNext (cls : Nat → Cls) (befs : Nat → Nat) (n done : Nat) : Option Nat :=
  let ready (i : Nat) : Bool := !done.testBit i && (befs i &&& done == befs i)
  match (List.range n).find? fun i => ready i && cls i != .eff with
  | some i => some i
  | none => (List.range n).find? ready
def orderGo (cls : Nat → Cls) (befs : Nat → Nat) (n : Nat) : Nat → Nat → List Nat
  | 0, _ => []
  | f + 1, done => match pickNext cls befs n done with
    | some i => i :: orderGo cls befs n f (done ||| 2 ^ i)
    | none => []

/-- The operations that the edges put ahead. -/
def aheadOf (o : Oper) : List Nat := o.after.toList.filterMap fun e => if Region.binds .any e then some e.on else none
def tmpOf : Operand → Option Tmp
  | .tmp t => some t
  | _ => none
/-- The temporaries that an operation looks at. -/
def looksD (r : Oper) (o : DOper) : List Tmp := (match o.guard with | some (t, _) => [t] | none => []) ++ r.op.operands.toList.filterMap tmpOf

/-- One that was put into the order: its number, the operation, all that is ahead of it (as bits). -/
structure Put where
  i : Nat
  r : Oper
  o : DOper
  b : Nat

def maskOf (j : Nat) : List Put → Nat
  | [] => 0
  | t :: ts => if t.i = j then t.b else maskOf j ts
def befOf (seen : List Put) : List Nat → Nat
  | [] => 0
  | j :: js => (befOf seen js ||| maskOf j seen) ||| 2 ^ j

def apartOk (seen : List Put) (r : Oper) (o : DOper) (b : Nat) : Bool :=
  seen.all fun t =>
    (match t.r.dst with
      | some d => !(looksD r o).contains d || b.testBit t.i
      | none => true) &&
    (match r.dst with
      | some d => t.r.dst != some d && (!(looksD t.r t.o).contains d || b.testBit t.i)
      | none => true)
def frontOk (n : Nat) (ops : Array Oper) (mask i : Nat) : Bool :=
  (List.range n).all fun j => j == i || mask.testBit j || (match ops[j]? with
    | some q => (aheadOf q).any fun k => !mask.testBit k
    | none => true)
def putOk (n : Nat) (ops : Array Oper) (seen : List Put) (mask i : Nat) (r : Oper) (o : DOper) (b : Nat) : Bool :=
  decide (i < n) && !mask.testBit i && (aheadOf r).all (mask.testBit ·) && apartOk seen r o b && (decide (o.op.cls ≠ .eff) || frontOk n ops mask i)

def mkDraw (n : Nat) (ops : Array Oper) (dops : Array DOper) : List Put → Nat → List Nat → Option (List (Nat × DOper × List Nat))
  | _, mask, [] => if (List.range n).all (mask.testBit ·) then some [] else none
  | seen, mask, i :: is =>
    match ops[i]?, dops[i]? with
    | some r, some o =>
      let b := befOf seen (aheadOf r)
      if putOk n ops seen mask i r o b then
        let js := if o.op.cls = .eff then (seen.filter fun t => decide (t.o.op.cls = .read) && !b.testBit t.i).map (·.i) else []
        (mkDraw n ops dops (⟨i, r, o, b⟩ :: seen) (mask ||| 2 ^ i) is).map ((i, o, js) :: ·)
      else none
    | _, _ => none

def convDraw (n : Nat) (ops : Array Oper) : DCode :=
  match ops.toList.mapM (convOper P G E n ops) with
  | none => .fail
  | some os =>
    let arr := os.toArray
    let cls (i : Nat) : Cls := ((arr[i]?).map (·.op.cls)).getD .eff
    let bs := Region.before ops
    match mkDraw ops.size ops arr [] 0 (orderGo cls (fun i => bs.getD i 0) ops.size ops.size 0) with
    | some items => .draw ops.size items
    | none => .fail

def convCode (n : Nat) : Code → DCode
  | .skip => .skip
  | .region _ ops draw => if draw then convDraw P G E n ops else match ops.toList.mapM (convOper P G E n ops) with
    | some os => .ops os
    | none => .fail
  | .seq a b => .seq (convCode n a) (convCode n b)
  | .cond c a b => .cond c (convCode n a) (convCode n b)
  | .block id c => .block id (convCode n c)
  | .loop c => .loop (convCode n c)
  | .exit id => .exit id
  | .ret => .ret
  | _ => .fail

def convRes : ResultVar → Option DRes
  | .tmp t => some (.tmp t)
  | .cell a t => (aggN P t).map (.cell a)

def convFunc (fn : Func) : Option DFunc :=
  match fn.body with
  | some c => (fn.results.toList.mapM (convRes P)).map fun rs => { results := rs, body := convCode P G E fn.ntmps c }
  | none => none
end
end Go.Det
