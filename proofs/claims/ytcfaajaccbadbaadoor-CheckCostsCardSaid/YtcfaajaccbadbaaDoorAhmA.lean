/- The abstract machine: Go's translated code run on values without addresses, loops and calls by fuel. Definitions alone. -/
import Derived.Orders
import Derived.Scope
import Derived.LoopN
import Derived.Laws.AppendOwn
import Derived.Laws.MakeOwn
import Derived.Laws.Entries
import Derived.Laws.Slices
import Derived.IntWalk
set_option linter.unusedSimpArgs false
set_option linter.unusedVariables false
namespace Go.Proofs.YtcfaajaccbadbaaDoor.Ahm
open Go

/-- Abstract values. -/
inductive AV where
  | sc (v : Value)
  | sp (k : Nat)
  | gl (g : Nat)
  | fs (cells : List AV) (n : Nat)
  | fp (cells : List AV) (off : Nat)
  | sl (o off n L : Nat)
  | rf (o off L : Nat)
  | lp (s g off : Nat)
  | e0
  | ifc (t : Nat) (v : AV)
  | agg (cs : List AV)
  | tup (vs : List AV)
  | fn (f : Nat) (first captured : List AV)
  | mp (o : Nat)
  deriving Inhabited

inductive AObj where
  | arr (cells : List AV) (e : Nat) (wr : Bool)
  | map (es : List (Value × AV))
  deriving Inhabited

def scal : Value → Bool
  | .bool _ | .int _ _ | .string _ | .pointer none | .slice none 0 0 | .map none | .nilFunc | .nilIface | .tuple #[] => true
  | _ => false

abbrev Tm := List (Nat × AV)
abbrev Lb := List (Nat × Nat × List AV)

structure St where
  tm : Tm
  lb : Lb
  st : List AObj

structure Env where
  P : Program
  live : FuncId → Nat → List Nat
  loc : FuncId → List Nat
  lit : FuncId → List Nat
  pure : FuncId → Bool
  prim : FuncId → Option (List AV → Option AV)
  glob : Nat → Option AV
  tok : Nat → Value
  prot : Nat → Obj → Prop
  sent : Nat → Bool

def tmGet : Tm → Nat → Option AV
  | [], _ => none
  | (s, v) :: r, t => bif Nat.beq s t then some v else tmGet r t
def tmDel : Tm → Nat → Tm
  | [], _ => []
  | (s, v) :: r, t => bif Nat.beq s t then tmDel r t else (s, v) :: tmDel r t
def tmSet (m : Tm) (t : Nat) (v : AV) : Tm := (t, v) :: tmDel m t
def memN : List Nat → Nat → Bool
  | [], _ => false
  | x :: r, t => bif Nat.beq x t then true else memN r t
/-- in the order of the list: so it is the same whatever the way here -/
def tmKeep : List Nat → Tm → Tm
  | [], _ => []
  | t :: l, m => match tmGet m t with
    | some v => (t, v) :: tmKeep l m
    | none => tmKeep l m

def lbGet : Lb → Nat → Option (Nat × List AV)
  | [], _ => none
  | (s, g, c) :: r, t => bif Nat.beq s t then some (g, c) else lbGet r t
/-- in its place, or at the end -/
def lbSet : Lb → Nat → Nat → List AV → Lb
  | [], t, g, c => [(t, g, c)]
  | (s, g', c') :: r, t, g, c => bif Nat.beq s t then (s, g, c) :: r else (s, g', c') :: lbSet r t g c

/-- the next age of a local variable -/
def nextG (lb : Lb) (d : Nat) : Nat :=
  match lbGet lb d with
  | some (g, _) => g + 1
  | none => 0

def AV.isLp : AV → Bool
  | .lp .. => true
  | _ => false
/-- May it lie in one cell? -/
def AV.isCell : AV → Bool
  | .lp .. | .agg _ | .tup _ => false
  | .sc (.tuple _) => false
  | _ => true
def AV.cells : AV → List AV
  | .agg cs => cs
  | v => [v]
def AV.isSlot (s : Nat) : AV → Bool
  | .lp s' _ _ => Nat.beq s' s
  | _ => false

def tmMentions (s : Nat) : Tm → Bool
  | [] => false
  | (_, v) :: r => bif v.isSlot s then true else tmMentions s r
def lbKeep (m : Tm) : Lb → Lb
  | [] => []
  | (s, g, c) :: r => bif tmMentions s m then (s, g, c) :: lbKeep m r else lbKeep m r

mutual
/-- No memory of its own behind it. -/
def isFz : AV → Bool
  | .sc _ | .sp _ | .gl _ | .fs _ _ | .fp _ _ | .e0 => true
  | .ifc _ v => isFz v
  | .agg cs => isFzL cs
  | .tup vs => isFzL vs
  | .fn _ a b => isFzL a && isFzL b
  | _ => false
def isFzL : List AV → Bool
  | [] => true
  | v :: r => isFz v && isFzL r
end

section
variable (E : Env)

def opv (m : Tm) : Operand → Option AV
  | .tmp t => tmGet m t
  | .const v => bif scal v then some (.sc v) else none
  | .global g => some (.gl g)
  | .func f => some (.fn f [] [])

def opvs (m : Tm) : List Operand → Option (List AV)
  | [] => some []
  | x :: r => match opv m x with
    | none => none
    | some v => match opvs m r with
      | none => none
      | some vs => some (v :: vs)

def cut (cells : List AV) (off n : Nat) : Option (List AV) :=
  bif Nat.ble (off + n) cells.length then some ((cells.drop off).take n) else none

/-- n cells at a pointer. -/
def rdCells (lb : Lb) (st : List AObj) (p : AV) (n : Nat) : Option (List AV) :=
  match p with
  | .fp cells off => cut cells off n
  | .rf o off L => match st[o]? with
    | some (.arr cells _ _) => bif Nat.beq cells.length L then cut cells off n else none
    | _ => none
  | .lp s g off => match lbGet lb s with
    | some (g', cells) => bif Nat.beq g g' then cut cells off n else none
    | none => none
  | .gl g => bif Nat.beq n 1 then (E.glob g).map ([·]) else none
  | _ => none

def isAggT (t : TypeId) : Option Bool :=
  match E.P.underlying t with
  | some (.struct _) | some (.array _ _) => some true
  | some _ => some false
  | none => none
def sizeT (t : TypeId) : Option Nat := (E.P.info? t).map (·.size)

def one : List AV → Option AV
  | [v] => some v
  | _ => none

def loadA (lb : Lb) (st : List AObj) (t : TypeId) (p : AV) : Option AV :=
  match isAggT E t, sizeT E t with
  | some true, some n => (rdCells E lb st p n).map .agg
  | some false, some _ => (rdCells E lb st p 1).bind one
  | _, _ => none

def splice (cells : List AV) (off : Nat) (vs : List AV) : List AV := cells.take off ++ vs ++ cells.drop (off + vs.length)

def wrCells (lb : Lb) (st : List AObj) (p : AV) (vs : List AV) : Option (Lb × List AObj) :=
  bif vs.all AV.isCell then
    match p with
    | .rf o off L => match st[o]? with
      | some (.arr cells e true) =>
        bif Nat.beq cells.length L && Nat.ble (off + vs.length) cells.length then some (lb, st.set o (.arr (splice cells off vs) e true)) else none
      | _ => none
    | .lp s g off => match lbGet lb s with
      | some (g', cells) => bif Nat.beq g g' && Nat.ble (off + vs.length) cells.length then some (lbSet lb s g (splice cells off vs), st) else none
      | none => none
    | _ => none
  else none

def storeA (lb : Lb) (st : List AObj) (t : TypeId) (p v : AV) : Option (Lb × List AObj) :=
  match sizeT E t with
  | some n => bif Nat.beq v.cells.length n then wrCells lb st p v.cells else none
  | none => none

/-- A type's zero. -/
def zeroA (t : TypeId) : Option AV :=
  match (E.P.info? t).bind (·.zero) with
  | some (.agg cs) => bif cs.toList.all (fun v => scal v && v.oneCell') then some (.agg (cs.toList.map .sc)) else none
  | some v => bif scal v && v.oneCell' then some (.sc v) else none
  | none => none

/-- Parts laid at their places. -/
def fillA (place : Nat → Option (Nat × Nat)) (cells : List AV) : List (Nat × AV) → Option (List AV)
  | [] => some cells
  | (i, v) :: rest => match place i with
    | none => none
    | some (off, size) =>
      bif Nat.beq v.cells.length size && Nat.ble (off + size) cells.length && v.cells.all AV.isCell then fillA place (splice cells off v.cells) rest else none

def parts (m : Tm) : List (Nat × Operand) → Option (List (Nat × AV))
  | [] => some []
  | (i, x) :: r => match opv m x with
    | none => none
    | some v => match parts m r with
      | none => none
      | some vs => some ((i, v) :: vs)

def fieldPl (fields : Array Field) (i : Nat) : Option (Nat × Nat) :=
  match fields[i]? with
  | some f => (sizeT E f.type).map fun s => (f.offset, s)
  | none => none

def buildA (t : TypeId) (ps : List (Nat × AV)) : Option AV :=
  match zeroA E t, E.P.underlying t with
  | some z, some (.struct fields) => bif fields.toList.all (fun f => (sizeT E f.type).isSome) then (fillA (fieldPl E fields) z.cells ps).map .agg else none
  | some z, some (.array _ e) => match sizeT E e with
    | some s => (fillA (fun i => some (i * s, s)) z.cells ps).map .agg
    | none => none
  | _, _ => none

def rep (z : List AV) : Nat → List AV
  | 0 => []
  | n + 1 => z ++ rep z n

def bytesT (t : TypeId) : Option Nat := (E.P.info? t).map (·.bytes)

/-- a slice's element type, its zero's cells, its size (above 0), its bytes -/
def elemA (t : TypeId) : Option (TypeId × List AV × Nat × Nat) :=
  match E.P.underlying t with
  | some (.slice e) => match zeroA E e, sizeT E e, bytesT E e with
    | some z, some s, some b => bif Nat.beq z.cells.length s && Nat.ble 1 s && Nat.ble 1 b then some (e, z.cells, s, b) else none
    | _, _, _ => none
  | _ => none

def sIntOf : AV → Option Int
  | .sc (.int _ i) => some i
  | _ => none

def roomA : Nat := 140737488355328

/-- integers -/
def binInt (op : BinOp) (k : IntKind) (a b : Int) : Option Value :=
  match op with
  | .add => some (.int k (k.wrap (a + b)))
  | .sub => some (.int k (k.wrap (a - b)))
  | .mul => some (.int k (k.wrap (a * b)))
  | .quo => if b = 0 then none else some (.int k (k.wrap (a.tdiv b)))
  | .rem => if b = 0 then none else some (.int k (a.tmod b))
  | .and => some (.int k (k.wrap (BitVec.ofInt k.bits a &&& BitVec.ofInt k.bits b).toNat))
  | .or => some (.int k (k.wrap (BitVec.ofInt k.bits a ||| BitVec.ofInt k.bits b).toNat))
  | .xor => some (.int k (k.wrap (BitVec.ofInt k.bits a ^^^ BitVec.ofInt k.bits b).toNat))
  | .andNot => some (.int k (k.wrap (BitVec.ofInt k.bits a &&& ~~~BitVec.ofInt k.bits b).toNat))
  | .eql => some (.bool (a == b))
  | .neq => some (.bool (a != b))
  | .lss => some (.bool (a < b))
  | .leq => some (.bool (a ≤ b))
  | .gtr => some (.bool (a > b))
  | .geq => some (.bool (a ≥ b))
  | _ => none

def shiftA (op : BinOp) (k : IntKind) (a b : Int) : Option Value :=
  if b < 0 then none else
  match op with
  | .shl => some (.int k (k.wrap (a * 2 ^ (min b.toNat k.bits))))
  | .shr => some (.int k (a.fdiv (2 ^ (min b.toNat k.bits))))
  | _ => none

def isEq : BinOp → Option Bool
  | .eql => some true
  | .neq => some false
  | _ => none

def isNonNilPtr : AV → Bool
  | .rf .. | .lp .. | .fp .. | .gl _ => true
  | _ => false
def isNonNilSlice : AV → Bool
  | .fs .. | .sl .. | .e0 => true
  | _ => false

def constOp : Operand → Bool
  | .const _ => true
  | _ => false

/-- a pointer type whose values may be compared as addresses -/
def ptrOK (t : TypeId) : Bool :=
  match E.P.underlying t, E.P.info? t with
  | some (.pointer te), some i => i.comparable && (match E.P.info? te with | some j => !Nat.beq j.size 0 | none => false)
  | _, _ => false

/-- equality where it isn't of numbers: what '==' gives -/
def eqA (t : TypeId) (x y : Operand) (a b : AV) : Option Bool :=
  match E.P.underlying t, a, b with
  | some .bool, .sc (.bool p), .sc (.bool q) => some (p == q)
  | some (.interface _), .sc .nilIface, .sc .nilIface => bif constOp x || constOp y then some true else none
  | some (.interface _), .ifc _ _, .sc .nilIface => some false
  | some (.interface _), .sc .nilIface, .ifc _ _ => some false
  | some (.interface _), .ifc t (.sp j), .ifc u (.sp k) => bif E.sent j && E.sent k && Nat.beq t u && ptrOK E t then some (Nat.beq j k) else none
  | some (.pointer _), .sc (.pointer none), .sc (.pointer none) => some true
  | some (.pointer _), p, .sc (.pointer none) => bif isNonNilPtr p then some false else none
  | some (.slice _), .sc (.slice none 0 0), .sc (.slice none 0 0) => some true
  | some (.slice _), p, .sc (.slice none 0 0) => bif isNonNilSlice p then some false else none
  | _, _, _ => none

def binA (op : BinOp) (t : TypeId) (x y : Operand) (a b : AV) : Option AV :=
  match a, b with
  | .sc (.int k p), .sc (.int k' q) =>
    match op with
    | .shl | .shr => (shiftA op k p q).map .sc
    | _ => if k = k' then (binInt op k p q).map .sc else none
  | .sc (.string p), .sc (.string q) =>
    match op with
    | .eql => some (.sc (.bool (p.toList == q.toList)))
    | .neq => some (.sc (.bool (!(p.toList == q.toList))))
    | _ => none
  | a, b => match isEq op, eqA E t x y a b with
    | some true, some r => some (.sc (.bool r))
    | some false, some r => some (.sc (.bool !r))
    | _, _ => none

def partA (t : TypeId) (cs : List AV) (off : Nat) : Option AV :=
  match isAggT E t, sizeT E t with
  | some true, some n => (cut cs off n).map .agg
  | some false, some _ => cs[off]?
  | _, _ => none

def ptrAdd (p : AV) (n : Nat) : Option AV :=
  match p with
  | .fp cells off => some (.fp cells (off + n))
  | .rf o off L => some (.rf o (off + n) L)
  | .lp s g off => some (.lp s g (off + n))
  | _ => none

def fieldAddrA (t : TypeId) (p : AV) (i : Nat) : Option AV :=
  match E.P.underlying t with
  | some (.struct fields) => match fields[i]? with
    | some f => match sizeT E f.type with
      | some (_ + 1) => ptrAdd p f.offset
      | _ => none
    | none => none
  | _ => none

def fieldA (t : TypeId) (v : AV) (i : Nat) : Option AV :=
  match E.P.underlying t, v with
  | some (.struct fields), .agg cs => match fields[i]? with
    | some f => partA E f.type cs f.offset
    | none => none
  | _, _ => none

def inB (i : Int) (n : Nat) : Bool := decide (0 ≤ i) && decide (i < (n : Int))

def indexAddrA (t : TypeId) (x i : AV) : Option AV :=
  match sIntOf i with
  | none => none
  | some i =>
    match E.P.underlying t with
    | some (.slice e) => match sizeT E e, x with
      | some s, .fs cells n => bif inB i n then bif Nat.ble cells.length (i.toNat * s) then none else some (.fp cells (i.toNat * s)) else none
      | some s, .sl o off n L => bif inB i n then some (.rf o (off + i.toNat * s) L) else none
      | _, _ => none
    | some (.array n e) => match sizeT E e with
      | some s => bif inB i n then ptrAdd x (i.toNat * s) else none
      | none => none
    | _ => none

def indexA (t : TypeId) (x i : AV) : Option AV :=
  match sIntOf i with
  | none => none
  | some i =>
    match E.P.underlying t, x with
    | some (.array n e), .agg cs => match sizeT E e with
      | some s => bif inB i n then partA E e cs (i.toNat * s) else none
      | none => none
    | some .string, .sc (.string s) => match (if 0 ≤ i then s[i.toNat]? else none) with
      | some b => some (.sc (.int .u8 b.toNat))
      | none => none
    | _, _ => none

def bound (d : Nat) (y : Nat) : Option AV → Option Nat
  | none => some d
  | some v => match sIntOf v with
    | some i => bif decide (0 ≤ i) && decide (i ≤ (y : Int)) then some i.toNat else none
    | none => none

/-- is the object of this element type? -/
def liveElem (st : List AObj) (o : Nat) (e : TypeId) : Bool :=
  match st[o]? with
  | some (.arr _ e' _) => Nat.beq e e'
  | _ => false

/-- 'x[lo:hi:mx]'; operands that are not there: none. A third index only where it is 0. -/
def sliceA (st : List AObj) (t : TypeId) (x : AV) (lo hi mx : Option AV) : Option AV :=
  match E.P.underlying t with
  | some .string => match x, mx with
    | .sc (.string s), none => match bound s.size s.size hi with
      | some h => (bound 0 h lo).map fun l => .sc (.string (s.extract l h))
      | none => none
    | _, _ => none
  | some (.slice e) => match sizeT E e with
    | none => none
    | some s => match x, mx with
      | .fs cells n, none => match bound n n hi with
        | some h => match bound 0 h lo with
          | some l => bif Nat.beq cells.length (n * s) then some (.fs ((cells.drop (l * s)).take ((h - l) * s)) (h - l)) else none
          | none => none
        | none => none
      | .sl o off n L, none => match bound n n hi with
        | some h => match bound 0 h lo with
          | some l => bif Nat.ble 1 l && Nat.beq l h then some (.fs [] 0) else bif liveElem st o e then some (.sl o (off + l * s) (h - l) L) else none
          | none => none
        | none => none
      | .sc (.slice none 0 0), mx => match bound 0 0 hi, bound 0 0 lo, bound 0 0 mx with
        | some _, some _, some _ => bif mx.isNone || hi.isSome then some x else none
        | _, _, _ => none
      | .e0, mx => match bound 0 0 hi, bound 0 0 lo, bound 0 0 mx with
        | some _, some _, some _ => bif mx.isNone || hi.isSome then some x else none
        | _, _, _ => none
      | x, some m => match m, hi with
        | .sc (.int _ 0), some (.sc (.int _ 0)) => bif isNonNilSlice x && (match lo with | none => true | some (.sc (.int _ 0)) => true | _ => false) then some .e0 else none
        | _, _ => none
      | _, _ => none
  | _ => none

def keyEq : Value → Value → Option Bool
  | .int k a, .int k' b => if k = k' then some (a == b) else none
  | _, _ => none
def mapFind (k : Value) : List (Value × AV) → Option (Option AV)
  | [] => some none
  | (k', v) :: r => match keyEq k k' with
    | some true => some (some v)
    | some false => mapFind k r
    | none => none

def mapGet (st : List AObj) (m : AV) (k : Value) : Option (Option AV) :=
  match m with
  | .sc (.map none) => some none
  | .mp o => match st[o]? with
    | some (.map es) => mapFind k es
    | _ => none
  | _ => none

def lookupA (st : List AObj) (t : TypeId) (m k : AV) (ok : Bool) : Option AV :=
  match E.P.underlying t, k with
  | some (.map kt e), .sc (.int kk ki) => match E.P.underlying kt, zeroA E e with
    | some (.int _), some z => match mapGet st m (.int kk ki) with
      | some (some v) => some (if ok then .tup [v, .sc (.bool true)] else v)
      | some none => some (if ok then .tup [z, .sc (.bool false)] else z)
      | none => none
    | _, _ => none
  | _, _ => none

def typeAssertA (x : AV) (asserted : TypeId) (ok : Bool) : Option AV :=
  match E.P.underlying asserted with
  | some (.interface _) => none
  | none => none
  | some _ => match x with
    | .sc .nilIface => if ok then (zeroA E asserted).map fun z => .tup [z, .sc (.bool false)] else none
    | .ifc t v => if t = asserted then some (if ok then .tup [v, .sc (.bool true)] else v)
      else if ok then (zeroA E asserted).map fun z => .tup [z, .sc (.bool false)] else none
    | _ => none

def lenA (t : TypeId) (x : AV) (st : List AObj) : Option AV :=
  match E.P.underlying t, x with
  | some .string, .sc (.string s) => some (.sc (.int .i64 s.size))
  | some (.slice _), .sc (.slice none 0 0) => some (.sc (.int .i64 0))
  | some (.slice _), .fs _ n => some (.sc (.int .i64 n))
  | some (.slice _), .sl _ _ n _ => some (.sc (.int .i64 n))
  | some (.slice _), .e0 => some (.sc (.int .i64 0))
  | some (.map _ _), .sc (.map none) => some (.sc (.int .i64 0))
  | some (.map _ _), .mp o => match st[o]? with
    | some (.map es) => some (.sc (.int .i64 es.length))
    | _ => none
  | _, _ => none

def maxA (mx : Bool) : List AV → Option AV
  | [.sc (.int k a), .sc (.int k' b)] => if k = k' then some (.sc (.int k (if mx then (if b > a then b else a) else (if b < a then b else a)))) else none
  | _ => none

/-- the cells that are appended -/
def srcA (st : List AObj) (s : Nat) (xType : TypeId) (x : AV) : Option (List AV × Nat) :=
  match E.P.underlying xType, x with
  | some (.slice _), .sc (.slice none 0 0) => some ([], 0)
  | some (.slice _), .e0 => some ([], 0)
  | some (.slice _), .fs cells n => bif Nat.beq cells.length (n * s) then some (cells, n) else none
  | some (.slice _), .sl o off n L => match st[o]? with
    | some (.arr cells _ _) => bif Nat.beq cells.length L then (cut cells off (n * s)).map fun c => (c, n) else none
    | _ => none
  | some .string, .sc (.string b) => bif Nat.beq s 1 then some (b.data.toList.map fun x => .sc (.int .u8 x.toNat), b.size) else none
  | _, _ => none

def bytesA : List AV → Option (List UInt8)
  | [] => some []
  | .sc (.int .u8 n) :: r => (bytesA r).map (UInt8.ofNat n.toNat :: ·)
  | _ => none

/-- Does what it leads to still lie as it did when it was made? -/
def liveA (lb : Lb) (st : List AObj) : AV → Bool
  | .rf o _ L | .sl o _ _ L => match st[o]? with
    | some (.arr cells _ _) => Nat.beq cells.length L
    | _ => false
  | .lp s g _ => match lbGet lb s with
    | some (g', _) => Nat.beq g g'
    | none => false
  | _ => true
def getL (m : Tm) (lb : Lb) (st : List AObj) (x : Operand) : Option AV :=
  match opv m x with
  | some v => bif liveA lb st v then some v else none
  | none => none

/-- Operations that change no memory. -/
def quiet (m : Tm) (lb : Lb) (st : List AObj) (o : Oper) : Option AV :=
  match o.op with
  | .move x | .assign x => opv m x
  | .pick c a b => match opv m c with
    | some (.sc (.bool t)) => bif t then opv m a else opv m b
    | _ => none
  | .build t ps => (parts m ps.toList).bind (buildA E t)
  | .load t a => (opv m a).bind (loadA E lb st t)
  | .nilCheck x => (getL m lb st x).bind fun v => bif isNonNilPtr v then some v else none
  | .binOp op t x y _ => match getL m lb st x, getL m lb st y with
    | some a, some b => binA E op t x y a b
    | _, _ => none
  | .unOp .not _ x => match opv m x with
    | some (.sc (.bool b)) => some (.sc (.bool !b))
    | _ => none
  | .unOp .neg _ x => match opv m x with
    | some (.sc (.int k n)) => some (.sc (.int k (k.wrap (0 - n))))
    | _ => none
  | .convert s d x => match E.P.underlying s, E.P.underlying d, opv m x with
    | some _, some (.int k), some (.sc (.int _ n)) => some (.sc (.int k (k.wrap n)))
    | some (.slice e), some .string, some x => match E.P.underlying e, srcA E st 1 s x with
      | some (.int .u8), some (cells, _) => (bytesA cells).map fun l => .sc (.string ⟨l.toArray⟩)
      | _, _ => none
    | _, _, _ => none
  | .makeInterface t x => match E.P.underlying t, opv m x with
    | some (.interface _), _ => none
    | some _, some v => bif v.isLp then none else some (.ifc t v)
    | _, _ => none
  | .makeFunc (.func f) first captured => match opvs m first.toList, opvs m captured.toList with
    | some a, some b => bif a.any AV.isLp || b.any AV.isLp then none else some (.fn f a b)
    | _, _ => none
  | .slice t x lo hi mx =>
    match getL m lb st x with
    | none => none
    | some v =>
      match lo.map (opv m), hi.map (opv m), mx.map (opv m) with
      | some none, _, _ | _, some none, _ | _, _, some none => none
      | l, h, k => sliceA E st t v l.join h.join k.join
  | .fieldAddr t x i => (getL m lb st x).bind fun p => fieldAddrA E t p i
  | .field t x i => (opv m x).bind fun p => fieldA E t p i
  | .indexAddr t x i => match getL m lb st x, opv m i with
    | some a, some b => indexAddrA E t a b
    | _, _ => none
  | .index t x i => match opv m x, opv m i with
    | some a, some b => indexA E t a b
    | _, _ => none
  | .lookup t x i ok => match opv m x, opv m i with
    | some a, some b => lookupA E st t a b ok
    | _, _ => none
  | .typeAssert x _ a ok => (opv m x).bind fun v => typeAssertA E v a ok
  | .extract t i => match opv m t with
    | some (.tup vs) => vs[i]?
    | _ => none
  | .call { callee := .builtin .len, args, argTypes } => match args.toList, argTypes.toList with
    | [x], [t] => (getL m lb st x).bind fun v => lenA E t v st
    | _, _ => none
  | .call { callee := .builtin .max, args, .. } => (opvs m args.toList).bind (maxA true)
  | .call { callee := .builtin .min, args, .. } => (opvs m args.toList).bind (maxA false)
  | _ => none

/-- 'append': the slice, and the objects. -/
def appendA (st : List AObj) (t xt : TypeId) (x y : AV) : Option (AV × List AObj) :=
  match elemA E t with
  | none => none
  | some (e, _, s, by_) => match srcA E st s xt y with
    | none => none
    | some (news, n) =>
      bif !news.all AV.isCell then none else
      match x with
      | .sc (.slice none 0 0) => bif Nat.beq n 0 then some (x, st) else
        bif Nat.ble (n * by_) roomA then some (.sl st.length 0 n (n * s), st ++ [.arr news e true]) else none
      | .e0 => bif Nat.beq n 0 then some (x, st) else
        bif Nat.ble (n * by_) roomA then some (.sl st.length 0 n (n * s), st ++ [.arr news e true]) else none
      | .sl o off m L => match st[o]? with
        | some (.arr cells e' true) =>
          bif Nat.beq cells.length L && Nat.beq e e' then
            bif Nat.ble (off + m * s + n * s) L then
              some (.sl o off (m + n) L, st.set o (.arr (splice cells (off + m * s) news) e' true))
            else bif Nat.beq off 0 && Nat.beq (m * s) L && Nat.ble ((m + n) * by_) roomA then
              some (.sl o 0 (m + n) (L + n * s), st.set o (.arr (cells ++ news) e' true))
            else none
          else none
        | _ => none
      | _ => none

def makeSliceA (st : List AObj) (t : TypeId) (l c : AV) : Option (AV × List AObj) :=
  match elemA E t, sIntOf l, sIntOf c with
  | some (e, z, s, by_), some l, some c =>
    bif decide (0 ≤ l) && decide (l ≤ c) && Nat.ble (c.toNat * by_) roomA && decide (c ≤ 9223372036854775807) then
      some (.sl st.length 0 l.toNat (c.toNat * s), st ++ [.arr (rep z c.toNat) e true]) else none
  | _, _, _ => none

def buildSliceA (st : List AObj) (t : TypeId) (len : Nat) (ps : List (Nat × AV)) : Option (AV × List AObj) :=
  match elemA E t with
  | some (e, z, s, _) => bif Nat.ble (len * s) 16777216 then
      (fillA (fun i => some (i * s, s)) (rep z len) ps).map fun cells => (.sl st.length 0 len (len * s), st ++ [.arr cells e true]) else none
  | none => none

/-- a literal that nobody writes -/
def litA (t : TypeId) (len : Nat) (ps : List (Nat × AV)) : Option AV :=
  match elemA E t with
  | some (_, z, s, _) => bif Nat.ble (len * s) 16777216 then
      match fillA (fun i => some (i * s, s)) (rep z len) ps with
      | some cells => bif isFzL cells then some (.fs cells len) else none
      | none => none
      else none
  | none => none

def mapPut (k : Value) (v : AV) : List (Value × AV) → Option (List (Value × AV))
  | [] => some [(k, v)]
  | (k', u) :: r => match keyEq k k' with
    | some true => some ((k, v) :: r)
    | some false => (mapPut k v r).map ((k', u) :: ·)
    | none => none

/-- Operations that change memory, but calls. None as the value: nothing is written to its place but 'undef'. -/
def effect (f : FuncId) (m : Tm) (lb : Lb) (st : List AObj) (o : Oper) : Option (AV × Lb × List AObj) :=
  match o.op with
  | .alloc t => match zeroA E t, sizeT E t with
    | some z, some n => bif Nat.beq z.cells.length n then newVarA f o.dst lb st t z.cells else none
    | _, _ => none
  | .box t x => match opv m x, sizeT E t with
    | some v, some n => bif Nat.beq v.cells.length n && v.cells.all AV.isCell then newVarA f o.dst lb st t v.cells else none
    | _, _ => none
  | .buildSlice t len ps => match parts m ps.toList with
    | some vs => match (bif (match o.dst with | some d => memN (E.lit f) d | none => false) then litA E t len vs else none) with
      | some v => some (v, lb, st)
      | none => (buildSliceA E st t len vs).map fun (v, s) => (v, lb, s)
    | none => none
  | .makeSlice t l c => match opv m l, opv m c with
    | some a, some b => (makeSliceA E st t a b).map fun (v, s) => (v, lb, s)
    | _, _ => none
  | .convert s d x => match E.P.underlying s, opv m x with
    | some (.slice e), some (.sl o off n L) => match E.P.underlying e, st[o]? with
      | some (.int .u8), some (.arr cells _ true) => bif Nat.beq s d && Nat.beq cells.length L then some (.sl o off n L, lb, st) else none
      | _, _ => none
    | _, _ => none
  | .makeMap _ none => some (.mp st.length, lb, st ++ [.map []])
  | .store t a x => match opv m a, opv m x with
    | some p, some v => (storeA E lb st t p v).map fun (l, s) => (.sc undef, l, s)
    | _, _ => none
  | .mapUpdate t x k v | .insert t x k v => match E.P.underlying t, opv m x, opv m k, opv m v with
    | some (.map kt _), some (.mp o), some (.sc (.int kk ki)), some v => match E.P.underlying kt, st[o]? with
      | some (.int _), some (.map es) => bif v.isLp then none else (mapPut (.int kk ki) v es).map fun es => (.sc undef, lb, st.set o (.map es))
      | _, _ => none
    | _, _, _, _ => none
  | .call { callee := .builtin .append, args, argTypes } => match opvs m args.toList, argTypes.toList with
    | some [x, y], [t, xt] => (appendA E st t xt x y).map fun (v, s) => (v, lb, s)
    | _, _ => none
  | _ => none
where
  newVarA (f : FuncId) (dst : Option Tmp) (lb : Lb) (st : List AObj) (t : TypeId) (cells : List AV) : Option (AV × Lb × List AObj) :=
    match dst with
    | none => none
    | some d =>
      bif memN (E.loc f) d then
        some (.lp d (nextG lb d) 0, lbSet lb d (nextG lb d) cells, st)
      else some (.rf st.length 0 cells.length, lb, st ++ [.arr cells t true])

end
end Go.Proofs.YtcfaajaccbadbaaDoor.Ahm
