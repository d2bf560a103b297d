/- Operations with all types looked up ahead: definitions alone. -/
import Derived.Test.YtcfaajaccbadbaaDoorAhmLa
set_option linter.unusedSimpArgs false
set_option linter.unusedVariables false
namespace Go.Proofs.YtcfaajaccbadbaaDoor.Ahm
open Go

/-! ways to go on, of which the simplifier looks at the first part alone: what a tag names stays as it is -/
inductive Tag {α : Type} (a : α) : Type
  | mk
inductive Tag0 {α : Type} (a : α) : Type
  | mk
def andThen {α β : Type} (o : Option α) (f : α → Option β) (t : Tag0 f) : Option β :=
  match o with
  | some a => f a
  | none => none
theorem andThen_some {α β : Type} {a : α} {f : α → Option β} {t : Tag0 f} : andThen (some a) f t = f a := rfl
theorem andThen_none {α β : Type} {f : α → Option β} {t : Tag0 f} : andThen (none : Option α) f t = none := rfl
theorem andThen_eq {α β : Type} {o : Option α} {f : α → Option β} {t : Tag0 f} {b : β} (h : andThen o f t = some b) : ∃ a, o = some a ∧ f a = some b := by
  cases o with
  | none => cases h
  | some a => exact ⟨a, rfl, h⟩
def ifB {α : Type} (b : Bool) (x y : α) (t : Tag0 (x, y)) : α :=
  match b with
  | true => x
  | false => y
theorem ifB_true {α : Type} {x y : α} {t : Tag0 (x, y)} : ifB true x y t = x := rfl
theorem ifB_false {α : Type} {x y : α} {t : Tag0 (x, y)} : ifB false x y t = y := rfl
theorem andThen_ifB {α β : Type} {b : Bool} {x y : Option α} {t : Tag0 (x, y)} {f : α → Option β} {t' : Tag0 f} : andThen (ifB b x y t) f t' = ifB b (andThen x f .mk) (andThen y f .mk) .mk := by cases b <;> rfl

inductive XV where
  | t (n : Nat)
  | k (v : AV)
  deriving Inhabited

inductive EqC where
  | bool | iface | ptr | slice | no

inductive SrcC where
  | sl | str | no

/-- operations that change no memory -/
inductive XQ where
  | mv (x : XV)
  | pick (c a b : XV)
  | build (z : List AV) (ps : List (Nat × Nat × XV))
  | load (n : Option Nat) (x : XV)
  | nilck (x : XV)
  | bin (op : BinOp) (c : EqC) (cst : Bool) (x y : XV)
  | not (x : XV)
  | neg (x : XV)
  | conv (k : IntKind) (x : XV)
  | str (x : XV)
  | ifc (t : Nat) (x : XV)
  | fn (f : Nat) (first cap : List XV)
  | slS (x : XV) (lo hi : Option XV)
  | sl (s : Nat) (e : Nat) (x : XV) (lo hi mx : Option XV)
  | fa (off : Nat) (x : XV)
  | fld (n : Option Nat) (off : Nat) (x : XV)
  | iaS (s : Nat) (x i : XV)
  | iaA (n s : Nat) (x i : XV)
  | ixA (n s : Nat) (a : Option Nat) (x i : XV)
  | ixS (x i : XV)
  | look (z : AV) (ok : Bool) (x i : XV)
  | tas (t : Nat) (z : Option AV) (ok : Bool) (x : XV)
  | ext (x : XV) (i : Nat)
  | lenS (x : XV)
  | lenL (x : XV)
  | lenM (x : XV)
  | mx (b : Bool) (xs : List XV)

/-- operations that do -/
inductive XE where
  | new (d : Nat) (t : Nat) (loc : Bool) (z : List AV)
  | box (d : Nat) (t : Nat) (loc : Bool) (n : Nat) (x : XV)
  | bsl (lit : Bool) (e : Nat) (z : List AV) (s len : Nat) (ps : List (Nat × Nat × XV))
  | mks (e : Nat) (z : List AV) (s b : Nat) (l c : XV)
  | cvs (x : XV)
  | mkm
  | sto (n : Nat) (a x : XV)
  | mset (x k v : XV)
  | app (e : Nat) (s b : Nat) (c : SrcC) (x y : XV)

inductive XOp where
  | q (x : XQ)
  | e (x : XE)
  | call (x : XV) (xs : List XV)

inductive XG where
  | always | never
  | on (t : Nat) (want : Bool)

structure XOper where
  dst : Option Nat
  g : XG
  op : XOp

section
variable (m : Tm) (lb : Lb) (st : List AObj)

def xv : XV → Option AV
  | .t n => tmGet m n
  | .k v => some v
def xvs : List XV → Option (List AV)
  | [] => some []
  | x :: r => match xv m x with
    | none => none
    | some v => match xvs r with
      | none => none
      | some vs => some (v :: vs)
def xl (x : XV) : Option AV :=
  match xv m x with
  | some v => bif liveA lb st v then some v else none
  | none => none
def xo : Option XV → Option (Option AV)
  | none => some none
  | some x => match xv m x with
    | some v => some (some v)
    | none => none
def xps : List (Nat × Nat × XV) → Option (List (Nat × Nat × AV))
  | [] => some []
  | (o, s, x) :: r => match xv m x with
    | none => none
    | some v => match xps r with
      | none => none
      | some vs => some ((o, s, v) :: vs)

def xfill (cells : List AV) : List (Nat × Nat × AV) → Option (List AV)
  | [] => some cells
  | (off, size, v) :: rest =>
    bif Nat.beq v.cells.length size && Nat.ble (off + size) cells.length && v.cells.all AV.isCell then xfill (splice cells off v.cells) rest else none

def xeq (E : Env) (c : EqC) (cst : Bool) (a b : AV) : Option Bool :=
  match c, a, b with
  | .bool, .sc (.bool p), .sc (.bool q) => some (p == q)
  | .iface, .sc .nilIface, .sc .nilIface => bif cst then some true else none
  | .iface, .ifc _ _, .sc .nilIface => some false
  | .iface, .sc .nilIface, .ifc _ _ => some false
  | .iface, .ifc t (.sp j), .ifc u (.sp k) => bif E.sent j && E.sent k && Nat.beq t u && ptrOK E t then some (Nat.beq j k) else none
  | .ptr, .sc (.pointer none), .sc (.pointer none) => some true
  | .ptr, p, .sc (.pointer none) => bif isNonNilPtr p then some false else none
  | .slice, .sc (.slice none 0 0), .sc (.slice none 0 0) => some true
  | .slice, p, .sc (.slice none 0 0) => bif isNonNilSlice p then some false else none
  | _, _, _ => none

def xbin (E : Env) (op : BinOp) (c : EqC) (cst : Bool) (a b : AV) : Option AV :=
  match a, b with
  | .sc (.int k p), .sc (.int k' q) =>
    match op with
    | .shl | .shr => (shiftA op k p q).map .sc
    | _ => if k = k' then (binInt op k p q).map .sc else none
  | .sc (.string p), .sc (.string q) =>
    match op with
    | .eql => some (.sc (.bool (p.toList == q.toList)))
    | .neq => some (.sc (.bool (!(p.toList == q.toList))))
    | _ => none
  | a, b => match isEq op, xeq E c cst a b with
    | some true, some r => some (.sc (.bool r))
    | some false, some r => some (.sc (.bool !r))
    | _, _ => none

def xload (E : Env) (n : Option Nat) (p : AV) : Option AV :=
  match n with
  | some n => (rdCells E lb st p n).map .agg
  | none => (rdCells E lb st p 1).bind one
def xpart (n : Option Nat) (cs : List AV) (off : Nat) : Option AV :=
  match n with
  | some n => (cut cs off n).map .agg
  | none => cs[off]?

def xslS (x : AV) (lo hi : Option AV) : Option AV :=
  match x with
  | .sc (.string s) => match bound s.size s.size hi with
    | some h => (bound 0 h lo).map fun l => .sc (.string (s.extract l h))
    | none => none
  | _ => none
def xsl (s : Nat) (e : Nat) (x : AV) (lo hi mx : Option AV) : Option AV :=
  match x, mx with
  | .fs cells n, none => match bound n n hi with
    | some h => match bound 0 h lo with
      | some l => bif Nat.beq cells.length (n * s) then some (.fs ((cells.drop (l * s)).take ((h - l) * s)) (h - l)) else none
      | none => none
    | none => none
  | .sl o off n L, none => match bound n n hi with
    | some h => match bound 0 h lo with
      | some l => bif Nat.ble 1 l && Nat.beq l h then some (.fs [] 0) else bif liveElem st o e then some (.sl o (off + l * s) (h - l) L) else none
      | none => none
    | none => none
  | .sc (.slice none 0 0), mx => match bound 0 0 hi, bound 0 0 lo, bound 0 0 mx with
    | some _, some _, some _ => bif mx.isNone || hi.isSome then some x else none
    | _, _, _ => none
  | .e0, mx => match bound 0 0 hi, bound 0 0 lo, bound 0 0 mx with
    | some _, some _, some _ => bif mx.isNone || hi.isSome then some x else none
    | _, _, _ => none
  | x, some m => match m, hi with
    | .sc (.int _ 0), some (.sc (.int _ 0)) => bif isNonNilSlice x && (match lo with | none => true | some (.sc (.int _ 0)) => true | _ => false) then some .e0 else none
    | _, _ => none
  | _, _ => none

def xiaS (s : Nat) (x i : AV) : Option AV :=
  match sIntOf i with
  | none => none
  | some i => match x with
    | .fs cells n => bif inB i n then bif Nat.ble cells.length (i.toNat * s) then none else some (.fp cells (i.toNat * s)) else none
    | .sl o off n L => bif inB i n then some (.rf o (off + i.toNat * s) L) else none
    | _ => none
def xiaA (n s : Nat) (x i : AV) : Option AV :=
  match sIntOf i with
  | none => none
  | some i => bif inB i n then ptrAdd x (i.toNat * s) else none
def xixA (n s : Nat) (a : Option Nat) (x i : AV) : Option AV :=
  match sIntOf i, x with
  | some i, .agg cs => bif inB i n then xpart a cs (i.toNat * s) else none
  | _, _ => none
def xixS (x i : AV) : Option AV :=
  match sIntOf i, x with
  | some i, .sc (.string s) => match (if 0 ≤ i then s[i.toNat]? else none) with
    | some b => some (.sc (.int .u8 b.toNat))
    | none => none
  | _, _ => none
def xlook (z : AV) (ok : Bool) (x k : AV) : Option AV :=
  match k with
  | .sc (.int kk ki) => match mapGet st x (.int kk ki) with
    | some (some v) => some (if ok then .tup [v, .sc (.bool true)] else v)
    | some none => some (if ok then .tup [z, .sc (.bool false)] else z)
    | none => none
  | _ => none
def xtas (t : Nat) (z : Option AV) (ok : Bool) (x : AV) : Option AV :=
  match x with
  | .sc .nilIface => if ok then z.map fun z => .tup [z, .sc (.bool false)] else none
  | .ifc u v => if u = t then some (if ok then .tup [v, .sc (.bool true)] else v)
    else if ok then z.map fun z => .tup [z, .sc (.bool false)] else none
  | _ => none
def xlenL (x : AV) : Option AV :=
  match x with
  | .sc (.slice none 0 0) => some (.sc (.int .i64 0))
  | .fs _ n => some (.sc (.int .i64 n))
  | .sl _ _ n _ => some (.sc (.int .i64 n))
  | .e0 => some (.sc (.int .i64 0))
  | _ => none
def xlenM (x : AV) : Option AV :=
  match x with
  | .sc (.map none) => some (.sc (.int .i64 0))
  | .mp o => match st[o]? with
    | some (.map es) => some (.sc (.int .i64 es.length))
    | _ => none
  | _ => none
def xsrc (s : Nat) (c : SrcC) (x : AV) : Option (List AV × Nat) :=
  match c, x with
  | .sl, .sc (.slice none 0 0) => some ([], 0)
  | .sl, .e0 => some ([], 0)
  | .sl, .fs cells n => bif Nat.beq cells.length (n * s) then some (cells, n) else none
  | .sl, .sl o off n L => match st[o]? with
    | some (.arr cells _ _) => bif Nat.beq cells.length L then (cut cells off (n * s)).map fun c => (c, n) else none
    | _ => none
  | .str, .sc (.string b) => bif Nat.beq s 1 then some (b.data.toList.map fun x => .sc (.int .u8 x.toNat), b.size) else none
  | _, _ => none

def xq (E : Env) : XQ → Option AV
  | .mv x => xv m x
  | .pick c a b => match xv m c with
    | some (.sc (.bool t)) => bif t then xv m a else xv m b
    | _ => none
  | .build z ps => match xps m ps with
    | some vs => match xfill z vs with
      | some cs => some (.agg cs)
      | none => none
    | none => none
  | .load n x => match xv m x with
    | some p => xload lb st E n p
    | none => none
  | .nilck x => match xl m lb st x with
    | some v => bif isNonNilPtr v then some v else none
    | none => none
  | .bin op c cst x y => match xl m lb st x, xl m lb st y with
    | some a, some b => xbin E op c cst a b
    | _, _ => none
  | .not x => match xv m x with
    | some (.sc (.bool b)) => some (.sc (.bool !b))
    | _ => none
  | .neg x => match xv m x with
    | some (.sc (.int k n)) => some (.sc (.int k (k.wrap (0 - n))))
    | _ => none
  | .conv k x => match xv m x with
    | some (.sc (.int _ n)) => some (.sc (.int k (k.wrap n)))
    | _ => none
  | .str x => match xv m x with
    | some v => match xsrc st 1 .sl v with
      | some (cells, _) => (bytesA cells).map fun l => .sc (.string ⟨l.toArray⟩)
      | none => none
    | none => none
  | .ifc t x => match xv m x with
    | some v => bif v.isLp then none else some (.ifc t v)
    | none => none
  | .fn f a b => match xvs m a, xvs m b with
    | some a, some b => bif a.any AV.isLp || b.any AV.isLp then none else some (.fn f a b)
    | _, _ => none
  | .slS x lo hi => match xl m lb st x, xo m lo, xo m hi with
    | some v, some l, some h => xslS v l h
    | _, _, _ => none
  | .sl s e x lo hi mx => match xl m lb st x, xo m lo, xo m hi, xo m mx with
    | some v, some l, some h, some k => xsl st s e v l h k
    | _, _, _, _ => none
  | .fa off x => match xl m lb st x with
    | some p => ptrAdd p off
    | none => none
  | .fld n off x => match xv m x with
    | some (.agg cs) => xpart n cs off
    | _ => none
  | .iaS s x i => match xl m lb st x, xv m i with
    | some a, some b => xiaS s a b
    | _, _ => none
  | .iaA n s x i => match xl m lb st x, xv m i with
    | some a, some b => xiaA n s a b
    | _, _ => none
  | .ixA n s a x i => match xv m x, xv m i with
    | some u, some v => xixA n s a u v
    | _, _ => none
  | .ixS x i => match xv m x, xv m i with
    | some u, some v => xixS u v
    | _, _ => none
  | .look z ok x i => match xv m x, xv m i with
    | some u, some v => xlook st z ok u v
    | _, _ => none
  | .tas t z ok x => match xv m x with
    | some v => xtas t z ok v
    | none => none
  | .ext x i => match xv m x with
    | some (.tup vs) => vs[i]?
    | _ => none
  | .lenS x => match xl m lb st x with
    | some (.sc (.string s)) => some (.sc (.int .i64 s.size))
    | _ => none
  | .lenL x => match xl m lb st x with
    | some v => xlenL v
    | none => none
  | .lenM x => match xl m lb st x with
    | some v => xlenM st v
    | none => none
  | .mx b xs => match xvs m xs with
    | some vs => maxA b vs
    | none => none

def xnew (d : Nat) (t : Nat) (loc : Bool) (cells : List AV) : AV × Lb × List AObj :=
  bif loc then (.lp d (nextG lb d) 0, lbSet lb d (nextG lb d) cells, st) else (.rf st.length 0 cells.length, lb, st ++ [.arr cells t true])

def xapp (e : Nat) (s b : Nat) (x : AV) (news : List AV) (n : Nat) : Option (AV × List AObj) :=
  bif !news.all AV.isCell then none else
  match x with
  | .sc (.slice none 0 0) => bif Nat.beq n 0 then some (x, st) else
    bif Nat.ble (n * b) roomA then some (.sl st.length 0 n (n * s), st ++ [.arr news e true]) else none
  | .e0 => bif Nat.beq n 0 then some (x, st) else
    bif Nat.ble (n * b) roomA then some (.sl st.length 0 n (n * s), st ++ [.arr news e true]) else none
  | .sl o off m L => match st[o]? with
    | some (.arr cells e' true) =>
      bif Nat.beq cells.length L && Nat.beq e e' then
        bif Nat.ble (off + m * s + n * s) L then
          some (.sl o off (m + n) L, st.set o (.arr (splice cells (off + m * s) news) e' true))
        else bif Nat.beq off 0 && Nat.beq (m * s) L && Nat.ble ((m + n) * b) roomA then
          some (.sl o 0 (m + n) (L + n * s), st.set o (.arr (cells ++ news) e' true))
        else none
      else none
    | _ => none
  | _ => none

def xe (E : Env) : XE → Option (AV × Lb × List AObj)
  | .new d t loc z => some (xnew lb st d t loc z)
  | .box d t loc n x => match xv m x with
    | some v => bif Nat.beq v.cells.length n && v.cells.all AV.isCell then some (xnew lb st d t loc v.cells) else none
    | none => none
  | .bsl lit e z s len ps => match xps m ps with
    | some vs => match xfill (rep z len) vs with
      | some cells => bif lit && isFzL cells then some (.fs cells len, lb, st) else some (.sl st.length 0 len (len * s), lb, st ++ [.arr cells e true])
      | none => none
    | none => none
  | .mks e z s b l c => match xv m l, xv m c with
    | some l, some c => match sIntOf l, sIntOf c with
      | some l, some c => bif decide (0 ≤ l) && decide (l ≤ c) && Nat.ble (c.toNat * b) roomA && decide (c ≤ 9223372036854775807) then
          some (.sl st.length 0 l.toNat (c.toNat * s), lb, st ++ [.arr (rep z c.toNat) e true]) else none
      | _, _ => none
    | _, _ => none
  | .cvs x => match xv m x with
    | some (.sl o off n L) => match st[o]? with
      | some (.arr cells _ true) => bif Nat.beq cells.length L then some (.sl o off n L, lb, st) else none
      | _ => none
    | _ => none
  | .mkm => some (.mp st.length, lb, st ++ [.map []])
  | .sto n a x => match xv m a, xv m x with
    | some p, some v => bif Nat.beq v.cells.length n then match wrCells lb st p v.cells with
        | some (l, s) => some (.sc undef, l, s)
        | none => none
      else none
    | _, _ => none
  | .mset x k v => match xv m x, xv m k, xv m v with
    | some (.mp o), some (.sc (.int kk ki)), some v => match st[o]? with
      | some (.map es) => bif v.isLp then none else match mapPut (.int kk ki) v es with
        | some es => some (.sc undef, lb, st.set o (.map es))
        | none => none
      | _ => none
    | _, _, _ => none
  | .app e s b c x y => match xv m x, xv m y with
    | some x, some y => match xsrc st s c y with
      | some (news, n) => match xapp st e s b x news n with
        | some (v, s') => some (v, lb, s')
        | none => none
      | none => none
    | _, _ => none

def xcall (callf : CallF) (x : XV) (xs : List XV) : Option (AV × List AObj) :=
  match xv m x with
  | some (.fn g first cap) => match xvs m xs with
    | some as => ifB (as.any AV.isLp) none (callf g (first ++ as ++ cap) st) .mk
    | none => none
  | _ => none

/-- what an operation gives -/
def xop (E : Env) (callf : CallF) : XOp → Option (AV × Lb × List AObj)
  | .q x => andThen (xq m lb st E x) (fun v => some (v, lb, st)) .mk
  | .e x => xe m lb st E x
  | .call x xs => andThen (xcall m st callf x xs) (fun y => ifB y.1.isLp none (some (y.1, lb, y.2)) .mk) .mk

/-- is it wanted? -/
def xw : XG → Option Bool
  | .always => some true
  | .never => some false
  | .on t w => match tmGet m t with
    | some (.sc (.bool b)) => some (bif w then b else !b)
    | some (.sc (.tuple _)) => some false
    | _ => none
end

def xput (m : Tm) (d : Option Nat) (v : AV) : Tm :=
  match d with
  | some d => tmSet m d v
  | none => m

/-- what is written last is found first -/
def xcons (m : Tm) (d : Option Nat) (v : AV) : Tm :=
  match d with
  | some d => (d, v) :: m
  | none => m

/-- Operations one behind the other. -/
def xev (E : Env) (callf : CallF) : List XOper → St → Option St
  | [], s => some s
  | o :: r, s => andThen (xw s.tm o.g) (fun w => ifB w
      (andThen (xop s.tm s.lb s.st E callf o.op) (fun y => xev E callf r ⟨xcons s.tm o.dst y.1, y.2.1, y.2.2⟩) .mk)
      (xev E callf r ⟨xcons s.tm o.dst (.sc undef), s.lb, s.st⟩) .mk) .mk

/-- A call that leaves the memory as it is. -/
def xcallV (E : Env) (st : List AObj) (callf : CallF) (m : Tm) (x : XV) (xs : List XV) : Option AV :=
  match xv m x with
  | some (.fn g first cap) => match xvs m xs with
    | some as => ifB (as.any AV.isLp) none (andThen (callf g (first ++ as ++ cap) st) (fun y => ifB (stBeq y.2 st && !y.1.isLp) (some y.1) none .mk) .mk) .mk
    | none => none
  | _ => none
/-- An operation that leaves the memory as it is. -/
def xopS (E : Env) (callf : CallF) (m : Tm) (lb : Lb) (st : List AObj) : XOp → Option AV
  | .q x => xq m lb st E x
  | .call x xs => xcallV E st callf m x xs
  | .e _ => none
/-- Operations in any order that leave the memory as it is. -/
def xevS (E : Env) (callf : CallF) (lb : Lb) (st : List AObj) : List XOper → Tm → Option Tm
  | [], m => some m
  | o :: r, m => andThen (xw m o.g) (fun w => ifB w
      (andThen (xopS E callf m lb st o.op) (fun v => xevS E callf lb st r (xcons m o.dst v)) .mk)
      (xevS E callf lb st r (xcons m o.dst (.sc undef))) .mk) .mk

/-! ### looking the types up -/
section
variable (E : Env)

def cv : Operand → Option XV
  | .tmp t => some (.t t)
  | .const v => bif scal v then some (.k (.sc v)) else none
  | .global g => some (.k (.gl g))
  | .func f => some (.k (.fn f [] []))
def cvs : List Operand → Option (List XV)
  | [] => some []
  | x :: r => match cv x, cvs r with
    | some y, some l => some (y :: l)
    | _, _ => none
def cvo : Option Operand → Option (Option XV)
  | none => some none
  | some x => (cv x).map some
def cps (place : Nat → Option (Nat × Nat)) : List (Nat × Operand) → Option (List (Nat × Nat × XV))
  | [] => some []
  | (i, x) :: r => match place i, cv x, cps place r with
    | some (o, s), some y, some l => some ((o, s, y) :: l)
    | _, _, _ => none
def szT (t : TypeId) : Option (Option Nat) :=
  match isAggT E t, sizeT E t with
  | some true, some n => some (some n)
  | some false, some _ => some none
  | _, _ => none
def eqC (t : TypeId) : EqC :=
  match E.P.underlying t with
  | some .bool => .bool
  | some (.interface _) => .iface
  | some (.pointer _) => .ptr
  | some (.slice _) => .slice
  | _ => .no
def srcC (t : TypeId) : SrcC :=
  match E.P.underlying t with
  | some (.slice _) => .sl
  | some .string => .str
  | _ => .no

def cq (o : Op) : Option XQ :=
  match o with
  | .move x | .assign x => (cv x).map .mv
  | .pick c a b => match cv c, cv a, cv b with
    | some c, some a, some b => some (.pick c a b)
    | _, _, _ => none
  | .build t ps => match zeroA E t, E.P.underlying t with
    | some z, some (.struct fields) => bif fields.toList.all (fun f => (sizeT E f.type).isSome) then (cps (fieldPl E fields) ps.toList).map (.build z.cells) else none
    | some z, some (.array _ e) => match sizeT E e with
      | some s => (cps (fun i => some (i * s, s)) ps.toList).map (.build z.cells)
      | none => none
    | _, _ => none
  | .load t x => match szT E t, cv x with
    | some n, some x => some (.load n x)
    | _, _ => none
  | .nilCheck x => (cv x).map .nilck
  | .binOp op t x y _ => match cv x, cv y with
    | some a, some b => some (.bin op (eqC E t) (constOp x || constOp y) a b)
    | _, _ => none
  | .unOp .not _ x => (cv x).map .not
  | .unOp .neg _ x => (cv x).map .neg
  | .convert s d x => match E.P.underlying s, E.P.underlying d, cv x with
    | some _, some (.int k), some x => some (.conv k x)
    | some (.slice e), some .string, some x => match E.P.underlying e with
      | some (.int .u8) => some (.str x)
      | _ => none
    | _, _, _ => none
  | .makeInterface t x => match E.P.underlying t, cv x with
    | some (.interface _), _ => none
    | some _, some x => some (.ifc t x)
    | _, _ => none
  | .makeFunc (.func f) first captured => match cvs first.toList, cvs captured.toList with
    | some a, some b => some (.fn f a b)
    | _, _ => none
  | .slice t x lo hi mx => match E.P.underlying t, cv x, cvo lo, cvo hi, cvo mx with
    | some .string, some x, some lo, some hi, some none => some (.slS x lo hi)
    | some (.slice e), some x, some lo, some hi, some mx => match sizeT E e with
      | some s => some (.sl s e x lo hi mx)
      | none => none
    | _, _, _, _, _ => none
  | .fieldAddr t x i => match E.P.underlying t, cv x with
    | some (.struct fields), some x => match fields[i]? with
      | some f => match sizeT E f.type with
        | some (_ + 1) => some (.fa f.offset x)
        | _ => none
      | none => none
    | _, _ => none
  | .field t x i => match E.P.underlying t, cv x with
    | some (.struct fields), some x => match fields[i]? with
      | some f => match szT E f.type with
        | some n => some (.fld n f.offset x)
        | none => none
      | none => none
    | _, _ => none
  | .indexAddr t x i => match E.P.underlying t, cv x, cv i with
    | some (.slice e), some x, some i => (sizeT E e).map fun s => .iaS s x i
    | some (.array n e), some x, some i => (sizeT E e).map fun s => .iaA n s x i
    | _, _, _ => none
  | .index t x i => match E.P.underlying t, cv x, cv i with
    | some (.array n e), some x, some i => match sizeT E e, szT E e with
      | some s, some a => some (.ixA n s a x i)
      | _, _ => none
    | some .string, some x, some i => some (.ixS x i)
    | _, _, _ => none
  | .lookup t x i ok => match E.P.underlying t, cv x, cv i with
    | some (.map kt e), some x, some i => match E.P.underlying kt, zeroA E e with
      | some (.int _), some z => some (.look z ok x i)
      | _, _ => none
    | _, _, _ => none
  | .typeAssert x _ t ok => match E.P.underlying t, cv x with
    | some (.interface _), _ => none
    | some _, some x => some (.tas t (zeroA E t) ok x)
    | _, _ => none
  | .extract x i => (cv x).map fun x => .ext x i
  | .call { callee := .builtin .len, args, argTypes } => match args.toList, argTypes.toList with
    | [x], [t] => match E.P.underlying t, cv x with
      | some .string, some x => some (.lenS x)
      | some (.slice _), some x => some (.lenL x)
      | some (.map _ _), some x => some (.lenM x)
      | _, _ => none
    | _, _ => none
  | .call { callee := .builtin .max, args, .. } => (cvs args.toList).map (.mx true)
  | .call { callee := .builtin .min, args, .. } => (cvs args.toList).map (.mx false)
  | _ => none

def ce (f : FuncId) (dst : Option Tmp) (o : Op) : Option XE :=
  match o with
  | .alloc t => match zeroA E t, sizeT E t, dst with
    | some z, some n, some d => bif Nat.beq z.cells.length n then some (.new d t (memN (E.loc f) d) z.cells) else none
    | _, _, _ => none
  | .box t x => match sizeT E t, cv x, dst with
    | some n, some x, some d => some (.box d t (memN (E.loc f) d) n x)
    | _, _, _ => none
  | .buildSlice t len ps => match elemA E t with
    | some (e, z, s, _) => bif Nat.ble (len * s) 16777216 then (cps (fun i => some (i * s, s)) ps.toList).map (.bsl (match dst with | some d => memN (E.lit f) d | none => false) e z s len) else none
    | none => none
  | .makeSlice t l c => match elemA E t, cv l, cv c with
    | some (e, z, s, b), some l, some c => some (.mks e z s b l c)
    | _, _, _ => none
  | .convert s d x => match E.P.underlying s, E.P.underlying d, cv x with
    | some (.slice e), some (.slice _), some x => match E.P.underlying e with
      | some (.int .u8) => bif Nat.beq s d then some (.cvs x) else none
      | _ => none
    | _, _, _ => none
  | .makeMap _ none => some .mkm
  | .store t a x => match sizeT E t, cv a, cv x with
    | some n, some a, some x => some (.sto n a x)
    | _, _, _ => none
  | .mapUpdate t x k v | .insert t x k v => match E.P.underlying t, cv x, cv k, cv v with
    | some (.map kt _), some x, some k, some v => match E.P.underlying kt with
      | some (.int _) => some (.mset x k v)
      | _ => none
    | _, _, _, _ => none
  | .call { callee := .builtin .append, args, argTypes } => match args.toList, argTypes.toList with
    | [x, y], [t, xt] => match elemA E t, cv x, cv y with
      | some (e, _, s, b), some x, some y => some (.app e s b (srcC E xt) x y)
      | _, _, _ => none
    | _, _ => none
  | _ => none

def cc (o : Op) : Option (XV × List XV) :=
  match o with
  | .call { callee := .value x, args, .. } => match cv x, cvs args.toList with
    | some x, some xs => some (x, xs)
    | _, _ => none
  | _ => none

def cop (f : FuncId) (dst : Option Tmp) (o : Op) : Option XOp :=
  match cq E o with
  | some x => some (.q x)
  | none => match ce E f dst o with
    | some x => some (.e x)
    | none => match cc o with
      | some (x, xs) => some (.call x xs)
      | none => none

def cg (ops : List Oper) : Option (Nat × Bool) → XG
  | none => .always
  | some (j, w) => match ops[j]? with
    | some { dst := some d, .. } => .on d w
    | _ => .never

def coper (f N : Nat) (ops : List Oper) (o : Oper) : Option XOper :=
  match (match o.dst with | some d => Nat.blt d N | none => true), cop E f o.dst o.op with
  | true, some x => some ⟨o.dst, cg ops o.guard, x⟩
  | _, _ => none

def cops (f N : Nat) (ops : List Oper) : List Oper → Option (List XOper)
  | [] => some []
  | o :: r => match coper E f N ops o, cops f N ops r with
    | some x, some l => some (x :: l)
    | _, _ => none

/-- May its operations be met in any order, as long as memory stays? -/
def mayEff : XOp → Bool
  | .q _ => false
  | _ => true
def pairsOK (b : List Nat) : List Nat → Bool
  | [] => true
  | i :: r => r.all (forced b i) && pairsOK b r
def effPl : Nat → List XOper → List Nat
  | _, [] => []
  | i, o :: r => bif mayEff o.op then i :: effPl (i + 1) r else effPl (i + 1) r
def noE (o : XOper) : Bool :=
  match o.op with
  | .e _ => false
  | _ => true
def drawOK (f : FuncId) (ops : List Oper) (xs : List XOper) : Bool :=
  xs.all noE && edgesOK 0 ops && slotsOK ops (bef ops []) && pairsOK (bef ops []) (effPl 0 xs) && ops.all fun o => (locAlloc E f o).isNone
end
end Go.Proofs.YtcfaajaccbadbaaDoor.Ahm
