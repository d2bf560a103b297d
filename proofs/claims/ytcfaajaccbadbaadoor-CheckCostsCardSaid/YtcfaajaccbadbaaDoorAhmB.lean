/- The abstract machine, second part: what is frozen, regions, code, calls. Definitions alone. -/
import Derived.Test.YtcfaajaccbadbaaDoorAhmA
set_option linter.unusedSimpArgs false
set_option linter.unusedVariables false
namespace Go.Proofs.YtcfaajaccbadbaaDoor.Ahm
open Go

def mapO (f : AV → Option AV) : List AV → Option (List AV)
  | [] => some []
  | v :: r => match f v with
    | none => none
    | some u => match mapO f r with
      | none => none
      | some us => some (u :: us)

mutual
/-- No memory at all behind it. -/
def flat : AV → Bool
  | .sc _ | .sp _ | .gl _ => true
  | .ifc _ v => flat v
  | .agg cs => flatL cs
  | .tup vs => flatL vs
  | _ => false
def flatL : List AV → Bool
  | [] => true
  | v :: r => flat v && flatL r
end

mutual
def vbeq : Value → Value → Bool
  | .bool a, .bool b => a == b
  | .int k a, .int l b => decide (k = l) && decide (a = b)
  | .string a, .string b => decide (a = b)
  | .nilFunc, .nilFunc => true
  | .nilIface, .nilIface => true
  | .pointer a, .pointer b => decide (a = b)
  | .slice a n m, .slice b n' m' => decide (a = b) && Nat.beq n n' && Nat.beq m m'
  | .map a, .map b => decide (a = b)
  | .tuple ⟨a⟩, .tuple ⟨b⟩ => vbeqL a b
  | .float k a, .float l b => decide (k = l) && Nat.beq a b
  | .complex k a b, .complex l c d => decide (k = l) && Nat.beq a c && Nat.beq b d
  | .chan a, .chan b => decide (a = b)
  | .func f ⟨a⟩ ⟨b⟩, .func g ⟨c⟩ ⟨d⟩ => decide (f = g) && vbeqL a c && vbeqL b d
  | .iface t v, .iface u w => Nat.beq t u && vbeq v w
  | .agg ⟨a⟩, .agg ⟨b⟩ => vbeqL a b
  | _, _ => false
def vbeqL : List Value → List Value → Bool
  | [], [] => true
  | a :: r, b :: s => vbeq a b && vbeqL r s
  | _, _ => false
end
mutual
def AV.beq : AV → AV → Bool
  | .sc v, .sc u => vbeq v u
  | .sp j, .sp k => Nat.beq j k
  | .gl j, .gl k => Nat.beq j k
  | .fs c n, .fs d m => AV.beqL c d && Nat.beq n m
  | .fp c n, .fp d m => AV.beqL c d && Nat.beq n m
  | .sl a b c d, .sl e f g h => Nat.beq a e && Nat.beq b f && Nat.beq c g && Nat.beq d h
  | .rf a b c, .rf e f g => Nat.beq a e && Nat.beq b f && Nat.beq c g
  | .lp a b c, .lp e f g => Nat.beq a e && Nat.beq b f && Nat.beq c g
  | .e0, .e0 => true
  | .ifc t v, .ifc u w => Nat.beq t u && AV.beq v w
  | .agg c, .agg d => AV.beqL c d
  | .tup c, .tup d => AV.beqL c d
  | .fn f a b, .fn g c d => Nat.beq f g && AV.beqL a c && AV.beqL b d
  | .mp a, .mp b => Nat.beq a b
  | _, _ => false
def AV.beqL : List AV → List AV → Bool
  | [], [] => true
  | a :: r, b :: s => AV.beq a b && AV.beqL r s
  | _, _ => false
end
def enBeq : List (Value × AV) → List (Value × AV) → Bool
  | [], [] => true
  | (k, v) :: r, (l, w) :: s => vbeq k l && AV.beq v w && enBeq r s
  | _, _ => false
def obBeq : AObj → AObj → Bool
  | .arr c e w, .arr d f x => AV.beqL c d && Nat.beq e f && (w == x)
  | .map a, .map b => enBeq a b
  | _, _ => false
def stBeq : List AObj → List AObj → Bool
  | [], [] => true
  | a :: r, b :: s => obBeq a b && stBeq r s
  | _, _ => false
def lbBeq : Lb → Lb → Bool
  | [], [] => true
  | (k, g, c) :: r, (l, h, d) :: s => Nat.beq k l && Nat.beq g h && AV.beqL c d && lbBeq r s
  | _, _ => false

section
variable (E : Env)

/-- A value as frozen. -/
def res (st : List AObj) : Nat → AV → Option AV
  | 0, _ => none
  | n + 1, v => match v with
    | .sl o off k L => match st[o]? with
      | some (.arr cells e _) => match sizeT E e with
        | some s => bif Nat.beq cells.length L then
            match cut cells off (k * s) with
            | some c => (mapO (res st n) c).map fun u => .fs u k
            | none => none
          else none
        | none => none
      | _ => none
    | .rf o off L => match st[o]? with
      | some (.arr cells _ _) => bif Nat.beq cells.length L then (mapO (res st n) cells).map fun u => .fp u off else none
      | _ => none
    | .ifc t v => (res st n v).map (.ifc t)
    | .agg cs => (mapO (res st n) cs).map .agg
    | .tup vs => (mapO (res st n) vs).map .tup
    | .fn f a b => match mapO (res st n) a, mapO (res st n) b with
      | some a, some b => some (.fn f a b)
      | _, _ => none
    | .mp _ | .lp .. => none
    | v => some v

def depthA : Nat := 12

def foldA (f : List AObj → AV → List AObj) : List AObj → List AV → List AObj
  | st, [] => st
  | st, v :: r => foldA f (f st v) r

/-- All that a value leads to is written no more. -/
def frz : Nat → List AObj → AV → List AObj
  | 0, st, _ => st
  | n + 1, st, v => match v with
    | .sl o _ _ _ | .rf o _ _ => match st[o]? with
      | some (.arr cells e true) => foldA (frz n) (st.set o (.arr cells e false)) cells
      | some (.arr cells _ false) => foldA (frz n) st cells
      | _ => st
    | .ifc _ v => frz n st v
    | .agg cs => foldA (frz n) st cs
    | .tup vs => foldA (frz n) st vs
    | .fn _ a b => foldA (frz n) (foldA (frz n) st a) b
    | _ => st

/-- a value frozen whose memory nobody writes any more -/
def resOff (st : List AObj) : Nat → AV → Bool
  | 0, _ => false
  | n + 1, v => match v with
    | .sl o _ _ _ | .rf o _ _ => match st[o]? with
      | some (.arr cells _ false) => cells.all (resOff st n)
      | _ => false
    | .ifc _ v => resOff st n v
    | .agg cs => cs.all (resOff st n)
    | .tup vs => vs.all (resOff st n)
    | .fn _ a b => a.all (resOff st n) && b.all (resOff st n)
    | .mp _ | .lp .. => false
    | _ => true

inductive AX where
  | norm
  | exit (id : Nat)
  | ret
  deriving Inhabited

def yieldA (ops : List Oper) (m : Tm) (j : Nat) : Option (Option Bool) :=
  match ops[j]? with
  | some { dst := some d, .. } => match tmGet m d with
    | some (.sc (.bool b)) => some (some b)
    | some (.sc (.tuple _)) => some none
    | _ => none
  | _ => some none

def wantedA (ops : List Oper) (m : Tm) (o : Oper) : Option Bool :=
  match o.guard with
  | none => some true
  | some (j, want) => match yieldA ops m j with
    | none => none
    | some r => some (r == some want)

def putA (N : Nat) (m : Tm) (dst : Option Tmp) (v : AV) : Option Tm :=
  match dst with
  | none => some m
  | some d => bif Nat.blt d N then some (tmSet m d v) else none

abbrev CallF := FuncId → List AV → List AObj → Option (AV × List AObj)

def callA (callf : CallF) (m : Tm) (st : List AObj) (o : Oper) : Option (AV × List AObj) :=
  match o.op with
  | .call { callee := .value x, args, .. } => match opv m x, opvs m args.toList with
    | some (.fn g first cap), some as => bif as.any AV.isLp then none else callf g (first ++ as ++ cap) st
    | _, _ => none
  | _ => none

/-- An operation that runs: its value, the memory, and whether it is one that may change memory. -/
def runOp (callf : CallF) (f : FuncId) (m : Tm) (lb : Lb) (st : List AObj) (o : Oper) : Option (AV × Lb × List AObj × Bool) :=
  match quiet E m lb st o with
  | some v => some (v, lb, st, false)
  | none => match effect E f m lb st o with
    | some (v, lb, st) => some (v, lb, st, true)
    | none => match callA callf m st o with
      | some (v, st) => bif v.isLp then none else some (v, lb, st, true)
      | none => none

/-- Operations one behind the other. -/
def evOps (callf : CallF) (f N : Nat) (ops : List Oper) : List Oper → St → Option St
  | [], s => some s
  | o :: r, s => match wantedA ops s.tm o with
    | none => none
    | some false => match putA N s.tm o.dst (.sc undef) with
      | none => none
      | some m => evOps callf f N ops r { s with tm := m }
    | some true => match runOp E callf f s.tm s.lb s.st o with
      | none => none
      | some (v, lb, st, _) => match putA N s.tm o.dst v with
        | none => none
        | some m => evOps callf f N ops r { tm := m, lb, st }

/-! ### a region that draws its order -/

/-- What is known of an operation that has run: whether it was wanted, whether it may have changed memory, its value. -/
structure Rec where
  ran : Bool
  eff : Bool
  v : AV
  m : Tm

/-- The same where a region's own local variables have been laid ahead. -/
def locAlloc (f : FuncId) (o : Oper) : Option (TypeId × Nat) :=
  match o.op, o.dst with
  | .alloc t, some d => bif memN (E.loc f) d then some (t, d) else none
  | _, _ => none
def runOpD (callf : CallF) (f : FuncId) (m : Tm) (lb : Lb) (st : List AObj) (o : Oper) : Option (AV × Lb × List AObj × Bool) :=
  match locAlloc E f o with
  | some (_, d) => some (.lp d 0 0, lb, st, false)
  | none => runOp E callf f m lb st o

def evRecs (callf : CallF) (f N : Nat) (ops : List Oper) : List Oper → St → Option (List Rec × List (Lb × List AObj) × St)
  | [], s => some ([], [], s)
  | o :: r, s => match wantedA ops s.tm o with
    | none => none
    | some false => match putA N s.tm o.dst (.sc undef) with
      | none => none
      | some m => match evRecs callf f N ops r { s with tm := m } with
        | some (rs, hs, s') => some (⟨false, false, .sc undef, s.tm⟩ :: rs, hs, s')
        | none => none
    | some true => match runOpD E callf f s.tm s.lb s.st o with
      | none => none
      | some (v, lb, st, e) => match putA N s.tm o.dst v with
        | none => none
        | some m => match evRecs callf f N ops r { tm := m, lb, st } with
          | some (rs, hs, s') => some (⟨true, e, v, s.tm⟩ :: rs, (bif e then (lb, st) :: hs else hs), s')
          | none => none

/-- of each operation: those that come ahead of it in every order, as bits -/
def bef : List Oper → List Nat → List Nat
  | [], acc => acc
  | o :: r, acc => bef r (acc ++ [o.after.toList.foldl (fun s e => bif Region.binds .any e && Nat.blt e.on acc.length then Nat.lor (Nat.lor s (2 ^ e.on)) (acc.getD e.on 0) else s) 0])
def forced (b : List Nat) (i j : Nat) : Bool := Nat.testBit (b.getD j 0) i

def readsOf (ops : List Oper) (o : Oper) : List Nat :=
  (o.op.operands.toList.filterMap fun | .tmp t => some t | _ => none) ++
  (match o.guard with
   | some (g, _) => ((ops[g]?).bind (·.dst)).toList
   | none => [])

/-- every two operations of which one writes what the other reads or writes stand in one order -/
def slotsOK (ops : List Oper) (b : List Nat) : Bool :=
  (List.range ops.length).all fun i => (List.range ops.length).all fun j =>
    Nat.beq i j || match ops[i]?, ops[j]? with
      | some x, some y => match x.dst with
        | none => true
        | some d => !(y.dst == some d) && (!(memN (readsOf ops y) d) || (if i < j then forced b i j else forced b j i))
      | _, _ => true

/-- the places of the operations that may change memory -/
def effsOf : Nat → List Rec → List Nat
  | _, [] => []
  | i, r :: rs => bif r.eff then i :: effsOf (i + 1) rs else effsOf (i + 1) rs

def chainOK (b : List Nat) : List Nat → Bool
  | i :: j :: r => forced b i j && chainOK b (j :: r)
  | _ => true

/-- how many effects stand ahead of q in every order; and how many may -/
def lowOf (b : List Nat) (es : List Nat) (q : Nat) : Nat := (es.filter fun i => forced b i q).length
def highOf (b : List Nat) (es : List Nat) (q : Nat) : Nat := (es.filter fun i => !forced b q i).length

/-- Does what it reads lie in temporaries alone? -/
def heapFree (o : Oper) : Bool :=
  match o.op with
  | .move _ | .assign _ | .pick .. | .build .. | .field .. | .index .. | .extract .. | .unOp .. | .makeInterface .. | .makeFunc .. | .typeAssert .. => true
  | _ => false

/-- A quiet operation gives its value at each memory at which it may be met. -/
def holdsAt (m : Tm) (o : Oper) (v : AV) : List (Lb × List AObj) → Bool
  | [] => true
  | (lb, st) :: r => (match quiet E m lb st o with | some u => AV.beq u v | none => false) && holdsAt m o v r

/-- A local variable that has been laid ahead is as it was laid. -/
def bornAt (d : Nat) (cells : List AV) : List (Lb × List AObj) → Bool
  | [] => true
  | (lb, _) :: r => (match lbGet lb d with | some (g, cs) => Nat.beq g 0 && AV.beqL cs cells | none => false) && bornAt d cells r

def stageOK (f : FuncId) (m : Tm) (o : Oper) (v : AV) (win : List (Lb × List AObj)) : Bool :=
  match locAlloc E f o with
  | some (t, d) => match zeroA E t, sizeT E t with
    | some z, some n => Nat.beq z.cells.length n && bornAt d z.cells win
    | _, _ => false
  | none => heapFree o || holdsAt E m o v win

def checkQ (f : FuncId) (b es : List Nat) (H : List (Lb × List AObj)) : Nat → List Oper → List Rec → Bool
  | i, o :: os, r :: rs => (!r.ran || r.eff || stageOK E f r.m o r.v ((H.drop (lowOf b es i)).take (highOf b es i + 1 - lowOf b es i))) && checkQ f b es H (i + 1) os rs
  | _, _, _ => true

/-- Edges go back. -/
def edgesOK : Nat → List Oper → Bool
  | _, [] => true
  | i, o :: r => o.after.toList.all (fun e => !Region.binds .any e || Nat.blt e.on i) && edgesOK (i + 1) r

def isPrim (g : FuncId) : Bool :=
  match E.prim g with
  | some _ => true
  | none => false

/-- Does nothing change? -/
def calm (f : FuncId) (lb : Lb) (st : List AObj) (ops : List Oper) (hs : List (Lb × List AObj)) : Bool :=
  ops.all (fun o => (locAlloc E f o).isNone) && hs.all fun x => lbBeq x.1 lb && stBeq x.2 st

/-- Local variables that a region makes: laid ahead of it, as zeros. -/
def layLoc (f : FuncId) (m : Tm) : List Oper → Lb → Option Lb
  | [], lb => some lb
  | o :: r, lb => match locAlloc E f o with
    | some (t, d) => match zeroA E t with
      | some z => bif tmMentions d m then none else layLoc f m r (lbSet lb d 0 z.cells)
      | none => none
    | none => layLoc f m r lb

def evDraw (callf : CallF) (f N : Nat) (ops : List Oper) (s : St) : Option St :=
  match layLoc E f s.tm ops s.lb with
  | none => none
  | some lb => match evRecs E callf f N ops ops { s with lb := lb } with
    | none => none
    | some (rs, hs, s') =>
      let b := bef ops []
      let es := effsOf 0 rs
      bif edgesOK 0 ops && slotsOK ops b && chainOK b es && (checkQ E f b es ((lb, s.st) :: hs) 0 ops rs || calm E f lb s.st ops hs) then some s' else none

def trim (f id : Nat) (s : St) : St :=
  let m := tmKeep (E.live f id) s.tm
  { tm := m, lb := lbKeep m s.lb, st := s.st }

def ev (callf : CallF) (f N : Nat) : Nat → Code → St → Option (AX × St)
  | 0, _, _ => none
  | n + 1, c, s => match c with
    | .skip | .label _ => some (.norm, s)
    | .region id ops d => match (bif d then evDraw E callf f N ops.toList s else evOps E callf f N ops.toList ops.toList s) with
      | some s => some (.norm, trim E f id s)
      | none => none
    | .seq a b => match ev callf f N n a s with
      | some (.norm, s) => ev callf f N n b s
      | r => r
    | .cond c a b => match opv s.tm c with
      | some (.sc (.bool t)) => ev callf f N n (bif t then a else b) s
      | _ => none
    | .block id c => match ev callf f N n c s with
      | some (.exit id', s) => bif Nat.beq id' id then some (.norm, s) else some (.exit id', s)
      | r => r
    | .loop c => match ev callf f N n c s with
      | some (.norm, s) => ev callf f N n (.loop c) s
      | r => r
    | .scope c => ev callf f N n c s
    | .exit id => some (.exit id, s)
    | .ret => some (.ret, s)
    | _ => none

def resultA (lb : Lb) (st : List AObj) (m : Tm) : List ResultVar → Option (List AV)
  | [] => some []
  | .tmp t :: r => match tmGet m t, resultA lb st m r with
    | some v, some vs => bif v.isLp then none else some (v :: vs)
    | _, _ => none
  | .cell a t :: r => match (tmGet m a).bind (loadA E lb st t), resultA lb st m r with
    | some v, some vs => bif v.isLp then none else some (v :: vs)
    | _, _ => none

def packA : List AV → AV
  | [v] => v
  | vs => .tup vs

def number : Nat → List AV → Tm
  | _, [] => []
  | i, v :: r => (i, v) :: number (i + 1) r

/-- a function's body -/
def body (callf : CallF) (k : Nat) (g : FuncId) (args : List AV) (st : List AObj) : Option (AV × List AObj) :=
  match E.P.funcs[g]? with
  | some fn => match fn.body with
    | some c => bif fn.name == "runtime.NumGoroutine" || args.any AV.isLp || !Nat.ble args.length fn.ntmps then none else
      match ev E callf g fn.ntmps k c { tm := number 0 args, lb := [], st } with
      | some (.norm, s) | some (.ret, s) => match resultA E s.lb s.st s.tm fn.results.toList with
        | some vs => some (packA vs, s.st)
        | none => none
      | _ => none
    | none => none
  | none => none

/-- a call whose arguments are handed over frozen -/
def pureCall (g : FuncId) (run : List AV → Option AV) (args : List AV) (st : List AObj) : Option (AV × List AObj) :=
  match mapO (res E st depthA) args with
  | none => none
  | some as => match run as with
    | none => none
    | some r => bif flat r then some (r, st) else
      let st' := foldA (frz depthA) st args
      bif args.all (resOff st' depthA) then some (r, st') else none

/-- what a body answers when it is called alone -/
def alone (callf : CallF) (k : Nat) (g : FuncId) (as : List AV) : Option AV :=
  match body E callf k g as [] with
  | some (v, st) => res E st depthA v
  | none => none

def call (k : Nat) : Nat → CallF
  | 0, _, _, _ => none
  | n + 1, g, args, st => match E.prim g with
    | some p => pureCall E g p args st
    | none => bif E.pure g then pureCall E g (alone E (call k n) k g) args st else body E (call k n) k g args st

end

/-- Tables. -/
inductive NT (α : Type) where
  | nil
  | node (k : Nat) (v : α) (l r : NT α)
def NT.find {α : Type} : NT α → Nat → Option α
  | .nil, _ => none
  | .node k v l r, x => bif Nat.beq x k then some v else bif Nat.blt x k then l.find x else r.find x

def mkEnv (P : Program) (live : NT (NT (List Nat))) (loc lit : NT (List Nat)) (pure : NT Bool) (glob : NT AV) (prim : FuncId → Option (List AV → Option AV)) (tok : Nat → Value) (prot : Nat → Obj → Prop) (sent : Nat → Bool) : Env :=
  { P
    live := fun f r => match live.find f with | some t => (t.find r).getD [] | none => []
    loc := fun f => (loc.find f).getD []
    lit := fun f => (lit.find f).getD []
    pure := fun f => (pure.find f).isSome
    prim
    glob := fun g => glob.find g
    tok
    prot
    sent }
end Go.Proofs.YtcfaajaccbadbaaDoor.Ahm
