/- Errors as the laws see them. -/
import Derived.Test.YtcfaajaccbadbaaDoorBase
set_option linter.unusedVariables false
set_option linter.unusedSimpArgs false
namespace Go.Proofs.YtcfaajaccbadbaaDoor
open Go Ahm
variable {tok : Nat → Value} {prot : Nat → Obj → Prop}

/-- none, one that is bare, or one around a place -/
inductive Fl where
  | ok
  | bare (e : Er)
  | at (k : Int) (e : Er)
def flA : Fl → AV
  | .ok => .sc .nilIface
  | .bare e => .ifc 153 (.sp (erG e))
  | .at k e => .ifc 91 (.fp [I k, .ifc 153 (.sp (erG e))] 0)
def erI : Er → Int
  | .shape => 101 | .range => 102 | .kind => 103 | .many => 104 | .fin => 105 | .room => 106 | .none => 107 | .als => 108 | .cost => 109 | .jump => 110 | .cycle => 111 | .fuel => 112 | .full => 113 | .quota => 114
  | .cap => 115 | .stale => 116 | .tag => 117 | .old => 118 | .tenant => 119 | .word => 120 | .number => 121
/-- the same as the reference says it -/
def flC : Fl → Int
  | .ok => 0
  | .bare e => erI e
  | .at _ e => erI e
def flB : Fl → Bool
  | .at _ _ => true
  | _ => false
def flK : Fl → Int
  | .at k _ => k
  | _ => 0
abbrev ft (c : Int) (b : Bool) (k : Int) : AV := .agg [I c, B b, I k]
def flF (x : Fl) : AV := ft (flC x) (flB x) (flK x)

theorem res_fl (x : Fl) (E : Env) (st : List AObj) (n : Nat) : res E st (n + 5) (flA x) = some (flA x) := by cases x <;> rfl
theorem lp_fl (x : Fl) : AV.isLp (flA x) = false := by cases x <;> rfl
theorem live_fl (x : Fl) (lb : Lb) (st : List AObj) : liveA lb st (flA x) = true := by cases x <;> rfl
theorem slot_fl (x : Fl) (k : Nat) : AV.isSlot k (flA x) = false := by cases x <;> rfl
theorem cells_fl (x : Fl) : AV.cells (flA x) = [flA x] := by cases x <;> rfl
theorem cell_fl (x : Fl) : AV.isCell (flA x) = true := by cases x <;> rfl
def Fl.isOk : Fl → Bool
  | .ok => true
  | _ => false
theorem eql_fl (x : Fl) {E : Env} : xbin E .eql .iface true (flA x) (.sc .nilIface) = some (.sc (.bool x.isOk)) := by cases x <;> rfl
theorem neq_fl (x : Fl) {E : Env} : xbin E .neq .iface true (flA x) (.sc .nilIface) = some (.sc (.bool !x.isOk)) := by cases x <;> rfl
theorem flat_at (k : Int) (e : Er) : flat (flA (.at k e)) = false := rfl
theorem frz_er (e : Option Er) (st : List AObj) : frz 12 st (erA e) = st := by cases e <;> rfl
theorem off_er (e : Option Er) (st : List AObj) : resOff st 12 (erA e) = true := by cases e <;> rfl
theorem frz_fl (x : Fl) (st : List AObj) : frz 12 st (flA x) = st := by cases x <;> rfl
theorem off_fl (x : Fl) (st : List AObj) : resOff st 12 (flA x) = true := by cases x <;> rfl
theorem flat_ok : flat (flA .ok) = true := rfl
theorem flat_bare (e : Er) : flat (flA (.bare e)) = true := rfl
attribute [go_sem] flat_at flat_ok flat_bare frz_er off_er frz_fl off_fl
attribute [go_sem] res_fl lp_fl live_fl slot_fl cells_fl cell_fl eql_fl neq_fl

theorem sentinel_ans (e : Er) : ansL (EE tok prot) 48 [.ifc 153 (.sp (erG e))] = some (I (erI e)) := by
  cases e <;> exact ansL_run rfl 60 (by kernel_rfl)
theorem none_ans : ansL (EE tok prot) 30 [] = some (ft 0 false 0) := ansL_run rfl 20 (by kernel_rfl)
theorem bare_ans (c : Int) : ansL (EE tok prot) 40 [I c] = some (ft c false 0) := by
  refine ansL_of (g := 40) rfl xc40 rfl rfl ?_
  unfold x40
  simp -dsimp -implicitDefEqProofs only [go_sem, Nat.reduceEqDiff, Nat.reduceAdd, Nat.reduceMul, Nat.reduceLeDiff, Nat.reduceSub, Nat.reducePow, Nat.reduceDiv, Nat.reduceMod, Int.reduceAdd, Int.reduceLT, Int.reduceLE, Int.reduceToNat, Int.reduceNeg, Int.reduceEq]
theorem placed_ans (c k : Int) : ansL (EE tok prot) 12 [I c, I k] = some (if c = 0 then ft 0 false 0 else ft c true k) := by
  refine ansL_of (g := 12) rfl xc12 rfl rfl ?_
  unfold x12
  repeat' (first | refine br_intro (fun hh => ?_) fun hh => ?_ | simp -dsimp -implicitDefEqProofs only [go_sem, Nat.reduceEqDiff, Nat.reduceAdd, Nat.reduceMul, Nat.reduceLeDiff, Nat.reduceSub, Nat.reducePow, Nat.reduceDiv, Nat.reduceMod, Int.reduceAdd, Int.reduceLT, Int.reduceLE, Int.reduceToNat, Int.reduceNeg, Int.reduceEq, *, none_ans])
  all_goals simp_all
theorem erI_pos (e : Er) : erI e ≠ 0 := by cases e <;> decide
theorem fault_ans (x : Fl) : ansL (EE tok prot) 29 [flA x] = some (flF x) := by
  cases x with
  | ok => exact ansL_run rfl 20 (by kernel_rfl)
  | bare e => cases e <;> exact ansL_run rfl 80 (by kernel_rfl)
  | «at» k e =>
    have hs := sentinel_ans (tok := tok) (prot := prot) e
    have hb := placed_ans (tok := tok) (prot := prot) (erI e) k
    rw [if_neg (erI_pos e)] at hb
    refine ansL_of (g := 29) rfl xc29 rfl rfl ?_
    unfold x29
    have ht : xtas 91 (some (.sc (.pointer none))) true (.ifc 91 (.fp [I k, .ifc 153 (.sp (erG e))] 0)) = some (.tup [.fp [I k, .ifc 153 (.sp (erG e))] 0, B true]) := rfl
    have hp0 : xbin (EE tok prot) .eql .ptr true (.fp [I k, .ifc 153 (.sp (erG e))] 0) (.sc (.pointer none)) = some (B false) := rfl
    have hp1 : xbin (EE tok prot) .eql .iface true (.ifc 153 (.sp (erG e))) (.sc .nilIface) = some (B false) := rfl
    simp -dsimp -implicitDefEqProofs only [go_sem, Nat.reduceEqDiff, Nat.reduceAdd, Nat.reduceMul, Nat.reduceLeDiff, Nat.reduceSub, Nat.reducePow, Nat.reduceDiv, Nat.reduceMod, Int.reduceAdd, Int.reduceLT, Int.reduceLE, Int.reduceToNat, Int.reduceNeg, Int.reduceEq, flA, hs, hb, ht, hp0, hp1]
    rfl
theorem sameft_ans (c d : Int) (b b' : Bool) (k k' : Int) : ansL (EE tok prot) 28 [ft c b k, ft d b' k'] = some (B (decide (c = d) && (b == b') && decide (k = k'))) := by
  refine ansL_of (g := 28) rfl xc28 rfl rfl ?_
  unfold x28
  cases b <;> cases b' <;> repeat' (first | refine br_intro (fun hh => ?_) fun hh => ?_ | simp -dsimp -implicitDefEqProofs only [go_sem, Nat.reduceEqDiff, Nat.reduceAdd, Nat.reduceMul, Nat.reduceLeDiff, Nat.reduceSub, Nat.reducePow, Nat.reduceDiv, Nat.reduceMod, Int.reduceAdd, Int.reduceLT, Int.reduceLE, Int.reduceToNat, Int.reduceNeg, Int.reduceEq, *])
  all_goals simp_all
theorem samef_ans (x : Fl) (d : Int) (b' : Bool) (k' : Int) : ansL (EE tok prot) 11 [flA x, ft d b' k'] = some (B (decide (flC x = d) && (flB x == b') && decide (flK x = k'))) := by
  have h1 := fault_ans (tok := tok) (prot := prot) x
  unfold flF at h1
  refine ansL_of (g := 11) rfl xc11 (by simp [lp_fl]; rfl) rfl ?_
  unfold x11
  simp -dsimp -implicitDefEqProofs only [go_sem, Nat.reduceEqDiff, Nat.reduceAdd, Nat.reduceMul, Nat.reduceLeDiff, Nat.reduceSub, Nat.reducePow, Nat.reduceDiv, Nat.reduceMod, Int.reduceAdd, Int.reduceLT, Int.reduceLE, Int.reduceToNat, Int.reduceNeg, Int.reduceEq, h1, sameft_ans]
theorem is_ans (x : Fl) (d : Int) : ansL (EE tok prot) 24 [flA x, I d] = some (B (decide (flC x = d) && (flB x == false) && decide (flK x = 0))) := by
  refine ansL_of (g := 24) rfl xc24 (by simp [lp_fl]; rfl) rfl ?_
  unfold x24
  simp -dsimp -implicitDefEqProofs only [go_sem, Nat.reduceEqDiff, Nat.reduceAdd, Nat.reduceMul, Nat.reduceLeDiff, Nat.reduceSub, Nat.reducePow, Nat.reduceDiv, Nat.reduceMod, Int.reduceAdd, Int.reduceLT, Int.reduceLE, Int.reduceToNat, Int.reduceNeg, Int.reduceEq, bare_ans, samef_ans]
theorem erA_fl (e : Option Er) : erA e = flA (match e with | .none => .ok | .some x => .bare x) := by cases e <;> rfl
theorem around_ans (k : Int) (e : Er) : ansL (EE tok prot) 36 [I k, erA (some e)] = some (flA (.at k e)) := by
  cases e <;> rfl
end Go.Proofs.YtcfaajaccbadbaaDoor
