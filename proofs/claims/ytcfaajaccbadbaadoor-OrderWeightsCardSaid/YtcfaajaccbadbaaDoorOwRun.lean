/- dev -/
import Derived.Test.YtcfaajaccbadbaaDoorLaid
set_option linter.unusedVariables false
namespace Go.Proofs.YtcfaajaccbadbaaDoor
open Go Ahm

def num (x m : Int) : Int := (IntKind.wrap .i64 (x.tmod m + m)).tmod m

section
variable {prim : FuncId → Option (List AV → Option AV)} {tok : Nat → Value} {prot : Nat → Obj → Prop}
theorem number8 (x : Int) : alone (envOf (fun _ => none) tok prot) (call (envOf (fun _ => none) tok prot) 20 2) 20 9 [.sc (.int .i64 x), .sc (.int .i64 8)] = some (.sc (.int .i64 (num x 8))) := by kernel_rfl
theorem number9 (x : Int) : alone (envOf (fun _ => none) tok prot) (call (envOf (fun _ => none) tok prot) 20 2) 20 9 [.sc (.int .i64 x), .sc (.int .i64 9)] = some (.sc (.int .i64 (num x 9))) := by kernel_rfl
end

theorem num_range (x m : Int) (h0 : 0 < m) (h1 : m < 1000000) : 0 ≤ num x m ∧ num x m < m := by
  have a1 := Int.tmod_lt_of_pos x h0
  have a2 : -m < x.tmod m := by
    have := Int.tmod_lt_of_pos (-x) h0
    rw [Int.neg_tmod] at this
    omega
  have hw : IntKind.wrap .i64 (x.tmod m + m) = x.tmod m + m := by
    exact IntWalk.i64_in _ (by omega)
  unfold num
  rw [hw]
  exact ⟨Int.tmod_nonneg _ (by omega), Int.tmod_lt_of_pos _ h0⟩

def primNumber (a b : Int) : List AV → Option AV
  | [.sp j, .sc (.int .i64 m)] => bif Nat.beq j 1000 && decide (m = 8) then some (.sc (.int .i64 a)) else bif Nat.beq j 1001 && decide (m = 9) then some (.sc (.int .i64 b)) else none
  | _ => none
def primAround : List AV → Option AV
  | [.sc (.int .i64 p), .ifc 153 (.sp j)] => bif sentB j then some (.ifc 91 (.fp [.sc (.int .i64 p), .ifc 153 (.sp j)] 0)) else none
  | _ => none
def prims (a b : Int) (g : Nat) : Option (List AV → Option AV) := bif Nat.beq g 9 then some (primNumber a b) else bif Nat.beq g 36 then some primAround else bif Nat.beq g 8 then some (fun | [] => some (.sc (.bool true)) | _ => none) else none
def isTrue : Option AV → Bool
  | some (.sc (.bool true)) => true
  | _ => false
section
variable (tok : Nat → Value) (prot : Nat → Obj → Prop)
theorem first_run : alone (envOf (fun _ => none) tok prot) (call (envOf (fun _ => none) tok prot) 10000 30) 10000 8 [] = some (.sc (.bool true)) := by kernel_rfl
noncomputable def runOk (a b : Int) (s : Bool) : Bool := isTrue (alone (envOf (prims a b) tok prot) (call (envOf (prims a b) tok prot) 10000 30) 10000 3 [.sp 1000, .sp 1001, .sc (.bool s)])
end

section
variable {prim : FuncId → Option (List AV → Option AV)} {tok : Nat → Value} {prot : Nat → Obj → Prop}
theorem prim_none : PrimOk (envOf (fun _ => none) tok prot) := fun g p h => by cases h
theorem spec_prim {prim' : FuncId → Option (List AV → Option AV)} {g : FuncId} {args : List AV} {r : AV} (h : PureSpec (envOf prim' tok prot) g args r) : PureSpec (envOf prim tok prot) g args r :=
  fun F hga hg hs cargs ha => h F hga ⟨hg.glob, hg.prot, hg.sent, hg.inj⟩ hs cargs ha
theorem first_spec : PureSpec (envOf prim tok prot) 8 [] (.sc (.bool true)) := spec_prim (pure_of_alone (E := envOf (fun _ => none) tok prot) mixed prim_none (first_run tok prot))
theorem number_spec8 (x : Int) : PureSpec (envOf prim tok prot) 9 [.sc (.int .i64 x), .sc (.int .i64 8)] (.sc (.int .i64 (num x 8))) := spec_prim (pure_of_alone (E := envOf (fun _ => none) tok prot) mixed prim_none (number8 x))
theorem number_spec9 (x : Int) : PureSpec (envOf prim tok prot) 9 [.sc (.int .i64 x), .sc (.int .i64 9)] (.sc (.int .i64 (num x 9))) := spec_prim (pure_of_alone (E := envOf (fun _ => none) tok prot) mixed prim_none (number9 x))
theorem spec_tok {g : FuncId} {j : Nat} {x : Int} {rest : List AV} {r : AV} (ht : tok j = .int .i64 x) (h : PureSpec (envOf prim tok prot) g (.sc (.int .i64 x) :: rest) r) : PureSpec (envOf prim tok prot) g (.sp j :: rest) r := by
  intro F hga hg hs cargs hargs
  refine h F hga hg hs cargs ⟨hargs.1, fun i y c hy hc => ?_⟩
  cases i with
  | zero =>
    simp at hy
    subst hy
    have := hargs.2 0 (.sp j) c rfl hc
    cases this with
    | sp _ =>
      have e : F.ga j = .int .i64 x := by rw [hga]; exact ht
      rw [e]
      exact .sc rfl
  | succ i => exact hargs.2 (i + 1) y c hy hc
end
end Go.Proofs.YtcfaajaccbadbaaDoor
