/- op.Result and op.Unit at products. -/
import Derived.Test.YtcfaajaccbadbaaDoorOp2
set_option linter.unusedVariables false
set_option linter.unusedSimpArgs false
namespace Go.Proofs.YtcfaajaccbadbaaDoor
open Go Ahm
variable {tok : Nat → Value} {prot : Nat → Obj → Prop}
theorem ins12 : ansL (EE tok prot) 58 [I 12] = some (I 2) := ansL_run rfl 20 (by kernel_rfl)
theorem args12 : ansL (EE tok prot) 59 [I 12] = some (I 2) := ansL_run rfl 20 (by kernel_rfl)
theorem known12 : ansL (EE tok prot) 42 [I 12] = some (B true) := ansL_run rfl 20 (by kernel_rfl)

theorem result12 {v1 v2 : AV} {l1 l2 : List Int} (h1 : Ints v1 l1) (h2 : Ints v2 l2) (w1 w2 : Bool) : Ans (EE tok prot) 43 [I 12, .fs [I 0, I 0] 2, .fs [v1, B w1, v2, B w2] 2] (matRes 0 0 l1 w1 l2 w2) := by
  obtain ⟨a, ha, hd⟩ := mat_ans (tok := tok) (prot := prot) h1 h2 w1 w2 0 0
  refine ansL_ofP (g := 43) rfl xc43 rfl rfl ?_
  unfold x43
  obtain ⟨v, rfl, hv⟩ := hd
  simp -dsimp -implicitDefEqProofs only [go_sem, Nat.reduceEqDiff, Nat.reduceAdd, Nat.reduceMul, Nat.reduceLeDiff, Nat.reduceSub, Nat.reducePow, Nat.reduceDiv, Nat.reduceMod, Int.reduceAdd, Int.reduceLT, Int.reduceLE, Int.reduceToNat, Int.reduceNeg, Int.reduceEq, h1.all, h2.all, ins12, args12, known12, ha, hv.all, List.length_cons, List.length_nil]
  exact ⟨v, rfl, hv⟩

theorem unit12 {v1 v2 : AV} {m k n : Int} {l2 : List Int} (h1 : Ints v1 [m, k]) (h2 : Ints v2 l2) (w1 w2 : Bool) (hr : matRes 0 0 [m, k] w1 l2 w2 = .ok ([m, n], true)) : ansL (EE tok prot) 79 [I 12, .fs [I 0, I 0] 2, .fs [v1, B w1, v2, B w2] 2] = some (.tup [I k, .sc .nilIface]) := by
  obtain ⟨a, ha, hd⟩ := result12 (tok := tok) (prot := prot) h1 h2 w1 w2
  obtain ⟨v, rfl, hv⟩ := hd
  rw [hr] at ha hv
  simp only [DR.l, DR.w, DR.e, erA_none] at ha hv
  have i2 : xiaS 1 v1 (I 1) = some (.fp ([m, k].flatMap fI) 1) := h1.idxI (i := 1) (by simp)
  have j2 : cut ([m, k].flatMap fI) 1 1 = some [I k] := cutI (l := [m, k]) (i := 1) rfl
  refine ansL_of (g := 79) rfl xc79 rfl rfl ?_
  unfold x79
  simp -dsimp -implicitDefEqProofs only [go_sem, Nat.reduceEqDiff, Nat.reduceAdd, Nat.reduceMul, Nat.reduceLeDiff, Nat.reduceSub, Nat.reducePow, Nat.reduceDiv, Nat.reduceMod, Int.reduceAdd, Int.reduceLT, Int.reduceLE, Int.reduceToNat, Int.reduceNeg, Int.reduceEq, h1.all, h2.all, ha, hv.all, i2, j2, List.length_cons, List.length_nil]
end Go.Proofs.YtcfaajaccbadbaaDoor
