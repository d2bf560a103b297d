/- What an instruction costs; what a plan is. -/
import Derived.Test.YtcfaajaccbadbaaDoorCh2
import Derived.Test.YtcfaajaccbadbaaDoorSee
set_option linter.unusedVariables false
set_option linter.unusedSimpArgs false
namespace Go.Proofs.YtcfaajaccbadbaaDoor
open Go Ahm
variable {tok : Nat → Value} {prot : Nat → Obj → Prop}

theorem cost_in {p : Pl} (hp : p.ok) {k : Int} (hk : 0 ≤ k) {i : In} (hi : p.code[k.toNat]? = some i) {n : Int} {e : Option Er} (h : ansL (EE tok prot) 39 [.agg (fP p), .agg (fN i)] = some (.tup [I n, erA e])) :
    ansL (EE tok prot) 22 [.agg (fP p), I k] = some (.tup [I n, erA e]) := by
  have hlt : k.toNat < p.code.length := (List.getElem?_eq_some_iff.1 hi).1
  have hik := hp.k i (List.mem_of_getElem? hi)
  have h1 := hik.1
  have h2 := hik.2
  have c3 := hp.kv.idx fN_len (by omega) (k := .i64) (i := k) ⟨hk, by omega⟩
  have c4 := cut_flat0 fN_len (n := 6) hi (by omega)
  have d1 : decide (k < 0) = false := by simp; omega
  have d2 : decide ((p.code.length : Int) ≤ k) = false := by simp; omega
  refine ansL_of (g := 22) rfl xc22 rfl rfl ?_
  unfold x22
  simp -dsimp -implicitDefEqProofs only [go_sem, Nat.reduceEqDiff, Nat.reduceAdd, Nat.reduceMul, Nat.reduceLeDiff, Nat.reduceSub, Nat.reducePow, Nat.reduceDiv, Nat.reduceMod, Int.reduceAdd, Int.reduceLT, Int.reduceLE, Int.reduceToNat, Int.reduceNeg, Int.reduceEq, hp.vv.all, hp.cv.all, hp.wv.all, hp.kv.all, h1.all, h2.all, c3, c4, d1, d2, h]
theorem cost_out {p : Pl} (hp : p.ok) {k : Int} (hk : ¬ (0 ≤ k ∧ k < p.code.length)) : ansL (EE tok prot) 22 [.agg (fP p), I k] = some (.tup [I 0, erA (some .none)]) := by
  refine ansL_of (g := 22) rfl xc22 rfl rfl ?_
  unfold x22
  by_cases h0 : k < 0
  · have d1 : decide (k < 0) = true := by simp; omega
    simp -dsimp -implicitDefEqProofs only [go_sem, Nat.reduceEqDiff, Nat.reduceAdd, Nat.reduceMul, Nat.reduceLeDiff, Nat.reduceSub, Nat.reducePow, Nat.reduceDiv, Nat.reduceMod, Int.reduceAdd, Int.reduceLT, Int.reduceLE, Int.reduceToNat, Int.reduceNeg, Int.reduceEq, hp.vv.all, hp.cv.all, hp.wv.all, hp.kv.all, d1]
  · have d1 : decide (k < 0) = false := by simp; omega
    have d2 : decide ((p.code.length : Int) ≤ k) = true := by simp; omega
    simp -dsimp -implicitDefEqProofs only [go_sem, Nat.reduceEqDiff, Nat.reduceAdd, Nat.reduceMul, Nat.reduceLeDiff, Nat.reduceSub, Nat.reducePow, Nat.reduceDiv, Nat.reduceMod, Int.reduceAdd, Int.reduceLT, Int.reduceLE, Int.reduceToNat, Int.reduceNeg, Int.reduceEq, hp.vv.all, hp.cv.all, hp.wv.all, hp.kv.all, d1, d2]
theorem chinstr_ans {p : Pl} (hp : p.ok) {k : Int} {n : Int} {e : Option Er} (h : ansL (EE tok prot) 22 [.agg (fP p), I k] = some (.tup [I n, erA e])) : ansL (EE tok prot) 35 [.agg (fP p), I k] = some (erA e) := by
  refine ansL_of (g := 35) rfl xc35 rfl rfl ?_
  unfold x35
  simp -dsimp -implicitDefEqProofs only [go_sem, Nat.reduceEqDiff, Nat.reduceAdd, Nat.reduceMul, Nat.reduceLeDiff, Nat.reduceSub, Nat.reducePow, Nat.reduceDiv, Nat.reduceMod, Int.reduceAdd, Int.reduceLT, Int.reduceLE, Int.reduceToNat, Int.reduceNeg, Int.reduceEq, hp.vv.all, hp.cv.all, hp.wv.all, hp.kv.all, h]
end Go.Proofs.YtcfaajaccbadbaaDoor
