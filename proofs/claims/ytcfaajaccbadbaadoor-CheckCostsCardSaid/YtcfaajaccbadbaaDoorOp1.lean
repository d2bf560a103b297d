/- Equality and copies of slices and shapes; products. -/
import Derived.Test.YtcfaajaccbadbaaDoorShape
set_option linter.unusedVariables false
set_option linter.unusedSimpArgs false
namespace Go.Proofs.YtcfaajaccbadbaaDoor
open Go Ahm
variable {tok : Nat → Value} {prot : Nat → Obj → Prop}

theorem equal_ans {v1 v2 : AV} {l1 l2 : List Int} (h1 : Ints v1 l1) (h2 : Ints v2 l2) (hb : l1.length < 1000000000) : ansL (EE tok prot) 86 [v1, v2] = some (B (decide (l1 = l2))) := by
  refine ansL_of (g := 86) rfl xc86 (by simp [h1.isLp, h2.isLp]) rfl ?_
  unfold x86
  simp -dsimp -implicitDefEqProofs only [go_sem, Nat.reduceEqDiff, Nat.reduceAdd, Nat.reduceMul, Nat.reduceLeDiff, Nat.reduceSub, Nat.reducePow, Nat.reduceDiv, Nat.reduceMod, Int.reduceAdd, Int.reduceLT, Int.reduceLE, Int.reduceToNat, Int.reduceNeg, Int.reduceEq, h1.all, h2.all]
  refine br_intro (fun h4 => ?_) fun h4 => ?_
  · have hl : l1.length = l2.length := by simp at h4; omega
    simp -dsimp -implicitDefEqProofs only [go_sem, Nat.reduceEqDiff, Nat.reduceAdd, Nat.reduceMul, Nat.reduceLeDiff, Nat.reduceSub, Nat.reducePow, Nat.reduceDiv, Nat.reduceMod, Int.reduceAdd, Int.reduceLT, Int.reduceLE, Int.reduceToNat, Int.reduceNeg, Int.reduceEq, h1.all, h2.all]
    refine xp_loop (fun n s => ∃ i : Nat, i ≤ l1.length ∧ n = l1.length - i ∧ l1.take i = l2.take i ∧ s = ⟨[(0, v1), (1, v2), (12, I l1.length), (13, I i)], [], []⟩) l1.length ⟨0, by omega, by omega, by simp, rfl⟩ ?_
    rintro n s ⟨i, hi, rfl, he, rfl⟩
    rw [xl86_0]; unfold b86_0
    simp -dsimp -implicitDefEqProofs only [go_sem, Nat.reduceEqDiff, Nat.reduceAdd, Nat.reduceMul, Nat.reduceLeDiff, Nat.reduceSub, Nat.reducePow, Nat.reduceDiv, Nat.reduceMod, Int.reduceAdd, Int.reduceLT, Int.reduceLE, Int.reduceToNat, Int.reduceNeg, Int.reduceEq, h1.all, h2.all]
    refine br_intro (fun h5 => ?_) fun h5 => ?_
    · have hlt : i < l1.length := by simpa using h5
      have hx : l1[i]? = some l1[i] := by simp [hlt]
      have hy : l2[i]? = some (l2[i]'(by omega)) := by simp [show i < l2.length by omega]
      generalize l1[i] = x at hx
      generalize l2[i]'(by omega) = y at hy
      simp -dsimp -implicitDefEqProofs only [go_sem, Nat.reduceEqDiff, Nat.reduceAdd, Nat.reduceMul, Nat.reduceLeDiff, Nat.reduceSub, Nat.reducePow, Nat.reduceDiv, Nat.reduceMod, Int.reduceAdd, Int.reduceLT, Int.reduceLE, Int.reduceToNat, Int.reduceNeg, Int.reduceEq, h1.all, h2.all, h1.idxI (i := i) (by omega), h2.idxI (i := i) (by omega), Int.toNat_natCast, cutI hx, cutI hy]
      refine br_intro (fun h6 => ?_) fun h6 => ?_
      · have hxy : x = y := by simpa using h6
        simp -dsimp -implicitDefEqProofs only [go_sem, Nat.reduceEqDiff, Nat.reduceAdd, Nat.reduceMul, Nat.reduceLeDiff, Nat.reduceSub, Nat.reducePow, Nat.reduceDiv, Nat.reduceMod, Int.reduceAdd, Int.reduceLT, Int.reduceLE, Int.reduceToNat, Int.reduceNeg, Int.reduceEq, h1.all, h2.all, loopQ_norm]
        refine ⟨_, ?_, i + 1, by omega, rfl, ?_, ?_⟩
        · omega
        · rw [List.take_add_one, List.take_add_one, hx, hy, he, hxy]
        · rw [wrap64 (by omega)]; simp
      · simp -dsimp -implicitDefEqProofs only [go_sem, Nat.reduceEqDiff, Nat.reduceAdd, Nat.reduceMul, Nat.reduceLeDiff, Nat.reduceSub, Nat.reducePow, Nat.reduceDiv, Nat.reduceMod, Int.reduceAdd, Int.reduceLT, Int.reduceLE, Int.reduceToNat, Int.reduceNeg, Int.reduceEq, h1.all, h2.all]
        have hxy : x ≠ y := by simpa using h6
        have : l1 ≠ l2 := by rintro rfl; rw [hx] at hy; simp at hy; exact hxy hy
        simp [this]
    · have : i = l1.length := by simp at h5; omega
      simp -dsimp -implicitDefEqProofs only [go_sem, Nat.reduceEqDiff, Nat.reduceAdd, Nat.reduceMul, Nat.reduceLeDiff, Nat.reduceSub, Nat.reducePow, Nat.reduceDiv, Nat.reduceMod, Int.reduceAdd, Int.reduceLT, Int.reduceLE, Int.reduceToNat, Int.reduceNeg, Int.reduceEq, h1.all, h2.all]
      rw [this, List.take_length, hl, List.take_length] at he
      simp [he]
  · simp -dsimp -implicitDefEqProofs only [go_sem, Nat.reduceEqDiff, Nat.reduceAdd, Nat.reduceMul, Nat.reduceLeDiff, Nat.reduceSub, Nat.reducePow, Nat.reduceDiv, Nat.reduceMod, Int.reduceAdd, Int.reduceLT, Int.reduceLE, Int.reduceToNat, Int.reduceNeg, Int.reduceEq, h1.all, h2.all]
    have : l1 ≠ l2 := by rintro rfl; simp at h4
    simp [this]

def sameD (w1 : Bool) (l1 : List Int) (w2 : Bool) (l2 : List Int) : Bool := decide (w1 = w2) && decide (l1 = l2)
theorem same_ans {v1 v2 : AV} {l1 l2 : List Int} (h1 : Ints v1 l1) (h2 : Ints v2 l2) (w1 w2 : Bool) (hb : l1.length < 1000000000) : ansL (EE tok prot) 68 [.agg [v1, B w1], .agg [v2, B w2]] = some (B (sameD w1 l1 w2 l2)) := by
  refine ansL_of (g := 68) rfl xc68 rfl rfl ?_
  unfold x68
  have e := equal_ans (tok := tok) (prot := prot) h1 h2 hb
  cases w1 <;> cases w2 <;> simp -dsimp -implicitDefEqProofs only [go_sem, Nat.reduceEqDiff, Nat.reduceAdd, Nat.reduceMul, Nat.reduceLeDiff, Nat.reduceSub, Nat.reducePow, Nat.reduceDiv, Nat.reduceMod, Int.reduceAdd, Int.reduceLT, Int.reduceLE, Int.reduceToNat, Int.reduceNeg, Int.reduceEq, h1.all, h2.all, e]
  all_goals simp [sameD]

/-- a copy -/
def cloneV (v : AV) (l : List Int) : AV :=
  match v with
  | .sc _ => nilS
  | _ => .fs (l.flatMap fI) l.length
theorem cloneV_ints {v : AV} {l : List Int} (h : Ints v l) : Ints (cloneV v l) l := by
  rcases h with ⟨rfl, rfl⟩ | ⟨rfl, rfl⟩ | rfl
  · exact Sl.nil
  · exact Sl.fs
  · exact Sl.fs
theorem clone_ans {v : AV} {l : List Int} (h : Ints v l) (hb : l.length < 1000000000) : ansL (EE tok prot) 70 [v] = some (cloneV v l) := by
  refine ansL_of (g := 70) rfl xc70 (by simp [h.isLp]) rfl ?_
  unfold x70
  rcases h with ⟨rfl, rfl⟩ | ⟨rfl, rfl⟩ | rfl
  · simp -dsimp -implicitDefEqProofs only [go_sem, Nat.reduceEqDiff, Nat.reduceAdd, Nat.reduceMul, Nat.reduceLeDiff, Nat.reduceSub, Nat.reducePow, Nat.reduceDiv, Nat.reduceMod, Int.reduceAdd, Int.reduceLT, Int.reduceLE, Int.reduceToNat, Int.reduceNeg, Int.reduceEq]
    rfl
  · simp -dsimp -implicitDefEqProofs only [go_sem, Nat.reduceEqDiff, Nat.reduceAdd, Nat.reduceMul, Nat.reduceLeDiff, Nat.reduceSub, Nat.reducePow, Nat.reduceDiv, Nat.reduceMod, Int.reduceAdd, Int.reduceLT, Int.reduceLE, Int.reduceToNat, Int.reduceNeg, Int.reduceEq]
    rfl
  · by_cases hl : l = []
    · subst hl
      simp only [List.flatMap_nil, List.length_nil]
      simp -dsimp -implicitDefEqProofs only [go_sem, Nat.reduceEqDiff, Nat.reduceAdd, Nat.reduceMul, Nat.reduceLeDiff, Nat.reduceSub, Nat.reducePow, Nat.reduceDiv, Nat.reduceMod, Int.reduceAdd, Int.reduceLT, Int.reduceLE, Int.reduceToNat, Int.reduceNeg, Int.reduceEq]
      rfl
    · have hpos : 0 < l.length := List.length_pos_iff.2 hl
      have hz : decide (l.length ≤ 0) = false := by simp; exact hl
      have hbig : decide (l.length * 8 ≤ 140737488355328) = true := by simp; omega
      have hc : cut (l.flatMap fI) 0 l.length = some (l.flatMap fI) := cut_all (lenI l)
      simp -dsimp -implicitDefEqProofs only [go_sem, Nat.reduceEqDiff, Nat.reduceAdd, Nat.reduceMul, Nat.reduceLeDiff, Nat.reduceSub, Nat.reducePow, Nat.reduceDiv, Nat.reduceMod, Int.reduceAdd, Int.reduceLT, Int.reduceLE, Int.reduceToNat, Int.reduceNeg, Int.reduceEq, lenI, cellsI, Nat.mul_one, Nat.zero_mul, hz, hbig, hc, resI]
      rfl

theorem sclone_ans {v : AV} {l : List Int} (h : Ints v l) (w : Bool) (hb : l.length < 1000000000) : ansL (EE tok prot) 47 [.agg [v, B w]] = some (.agg [cloneV v l, B w]) := by
  refine ansL_of (g := 47) rfl xc47 rfl rfl ?_
  unfold x47
  have e := clone_ans (tok := tok) (prot := prot) h hb
  have hc := cloneV_ints h
  simp -dsimp -implicitDefEqProofs only [go_sem, Nat.reduceEqDiff, Nat.reduceAdd, Nat.reduceMul, Nat.reduceLeDiff, Nat.reduceSub, Nat.reducePow, Nat.reduceDiv, Nat.reduceMod, Int.reduceAdd, Int.reduceLT, Int.reduceLE, Int.reduceToNat, Int.reduceNeg, Int.reduceEq, h.all, e, hc.all]

def narrowI (n : Int) : Int := max (-128) (min n 127)
theorem tnarrow_ans (n : Int) : ansL (EE tok prot) 81 [I n] = some (I (narrowI n)) := by
  refine ansL_of (g := 81) rfl xc81 rfl rfl ?_
  unfold x81
  simp -dsimp -implicitDefEqProofs only [go_sem, Nat.reduceEqDiff, Nat.reduceAdd, Nat.reduceMul, Nat.reduceLeDiff, Nat.reduceSub, Nat.reducePow, Nat.reduceDiv, Nat.reduceMod, Int.reduceAdd, Int.reduceLT, Int.reduceLE, Int.reduceToNat, Int.reduceNeg, Int.reduceEq]
  rfl
theorem mnarrow_ans (n : Int) : ansL (EE tok prot) 80 [I n] = some (B (decide (narrowI n = n))) := by
  refine ansL_of (g := 80) rfl xc80 rfl rfl ?_
  unfold x80
  simp -dsimp -implicitDefEqProofs only [go_sem, Nat.reduceEqDiff, Nat.reduceAdd, Nat.reduceMul, Nat.reduceLeDiff, Nat.reduceSub, Nat.reducePow, Nat.reduceDiv, Nat.reduceMod, Int.reduceAdd, Int.reduceLT, Int.reduceLE, Int.reduceToNat, Int.reduceNeg, Int.reduceEq, tnarrow_ans]
end Go.Proofs.YtcfaajaccbadbaaDoor
