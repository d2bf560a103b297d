/- The reference's functions of shapes. -/
import Derived.Test.YtcfaajaccbadbaaDoorShape
set_option linter.unusedVariables false
set_option linter.unusedSimpArgs false
namespace Go.Proofs.YtcfaajaccbadbaaDoor
open Go Ahm
variable {tok : Nat → Value} {prot : Nat → Obj → Prop}

/-- errors' numbers -/
def erC : Option Er → Int
  | .none => 0
  | some .shape => 101 | some .range => 102 | some .kind => 103 | some .many => 104 | some .fin => 105 | some .room => 106 | some .none => 107 | some .als => 108 | some .cost => 109 | some .jump => 110 | some .cycle => 111 | some .fuel => 112 | some .full => 113 | some .quota => 114
  | some .cap => 115 | some .stale => 116 | some .tag => 117 | some .old => 118 | some .tenant => 119 | some .word => 120 | some .number => 121

theorem prod_bound : ∀ (l : List Int) (a : Int), 1 ≤ a → okDims l = true → l.foldl (· * ·) a ≤ a * 256 ^ l.length
  | [], a, _, _ => by simp
  | x :: r, a, ha, h => by
    simp only [okDims, List.all_cons, Bool.and_eq_true, decide_eq_true_eq] at h
    simp only [List.foldl_cons, List.length_cons]
    have h1 : 1 ≤ a * x := by
      have := Int.mul_le_mul_of_nonneg_left h.1.1 (show 0 ≤ a by omega)
      omega
    have h2 : a * x ≤ a * 256 := Int.mul_le_mul_of_nonneg_left h.1.2 (by omega)
    have h3 := prod_bound r (a * x) h1 (by simpa [okDims] using h.2)
    have h4 : (0 : Int) ≤ 256 ^ r.length := Int.le_of_lt (Int.pow_pos (by omega))
    have h5 := Int.mul_le_mul_of_nonneg_right h2 h4
    rw [Int.pow_succ, Int.mul_comm (256 ^ r.length) 256, ← Int.mul_assoc]
    omega
theorem prod_lt {l : List Int} (h : okDims l = true) (hl : l.length ≤ 4) : prodI l ≤ 4294967296 := by
  have := prod_bound l 1 (by omega) h
  have h2 : (256 : Int) ^ l.length ≤ 256 ^ 4 := by
    match hn : l.length, hl with
    | 0, _ => decide
    | 1, _ => decide
    | 2, _ => decide
    | 3, _ => decide
    | 4, _ => decide
  unfold prodI
  omega

theorem rvalid_ans {v : AV} {l : List Int} (h : Ints v l) (w : Bool) : ansL (EE tok prot) 49 [.agg [v, B w]] = some (I (erC (shErr l))) := by
  refine ansL_of (g := 49) rfl xc49 rfl rfl ?_
  unfold x49
  simp -dsimp -implicitDefEqProofs only [go_sem, Nat.reduceEqDiff, Nat.reduceAdd, Nat.reduceMul, Nat.reduceLeDiff, Nat.reduceSub, Nat.reducePow, Nat.reduceDiv, Nat.reduceMod, Int.reduceAdd, Int.reduceLT, Int.reduceLE, Int.reduceToNat, Int.reduceNeg, Int.reduceEq, h.all]
  refine br_intro (fun h4 => ?_) fun h4 => ?_
  · simp -dsimp -implicitDefEqProofs only [go_sem, Nat.reduceEqDiff, Nat.reduceAdd, Nat.reduceMul, Nat.reduceLeDiff, Nat.reduceSub, Nat.reducePow, Nat.reduceDiv, Nat.reduceMod, Int.reduceAdd, Int.reduceLT, Int.reduceLE, Int.reduceToNat, Int.reduceNeg, Int.reduceEq]
    have : 4 < l.length := by simp at h4; omega
    simp [shErr, this, erC]
  · simp -dsimp -implicitDefEqProofs only [go_sem, Nat.reduceEqDiff, Nat.reduceAdd, Nat.reduceMul, Nat.reduceLeDiff, Nat.reduceSub, Nat.reducePow, Nat.reduceDiv, Nat.reduceMod, Int.reduceAdd, Int.reduceLT, Int.reduceLE, Int.reduceToNat, Int.reduceNeg, Int.reduceEq, h.all]
    have h4' : ¬ 4 < l.length := by simp at h4; omega
    refine xp_loop (fun n s => ∃ i : Nat, i ≤ l.length ∧ n = l.length - i ∧ okDims (l.take i) = true ∧ s = ⟨[(1, .lp 1 0 0), (3, I (prodI (l.take i))), (4, I i)], [(1, 0, [v, B w])], []⟩) l.length ⟨0, by omega, by omega, by simp [okDims], by simp [prodI]⟩ ?_
    rintro n s ⟨i, hi, rfl, hok, rfl⟩
    rw [xl49_0]; unfold b49_0
    simp -dsimp -implicitDefEqProofs only [go_sem, Nat.reduceEqDiff, Nat.reduceAdd, Nat.reduceMul, Nat.reduceLeDiff, Nat.reduceSub, Nat.reducePow, Nat.reduceDiv, Nat.reduceMod, Int.reduceAdd, Int.reduceLT, Int.reduceLE, Int.reduceToNat, Int.reduceNeg, Int.reduceEq, h.all]
    refine br_intro (fun h5 => ?_) fun h5 => ?_
    · have hlt : i < l.length := by simpa using h5
      have hx : l[i]? = some l[i] := by simp [hlt]
      generalize l[i] = x at hx
      have hno : ¬ (1 ≤ x ∧ x ≤ 256) → shErr l = some .range := fun hn => by
        have : okDims l = false := by
          cases ho : okDims l
          · rfl
          · exact (hn (okDims_get ho hx)).elim
        simp [shErr, h4', this]
      simp -dsimp -implicitDefEqProofs only [go_sem, Nat.reduceEqDiff, Nat.reduceAdd, Nat.reduceMul, Nat.reduceLeDiff, Nat.reduceSub, Nat.reducePow, Nat.reduceDiv, Nat.reduceMod, Int.reduceAdd, Int.reduceLT, Int.reduceLE, Int.reduceToNat, Int.reduceNeg, Int.reduceEq, h.all, h.idxI (i := i) (by omega), Int.toNat_natCast, cutI hx]
      refine br_intro (fun h6 => ?_) fun h6 => ?_
      · simp -dsimp -implicitDefEqProofs only [go_sem, Nat.reduceEqDiff, Nat.reduceAdd, Nat.reduceMul, Nat.reduceLeDiff, Nat.reduceSub, Nat.reducePow, Nat.reduceDiv, Nat.reduceMod, Int.reduceAdd, Int.reduceLT, Int.reduceLE, Int.reduceToNat, Int.reduceNeg, Int.reduceEq, h.all, h6]
        rw [hno (by simp at h6; omega)]
        rfl
      · simp -dsimp -implicitDefEqProofs only [go_sem, Nat.reduceEqDiff, Nat.reduceAdd, Nat.reduceMul, Nat.reduceLeDiff, Nat.reduceSub, Nat.reducePow, Nat.reduceDiv, Nat.reduceMod, Int.reduceAdd, Int.reduceLT, Int.reduceLE, Int.reduceToNat, Int.reduceNeg, Int.reduceEq, h.all, h6, h.idxI (i := i) (by omega), Int.toNat_natCast, cutI hx]
        refine br_intro (fun h7 => ?_) fun h7 => ?_
        · simp -dsimp -implicitDefEqProofs only [go_sem, Nat.reduceEqDiff, Nat.reduceAdd, Nat.reduceMul, Nat.reduceLeDiff, Nat.reduceSub, Nat.reducePow, Nat.reduceDiv, Nat.reduceMod, Int.reduceAdd, Int.reduceLT, Int.reduceLE, Int.reduceToNat, Int.reduceNeg, Int.reduceEq, h.all]
          rw [hno (by simp at h7; omega)]
          rfl
        · simp -dsimp -implicitDefEqProofs only [go_sem, Nat.reduceEqDiff, Nat.reduceAdd, Nat.reduceMul, Nat.reduceLeDiff, Nat.reduceSub, Nat.reducePow, Nat.reduceDiv, Nat.reduceMod, Int.reduceAdd, Int.reduceLT, Int.reduceLE, Int.reduceToNat, Int.reduceNeg, Int.reduceEq, h.all, h.idxI (i := i) (by omega), Int.toNat_natCast, cutI hx, loopQ_norm]
          have hok' := okDims_succ hok hx (by simpa using h6) (by simpa using h7)
          have b1 := prod_pos hok'
          have b2 := prod_lt hok' (by simp; omega)
          have hps := prod_succ l hx
          refine ⟨_, ?_, i + 1, by omega, rfl, hok', ?_⟩
          · omega
          · rw [wrap64 (by omega), wrap64 (by omega), hps]; simp
    · have hil : i = l.length := by simp at h5; omega
      have hokl : okDims l = true := by rw [hil, List.take_length] at hok; exact hok
      rw [hil, List.take_length]
      simp -dsimp -implicitDefEqProofs only [go_sem, Nat.reduceEqDiff, Nat.reduceAdd, Nat.reduceMul, Nat.reduceLeDiff, Nat.reduceSub, Nat.reducePow, Nat.reduceDiv, Nat.reduceMod, Int.reduceAdd, Int.reduceLT, Int.reduceLE, Int.reduceToNat, Int.reduceNeg, Int.reduceEq, h.all]
      refine br_intro (fun h6 => ?_) fun h6 => ?_
      · simp -dsimp -implicitDefEqProofs only [go_sem, Nat.reduceEqDiff, Nat.reduceAdd, Nat.reduceMul, Nat.reduceLeDiff, Nat.reduceSub, Nat.reducePow, Nat.reduceDiv, Nat.reduceMod, Int.reduceAdd, Int.reduceLT, Int.reduceLE, Int.reduceToNat, Int.reduceNeg, Int.reduceEq, h.all]
        have : 16384 < prodI l := by simpa using h6
        simp [shErr, h4', hokl, this, erC]
      · simp -dsimp -implicitDefEqProofs only [go_sem, Nat.reduceEqDiff, Nat.reduceAdd, Nat.reduceMul, Nat.reduceLeDiff, Nat.reduceSub, Nat.reducePow, Nat.reduceDiv, Nat.reduceMod, Int.reduceAdd, Int.reduceLT, Int.reduceLE, Int.reduceToNat, Int.reduceNeg, Int.reduceEq, h.all]
        have : ¬ 16384 < prodI l := by simpa using h6
        simp [shErr, h4', hokl, this, erC]

theorem erC_zero {e : Option Er} : erC e = 0 ↔ e = none := by
  constructor
  · intro h
    cases e with
    | none => rfl
    | some e => cases e <;> simp [erC] at h
  · rintro rfl; rfl

theorem ok_of {l : List Int} (hv : shErr l = none) : okDims l = true ∧ prodI l ≤ 16384 ∧ l.length ≤ 4 := by
  unfold shErr at hv
  split at hv
  · cases hv
  · cases ho : okDims l
    · simp [ho] at hv
    · simp [ho] at hv; exact ⟨rfl, by omega, by omega⟩

theorem relems_ans {v : AV} {l : List Int} (h : Ints v l) : ansL (EE tok prot) 31 [v] = some (I (elems l)) := by
  refine ansL_of (g := 31) rfl xc31 (by simp [h.isLp]) rfl ?_
  unfold x31
  simp -dsimp -implicitDefEqProofs only [go_sem, Nat.reduceEqDiff, Nat.reduceAdd, Nat.reduceMul, Nat.reduceLeDiff, Nat.reduceSub, Nat.reducePow, Nat.reduceDiv, Nat.reduceMod, Int.reduceAdd, Int.reduceLT, Int.reduceLE, Int.reduceToNat, Int.reduceNeg, Int.reduceEq, h.all, rvalid_ans h]
  refine br_intro (fun h4 => ?_) fun h4 => ?_
  · have hv : shErr l = none := erC_zero.1 (by simpa using h4)
    obtain ⟨hok, hpr, hl4⟩ := ok_of hv
    simp -dsimp -implicitDefEqProofs only [go_sem, Nat.reduceEqDiff, Nat.reduceAdd, Nat.reduceMul, Nat.reduceLeDiff, Nat.reduceSub, Nat.reducePow, Nat.reduceDiv, Nat.reduceMod, Int.reduceAdd, Int.reduceLT, Int.reduceLE, Int.reduceToNat, Int.reduceNeg, Int.reduceEq, h.all]
    refine xp_loop (fun n s => ∃ i : Nat, i ≤ l.length ∧ n = l.length - i ∧ s = ⟨[(0, v), (3, I (prodI (l.take i))), (4, I i)], [], []⟩) l.length ⟨0, by omega, by omega, by simp [prodI]⟩ ?_
    rintro n s ⟨j, hj, rfl, rfl⟩
    rw [xl31_0]; unfold b31_0
    simp -dsimp -implicitDefEqProofs only [go_sem, Nat.reduceEqDiff, Nat.reduceAdd, Nat.reduceMul, Nat.reduceLeDiff, Nat.reduceSub, Nat.reducePow, Nat.reduceDiv, Nat.reduceMod, Int.reduceAdd, Int.reduceLT, Int.reduceLE, Int.reduceToNat, Int.reduceNeg, Int.reduceEq, h.all]
    refine br_intro (fun h6 => ?_) fun h6 => ?_
    · have hlt : j < l.length := by simpa using h6
      have hx : l[j]? = some l[j] := by simp [hlt]
      generalize l[j] = x at hx
      have hp1 := prod_pos (okDims_take hok j)
      have hps := prod_succ l hx
      have hp2 := prod_pos (okDims_take hok (j + 1))
      have : prodI (l.take (j + 1)) ≤ prodI l := by
        rw [prod_take l (j + 1)]
        exact foldl_ge _ _ (by omega) (okDims_drop hok _)
      simp -dsimp -implicitDefEqProofs only [go_sem, Nat.reduceEqDiff, Nat.reduceAdd, Nat.reduceMul, Nat.reduceLeDiff, Nat.reduceSub, Nat.reducePow, Nat.reduceDiv, Nat.reduceMod, Int.reduceAdd, Int.reduceLT, Int.reduceLE, Int.reduceToNat, Int.reduceNeg, Int.reduceEq, h.all, h.idxI (i := j) (by omega), Int.toNat_natCast, cutI hx, loopQ_norm]
      refine ⟨_, ?_, j + 1, by omega, rfl, ?_⟩
      · omega
      · rw [wrap64 (by omega), wrap64 (by omega), hps]; simp
    · have hjl : j = l.length := by simp at h6; omega
      simp -dsimp -implicitDefEqProofs only [go_sem, Nat.reduceEqDiff, Nat.reduceAdd, Nat.reduceMul, Nat.reduceLeDiff, Nat.reduceSub, Nat.reducePow, Nat.reduceDiv, Nat.reduceMod, Int.reduceAdd, Int.reduceLT, Int.reduceLE, Int.reduceToNat, Int.reduceNeg, Int.reduceEq, h.all]
      simp [elems, hv, hjl]
  · simp -dsimp -implicitDefEqProofs only [go_sem, Nat.reduceEqDiff, Nat.reduceAdd, Nat.reduceMul, Nat.reduceLeDiff, Nat.reduceSub, Nat.reducePow, Nat.reduceDiv, Nat.reduceMod, Int.reduceAdd, Int.reduceLT, Int.reduceLE, Int.reduceToNat, Int.reduceNeg, Int.reduceEq, h.all]
    have : shErr l ≠ none := by intro e; simp [e, erC] at h4
    simp [elems, this]

theorem rsize_ans {v : AV} {l : List Int} (h : Ints v l) (w : Bool) : ansL (EE tok prot) 16 [.agg [v, B w]] = some (I (bytesD w l)) := by
  refine ansL_of (g := 16) rfl xc16 rfl rfl ?_
  unfold x16
  have := elems_range l
  simp -dsimp -implicitDefEqProofs only [go_sem, Nat.reduceEqDiff, Nat.reduceAdd, Nat.reduceMul, Nat.reduceLeDiff, Nat.reduceSub, Nat.reducePow, Nat.reduceDiv, Nat.reduceMod, Int.reduceAdd, Int.reduceLT, Int.reduceLE, Int.reduceToNat, Int.reduceNeg, Int.reduceEq, h.all, relems_ans h]
  refine br_intro (fun h4 => ?_) fun h4 => ?_
  · subst h4
    simp -dsimp -implicitDefEqProofs only [go_sem, Nat.reduceEqDiff, Nat.reduceAdd, Nat.reduceMul, Nat.reduceLeDiff, Nat.reduceSub, Nat.reducePow, Nat.reduceDiv, Nat.reduceMod, Int.reduceAdd, Int.reduceLT, Int.reduceLE, Int.reduceToNat, Int.reduceNeg, Int.reduceEq, h.all]
    rw [wrap64 (by omega), bytesD, if_pos rfl, Int.mul_comm]
  · subst h4
    simp -dsimp -implicitDefEqProofs only [go_sem, Nat.reduceEqDiff, Nat.reduceAdd, Nat.reduceMul, Nat.reduceLeDiff, Nat.reduceSub, Nat.reducePow, Nat.reduceDiv, Nat.reduceMod, Int.reduceAdd, Int.reduceLT, Int.reduceLE, Int.reduceToNat, Int.reduceNeg, Int.reduceEq, h.all]
    rfl

/-- a number below a bound -/
def num (a m : Int) : Int := (IntKind.wrap .i64 (a.tmod m + m)).tmod m
theorem number_ans (a : Int) {m : Int} (hm : m ≠ 0) : ansL (EE tok prot) 9 [I a, I m] = some (I (num a m)) := by
  refine ansL_of (g := 9) rfl xc9 rfl rfl ?_
  unfold x9
  simp -dsimp -implicitDefEqProofs only [go_sem, Nat.reduceEqDiff, Nat.reduceAdd, Nat.reduceMul, Nat.reduceLeDiff, Nat.reduceSub, Nat.reducePow, Nat.reduceDiv, Nat.reduceMod, Int.reduceAdd, Int.reduceLT, Int.reduceLE, Int.reduceToNat, Int.reduceNeg, Int.reduceEq, hm]
  rfl
theorem num_range (x : Int) {m : Int} (h0 : 0 < m) (h1 : m < 1000000000000) : 0 ≤ num x m ∧ num x m < m := by
  have a1 := Int.tmod_lt_of_pos x h0
  have a2 : -m < x.tmod m := by
    have := Int.tmod_lt_of_pos (-x) h0
    rw [Int.neg_tmod] at this
    omega
  have hw : IntKind.wrap .i64 (x.tmod m + m) = x.tmod m + m := wrap64 (by omega)
  unfold num
  rw [hw]
  exact ⟨Int.tmod_nonneg _ (by omega), Int.tmod_lt_of_pos _ h0⟩
end Go.Proofs.YtcfaajaccbadbaaDoor
