/- The functions of shapes. -/
import Derived.Test.YtcfaajaccbadbaaDoorBase
set_option linter.unusedVariables false
set_option linter.unusedSimpArgs false
namespace Go.Proofs.YtcfaajaccbadbaaDoor
open Go Ahm
variable {tok : Nat → Value} {prot : Nat → Obj → Prop}

/-! plain -/
def prodI (l : List Int) : Int := l.foldl (· * ·) 1
def okDims (l : List Int) : Bool := l.all fun k => decide (1 ≤ k) && decide (k ≤ 256)
def shErr (l : List Int) : Option Er :=
  if 4 < l.length then some .many else if okDims l then if 16384 < prodI l then some .many else none else some .range
def elems (l : List Int) : Int := if shErr l = none then prodI l else 0
def bytesD (w : Bool) (l : List Int) : Int := if w then 4 * elems l else elems l

theorem foldl_ge : ∀ (l : List Int) (a : Int), 1 ≤ a → okDims l = true → a ≤ l.foldl (· * ·) a
  | [], a, _, _ => by simp
  | x :: r, a, ha, h => by
    simp only [okDims, List.all_cons, Bool.and_eq_true, decide_eq_true_eq] at h
    simp only [List.foldl_cons]
    have h1 : a ≤ a * x := by
      have := Int.mul_le_mul_of_nonneg_left h.1.1 (show 0 ≤ a by omega)
      omega
    have := foldl_ge r (a * x) (by omega) (by simpa [okDims] using h.2)
    omega
theorem prod_take (l : List Int) (i : Nat) : prodI l = (l.drop i).foldl (· * ·) (prodI (l.take i)) := by
  unfold prodI
  rw [← List.foldl_append, List.take_append_drop]
theorem prod_succ (l : List Int) {i : Nat} {x : Int} (hx : l[i]? = some x) : prodI (l.take (i + 1)) = prodI (l.take i) * x := by
  unfold prodI
  rw [List.take_add_one, hx]
  simp
theorem okDims_drop {l : List Int} (h : okDims l = true) (i : Nat) : okDims (l.drop i) = true := by
  unfold okDims at h ⊢
  rw [List.all_eq_true] at h ⊢
  exact fun x hx => h x (List.mem_of_mem_drop hx)
theorem okDims_take {l : List Int} (h : okDims l = true) (i : Nat) : okDims (l.take i) = true := by
  unfold okDims at h ⊢
  rw [List.all_eq_true] at h ⊢
  exact fun x hx => h x (List.mem_of_mem_take hx)
theorem okDims_get {l : List Int} (h : okDims l = true) {i : Nat} {x : Int} (hx : l[i]? = some x) : 1 ≤ x ∧ x ≤ 256 := by
  unfold okDims at h
  rw [List.all_eq_true] at h
  have := h x (List.mem_of_getElem? hx)
  simpa using this
theorem okDims_succ {l : List Int} {i : Nat} {x : Int} (h : okDims (l.take i) = true) (hx : l[i]? = some x) (h1 : 1 ≤ x) (h2 : x ≤ 256) : okDims (l.take (i + 1)) = true := by
  unfold okDims at h ⊢
  rw [List.take_add_one, hx]
  simp [h, h1, h2]
theorem prod_pos {l : List Int} (h : okDims l = true) : 1 ≤ prodI l := foldl_ge l 1 (by omega) h

/-! the walks -/
theorem valid_ans {v : AV} {l : List Int} (h : Ints v l) (w : Bool) : ansL (EE tok prot) 51 [.agg [v, B w]] = some (erA (shErr l)) := by
  refine ansL_of (g := 51) rfl xc51 rfl rfl ?_
  unfold x51
  simp -dsimp -implicitDefEqProofs only [go_sem, Nat.reduceEqDiff, Nat.reduceAdd, Nat.reduceMul, Nat.reduceLeDiff, Nat.reduceSub, Nat.reducePow, Nat.reduceDiv, Nat.reduceMod, Int.reduceAdd, Int.reduceLT, Int.reduceLE, Int.reduceToNat, Int.reduceNeg, Int.reduceEq, h.all]
  refine br_intro (fun h4 => ?_) fun h4 => ?_
  · simp -dsimp -implicitDefEqProofs only [go_sem, Nat.reduceEqDiff, Nat.reduceAdd, Nat.reduceMul, Nat.reduceLeDiff, Nat.reduceSub, Nat.reducePow, Nat.reduceDiv, Nat.reduceMod, Int.reduceAdd, Int.reduceLT, Int.reduceLE, Int.reduceToNat, Int.reduceNeg, Int.reduceEq]
    have : 4 < l.length := by simp at h4; omega
    simp [shErr, this]
  · simp -dsimp -implicitDefEqProofs only [go_sem, Nat.reduceEqDiff, Nat.reduceAdd, Nat.reduceMul, Nat.reduceLeDiff, Nat.reduceSub, Nat.reducePow, Nat.reduceDiv, Nat.reduceMod, Int.reduceAdd, Int.reduceLT, Int.reduceLE, Int.reduceToNat, Int.reduceNeg, Int.reduceEq, h.all]
    have h4' : ¬ 4 < l.length := by simp at h4; omega
    refine xp_loop (fun n s => ∃ i : Nat, i ≤ l.length ∧ n = l.length - i ∧ okDims (l.take i) = true ∧ s = ⟨[(1, .lp 1 0 0), (3, I 1), (14, v), (15, I l.length), (16, I i)], [(1, 0, [v, B w])], []⟩) l.length ⟨0, by omega, by omega, by simp [okDims], rfl⟩ ?_
    rintro n s ⟨i, hi, rfl, hok, rfl⟩
    rw [xl51_0]; unfold b51_0
    simp -dsimp -implicitDefEqProofs only [go_sem, Nat.reduceEqDiff, Nat.reduceAdd, Nat.reduceMul, Nat.reduceLeDiff, Nat.reduceSub, Nat.reducePow, Nat.reduceDiv, Nat.reduceMod, Int.reduceAdd, Int.reduceLT, Int.reduceLE, Int.reduceToNat, Int.reduceNeg, Int.reduceEq, h.all]
    refine br_intro (fun h5 => ?_) fun h5 => ?_
    · have hlt : i < l.length := by simpa using h5
      have hx : l[i]? = some l[i] := by simp [hlt]
      generalize l[i] = x at hx
      have hno : ¬ (1 ≤ x ∧ x ≤ 256) → shErr l = some .range := fun hn => by
        have : okDims l = false := by
          cases ho : okDims l
          · rfl
          · exact (hn (okDims_get ho hx)).elim
        simp [shErr, h4', this]
      simp -dsimp -implicitDefEqProofs only [go_sem, Nat.reduceEqDiff, Nat.reduceAdd, Nat.reduceMul, Nat.reduceLeDiff, Nat.reduceSub, Nat.reducePow, Nat.reduceDiv, Nat.reduceMod, Int.reduceAdd, Int.reduceLT, Int.reduceLE, Int.reduceToNat, Int.reduceNeg, Int.reduceEq, h.all, h.idxI (i := i) (by omega), Int.toNat_natCast, cutI hx]
      refine br_intro (fun h6 => ?_) fun h6 => ?_
      · simp -dsimp -implicitDefEqProofs only [go_sem, Nat.reduceEqDiff, Nat.reduceAdd, Nat.reduceMul, Nat.reduceLeDiff, Nat.reduceSub, Nat.reducePow, Nat.reduceDiv, Nat.reduceMod, Int.reduceAdd, Int.reduceLT, Int.reduceLE, Int.reduceToNat, Int.reduceNeg, Int.reduceEq, h.all, h6]
        rw [hno (by simp at h6; omega)]
      · simp -dsimp -implicitDefEqProofs only [go_sem, Nat.reduceEqDiff, Nat.reduceAdd, Nat.reduceMul, Nat.reduceLeDiff, Nat.reduceSub, Nat.reducePow, Nat.reduceDiv, Nat.reduceMod, Int.reduceAdd, Int.reduceLT, Int.reduceLE, Int.reduceToNat, Int.reduceNeg, Int.reduceEq, h.all, h6]
        refine br_intro (fun h7 => ?_) fun h7 => ?_
        · simp -dsimp -implicitDefEqProofs only [go_sem, Nat.reduceEqDiff, Nat.reduceAdd, Nat.reduceMul, Nat.reduceLeDiff, Nat.reduceSub, Nat.reducePow, Nat.reduceDiv, Nat.reduceMod, Int.reduceAdd, Int.reduceLT, Int.reduceLE, Int.reduceToNat, Int.reduceNeg, Int.reduceEq, h.all]
          rw [hno (by simp at h7; omega)]
        · simp -dsimp -implicitDefEqProofs only [go_sem, Nat.reduceEqDiff, Nat.reduceAdd, Nat.reduceMul, Nat.reduceLeDiff, Nat.reduceSub, Nat.reducePow, Nat.reduceDiv, Nat.reduceMod, Int.reduceAdd, Int.reduceLT, Int.reduceLE, Int.reduceToNat, Int.reduceNeg, Int.reduceEq, h.all, loopQ_norm]
          refine ⟨_, ?_, i + 1, by omega, rfl, okDims_succ hok hx (by simpa using h6) (by simpa using h7), ?_⟩
          · omega
          · rw [wrap64 (by omega)]; simp
    · have hil : i = l.length := by simp at h5; omega
      have hokl : okDims l = true := by rw [hil, List.take_length] at hok; exact hok
      simp -dsimp -implicitDefEqProofs only [go_sem, Nat.reduceEqDiff, Nat.reduceAdd, Nat.reduceMul, Nat.reduceLeDiff, Nat.reduceSub, Nat.reducePow, Nat.reduceDiv, Nat.reduceMod, Int.reduceAdd, Int.reduceLT, Int.reduceLE, Int.reduceToNat, Int.reduceNeg, Int.reduceEq, h.all]
      refine xp_loop (fun n s => ∃ i : Nat, i ≤ l.length ∧ n = l.length - i ∧ prodI (l.take i) ≤ 16384 ∧ s = ⟨[(3, I (prodI (l.take i))), (29, v), (30, I l.length), (31, I i)], [], []⟩) l.length ⟨0, by omega, by omega, by simp [prodI], rfl⟩ ?_
      rintro n s ⟨j, hj, rfl, hp, rfl⟩
      rw [xl51_1]; unfold b51_1
      simp -dsimp -implicitDefEqProofs only [go_sem, Nat.reduceEqDiff, Nat.reduceAdd, Nat.reduceMul, Nat.reduceLeDiff, Nat.reduceSub, Nat.reducePow, Nat.reduceDiv, Nat.reduceMod, Int.reduceAdd, Int.reduceLT, Int.reduceLE, Int.reduceToNat, Int.reduceNeg, Int.reduceEq, h.all]
      have hp1 := prod_pos (okDims_take hokl j)
      refine br_intro (fun h6 => ?_) fun h6 => ?_
      · have hlt : j < l.length := by simpa using h6
        have hx : l[j]? = some l[j] := by simp [hlt]
        generalize l[j] = x at hx
        have hxr := okDims_get hokl hx
        have hm : prodI (l.take j) * x ≤ 16384 * 256 := Int.mul_le_mul hp hxr.2 (by omega) (by omega)
        have hm0 : 0 ≤ prodI (l.take j) * x := Int.mul_nonneg (by omega) (by omega)
        simp -dsimp -implicitDefEqProofs only [go_sem, Nat.reduceEqDiff, Nat.reduceAdd, Nat.reduceMul, Nat.reduceLeDiff, Nat.reduceSub, Nat.reducePow, Nat.reduceDiv, Nat.reduceMod, Int.reduceAdd, Int.reduceLT, Int.reduceLE, Int.reduceToNat, Int.reduceNeg, Int.reduceEq, h.all, h.idxI (i := j) (by omega), Int.toNat_natCast, cutI hx]
        rw [wrap64 (by omega)]
        refine br_intro (fun h7 => ?_) fun h7 => ?_
        · simp -dsimp -implicitDefEqProofs only [go_sem, Nat.reduceEqDiff, Nat.reduceAdd, Nat.reduceMul, Nat.reduceLeDiff, Nat.reduceSub, Nat.reducePow, Nat.reduceDiv, Nat.reduceMod, Int.reduceAdd, Int.reduceLT, Int.reduceLE, Int.reduceToNat, Int.reduceNeg, Int.reduceEq, h.all]
          have h7' : 16384 < prodI (l.take (j + 1)) := by rw [prod_succ l hx]; simpa using h7
          have : prodI (l.take (j + 1)) ≤ prodI l := by
            rw [prod_take l (j + 1)]
            exact foldl_ge _ _ (by omega) (okDims_drop hokl _)
          rw [show shErr l = some .many by simp [shErr, h4', hokl, show 16384 < prodI l by omega]]
        · simp -dsimp -implicitDefEqProofs only [go_sem, Nat.reduceEqDiff, Nat.reduceAdd, Nat.reduceMul, Nat.reduceLeDiff, Nat.reduceSub, Nat.reducePow, Nat.reduceDiv, Nat.reduceMod, Int.reduceAdd, Int.reduceLT, Int.reduceLE, Int.reduceToNat, Int.reduceNeg, Int.reduceEq, h.all, loopQ_norm]
          refine ⟨_, ?_, j + 1, by omega, rfl, by rw [prod_succ l hx]; simpa using h7, ?_⟩
          · omega
          · rw [wrap64 (by omega), prod_succ l hx]; simp
      · simp -dsimp -implicitDefEqProofs only [go_sem, Nat.reduceEqDiff, Nat.reduceAdd, Nat.reduceMul, Nat.reduceLeDiff, Nat.reduceSub, Nat.reducePow, Nat.reduceDiv, Nat.reduceMod, Int.reduceAdd, Int.reduceLT, Int.reduceLE, Int.reduceToNat, Int.reduceNeg, Int.reduceEq, h.all]
        have hjl : j = l.length := by simp at h6; omega
        rw [hjl, List.take_length] at hp
        rw [show shErr l = none by simp [shErr, h4', hokl, show ¬ 16384 < prodI l by omega]]
        rfl

theorem fair_ans {v : AV} {l : List Int} (h : Ints v l) : ansL (EE tok prot) 73 [v] = some (B (shErr l).isNone) := by
  refine ansL_of (g := 73) rfl xc73 (by simp [h.isLp]) rfl ?_
  unfold x73
  simp -dsimp -implicitDefEqProofs only [go_sem, Nat.reduceEqDiff, Nat.reduceAdd, Nat.reduceMul, Nat.reduceLeDiff, Nat.reduceSub, Nat.reducePow, Nat.reduceDiv, Nat.reduceMod, Int.reduceAdd, Int.reduceLT, Int.reduceLE, Int.reduceToNat, Int.reduceNeg, Int.reduceEq, h.all, valid_ans h]

theorem elems_ans {v : AV} {l : List Int} (h : Ints v l) : ansL (EE tok prot) 50 [v] = some (I (elems l)) := by
  refine ansL_of (g := 50) rfl xc50 (by simp [h.isLp]) rfl ?_
  unfold x50
  simp -dsimp -implicitDefEqProofs only [go_sem, Nat.reduceEqDiff, Nat.reduceAdd, Nat.reduceMul, Nat.reduceLeDiff, Nat.reduceSub, Nat.reducePow, Nat.reduceDiv, Nat.reduceMod, Int.reduceAdd, Int.reduceLT, Int.reduceLE, Int.reduceToNat, Int.reduceNeg, Int.reduceEq, h.all, fair_ans h]
  refine br_intro (fun h4 => ?_) fun h4 => ?_
  · have hv : shErr l = none := by simpa using h4
    have hok : okDims l = true := by
      cases ho : okDims l
      · unfold shErr at hv; split at hv
        · cases hv
        · simp [ho] at hv
      · rfl
    have hpr : prodI l ≤ 16384 := by
      unfold shErr at hv; split at hv
      · cases hv
      · simp [hok] at hv; omega
    have hl4 : l.length ≤ 4 := by
      unfold shErr at hv; split at hv
      · cases hv
      · omega
    simp -dsimp -implicitDefEqProofs only [go_sem, Nat.reduceEqDiff, Nat.reduceAdd, Nat.reduceMul, Nat.reduceLeDiff, Nat.reduceSub, Nat.reducePow, Nat.reduceDiv, Nat.reduceMod, Int.reduceAdd, Int.reduceLT, Int.reduceLE, Int.reduceToNat, Int.reduceNeg, Int.reduceEq, h.all]
    refine xp_loop (fun n s => ∃ i : Nat, i ≤ l.length ∧ n = l.length - i ∧ s = ⟨[(3, I (prodI (l.take i))), (9, v), (10, I l.length), (11, I i)], [], []⟩) l.length ⟨0, by omega, by omega, by simp [prodI]⟩ ?_
    rintro n s ⟨j, hj, rfl, rfl⟩
    rw [xl50_0]; unfold b50_0
    simp -dsimp -implicitDefEqProofs only [go_sem, Nat.reduceEqDiff, Nat.reduceAdd, Nat.reduceMul, Nat.reduceLeDiff, Nat.reduceSub, Nat.reducePow, Nat.reduceDiv, Nat.reduceMod, Int.reduceAdd, Int.reduceLT, Int.reduceLE, Int.reduceToNat, Int.reduceNeg, Int.reduceEq, h.all]
    refine br_intro (fun h6 => ?_) fun h6 => ?_
    · have hlt : j < l.length := by simpa using h6
      have hx : l[j]? = some l[j] := by simp [hlt]
      generalize l[j] = x at hx
      have hp1 := prod_pos (okDims_take hok j)
      have hps := prod_succ l hx
      have hp2 := prod_pos (okDims_take hok (j + 1))
      have : prodI (l.take (j + 1)) ≤ prodI l := by
        rw [prod_take l (j + 1)]
        exact foldl_ge _ _ (by omega) (okDims_drop hok _)
      simp -dsimp -implicitDefEqProofs only [go_sem, Nat.reduceEqDiff, Nat.reduceAdd, Nat.reduceMul, Nat.reduceLeDiff, Nat.reduceSub, Nat.reducePow, Nat.reduceDiv, Nat.reduceMod, Int.reduceAdd, Int.reduceLT, Int.reduceLE, Int.reduceToNat, Int.reduceNeg, Int.reduceEq, h.all, h.idxI (i := j) (by omega), Int.toNat_natCast, cutI hx, loopQ_norm]
      refine ⟨_, ?_, j + 1, by omega, rfl, ?_⟩
      · omega
      · rw [wrap64 (by omega), wrap64 (by omega), hps]; simp
    · have hjl : j = l.length := by simp at h6; omega
      simp -dsimp -implicitDefEqProofs only [go_sem, Nat.reduceEqDiff, Nat.reduceAdd, Nat.reduceMul, Nat.reduceLeDiff, Nat.reduceSub, Nat.reducePow, Nat.reduceDiv, Nat.reduceMod, Int.reduceAdd, Int.reduceLT, Int.reduceLE, Int.reduceToNat, Int.reduceNeg, Int.reduceEq, h.all]
      simp [elems, hv, hjl]
  · simp -dsimp -implicitDefEqProofs only [go_sem, Nat.reduceEqDiff, Nat.reduceAdd, Nat.reduceMul, Nat.reduceLeDiff, Nat.reduceSub, Nat.reducePow, Nat.reduceDiv, Nat.reduceMod, Int.reduceAdd, Int.reduceLT, Int.reduceLE, Int.reduceToNat, Int.reduceNeg, Int.reduceEq, h.all]
    have : shErr l ≠ none := by intro e; simp [e] at h4
    simp [elems, this]

theorem elems_range (l : List Int) : 0 ≤ elems l ∧ elems l ≤ 16384 := by
  unfold elems
  split
  · rename_i hv
    have hok : okDims l = true := by
      cases ho : okDims l
      · unfold shErr at hv; split at hv
        · cases hv
        · simp [ho] at hv
      · rfl
    have hpr : prodI l ≤ 16384 := by
      unfold shErr at hv; split at hv
      · cases hv
      · simp [hok] at hv; omega
    have := prod_pos hok
    omega
  · omega

theorem bytes_ans {v : AV} {l : List Int} (h : Ints v l) (w : Bool) : ansL (EE tok prot) 32 [.agg [v, B w]] = some (I (bytesD w l)) := by
  refine ansL_of (g := 32) rfl xc32 rfl rfl ?_
  unfold x32
  have := elems_range l
  simp -dsimp -implicitDefEqProofs only [go_sem, Nat.reduceEqDiff, Nat.reduceAdd, Nat.reduceMul, Nat.reduceLeDiff, Nat.reduceSub, Nat.reducePow, Nat.reduceDiv, Nat.reduceMod, Int.reduceAdd, Int.reduceLT, Int.reduceLE, Int.reduceToNat, Int.reduceNeg, Int.reduceEq, h.all, elems_ans h]
  refine br_intro (fun h4 => ?_) fun h4 => ?_
  · subst h4
    simp -dsimp -implicitDefEqProofs only [go_sem, Nat.reduceEqDiff, Nat.reduceAdd, Nat.reduceMul, Nat.reduceLeDiff, Nat.reduceSub, Nat.reducePow, Nat.reduceDiv, Nat.reduceMod, Int.reduceAdd, Int.reduceLT, Int.reduceLE, Int.reduceToNat, Int.reduceNeg, Int.reduceEq, h.all, elems_ans h]
    rw [wrap64 (by omega)]; rfl
  · subst h4
    simp -dsimp -implicitDefEqProofs only [go_sem, Nat.reduceEqDiff, Nat.reduceAdd, Nat.reduceMul, Nat.reduceLeDiff, Nat.reduceSub, Nat.reducePow, Nat.reduceDiv, Nat.reduceMod, Int.reduceAdd, Int.reduceLT, Int.reduceLE, Int.reduceToNat, Int.reduceNeg, Int.reduceEq, h.all, elems_ans h]
    rfl
theorem bytes_range (w : Bool) (l : List Int) : 0 ≤ bytesD w l ∧ bytesD w l ≤ 65536 := by
  have := elems_range l
  unfold bytesD; split <;> omega

def apart (o1 : Int) (w1 : Bool) (l1 : List Int) (o2 : Int) (w2 : Bool) (l2 : List Int) : Bool := decide (o1 + bytesD w1 l1 ≤ o2) || decide (o2 + bytesD w2 l2 ≤ o1)
theorem apart_ans {v1 v2 : AV} {l1 l2 : List Int} (h1 : Ints v1 l1) (h2 : Ints v2 l2) {o1 o2 : Int} (w1 w2 : Bool) (b1 : -1000000000 ≤ o1 ∧ o1 ≤ 1000000000000) (b2 : -1000000000 ≤ o2 ∧ o2 ≤ 1000000000000) :
    ansL (EE tok prot) 17 [.agg [I o1, v1, B w1], .agg [I o2, v2, B w2]] = some (B (apart o1 w1 l1 o2 w2 l2)) := by
  refine ansL_of (g := 17) rfl xc17 rfl rfl ?_
  unfold x17
  have r1 := bytes_range w1 l1
  have r2 := bytes_range w2 l2
  simp -dsimp -implicitDefEqProofs only [go_sem, Nat.reduceEqDiff, Nat.reduceAdd, Nat.reduceMul, Nat.reduceLeDiff, Nat.reduceSub, Nat.reducePow, Nat.reduceDiv, Nat.reduceMod, Int.reduceAdd, Int.reduceLT, Int.reduceLE, Int.reduceToNat, Int.reduceNeg, Int.reduceEq, h1.all, h2.all, bytes_ans h1, bytes_ans h2]
  rw [wrap64 (by omega)]
  refine br_intro (fun h4 => ?_) fun h4 => ?_
  · simp -dsimp -implicitDefEqProofs only [go_sem, Nat.reduceEqDiff, Nat.reduceAdd, Nat.reduceMul, Nat.reduceLeDiff, Nat.reduceSub, Nat.reducePow, Nat.reduceDiv, Nat.reduceMod, Int.reduceAdd, Int.reduceLT, Int.reduceLE, Int.reduceToNat, Int.reduceNeg, Int.reduceEq, h1.all, h2.all, bytes_ans h1, bytes_ans h2, h4]
    simp at h4
    simp [apart, h4]
  · simp -dsimp -implicitDefEqProofs only [go_sem, Nat.reduceEqDiff, Nat.reduceAdd, Nat.reduceMul, Nat.reduceLeDiff, Nat.reduceSub, Nat.reducePow, Nat.reduceDiv, Nat.reduceMod, Int.reduceAdd, Int.reduceLT, Int.reduceLE, Int.reduceToNat, Int.reduceNeg, Int.reduceEq, h1.all, h2.all, bytes_ans h1, bytes_ans h2, h4]
    rw [wrap64 (by omega)]
    simp at h4
    simp [apart, show ¬ (o1 + bytesD w1 l1 ≤ o2) by omega]
end Go.Proofs.YtcfaajaccbadbaaDoor
