/- lodgelaw15.CheckApart answers true, whatever its input. -/
import Derived.Test.YtcfaajaccbadbaaDoorRshape
import Derived.Test.YtcfaajaccbadbaaDoorChfirst
set_option linter.unusedVariables false
set_option linter.unusedSimpArgs false
namespace Go.Proofs.YtcfaajaccbadbaaDoor
open Go Ahm
variable {tok : Nat → Value} {prot : Nat → Obj → Prop}

theorem ints1 (k : Int) : Ints (.fs [I k] 1) [k] := .inr (.inr rfl)

/-- Is a byte below the i-th in both? -/
def upTo (p p' q q' : Int) (i : Nat) : Bool := (List.range i).any fun j => (decide (p ≤ j) && decide ((j : Int) < p')) && (decide (q ≤ j) && decide ((j : Int) < q'))
theorem upTo_succ {p p' q q' : Int} {i : Nat} : upTo p p' q q' (i + 1) = (upTo p p' q q' i || ((decide (p ≤ i) && decide ((i : Int) < p')) && (decide (q ≤ i) && decide ((i : Int) < q')))) := by
  unfold upTo
  rw [List.range_succ, List.any_append]
  simp

theorem bytes1 (w : Bool) {k : Int} (h : 1 ≤ k ∧ k ≤ 60) : bytesD w [k] = if w then 4 * k else k := by
  have ho : okDims [k] = true := by simp [okDims]; omega
  have hk : ¬ 16384 < prodI [k] := by simp [prodI]; omega
  have e : shErr [k] = none := by simp [shErr, ho, hk]
  have e2 : elems [k] = k := by simp [elems, e, prodI]
  simp [bytesD, e2]
theorem upTo_iff {p p' q q' : Int} {i : Nat} : upTo p p' q q' i = true ↔ ∃ j : Nat, j < i ∧ p ≤ j ∧ (j : Int) < p' ∧ q ≤ j ∧ (j : Int) < q' := by
  unfold upTo
  rw [List.any_eq_true]
  constructor
  · rintro ⟨j, hj, h⟩
    simp at hj h
    exact ⟨j, hj, h.1.1, h.1.2, h.2.1, h.2.2⟩
  · rintro ⟨j, hj, h1, h2, h3, h4⟩
    exact ⟨j, by simpa using hj, by simp [h1, h2, h3, h4]⟩
theorem apart_iff {p q bp bq : Int} (hp : 0 ≤ p ∧ p < 300) (hq : 0 ≤ q ∧ q < 300) (h1 : 1 ≤ bp ∧ bp ≤ 240) (h2 : 1 ≤ bq ∧ bq ≤ 240) :
    (decide (p + bp ≤ q) || decide (q + bq ≤ p)) = !upTo p (p + bp) q (q + bq) 700 := by
  cases hu : upTo p (p + bp) q (q + bq) 700
  · simp only [Bool.not_false, Bool.or_eq_true, decide_eq_true_eq]
    refine Classical.byContradiction fun hn => ?_
    have : upTo p (p + bp) q (q + bq) 700 = true := upTo_iff.2 ⟨(max p q).toNat, by omega, by omega, by omega, by omega, by omega⟩
    rw [hu] at this; cases this
  · obtain ⟨j, _, h3, h4, h5, h6⟩ := upTo_iff.1 hu
    simp only [Bool.not_true, Bool.or_eq_false_iff, decide_eq_false_iff_not]
    omega

set_option maxRecDepth 100000 in
theorem apart_law (a b m n : Int) (u v : Bool) : ansL (EE tok prot) 4 [I a, I b, I m, I n, B u, B v] = some (B true) := by
  refine ansL_of (g := 4) rfl xc4 rfl rfl ?_
  unfold x4
  have r1 := num_range a (m := 300) (by omega) (by omega)
  have r2 := num_range b (m := 300) (by omega) (by omega)
  have r3 := num_range m (m := 60) (by omega) (by omega)
  have r4 := num_range n (m := 60) (by omega) (by omega)
  have n1 : ∀ x, ansL (EE tok prot) 9 [I x, I 300] = some (I (num x 300)) := fun x => number_ans x (by omega)
  have n2 : ∀ x, ansL (EE tok prot) 9 [I x, I 60] = some (I (num x 60)) := fun x => number_ans x (by omega)
  simp -dsimp -implicitDefEqProofs only [go_sem, Nat.reduceEqDiff, Nat.reduceAdd, Nat.reduceMul, Nat.reduceLeDiff, Nat.reduceSub, first_ans, n1, n2]
  rw [wrap64 (z := num m 60 + 1) (by omega), wrap64 (z := num n 60 + 1) (by omega)]
  have b1 : 1 ≤ bytesD u [num m 60 + 1] ∧ bytesD u [num m 60 + 1] ≤ 240 := by rw [bytes1 u (by omega)]; split <;> omega
  have b2 : 1 ≤ bytesD v [num n 60 + 1] ∧ bytesD v [num n 60 + 1] ≤ 240 := by rw [bytes1 v (by omega)]; split <;> omega
  have s1 : ∀ k, ansL (EE tok prot) 16 [.agg [.fs [I k] 1, B u]] = some (I (bytesD u [k])) := fun k => rsize_ans (ints1 k) u
  have s2 : ∀ k, ansL (EE tok prot) 16 [.agg [.fs [I k] 1, B v]] = some (I (bytesD v [k])) := fun k => rsize_ans (ints1 k) v
  have a1 : ∀ o1 o2 : Int, (0 ≤ o1 ∧ o1 < 300) ∧ (0 ≤ o2 ∧ o2 < 300) → ansL (EE tok prot) 17 [.agg [I o1, .fs [I (num m 60 + 1)] 1, B u], .agg [I o2, .fs [I (num n 60 + 1)] 1, B v]] = some (B (apart o1 u [num m 60 + 1] o2 v [num n 60 + 1])) := fun o1 o2 h => apart_ans (ints1 _) (ints1 _) u v (by omega) (by omega)
  have a2 : ∀ o1 o2 : Int, (0 ≤ o1 ∧ o1 < 300) ∧ (0 ≤ o2 ∧ o2 < 300) → ansL (EE tok prot) 17 [.agg [I o2, .fs [I (num n 60 + 1)] 1, B v], .agg [I o1, .fs [I (num m 60 + 1)] 1, B u]] = some (B (apart o2 v [num n 60 + 1] o1 u [num m 60 + 1])) := fun o1 o2 h => apart_ans (ints1 _) (ints1 _) v u (by omega) (by omega)
  have a3 : ∀ o1 : Int, (0 ≤ o1 ∧ o1 < 300) → ansL (EE tok prot) 17 [.agg [I o1, .fs [I (num m 60 + 1)] 1, B u], .agg [I o1, .fs [I (num m 60 + 1)] 1, B u]] = some (B (apart o1 u [num m 60 + 1] o1 u [num m 60 + 1])) := fun o1 h => apart_ans (ints1 _) (ints1 _) u u (by omega) (by omega)
  generalize num a 300 = p at *
  generalize num b 300 = q at *
  generalize num m 60 + 1 = k at *
  generalize num n 60 + 1 = j at *
  refine xp_loop (fun n s => ∃ i : Nat, i ≤ 700 ∧ n = 700 - i ∧ s = ⟨[(13, B true), (14, .lp 14 0 0), (15, .lp 15 0 0), (16, B (upTo p (p + bytesD u [k]) q (q + bytesD v [j]) i)), (17, I i)], [(14, 0, [I p, .sl 0 0 1 1, B u]), (15, 0, [I q, .sl 1 0 1 1, B v])], [.arr [I k] 3 true, .arr [I j] 3 true]⟩) 700 ⟨0, by omega, by omega, rfl⟩ ?_
  rintro n s ⟨i, hi, rfl, rfl⟩
  unfold l4_0
  simp -dsimp -implicitDefEqProofs only [go_sem, Nat.reduceEqDiff, Nat.reduceAdd, Nat.reduceMul, Nat.reduceLeDiff, Nat.reduceSub]
  refine br_intro (fun h5 => ?_) fun h5 => ?_
  · have hlt : i < 700 := by simp at h5; omega
    have w1 : IntKind.wrap .i64 (p + bytesD u [k]) = p + bytesD u [k] := wrap64 (by omega)
    have w2 : IntKind.wrap .i64 (q + bytesD v [j]) = q + bytesD v [j] := wrap64 (by omega)
    have w3 : IntKind.wrap .i64 ((i : Int) + 1) = ((i + 1 : Nat) : Int) := by rw [wrap64 (by omega)]; simp
    have fin : ∀ (b : Bool), b = upTo p (p + bytesD u [k]) q (q + bytesD v [j]) (i + 1) → ∃ m, m < 700 - i ∧ ∃ i' : Nat, i' ≤ 700 ∧ m = 700 - i' ∧ (⟨[(13, B true), (14, .lp 14 0 0), (15, .lp 15 0 0), (16, B b), (17, I ((i + 1 : Nat) : Int))], [(14, 0, [I p, .sl 0 0 1 1, B u]), (15, 0, [I q, .sl 1 0 1 1, B v])], [.arr [I k] 3 true, .arr [I j] 3 true]⟩ : St) = ⟨[(13, B true), (14, .lp 14 0 0), (15, .lp 15 0 0), (16, B (upTo p (p + bytesD u [k]) q (q + bytesD v [j]) i')), (17, I i')], [(14, 0, [I p, .sl 0 0 1 1, B u]), (15, 0, [I q, .sl 1 0 1 1, B v])], [.arr [I k] 3 true, .arr [I j] 3 true]⟩ := fun b hb => ⟨_, by omega, i + 1, by omega, rfl, by rw [hb]⟩
    rw [upTo_succ] at fin
    simp -dsimp -implicitDefEqProofs only [go_sem, Nat.reduceEqDiff, Nat.reduceAdd, Nat.reduceMul, Nat.reduceLeDiff, Nat.reduceSub, s1, s2, w1, w2, w3, loopQ_norm]
    repeat' (refine br_intro (fun hh => ?_) fun hh => ?_ <;> try simp -dsimp -implicitDefEqProofs only [go_sem, Nat.reduceEqDiff, Nat.reduceAdd, Nat.reduceMul, Nat.reduceLeDiff, Nat.reduceSub, hh, s1, s2, w1, w2, w3, loopQ_norm])
    all_goals (refine fin _ ?_)
    all_goals (try simp_all)
    all_goals (intros; omega)
  · simp -dsimp -implicitDefEqProofs only [go_sem, Nat.reduceEqDiff, Nat.reduceAdd, Nat.reduceMul, Nat.reduceLeDiff, Nat.reduceSub, h5]
    have hi700 : i = 700 := by simp at h5; omega
    subst hi700
    have c1 := a1 p q ⟨r1, r2⟩
    have c2 := a2 p q ⟨r1, r2⟩
    have c3 := a3 p r1
    have e1 : apart p u [k] q v [j] = !upTo p (p + bytesD u [k]) q (q + bytesD v [j]) 700 := apart_iff r1 r2 b1 b2
    have e2 : apart q v [j] p u [k] = !upTo p (p + bytesD u [k]) q (q + bytesD v [j]) 700 := by rw [← e1]; unfold apart; rw [Bool.or_comm]
    have e3 : apart p u [k] p u [k] = false := by simp [apart]; omega
    rw [e1] at c1
    rw [e2] at c2
    rw [e3] at c3
    generalize upTo p (p + bytesD u [k]) q (q + bytesD v [j]) 700 = z at *
    cases z <;> simp -dsimp -implicitDefEqProofs only [go_sem, Nat.reduceEqDiff, Nat.reduceAdd, Nat.reduceMul, Nat.reduceLeDiff, Nat.reduceSub, h5, c1, c2, c3, beq_self_eq_true]
end Go.Proofs.YtcfaajaccbadbaaDoor
