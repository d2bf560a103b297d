/- What operations' answers look like: products. -/
import Derived.Test.YtcfaajaccbadbaaDoorOp1
set_option linter.unusedVariables false
set_option linter.unusedSimpArgs false
namespace Go.Proofs.YtcfaajaccbadbaaDoor
open Go Ahm
variable {tok : Nat → Value} {prot : Nat → Obj → Prop}

/-- what an answer looks like, or why there is none -/
abbrev DR := Except Er (List Int × Bool)
def DR.e : DR → Option Er
  | .error e => some e
  | .ok _ => none
def DR.l : DR → List Int
  | .error _ => []
  | .ok p => p.1
def DR.w : DR → Bool
  | .error _ => false
  | .ok p => p.2
/-- an answer of a description and an error -/
def IsDR (r : DR) (a : AV) : Prop := ∃ v, a = .tup [.agg [v, B r.w], erA r.e] ∧ Ints v r.l
def Ans (E : Env) (f : Nat) (args : List AV) (r : DR) : Prop := ∃ a, ansL E f args = some a ∧ IsDR r a
theorem isDR_err {r : DR} {e : Er} (h : r = .error e) : IsDR r (.tup [.agg [nilS, B false], erA (some e)]) := by subst h; exact ⟨nilS, rfl, Sl.nil⟩
theorem isDR_ok {r : DR} {v : AV} {l : List Int} {w : Bool} (h : r = .ok (l, w)) (hv : Ints v l) : IsDR r (.tup [.agg [v, B w], .sc .nilIface]) := by subst h; exact ⟨v, rfl, hv⟩

def matRes (za zb : Int) (l1 : List Int) (w1 : Bool) (l2 : List Int) (w2 : Bool) : DR :=
  match shErr l1 with
  | some e => .error e
  | none => match shErr l2 with
    | some e => .error e
    | none => match l1, l2 with
      | [m, k], [k', n] => if k ≠ k' ∨ w1 = true ∨ w2 = true then .error .shape else if narrowI za ≠ za ∨ narrowI zb ≠ zb then .error .range else match shErr [m, n] with
        | some e => .error e
        | none => .ok ([m, n], true)
      | _, _ => .error .shape

theorem len2 {l : List Int} (h : l.length = 2) : ∃ a b, l = [a, b] := by
  match l, h with
  | [a, b], _ => exact ⟨a, b, rfl⟩
theorem len_ne {l : List Int} {n : Nat} (h : l.length ≠ n) : decide ((l.length : Int) = n) = false := by simp; omega
theorem ints2 (a b : Int) : Ints (.fs [I a, I b] 2) [a, b] := .inr (.inr rfl)
theorem ints3 (a b c : Int) : Ints (.fs [I a, I b, I c] 3) [a, b, c] := .inr (.inr rfl)

theorem mat_ans {v1 v2 : AV} {l1 l2 : List Int} (h1 : Ints v1 l1) (h2 : Ints v2 l2) (w1 w2 : Bool) (za zb : Int) : Ans (EE tok prot) 60 [I za, I zb, .agg [v1, B w1], .agg [v2, B w2]] (matRes za zb l1 w1 l2 w2) := by
  have e1 := valid_ans (tok := tok) (prot := prot) h1 w1
  have e2 := valid_ans (tok := tok) (prot := prot) h2 w2
  have hsh : (∃ m k k' n, l1 = [m, k] ∧ l2 = [k', n]) ∨ (l1.length : Int) ≠ 2 ∨ (l2.length : Int) ≠ 2 := by
    by_cases h : l1.length = 2
    · by_cases h' : l2.length = 2
      · obtain ⟨m, k, rfl⟩ := len2 h
        obtain ⟨k', n, rfl⟩ := len2 h'
        exact .inl ⟨m, k, k', n, rfl, rfl⟩
      · exact .inr (.inr (by omega))
    · exact .inr (.inl (by omega))
  refine ansL_ofP (g := 60) rfl xc60 rfl rfl ?_
  unfold x60
  rcases hsh with ⟨m, k, k', n, rfl, rfl⟩ | hne
  · have i1 : xiaS 1 v1 (I 0) = some (.fp ([m, k].flatMap fI) 0) := h1.idxI (i := 0) (by simp)
    have i2 : xiaS 1 v1 (I 1) = some (.fp ([m, k].flatMap fI) 1) := h1.idxI (i := 1) (by simp)
    have i3 : xiaS 1 v2 (I 0) = some (.fp ([k', n].flatMap fI) 0) := h2.idxI (i := 0) (by simp)
    have i4 : xiaS 1 v2 (I 1) = some (.fp ([k', n].flatMap fI) 1) := h2.idxI (i := 1) (by simp)
    have j1 : cut ([m, k].flatMap fI) 0 1 = some [I m] := cutI (l := [m, k]) (i := 0) rfl
    have j2 : cut ([m, k].flatMap fI) 1 1 = some [I k] := cutI (l := [m, k]) (i := 1) rfl
    have j3 : cut ([k', n].flatMap fI) 0 1 = some [I k'] := cutI (l := [k', n]) (i := 0) rfl
    have j4 : cut ([k', n].flatMap fI) 1 1 = some [I n] := cutI (l := [k', n]) (i := 1) rfl
    have e3 : ansL (EE tok prot) 51 [.agg [.fs [I m, I n] 2, B true]] = some (erA (shErr [m, n])) := valid_ans (ints2 m n) true
    cases hs1 : shErr [m, k] <;> cases hs2 : shErr [k', n] <;> cases hs3 : shErr [m, n]
    all_goals (
      simp only [hs1, hs2, hs3] at e1 e2 e3
      repeat' (first | refine br_intro (fun hh => ?_) fun hh => ?_ | simp -dsimp -implicitDefEqProofs only [go_sem, Nat.reduceEqDiff, Nat.reduceAdd, Nat.reduceMul, Nat.reduceLeDiff, Nat.reduceSub, Nat.reducePow, Nat.reduceDiv, Nat.reduceMod, Int.reduceAdd, Int.reduceLT, Int.reduceLE, Int.reduceToNat, Int.reduceNeg, Int.reduceEq, *, h1.all, h2.all])
      all_goals (try (rw [xp_loop1, xl60_0]; unfold b60_0; repeat' (first | refine br_intro (fun hh => ?_) fun hh => ?_ | simp -dsimp -implicitDefEqProofs only [go_sem, Nat.reduceEqDiff, Nat.reduceAdd, Nat.reduceMul, Nat.reduceLeDiff, Nat.reduceSub, Nat.reducePow, Nat.reduceDiv, Nat.reduceMod, Int.reduceAdd, Int.reduceLT, Int.reduceLE, Int.reduceToNat, Int.reduceNeg, Int.reduceEq, *, h1.all, h2.all, Option.isSome_none, Option.isSome_some])))
      all_goals (try (rw [xp_loop1, xl60_0]; unfold b60_0; repeat' (first | refine br_intro (fun hh => ?_) fun hh => ?_ | simp -dsimp -implicitDefEqProofs only [go_sem, Nat.reduceEqDiff, Nat.reduceAdd, Nat.reduceMul, Nat.reduceLeDiff, Nat.reduceSub, Nat.reducePow, Nat.reduceDiv, Nat.reduceMod, Int.reduceAdd, Int.reduceLT, Int.reduceLE, Int.reduceToNat, Int.reduceNeg, Int.reduceEq, *, h1.all, h2.all, Option.isSome_none, Option.isSome_some])))
      all_goals (try (rw [xp_loop1, xl60_0]; unfold b60_0; repeat' (first | refine br_intro (fun hh => ?_) fun hh => ?_ | simp -dsimp -implicitDefEqProofs only [go_sem, Nat.reduceEqDiff, Nat.reduceAdd, Nat.reduceMul, Nat.reduceLeDiff, Nat.reduceSub, Nat.reducePow, Nat.reduceDiv, Nat.reduceMod, Int.reduceAdd, Int.reduceLT, Int.reduceLE, Int.reduceToNat, Int.reduceNeg, Int.reduceEq, *, h1.all, h2.all, Option.isSome_none, Option.isSome_some, i1, i2, i3, i4, j1, j2, j3, j4, e3, mnarrow_ans, List.length_cons, List.length_nil])))
      all_goals first
        | (refine isDR_err ?_; simp_all [matRes]; done)
        | (refine isDR_ok ?_ (ints2 m n); simp_all [matRes]; done)
        | skip)
  · have hm : shErr l1 = none → shErr l2 = none → matRes za zb l1 w1 l2 w2 = .error .shape := fun g1 g2 => by
      rcases l1 with _ | ⟨a, _ | ⟨b, _ | ⟨c, r⟩⟩⟩ <;> rcases l2 with _ | ⟨a', _ | ⟨b', _ | ⟨c', r'⟩⟩⟩ <;> simp [matRes, g1, g2] <;> simp at hne
    cases hs1 : shErr l1 <;> cases hs2 : shErr l2
    all_goals (
      simp only [hs1, hs2] at e1 e2
      repeat' (first | refine br_intro (fun hh => ?_) fun hh => ?_ | simp -dsimp -implicitDefEqProofs only [go_sem, Nat.reduceEqDiff, Nat.reduceAdd, Nat.reduceMul, Nat.reduceLeDiff, Nat.reduceSub, Nat.reducePow, Nat.reduceDiv, Nat.reduceMod, Int.reduceAdd, Int.reduceLT, Int.reduceLE, Int.reduceToNat, Int.reduceNeg, Int.reduceEq, *, h1.all, h2.all])
      all_goals (try (rw [xp_loop1, xl60_0]; unfold b60_0; repeat' (first | refine br_intro (fun hh => ?_) fun hh => ?_ | simp -dsimp -implicitDefEqProofs only [go_sem, Nat.reduceEqDiff, Nat.reduceAdd, Nat.reduceMul, Nat.reduceLeDiff, Nat.reduceSub, Nat.reducePow, Nat.reduceDiv, Nat.reduceMod, Int.reduceAdd, Int.reduceLT, Int.reduceLE, Int.reduceToNat, Int.reduceNeg, Int.reduceEq, *, h1.all, h2.all, Option.isSome_none, Option.isSome_some])))
      all_goals (try (rw [xp_loop1, xl60_0]; unfold b60_0; repeat' (first | refine br_intro (fun hh => ?_) fun hh => ?_ | simp -dsimp -implicitDefEqProofs only [go_sem, Nat.reduceEqDiff, Nat.reduceAdd, Nat.reduceMul, Nat.reduceLeDiff, Nat.reduceSub, Nat.reducePow, Nat.reduceDiv, Nat.reduceMod, Int.reduceAdd, Int.reduceLT, Int.reduceLE, Int.reduceToNat, Int.reduceNeg, Int.reduceEq, *, h1.all, h2.all, Option.isSome_none, Option.isSome_some]))))
    all_goals (try (refine isDR_err ?_; simp_all [matRes]; done))
    all_goals (rw [xp_loop1, xl60_0]; unfold b60_0)
    by_cases hl1 : (l1.length : Int) = 2
    · have hl2 : decide ((l2.length : Int) = 2) = false := by simp; omega
      have hl1' : decide ((l1.length : Int) = 2) = true := by simp; omega
      repeat' (first | refine br_intro (fun hh => ?_) fun hh => ?_ | simp -dsimp -implicitDefEqProofs only [go_sem, Nat.reduceEqDiff, Nat.reduceAdd, Nat.reduceMul, Nat.reduceLeDiff, Nat.reduceSub, Nat.reducePow, Nat.reduceDiv, Nat.reduceMod, Int.reduceAdd, Int.reduceLT, Int.reduceLE, Int.reduceToNat, Int.reduceNeg, Int.reduceEq, *, h1.all, h2.all, hl1', hl2])
      all_goals (refine isDR_err ?_; first | rfl | exact hm hs1 hs2)
    · have hl1' : decide ((l1.length : Int) = 2) = false := by simp; omega
      repeat' (first | refine br_intro (fun hh => ?_) fun hh => ?_ | simp -dsimp -implicitDefEqProofs only [go_sem, Nat.reduceEqDiff, Nat.reduceAdd, Nat.reduceMul, Nat.reduceLeDiff, Nat.reduceSub, Nat.reducePow, Nat.reduceDiv, Nat.reduceMod, Int.reduceAdd, Int.reduceLT, Int.reduceLE, Int.reduceToNat, Int.reduceNeg, Int.reduceEq, *, h1.all, h2.all, hl1'])
      all_goals (refine isDR_err ?_; first | rfl | exact hm hs1 hs2)
end Go.Proofs.YtcfaajaccbadbaaDoor
