/- lodgelaw15.CheckCosts answers true, whatever its input. -/
import Derived.Test.YtcfaajaccbadbaaDoorCh4
import Derived.Test.YtcfaajaccbadbaaDoorOp3
import Derived.Test.YtcfaajaccbadbaaDoorRshape
import Derived.Test.YtcfaajaccbadbaaDoorChfirst
set_option linter.unusedVariables false
set_option linter.unusedSimpArgs false
namespace Go.Proofs.YtcfaajaccbadbaaDoor
open Go Ahm
variable {tok : Nat → Value} {prot : Nat → Obj → Prop}

/-- the plan -/
abbrev pc (M K F T : Int) : Pl where
  size := 20000
  vv := .fs [I 0, .fs [I M, I K] 2, B false, I 5000, .fs [I K, I 1] 2, B false, I 8000, .fs [I M, I 1] 2, B true] 3
  views := [⟨0, .fs [I M, I K] 2, [M, K], false⟩, ⟨5000, .fs [I K, I 1] 2, [K, 1], false⟩, ⟨8000, .fs [I M, I 1] 2, [M, 1], true⟩]
  cv := nilS
  consts := []
  wv := nilS
  weights := []
  kv := .fs [I 12, I 2, .fs [I 0, I 1] 2, .fs [I 0, I 0] 2, I F, I T] 1
  code := [⟨12, 2, .fs [I 0, I 1] 2, [0, 1], .fs [I 0, I 0] 2, [0, 0], F, T⟩]
  inp := 0
  out := 0
abbrev ic (F T : Int) : In := ⟨12, 2, .fs [I 0, I 1] 2, [0, 1], .fs [I 0, I 0] 2, [0, 0], F, T⟩

theorem sh2 {a b : Int} (ha : 1 ≤ a ∧ a ≤ 60) (hb : 1 ≤ b ∧ b ≤ 60) : shErr [a, b] = none ∧ elems [a, b] = a * b := by
  have ho : okDims [a, b] = true := by simp [okDims]; omega
  have hm : a * b ≤ 60 * 60 := Int.mul_le_mul ha.2 hb.2 (by omega) (by omega)
  have hk : ¬ 16384 < prodI [a, b] := by simp [prodI]; omega
  have e : shErr [a, b] = none := by simp [shErr, ho, hk]
  exact ⟨e, by simp [elems, e, prodI]⟩

theorem pc_ok (M K F T : Int) : (pc M K F T).ok where
  vv := .inr (.inr rfl)
  cv := .inl ⟨rfl, rfl⟩
  wv := .inl ⟨rfl, rfl⟩
  kv := .inr (.inr rfl)
  v := by intro x hx; simp at hx; rcases hx with rfl | rfl | rfl <;> exact .inr (.inr rfl)
  c := by intro x hx; cases hx
  w := by intro x hx; cases hx
  k := by intro x hx; simp at hx; subst hx; exact ⟨.inr (.inr rfl), .inr (.inr rfl)⟩
theorem pc_cok (M K F T : Int) : (pc M K F T).cOk (fun _ => .ok) tok prot := Pl.cOk.mk (fun x (hx : x ∈ []) => absurd hx (by simp)) (fun x (hx : x ∈ []) => absurd hx (by simp))

theorem pc_instr {M K F T : Int} (hM : 1 ≤ M ∧ M ≤ 60) (hK : 1 ≤ K ∧ K ≤ 60) (hF : 0 ≤ F ∧ F ≤ T ∧ T ≤ M) :
    ansL (EE tok prot) 39 [.agg (fP (pc M K F T)), .agg (fN (ic F T))] = some (.tup [I (if (T - F) * K > 1024 then 0 else max ((T - F) * K) 1), erA (if (T - F) * K > 1024 then some .cost else none)]) := by
  have s1 := sh2 hM hK
  have s2 := sh2 hK (b := 1) (by omega)
  have s3 := sh2 hM (b := 1) (by omega)
  have hmk : 1 ≤ M * K ∧ M * K ≤ 60 * 60 := by
    have h1 : M * K ≤ 60 * 60 := Int.mul_le_mul hM.2 hK.2 (by omega) (by omega)
    have h2 : 1 * 1 ≤ M * K := Int.mul_le_mul hM.1 hK.1 (by omega) (by omega)
    omega
  have hr : matRes 0 0 [M, K] false [K, 1] false = .ok ([M, 1], true) := by
    have hn : narrowI 0 = 0 := by decide
    simp [matRes, s1.1, s2.1, s3.1, hn]
  have i1 : Ints (.fs [I M, I K] 2) [M, K] := .inr (.inr rfl)
  have i2 : Ints (.fs [I K, I 1] 2) [K, 1] := .inr (.inr rfl)
  obtain ⟨a, ha, hd⟩ := result12 (tok := tok) (prot := prot) i1 i2 false false
  rw [hr] at hd
  have hu := unit12 (tok := tok) (prot := prot) i1 i2 false false hr
  have hin : insOk (pc M K F T) [0, 1] := by intro k hk; simp at hk; rcases hk with rfl | rfl <;> simp
  have hoff : offOk (pc M K F T) := by intro x hx; simp at hx; rcases hx with rfl | rfl | rfl <;> simp
  have hii : (ic F T).ok := ⟨.inr (.inr rfl), .inr (.inr rfl)⟩
  have md := made_known (tok := tok) (prot := prot) (pc_ok M K F T) (i := ic F T) hii (by simp) hin (by simp) hoff (y := ⟨8000, .fs [I M, I 1] 2, [M, 1], true⟩) (by simp) rfl (r := .ok ([M, 1], true)) (a := a) (u := K) (by simp) (by simp [DR.l]) ha hd (fun _ => hu)
  have hE : madeE (pc M K F T) (ic F T) ⟨8000, .fs [I M, I 1] 2, [M, 1], true⟩ (.ok ([M, 1], true)) = none := by
    have h : apartAll (pc M K F T) ⟨8000, .fs [I M, I 1] 2, [M, 1], true⟩ [0, 1] = true := by
      simp [apartAll, apart, viewOf, bytesD, s1.2, s2.2, s3.2]; omega
    simp [madeE, sameD, h]
  rw [hE] at md
  have an := instr_ans (tok := tok) (prot := prot) (pc_ok M K F T) (i := ic F T) hii (by simp) (mE := none) (u := K) (by omega) (fun _ _ _ => by simpa using md)
  rw [an]
  have hc0 : 0 ≤ (T - F) * K := Int.mul_nonneg (by omega) (by omega)
  have hiE : instrE (pc M K F T) (ic F T) none K = if (T - F) * K > 1024 then some .cost else none := by
    have : elems (viewOf (pc M K F T) 2).l = M := by simp [viewOf, s3.2]
    simp only [instrE, this]
    rw [show dataI 12 = true by decide, show allIn (pc M K F T) [0, 1] = true by simp [allIn]]
    simp only [if_true]
    rw [if_pos (by simp), if_neg (by omega)]
    by_cases h : (T - F) * K > 1024
    · rw [if_pos h, if_pos (by omega)]
    · rw [if_neg h, if_neg (by omega)]
  rw [hiE]
  by_cases h : (T - F) * K > 1024
  · simp [instrN, hiE, h]
  · simp [instrN, hiE, h, show dataI 12 = true by decide]

theorem pc_parts {M K F T : Int} (hM : 1 ≤ M ∧ M ≤ 60) (hK : 1 ≤ K ∧ K ≤ 60) : partsE (pc M K F T) (fun _ => .ok) = .ok := by
  have s1 := sh2 hM hK
  have s2 := sh2 hK (b := 1) (by omega)
  have s3 := sh2 hM (b := 1) (by omega)
  have hmk : 1 ≤ M * K ∧ M * K ≤ 60 * 60 := by
    have h1 : M * K ≤ 60 * 60 := Int.mul_le_mul hM.2 hK.2 (by omega) (by omega)
    have h2 : 1 * 1 ≤ M * K := Int.mul_le_mul hM.1 hK.1 (by omega) (by omega)
    omega
  have e1 : viewE (pc M K F T) ⟨0, .fs [I M, I K] 2, [M, K], false⟩ = none := by simp [viewE, s1.1, bytesD, s1.2]; omega
  have e2 : viewE (pc M K F T) ⟨5000, .fs [I K, I 1] 2, [K, 1], false⟩ = none := by simp [viewE, s2.1, bytesD, s2.2]; omega
  have e3 : viewE (pc M K F T) ⟨8000, .fs [I M, I 1] 2, [M, 1], true⟩ = none := by simp [viewE, s3.1, bytesD, s3.2]; omega
  simp [partsE, firstAt, e1, e2, e3, inV]

set_option maxRecDepth 100000 in
theorem costs_law (m k f t : Int) : ansL (EE tok prot) 7 [I m, I k, I f, I t] = some (B true) := by
  have r1 := num_range m (m := 60) (by omega) (by omega)
  have r2 := num_range k (m := 60) (by omega) (by omega)
  have n1 : ∀ x, ansL (EE tok prot) 9 [I x, I 60] = some (I (num x 60)) := fun x => number_ans x (by omega)
  have w1 : IntKind.wrap .i64 (num m 60 + 1) = num m 60 + 1 := wrap64 (by omega)
  have w2 : IntKind.wrap .i64 (num k 60 + 1) = num k 60 + 1 := wrap64 (by omega)
  have hM : 1 ≤ num m 60 + 1 ∧ num m 60 + 1 ≤ 60 := by omega
  have hK : 1 ≤ num k 60 + 1 ∧ num k 60 + 1 ≤ 60 := by omega
  generalize hM' : num m 60 + 1 = M at w1 hM
  generalize hK' : num k 60 + 1 = K at w2 hK
  have w3 : IntKind.wrap .i64 (M + 1) = M + 1 := wrap64 (by omega)
  have r3 := num_range f (m := M + 1) (by omega) (by omega)
  have n3 : ansL (EE tok prot) 9 [I f, I (M + 1)] = some (I (num f (M + 1))) := number_ans f (by omega)
  generalize num f (M + 1) = F at r3 n3
  have w4 : IntKind.wrap .i64 (M + 1 - F) = M + 1 - F := wrap64 (by omega)
  have r4 := num_range t (m := M + 1 - F) (by omega) (by omega)
  have n4 : ansL (EE tok prot) 9 [I t, I (M + 1 - F)] = some (I (num t (M + 1 - F))) := number_ans t (by omega)
  generalize num t (M + 1 - F) = T0 at r4 n4
  have w5 : IntKind.wrap .i64 (F + T0) = F + T0 := wrap64 (by omega)
  have hT : 0 ≤ F ∧ F ≤ F + T0 ∧ F + T0 ≤ M := by omega
  generalize hT' : F + T0 = T at w5 hT
  have w6 : IntKind.wrap .i64 (T - F) = T - F := wrap64 (by omega)
  have hc0 : 0 ≤ (T - F) * K := Int.mul_nonneg (by omega) (by omega)
  have hc1 : (T - F) * K ≤ 60 * 60 := Int.mul_le_mul (by omega) hK.2 (by omega) (by omega)
  have w7 : IntKind.wrap .i64 ((T - F) * K) = (T - F) * K := wrap64 (by omega)
  have ci := pc_instr (tok := tok) (prot := prot) hM hK hT
  have co := cost_in (pc_ok M K F T) (k := 0) (by omega) (i := ic F T) rfl ci
  have io : (pc M K F T).iOk (fun _ => if (T - F) * K > 1024 then some .cost else none) (fun _ => if (T - F) * K > 1024 then 0 else max ((T - F) * K) 1) tok prot := by
    refine ⟨fun x hx => ?_, fun x hx => ?_⟩
    · simp at hx; subst hx; exact ci
    · show 0 ≤ (if (T - F) * K > 1024 then 0 else max ((T - F) * K) 1) ∧ (if (T - F) * K > 1024 then 0 else max ((T - F) * K) 1) ≤ 1024
      split <;> omega
  have va := chvalid_ans (pc_ok M K F T) (pc_cok M K F T) io
  have to := total_ans (pc_ok M K F T) (pc_cok M K F T) io
  have pk := pc_parts (F := F) (T := T) hM hK
  refine ansL_of (g := 7) rfl xc7 rfl rfl ?_
  unfold x7
  by_cases h : (T - F) * K > 1024
  · have hv : validE (pc M K F T) (fun _ => .ok) (fun _ => if (T - F) * K > 1024 then some .cost else none) = .at 0 .cost := by simp [validE, pk, firstAt, h]
    rw [hv] at va
    simp only [if_pos h] at co
    have is1 := is_ans (tok := tok) (prot := prot) (.bare .cost) 109
    have pl := placed_ans (tok := tok) (prot := prot) 109 0
    have sm := samef_ans (tok := tok) (prot := prot) (.at 0 .cost) 109 true 0
    have d1 : decide (1024 < (T - F) * K) = true := by simp; omega
    change ansL _ _ [erA (some .cost), I 109] = some (B true) at is1
    change ansL _ _ [flA (.at 0 .cost), _] = some (B true) at sm
    rw [if_neg (by omega)] at pl
    dsimp only [fP, pc] at co va
    simp -dsimp -implicitDefEqProofs only [go_sem, Nat.reduceEqDiff, Nat.reduceAdd, Nat.reduceMul, Nat.reduceLeDiff, Nat.reduceSub, Nat.reducePow, Nat.reduceDiv, Nat.reduceMod, Int.reduceAdd, Int.reduceLT, Int.reduceLE, Int.reduceToNat, Int.reduceNeg, Int.reduceEq, first_ans, n1, w1, w2, w3, w4, w5, w6, w7, n3, n4, hM', hK', hT', co, va, pl, sm, is1, d1]
  · have hv : validE (pc M K F T) (fun _ => .ok) (fun _ => if (T - F) * K > 1024 then some .cost else none) = .ok := by simp [validE, pk, firstAt, h]
    have ht : totalN (pc M K F T) (fun _ => .ok) (fun _ => if (T - F) * K > 1024 then some .cost else none) (fun _ => if (T - F) * K > 1024 then 0 else max ((T - F) * K) 1) = max ((T - F) * K) 1 := by
      simp only [totalN, hv]
      simp [Fl.isOk, sumN, h]
    rw [hv, ht] at to
    simp only [if_neg h] at co
    have d1 : decide (1024 < (T - F) * K) = false := by simp; omega
    have fk : Fl.ok.isOk = true := rfl
    have mc : max 1 ((T - F) * K) = max ((T - F) * K) 1 := by omega
    dsimp only [fP, pc] at co to
    simp -dsimp -implicitDefEqProofs only [go_sem, Nat.reduceEqDiff, Nat.reduceAdd, Nat.reduceMul, Nat.reduceLeDiff, Nat.reduceSub, Nat.reducePow, Nat.reduceDiv, Nat.reduceMod, Int.reduceAdd, Int.reduceLT, Int.reduceLE, Int.reduceToNat, Int.reduceNeg, Int.reduceEq, first_ans, n1, w1, w2, w3, w4, w5, w6, w7, n3, n4, hM', hK', hT', co, to, d1, mc, fk, Option.isNone_none]
end Go.Proofs.YtcfaajaccbadbaaDoor
