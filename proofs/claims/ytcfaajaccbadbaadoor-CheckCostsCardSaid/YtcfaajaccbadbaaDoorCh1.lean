/- The plan's parts, one by one: the small functions of check. -/
import Derived.Test.YtcfaajaccbadbaaDoorOp1
set_option linter.unusedVariables false
set_option linter.unusedSimpArgs false
namespace Go.Proofs.YtcfaajaccbadbaaDoor
open Go Ahm
variable {tok : Nat → Value} {prot : Nat → Obj → Prop}

/-- a view -/
structure Vw where
  off : Int
  v : AV
  l : List Int
  w : Bool
/-- what a tensor looks like -/
structure Ds where
  v : AV
  l : List Int
  w : Bool
/-- a tensor -/
structure Ts where
  v : AV
  l : List Int
  w : Bool
  dv : AV
  d : List Int
/-- an instruction -/
structure In where
  op : Int
  dst : Int
  iv : AV
  ins : List Int
  av : AV
  args : List Int
  fr : Int
  to : Int
abbrev fV (x : Vw) : List AV := [I x.off, x.v, B x.w]
abbrev fD (x : Ds) : List AV := [x.v, B x.w]
abbrev fT (x : Ts) : List AV := [x.v, B x.w, x.dv]
abbrev fN (x : In) : List AV := [I x.op, I x.dst, x.iv, x.av, I x.fr, I x.to]
/-- a plan -/
structure Pl where
  size : Int
  vv : AV
  views : List Vw
  cv : AV
  consts : List Ts
  wv : AV
  weights : List Ds
  kv : AV
  code : List In
  inp : Int
  out : Int
abbrev fP (p : Pl) : List AV := [I p.size, p.vv, p.cv, p.wv, p.kv, I p.inp, I p.out]
def In.ok (i : In) : Prop := Ints i.iv i.ins ∧ Ints i.av i.args
structure Pl.ok (p : Pl) : Prop where
  vv : Sl fV p.vv p.views
  cv : Sl fT p.cv p.consts
  wv : Sl fD p.wv p.weights
  kv : Sl fN p.kv p.code
  v : ∀ x ∈ p.views, Ints x.v x.l
  c : ∀ x ∈ p.consts, Ints x.v x.l ∧ Ints x.dv x.d
  w : ∀ x ∈ p.weights, Ints x.v x.l
  k : ∀ x ∈ p.code, In.ok x

theorem known_ans (n : Int) : ansL (EE tok prot) 42 [I n] = some (B (decide (4 ≤ n ∧ n ≤ 21))) := by
  refine ansL_of (g := 42) rfl xc42 rfl rfl ?_
  unfold x42
  repeat' (first | refine br_intro (fun hh => ?_) fun hh => ?_ | simp -dsimp -implicitDefEqProofs only [go_sem, Nat.reduceEqDiff, Nat.reduceAdd, Nat.reduceMul, Nat.reduceLeDiff, Nat.reduceSub, Nat.reducePow, Nat.reduceDiv, Nat.reduceMod, Int.reduceAdd, Int.reduceLT, Int.reduceLE, Int.reduceToNat, Int.reduceNeg, Int.reduceEq, *])
  all_goals (simp_all <;> omega)

def dataI (op : Int) : Bool := decide (op = 2) || decide (op = 3) || decide (4 ≤ op ∧ op ≤ 21)
theorem data_ans {i : In} (hi : i.ok) : ansL (EE tok prot) 55 [.agg (fN i)] = some (B (dataI i.op)) := by
  refine ansL_of (g := 55) rfl xc55 rfl rfl ?_
  unfold x55
  repeat' (first | refine br_intro (fun hh => ?_) fun hh => ?_ | simp -dsimp -implicitDefEqProofs only [go_sem, Nat.reduceEqDiff, Nat.reduceAdd, Nat.reduceMul, Nat.reduceLeDiff, Nat.reduceSub, Nat.reducePow, Nat.reduceDiv, Nat.reduceMod, Int.reduceAdd, Int.reduceLT, Int.reduceLE, Int.reduceToNat, Int.reduceNeg, Int.reduceEq, *, hi.1.all, hi.2.all, known_ans])
  all_goals (simp_all [dataI] <;> omega)

theorem view_ans {p : Pl} (hp : p.ok) (k : Int) : ansL (EE tok prot) 52 [.agg (fP p), I k] = some (B (decide (0 ≤ k ∧ k < p.views.length))) := by
  refine ansL_of (g := 52) rfl xc52 rfl rfl ?_
  unfold x52
  repeat' (first | refine br_intro (fun hh => ?_) fun hh => ?_ | simp -dsimp -implicitDefEqProofs only [go_sem, Nat.reduceEqDiff, Nat.reduceAdd, Nat.reduceMul, Nat.reduceLeDiff, Nat.reduceSub, Nat.reducePow, Nat.reduceDiv, Nat.reduceMod, Int.reduceAdd, Int.reduceLT, Int.reduceLE, Int.reduceToNat, Int.reduceNeg, Int.reduceEq, *, hp.vv.all, hp.cv.all, hp.wv.all, hp.kv.all])
  all_goals (simp_all <;> omega)

theorem one_of {l : List Int} (h : (l.length : Int) = 1) : ∃ x, l = [x] := by
  match l, h with
  | [x], _ => exact ⟨x, rfl⟩
  | [], h => simp at h
  | x :: y :: r, h => simp at h; omega

def jumpE (p : Pl) (i : In) : Option Er :=
  if (i.args.length : Int) ≠ (if i.op = 24 then 0 else 1) ∨ (i.ins.length : Int) ≠ (if i.op = 23 then 1 else 0) then some .shape
  else if i.op ≠ 24 ∧ (i.args.headD 0 < 0 ∨ i.args.headD 0 > p.code.length) then some .jump else none
theorem jump_ans {p : Pl} (hp : p.ok) {i : In} (hi : i.ok) : ansL (EE tok prot) 56 [.agg (fP p), .agg (fN i)] = some (erA (jumpE p i)) := by
  have hx : (∃ x, i.args = [x]) ∨ (i.args.length : Int) ≠ 1 := by
    by_cases h : (i.args.length : Int) = 1
    · exact .inl (one_of h)
    · exact .inr h
  have h1 := hi.1
  have h2 := hi.2
  refine ansL_of (g := 56) rfl xc56 rfl rfl ?_
  unfold x56
  rcases hx with ⟨x, hx⟩ | hx
  · rw [hx] at h2
    have hix : xiaS 1 i.av (I 0) = some (.fp ([x].flatMap fI) 0) := h2.idxI (i := 0) (by simp)
    have hc : cut ([x].flatMap fI) 0 1 = some [I x] := cutI (l := [x]) (i := 0) rfl
    repeat' (first | refine br_intro (fun hh => ?_) fun hh => ?_ | simp -dsimp -implicitDefEqProofs only [go_sem, Nat.reduceEqDiff, Nat.reduceAdd, Nat.reduceMul, Nat.reduceLeDiff, Nat.reduceSub, Nat.reducePow, Nat.reduceDiv, Nat.reduceMod, Int.reduceAdd, Int.reduceLT, Int.reduceLE, Int.reduceToNat, Int.reduceNeg, Int.reduceEq, *, hp.vv.all, hp.cv.all, hp.wv.all, hp.kv.all, h1.all, h2.all])
    all_goals (simp_all [jumpE] <;> (try omega))
    all_goals (first | rfl | (rw [if_neg (by omega)]; rfl))
  · have hx' : decide ((i.args.length : Int) = 1) = false := by simpa using hx
    repeat' (first | refine br_intro (fun hh => ?_) fun hh => ?_ | simp -dsimp -implicitDefEqProofs only [go_sem, Nat.reduceEqDiff, Nat.reduceAdd, Nat.reduceMul, Nat.reduceLeDiff, Nat.reduceSub, Nat.reducePow, Nat.reduceDiv, Nat.reduceMod, Int.reduceAdd, Int.reduceLT, Int.reduceLE, Int.reduceToNat, Int.reduceNeg, Int.reduceEq, *, hp.vv.all, hp.cv.all, hp.wv.all, hp.kv.all, h1.all, h2.all])
    all_goals (simp_all [jumpE] <;> (try omega))
    all_goals (first | rfl | (rw [if_neg (by omega)]; rfl))

/-- the ins of an instruction are views -/
def insOk (p : Pl) (l : List Int) : Prop := ∀ k ∈ l, 0 ≤ k ∧ k < p.views.length
def descOf (p : Pl) (k : Int) : Ds := match p.views[k.toNat]? with
  | some x => ⟨x.v, x.l, x.w⟩
  | none => ⟨nilS, [], false⟩
def descsOf (p : Pl) (l : List Int) : List Ds := l.map (descOf p)
def descsV (p : Pl) (l : List Int) : AV := if (descsOf p l).length = 0 then nilS else .fs ((descsOf p l).flatMap fD) (descsOf p l).length
theorem descsV_sl (p : Pl) (l : List Int) : Sl fD (descsV p l) (descsOf p l) := gsl
theorem fD_len (x : Ds) : (fD x).length = 2 := rfl
theorem fV_len (x : Vw) : (fV x).length = 3 := rfl
theorem fN_len (x : In) : (fN x).length = 6 := rfl
theorem fT_len (x : Ts) : (fT x).length = 3 := rfl

theorem size26 : sizeT (EE tok prot) 26 = some 2 := by kernel_rfl
theorem descs_ans {p : Pl} (hp : p.ok) {i : In} (hi : i.ok) (hin : insOk p i.ins) (hb : i.ins.length < 1000000) : ansL (EE tok prot) 78 [.agg (fP p), .agg (fN i)] = some (descsV p i.ins) := by
  have hlen : ∀ k, k ≤ i.ins.length → ((descsOf p (i.ins.take k)).flatMap fD).length = k * 2 := fun k hk => by
    rw [flat_len fD_len]; simp [descsOf]; omega
  have hall : ∀ k, k ≤ i.ins.length → ∀ x ∈ descsOf p (i.ins.take k), Ints x.v x.l := fun k hk x hx => by
    simp only [descsOf, List.mem_map] at hx
    obtain ⟨a, ha, rfl⟩ := hx
    have := hin a (List.mem_of_mem_take ha)
    unfold descOf
    split
    · rename_i y hy; exact hp.v y (List.mem_of_getElem? hy)
    · exact Sl.nil
  have hcell : ∀ k, k ≤ i.ins.length → ((descsOf p (i.ins.take k)).flatMap fD).all AV.isCell = true := fun k hk => by
    simp only [List.all_eq_true, List.mem_flatMap]
    rintro c ⟨x, hx, hc⟩
    simp only [List.mem_cons, List.not_mem_nil, or_false] at hc
    rcases hc with rfl | rfl
    · exact (hall k hk x hx).cell
    · rfl
  refine ansL_of (g := 78) rfl xc78 rfl rfl ?_
  unfold x78
  have h1 := hi.1
  have h2 := hi.2
  simp -dsimp -implicitDefEqProofs only [go_sem, Nat.reduceEqDiff, Nat.reduceAdd, Nat.reduceMul, Nat.reduceLeDiff, Nat.reduceSub, Nat.reducePow, Nat.reduceDiv, Nat.reduceMod, Int.reduceAdd, Int.reduceLT, Int.reduceLE, Int.reduceToNat, Int.reduceNeg, Int.reduceEq, hp.vv.all, hp.cv.all, hp.wv.all, hp.kv.all, h1.all, h2.all]
  refine xp_loop (fun n s => ∃ k : Nat, k ≤ i.ins.length ∧ n = i.ins.length - k ∧ s = ⟨[(2, .lp 2 0 0), (5, gv 0 2 k), (9, i.iv), (10, I i.ins.length), (11, I k)], [(2, 0, fP p)], gs [] 26 k ((descsOf p (i.ins.take k)).flatMap fD)⟩) i.ins.length ⟨0, by omega, by omega, rfl⟩ ?_
  rintro n s ⟨k, hk, rfl, rfl⟩
  rw [xl78_0]; unfold b78_0
  by_cases h5 : k < i.ins.length
  · have hx : i.ins[k]? = some i.ins[k] := by simp [h5]
    generalize i.ins[k] = x at hx
    have hxr := hin x (List.mem_of_getElem? hx)
    have hv : p.views[x.toNat]? = some (p.views[x.toNat]'(by omega)) := by simp [show x.toNat < p.views.length by omega]
    generalize p.views[x.toNat]'(by omega) = y at hv
    have hy := hp.v y (List.mem_of_getElem? hv)
    have hd : descOf p x = ⟨y.v, y.l, y.w⟩ := by simp [descOf, hv]
    have c1 : decide ((k : Int) < i.ins.length) = true := by simp; omega
    have c2 := h1.idxI (i := k) (k := .i64) (by omega)
    have c3 := hp.vv.idx fV_len (by omega) (k := .i64) (i := x) hxr
    have c4 := cut_flat fV_len (o := 1) (n := 2) hv (by omega)
    have htk : descsOf p (i.ins.take (k + 1)) = descsOf p (i.ins.take k) ++ [⟨y.v, y.l, y.w⟩] := by
      unfold descsOf; rw [List.take_add_one, hx]; simp [hd]
    have w1 : IntKind.wrap .i64 ((k : Int) + 1) = ((k + 1 : Nat) : Int) := by rw [wrap64 (by omega)]; simp
    have g1 := gapp1 (st0 := []) (e := 26) (s := 2) (b := 32) (news := [y.v, B y.w]) (hlen k hk) (by omega) (by omega) (by simp [hy.cell, cell_bool])
    simp only [List.length_nil] at g1
    simp -dsimp -implicitDefEqProofs only [go_sem, Nat.reduceEqDiff, Nat.reduceAdd, Nat.reduceMul, Nat.reduceLeDiff, Nat.reduceSub, Nat.reducePow, Nat.reduceDiv, Nat.reduceMod, Int.reduceAdd, Int.reduceLT, Int.reduceLE, Int.reduceToNat, Int.reduceNeg, Int.reduceEq, hp.vv.all, hp.cv.all, hp.wv.all, hp.kv.all, h1.all, h2.all, c1, c2, c3, c4, hy.all, Int.toNat_natCast, cutI hx, w1, g1, gv_all, isFzL, isFz, scal, loopQ_norm]
    exact ⟨_, by omega, k + 1, by omega, rfl, by rw [htk]; simp⟩
  · have hkl : k = i.ins.length := by omega
    subst hkl
    have c1 : decide ((i.ins.length : Int) < i.ins.length) = false := by simp
    rw [List.take_length]
    have g2 := gres (E := EE tok prot) (st0 := []) (e := 26) (s := 2) (n := 11) (k := i.ins.length) (c := (descsOf p i.ins).flatMap fD) (by have := hlen _ (Nat.le_refl i.ins.length); rwa [List.take_length] at this) size26 (mapO_flat (f' := fD) fun x hx => by
      have hx' := hall i.ins.length (Nat.le_refl _) x (by rw [List.take_length]; exact hx)
      simp only [mapO_cons, mapO_nil, hx'.res, res_sc, consV_some])
    simp only [List.length_nil] at g2
    simp -dsimp -implicitDefEqProofs only [go_sem, Nat.reduceEqDiff, Nat.reduceAdd, Nat.reduceMul, Nat.reduceLeDiff, Nat.reduceSub, Nat.reducePow, Nat.reduceDiv, Nat.reduceMod, Int.reduceAdd, Int.reduceLT, Int.reduceLE, Int.reduceToNat, Int.reduceNeg, Int.reduceEq, c1, gv_all, g2]
    simp [descsV, descsOf]
end Go.Proofs.YtcfaajaccbadbaaDoor
