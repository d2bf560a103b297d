/- What a plan is: its parts, all of it, what all costs. -/
import Derived.Test.YtcfaajaccbadbaaDoorCh3
set_option linter.unusedVariables false
set_option linter.unusedSimpArgs false
namespace Go.Proofs.YtcfaajaccbadbaaDoor
open Go Ahm
variable {tok : Nat → Value} {prot : Nat → Obj → Prop}

/-! the first that is amiss -/
def firstAt {α : Type} (f : α → Option Er) : List α → Int → Fl
  | [], _ => .ok
  | x :: r, k => match f x with
    | some e => .at k e
    | none => firstAt f r (k + 1)
def noneTo {α : Type} (f : α → Option Er) (l : List α) (k : Nat) : Prop := ∀ x ∈ l.take k, f x = none
theorem firstAt_ok {α : Type} {f : α → Option Er} : ∀ {l : List α} {k : Int}, (∀ x ∈ l, f x = none) → firstAt f l k = .ok
  | [], _, _ => rfl
  | x :: r, k, h => by simp [firstAt, h x (by simp)]; exact firstAt_ok fun y hy => h y (by simp [hy])
theorem firstAt_ok' {α : Type} {f : α → Option Er} {l : List α} (h : noneTo f l l.length) : firstAt f l 0 = .ok := firstAt_ok (by simpa [noneTo] using h)
theorem firstAt_at {α : Type} {f : α → Option Er} {x : α} {e : Er} (hf : f x = some e) : ∀ {l : List α} {k : Nat} {j : Int}, noneTo f l k → l[k]? = some x → firstAt f l j = .at (j + k) e
  | [], k, j, _, h => by simp at h
  | y :: r, 0, j, hn, h => by simp at h; subst h; simp [firstAt, hf]
  | y :: r, k + 1, j, hn, h => by
    have hy : f y = none := hn y (by simp)
    have := firstAt_at hf (l := r) (k := k) (j := j + 1) (fun z hz => hn z (by simp [hz])) (by simpa using h)
    simp only [firstAt, hy, this]
    congr 1; omega
theorem firstAt_hit {α : Type} {f : α → Option Er} {x : α} {e : Er} {l : List α} {k : Nat} (hf : f x = some e) (hn : noneTo f l k) (h : l[k]? = some x) : firstAt f l 0 = .at k e := by
  have := firstAt_at hf (j := 0) hn h
  simpa using this
theorem firstAt_all {α : Type} {f : α → Option Er} : ∀ {l : List α} {k : Int}, firstAt f l k = .ok → ∀ x ∈ l, f x = none
  | [], _, _ => by simp
  | x :: r, k, h => by
    cases hx : f x with
    | some e => simp [firstAt, hx] at h
    | none =>
      simp only [firstAt, hx] at h
      intro y hy
      rcases List.mem_cons.1 hy with rfl | hy
      · exact hx
      · exact firstAt_all h y hy
theorem noneTo_zero {α : Type} {f : α → Option Er} {l : List α} : noneTo f l 0 := by simp [noneTo]
theorem noneTo_succ {α : Type} {f : α → Option Er} {l : List α} {k : Nat} {x : α} (hn : noneTo f l k) (h : l[k]? = some x) (hf : f x = none) : noneTo f l (k + 1) := by
  intro y hy
  rw [List.take_add_one, h] at hy
  rcases List.mem_append.1 hy with hy | hy
  · exact hn y hy
  · simp at hy; subst hy; exact hf

def viewE (p : Pl) (x : Vw) : Option Er := match shErr x.l with
  | some e => some e
  | none => if x.off < 0 ∨ x.off > p.size ∨ bytesD x.w x.l > p.size - x.off then some .range else none

theorem parts_l0 {p : Pl} (hp : p.ok) (hb : p.views.length < 1000000) (hs : 0 ≤ p.size ∧ p.size ≤ 65536) {Q : AX → St → Prop}
    (hf : ∀ k e, firstAt (viewE p) p.views 0 = .at k e → Q .ret ⟨[(2, flA (.at k e))], [], []⟩) (ht : firstAt (viewE p) p.views 0 = .ok → Q (.exit 0) ⟨[(1, .lp 1 0 0), (45, p.vv), (46, I p.views.length), (47, I p.views.length), (48, B false)], [(1, 0, fP p)], []⟩) :
    xp (EE tok prot) (.loop l34_0) ⟨[(1, .lp 1 0 0), (45, p.vv), (46, I p.views.length), (47, I 0)], [(1, 0, fP p)], []⟩ Q := by
  refine xp_loop (fun n s => ∃ k : Nat, k ≤ p.views.length ∧ n = p.views.length - k ∧ noneTo (viewE p) p.views k ∧ s = ⟨[(1, .lp 1 0 0), (45, p.vv), (46, I p.views.length), (47, I k)], [(1, 0, fP p)], []⟩) p.views.length ⟨0, by omega, by omega, noneTo_zero, rfl⟩ ?_
  rintro n s ⟨k, hk, rfl, hok, rfl⟩
  rw [xl34_0]; unfold b34_0
  by_cases h5 : k < p.views.length
  · have hx : p.views[k]? = some p.views[k] := by simp [h5]
    generalize p.views[k] = x at hx
    have hxv := hp.v x (List.mem_of_getElem? hx)
    have d1 : decide ((k : Int) < p.views.length) = true := by simp; omega
    have d2 := hp.vv.idx fV_len (by omega) (k := .i64) (i := k) (by omega)
    have d3 := cut_flat0 fV_len (n := 3) hx (by omega)
    have w1 : IntKind.wrap .i64 ((k : Int) + 1) = ((k + 1 : Nat) : Int) := by rw [wrap64 (by omega)]; simp
    have va := valid_ans (tok := tok) (prot := prot) hxv x.w
    have ba := bytes_ans (tok := tok) (prot := prot) hxv x.w
    cases hz : viewE p x with
    | some e =>
      have hh := firstAt_hit hz hok hx
      have ar := around_ans (tok := tok) (prot := prot) k e
      have hq := hf k e hh
      cases hv : shErr x.l with
      | some e' =>
        have : e' = e := by simpa [viewE, hv] using hz
        subst this
        rw [hv] at va
        simp -dsimp -implicitDefEqProofs only [go_sem, Nat.reduceEqDiff, Nat.reduceAdd, Nat.reduceMul, Nat.reduceLeDiff, Nat.reduceSub, Nat.reducePow, Nat.reduceDiv, Nat.reduceMod, Int.reduceAdd, Int.reduceLT, Int.reduceLE, Int.reduceToNat, Int.reduceNeg, Int.reduceEq, hp.vv.all, hp.cv.all, hp.wv.all, hp.kv.all, hxv.all, d1, d2, d3, va, ar, Int.toNat_natCast, Option.isSome_some, Option.isNone_some]
        exact hq
      | none =>
        rw [hv] at va
        have hr : e = .range := by
          simp only [viewE, hv] at hz
          split at hz
          · simpa using hz.symm
          · cases hz
        subst hr
        by_cases q1 : x.off < 0
        · have e1 : decide (x.off < 0) = true := by simp; omega
          simp -dsimp -implicitDefEqProofs only [go_sem, Nat.reduceEqDiff, Nat.reduceAdd, Nat.reduceMul, Nat.reduceLeDiff, Nat.reduceSub, Nat.reducePow, Nat.reduceDiv, Nat.reduceMod, Int.reduceAdd, Int.reduceLT, Int.reduceLE, Int.reduceToNat, Int.reduceNeg, Int.reduceEq, hp.vv.all, hp.cv.all, hp.wv.all, hp.kv.all, hxv.all, d1, d2, d3, va, ar, e1, Int.toNat_natCast, Option.isSome_some, Option.isSome_none, Option.isNone_none]
          exact hq
        · have e1 : decide (x.off < 0) = false := by simp; omega
          by_cases q2 : x.off > p.size
          · have e2 : decide (p.size < x.off) = true := by simp; omega
            simp -dsimp -implicitDefEqProofs only [go_sem, Nat.reduceEqDiff, Nat.reduceAdd, Nat.reduceMul, Nat.reduceLeDiff, Nat.reduceSub, Nat.reducePow, Nat.reduceDiv, Nat.reduceMod, Int.reduceAdd, Int.reduceLT, Int.reduceLE, Int.reduceToNat, Int.reduceNeg, Int.reduceEq, hp.vv.all, hp.cv.all, hp.wv.all, hp.kv.all, hxv.all, d1, d2, d3, va, ar, e1, e2, Int.toNat_natCast, Option.isSome_some, Option.isSome_none, Option.isNone_none]
            exact hq
          · have e2 : decide (p.size < x.off) = false := by simp; omega
            have w2 : IntKind.wrap .i64 (p.size - x.off) = p.size - x.off := wrap64 (by omega)
            have e3 : decide (p.size - x.off < bytesD x.w x.l) = true := by
              simp only [viewE, hv] at hz
              split at hz
              · simp; omega
              · cases hz
            simp -dsimp -implicitDefEqProofs only [go_sem, Nat.reduceEqDiff, Nat.reduceAdd, Nat.reduceMul, Nat.reduceLeDiff, Nat.reduceSub, Nat.reducePow, Nat.reduceDiv, Nat.reduceMod, Int.reduceAdd, Int.reduceLT, Int.reduceLE, Int.reduceToNat, Int.reduceNeg, Int.reduceEq, hp.vv.all, hp.cv.all, hp.wv.all, hp.kv.all, hxv.all, d1, d2, d3, va, ba, ar, e1, e2, e3, w2, Int.toNat_natCast, Option.isSome_some, Option.isSome_none, Option.isNone_none]
            exact hq
    | none =>
      have hv : shErr x.l = none := by
        cases hv : shErr x.l with
        | none => rfl
        | some e => simp [viewE, hv] at hz
      rw [hv] at va
      have hc : ¬ (x.off < 0 ∨ x.off > p.size ∨ bytesD x.w x.l > p.size - x.off) := by
        intro hc
        simp [viewE, hv, hc] at hz
      have e1 : decide (x.off < 0) = false := by simp; omega
      have e2 : decide (p.size < x.off) = false := by simp; omega
      have w2 : IntKind.wrap .i64 (p.size - x.off) = p.size - x.off := wrap64 (by omega)
      have e3 : decide (p.size - x.off < bytesD x.w x.l) = false := by simp; omega
      simp -dsimp -implicitDefEqProofs only [go_sem, Nat.reduceEqDiff, Nat.reduceAdd, Nat.reduceMul, Nat.reduceLeDiff, Nat.reduceSub, Nat.reducePow, Nat.reduceDiv, Nat.reduceMod, Int.reduceAdd, Int.reduceLT, Int.reduceLE, Int.reduceToNat, Int.reduceNeg, Int.reduceEq, hp.vv.all, hp.cv.all, hp.wv.all, hp.kv.all, hxv.all, d1, d2, d3, va, ba, w1, w2, e1, e2, e3, Int.toNat_natCast, Option.isSome_none, Option.isNone_none, loopQ_norm]
      exact ⟨_, by omega, k + 1, by omega, rfl, noneTo_succ hok hx hz, rfl⟩
  · have hkl : k = p.views.length := by omega
    subst hkl
    have d1 : decide ((p.views.length : Int) < p.views.length) = false := by simp
    simp -dsimp -implicitDefEqProofs only [go_sem, Nat.reduceEqDiff, Nat.reduceAdd, Nat.reduceMul, Nat.reduceLeDiff, Nat.reduceSub, Nat.reducePow, Nat.reduceDiv, Nat.reduceMod, Int.reduceAdd, Int.reduceLT, Int.reduceLE, Int.reduceToNat, Int.reduceNeg, Int.reduceEq, hp.vv.all, hp.cv.all, hp.wv.all, hp.kv.all, d1]
    exact ht (firstAt_ok' hok)

def flErr : Fl → Option Er
  | .ok => none
  | .bare e => some e
  | .at _ e => some e
/-- what tens.Valid says of the constants of a plan -/
structure Pl.cOk (p : Pl) (cE : Ts → Fl) (tok : Nat → Value) (prot : Nat → Obj → Prop) : Prop where
  v : ∀ x ∈ p.consts, ansL (EE tok prot) 46 [.agg (fT x)] = some (flA (cE x))
  a : ∀ x ∈ p.consts, ∀ e, flErr (cE x) = some e → ∀ k : Int, ansL (EE tok prot) 36 [I k, flA (cE x)] = some (flA (.at k e))
abbrev constE (cE : Ts → Fl) (x : Ts) : Option Er := flErr (cE x)

theorem parts_l1 {p : Pl} (hp : p.ok) {cE : Ts → Fl} (hce : p.cOk cE tok prot) (hb : p.consts.length < 1000000) {Q : AX → St → Prop}
    (hf : ∀ k e, firstAt (constE cE) p.consts 0 = .at k e → Q .ret ⟨[(2, flA (.at k e))], [], []⟩) (ht : firstAt (constE cE) p.consts 0 = .ok → Q (.exit 2) ⟨[(1, .lp 1 0 0), (88, p.cv), (89, I p.consts.length), (90, I p.consts.length), (91, B false)], [(1, 0, fP p)], []⟩) :
    xp (EE tok prot) (.loop l34_1) ⟨[(1, .lp 1 0 0), (88, p.cv), (89, I p.consts.length), (90, I 0)], [(1, 0, fP p)], []⟩ Q := by
  refine xp_loop (fun n s => ∃ k : Nat, k ≤ p.consts.length ∧ n = p.consts.length - k ∧ noneTo (constE cE) p.consts k ∧ s = ⟨[(1, .lp 1 0 0), (88, p.cv), (89, I p.consts.length), (90, I k)], [(1, 0, fP p)], []⟩) p.consts.length ⟨0, by omega, by omega, noneTo_zero, rfl⟩ ?_
  rintro n s ⟨k, hk, rfl, hok, rfl⟩
  rw [xl34_1]; unfold b34_1
  by_cases h5 : k < p.consts.length
  · have hx : p.consts[k]? = some p.consts[k] := by simp [h5]
    generalize p.consts[k] = x at hx
    have hmem := List.mem_of_getElem? hx
    have hxv := hp.c x hmem
    have hx1 := hxv.1
    have hx2 := hxv.2
    have d1 : decide ((k : Int) < p.consts.length) = true := by simp; omega
    have d2 := hp.cv.idx fT_len (by omega) (k := .i64) (i := k) (by omega)
    have d3 := cut_flat0 fT_len (n := 3) hx (by omega)
    have w1 : IntKind.wrap .i64 ((k : Int) + 1) = ((k + 1 : Nat) : Int) := by rw [wrap64 (by omega)]; simp
    have va := hce.v x hmem
    cases hz : flErr (cE x) with
    | some e =>
      have hh := firstAt_hit (f := constE cE) hz hok hx
      have ar := hce.a x hmem e hz k
      have hq := hf k e hh
      have i1 : (cE x).isOk = false := by
        cases hc : cE x <;> simp [hc, flErr] at hz <;> rfl
      simp -dsimp -implicitDefEqProofs only [go_sem, Nat.reduceEqDiff, Nat.reduceAdd, Nat.reduceMul, Nat.reduceLeDiff, Nat.reduceSub, Nat.reducePow, Nat.reduceDiv, Nat.reduceMod, Int.reduceAdd, Int.reduceLT, Int.reduceLE, Int.reduceToNat, Int.reduceNeg, Int.reduceEq, hp.vv.all, hp.cv.all, hp.wv.all, hp.kv.all, hx1.all, hx2.all, d1, d2, d3, va, ar, i1, Int.toNat_natCast, Bool.not_false]
      exact hq
    | none =>
      have i1 : (cE x).isOk = true := by
        cases hc : cE x <;> simp [hc, flErr] at hz <;> rfl
      simp -dsimp -implicitDefEqProofs only [go_sem, Nat.reduceEqDiff, Nat.reduceAdd, Nat.reduceMul, Nat.reduceLeDiff, Nat.reduceSub, Nat.reducePow, Nat.reduceDiv, Nat.reduceMod, Int.reduceAdd, Int.reduceLT, Int.reduceLE, Int.reduceToNat, Int.reduceNeg, Int.reduceEq, hp.vv.all, hp.cv.all, hp.wv.all, hp.kv.all, hx1.all, hx2.all, d1, d2, d3, va, w1, i1, Int.toNat_natCast, Bool.not_true, loopQ_norm]
      exact ⟨_, by omega, k + 1, by omega, rfl, noneTo_succ hok hx hz, rfl⟩
  · have hkl : k = p.consts.length := by omega
    subst hkl
    have d1 : decide ((p.consts.length : Int) < p.consts.length) = false := by simp
    simp -dsimp -implicitDefEqProofs only [go_sem, Nat.reduceEqDiff, Nat.reduceAdd, Nat.reduceMul, Nat.reduceLeDiff, Nat.reduceSub, Nat.reducePow, Nat.reduceDiv, Nat.reduceMod, Int.reduceAdd, Int.reduceLT, Int.reduceLE, Int.reduceToNat, Int.reduceNeg, Int.reduceEq, hp.vv.all, hp.cv.all, hp.wv.all, hp.kv.all, d1]
    exact ht (firstAt_ok' hok)

abbrev weightE (x : Ds) : Option Er := shErr x.l
theorem parts_l2 {p : Pl} (hp : p.ok) (hb : p.weights.length < 1000000) {Q : AX → St → Prop}
    (hf : ∀ k e, firstAt weightE p.weights 0 = .at k e → Q .ret ⟨[(2, flA (.at k e))], [], []⟩) (ht : firstAt weightE p.weights 0 = .ok → Q (.exit 4) ⟨[(1, .lp 1 0 0), (104, p.wv), (105, I p.weights.length), (106, I p.weights.length), (107, B false)], [(1, 0, fP p)], []⟩) :
    xp (EE tok prot) (.loop l34_2) ⟨[(1, .lp 1 0 0), (104, p.wv), (105, I p.weights.length), (106, I 0)], [(1, 0, fP p)], []⟩ Q := by
  refine xp_loop (fun n s => ∃ k : Nat, k ≤ p.weights.length ∧ n = p.weights.length - k ∧ noneTo weightE p.weights k ∧ s = ⟨[(1, .lp 1 0 0), (104, p.wv), (105, I p.weights.length), (106, I k)], [(1, 0, fP p)], []⟩) p.weights.length ⟨0, by omega, by omega, noneTo_zero, rfl⟩ ?_
  rintro n s ⟨k, hk, rfl, hok, rfl⟩
  rw [xl34_2]; unfold b34_2
  by_cases h5 : k < p.weights.length
  · have hx : p.weights[k]? = some p.weights[k] := by simp [h5]
    generalize p.weights[k] = x at hx
    have hmem := List.mem_of_getElem? hx
    have hxv := hp.w x hmem
    have d1 : decide ((k : Int) < p.weights.length) = true := by simp; omega
    have d2 := hp.wv.idx fD_len (by omega) (k := .i64) (i := k) (by omega)
    have d3 := cut_flat0 fD_len (n := 2) hx (by omega)
    have w1 : IntKind.wrap .i64 ((k : Int) + 1) = ((k + 1 : Nat) : Int) := by rw [wrap64 (by omega)]; simp
    have va := valid_ans (tok := tok) (prot := prot) hxv x.w
    cases hz : shErr x.l with
    | some e =>
      rw [hz] at va
      have hh := firstAt_hit (f := weightE) hz hok hx
      have ar := around_ans (tok := tok) (prot := prot) k e
      have hq := hf k e hh
      simp -dsimp -implicitDefEqProofs only [go_sem, Nat.reduceEqDiff, Nat.reduceAdd, Nat.reduceMul, Nat.reduceLeDiff, Nat.reduceSub, Nat.reducePow, Nat.reduceDiv, Nat.reduceMod, Int.reduceAdd, Int.reduceLT, Int.reduceLE, Int.reduceToNat, Int.reduceNeg, Int.reduceEq, hp.vv.all, hp.cv.all, hp.wv.all, hp.kv.all, hxv.all, d1, d2, d3, va, ar, Int.toNat_natCast, Option.isSome_some]
      exact hq
    | none =>
      rw [hz] at va
      simp -dsimp -implicitDefEqProofs only [go_sem, Nat.reduceEqDiff, Nat.reduceAdd, Nat.reduceMul, Nat.reduceLeDiff, Nat.reduceSub, Nat.reducePow, Nat.reduceDiv, Nat.reduceMod, Int.reduceAdd, Int.reduceLT, Int.reduceLE, Int.reduceToNat, Int.reduceNeg, Int.reduceEq, hp.vv.all, hp.cv.all, hp.wv.all, hp.kv.all, hxv.all, d1, d2, d3, va, w1, Int.toNat_natCast, Option.isSome_none, loopQ_norm]
      exact ⟨_, by omega, k + 1, by omega, rfl, noneTo_succ hok hx hz, rfl⟩
  · have hkl : k = p.weights.length := by omega
    subst hkl
    have d1 : decide ((p.weights.length : Int) < p.weights.length) = false := by simp
    simp -dsimp -implicitDefEqProofs only [go_sem, Nat.reduceEqDiff, Nat.reduceAdd, Nat.reduceMul, Nat.reduceLeDiff, Nat.reduceSub, Nat.reducePow, Nat.reduceDiv, Nat.reduceMod, Int.reduceAdd, Int.reduceLT, Int.reduceLE, Int.reduceToNat, Int.reduceNeg, Int.reduceEq, hp.vv.all, hp.cv.all, hp.wv.all, hp.kv.all, d1]
    exact ht (firstAt_ok' hok)

def inV (p : Pl) (k : Int) : Bool := decide (0 ≤ k ∧ k < p.views.length)
def partsE (p : Pl) (cE : Ts → Fl) : Fl :=
  if 128 < p.views.length ∨ 64 < p.consts.length ∨ 8 < p.weights.length ∨ 2048 < p.code.length then .bare .many
  else if p.size < 0 ∨ 65536 < p.size then .bare .range
  else match firstAt (viewE p) p.views 0 with
    | .ok => match firstAt (constE cE) p.consts 0 with
      | .ok => match firstAt weightE p.weights 0 with
        | .ok => if inV p p.inp && inV p p.out then .ok else .bare .range
        | x => x
      | x => x
    | x => x
theorem firstAt_cases {α : Type} (f : α → Option Er) (l : List α) (k : Int) : firstAt f l k = .ok ∨ ∃ j e, firstAt f l k = .at j e := by
  induction l generalizing k with
  | nil => exact .inl rfl
  | cons x r ih =>
    simp only [firstAt]
    cases f x with
    | some e => exact .inr ⟨_, _, rfl⟩
    | none => exact ih _

theorem parts_ans {p : Pl} (hp : p.ok) {cE : Ts → Fl} (hce : p.cOk cE tok prot) : ansL (EE tok prot) 34 [.agg (fP p)] = some (flA (partsE p cE)) := by
  have v1 := view_ans (tok := tok) (prot := prot) hp p.inp
  have v2 := view_ans (tok := tok) (prot := prot) hp p.out
  refine ansL_of (g := 34) rfl xc34 rfl rfl ?_
  unfold x34
  by_cases hm : 128 < p.views.length ∨ 64 < p.consts.length ∨ 8 < p.weights.length ∨ 2048 < p.code.length
  · rw [show partsE p cE = .bare .many by simp only [partsE, if_pos hm]]
    repeat' (first | refine br_intro (fun hh => ?_) fun hh => ?_ | simp -dsimp -implicitDefEqProofs only [go_sem, Nat.reduceEqDiff, Nat.reduceAdd, Nat.reduceMul, Nat.reduceLeDiff, Nat.reduceSub, Nat.reducePow, Nat.reduceDiv, Nat.reduceMod, Int.reduceAdd, Int.reduceLT, Int.reduceLE, Int.reduceToNat, Int.reduceNeg, Int.reduceEq, *, hp.vv.all, hp.cv.all, hp.wv.all, hp.kv.all])
    all_goals (first | rfl | (exfalso; simp_all <;> omega))
  · have m1 : decide (128 < (p.views.length : Int)) = false := by simp; omega
    have m2 : decide (64 < (p.consts.length : Int)) = false := by simp; omega
    have m3 : decide (8 < (p.weights.length : Int)) = false := by simp; omega
    have m4 : decide (2048 < (p.code.length : Int)) = false := by simp; omega
    by_cases hs : p.size < 0 ∨ 65536 < p.size
    · rw [show partsE p cE = .bare .range by simp only [partsE, if_neg hm, if_pos hs]]
      repeat' (first | refine br_intro (fun hh => ?_) fun hh => ?_ | simp -dsimp -implicitDefEqProofs only [go_sem, Nat.reduceEqDiff, Nat.reduceAdd, Nat.reduceMul, Nat.reduceLeDiff, Nat.reduceSub, Nat.reducePow, Nat.reduceDiv, Nat.reduceMod, Int.reduceAdd, Int.reduceLT, Int.reduceLE, Int.reduceToNat, Int.reduceNeg, Int.reduceEq, *, hp.vv.all, hp.cv.all, hp.wv.all, hp.kv.all, m1, m2, m3, m4])
      all_goals (first | rfl | (exfalso; simp_all <;> omega))
    · have s1 : decide (p.size < 0) = false := by simp; omega
      have s2 : decide (65536 < p.size) = false := by simp; omega
      have hE : partsE p cE = match firstAt (viewE p) p.views 0 with
        | .ok => match firstAt (constE cE) p.consts 0 with
          | .ok => match firstAt weightE p.weights 0 with
            | .ok => if inV p p.inp && inV p p.out then .ok else .bare .range
            | x => x
          | x => x
        | x => x := by simp only [partsE, if_neg hm, if_neg hs]
      simp -dsimp -implicitDefEqProofs only [go_sem, Nat.reduceEqDiff, Nat.reduceAdd, Nat.reduceMul, Nat.reduceLeDiff, Nat.reduceSub, Nat.reducePow, Nat.reduceDiv, Nat.reduceMod, Int.reduceAdd, Int.reduceLT, Int.reduceLE, Int.reduceToNat, Int.reduceNeg, Int.reduceEq, hp.vv.all, hp.cv.all, hp.wv.all, hp.kv.all, m1, m2, m3, m4, s1, s2]
      refine parts_l0 hp (by omega) (by omega) (fun k e h => ?_) fun h => ?_
      · rw [hE, h]
        simp -dsimp -implicitDefEqProofs only [go_sem, Nat.reduceEqDiff, Nat.reduceAdd, Nat.reduceMul, Nat.reduceLeDiff, Nat.reduceSub, Nat.reducePow, Nat.reduceDiv, Nat.reduceMod, Int.reduceAdd, Int.reduceLT, Int.reduceLE, Int.reduceToNat, Int.reduceNeg, Int.reduceEq]
      · simp -dsimp -implicitDefEqProofs only [go_sem, Nat.reduceEqDiff, Nat.reduceAdd, Nat.reduceMul, Nat.reduceLeDiff, Nat.reduceSub, Nat.reducePow, Nat.reduceDiv, Nat.reduceMod, Int.reduceAdd, Int.reduceLT, Int.reduceLE, Int.reduceToNat, Int.reduceNeg, Int.reduceEq, hp.vv.all, hp.cv.all, hp.wv.all, hp.kv.all]
        refine parts_l1 hp hce (by omega) (fun k e h' => ?_) fun h' => ?_
        · rw [hE, h, h']
          simp -dsimp -implicitDefEqProofs only [go_sem, Nat.reduceEqDiff, Nat.reduceAdd, Nat.reduceMul, Nat.reduceLeDiff, Nat.reduceSub, Nat.reducePow, Nat.reduceDiv, Nat.reduceMod, Int.reduceAdd, Int.reduceLT, Int.reduceLE, Int.reduceToNat, Int.reduceNeg, Int.reduceEq]
        · simp -dsimp -implicitDefEqProofs only [go_sem, Nat.reduceEqDiff, Nat.reduceAdd, Nat.reduceMul, Nat.reduceLeDiff, Nat.reduceSub, Nat.reducePow, Nat.reduceDiv, Nat.reduceMod, Int.reduceAdd, Int.reduceLT, Int.reduceLE, Int.reduceToNat, Int.reduceNeg, Int.reduceEq, hp.vv.all, hp.cv.all, hp.wv.all, hp.kv.all]
          refine parts_l2 hp (by omega) (fun k e h'' => ?_) fun h'' => ?_
          · rw [hE, h, h', h'']
            simp -dsimp -implicitDefEqProofs only [go_sem, Nat.reduceEqDiff, Nat.reduceAdd, Nat.reduceMul, Nat.reduceLeDiff, Nat.reduceSub, Nat.reducePow, Nat.reduceDiv, Nat.reduceMod, Int.reduceAdd, Int.reduceLT, Int.reduceLE, Int.reduceToNat, Int.reduceNeg, Int.reduceEq]
          · rw [hE, h, h', h'']
            change ansL _ _ _ = some (B (inV p p.inp)) at v1
            change ansL _ _ _ = some (B (inV p p.out)) at v2
            cases hi : inV p p.inp <;> cases ho : inV p p.out <;> rw [hi] at v1 <;> rw [ho] at v2 <;> simp -dsimp -implicitDefEqProofs only [go_sem, Nat.reduceEqDiff, Nat.reduceAdd, Nat.reduceMul, Nat.reduceLeDiff, Nat.reduceSub, Nat.reducePow, Nat.reduceDiv, Nat.reduceMod, Int.reduceAdd, Int.reduceLT, Int.reduceLE, Int.reduceToNat, Int.reduceNeg, Int.reduceEq, hp.vv.all, hp.cv.all, hp.wv.all, hp.kv.all, v1, v2]
            all_goals rfl

/-- what is amiss with each instruction, and what it costs -/
structure Pl.iOk (p : Pl) (iE : In → Option Er) (iN : In → Int) (tok : Nat → Value) (prot : Nat → Obj → Prop) : Prop where
  a : ∀ x ∈ p.code, ansL (EE tok prot) 39 [.agg (fP p), .agg (fN x)] = some (.tup [I (iN x), erA (iE x)])
  n : ∀ x ∈ p.code, 0 ≤ iN x ∧ iN x ≤ 1024
def validE (p : Pl) (cE : Ts → Fl) (iE : In → Option Er) : Fl := match partsE p cE with
  | .ok => firstAt iE p.code 0
  | x => x
theorem parts_len {p : Pl} {cE : Ts → Fl} (h : partsE p cE = .ok) : p.views.length ≤ 128 ∧ p.consts.length ≤ 64 ∧ p.weights.length ≤ 8 ∧ p.code.length ≤ 2048 := by
  unfold partsE at h
  split at h
  · cases h
  · omega

theorem chvalid_ans {p : Pl} (hp : p.ok) {cE : Ts → Fl} (hce : p.cOk cE tok prot) {iE : In → Option Er} {iN : In → Int} (hi : p.iOk iE iN tok prot) : ansL (EE tok prot) 20 [.agg (fP p)] = some (flA (validE p cE iE)) := by
  have pa := parts_ans (tok := tok) (prot := prot) hp hce
  refine ansL_of (g := 20) rfl xc20 rfl rfl ?_
  unfold x20
  cases hq : (partsE p cE).isOk
  · have hE : validE p cE iE = partsE p cE := by
      unfold validE
      cases h : partsE p cE <;> simp [h, Fl.isOk] at hq ⊢
    rw [hE]
    simp -dsimp -implicitDefEqProofs only [go_sem, Nat.reduceEqDiff, Nat.reduceAdd, Nat.reduceMul, Nat.reduceLeDiff, Nat.reduceSub, Nat.reducePow, Nat.reduceDiv, Nat.reduceMod, Int.reduceAdd, Int.reduceLT, Int.reduceLE, Int.reduceToNat, Int.reduceNeg, Int.reduceEq, hp.vv.all, hp.cv.all, hp.wv.all, hp.kv.all, pa, hq, Bool.not_false]
  · have hok : partsE p cE = .ok := by
      cases h : partsE p cE <;> simp [h, Fl.isOk] at hq ⊢
    have hb := parts_len hok
    have hE : validE p cE iE = firstAt iE p.code 0 := by unfold validE; rw [hok]
    rw [hE]
    simp -dsimp -implicitDefEqProofs only [go_sem, Nat.reduceEqDiff, Nat.reduceAdd, Nat.reduceMul, Nat.reduceLeDiff, Nat.reduceSub, Nat.reducePow, Nat.reduceDiv, Nat.reduceMod, Int.reduceAdd, Int.reduceLT, Int.reduceLE, Int.reduceToNat, Int.reduceNeg, Int.reduceEq, hp.vv.all, hp.cv.all, hp.wv.all, hp.kv.all, pa, hq, Bool.not_true]
    refine xp_loop (fun n s => ∃ k : Nat, k ≤ p.code.length ∧ n = p.code.length - k ∧ noneTo iE p.code k ∧ s = ⟨[(1, .lp 1 0 0), (13, I p.code.length), (14, I k)], [(1, 0, fP p)], []⟩) p.code.length ⟨0, by omega, by omega, noneTo_zero, rfl⟩ ?_
    rintro n s ⟨k, hk, rfl, hno, rfl⟩
    rw [xl20_0]; unfold b20_0
    by_cases h5 : k < p.code.length
    · have hx : p.code[k]? = some p.code[k] := by simp [h5]
      generalize p.code[k] = x at hx
      have hmem := List.mem_of_getElem? hx
      have d1 : decide ((k : Int) < p.code.length) = true := by simp; omega
      have w1 : IntKind.wrap .i64 ((k : Int) + 1) = ((k + 1 : Nat) : Int) := by rw [wrap64 (by omega)]; simp
      have ia := chinstr_ans hp (cost_in hp (k := k) (by omega) (by simpa using hx) (hi.a x hmem))
      cases hz : iE x with
      | some e =>
        rw [hz] at ia
        have ar := around_ans (tok := tok) (prot := prot) k e
        rw [firstAt_hit hz hno hx]
        simp -dsimp -implicitDefEqProofs only [go_sem, Nat.reduceEqDiff, Nat.reduceAdd, Nat.reduceMul, Nat.reduceLeDiff, Nat.reduceSub, Nat.reducePow, Nat.reduceDiv, Nat.reduceMod, Int.reduceAdd, Int.reduceLT, Int.reduceLE, Int.reduceToNat, Int.reduceNeg, Int.reduceEq, hp.vv.all, hp.cv.all, hp.wv.all, hp.kv.all, d1, ia, ar, Option.isSome_some]
      | none =>
        rw [hz] at ia
        simp -dsimp -implicitDefEqProofs only [go_sem, Nat.reduceEqDiff, Nat.reduceAdd, Nat.reduceMul, Nat.reduceLeDiff, Nat.reduceSub, Nat.reducePow, Nat.reduceDiv, Nat.reduceMod, Int.reduceAdd, Int.reduceLT, Int.reduceLE, Int.reduceToNat, Int.reduceNeg, Int.reduceEq, hp.vv.all, hp.cv.all, hp.wv.all, hp.kv.all, d1, ia, w1, Option.isSome_none, loopQ_norm]
        exact ⟨_, by omega, k + 1, by omega, rfl, noneTo_succ hno hx hz, rfl⟩
    · have hkl : k = p.code.length := by omega
      subst hkl
      have d1 : decide ((p.code.length : Int) < p.code.length) = false := by simp
      rw [firstAt_ok' hno]
      simp -dsimp -implicitDefEqProofs only [go_sem, Nat.reduceEqDiff, Nat.reduceAdd, Nat.reduceMul, Nat.reduceLeDiff, Nat.reduceSub, Nat.reducePow, Nat.reduceDiv, Nat.reduceMod, Int.reduceAdd, Int.reduceLT, Int.reduceLE, Int.reduceToNat, Int.reduceNeg, Int.reduceEq, hp.vv.all, hp.cv.all, hp.wv.all, hp.kv.all, d1]
      rfl

def sumN (iN : In → Int) (l : List In) : Int := (l.map iN).sum
theorem sumN_take {iN : In → Int} {l : List In} {k : Nat} {x : In} (h : l[k]? = some x) : sumN iN (l.take (k + 1)) = sumN iN (l.take k) + iN x := by
  simp [sumN, List.take_add_one, h]
def totalN (p : Pl) (cE : Ts → Fl) (iE : In → Option Er) (iN : In → Int) : Int := if (validE p cE iE).isOk then sumN iN p.code else 0
theorem total_ans {p : Pl} (hp : p.ok) {cE : Ts → Fl} (hce : p.cOk cE tok prot) {iE : In → Option Er} {iN : In → Int} (hi : p.iOk iE iN tok prot) : ansL (EE tok prot) 23 [.agg (fP p)] = some (.tup [I (totalN p cE iE iN), flA (validE p cE iE)]) := by
  have va := chvalid_ans (tok := tok) (prot := prot) hp hce hi
  refine ansL_of (g := 23) rfl xc23 rfl rfl ?_
  unfold x23
  cases hq : (validE p cE iE).isOk
  · rw [show totalN p cE iE iN = 0 by simp [totalN, hq]]
    simp -dsimp -implicitDefEqProofs only [go_sem, Nat.reduceEqDiff, Nat.reduceAdd, Nat.reduceMul, Nat.reduceLeDiff, Nat.reduceSub, Nat.reducePow, Nat.reduceDiv, Nat.reduceMod, Int.reduceAdd, Int.reduceLT, Int.reduceLE, Int.reduceToNat, Int.reduceNeg, Int.reduceEq, hp.vv.all, hp.cv.all, hp.wv.all, hp.kv.all, va, hq, Bool.not_false]
  · rw [show totalN p cE iE iN = sumN iN p.code by simp [totalN, hq]]
    have hok : validE p cE iE = .ok := by
      cases h : validE p cE iE <;> simp [h, Fl.isOk] at hq ⊢
    have hpk : partsE p cE = .ok := by
      unfold validE at hok
      cases h : partsE p cE <;> simp [h] at hok ⊢
    have hall : ∀ x ∈ p.code, iE x = none := by
      have : firstAt iE p.code 0 = .ok := by unfold validE at hok; simpa [hpk] using hok
      exact firstAt_all this
    have hb := parts_len hpk
    rw [hok] at va ⊢
    have i1 : Fl.ok.isOk = true := rfl
    simp -dsimp -implicitDefEqProofs only [go_sem, Nat.reduceEqDiff, Nat.reduceAdd, Nat.reduceMul, Nat.reduceLeDiff, Nat.reduceSub, Nat.reducePow, Nat.reduceDiv, Nat.reduceMod, Int.reduceAdd, Int.reduceLT, Int.reduceLE, Int.reduceToNat, Int.reduceNeg, Int.reduceEq, hp.vv.all, hp.cv.all, hp.wv.all, hp.kv.all, va, i1, Bool.not_true]
    refine xp_loop (fun n s => ∃ k : Nat, k ≤ p.code.length ∧ n = p.code.length - k ∧ (0 ≤ sumN iN (p.code.take k) ∧ sumN iN (p.code.take k) ≤ 1024 * k) ∧ s = ⟨[(1, .lp 1 0 0), (5, I (sumN iN (p.code.take k))), (16, I p.code.length), (17, I k)], [(1, 0, fP p)], []⟩) p.code.length ⟨0, by omega, by omega, by simp [sumN], rfl⟩ ?_
    rintro n s ⟨k, hk, rfl, hno, rfl⟩
    rw [xl23_0]; unfold b23_0
    by_cases h5 : k < p.code.length
    · have hx : p.code[k]? = some p.code[k] := by simp [h5]
      generalize p.code[k] = x at hx
      have hmem := List.mem_of_getElem? hx
      have d1 : decide ((k : Int) < p.code.length) = true := by simp; omega
      have w1 : IntKind.wrap .i64 ((k : Int) + 1) = ((k + 1 : Nat) : Int) := by rw [wrap64 (by omega)]; simp
      have ia := cost_in hp (k := k) (by omega) (by simpa using hx) (hi.a x hmem)
      have hn := hi.n x hmem
      have w2 : IntKind.wrap .i64 (sumN iN (p.code.take k) + iN x) = sumN iN (p.code.take (k + 1)) := by rw [sumN_take hx, wrap64 (by omega)]
      simp -dsimp -implicitDefEqProofs only [go_sem, Nat.reduceEqDiff, Nat.reduceAdd, Nat.reduceMul, Nat.reduceLeDiff, Nat.reduceSub, Nat.reducePow, Nat.reduceDiv, Nat.reduceMod, Int.reduceAdd, Int.reduceLT, Int.reduceLE, Int.reduceToNat, Int.reduceNeg, Int.reduceEq, hp.vv.all, hp.cv.all, hp.wv.all, hp.kv.all, d1, ia, w1, w2, loopQ_norm]
      exact ⟨_, by omega, k + 1, by omega, rfl, by rw [sumN_take hx]; omega, rfl⟩
    · have hkl : k = p.code.length := by omega
      subst hkl
      have d1 : decide ((p.code.length : Int) < p.code.length) = false := by simp
      simp -dsimp -implicitDefEqProofs only [go_sem, Nat.reduceEqDiff, Nat.reduceAdd, Nat.reduceMul, Nat.reduceLeDiff, Nat.reduceSub, Nat.reducePow, Nat.reduceDiv, Nat.reduceMod, Int.reduceAdd, Int.reduceLT, Int.reduceLE, Int.reduceToNat, Int.reduceNeg, Int.reduceEq, hp.vv.all, hp.cv.all, hp.wv.all, hp.kv.all, d1, List.take_length]
      rfl
end Go.Proofs.YtcfaajaccbadbaaDoor
