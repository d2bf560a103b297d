/- What is made, and what it costs. -/
import Derived.Test.YtcfaajaccbadbaaDoorCh1
import Derived.Test.YtcfaajaccbadbaaDoorOp2
set_option linter.unusedVariables false
set_option linter.unusedSimpArgs false
namespace Go.Proofs.YtcfaajaccbadbaaDoor
open Go Ahm
variable {tok : Nat → Value} {prot : Nat → Obj → Prop}

def viewOf (p : Pl) (k : Int) : Vw := p.views.getD k.toNat ⟨0, nilS, [], false⟩
/-- Does a view lie apart from all ins? -/
def apartAll (p : Pl) (y : Vw) (l : List Int) : Bool := l.all fun k => apart y.off y.w y.l (viewOf p k).off (viewOf p k).w (viewOf p k).l
def madeE (p : Pl) (i : In) (y : Vw) (r : DR) : Option Er :=
  match r with
  | .error e => some e
  | .ok (l, w) => if sameD w l y.w y.l then (if apartAll p y i.ins then none else some .als) else some .shape

/-- all offsets are small -/
def offOk (p : Pl) : Prop := ∀ x ∈ p.views, -1000000000 ≤ x.off ∧ x.off ≤ 1000000000000

theorem made_known {p : Pl} (hp : p.ok) {i : In} (hi : i.ok) (hk : 4 ≤ i.op ∧ i.op ≤ 21) (hin : insOk p i.ins) (hb : i.ins.length < 1000000) (ho : offOk p) {y : Vw} (hd : 0 ≤ i.dst) (hy : p.views[i.dst.toNat]? = some y) {r : DR} {a : AV} {u : Int} (hyl : y.l.length < 1000000) (hrl : r.l.length < 1000000)
    (hres : ansL (EE tok prot) 43 [I i.op, i.av, descsV p i.ins] = some a) (ha : IsDR r a) (hunit : r.e = none → ansL (EE tok prot) 79 [I i.op, i.av, descsV p i.ins] = some (.tup [I u, .sc .nilIface])) :
    ansL (EE tok prot) 57 [.agg (fP p), .agg (fN i)] = some (.tup [I (if madeE p i y r = none then u else 0), erA (madeE p i y r)]) := by
  have h1 := hi.1
  have h2 := hi.2
  have hds := descs_ans (tok := tok) (prot := prot) hp hi hin hb
  have hdv := descsV_sl p i.ins
  have hlt : i.dst.toNat < p.views.length := (List.getElem?_eq_some_iff.1 hy).1
  have hyv := hp.v y (List.mem_of_getElem? hy)
  have c3 := hp.vv.idx fV_len (by omega) (k := .i64) (i := i.dst) ⟨hd, by omega⟩
  have c4 := cut_flat0 fV_len (n := 3) hy (by omega)
  have kn : ansL (EE tok prot) 42 [I i.op] = some (B true) := by rw [known_ans]; simp [hk]
  obtain ⟨v, rfl, hv⟩ := ha
  refine ansL_of (g := 57) rfl xc57 rfl rfl ?_
  unfold x57
  cases r with
  | error e =>
    repeat' (first | refine br_intro (fun hh => ?_) fun hh => ?_ | simp -dsimp -implicitDefEqProofs only [go_sem, Nat.reduceEqDiff, Nat.reduceAdd, Nat.reduceMul, Nat.reduceLeDiff, Nat.reduceSub, Nat.reducePow, Nat.reduceDiv, Nat.reduceMod, Int.reduceAdd, Int.reduceLT, Int.reduceLE, Int.reduceToNat, Int.reduceNeg, Int.reduceEq, *, hp.vv.all, hp.cv.all, hp.wv.all, hp.kv.all, h1.all, h2.all, hyv.all, c3, c4, kn, hds, hdv.all, hres, hv.all, DR.e, DR.w, Option.isSome_some])
    all_goals simp [madeE]
  | ok q =>
    obtain ⟨l, w⟩ := q
    have hsame := same_ans (tok := tok) (prot := prot) hv hyv w y.w (by simp [DR.l] at hrl; simp [DR.l]; omega)
    have hu := hunit rfl
    simp only [DR.l, DR.w, DR.e, erA_none] at hv hres hsame hu
    have hbs : ∀ (k : Nat) (x : Int), i.ins[k]? = some x → ∃ z : Vw, p.views[x.toNat]? = some z ∧ (0 ≤ x ∧ x < p.views.length) := fun k x hx => by
      have hxr := hin x (List.mem_of_getElem? hx)
      exact ⟨p.views[x.toNat]'(by omega), by simp [show x.toNat < p.views.length by omega], hxr⟩
    cases hsm : sameD w l y.w y.l
    · rw [hsm] at hsame
      repeat' (first | refine br_intro (fun hh => ?_) fun hh => ?_ | simp -dsimp -implicitDefEqProofs only [go_sem, Nat.reduceEqDiff, Nat.reduceAdd, Nat.reduceMul, Nat.reduceLeDiff, Nat.reduceSub, Nat.reducePow, Nat.reduceDiv, Nat.reduceMod, Int.reduceAdd, Int.reduceLT, Int.reduceLE, Int.reduceToNat, Int.reduceNeg, Int.reduceEq, *, hp.vv.all, hp.cv.all, hp.wv.all, hp.kv.all, h1.all, h2.all, hyv.all, c3, c4, kn, hds, hdv.all, hres, hv.all, hsame, Option.isSome_none])
      all_goals (simp only [madeE, hsm]; rfl)
    · rw [hsm] at hsame
      repeat' (first | refine br_intro (fun hh => ?_) fun hh => ?_ | simp -dsimp -implicitDefEqProofs only [go_sem, Nat.reduceEqDiff, Nat.reduceAdd, Nat.reduceMul, Nat.reduceLeDiff, Nat.reduceSub, Nat.reducePow, Nat.reduceDiv, Nat.reduceMod, Int.reduceAdd, Int.reduceLT, Int.reduceLE, Int.reduceToNat, Int.reduceNeg, Int.reduceEq, *, hp.vv.all, hp.cv.all, hp.wv.all, hp.kv.all, h1.all, h2.all, hyv.all, c3, c4, kn, hds, hdv.all, hres, hv.all, hsame, Option.isSome_none])
      have hE : madeE p i y (.ok (l, w)) = if apartAll p y i.ins then none else some .als := by simp [madeE, hsm]
      rw [hE]
      refine xp_loop (fun n s => ∃ k : Nat, k ≤ i.ins.length ∧ n = i.ins.length - k ∧ apartAll p y (i.ins.take k) = true ∧ s = ⟨[(2, .lp 2 0 0), (3, .lp 3 0 0), (6, .lp 6 0 0), (107, i.iv), (108, I i.ins.length), (109, I k)], [(2, 0, fP p), (3, 0, fN i), (6, 0, [I y.off, y.v, B y.w])], []⟩) i.ins.length ⟨0, by omega, by omega, by simp [apartAll], rfl⟩ ?_
      rintro n s ⟨k, hkl, rfl, hap, rfl⟩
      rw [xl57_0]; unfold b57_0
      by_cases h5 : k < i.ins.length
      · have hx : i.ins[k]? = some i.ins[k] := by simp [h5]
        generalize i.ins[k] = x at hx
        obtain ⟨z, hz, hxr⟩ := hbs k x hx
        have hzv := hp.v z (List.mem_of_getElem? hz)
        have d1 : decide ((k : Int) < i.ins.length) = true := by simp; omega
        have d2 := h1.idxI (i := k) (k := .i64) (by omega)
        have d3 := hp.vv.idx fV_len (by omega) (k := .i64) (i := x) hxr
        have d4 := cut_flat0 fV_len (n := 3) hz (by omega)
        have vz : viewOf p x = z := by simp [viewOf, List.getD_eq_getElem?_getD, hz]
        have oy := ho y (List.mem_of_getElem? hy)
        have oz := ho z (List.mem_of_getElem? hz)
        have ap := apart_ans (tok := tok) (prot := prot) hyv hzv (o1 := y.off) (o2 := z.off) y.w z.w oy oz
        have w1 : IntKind.wrap .i64 ((k : Int) + 1) = ((k + 1 : Nat) : Int) := by rw [wrap64 (by omega)]; simp
        have hsucc : apartAll p y (i.ins.take (k + 1)) = apart y.off y.w y.l z.off z.w z.l := by
          simp only [apartAll] at hap ⊢
          rw [List.take_add_one, hx, List.all_append, hap]; simp [vz]
        cases hza : apart y.off y.w y.l z.off z.w z.l
        · rw [hza] at ap
          have : apartAll p y i.ins = false := by
            cases ha : apartAll p y i.ins
            · rfl
            · unfold apartAll at ha
              rw [List.all_eq_true] at ha
              have := ha x (List.mem_of_getElem? hx)
              rw [vz, hza] at this; cases this
          simp -dsimp -implicitDefEqProofs only [go_sem, Nat.reduceEqDiff, Nat.reduceAdd, Nat.reduceMul, Nat.reduceLeDiff, Nat.reduceSub, Nat.reducePow, Nat.reduceDiv, Nat.reduceMod, Int.reduceAdd, Int.reduceLT, Int.reduceLE, Int.reduceToNat, Int.reduceNeg, Int.reduceEq, hp.vv.all, hp.cv.all, hp.wv.all, hp.kv.all, h1.all, h2.all, hyv.all, hzv.all, d1, d2, d3, d4, ap, w1, Int.toNat_natCast, cutI hx]
          simp [this]
        · rw [hza] at ap hsucc
          simp -dsimp -implicitDefEqProofs only [go_sem, Nat.reduceEqDiff, Nat.reduceAdd, Nat.reduceMul, Nat.reduceLeDiff, Nat.reduceSub, Nat.reducePow, Nat.reduceDiv, Nat.reduceMod, Int.reduceAdd, Int.reduceLT, Int.reduceLE, Int.reduceToNat, Int.reduceNeg, Int.reduceEq, hp.vv.all, hp.cv.all, hp.wv.all, hp.kv.all, h1.all, h2.all, hyv.all, hzv.all, d1, d2, d3, d4, ap, w1, Int.toNat_natCast, cutI hx, loopQ_norm]
          exact ⟨_, by omega, k + 1, by omega, rfl, hsucc, rfl⟩
      · have hkl' : k = i.ins.length := by omega
        subst hkl'
        rw [List.take_length] at hap
        have d1 : decide ((i.ins.length : Int) < i.ins.length) = false := by simp
        simp -dsimp -implicitDefEqProofs only [go_sem, Nat.reduceEqDiff, Nat.reduceAdd, Nat.reduceMul, Nat.reduceLeDiff, Nat.reduceSub, Nat.reducePow, Nat.reduceDiv, Nat.reduceMod, Int.reduceAdd, Int.reduceLT, Int.reduceLE, Int.reduceToNat, Int.reduceNeg, Int.reduceEq, hp.vv.all, hp.cv.all, hp.wv.all, hp.kv.all, h1.all, h2.all, hyv.all, d1, hds, hdv.all, hu, List.getElem?_cons_zero]
        simp [hap, erA]

/-! one instruction -/
def allIn (p : Pl) (l : List Int) : Bool := l.all fun k => decide (0 ≤ k ∧ k < p.views.length)
/-- what is amiss with an instruction, and what it costs: of what is made (mE: what is amiss; u: what an element costs) -/
def instrE (p : Pl) (i : In) (mE : Option Er) (u : Int) : Option Er :=
  if dataI i.op then
    if 0 ≤ i.dst ∧ i.dst < p.views.length then
      if allIn p i.ins then
        match mE with
        | some e => some e
        | none => if i.fr < 0 ∨ i.fr > i.to ∨ i.to > elems (viewOf p i.dst).l then some .range else if max ((i.to - i.fr) * u) 1 > 1024 then some .cost else none
      else some .none
    else some .none
  else if i.op < 22 ∨ i.op > 24 then some .kind
  else if allIn p i.ins then
    match jumpE p i with
    | some e => some e
    | none => if i.dst ≠ 0 ∨ i.fr ≠ 0 ∨ i.to ≠ 0 then some .range else none
  else some .none
def instrN (p : Pl) (i : In) (mE : Option Er) (u : Int) : Int := if instrE p i mE u = none then (if dataI i.op then max ((i.to - i.fr) * u) 1 else 1) else 0

theorem instr_loop {p : Pl} (hp : p.ok) {i : In} (hi : i.ok) (hb : i.ins.length < 1000000) {Q : AX → St → Prop}
    (hf : allIn p i.ins = false → Q .ret ⟨[(4, I 0), (5, erA (some .none))], [], []⟩) (ht : allIn p i.ins = true → Q (.exit 0) ⟨[(2, .lp 2 0 0), (3, .lp 3 0 0), (38, i.iv), (39, I i.ins.length), (40, I i.ins.length), (41, B false)], [(2, 0, fP p), (3, 0, fN i)], []⟩) :
    xp (EE tok prot) (.loop l39_0) ⟨[(2, .lp 2 0 0), (3, .lp 3 0 0), (38, i.iv), (39, I i.ins.length), (40, I 0)], [(2, 0, fP p), (3, 0, fN i)], []⟩ Q := by
  have h1 := hi.1
  have h2 := hi.2
  have vw := fun k => view_ans (tok := tok) (prot := prot) hp k
  refine xp_loop (fun n s => ∃ k : Nat, k ≤ i.ins.length ∧ n = i.ins.length - k ∧ allIn p (i.ins.take k) = true ∧ s = ⟨[(2, .lp 2 0 0), (3, .lp 3 0 0), (38, i.iv), (39, I i.ins.length), (40, I k)], [(2, 0, fP p), (3, 0, fN i)], []⟩) i.ins.length ⟨0, by omega, by omega, by simp [allIn], rfl⟩ ?_
  rintro n s ⟨k, hk, rfl, hok, rfl⟩
  rw [xl39_0]; unfold b39_0
  by_cases h5 : k < i.ins.length
  · have hx : i.ins[k]? = some i.ins[k] := by simp [h5]
    generalize i.ins[k] = x at hx
    have d1 : decide ((k : Int) < i.ins.length) = true := by simp; omega
    have d2 := h1.idxI (i := k) (k := .i64) (by omega)
    have w1 : IntKind.wrap .i64 ((k : Int) + 1) = ((k + 1 : Nat) : Int) := by rw [wrap64 (by omega)]; simp
    have hsucc : allIn p (i.ins.take (k + 1)) = decide (0 ≤ x ∧ x < p.views.length) := by
      simp only [allIn] at hok ⊢
      rw [List.take_add_one, hx, List.all_append, hok]; simp
    have vx := vw x
    cases hz : decide (0 ≤ x ∧ x < p.views.length)
    · rw [hz] at vx
      have : allIn p i.ins = false := by
        cases ha : allIn p i.ins
        · rfl
        · unfold allIn at ha
          rw [List.all_eq_true] at ha
          have := ha x (List.mem_of_getElem? hx)
          rw [hz] at this; cases this
      simp -dsimp -implicitDefEqProofs only [go_sem, Nat.reduceEqDiff, Nat.reduceAdd, Nat.reduceMul, Nat.reduceLeDiff, Nat.reduceSub, Nat.reducePow, Nat.reduceDiv, Nat.reduceMod, Int.reduceAdd, Int.reduceLT, Int.reduceLE, Int.reduceToNat, Int.reduceNeg, Int.reduceEq, hp.vv.all, hp.cv.all, hp.wv.all, hp.kv.all, h1.all, h2.all, d1, d2, vx, w1, Int.toNat_natCast, cutI hx]
      exact hf this
    · rw [hz] at vx hsucc
      simp -dsimp -implicitDefEqProofs only [go_sem, Nat.reduceEqDiff, Nat.reduceAdd, Nat.reduceMul, Nat.reduceLeDiff, Nat.reduceSub, Nat.reducePow, Nat.reduceDiv, Nat.reduceMod, Int.reduceAdd, Int.reduceLT, Int.reduceLE, Int.reduceToNat, Int.reduceNeg, Int.reduceEq, hp.vv.all, hp.cv.all, hp.wv.all, hp.kv.all, h1.all, h2.all, d1, d2, vx, w1, Int.toNat_natCast, cutI hx, loopQ_norm]
      exact ⟨_, by omega, k + 1, by omega, rfl, hsucc, rfl⟩
  · have hkl' : k = i.ins.length := by omega
    subst hkl'
    rw [List.take_length] at hok
    have d1 : decide ((i.ins.length : Int) < i.ins.length) = false := by simp
    simp -dsimp -implicitDefEqProofs only [go_sem, Nat.reduceEqDiff, Nat.reduceAdd, Nat.reduceMul, Nat.reduceLeDiff, Nat.reduceSub, Nat.reducePow, Nat.reduceDiv, Nat.reduceMod, Int.reduceAdd, Int.reduceLT, Int.reduceLE, Int.reduceToNat, Int.reduceNeg, Int.reduceEq, hp.vv.all, hp.cv.all, hp.wv.all, hp.kv.all, h1.all, h2.all, d1]
    exact ht hok

theorem instr_ans {p : Pl} (hp : p.ok) {i : In} (hi : i.ok) (hb : i.ins.length < 1000000) {mE : Option Er} {u : Int} (hu : 0 ≤ u ∧ u ≤ 1000000000)
    (hm : dataI i.op = true → (0 ≤ i.dst ∧ i.dst < p.views.length) → allIn p i.ins = true → ansL (EE tok prot) 57 [.agg (fP p), .agg (fN i)] = some (.tup [I (if mE = none then u else 0), erA mE])) :
    ansL (EE tok prot) 39 [.agg (fP p), .agg (fN i)] = some (.tup [I (instrN p i mE u), erA (instrE p i mE u)]) := by
  have h1 := hi.1
  have h2 := hi.2
  have kd := data_ans (tok := tok) (prot := prot) hi
  have vw := fun k => view_ans (tok := tok) (prot := prot) hp k
  have jp := jump_ans (tok := tok) (prot := prot) hp hi
  refine ansL_of (g := 39) rfl xc39 rfl rfl ?_
  unfold x39
  cases hd : dataI i.op
  · rw [hd] at kd
    by_cases hk : i.op < 22 ∨ i.op > 24
    · have he : instrE p i mE u = some .kind := by simp [instrE, hd]; omega
      have hn : instrN p i mE u = 0 := by simp [instrN, he]
      rw [he, hn]
      repeat' (first | refine br_intro (fun hh => ?_) fun hh => ?_ | simp -dsimp -implicitDefEqProofs only [go_sem, Nat.reduceEqDiff, Nat.reduceAdd, Nat.reduceMul, Nat.reduceLeDiff, Nat.reduceSub, Nat.reducePow, Nat.reduceDiv, Nat.reduceMod, Int.reduceAdd, Int.reduceLT, Int.reduceLE, Int.reduceToNat, Int.reduceNeg, Int.reduceEq, *, hp.vv.all, hp.cv.all, hp.wv.all, hp.kv.all, h1.all, h2.all, kd])
      all_goals (first | rfl | (exfalso; simp_all <;> omega))
    · have k1 : decide (i.op < 22) = false := by simp; omega
      have k2 : decide (24 < i.op) = false := by simp; omega
      simp -dsimp -implicitDefEqProofs only [go_sem, Nat.reduceEqDiff, Nat.reduceAdd, Nat.reduceMul, Nat.reduceLeDiff, Nat.reduceSub, Nat.reducePow, Nat.reduceDiv, Nat.reduceMod, Int.reduceAdd, Int.reduceLT, Int.reduceLE, Int.reduceToNat, Int.reduceNeg, Int.reduceEq, hp.vv.all, hp.cv.all, hp.wv.all, hp.kv.all, h1.all, h2.all, kd, k1, k2]
      refine instr_loop hp hi hb (fun hf => ?_) fun ht => ?_
      · have he : instrE p i mE u = some .none := by simp [instrE, hd, hk, hf]
        have hn : instrN p i mE u = 0 := by simp [instrN, he]
        rw [he, hn]
        simp -dsimp -implicitDefEqProofs only [go_sem, Nat.reduceEqDiff, Nat.reduceAdd, Nat.reduceMul, Nat.reduceLeDiff, Nat.reduceSub, Nat.reducePow, Nat.reduceDiv, Nat.reduceMod, Int.reduceAdd, Int.reduceLT, Int.reduceLE, Int.reduceToNat, Int.reduceNeg, Int.reduceEq]
      · cases hj : jumpE p i with
        | some e =>
          rw [hj] at jp
          have he : instrE p i mE u = some e := by simp [instrE, hd, hk, ht, hj]
          have hn : instrN p i mE u = 0 := by simp [instrN, he]
          rw [he, hn]
          simp -dsimp -implicitDefEqProofs only [go_sem, Nat.reduceEqDiff, Nat.reduceAdd, Nat.reduceMul, Nat.reduceLeDiff, Nat.reduceSub, Nat.reducePow, Nat.reduceDiv, Nat.reduceMod, Int.reduceAdd, Int.reduceLT, Int.reduceLE, Int.reduceToNat, Int.reduceNeg, Int.reduceEq, hp.vv.all, hp.cv.all, hp.wv.all, hp.kv.all, h1.all, h2.all, kd, jp, Option.isSome_some]
        | none =>
          rw [hj] at jp
          by_cases hz : i.dst ≠ 0 ∨ i.fr ≠ 0 ∨ i.to ≠ 0
          · have he : instrE p i mE u = some .range := by simp [instrE, hd, hk, ht, hj]; intro a b; omega
            have hn : instrN p i mE u = 0 := by simp [instrN, he]
            rw [he, hn]
            repeat' (first | refine br_intro (fun hh => ?_) fun hh => ?_ | simp -dsimp -implicitDefEqProofs only [go_sem, Nat.reduceEqDiff, Nat.reduceAdd, Nat.reduceMul, Nat.reduceLeDiff, Nat.reduceSub, Nat.reducePow, Nat.reduceDiv, Nat.reduceMod, Int.reduceAdd, Int.reduceLT, Int.reduceLE, Int.reduceToNat, Int.reduceNeg, Int.reduceEq, *, hp.vv.all, hp.cv.all, hp.wv.all, hp.kv.all, h1.all, h2.all, kd, jp, Option.isSome_none])
            all_goals (first | rfl | (exfalso; simp_all <;> omega))
          · have he : instrE p i mE u = none := by simp [instrE, hd, hk, ht, hj]; omega
            have hn : instrN p i mE u = 1 := by simp [instrN, he, hd]
            rw [he, hn]
            repeat' (first | refine br_intro (fun hh => ?_) fun hh => ?_ | simp -dsimp -implicitDefEqProofs only [go_sem, Nat.reduceEqDiff, Nat.reduceAdd, Nat.reduceMul, Nat.reduceLeDiff, Nat.reduceSub, Nat.reducePow, Nat.reduceDiv, Nat.reduceMod, Int.reduceAdd, Int.reduceLT, Int.reduceLE, Int.reduceToNat, Int.reduceNeg, Int.reduceEq, *, hp.vv.all, hp.cv.all, hp.wv.all, hp.kv.all, h1.all, h2.all, kd, jp, Option.isSome_none])
            all_goals (first | rfl | (exfalso; simp_all <;> omega))
  · rw [hd] at kd
    have vd := vw i.dst
    by_cases hk : 0 ≤ i.dst ∧ i.dst < p.views.length
    · have hkd : decide (0 ≤ i.dst ∧ i.dst < p.views.length) = true := decide_eq_true hk
      rw [hkd] at vd
      simp -dsimp -implicitDefEqProofs only [go_sem, Nat.reduceEqDiff, Nat.reduceAdd, Nat.reduceMul, Nat.reduceLeDiff, Nat.reduceSub, Nat.reducePow, Nat.reduceDiv, Nat.reduceMod, Int.reduceAdd, Int.reduceLT, Int.reduceLE, Int.reduceToNat, Int.reduceNeg, Int.reduceEq, hp.vv.all, hp.cv.all, hp.wv.all, hp.kv.all, h1.all, h2.all, kd, vd]
      refine instr_loop hp hi hb (fun hf => ?_) fun ht => ?_
      · have he : instrE p i mE u = some .none := by simp [instrE, hd, hk, hf]
        have hn : instrN p i mE u = 0 := by simp [instrN, he]
        rw [he, hn]
        simp -dsimp -implicitDefEqProofs only [go_sem, Nat.reduceEqDiff, Nat.reduceAdd, Nat.reduceMul, Nat.reduceLeDiff, Nat.reduceSub, Nat.reducePow, Nat.reduceDiv, Nat.reduceMod, Int.reduceAdd, Int.reduceLT, Int.reduceLE, Int.reduceToNat, Int.reduceNeg, Int.reduceEq]
      · have md := hm hd hk ht
        cases mE with
        | some e =>
          have he : instrE p i (some e) u = some e := by simp [instrE, hd, hk, ht]
          have hn : instrN p i (some e) u = 0 := by simp [instrN, he]
          rw [he, hn]
          simp only [reduceCtorEq, if_false] at md
          simp -dsimp -implicitDefEqProofs only [go_sem, Nat.reduceEqDiff, Nat.reduceAdd, Nat.reduceMul, Nat.reduceLeDiff, Nat.reduceSub, Nat.reducePow, Nat.reduceDiv, Nat.reduceMod, Int.reduceAdd, Int.reduceLT, Int.reduceLE, Int.reduceToNat, Int.reduceNeg, Int.reduceEq, hp.vv.all, hp.cv.all, hp.wv.all, hp.kv.all, h1.all, h2.all, kd, md, Option.isSome_some]
        | none =>
          simp only [if_true] at md
          have hy : p.views[i.dst.toNat]? = some (p.views[i.dst.toNat]'(by omega)) := by simp [show i.dst.toNat < p.views.length by omega]
          generalize p.views[i.dst.toNat]'(by omega) = y at hy
          have hyv := hp.v y (List.mem_of_getElem? hy)
          have hvy : viewOf p i.dst = y := by simp [viewOf, List.getD_eq_getElem?_getD, hy]
          have c3 := hp.vv.idx fV_len (by omega) (k := .i64) (i := i.dst) hk
          have c4 := cut_flat fV_len (o := 1) (n := 1) hy (by omega)
          have el := elems_ans (tok := tok) (prot := prot) hyv
          have er := elems_range y.l
          have hE : instrE p i none u = if i.fr < 0 ∨ i.fr > i.to ∨ i.to > elems y.l then some .range else if max ((i.to - i.fr) * u) 1 > 1024 then some .cost else none := by simp [instrE, hd, hk, ht, hvy]
          by_cases hz : i.fr < 0 ∨ i.fr > i.to ∨ i.to > elems y.l
          · have he : instrE p i none u = some .range := by rw [hE, if_pos hz]
            have hn : instrN p i none u = 0 := by simp [instrN, he]
            rw [he, hn]
            repeat' (first | refine br_intro (fun hh => ?_) fun hh => ?_ | simp -dsimp -implicitDefEqProofs only [go_sem, Nat.reduceEqDiff, Nat.reduceAdd, Nat.reduceMul, Nat.reduceLeDiff, Nat.reduceSub, Nat.reducePow, Nat.reduceDiv, Nat.reduceMod, Int.reduceAdd, Int.reduceLT, Int.reduceLE, Int.reduceToNat, Int.reduceNeg, Int.reduceEq, *, hp.vv.all, hp.cv.all, hp.wv.all, hp.kv.all, h1.all, h2.all, hyv.all, kd, md, c3, c4, el, Option.isSome_none])
            all_goals (first | rfl | (exfalso; simp_all <;> omega))
          · have hm0 : 0 ≤ (i.to - i.fr) * u := Int.mul_nonneg (by omega) (by omega)
            have hm1 : (i.to - i.fr) * u ≤ 16384 * 1000000000 := Int.mul_le_mul (by omega) (by omega) (by omega) (by omega)
            have w1 : IntKind.wrap .i64 (i.to - i.fr) = i.to - i.fr := wrap64 (by omega)
            have w2 : IntKind.wrap .i64 ((i.to - i.fr) * u) = (i.to - i.fr) * u := wrap64 (by omega)
            have q1 : decide (i.fr < 0) = false := by simp; omega
            have q2 : decide (i.to < i.fr) = false := by simp; omega
            have q3 : decide (elems y.l < i.to) = false := by simp; omega
            by_cases hc : max ((i.to - i.fr) * u) 1 > 1024
            · have he : instrE p i none u = some .cost := by rw [hE, if_neg hz, if_pos hc]
              have hn : instrN p i none u = 0 := by simp [instrN, he]
              rw [he, hn]
              have q4 : decide (1024 < max ((i.to - i.fr) * u) 1) = true := decide_eq_true hc
              simp -dsimp -implicitDefEqProofs only [go_sem, Nat.reduceEqDiff, Nat.reduceAdd, Nat.reduceMul, Nat.reduceLeDiff, Nat.reduceSub, Nat.reducePow, Nat.reduceDiv, Nat.reduceMod, Int.reduceAdd, Int.reduceLT, Int.reduceLE, Int.reduceToNat, Int.reduceNeg, Int.reduceEq, hp.vv.all, hp.cv.all, hp.wv.all, hp.kv.all, h1.all, h2.all, hyv.all, kd, md, c3, c4, el, Option.isSome_none, w1, w2, q1, q2, q3, q4]
            · have he : instrE p i none u = none := by rw [hE, if_neg hz, if_neg hc]
              have hn : instrN p i none u = max ((i.to - i.fr) * u) 1 := by simp [instrN, he, hd]
              rw [he, hn]
              have q4 : decide (1024 < max ((i.to - i.fr) * u) 1) = false := decide_eq_false hc
              simp -dsimp -implicitDefEqProofs only [go_sem, Nat.reduceEqDiff, Nat.reduceAdd, Nat.reduceMul, Nat.reduceLeDiff, Nat.reduceSub, Nat.reducePow, Nat.reduceDiv, Nat.reduceMod, Int.reduceAdd, Int.reduceLT, Int.reduceLE, Int.reduceToNat, Int.reduceNeg, Int.reduceEq, hp.vv.all, hp.cv.all, hp.wv.all, hp.kv.all, h1.all, h2.all, hyv.all, kd, md, c3, c4, el, Option.isSome_none, w1, w2, q1, q2, q3, q4]
              rfl
    · have hkd : decide (0 ≤ i.dst ∧ i.dst < p.views.length) = false := decide_eq_false hk
      rw [hkd] at vd
      have he : instrE p i mE u = some .none := by simp only [instrE, hd, if_true, if_neg hk]
      have hn : instrN p i mE u = 0 := by simp [instrN, he]
      rw [he, hn]
      simp -dsimp -implicitDefEqProofs only [go_sem, Nat.reduceEqDiff, Nat.reduceAdd, Nat.reduceMul, Nat.reduceLeDiff, Nat.reduceSub, Nat.reducePow, Nat.reduceDiv, Nat.reduceMod, Int.reduceAdd, Int.reduceLT, Int.reduceLE, Int.reduceToNat, Int.reduceNeg, Int.reduceEq, hp.vv.all, hp.cv.all, hp.wv.all, hp.kv.all, h1.all, h2.all, kd, vd]
end Go.Proofs.YtcfaajaccbadbaaDoor
