/- What an operation does hangs on the temporaries that it reads, and on memory. -/
import Derived.Test.YtcfaajaccbadbaaDoorAhmQ
set_option linter.unusedSimpArgs false
set_option linter.unusedVariables false
namespace Go.Proofs.YtcfaajaccbadbaaDoor.Ahm
open Go

section
variable {E : Env} {m m' : Tm}

theorem opvs_congr : ∀ {xs : List Operand}, (∀ x ∈ xs, opv m x = opv m' x) → opvs m xs = opvs m' xs
  | [], _ => rfl
  | x :: xs, h => by
    simp only [opvs, h x (List.mem_cons_self ..), opvs_congr fun y hy => h y (List.mem_cons_of_mem _ hy)]

theorem parts_congr : ∀ {ps : List (Nat × Operand)}, (∀ p ∈ ps, opv m p.2 = opv m' p.2) → parts m ps = parts m' ps
  | [], _ => rfl
  | (i, x) :: ps, h => by
    simp only [parts, h (i, x) (List.mem_cons_self ..), parts_congr fun y hy => h y (List.mem_cons_of_mem _ hy)]

theorem getL_congr {lb : Lb} {st : List AObj} {x : Operand} (h : opv m x = opv m' x) : getL m lb st x = getL m' lb st x := by
  simp only [getL, h]

theorem quiet_congr {lb : Lb} {st : List AObj} {o : Oper} (h : ∀ x ∈ o.op.operands.toList, opv m x = opv m' x) : quiet E m lb st o = quiet E m' lb st o := by
  obtain ⟨dst, op, type, pos, after, guard⟩ := o
  cases op <;> simp only [quiet] <;> simp only [Op.operands] at h
  case move x => exact h x (by simp)
  case assign x => exact h x (by simp)
  case pick c a b => simp only [h c (by simp), h a (by simp), h b (by simp)]
  case build t ps => rw [parts_congr fun p hp => h p.2 (by simp; exact ⟨p.1, by simpa using hp⟩)]
  case load t x => rw [h x (by simp)]
  case nilCheck x => rw [getL_congr (h x (by simp))]
  case binOp op t x y yt => rw [getL_congr (h x (by simp)), getL_congr (h y (by simp))]
  case unOp op t x => cases op <;> simp only [quiet] <;> rw [h x (by simp)]
  case convert s d x => rw [h x (by simp)]
  case makeInterface t x => rw [h x (by simp)]
  case makeFunc fn first captured =>
    cases fn <;> simp only [quiet]
    rw [opvs_congr (m := m) (m' := m') (xs := first.toList) fun x hx => h x (by simp at hx ⊢; exact .inl hx), opvs_congr (m := m) (m' := m') (xs := captured.toList) fun x hx => h x (by simp at hx ⊢; exact .inr hx)]
  case slice t x lo hi mx =>
    rw [getL_congr (h x (by simp))]
    have e : ∀ y : Option Operand, (∀ z, y = some z → opv m z = opv m' z) → y.map (opv m) = y.map (opv m') := fun y hy => by cases y with | none => rfl | some z => simp [hy z rfl]
    rw [e lo fun z hz => h z (by simp [hz]), e hi fun z hz => h z (by simp [hz]), e mx fun z hz => h z (by simp [hz])]
  case fieldAddr t x i => rw [getL_congr (h x (by simp))]
  case field t x i => rw [h x (by simp)]
  case indexAddr t x i => rw [getL_congr (h x (by simp)), h i (by simp)]
  case index t x i => rw [h x (by simp), h i (by simp)]
  case lookup t x i ok => rw [h x (by simp), h i (by simp)]
  case typeAssert x xt t ok => rw [h x (by simp)]
  case extract t i => rw [h t (by simp)]
  case call c =>
    obtain ⟨callee, args, ats⟩ := c
    simp only [Call.operands] at h
    cases callee with
    | builtin b =>
      have ha : ∀ x ∈ args.toList, opv m x = opv m' x := fun x hx => h x (by simp at hx ⊢; exact hx)
      cases b <;> simp only [quiet]
      case len =>
        split
        · rename_i x t hx ht
          rw [getL_congr (ha x (by rw [hx]; simp))]
        · rfl
      case max => rw [opvs_congr ha]
      case min => rw [opvs_congr ha]
    | _ => simp only [quiet]

theorem effect_congr {f : FuncId} {lb : Lb} {st : List AObj} {o : Oper} (h : ∀ x ∈ o.op.operands.toList, opv m x = opv m' x) : effect E f m lb st o = effect E f m' lb st o := by
  obtain ⟨dst, op, type, pos, after, guard⟩ := o
  cases op <;> simp only [effect] <;> simp only [Op.operands] at h
  case box t x => rw [h x (by simp)]
  case buildSlice t n ps => rw [parts_congr fun p hp => h p.2 (by simp; exact ⟨p.1, by simpa using hp⟩)]
  case makeSlice t l c => rw [h l (by simp), h c (by simp)]
  case convert s d x => rw [h x (by simp)]
  case makeMap t r => cases r <;> rfl
  case store t x y => rw [h x (by simp), h y (by simp)]
  case mapUpdate t x k y => rw [h x (by simp), h k (by simp), h y (by simp)]
  case insert t x k y => rw [h x (by simp), h k (by simp), h y (by simp)]
  case call c =>
    obtain ⟨callee, args, ats⟩ := c
    simp only [Call.operands] at h
    cases callee with
    | builtin b =>
      have ha : ∀ x ∈ args.toList, opv m x = opv m' x := fun x hx => h x (by simp at hx ⊢; exact hx)
      cases b <;> simp only [effect]
      case append => rw [opvs_congr ha]
    | _ => simp only [effect]

theorem callA_congr {callf : CallF} {st : List AObj} {o : Oper} (h : ∀ x ∈ o.op.operands.toList, opv m x = opv m' x) : callA callf m st o = callA callf m' st o := by
  obtain ⟨dst, op, type, pos, after, guard⟩ := o
  cases op <;> simp only [callA]
  case call c =>
    obtain ⟨callee, args, ats⟩ := c
    simp only [Op.operands, Call.operands] at h
    cases callee with
    | value f =>
      have ha : ∀ x ∈ args.toList, opv m x = opv m' x := fun x hx => h x (by simp at hx ⊢; exact .inr hx)
      simp only [callA]
      rw [h f (by simp), opvs_congr ha]
    | _ => simp only [callA]

theorem runOp_congr {callf : CallF} {f : FuncId} {lb : Lb} {st : List AObj} {o : Oper} (h : ∀ x ∈ o.op.operands.toList, opv m x = opv m' x) : runOp E callf f m lb st o = runOp E callf f m' lb st o := by
  unfold runOp
  rw [quiet_congr h, effect_congr h, callA_congr h]

theorem opv_congr {x : Operand} (h : ∀ t, x = .tmp t → tmGet m t = tmGet m' t) : opv m x = opv m' x := by
  cases x with
  | tmp t => exact h t rfl
  | _ => rfl

theorem quiet_heapFree {lb lb' : Lb} {st st' : List AObj} {o : Oper} (h : heapFree o = true) : quiet E m lb st o = quiet E m lb' st' o := by
  obtain ⟨dst, op, type, pos, after, guard⟩ := o
  cases op <;> simp only [heapFree, Bool.false_eq_true] at h
  case unOp op t x => cases op <;> rfl
  case makeFunc fn a b => cases fn <;> rfl
  all_goals rfl

end

/-! ### equality of values -/
theorem vbeq_eq {a b : Value} (h : vbeq a b = true) : a = b := by
  cases a <;> cases b <;> (try (simp [vbeq] at h; done))
  case tuple.tuple x y =>
    simp [vbeq] at h
    rw [h.1, h.2]
  case bool.bool x y => simp [vbeq] at h; rw [h]
  case int.int k x l y => simp [vbeq] at h; rw [h.1, h.2]
  case string.string x y => simp [vbeq] at h; rw [h]
  case pointer.pointer x y => cases x <;> cases y <;> simp_all [vbeq]
  case slice.slice x n m y n' m' =>
    cases x <;> cases y <;> cases n <;> cases m <;> cases n' <;> cases m' <;> simp_all [vbeq]
  case map.map x y => cases x <;> cases y <;> simp_all [vbeq]
  all_goals rfl

mutual
theorem beq_eq : ∀ (a b : AV), AV.beq a b = true → a = b
  | .sc v, b, h => by cases b <;> simp [AV.beq] at h; rw [vbeq_eq h]
  | .sp k, b, h => by cases b <;> simp [AV.beq] at h; rw [h]
  | .gl k, b, h => by cases b <;> simp [AV.beq] at h; rw [h]
  | .fs c n, b, h => by cases b <;> simp [AV.beq] at h; rw [beqL_eq _ _ h.1, h.2]
  | .fp c n, b, h => by cases b <;> simp [AV.beq] at h; rw [beqL_eq _ _ h.1, h.2]
  | .sl _ _ _ _, b, h => by cases b <;> simp [AV.beq] at h; simp [h]
  | .rf _ _ _, b, h => by cases b <;> simp [AV.beq] at h; simp [h]
  | .lp _ _ _, b, h => by cases b <;> simp [AV.beq] at h; simp [h]
  | .e0, b, h => by cases b <;> simp [AV.beq] at h; rfl
  | .ifc t v, b, h => by cases b <;> simp [AV.beq] at h; rw [h.1, beq_eq _ _ h.2]
  | .agg c, b, h => by cases b <;> simp [AV.beq] at h; rw [beqL_eq _ _ h]
  | .tup c, b, h => by cases b <;> simp [AV.beq] at h; rw [beqL_eq _ _ h]
  | .fn f x y, b, h => by cases b <;> simp [AV.beq] at h; rw [h.1.1, beqL_eq _ _ h.1.2, beqL_eq _ _ h.2]
  | .mp o, b, h => by cases b <;> simp [AV.beq] at h; rw [h]
theorem beqL_eq : ∀ (a b : List AV), AV.beqL a b = true → a = b
  | [], b, h => by cases b <;> simp [AV.beqL] at h; rfl
  | x :: r, b, h => by cases b <;> simp [AV.beqL] at h; rw [beq_eq _ _ h.1, beqL_eq _ _ h.2]
end

end Go.Proofs.YtcfaajaccbadbaaDoor.Ahm
