/- What an operation does hangs on the temporaries that it reads, and on memory. -/
import Derived.Test.YtcfaajaccbadbaaDoorAhmQ
set_option linter.unusedSimpArgs false
set_option linter.unusedVariables false
namespace Go.Proofs.YtcfaajaccbadbaaDoor.Ahm
open Go

section
variable {E : Env} {m m' : Tm}

theorem opvs_congr : ∀ {xs : List Operand}, (∀ x ∈ xs, opv m x = opv m' x) → opvs m xs = opvs m' xs
  | [], _ => rfl
  | x :: xs, h => by
    simp only [opvs, h x (List.mem_cons_self ..), opvs_congr fun y hy => h y (List.mem_cons_of_mem _ hy)]

theorem parts_congr : ∀ {ps : List (Nat × Operand)}, (∀ p ∈ ps, opv m p.2 = opv m' p.2) → parts m ps = parts m' ps
  | [], _ => rfl
  | (i, x) :: ps, h => by
    simp only [parts, h (i, x) (List.mem_cons_self ..), parts_congr fun y hy => h y (List.mem_cons_of_mem _ hy)]

theorem getL_congr {lb : Lb} {st : List AObj} {x : Operand} (h : opv m x = opv m' x) : getL m lb st x = getL m' lb st x := by
  simp only [getL, h]

theorem quiet_congr {lb : Lb} {st : List AObj} {o : Oper} (h : ∀ x ∈ o.op.operands.toList, opv m x = opv m' x) : quiet E m lb st o = quiet E m' lb st o := by
  obtain ⟨dst, op, type, pos, after, guard⟩ := o
  cases op <;> simp only [quiet] <;> simp only [Op.operands] at h
  case move x => exact h x (by simp)
  case assign x => exact h x (by simp)
  case pick c a b => simp only [h c (by simp), h a (by simp), h b (by simp)]
  case build t ps => rw [parts_congr fun p hp => h p.2 (by simp; exact ⟨p.1, by simpa using hp⟩)]
  case load t x => rw [h x (by simp)]
  case nilCheck x => rw [getL_congr (h x (by simp))]
  case binOp op t x y yt => rw [getL_congr (h x (by simp)), getL_congr (h y (by simp))]
  case unOp op t x => cases op <;> simp only [quiet] <;> rw [h x (by simp)]
  case convert s d x => rw [h x (by simp)]
  case makeInterface t x => rw [h x (by simp)]
  case makeFunc fn first captured =>
    cases fn <;> simp only [quiet]
    rw [opvs_congr (m := m) (m' := m') (xs := first.toList) fun x hx => h x (by simp at hx ⊢; exact .inl hx), opvs_congr (m := m) (m' := m') (xs := captured.toList) fun x hx => h x (by simp at hx ⊢; exact .inr hx)]
  case slice t x lo hi mx =>
    rw [getL_congr (h x (by simp))]
    have e : ∀ y : Option Operand, (∀ z, y = some z → opv m z = opv m' z) → y.map (opv m) = y.map (opv m') := fun y hy => by cases y with | none => rfl | some z => simp [hy z rfl]
    rw [e lo fun z hz => h z (by simp [hz]), e hi fun z hz => h z (by simp [hz]), e mx fun z hz => h z (by simp [hz])]
  case fieldAddr t x i => rw [getL_congr (h x (by simp))]
  case field t x i => rw [h x (by simp)]
  case indexAddr t x i => rw [getL_congr (h x (by simp)), h i (by simp)]
  case index t x i => rw [h x (by simp), h i (by simp)]
  case lookup t x i ok => rw [h x (by simp), h i (by simp)]
  case typeAssert x xt t ok => rw [h x (by simp)]
  case extract t i => rw [h t (by simp)]
  case call c =>
    obtain ⟨callee, args, ats⟩ := c
    simp only [Call.operands] at h
    cases callee with
    | builtin b =>
      have ha : ∀ x ∈ args.toList, opv m x = opv m' x := fun x hx => h x (by simp at hx ⊢; exact hx)
      cases b <;> simp only [quiet]
      case len =>
        split
        · rename_i x t hx ht
          rw [getL_congr (ha x (by rw [hx]; simp))]
        · rfl
      case max => rw [opvs_congr ha]
      case min => rw [opvs_congr ha]
    | _ => simp only [quiet]

theorem effect_congr {f : FuncId} {lb : Lb} {st : List AObj} {o : Oper} (h : ∀ x ∈ o.op.operands.toList, opv m x = opv m' x) : effect E f m lb st o = effect E f m' lb st o := by
  obtain ⟨dst, op, type, pos, after, guard⟩ := o
  cases op <;> simp only [effect] <;> simp only [Op.operands] at h
  case box t x => rw [h x (by simp)]
  case buildSlice t n ps => rw [parts_congr fun p hp => h p.2 (by simp; exact ⟨p.1, by simpa using hp⟩)]
  case makeSlice t l c => rw [h l (by simp), h c (by simp)]
  case convert s d x => rw [h x (by simp)]
  case makeMap t r => cases r <;> rfl
  case store t x y => rw [h x (by simp), h y (by simp)]
  case mapUpdate t x k y => rw [h x (by simp), h k (by simp), h y (by simp)]
  case insert t x k y => rw [h x (by simp), h k (by simp), h y (by simp)]
  case call c =>
    obtain ⟨callee, args, ats⟩ := c
    simp only [Call.operands] at h
    cases callee with
    | builtin b =>
      have ha : ∀ x ∈ args.toList, opv m x = opv m' x := fun x hx => h x (by simp at hx ⊢; exact hx)
      cases b <;> simp only [effect]
      case append => rw [opvs_congr ha]
    | _ => simp only [effect]

theorem callA_congr {callf : CallF} {st : List AObj} {o : Oper} (h : ∀ x ∈ o.op.operands.toList, opv m x = opv m' x) : callA callf m st o = callA callf m' st o := by
  obtain ⟨dst, op, type, pos, after, guard⟩ := o
  cases op <;> simp only [callA]
  case call c =>
    obtain ⟨callee, args, ats⟩ := c
    simp only [Op.operands, Call.operands] at h
    cases callee with
    | value f =>
      have ha : ∀ x ∈ args.toList, opv m x = opv m' x := fun x hx => h x (by simp at hx ⊢; exact .inr hx)
      simp only [callA]
      rw [h f (by simp), opvs_congr ha]
    | _ => simp only [callA]

theorem runOp_congr {callf : CallF} {f : FuncId} {lb : Lb} {st : List AObj} {o : Oper} (h : ∀ x ∈ o.op.operands.toList, opv m x = opv m' x) : runOp E callf f m lb st o = runOp E callf f m' lb st o := by
  unfold runOp
  rw [quiet_congr h, effect_congr h, callA_congr h]

theorem opv_congr {x : Operand} (h : ∀ t, x = .tmp t → tmGet m t = tmGet m' t) : opv m x = opv m' x := by
  cases x with
  | tmp t => exact h t rfl
  | _ => rfl

theorem quiet_heapFree {lb lb' : Lb} {st st' : List AObj} {o : Oper} (h : heapFree o = true) : quiet E m lb st o = quiet E m lb' st' o := by
  obtain ⟨dst, op, type, pos, after, guard⟩ := o
  cases op <;> simp only [heapFree, Bool.false_eq_true] at h
  case unOp op t x => cases op <;> rfl
  case makeFunc fn a b => cases fn <;> rfl
  all_goals rfl

end

/-! ### equality of values -/
mutual
theorem vbeq_eq : ∀ (a b : Value), vbeq a b = true → a = b
  | .bool a, b, h => by cases b <;> simp [vbeq] at h; rw [h]
  | .int k a, b, h => by cases b <;> simp [vbeq] at h; rw [h.1, h.2]
  | .string a, b, h => by cases b <;> simp [vbeq] at h; rw [h]
  | .nilFunc, b, h => by cases b <;> simp [vbeq] at h; rfl
  | .nilIface, b, h => by cases b <;> simp [vbeq] at h; rfl
  | .pointer a, b, h => by cases b <;> simp [vbeq] at h; rw [h]
  | .slice a n m, b, h => by cases b <;> simp [vbeq] at h; rw [h.1.1, h.1.2, h.2]
  | .map a, b, h => by cases b <;> simp [vbeq] at h; rw [h]
  | .tuple ⟨a⟩, b, h => by
    cases b with
    | tuple b => obtain ⟨b⟩ := b; simp only [vbeq] at h; rw [vbeqL_eq a b h]
    | _ => simp [vbeq] at h
  | .float k a, b, h => by cases b <;> simp [vbeq] at h; rw [h.1, h.2]
  | .complex k a c, b, h => by cases b <;> simp [vbeq] at h; rw [h.1.1, h.1.2, h.2]
  | .chan a, b, h => by cases b <;> simp [vbeq] at h; rw [h]
  | .func f ⟨a⟩ ⟨c⟩, b, h => by
    cases b with
    | func g b d => obtain ⟨b⟩ := b; obtain ⟨d⟩ := d; simp only [vbeq, Bool.and_eq_true, decide_eq_true_eq] at h; rw [h.1.1, vbeqL_eq a b h.1.2, vbeqL_eq c d h.2]
    | _ => simp [vbeq] at h
  | .iface t v, b, h => by
    cases b with
    | iface u w => simp only [vbeq, Bool.and_eq_true] at h; rw [Nat.eq_of_beq_eq_true h.1, vbeq_eq v w h.2]
    | _ => simp [vbeq] at h
  | .agg ⟨a⟩, b, h => by
    cases b with
    | agg b => obtain ⟨b⟩ := b; simp only [vbeq] at h; rw [vbeqL_eq a b h]
    | _ => simp [vbeq] at h
theorem vbeqL_eq : ∀ (a b : List Value), vbeqL a b = true → a = b
  | [], [], _ => rfl
  | a :: r, b :: s, h => by simp only [vbeqL, Bool.and_eq_true] at h; rw [vbeq_eq a b h.1, vbeqL_eq r s h.2]
  | [], _ :: _, h => by simp [vbeqL] at h
  | _ :: _, [], h => by simp [vbeqL] at h
end
mutual
theorem vbeq_self : ∀ (a : Value), vbeq a a = true
  | .bool a => by simp [vbeq]
  | .int k a => by simp [vbeq]
  | .string a => by simp [vbeq]
  | .nilFunc => rfl
  | .nilIface => rfl
  | .pointer a => by simp [vbeq]
  | .slice a n m => by simp [vbeq]
  | .map a => by simp [vbeq]
  | .tuple ⟨a⟩ => by simp only [vbeq]; exact vbeqL_self a
  | .float k a => by simp [vbeq]
  | .complex k a c => by simp [vbeq]
  | .chan a => by simp [vbeq]
  | .func f ⟨a⟩ ⟨c⟩ => by simp [vbeq, vbeqL_self a, vbeqL_self c]
  | .iface t v => by simp [vbeq, vbeq_self v]
  | .agg ⟨a⟩ => by simp only [vbeq]; exact vbeqL_self a
theorem vbeqL_self : ∀ (a : List Value), vbeqL a a = true
  | [] => rfl
  | a :: r => by simp [vbeqL, vbeq_self a, vbeqL_self r]
end
mutual
theorem beq_eq : ∀ (a b : AV), AV.beq a b = true → a = b
  | .sc v, b, h => by cases b <;> simp [AV.beq] at h; rw [vbeq_eq _ _ h]
  | .sp k, b, h => by cases b <;> simp [AV.beq] at h; rw [h]
  | .gl k, b, h => by cases b <;> simp [AV.beq] at h; rw [h]
  | .fs c n, b, h => by cases b <;> simp [AV.beq] at h; rw [beqL_eq _ _ h.1, h.2]
  | .fp c n, b, h => by cases b <;> simp [AV.beq] at h; rw [beqL_eq _ _ h.1, h.2]
  | .sl _ _ _ _, b, h => by cases b <;> simp [AV.beq] at h; simp [h]
  | .rf _ _ _, b, h => by cases b <;> simp [AV.beq] at h; simp [h]
  | .lp _ _ _, b, h => by cases b <;> simp [AV.beq] at h; simp [h]
  | .e0, b, h => by cases b <;> simp [AV.beq] at h; rfl
  | .ifc t v, b, h => by cases b <;> simp [AV.beq] at h; rw [h.1, beq_eq _ _ h.2]
  | .agg c, b, h => by cases b <;> simp [AV.beq] at h; rw [beqL_eq _ _ h]
  | .tup c, b, h => by cases b <;> simp [AV.beq] at h; rw [beqL_eq _ _ h]
  | .fn f x y, b, h => by cases b <;> simp [AV.beq] at h; rw [h.1.1, beqL_eq _ _ h.1.2, beqL_eq _ _ h.2]
  | .mp o, b, h => by cases b <;> simp [AV.beq] at h; rw [h]
theorem beqL_eq : ∀ (a b : List AV), AV.beqL a b = true → a = b
  | [], b, h => by cases b <;> simp [AV.beqL] at h; rfl
  | x :: r, b, h => by cases b <;> simp [AV.beqL] at h; rw [beq_eq _ _ h.1, beqL_eq _ _ h.2]
end

mutual
theorem beq_self : ∀ (a : AV), AV.beq a a = true
  | .sc v => by simp [AV.beq, vbeq_self]
  | .sp k => by simp [AV.beq]
  | .gl k => by simp [AV.beq]
  | .fs c n => by simp [AV.beq, beqL_self c]
  | .fp c n => by simp [AV.beq, beqL_self c]
  | .sl _ _ _ _ => by simp [AV.beq]
  | .rf _ _ _ => by simp [AV.beq]
  | .lp _ _ _ => by simp [AV.beq]
  | .e0 => rfl
  | .ifc t v => by simp [AV.beq, beq_self v]
  | .agg c => by simp [AV.beq, beqL_self c]
  | .tup c => by simp [AV.beq, beqL_self c]
  | .fn f x y => by simp [AV.beq, beqL_self x, beqL_self y]
  | .mp o => by simp [AV.beq]
theorem beqL_self : ∀ (a : List AV), AV.beqL a a = true
  | [] => rfl
  | x :: r => by simp [AV.beqL, beq_self x, beqL_self r]
end

theorem enBeq_eq : ∀ {a b : List (Value × AV)}, enBeq a b = true → a = b
  | [], [], _ => rfl
  | (k, v) :: r, (l, w) :: s, h => by
    simp only [enBeq, Bool.and_eq_true] at h
    rw [vbeq_eq _ _ h.1.1, beq_eq _ _ h.1.2, enBeq_eq h.2]
  | [], _ :: _, h => by simp [enBeq] at h
  | _ :: _, [], h => by simp [enBeq] at h
theorem enBeq_self : ∀ (a : List (Value × AV)), enBeq a a = true
  | [] => rfl
  | (k, v) :: r => by simp [enBeq, vbeq_self, beq_self, enBeq_self r]
theorem obBeq_eq {a b : AObj} (h : obBeq a b = true) : a = b := by
  cases a with
  | arr c e w => cases b with
    | arr d f x =>
      simp only [obBeq, Bool.and_eq_true] at h
      rw [beqL_eq _ _ h.1.1, Nat.eq_of_beq_eq_true h.1.2, eq_of_beq h.2]
    | map _ => simp [obBeq] at h
  | map es => cases b with
    | arr _ _ _ => simp [obBeq] at h
    | map fs => simp only [obBeq] at h; rw [enBeq_eq h]
theorem obBeq_self : ∀ (a : AObj), obBeq a a = true
  | .arr c e w => by simp [obBeq, beqL_self]
  | .map es => by simp [obBeq, enBeq_self]
theorem stBeq_eq : ∀ {a b : List AObj}, stBeq a b = true → a = b
  | [], [], _ => rfl
  | x :: r, y :: s, h => by simp only [stBeq, Bool.and_eq_true] at h; rw [obBeq_eq h.1, stBeq_eq h.2]
  | [], _ :: _, h => by simp [stBeq] at h
  | _ :: _, [], h => by simp [stBeq] at h
theorem lbBeq_eq : ∀ {a b : Lb}, lbBeq a b = true → a = b
  | [], [], _ => rfl
  | (k, g, c) :: r, (l, h', d) :: s, h => by
    simp only [lbBeq, Bool.and_eq_true] at h
    rw [Nat.eq_of_beq_eq_true h.1.1.1, Nat.eq_of_beq_eq_true h.1.1.2, beqL_eq _ _ h.1.2, lbBeq_eq h.2]
  | [], _ :: _, h => by simp [lbBeq] at h
  | _ :: _, [], h => by simp [lbBeq] at h
theorem stBeq_self : ∀ (a : List AObj), stBeq a a = true
  | [] => rfl
  | x :: r => by simp [stBeq, obBeq_self, stBeq_self r]
theorem lbBeq_self : ∀ (a : Lb), lbBeq a a = true
  | [] => rfl
  | (k, g, c) :: r => by simp [lbBeq, beqL_self, lbBeq_self r]

end Go.Proofs.YtcfaajaccbadbaaDoor.Ahm
