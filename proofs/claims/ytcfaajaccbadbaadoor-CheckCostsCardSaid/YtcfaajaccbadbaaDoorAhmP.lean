/- Every operation that changes memory, but calls. -/
import Derived.Test.YtcfaajaccbadbaaDoorAhmO
set_option linter.unusedSimpArgs false
set_option linter.unusedVariables false
namespace Go.Proofs.YtcfaajaccbadbaaDoor.Ahm
open Go

section
variable {C : Ctx}

theorem run_newVar (P : Program) (t : TypeId) (v : Value) (w : World) : (newVar t v).run P w = .ok ⟨w.heap.size, 0, none⟩ (w.alloc (.cells v.cells t)) := by
  simp [newVar, newRow]

theorem out_of {C' : Ctx} {w' : World} {lb' : Lb} {st' : List AObj} (h : Out C w' lb' st' C') : Out C C'.w lb' st' C' := by rw [h.w]; exact h

theorem newVarA_nolp {f : FuncId} {d : Option Tmp} {lb lb' : Lb} {st st' : List AObj} {t : TypeId} {cells : List AV} {v : AV} (h : effect.newVarA C.E f d lb st t cells = some (v, lb', st')) : True := trivial

/-- a mark behind a block's last cell -/
theorem mark_sound (hm : Mem C) {o off n L : Nat} {cells : List AV} {e : TypeId} {c : Value} (ho : C.st[o]? = some (.arr cells e true)) (hL : cells.length = L) (hr : Rep C (.sl o off n L) c) :
    ∃ (a : Addr) (cap : Nat) (C' : Ctx), c = .slice (some a) n cap ∧ (markStringish a).run C.E.P C.w = .ok () C'.w ∧ Out C C'.w C.lb C.st C' := by
  obtain ⟨cap, s, cur, fz, rfl, hs, hbb, h1, h2, h3⟩ := rep_sl hr ho hL
  obtain ⟨cur', fz', vals, hbb', hsz', hnf, hc, hrr⟩ := hm.arr o cells e true ho
  rw [hbb] at hbb'; cases hbb'
  have hlt := lt_of_some ho
  let fz2 : Nat × Nat := if fz.1 == fz.2 then (cur.size, cur.size + 1) else (min fz.1 cur.size, max fz.2 (cur.size + 1))
  have hnf2 : NoFz cur fz2 := by
    by_cases he : fz.1 = fz.2
    · have : fz2 = (cur.size, cur.size + 1) := by simp [fz2, he]
      rw [this]
      exact ⟨fun j hj h => by simp at h; omega, by simp⟩
    · have : fz2 = (min fz.1 cur.size, max fz.2 (cur.size + 1)) := by simp [fz2, he]
      rw [this]
      have hge : cur.size ≤ fz.1 := by
        rcases Nat.lt_or_ge fz.1 cur.size with h | h
        · exact absurd ⟨Nat.le_refl _, by have := hnf.2; omega⟩ (hnf.1 fz.1 h)
        · exact h
      refine ⟨fun j hj h => ?_, ?_⟩
      · simp only at h; omega
      · simp only; omega
  let w' : World := C.w.freeze ⟨C.io o, cur.size, none⟩ 1
  have hblt : C.io o < C.w.heap.size := alt_of_some hbb
  have hget : C.w.heap[C.io o] = .cells cur e fz := (Array.getElem?_eq_some_iff.1 hbb).2
  have hsame : w'.heap[C.io o]? = some (.cells cur e fz2) := by
    obtain ⟨f1, f2⟩ := fz
    simp [w', World.freeze, Array.getElem?_modify, hbb, fz2]
  have hother : ∀ b, b ≠ C.io o → w'.heap[b]? = C.w.heap[b]? := fun b hb => by simp [w', World.freeze, Array.getElem?_modify, Ne.symm hb]
  have ht : Turned C w' o (C.io o) :=
    { os := by simp [w', World.freeze], tape := by simp [w', World.freeze], output := by simp [w', World.freeze], size := by simp [w', World.freeze], keep := fun b' _ hne => hother b' hne,
      form := fun c1 e1 f1 h1 => by rw [hbb] at h1; cases h1; exact ⟨cur, fz2, hsame, rfl⟩, place := .inl rfl }
  have hms := mem_seto hm ho ht (Nat.le_refl _) (fun _ => rfl) hsame hsz' hnf2 hc hrr
  have hst : C.st.set o (.arr cells e true) = C.st := by
    apply List.ext_getElem?
    intro j
    rw [set_get hlt]
    by_cases hj : j = o
    · subst hj; simp [ho]
    · simp [hj]
  refine ⟨_, cap, C.seto w' o (C.io o) (.arr cells e true), rfl, ?_, ⟨rfl, rfl, hst, hms, ext_seto hm ho ht (Nat.le_refl _) (fun _ => rfl), LExt.refl _⟩⟩
  have hshape : C.w.shape? (C.io o) = some (e, cur.size) := by simp [World.shape?, hbb]
  simp only [markStringish, Sem.run_bind, run_shape, hshape, Result.andThen_ok, run_freeze]
  rfl

theorem cond_some {α : Type} {b : Bool} {x : Option α} {w : α} (h : (bif b then x else none) = some w) : x = some w := by
  cases b
  · simp at h
  · simpa using h

theorem parts_prep {m : Tm} {N : Nat} {a : Act} (ht : TmOk C m N a) {ps : Array (Nat × Operand)} {vs : List (Nat × AV)} (hp : parts m ps.toList = some vs) (hnolp : ∀ p ∈ vs, p.2.isLp = false) :
    (ps.map fun (i, x) => (i, a.eval x)).toList.length = vs.length ∧ ∀ (j : Nat) (p : Nat × AV) (q : Nat × Value), vs[j]? = some p → (ps.map fun (i, x) => (i, a.eval x)).toList[j]? = some q → q.1 = p.1 ∧ Rep C p.2 q.2 := by
  obtain ⟨h1, h2⟩ := parts_sound ht hp
  refine ⟨by simp [h1], fun j p q hp' hq' => ?_⟩
  rw [Array.toList_map, List.getElem?_map] at hq'
  cases hpj : ps.toList[j]? with
  | none => simp [hpj] at hq'
  | some q0 =>
    simp [hpj] at hq'
    subst hq'
    obtain ⟨e1, e2⟩ := h2 j p q0 hp' hpj
    exact ⟨e1, rep_of e2 (hnolp p (List.mem_of_getElem? hp'))⟩

theorem effect_sound (hm : Mem C) {m : Tm} {N : Nat} {a : Act} (ht : TmOk C m N a) {f : FuncId} {o : Oper} {v : AV} {lb' : Lb} {st' : List AObj} (h : effect C.E f m C.lb C.st o = some (v, lb', st')) :
    ∃ (u : Value) (C' : Ctx), ((execOp a.eval o).run C.E.P C.w = .ok (.value u) C'.w ∨ ((execOp a.eval o).run C.E.P C.w = .ok .skip C'.w ∧ u = undef)) ∧ Out C C'.w lb' st' C' ∧ RepT C' v u := by
  obtain ⟨dst, op, type, pos, after, guard⟩ := o
  cases op with
  | alloc t =>
    simp only [effect] at h
    split at h
    · rename_i z n hz hs
      cases hb : Nat.beq z.cells.length n
      · simp [hb] at h
      · simp only [hb, cond_true] at h
        obtain ⟨zu, hzr, _, _, hz3, hz4, _⟩ := zeroA_sound (C := C) hz
        obtain ⟨C', o1, o2⟩ := newVarA_sound hm (us := zu.cells) ⟨hz3, fun j x c hx hc => .fz (hz4 j x c C.F hx hc)⟩ h
        refine ⟨_, C', .inl ?_, out_of o1, o2⟩
        rw [o1.w]
        simp [execOp, Instr.alloc, hzr, run_newVar]
    · cases h
  | box t x =>
    simp only [effect] at h
    split at h
    · rename_i w n hx hs
      cases hb : (Nat.beq w.cells.length n && w.cells.all AV.isCell)
      · simp [hb] at h
      · simp only [hb, cond_true] at h
        simp only [Bool.and_eq_true] at hb
        have hlp : w.isLp = false := by cases w <;> first | rfl | (simp [AV.cells, AV.isCell] at hb)
        obtain ⟨e1, e2⟩ := cells_len (rep_of (opv_sound ht hx) hlp)
        obtain ⟨C', o1, o2⟩ := newVarA_sound hm e2 h
        refine ⟨_, C', .inl ?_, out_of o1, o2⟩
        rw [o1.w]
        simp [execOp, Instr.box, run_newVar]
    · cases h
  | buildSlice t len ps =>
    simp only [effect] at h
    cases hp : parts m ps.toList with
    | none => simp [hp] at h
    | some vs =>
      simp only [hp] at h
      split at h
      · rename_i w hlit
        simp only [Option.some.injEq, Prod.mk.injEq] at h
        obtain ⟨rfl, rfl, rfl⟩ := h
        have hlit' : litA C.E t len vs = some w := cond_some hlit
        have hnolp : ∀ p ∈ vs, p.2.isLp = false := by
          have h9 := hlit'
          unfold litA at h9
          split at h9
          · rename_i e z s b he
            cases hb : Nat.ble (len * s) 16777216
            · simp [hb] at h9
            · simp only [hb, cond_true] at h9
              cases hf : fillA (fun i => some (i * s, s)) (rep z len) vs with
              | none => simp [hf] at h9
              | some out => exact fillA_nolp _ _ _ hf
          · cases h9
        obtain ⟨l1, l2⟩ := parts_prep ht hp hnolp
        obtain ⟨u, C', r1, r2, r3⟩ := litA_sound hm l1 l2 hlit'
        exact ⟨u, C', .inl (by simp only [execOp, Sem.run_bind, r1, Result.andThen_ok, Sem.run_pure]), r2, repT_of r3⟩
      · cases hb : buildSliceA C.E C.st t len vs with
        | none => simp [hb] at h
        | some r =>
          obtain ⟨w, s2⟩ := r
          simp only [hb, Option.map_some, Option.some.injEq, Prod.mk.injEq] at h
          obtain ⟨rfl, rfl, rfl⟩ := h
          have hnolp : ∀ p ∈ vs, p.2.isLp = false := by
            have h9 := hb
            unfold buildSliceA at h9
            split at h9
            · rename_i e z s b he
              cases hb : Nat.ble (len * s) 16777216
              · simp [hb] at h9
              · simp only [hb, cond_true] at h9
                cases hf : fillA (fun i => some (i * s, s)) (rep z len) vs with
                | none => simp [hf] at h9
                | some out => exact fillA_nolp _ _ _ hf
            · cases h9
          obtain ⟨l1, l2⟩ := parts_prep ht hp hnolp
          obtain ⟨u, C', r1, r2, r3⟩ := buildSliceA_sound hm l1 l2 hb
          exact ⟨u, C', .inl (by simp only [execOp, Sem.run_bind, r1, Result.andThen_ok, Sem.run_pure]), r2, repT_of r3⟩
  | makeSlice t l c =>
    simp only [effect] at h
    split at h
    · rename_i x y hx hy
      cases hb : makeSliceA C.E C.st t x y with
      | none => simp [hb] at h
      | some r =>
        obtain ⟨w, s2⟩ := r
        simp only [hb, Option.map_some, Option.some.injEq, Prod.mk.injEq] at h
        obtain ⟨rfl, rfl, rfl⟩ := h
        obtain ⟨u, C', r1, r2, r3⟩ := makeSliceA_sound hm (opv_sound ht hx) (opv_sound ht hy) hb
        exact ⟨u, C', .inl (by simp only [execOp, Sem.run_bind, r1, Result.andThen_ok, Sem.run_pure]), r2, repT_of r3⟩
    · cases h
  | convert s d x =>
    simp only [effect] at h
    split at h
    · rename_i e o off n L hs hx
      split at h
      · rename_i cells e' he ho
        cases hb : (Nat.beq s d && Nat.beq cells.length L)
        · simp [hb] at h
        · simp only [hb, cond_true, Option.some.injEq, Prod.mk.injEq] at h
          obtain ⟨rfl, rfl, rfl⟩ := h
          simp only [Bool.and_eq_true] at hb
          have e1 := Nat.eq_of_beq_eq_true hb.1
          have e2 := Nat.eq_of_beq_eq_true hb.2
          subst e1
          have hr := opv_sound ht hx
          obtain ⟨ad, cap, C', hc, r1, r2⟩ := mark_sound hm ho e2 hr
          refine ⟨a.eval x, C', .inl ?_, r2, r2.ext.repT r2.lext hr⟩
          simp only [execOp, Sem.run_bind, hc, Go.convert, run_underlying hs, Result.andThen_ok, beq_self_eq_true, run_underlying he, r1, Sem.run_pure]
      · cases h
    · cases h
  | makeMap t r =>
    cases r with
    | some _ => simp [effect] at h
    | none =>
      simp only [effect, Option.some.injEq, Prod.mk.injEq] at h
      obtain ⟨rfl, rfl, rfl⟩ := h
      have hw : (C.w.alloc (.map #[] 0)).heap = C.w.heap.push (.map #[] 0) := rfl
      refine ⟨.map (some C.w.heap.size), C.push (C.w.alloc (.map #[] 0)) (.map []), .inl ?_, ⟨rfl, rfl, rfl, mem_push hm hw rfl rfl rfl ⟨0, rfl, rfl⟩, ext_push hw rfl rfl rfl _, LExt.refl _⟩, ?_⟩
      · simp [execOp, Instr.makeMap, Ctx.push]
      · have ho : (C.push (C.w.alloc (.map #[] 0)) (.map [])).st[C.st.length]? = some (.map []) := by simp [Ctx.push]
        have := Rep.mp ho
        rw [push_io_new] at this
        exact this
  | store t x y =>
    simp only [effect] at h
    split at h
    · rename_i p w hx hy
      cases hb : storeA C.E C.lb C.st t p w with
      | none => simp [hb] at h
      | some r =>
        obtain ⟨l2, s2⟩ := r
        simp only [hb, Option.map_some, Option.some.injEq, Prod.mk.injEq] at h
        obtain ⟨rfl, rfl, rfl⟩ := h
        obtain ⟨C', r1, r2⟩ := storeA_sound hm (opv_sound ht hx) (opv_sound ht hy) hb
        exact ⟨undef, C', .inr ⟨by simp only [execOp, Sem.run_bind, r1, Result.andThen_ok, Sem.run_pure], rfl⟩, r2, Rep.fz (.sc rfl)⟩
    · cases h
  | mapUpdate t x k y =>
    simp only [effect] at h
    split at h
    · rename_i kt vt o kk ki w hd hx hk hy
      split at h
      · rename_i ik es hkt ho
        cases hl : w.isLp
        · simp only [hl, cond_false] at h
          cases hb : mapPut (.int kk ki) w es with
          | none => simp [hb] at h
          | some es' =>
            simp only [hb, Option.map_some, Option.some.injEq, Prod.mk.injEq] at h
            obtain ⟨rfl, rfl, rfl⟩ := h
            have hkk := repT_sc (opv_sound ht hk)
            obtain ⟨C', r1, r2⟩ := mapUpdate_sound hm hd hkt (opv_sound ht hx) ho (rep_of (opv_sound ht hy) hl) hb
            exact ⟨undef, C', .inr ⟨by simp only [execOp, Sem.run_bind, hkk, r1, Result.andThen_ok, Sem.run_pure], rfl⟩, r2, Rep.fz (.sc rfl)⟩
        · simp [hl] at h
      · cases h
    · cases h
  | insert t x k y =>
    simp only [effect] at h
    split at h
    · rename_i kt vt o kk ki w hd hx hk hy
      split at h
      · rename_i ik es hkt ho
        cases hl : w.isLp
        · simp only [hl, cond_false] at h
          cases hb : mapPut (.int kk ki) w es with
          | none => simp [hb] at h
          | some es' =>
            simp only [hb, Option.map_some, Option.some.injEq, Prod.mk.injEq] at h
            obtain ⟨rfl, rfl, rfl⟩ := h
            have hkk := repT_sc (opv_sound ht hk)
            obtain ⟨C', r1, r2⟩ := mapUpdate_sound hm hd hkt (opv_sound ht hx) ho (rep_of (opv_sound ht hy) hl) hb
            exact ⟨undef, C', .inr ⟨by simp only [execOp, Sem.run_bind, hkk, r1, Result.andThen_ok, Sem.run_pure], rfl⟩, r2, Rep.fz (.sc rfl)⟩
        · simp [hl] at h
      · cases h
    · cases h
  | call c =>
    obtain ⟨callee, args, ats⟩ := c
    cases callee with
    | builtin b =>
      cases b with
      | append =>
        simp only [effect] at h
        split at h
        · rename_i x y t xt hxy hts
          cases hb : appendA C.E C.st t xt x y with
          | none => simp [hb] at h
          | some r =>
            obtain ⟨w, s2⟩ := r
            simp only [hb, Option.map_some, Option.some.injEq, Prod.mk.injEq] at h
            obtain ⟨rfl, rfl, rfl⟩ := h
            obtain ⟨h1, h2⟩ := opvs_sound ht hxy
            obtain ⟨ox, oy, hargs⟩ : ∃ ox oy, args.toList = [ox, oy] := by
              match hh : args.toList, h1 with
              | [ox, oy], _ => exact ⟨ox, oy, rfl⟩
            have e1 : args = #[ox, oy] := by apply Array.ext'; simpa using hargs
            have e2 : ats = #[t, xt] := by apply Array.ext'; simpa using hts
            subst e1 e2
            obtain ⟨u, C', r1, r2, r3⟩ := appendA_sound (ty := type) hm (h2 0 x ox rfl rfl) (h2 1 y oy rfl rfl) hb
            exact ⟨u, C', .inl (by simp [execOp, resolve, invoke, builtin, r1]), r2, repT_of r3⟩
        · cases h
      | _ => simp [effect] at h
    | _ => simp [effect] at h
  | _ => simp [effect] at h

end
end Go.Proofs.YtcfaajaccbadbaaDoor.Ahm
