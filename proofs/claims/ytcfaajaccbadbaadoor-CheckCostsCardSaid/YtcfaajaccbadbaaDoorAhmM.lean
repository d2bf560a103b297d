/- Every operation that changes memory, but calls, second part. -/
import Derived.Test.YtcfaajaccbadbaaDoorAhmL
set_option linter.unusedSimpArgs false
set_option linter.unusedVariables false
namespace Go.Proofs.YtcfaajaccbadbaaDoor.Ahm
open Go

theorem nofz0 (cur : Array Value) : NoFz cur (0, 0) := ⟨fun j _ h => by simp at h, Nat.le_refl _⟩

section
variable {C : Ctx}

theorem rep_fz {v : AV} {c : Value} (h : Rep C v c) (hv : isFz v = true) : FRep C.F v c := by
  have hmem : ∀ (l : List AV), isFzL l = true → ∀ (j : Nat) (x : AV), l[j]? = some x → isFz x = true := by
    intro l
    induction l with
    | nil => intro _ j x hx; simp at hx
    | cons y l ih =>
      intro hl j x hx
      simp only [isFzL, Bool.and_eq_true] at hl
      cases j with
      | zero => simp at hx; subst hx; exact hl.1
      | succ j => exact ih hl.2 j x (by simpa using hx)
  induction h with
  | fz h => exact h
  | sl => simp [isFz] at hv
  | slOld => simp [isFz] at hv
  | rf => simp [isFz] at hv
  | rfOld => simp [isFz] at hv
  | ifc _ ih => exact .ifc (ih (by simpa [isFz] using hv))
  | agg hl hr ih => exact .agg hl fun j x u hx hu => ih j x u hx hu (hmem _ (by simpa [isFz] using hv) j x hx)
  | tup hl hr ih => exact .tup hl fun j x u hx hu => ih j x u hx hu (hmem _ (by simpa [isFz] using hv) j x hx)
  | fn ha hb hra hrb iha ihb =>
    simp only [isFz, Bool.and_eq_true] at hv
    exact .fn ha hb (fun j x u hx hu => iha j x u hx hu (hmem _ hv.1 j x hx)) (fun j x u hx hu => ihb j x u hx hu (hmem _ hv.2 j x hx))
  | mp => simp [isFz] at hv

theorem isFzL_mem {l : List AV} (h : isFzL l = true) {j : Nat} {x : AV} (hx : l[j]? = some x) : isFz x = true := by
  induction l generalizing j with
  | nil => simp at hx
  | cons y l ih =>
    simp only [isFzL, Bool.and_eq_true] at h
    cases j with
    | zero => simp at hx; subst hx; exact h.1
    | succ j => exact ih h.2 (by simpa using hx)

/-- a new block that nobody writes -/
def Ctx.more (C : Ctx) (w' : World) : Ctx := { C with w := w' }

theorem mem_more (hm : Mem C) {w' : World} {o : Obj} (hw : w'.heap = C.w.heap.push o) (h1 : w'.os = C.w.os) (h2 : w'.tape = C.w.tape) (h3 : w'.output = C.w.output) : Mem (C.more w') ∧ Ext C (C.more w') := by
  have hext : Ext C (C.more w') :=
    { os := h1, tape := h2, output := h3, size := (by show C.w.heap.size ≤ w'.heap.size; rw [hw]; simp), keep := fun b hb _ => push_old hw hb,
      form := fun b cur e fz hb => ⟨cur, fz, by show w'.heap[b]? = _; rw [push_old hw (alt_of_some hb)]; exact hb, rfl⟩, ow := fun b hb => .inl hb, w0 := rfl, ga := rfl, env := rfl,
      arr := fun o cells e wr ho => ⟨cells, wr, ho, Nat.le_refl _, fun _ => rfl⟩, map := fun o es ho => ⟨es, ho, rfl⟩ }
  have hkeep : ∀ {b : Nat} {y : Obj}, C.w.heap[b]? = some y → w'.heap[b]? = some y := fun hb => by rw [push_old hw (alt_of_some hb)]; exact hb
  refine ⟨{ arr := ?_, map := ?_, loc := ?_, inj := hm.inj, injl := hm.injl, sep := hm.sep, w0 := hm.w0, w0l := hm.w0l, w0s := fun b hb => Nat.lt_of_lt_of_le (hm.w0s b hb) hext.size, glob := glob_ext hm hext (fun b hb _ => push_old hw hb) }, hext⟩
  · intro o' cs e wr ho
    obtain ⟨cur, fz, vs, hb, hl, hn, hc, hr⟩ := hm.arr o' cs e wr ho
    exact ⟨cur, fz, vs, hkeep hb, hl, hn, hc, fun j c hj => hext.rep (hr j c hj)⟩
  · intro o' es ho
    obtain ⟨ents, clock, hb, hl, hr⟩ := hm.map o' es ho
    exact ⟨ents, clock, hkeep hb, hl, fun j k v hj => by obtain ⟨me, m1, m2, m3⟩ := hr j k v hj; exact ⟨me, m1, m2, hext.rep m3⟩⟩
  · intro s g cs b hs hb
    obtain ⟨cur, t, fz, vs, hh, hl, hn, hc, hr⟩ := hm.loc s g cs b hs hb
    exact ⟨cur, t, fz, vs, hkeep hh, hl, hn, hc, fun j c hj => hext.rep (hr j c hj)⟩

theorem cr_vals {R : AV → Value → Prop} {cells : List AV} {us : Array Value} (h : CR R cells us) : ∃ vs : Nat → Value, (∀ (j : Nat), j < cells.length → us[j]? = some (vs j)) ∧ ∀ (j : Nat) (c : AV), cells[j]? = some c → R c (vs j) := by
  refine ⟨fun j => us.getD j undef, fun j hj => ?_, fun j c hj => ?_⟩
  · have : j < us.size := by rw [h.1]; exact hj
    simp [Array.getD, this]
  · have : j < us.size := by rw [h.1]; exact lt_of_some hj
    exact h.2 j c _ hj (by simp [Array.getD, this])

theorem mem_own_lt (hm : Mem C) {b : Nat} (h : C.Wr b) : b < C.w.heap.size := by
  rcases h with (⟨o, cells, e, ho, rfl⟩ | ⟨o, es, ho, rfl⟩ | ⟨s, g, cs, hs, hb⟩) | h
  · exact mem_io_lt hm (lt_of_some ho)
  · exact mem_io_lt hm (lt_of_some ho)
  · exact mem_il_lt hm hs hb
  · exact hm.w0s b h

theorem newVarA_sound (hm : Mem C) {f : FuncId} {dst : Option Tmp} {t : TypeId} {cells : List AV} {us : Array Value} {v : AV} {lb' : Lb} {st' : List AObj} (hcr : CR (Rep C) cells us)
    (h : effect.newVarA C.E f dst C.lb C.st t cells = some (v, lb', st')) :
    ∃ C' : Ctx, Out C (C.w.alloc (.cells us t)) lb' st' C' ∧ RepT C' v (.pointer (some ⟨C.w.heap.size, 0, none⟩)) := by
  unfold effect.newVarA at h
  cases dst with
  | none => simp at h
  | some d =>
    simp only at h
    obtain ⟨vs, hc, hr⟩ := cr_vals hcr
    cases hmem : memN (C.E.loc f) d
    · simp only [hmem, cond_false, Option.some.injEq, Prod.mk.injEq] at h
      obtain ⟨rfl, rfl, rfl⟩ := h
      have hp : (C.w.alloc (.cells us t)).heap = C.w.heap.push (.cells us t) := rfl
      refine ⟨C.push (C.w.alloc (.cells us t)) (.arr cells t true), ⟨rfl, rfl, rfl, mem_push hm hp rfl rfl rfl ⟨us, (0, 0), vs, rfl, by rw [hcr.1]; exact Nat.le_refl _, nofz0 _, hc, hr⟩, ext_push hp rfl rfl rfl _, LExt.refl _⟩, ?_⟩
      have ho : (C.push (C.w.alloc (.cells us t)) (.arr cells t true)).st[C.st.length]? = some (.arr cells t true) := by simp [Ctx.push]
      have := Rep.rf (C := C.push (C.w.alloc (.cells us t)) (.arr cells t true)) (off := 0) ho rfl
      rw [push_io_new] at this
      exact this
    · simp only [hmem, cond_true, Option.some.injEq, Prod.mk.injEq] at h
      obtain ⟨rfl, rfl, rfl⟩ := h
      have hp : (C.w.alloc (.cells us t)).heap = C.w.heap.push (.cells us t) := rfl
      have hlb : ∀ s, lbGet (lbSet C.lb d (nextG C.lb d) cells) s = if s = d then some (nextG C.lb d, cells) else lbGet C.lb s := lbGet_set _ _ _ _
      refine ⟨C.newl (C.w.alloc (.cells us t)) d _, ⟨rfl, rfl, rfl, mem_newl hm hp rfl rfl rfl hlb (by rw [hcr.1]) (nofz0 _) hc hr, ext_newl hp rfl rfl rfl hlb, lext_newl hlb (fun g0 cs hg => ?_)⟩, ?_⟩
      · have : nextG C.lb d = g0 + 1 := by simp [nextG, hg]
        omega
      · exact ⟨_, cells, (hlb d).trans (by simp), Nat.le_refl _, fun _ => ⟨C.w.heap.size, by simp [Ctx.newl], rfl⟩⟩

/-! ### slices that are made -/
theorem rep_len (z : List AV) (n : Nat) : (rep z n).length = n * z.length := by
  induction n with
  | zero => simp [rep]
  | succ n ih => simp [rep, ih, Nat.succ_mul]; omega
theorem rep_get (z : List AV) (hz : 0 < z.length) : ∀ (n j : Nat), j < n * z.length → (rep z n)[j]? = z[j % z.length]?
  | 0, j, hj => by simp at hj
  | n + 1, j, hj => by
    simp only [rep]
    by_cases h : j < z.length
    · rw [List.getElem?_append_left h, Nat.mod_eq_of_lt h]
    · rw [List.getElem?_append_right (by omega), rep_get z hz n (j - z.length) (by rw [Nat.succ_mul] at hj; omega)]
      congr 1
      rw [Nat.mod_eq_sub_mod (a := j) (by omega)]

theorem elemA_some {t e : TypeId} {z : List AV} {s b : Nat} (h : elemA C.E t = some (e, z, s, b)) : C.E.P.underlying t = some (.slice e) ∧ sizeT C.E e = some s ∧ 0 < s ∧ z.length = s ∧
    (∃ i, C.E.P.info? e = some i ∧ i.size = s ∧ i.bytes = b ∧ 0 < b) ∧
    ∃ zu, (∀ w, (zeroValue e).run C.E.P w = .ok zu w) ∧ zu.cells.size = s ∧ (∀ (j : Nat) (x : AV) (c : Value) (F : FC), z[j]? = some x → zu.cells[j]? = some c → FRep F x c) ∧ (∀ x ∈ z, x.isCell = true ∧ isFz x = true) := by
  unfold elemA at h
  split at h
  · rename_i e' hd
    split at h
    · rename_i zz s' b' hz hs hb
      cases hq : (Nat.beq zz.cells.length s' && Nat.ble 1 s' && Nat.ble 1 b')
      · simp [hq] at h
      · simp only [hq, cond_true, Option.some.injEq, Prod.mk.injEq] at h
        obtain ⟨rfl, rfl, rfl, rfl⟩ := h
        simp only [Bool.and_eq_true] at hq
        have e1 := Nat.eq_of_beq_eq_true hq.1.1
        have e2 := Nat.le_of_ble_eq_true hq.1.2
        have e3 := Nat.le_of_ble_eq_true hq.2
        obtain ⟨zu, h1, _, _, h4, h5, h6⟩ := zeroA_sound (C := C) hz
        obtain ⟨i, hi, hn⟩ := sizeT_spec hs
        have hbi : i.bytes = b' := by simpa [bytesT, hi] using hb
        exact ⟨hd, hs, e2, e1, ⟨i, hi, hn, hbi, e3⟩, zu, h1, by omega, h5, h6⟩
    · cases h
  · cases h

theorem zeros_cr {z : List AV} {zu : Value} {s : Nat} (hs : 0 < s) (hz : z.length = s) (hu : zu.cells.size = s) (hr : ∀ (j : Nat) (x : AV) (c : Value) (F : FC), z[j]? = some x → zu.cells[j]? = some c → FRep F x c) (n : Nat) :
    CR (Rep C) (rep z n) ((Array.range (n * s)).map (zu.cells[· % zu.cells.size]!)) := by
  refine ⟨by simp [rep_len, hz], fun j x c hx hc => ?_⟩
  have hj : j < n * s := by have := lt_of_some hx; rw [rep_len, hz] at this; exact this
  rw [rep_get z (by omega) n j (by rw [hz]; exact hj)] at hx
  have hlt : j % s < zu.cells.size := by rw [hu]; exact Nat.mod_lt _ hs
  have : c = zu.cells[j % s]'hlt := by
    rw [Array.getElem?_map] at hc
    simp [hj] at hc
    rw [← hc, hu, getElem!_pos zu.cells (j % s) hlt]
  rw [hz] at hx
  exact .fz (hr (j % s) x c C.F hx (by rw [this]; exact Array.getElem?_eq_getElem hlt))

/-- a new slice of the call's own -/
theorem new_slice (hm : Mem C) {e : TypeId} {cells : List AV} {us : Array Value} {s l c : Nat} (hs : sizeT C.E e = some s) (hcr : CR (Rep C) cells us) (hlen : cells.length = c * s) (hlc : l ≤ c) {w' : World} (hw : w'.heap = C.w.heap.push (.cells us e))
    (h1 : w'.os = C.w.os) (h2 : w'.tape = C.w.tape) (h3 : w'.output = C.w.output) :
    Out C w' C.lb (C.st ++ [.arr cells e true]) (C.push w' (.arr cells e true)) ∧ Rep (C.push w' (.arr cells e true)) (.sl C.st.length 0 l (c * s)) (.slice (some ⟨C.w.heap.size, 0, none⟩) l c) := by
  obtain ⟨vs, hc, hr⟩ := cr_vals hcr
  refine ⟨⟨rfl, rfl, rfl, mem_push hm hw h1 h2 h3 ⟨us, (0, 0), vs, rfl, by rw [hcr.1]; exact Nat.le_refl _, nofz0 _, hc, hr⟩, ext_push hw h1 h2 h3 _, LExt.refl _⟩, ?_⟩
  have ho : (C.push w' (.arr cells e true)).st[C.st.length]? = some (.arr cells e true) := by simp [Ctx.push]
  have := Rep.sl (C := C.push w' (.arr cells e true)) (off := 0) (n := l) (cap := c) (s := s) (cur := us) (fz := (0, 0)) ho hlen hs (by rw [push_io_new]; exact push_new hw) hlc (by omega) (by have := hcr.1; omega)
  rw [push_io_new] at this
  exact this

theorem makeSliceA_sound (hm : Mem C) {t : TypeId} {l c v : AV} {cl cc : Value} {st' : List AObj} (hl : RepT C l cl) (hc : RepT C c cc) (h : makeSliceA C.E C.st t l c = some (v, st')) :
    ∃ (u : Value) (C' : Ctx), (Instr.makeSlice t cl cc).run C.E.P C.w = .ok u C'.w ∧ Out C C'.w C.lb st' C' ∧ Rep C' v u := by
  unfold makeSliceA at h
  split at h
  · rename_i e z s by_ li ci he hsl hsc
    obtain ⟨k1, rfl⟩ := sIntOf_some hsl
    obtain ⟨k2, rfl⟩ := sIntOf_some hsc
    have e1 := repT_sc hl
    have e2 := repT_sc hc
    subst e1 e2
    cases hb : (decide (0 ≤ li) && decide (li ≤ ci) && Nat.ble (ci.toNat * by_) roomA && decide (ci ≤ 9223372036854775807))
    · simp [hb] at h
    · simp only [hb, cond_true, Option.some.injEq, Prod.mk.injEq] at h
      obtain ⟨rfl, rfl⟩ := h
      simp only [Bool.and_eq_true, decide_eq_true_eq] at hb
      obtain ⟨⟨⟨h0, h1⟩, h2⟩, h3⟩ := hb
      have h2' := Nat.le_of_ble_eq_true h2
      obtain ⟨hd, hs, hs0, hzl, ⟨i, hi, hsz, hby, _⟩, zu, hzr, hzu, hzc, _⟩ := elemA_some he
      have hcr := zeros_cr (C := C) hs0 hzl hzu hzc ci.toNat
      have wl : IntKind.i64.wrap li = li := IntWalk.i64_in _ (by omega)
      have wc : IntKind.i64.wrap ci = ci := IntWalk.i64_in _ (by omega)
      have hnl : ¬ (ci < 0 ∨ (i.bytes : Int) * ci > 2 ^ 48) := by
        have : (i.bytes : Int) * ci = ((ci.toNat * by_ : Nat) : Int) := by rw [hby]; rw [Int.natCast_mul, Int.toNat_of_nonneg (by omega)]; exact Int.mul_comm _ _
        rw [this]
        unfold roomA at h2'
        omega
      by_cases hn0 : ci.toNat * s = 0
      · -- nothing in it
        have hci : ci.toNat = 0 := by
          rcases Nat.mul_eq_zero.1 hn0 with h4 | h4
          · exact h4
          · omega
        obtain ⟨o1, o2⟩ := new_slice hm (l := li.toNat) (us := #[]) hs (cells := rep z ci.toNat) ⟨by simp [rep_len, hci], fun j x c hx hc => by simp at hc⟩ (by rw [rep_len, hzl]) (by omega) (w' := C.w.alloc (.cells #[] e)) rfl rfl rfl rfl
        refine ⟨_, _, ?_, o1, o2⟩
        have hci' : ci = 0 := by omega
        have hli' : li = 0 := by omega
        subst hci' hli'
        simp [Instr.makeSlice, run_underlying hd, asInt, asIntOf, typeInfo, hi, wl, wc, run_sizeOf_of hs, newRow, Ctx.push, show Array.range 0 = #[] from rfl]
      · obtain ⟨o1, o2⟩ := new_slice hm (l := li.toNat) hs hcr (by rw [rep_len, hzl]) (by omega) (w' := C.w.alloc (.cells ((Array.range (ci.toNat * s)).map (zu.cells[· % zu.cells.size]!)) e)) rfl rfl rfl rfl
        refine ⟨_, _, ?_, o1, o2⟩
        have hb1 : (decide (ci < 0) || decide ((i.bytes : Int) * ci > 2 ^ 48)) = false := by
          rw [Bool.or_eq_false_iff]
          constructor
          · simp; omega
          · have := fun h => hnl (.inr h); simpa using this
        have hcond : ¬ ((decide (ci < 0) || decide ((i.bytes : Int) * ci > 2 ^ 48)) || decide (li < 0) || decide (li > ci)) = true := by
          rw [hb1]
          simp
          omega
        simp only [Instr.makeSlice, Sem.run_bind, run_underlying hd, Result.andThen_ok, asInt, asIntOf, Sem.run_pure, typeInfo, run_program, hi, wl, wc, Sem.run_ite]
        rw [if_neg hcond]
        simp only [Sem.run_bind, run_askRoom, Result.andThen_ok, run_sizeOf_of hs, Sem.run_ite]
        rw [if_neg hn0]
        simp [hzr, newRow]
        rfl
  · cases h

end
end Go.Proofs.YtcfaajaccbadbaaDoor.Ahm
