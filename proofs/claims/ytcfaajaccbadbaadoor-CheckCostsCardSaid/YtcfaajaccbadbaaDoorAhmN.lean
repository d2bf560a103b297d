/- Every operation that changes memory, but calls, third part. -/
import Derived.Test.YtcfaajaccbadbaaDoorAhmM
set_option linter.unusedSimpArgs false
set_option linter.unusedVariables false
namespace Go.Proofs.YtcfaajaccbadbaaDoor.Ahm
open Go

section
variable {C : Ctx}

theorem zeros_any {z : List AV} {zu : Value} {s : Nat} (hs : 0 < s) (hz : z.length = s) (hu : zu.cells.size = s) (hr : ∀ (j : Nat) (x : AV) (c : Value) (F : FC), z[j]? = some x → zu.cells[j]? = some c → FRep F x c) (n : Nat) (zero : Array Value)
    (hzero : zero = if n * s = 0 then #[] else zu.cells) : CR (Rep C) (rep z n) ((Array.range (n * s)).map (zero[· % zero.size]!)) := by
  by_cases h : n * s = 0
  · have hn : n = 0 := by
      rcases Nat.mul_eq_zero.1 h with h4 | h4
      · exact h4
      · omega
    subst hn
    refine ⟨by simp [rep], fun j x c hx hc => by simp [rep] at hx⟩
  · rw [hzero, if_neg h]
    exact zeros_cr hs hz hu hr n

theorem run_buildSlice_of {t e : TypeId} {len s : Nat} {zu : Value} {cps : Array (Nat × Value)} {us : Array Value} (hd : C.E.P.underlying t = some (.slice e)) (hs : sizeT C.E e = some s) (hzr : ∀ w, (zeroValue e).run C.E.P w = .ok zu w) (hsm : len * s ≤ 16777216)
    (hf : Instr.fill (fun i => some (i * s, s)) ((Array.range (len * s)).map ((if len * s = 0 then #[] else zu.cells)[· % (if len * s = 0 then #[] else zu.cells : Array Value).size]!)) cps.toList = some us) (w : World) :
    (Instr.buildSlice t len cps).run C.E.P w = .ok (.slice (some ⟨w.heap.size, 0, none⟩) len len) (w.alloc (.cells us e)) := by
  have hnl : ¬ len * s > 2 ^ 24 := by omega
  simp only [Instr.buildSlice, Sem.run_bind, run_underlying hd, Result.andThen_ok, run_sizeOf_of hs, Sem.run_ite]
  rw [if_neg hnl]
  by_cases h : len * s = 0
  · simp only [h, if_true, Sem.run_bind, Sem.run_pure, Result.andThen_ok] at hf ⊢
    rw [hf]
    rfl
  · simp only [h, if_false, Sem.run_bind, Sem.run_pure, Result.andThen_ok, hzr] at hf ⊢
    rw [hf]
    rfl

theorem buildSliceA_sound (hm : Mem C) {t : TypeId} {len : Nat} {ps : List (Nat × AV)} {cps : Array (Nat × Value)} {v : AV} {st' : List AObj} (hl : cps.toList.length = ps.length)
    (hp : ∀ (j : Nat) (p : Nat × AV) (q : Nat × Value), ps[j]? = some p → cps.toList[j]? = some q → q.1 = p.1 ∧ Rep C p.2 q.2) (h : buildSliceA C.E C.st t len ps = some (v, st')) :
    ∃ (u : Value) (C' : Ctx), (Instr.buildSlice t len cps).run C.E.P C.w = .ok u C'.w ∧ Out C C'.w C.lb st' C' ∧ Rep C' v u := by
  unfold buildSliceA at h
  split at h
  · rename_i e z s b he
    cases hb : Nat.ble (len * s) 16777216
    · simp [hb] at h
    · simp only [hb, cond_true] at h
      have hsm := Nat.le_of_ble_eq_true hb
      obtain ⟨hd, hs, hs0, hzl, _, zu, hzr, hzu, hzc, _⟩ := elemA_some he
      cases hf : fillA (fun i => some (i * s, s)) (rep z len) ps with
      | none => simp [hf] at h
      | some cells =>
        simp [hf] at h
        obtain ⟨rfl, rfl⟩ := h
        obtain ⟨us, r1, r2, r3⟩ := fill_rel (C := C) ps cps.toList (rep z len) _ cells hl hp (zeros_any hs0 hzl hzu hzc len _ rfl) hf
        obtain ⟨o1, o2⟩ := new_slice hm hs r2 (by rw [r3, rep_len, hzl]) (Nat.le_refl len) (w' := C.w.alloc (.cells us e)) rfl rfl rfl rfl
        exact ⟨_, _, run_buildSlice_of hd hs hzr hsm r1 C.w, o1, o2⟩
  · cases h

theorem litA_sound (hm : Mem C) {t : TypeId} {len : Nat} {ps : List (Nat × AV)} {cps : Array (Nat × Value)} {v : AV} (hl : cps.toList.length = ps.length)
    (hp : ∀ (j : Nat) (p : Nat × AV) (q : Nat × Value), ps[j]? = some p → cps.toList[j]? = some q → q.1 = p.1 ∧ Rep C p.2 q.2) (h : litA C.E t len ps = some v) :
    ∃ (u : Value) (C' : Ctx), (Instr.buildSlice t len cps).run C.E.P C.w = .ok u C'.w ∧ Out C C'.w C.lb C.st C' ∧ Rep C' v u := by
  unfold litA at h
  split at h
  · rename_i e z s b he
    cases hb : Nat.ble (len * s) 16777216
    · simp [hb] at h
    · simp only [hb, cond_true] at h
      have hsm := Nat.le_of_ble_eq_true hb
      obtain ⟨hd, hs, hs0, hzl, _, zu, hzr, hzu, hzc, _⟩ := elemA_some he
      cases hf : fillA (fun i => some (i * s, s)) (rep z len) ps with
      | none => simp [hf] at h
      | some cells =>
        simp only [hf] at h
        cases hfz : isFzL cells
        · simp [hfz] at h
        · simp [hfz] at h
          subst h
          obtain ⟨us, r1, r2, r3⟩ := fill_rel (C := C) ps cps.toList (rep z len) _ cells hl hp (zeros_any hs0 hzl hzu hzc len _ rfl) hf
          have hw : (C.w.alloc (.cells us e)).heap = C.w.heap.push (.cells us e) := rfl
          obtain ⟨m1, m2⟩ := mem_more hm hw rfl rfl rfl
          refine ⟨_, C.more (C.w.alloc (.cells us e)), run_buildSlice_of hd hs hzr hsm r1 C.w, ⟨rfl, rfl, rfl, m1, m2, LExt.refl _⟩, .fz ?_⟩
          obtain ⟨vs, hc, hr⟩ := cr_vals r2
          refine .fs vs (Nat.le_refl _) (fun _ hwr => ?_) (fun j hj => ?_) (fun j c hj => m2.frep (rep_fz (hr j c hj) (isFzL_mem hfz hj)))
          · have : C.Wr C.w.heap.size := hwr
            have := mem_own_lt hm this
            omega
          · rw [Nat.zero_add]
            exact cell_of_heap (push_new hw) (hc j hj)
  · cases h

/-! ### maps that are written -/
def Ctx.setm (C : Ctx) (w' : World) (o : Nat) (es : List (Value × AV)) : Ctx := { C with w := w', st := C.st.set o (.map es) }

theorem mem_setm (hm : Mem C) {o : Nat} {es es' : List (Value × AV)} (ho : C.st[o]? = some (.map es)) {ents' : Array MapEntry} {clock : Nat} (hl : ents'.size = es'.length)
    (hr : ∀ (j : Nat) (k : Value) (v : AV), es'[j]? = some (k, v) → ∃ me : MapEntry, ents'[j]? = some me ∧ me.key = k ∧ Rep C v me.val) :
    let w' : World := { C.w with heap := C.w.heap.setIfInBounds (C.io o) (.map ents' clock) }
    Mem (C.setm w' o es') ∧ Ext C (C.setm w' o es') := by
  intro w'
  have hlt := lt_of_some ho
  have hg : ∀ {o' : Nat}, (C.setm w' o es').st[o']? = if o' = o then some (.map es') else C.st[o']? := fun {o'} => set_get hlt
  have hOW : C.OW (C.io o) := .inr (.inl ⟨o, es, ho, rfl⟩)
  have hother : ∀ b, b ≠ C.io o → w'.heap[b]? = C.w.heap[b]? := fun b hb => by simp [w', Array.getElem?_setIfInBounds, Ne.symm hb]
  have hsame : w'.heap[C.io o]? = some (.map ents' clock) := by simp [w', Array.getElem?_setIfInBounds, mem_io_lt hm hlt]
  obtain ⟨ents0, clock0, hb0, _⟩ := hm.map o es ho
  have hext : Ext C (C.setm w' o es') := by
    refine { os := rfl, tape := rfl, output := rfl, size := by simp [Ctx.setm, w'], keep := fun b _ hn => hother b (fun h => hn (h ▸ hOW)), form := ?_, ow := ?_, w0 := rfl, ga := rfl, env := rfl, arr := ?_, map := ?_ }
    · intro b cur e fz hb
      have : b ≠ C.io o := fun h => by subst h; rw [hb0] at hb; cases hb
      exact ⟨cur, fz, (hother b this).trans hb, rfl⟩
    · intro b hb
      rcases hb with ⟨o', c, e, h1, h2⟩ | ⟨o', es2, h1, h2⟩ | h
      · rw [hg] at h1
        by_cases h : o' = o
        · simp [h] at h1
        · simp [h] at h1; exact .inl (.inl ⟨o', c, e, h1, h2⟩)
      · rw [hg] at h1
        by_cases h : o' = o
        · subst h; exact .inl (h2 ▸ hOW)
        · simp [h] at h1; exact .inl (.inr (.inl ⟨o', es2, h1, h2⟩))
      · exact .inl (.inr (.inr h))
    · intro o' cells e wr h1
      have : o' ≠ o := fun h => by subst h; rw [ho] at h1; cases h1
      exact ⟨cells, wr, by rw [hg]; simp [this, h1], Nat.le_refl _, fun _ => rfl⟩
    · intro o' es2 h1
      by_cases h : o' = o
      · subst h; exact ⟨es', by rw [hg]; simp, rfl⟩
      · exact ⟨es2, by rw [hg]; simp [h, h1], rfl⟩
  have hne : ∀ {o' : Nat}, o' < C.st.length → o' ≠ o → C.io o' ≠ C.io o := fun h1 h2 h3 => h2 (hm.inj _ _ h1 hlt h3)
  have hlen : (C.setm w' o es').st.length = C.st.length := by simp [Ctx.setm]
  refine ⟨{ arr := ?_, map := ?_, loc := ?_, inj := fun o1 o2 h1 h2 he => hm.inj o1 o2 (by rw [hlen] at h1; exact h1) (by rw [hlen] at h2; exact h2) he, injl := hm.injl, sep := fun o1 s b g cs h1 => hm.sep o1 s b g cs (by rw [hlen] at h1; exact h1), w0 := fun o1 h1 => hm.w0 o1 (by rw [hlen] at h1; exact h1), w0l := hm.w0l, w0s := fun b h => Nat.lt_of_lt_of_le (hm.w0s b h) hext.size, glob := glob_ext hm hext (fun b _ hn => hother b (fun h => hn (h ▸ hOW))) }, hext⟩
  · intro o' cells e wr h1
    rw [hg] at h1
    have h : o' ≠ o := fun h => by simp [h] at h1
    simp [h] at h1
    obtain ⟨cur, fz, vs, hb, hl, hn, hc, hr⟩ := hm.arr o' cells e wr h1
    exact ⟨cur, fz, vs, (hother _ (hne (lt_of_some h1) h)).trans hb, hl, hn, hc, fun j c hj => hext.rep (hr j c hj)⟩
  · intro o' es2 h1
    rw [hg] at h1
    by_cases h : o' = o
    · subst h
      simp at h1
      subst h1
      exact ⟨ents', clock, hsame, hl, fun j k v hj => by obtain ⟨me, m1, m2, m3⟩ := hr j k v hj; exact ⟨me, m1, m2, hext.rep m3⟩⟩
    · simp [h] at h1
      obtain ⟨ents, clock, hb, hl, hr⟩ := hm.map o' es2 h1
      exact ⟨ents, clock, (hother _ (hne (lt_of_some h1) h)).trans hb, hl, fun j k v hj => by obtain ⟨me, m1, m2, m3⟩ := hr j k v hj; exact ⟨me, m1, m2, hext.rep m3⟩⟩
  · intro s g cs b hs hb
    obtain ⟨cur, t, fz, vs, hh, hl, hn, hc, hr⟩ := hm.loc s g cs b hs hb
    exact ⟨cur, t, fz, vs, (hother _ (fun h => hm.sep o s b g cs hlt hs hb h.symm)).trans hh, hl, hn, hc, fun j c hj => hext.rep (hr j c hj)⟩

theorem keyEq_true {a b : Value} (h : keyEq a b = some true) : a = b ∧ ∃ k n, a = .int k n := by
  cases a <;> cases b <;> simp [keyEq] at h
  rename_i k x l y
  obtain ⟨rfl, h⟩ := h
  exact ⟨by rw [h], k, x, rfl⟩

/-- what a store into a map does to the entries -/
theorem mapPut_spec {ik : IntKind} {k : Value} {v : AV} {c : Value} (hv : Rep C v c) : ∀ (es es' : List (Value × AV)) (ents : List MapEntry) (i : Nat), ents.length = es.length →
    (∀ (j : Nat) (k : Value) (v : AV), es[j]? = some (k, v) → ∃ me : MapEntry, ents[j]? = some me ∧ me.key = k ∧ Rep C v me.val) → mapPut k v es = some es' →
    (Instr.findNow (.int ik) k ents i = some none ∧ es' = es ++ [(k, v)]) ∨
    (∃ j u me, Instr.findNow (.int ik) k ents i = some (some (i + j, u)) ∧ ents[j]? = some me ∧ me.key = k ∧ es'.length = es.length ∧ es'[j]? = some (k, v) ∧ (∀ j', j' ≠ j → es'[j']? = es[j']?) ∧ ∃ kk n, k = .int kk n)
  | [], es', ents, i, hl, hr, h => by
    obtain rfl : ents = [] := List.eq_nil_of_length_eq_zero (by simpa using hl)
    simp [mapPut] at h
    exact .inl ⟨rfl, h.symm⟩
  | (k', u) :: es, es', ents, i, hl, hr, h => by
    cases ents with
    | nil => simp at hl
    | cons e ents =>
      obtain ⟨me, h1, h2, h3⟩ := hr 0 k' u rfl
      simp at h1
      subst h1
      simp only [mapPut] at h
      cases he : keyEq k k' with
      | none => simp [he] at h
      | some b =>
        have hs := keyEq_spec (kt := .int ik) rfl he
        rw [← h2] at hs
        simp only [he] at h
        cases b with
        | true =>
          simp at h
          subst h
          obtain ⟨hk, hkn⟩ := keyEq_true he
          exact .inr ⟨0, e.val, e, by simp [Instr.findNow, hs], rfl, by rw [h2, hk], by simp, rfl, fun j' hj' => by cases j' with | zero => exact absurd rfl hj' | succ j' => rfl, hkn⟩
        | false =>
          simp only at h
          cases hp : mapPut k v es with
          | none => simp [hp] at h
          | some es2 =>
            simp [hp] at h
            subst h
            rcases mapPut_spec (ik := ik) hv es es2 ents (i + 1) (by simpa using hl) (fun j k v hj => hr (j + 1) k v hj) hp with ⟨r1, r2⟩ | ⟨j, u', me, r1, r2, r3, r4, r5, r6, r7⟩
            · exact .inl ⟨by simp [Instr.findNow, hs, r1], by rw [r2]; rfl⟩
            · refine .inr ⟨j + 1, u', me, by simp only [Instr.findNow, hs]; rw [r1]; simp; omega, r2, r3, by simp [r4], r5, fun j' hj' => ?_, r7⟩
              cases j' with
              | zero => rfl
              | succ j' => exact r6 j' (fun h => hj' (by omega))

theorem mapUpdate_sound (hm : Mem C) {t kt vt : TypeId} {ik kk : IntKind} {ki : Int} {o : Nat} {es es' : List (Value × AV)} {v : AV} {cm cv : Value} (hd : C.E.P.underlying t = some (.map kt vt)) (hkt : C.E.P.underlying kt = some (.int ik))
    (hx : Rep C (.mp o) cm) (ho : C.st[o]? = some (.map es)) (hv : Rep C v cv) (h : mapPut (.int kk ki) v es = some es') :
    ∃ C' : Ctx, (Instr.mapUpdate t cm (.int kk ki) cv).run C.E.P C.w = .ok () C'.w ∧ Out C C'.w C.lb (C.st.set o (.map es')) C' := by
  obtain ⟨rfl, _⟩ := rep_mp hx
  obtain ⟨ents, clock, hb, hl, hr⟩ := hm.map o es ho
  rcases mapPut_spec (ik := ik) hv es es' ents.toList 0 (by simpa using hl) (fun j k v hj => by simpa using hr j k v hj) h with ⟨r1, rfl⟩ | ⟨j, u, me, r1, r2, r3, r4, r5, r6, kk', kn, r7⟩
  · have hm' := mem_setm hm ho (ents' := ents.push { key := .int kk ki, val := cv, born := clock }) (clock := clock + 1) (es' := es ++ [(.int kk ki, v)]) (by simp [hl]) (fun j k w hj => by
      by_cases hlt : j < es.length
      · rw [List.getElem?_append_left hlt] at hj
        obtain ⟨me, m1, m2, m3⟩ := hr j k w hj
        exact ⟨me, by rw [Array.getElem?_push]; rw [if_neg (by omega)]; exact m1, m2, m3⟩
      · rw [List.getElem?_append_right (by omega)] at hj
        have : j - es.length = 0 := by
          have := lt_of_some hj
          simpa using this
        rw [this] at hj
        simp at hj
        obtain ⟨rfl, rfl⟩ := hj
        have hje : j = ents.size := by omega
        exact ⟨{ key := .int kk ki, val := cv, born := clock }, by rw [hje, Array.getElem?_push]; simp, rfl, hv⟩)
    refine ⟨C.setm { C.w with heap := C.w.heap.setIfInBounds (C.io o) (.map (ents.push { key := .int kk ki, val := cv, born := clock }) (clock + 1)) } o (es ++ [(.int kk ki, v)]), ?_, ⟨rfl, rfl, rfl, hm'.1, hm'.2, LExt.refl _⟩⟩
    simp [Instr.mapUpdate, run_underlying hd, getObj, setObj, Sem.run, hb, run_checkKey hkt, Instr.findKey, run_underlying hkt, r1, Ctx.setm]
  · rw [Nat.zero_add] at r1
    have r2' : ents[j]? = some me := by simpa using r2
    have hm' := mem_setm hm ho (ents' := ents.modify j fun e => { e with key := .int kk ki, val := cv }) (clock := clock) (es' := es') (by simp [hl, r4]) (fun j' k w hj' => by
      by_cases hjj : j' = j
      · subst hjj
        rw [r5] at hj'
        simp at hj'
        obtain ⟨rfl, rfl⟩ := hj'
        exact ⟨{ me with key := .int kk ki, val := cv }, by rw [Array.getElem?_modify]; simp [r2'], rfl, hv⟩
      · rw [r6 j' hjj] at hj'
        obtain ⟨me', m1, m2, m3⟩ := hr j' k w hj'
        exact ⟨me', by rw [Array.getElem?_modify]; simp [Ne.symm hjj, m1], m2, m3⟩)
    refine ⟨C.setm { C.w with heap := C.w.heap.setIfInBounds (C.io o) (.map (ents.modify j fun e => { e with key := .int kk ki, val := cv }) clock) } o es', ?_, ⟨rfl, rfl, rfl, hm'.1, hm'.2, LExt.refl _⟩⟩
    have hsb : Instr.sameBits 10000 (.int kk ki) (.int kk ki) = true := by
      show Instr.sameBits (9999 + 1) (.int kk ki) (.int kk ki) = true
      simp [Instr.sameBits]
    simp [Instr.mapUpdate, run_underlying hd, getObj, setObj, Sem.run, hb, run_checkKey hkt, Instr.findKey, run_underlying hkt, r1, r2', r3, Instr.keyThatStays, hsb, Ctx.setm]

end
end Go.Proofs.YtcfaajaccbadbaaDoor.Ahm
