/- Contexts turned: the same memory in another world, local variables laid ahead, local variables forgotten. -/
import Derived.Test.YtcfaajaccbadbaaDoorAhmT
set_option linter.unusedSimpArgs false
set_option linter.unusedVariables false
namespace Go.Proofs.YtcfaajaccbadbaaDoor.Ahm
open Go

section
variable {C : Ctx}

theorem mem_same (hm : Mem C) {w' : World} (hw : w'.heap = C.w.heap) (h1 : w'.os = C.w.os) (h2 : w'.tape = C.w.tape) (h3 : w'.output = C.w.output) : Mem (C.more w') ∧ Ext C (C.more w') := by
  have hext : Ext C (C.more w') :=
    { os := h1, tape := h2, output := h3, size := (by show C.w.heap.size ≤ w'.heap.size; rw [hw]; exact Nat.le_refl _), keep := fun b hb _ => by show w'.heap[b]? = _; rw [hw],
      form := fun b cur e fz hb => ⟨cur, fz, by show w'.heap[b]? = _; rw [hw]; exact hb, rfl⟩, ow := fun b hb => .inl hb, w0 := rfl, ga := rfl, env := rfl,
      arr := fun o cells e wr ho => ⟨cells, wr, ho, Nat.le_refl _, fun _ => rfl⟩, map := fun o es ho => ⟨es, ho, rfl⟩ }
  have hkeep : ∀ {b : Nat} {y : Obj}, C.w.heap[b]? = some y → w'.heap[b]? = some y := fun hb => by rw [hw]; exact hb
  refine ⟨{ arr := ?_, map := ?_, loc := ?_, inj := hm.inj, injl := hm.injl, sep := hm.sep, w0 := hm.w0, w0l := hm.w0l, w0s := fun b hb => Nat.lt_of_lt_of_le (hm.w0s b hb) hext.size, glob := glob_ext hm hext (fun b hb _ => by show w'.heap[b]? = _; rw [hw]) }, hext⟩
  · intro o' cs e wr ho
    obtain ⟨cur, fz, vs, hb, hl, hn, hc, hr⟩ := hm.arr o' cs e wr ho
    exact ⟨cur, fz, vs, hkeep hb, hl, hn, hc, fun j c hj => hext.rep (hr j c hj)⟩
  · intro o' es ho
    obtain ⟨ents, clock, hb, hl, hr⟩ := hm.map o' es ho
    exact ⟨ents, clock, hkeep hb, hl, fun j k v hj => by obtain ⟨me, m1, m2, m3⟩ := hr j k v hj; exact ⟨me, m1, m2, hext.rep m3⟩⟩
  · intro s g cs b hs hb
    obtain ⟨cur, t, fz, vs, hh, hl, hn, hc, hr⟩ := hm.loc s g cs b hs hb
    exact ⟨cur, t, fz, vs, hkeep hh, hl, hn, hc, fun j c hj => hext.rep (hr j c hj)⟩

/-- other local variables, each of which lies where one lay -/
def Ctx.locs (C : Ctx) (lb' : Lb) (il' : Nat → Option Nat) : Ctx := { C with lb := lb', il := il' }

theorem mem_locs (hm : Mem C) {lb' : Lb} {il' : Nat → Option Nat} (h : ∀ s g cs b, lbGet lb' s = some (g, cs) → il' s = some b → lbGet C.lb s = some (g, cs) ∧ C.il s = some b) : Mem (C.locs lb' il') ∧ Ext C (C.locs lb' il') := by
  have hext : Ext C (C.locs lb' il') :=
    { os := rfl, tape := rfl, output := rfl, size := Nat.le_refl _, keep := fun b hb _ => rfl, form := fun b cur e fz hb => ⟨cur, fz, hb, rfl⟩,
      ow := fun b hb => by
        rcases hb with h1 | h1 | ⟨s, g, cs, h1, h2⟩
        · exact .inl (.inl h1)
        · exact .inl (.inr (.inl h1))
        · obtain ⟨h3, h4⟩ := h s g cs b h1 h2; exact .inl (.inr (.inr ⟨s, g, cs, h3, h4⟩)),
      w0 := rfl, ga := rfl, env := rfl, arr := fun o cells e wr ho => ⟨cells, wr, ho, Nat.le_refl _, fun _ => rfl⟩, map := fun o es ho => ⟨es, ho, rfl⟩ }
  refine ⟨{ arr := ?_, map := ?_, loc := ?_, inj := hm.inj, injl := ?_, sep := ?_, w0 := hm.w0, w0l := ?_, w0s := hm.w0s, glob := glob_ext hm hext (fun b hb _ => rfl) }, hext⟩
  · intro o' cs e wr ho
    obtain ⟨cur, fz, vs, hb, hl, hn, hc, hr⟩ := hm.arr o' cs e wr ho
    exact ⟨cur, fz, vs, hb, hl, hn, hc, fun j c hj => hext.rep (hr j c hj)⟩
  · intro o' es ho
    obtain ⟨ents, clock, hb, hl, hr⟩ := hm.map o' es ho
    exact ⟨ents, clock, hb, hl, fun j k v hj => by obtain ⟨me, m1, m2, m3⟩ := hr j k v hj; exact ⟨me, m1, m2, hext.rep m3⟩⟩
  · intro s g cs b hs hb
    obtain ⟨h3, h4⟩ := h s g cs b hs hb
    obtain ⟨cur, t, fz, vs, hh, hl, hn, hc, hr⟩ := hm.loc s g cs b h3 h4
    exact ⟨cur, t, fz, vs, hh, hl, hn, hc, fun j c hj => hext.rep (hr j c hj)⟩
  · intro s s' b g cs g' cs' h1 h2 h3 h4
    obtain ⟨k1, k2⟩ := h s g cs b h1 h3
    obtain ⟨k3, k4⟩ := h s' g' cs' b h2 h4
    exact hm.injl s s' b g cs g' cs' k1 k3 k2 k4
  · intro o s b g cs hl h1 h2
    obtain ⟨k1, k2⟩ := h s g cs b h1 h2
    exact hm.sep o s b g cs hl k1 k2
  · intro s b g cs h1 h2
    obtain ⟨k1, k2⟩ := h s g cs b h1 h2
    exact hm.w0l s b g cs k1 k2

theorem tmMentions_get {s : Nat} : ∀ {m : Tm} {t : Nat} {v : AV}, tmGet m t = some v → tmMentions s m = false → v.isSlot s = false
  | [], t, v, h, _ => by simp [tmGet] at h
  | (t', v') :: r, t, v, h, hm => by
    simp only [tmMentions] at hm
    simp only [tmGet] at h
    cases hv : v'.isSlot s
    · simp only [hv, cond_false] at hm
      cases hb : Nat.beq t' t
      · simp only [hb, cond_false] at h; exact tmMentions_get h hm
      · simp [hb] at h; rw [← h]; exact hv
    · simp [hv] at hm

theorem repT_locs (hm : Mem C) {lb' : Lb} {il' : Nat → Option Nat} (hext : Ext C (C.locs lb' il')) {v : AV} {c : Value} (h : RepT C v c) (hk : ∀ s g off, v = .lp s g off → lbGet lb' s = lbGet C.lb s ∧ il' s = C.il s) : RepT (C.locs lb' il') v c := by
  cases v with
  | lp s g off =>
    obtain ⟨g', cs, h1, h2, h3⟩ := h
    obtain ⟨k1, k2⟩ := hk s g off rfl
    exact ⟨g', cs, by show lbGet lb' s = _; rw [k1]; exact h1, h2, fun he => by obtain ⟨b, h4, h5⟩ := h3 he; exact ⟨b, by show il' s = _; rw [k2]; exact h4, h5⟩⟩
  | _ => exact hext.rep h

theorem tmOk_locs (hm : Mem C) {lb' : Lb} {il' : Nat → Option Nat} (hext : Ext C (C.locs lb' il')) {m : Tm} {N : Nat} {a : Act} (ht : TmOk C m N a) (hk : ∀ t v s g off, tmGet m t = some v → v = .lp s g off → lbGet lb' s = lbGet C.lb s ∧ il' s = C.il s) : TmOk (C.locs lb' il') m N a :=
  ⟨ht.defers, ht.size, fun t v hv => by obtain ⟨c, h1, h2⟩ := ht.get t v hv; exact ⟨c, h1, repT_locs hm hext h2 fun s g off he => hk t v s g off hv he⟩⟩

theorem layLoc_sound {E : Env} {f : FuncId} {m : Tm} {N : Nat} {a : Act} : ∀ {r : List Oper} {C : Ctx} {lb' : Lb}, Mem C → TmOk C m N a → layLoc E f m r C.lb = some lb' →
    ∃ il', Mem (C.locs lb' il') ∧ Ext C (C.locs lb' il') ∧ TmOk (C.locs lb' il') m N a ∧ (∀ s, C.il s = none → il' s = none) ∧ (∀ s x, lbGet C.lb s = some x → ∃ y, lbGet lb' s = some y) ∧
      ∀ (k : Nat) (o : Oper) (t : TypeId) (d : Nat), r[k]? = some o → locAlloc E f o = some (t, d) → (∃ g cs, lbGet lb' d = some (g, cs)) ∧ il' d = none
  | [], C, lb', hm, ht, h => by
    simp [layLoc] at h
    subst h
    exact ⟨C.il, hm, Ext.refl C, ht, fun _ h => h, fun s x h => ⟨x, h⟩, fun k o t d h => by simp at h⟩
  | o :: r, C, lb', hm, ht, h => by
    simp only [layLoc] at h
    split at h
    · rename_i t d hla
      split at h
      · rename_i z hz
        cases hme : tmMentions d m
        · simp only [hme, cond_false] at h
          have hlb : ∀ s, lbGet (lbSet C.lb d 0 z.cells) s = if s = d then some (0, z.cells) else lbGet C.lb s := lbGet_set _ _ _ _
          obtain ⟨m1, e1⟩ := mem_locs hm (lb' := lbSet C.lb d 0 z.cells) (il' := fun s => if s = d then none else C.il s) fun s g cs b h1 h2 => by
            rw [hlb] at h1
            by_cases e : s = d
            · simp [e] at h2
            · simp [e] at h1 h2; exact ⟨h1, h2⟩
          have t1 := tmOk_locs hm e1 ht fun t v s g off hv he => by
            have := tmMentions_get hv hme
            rw [he] at this
            have hne : s ≠ d := fun h => by subst h; simp [AV.isSlot] at this
            rw [hlb]
            simp [hne]
          obtain ⟨il', i1, i2, i3, i4, i5, i6⟩ := layLoc_sound (r := r) (C := C.locs (lbSet C.lb d 0 z.cells) (fun s => if s = d then none else C.il s)) m1 t1 h
          have keep : ∀ s, (if s = d then none else C.il s) = none → il' s = none := i4
          have keep2 : ∀ s x, lbGet (lbSet C.lb d 0 z.cells) s = some x → ∃ y, lbGet lb' s = some y := i5
          refine ⟨il', i1, e1.trans i2, i3, fun s hs => keep s (by simp [hs]), fun s x hs => ?_, fun k o' t' d' hk hla' => ?_⟩
          · by_cases e : s = d
            · exact keep2 s (0, z.cells) (by rw [hlb]; simp [e])
            · exact keep2 s x (by rw [hlb]; simp [e, hs])
          · cases k with
            | zero =>
              simp at hk; subst hk
              rw [hla] at hla'; cases hla'
              obtain ⟨⟨g, cs⟩, hy⟩ := keep2 d (0, z.cells) (by rw [hlb]; simp)
              exact ⟨⟨g, cs, hy⟩, keep d (by simp)⟩
            | succ k => simp at hk; exact i6 k o' t' d' hk hla'
        · simp [hme] at h
      · cases h
    · rename_i hla
      obtain ⟨il', i1, i2, i3, i4, i5, i6⟩ := layLoc_sound (r := r) hm ht h
      refine ⟨il', i1, i2, i3, i4, i5, fun k o' t' d' hk hla' => ?_⟩
      cases k with
      | zero => simp at hk; subst hk; rw [hla] at hla'; cases hla'
      | succ k => simp at hk; exact i6 k o' t' d' hk hla'

/-! ### what is no longer looked at -/
theorem lbKeep_get (m : Tm) (s : Nat) : ∀ (lb : Lb), lbGet (lbKeep m lb) s = if tmMentions s m then lbGet lb s else none
  | [] => by simp [lbKeep, lbGet]
  | (s', g, c) :: r => by
    have ih := lbKeep_get m s r
    simp only [lbKeep]
    cases hb : Nat.beq s' s
    · cases hme : tmMentions s' m
      · simp [ih, lbGet, hb]
      · simp [lbGet, hb, ih]
    · have := Nat.eq_of_beq_eq_true hb
      subst this
      cases hme : tmMentions s' m
      · simp [ih, hme]
      · simp [lbGet, hb]

theorem tmKeep_get {t : Nat} {v : AV} : ∀ {l : List Nat} {m : Tm}, tmGet (tmKeep l m) t = some v → tmGet m t = some v
  | [], m, h => by simp [tmKeep, tmGet] at h
  | s :: l, m, h => by
    simp only [tmKeep] at h
    cases hs : tmGet m s with
    | none => simp only [hs] at h; exact tmKeep_get h
    | some u =>
      simp only [hs, tmGet] at h
      cases hb : Nat.beq s t
      · simp only [hb, cond_false] at h; exact tmKeep_get h
      · simp only [hb, cond_true, Option.some.injEq] at h
        rw [← Nat.eq_of_beq_eq_true hb, hs, h]

theorem tmMentions_of {s g off : Nat} : ∀ {m : Tm} {t : Nat}, tmGet m t = some (.lp s g off) → tmMentions s m = true
  | [], t, h => by simp [tmGet] at h
  | (t', v) :: r, t, h => by
    simp only [tmMentions]
    cases hv : v.isSlot s
    · simp only [cond_false]
      simp only [tmGet] at h
      cases hb : Nat.beq t' t
      · simp only [hb, cond_false] at h; exact tmMentions_of h
      · simp [hb] at h; subst h; simp [AV.isSlot] at hv
    · rfl

theorem trim_sound {f id : Nat} {E : Env} {s : St} {N : Nat} {a : Act} (hm : Mem C) (hlb : C.lb = s.lb) (ht : TmOk C s.tm N a) :
    Mem (C.locs (trim E f id s).lb C.il) ∧ Ext C (C.locs (trim E f id s).lb C.il) ∧ TmOk (C.locs (trim E f id s).lb C.il) (trim E f id s).tm N a := by
  have hg : ∀ s', lbGet (trim E f id s).lb s' = if tmMentions s' (trim E f id s).tm then lbGet C.lb s' else none := fun s' => by rw [hlb]; exact lbKeep_get _ _ _
  obtain ⟨m1, e1⟩ := mem_locs hm (lb' := (trim E f id s).lb) (il' := C.il) fun s' g cs b h1 h2 => by
    rw [hg] at h1
    split at h1
    · exact ⟨h1, h2⟩
    · cases h1
  refine ⟨m1, e1, ?_⟩
  have ht' : TmOk C (trim E f id s).tm N a := ⟨ht.defers, ht.size, fun t v hv => ht.get t v (tmKeep_get hv)⟩
  exact tmOk_locs hm e1 ht' fun t v s' g off hv he => by
    subst he
    rw [hg, if_pos (tmMentions_of hv)]
    exact ⟨rfl, rfl⟩

end
end Go.Proofs.YtcfaajaccbadbaaDoor.Ahm
