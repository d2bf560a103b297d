/- Steps that change memory, second part: local variables, stores, growth, maps. -/
import Derived.Test.YtcfaajaccbadbaaDoorAhmJ
set_option linter.unusedSimpArgs false
set_option linter.unusedVariables false
namespace Go.Proofs.YtcfaajaccbadbaaDoor.Ahm
open Go

/-- behind a new local variable -/
def Ctx.newl (C : Ctx) (w' : World) (d : Nat) (lb' : Lb) : Ctx := { C with w := w', il := fun s => if s = d then some C.w.heap.size else C.il s, lb := lb' }

section
variable {C : Ctx} {w' : World}

theorem ext_newl {cur : Array Value} {t : TypeId} {fz : Nat × Nat} (hw : w'.heap = C.w.heap.push (.cells cur t fz)) (h1 : w'.os = C.w.os) (h2 : w'.tape = C.w.tape) (h3 : w'.output = C.w.output) {d g : Nat} {cells : List AV} {lb' : Lb}
    (hlb : ∀ s, lbGet lb' s = if s = d then some (g, cells) else lbGet C.lb s) : Ext C (C.newl w' d lb') where
  os := h1
  tape := h2
  output := h3
  size := by show C.w.heap.size ≤ w'.heap.size; rw [hw]; simp
  keep := fun b hb _ => push_old hw hb
  form := fun b cur e fz hb => ⟨cur, fz, by show w'.heap[b]? = _; rw [push_old hw (alt_of_some hb)]; exact hb, rfl⟩
  ow := fun b hb => by
    rcases hb with h | h | ⟨s, g', cs, hs, hb⟩
    · exact .inl (.inl h)
    · exact .inl (.inr (.inl h))
    · simp only [Ctx.newl] at hs hb
      rw [hlb] at hs
      by_cases e : s = d
      · simp [e] at hb; exact .inr (by omega)
      · simp [e] at hb hs; exact .inl (.inr (.inr ⟨s, g', cs, hs, hb⟩))
  w0 := rfl
  ga := rfl
  env := rfl
  arr := fun o cells e wr ho => ⟨cells, wr, ho, Nat.le_refl _, fun _ => rfl⟩
  map := fun o es ho => ⟨es, ho, rfl⟩

theorem lext_newl {d g : Nat} {cells : List AV} {lb' : Lb} (hlb : ∀ s, lbGet lb' s = if s = d then some (g, cells) else lbGet C.lb s)
    (hg : ∀ g0 cs, lbGet C.lb d = some (g0, cs) → g0 < g) : LExt C (C.newl w' d lb') := by
  intro s g0 cs hs
  by_cases e : s = d
  · subst e
    have h1 := hg g0 cs hs
    exact ⟨g, cells, by simp [Ctx.newl, hlb], by omega, fun he => by omega⟩
  · exact ⟨g0, cs, by simp [Ctx.newl, hlb, e, hs], Nat.le_refl _, fun _ => by simp [Ctx.newl, e]⟩

theorem lextw_newl {d g : Nat} {cells : List AV} {lb' : Lb} (hlb : ∀ s, lbGet lb' s = if s = d then some (g, cells) else lbGet C.lb s)
    (hg : ∀ g0 cs, lbGet C.lb d = some (g0, cs) → g0 ≤ g ∧ (g = g0 → C.il d = none)) : LExtW C (C.newl w' d lb') := by
  intro s g0 cs hs
  by_cases e : s = d
  · subst e
    obtain ⟨h1, h2⟩ := hg g0 cs hs
    refine ⟨g, cells, by simp [Ctx.newl, hlb], h1, fun he b hb => ?_⟩
    rw [h2 he] at hb; cases hb
  · exact ⟨g0, cs, by simp [Ctx.newl, hlb, e, hs], Nat.le_refl _, fun _ b hb => by simp [Ctx.newl, e, hb]⟩

theorem glob_ext {C' : Ctx} (hm : Mem C) (hext : Ext C C') (_ : ∀ b, b < C.w.heap.size → ¬ C.OW b → C'.w.heap[b]? = C.w.heap[b]?) : GlobOk C'.E C'.F := hext.glob hm.glob

theorem mem_newl (hm : Mem C) {cur : Array Value} {t : TypeId} {fz : Nat × Nat} (hw : w'.heap = C.w.heap.push (.cells cur t fz)) (h1 : w'.os = C.w.os) (h2 : w'.tape = C.w.tape) (h3 : w'.output = C.w.output)
    {d g : Nat} {cells : List AV} {lb' : Lb} (hlb : ∀ s, lbGet lb' s = if s = d then some (g, cells) else lbGet C.lb s) {vs : Nat → Value} (hsz : cur.size = cells.length) (hnf : NoFz cur fz)
    (hc : ∀ (j : Nat), j < cells.length → cur[j]? = some (vs j)) (hr : ∀ (j : Nat) (c : AV), cells[j]? = some c → Rep C c (vs j)) : Mem (C.newl w' d lb') := by
  have hext := ext_newl hw h1 h2 h3 hlb
  have hkeep : ∀ {b : Nat} {y : Obj}, C.w.heap[b]? = some y → w'.heap[b]? = some y := fun hb => by rw [push_old hw (alt_of_some hb)]; exact hb
  have hget : ∀ {s g' b : Nat} {cs : List AV}, lbGet (C.newl w' d lb').lb s = some (g', cs) → (C.newl w' d lb').il s = some b → (s = d ∧ b = C.w.heap.size ∧ cs = cells) ∨ (s ≠ d ∧ lbGet C.lb s = some (g', cs) ∧ C.il s = some b) := by
    intro s g' b cs hs hb
    simp only [Ctx.newl] at hs hb
    rw [hlb] at hs
    by_cases e : s = d
    · simp [e] at hs hb; exact .inl ⟨e, by omega, hs.2.symm⟩
    · simp [e] at hs hb; exact .inr ⟨e, hs, hb⟩
  refine { arr := ?_, map := ?_, loc := ?_, inj := hm.inj, injl := ?_, sep := ?_, w0 := hm.w0, w0l := ?_, w0s := ?_, glob := glob_ext hm hext (fun b hb _ => push_old hw hb) }
  · intro o' cs e wr ho
    obtain ⟨cur, fz, vs, hb, hl, hn, hc, hr⟩ := hm.arr o' cs e wr ho
    exact ⟨cur, fz, vs, hkeep hb, hl, hn, hc, fun j c hj => hext.rep (hr j c hj)⟩
  · intro o' es ho
    obtain ⟨ents, clock, hb, hl, hr⟩ := hm.map o' es ho
    exact ⟨ents, clock, hkeep hb, hl, fun j k v hj => by obtain ⟨me, m1, m2, m3⟩ := hr j k v hj; exact ⟨me, m1, m2, hext.rep m3⟩⟩
  · intro s g' cs b hs hb
    rcases hget hs hb with ⟨rfl, rfl, rfl⟩ | ⟨_, h4, h5⟩
    · exact ⟨cur, t, fz, vs, push_new hw, hsz, hnf, hc, fun j c hj => hext.rep (hr j c hj)⟩
    · obtain ⟨cur, t, fz, vs, hh, hl, hn, hc, hr⟩ := hm.loc s g' cs b h4 h5
      exact ⟨cur, t, fz, vs, hkeep hh, hl, hn, hc, fun j c hj => hext.rep (hr j c hj)⟩
  · intro s s' b g1 c1 g2 c2 hs hs' hb hb'
    rcases hget hs hb with ⟨rfl, rfl, _⟩ | ⟨e1, h4, h5⟩
    · rcases hget hs' hb' with ⟨rfl, _, _⟩ | ⟨_, h6, h7⟩
      · rfl
      · have := mem_il_lt hm h6 h7; omega
    · rcases hget hs' hb' with ⟨rfl, rfl, _⟩ | ⟨_, h6, h7⟩
      · have := mem_il_lt hm h4 h5; omega
      · exact hm.injl s s' b g1 c1 g2 c2 h4 h6 h5 h7
  · intro o s b g1 c1 hl hs hb
    rcases hget hs hb with ⟨rfl, rfl, _⟩ | ⟨_, h4, h5⟩
    · have := mem_io_lt hm hl; exact Nat.ne_of_lt this
    · exact hm.sep o s b g1 c1 hl h4 h5
  · intro s b g1 c1 hs hb
    rcases hget hs hb with ⟨rfl, rfl, _⟩ | ⟨_, h4, h5⟩
    · intro h; have := hm.w0s _ h; omega
    · exact hm.w0l s b g1 c1 h4 h5
  · intro b hb
    exact Nat.lt_of_lt_of_le (hm.w0s b hb) hext.size

/-! ### an object that is written -/
theorem set_get {α : Type} {l : List α} {o o' : Nat} {x : α} (h : o < l.length) : (l.set o x)[o']? = if o' = o then some x else l[o']? := by
  rw [List.getElem?_set]
  by_cases e : o = o'
  · subst e; simp [h]
  · simp [e, Ne.symm e]

/-- behind a change of an object's block, or of its place -/
def Ctx.seto (C : Ctx) (w' : World) (o b : Nat) (x : AObj) : Ctx := { C with w := w', io := fun o' => if o' = o then b else C.io o', st := C.st.set o x }

structure Turned (C : Ctx) (w' : World) (o b : Nat) : Prop where
  os : w'.os = C.w.os
  tape : w'.tape = C.w.tape
  output : w'.output = C.w.output
  size : C.w.heap.size ≤ w'.heap.size
  keep : ∀ b', b' < C.w.heap.size → b' ≠ C.io o → w'.heap[b']? = C.w.heap[b']?
  form : ∀ cur e fz, C.w.heap[C.io o]? = some (.cells cur e fz) → ∃ (cur' : Array Value) (fz' : Nat × Nat), w'.heap[C.io o]? = some (.cells cur' e fz') ∧ cur'.size = cur.size
  place : b = C.io o ∨ C.w.heap.size ≤ b

theorem ext_seto (hm : Mem C) {o b : Nat} {cells cells' : List AV} {e : TypeId} (ho : C.st[o]? = some (.arr cells e true)) (ht : Turned C w' o b) (hle : cells.length ≤ cells'.length) (hp : cells'.length = cells.length → b = C.io o) :
    Ext C (C.seto w' o b (.arr cells' e true)) := by
  have hlt := lt_of_some ho
  have hg : ∀ {o' : Nat}, (C.seto w' o b (.arr cells' e true)).st[o']? = if o' = o then some (.arr cells' e true) else C.st[o']? := fun {o'} => set_get hlt
  have hOW : C.OW (C.io o) := .inl ⟨o, cells, e, ho, rfl⟩
  refine { os := ht.os, tape := ht.tape, output := ht.output, size := ht.size, keep := fun b' hb hn => ht.keep b' hb (fun h => hn (h ▸ hOW)), form := ?_, ow := ?_, w0 := rfl, ga := rfl, env := rfl, arr := ?_, map := ?_ }
  · intro b' cur e' fz hb
    by_cases h : b' = C.io o
    · subst h; exact ht.form cur e' fz hb
    · exact ⟨cur, fz, by show w'.heap[b']? = _; rw [ht.keep b' (alt_of_some hb) h]; exact hb, rfl⟩
  · intro b' hb
    rcases hb with ⟨o', c', e', h1, h2⟩ | ⟨o', es, h1, h2⟩ | h
    · rw [hg] at h1
      simp only [Ctx.seto] at h2
      by_cases h : o' = o
      · subst h
        simp at h2
        rcases ht.place with h3 | h3
        · exact .inl (h2 ▸ h3 ▸ hOW)
        · exact .inr (by omega)
      · simp [h] at h1 h2; exact .inl (.inl ⟨o', c', e', h1, h2⟩)
    · rw [hg] at h1
      simp only [Ctx.seto] at h2
      by_cases h : o' = o
      · simp [h] at h1
      · simp [h] at h1 h2; exact .inl (.inr (.inl ⟨o', es, h1, h2⟩))
    · exact .inl (.inr (.inr h))
  · intro o' c' e' wr' h1
    by_cases h : o' = o
    · subst h
      rw [ho] at h1; cases h1
      exact ⟨cells', true, by rw [hg]; simp, hle, fun he => by simp [Ctx.seto, hp he]⟩
    · exact ⟨c', wr', by rw [hg]; simp [h, h1], Nat.le_refl _, fun _ => by simp [Ctx.seto, h]⟩
  · intro o' es h1
    have h : o' ≠ o := fun h => by subst h; rw [ho] at h1; cases h1
    exact ⟨es, by rw [hg]; simp [h, h1], by simp [Ctx.seto, h]⟩

theorem mem_seto (hm : Mem C) {o b : Nat} {cells cells' : List AV} {e : TypeId} (ho : C.st[o]? = some (.arr cells e true)) (ht : Turned C w' o b) (hle : cells.length ≤ cells'.length) (hp : cells'.length = cells.length → b = C.io o)
    {cur' : Array Value} {fz' : Nat × Nat} {vs' : Nat → Value} (hb : w'.heap[b]? = some (.cells cur' e fz')) (hsz : cells'.length ≤ cur'.size) (hnf : NoFz cur' fz') (hc : ∀ (j : Nat), j < cells'.length → cur'[j]? = some (vs' j))
    (hr : ∀ (j : Nat) (c : AV), cells'[j]? = some c → Rep C c (vs' j)) : Mem (C.seto w' o b (.arr cells' e true)) := by
  have hext := ext_seto hm ho ht hle hp
  have hlt := lt_of_some ho
  have hg : ∀ {o' : Nat}, (C.seto w' o b (.arr cells' e true)).st[o']? = if o' = o then some (.arr cells' e true) else C.st[o']? := fun {o'} => set_get hlt
  have hOW : C.OW (C.io o) := .inl ⟨o, cells, e, ho, rfl⟩
  have hlen : (C.seto w' o b (.arr cells' e true)).st.length = C.st.length := by simp [Ctx.seto]
  have hkeep : ∀ {b' : Nat} {y : Obj}, b' ≠ C.io o → C.w.heap[b']? = some y → w'.heap[b']? = some y := fun hne hb => by rw [ht.keep _ (alt_of_some hb) hne]; exact hb
  have hio : ∀ {o' : Nat}, o' ≠ o → (C.seto w' o b (.arr cells' e true)).io o' = C.io o' := fun h => by simp [Ctx.seto, h]
  have hio' : (C.seto w' o b (.arr cells' e true)).io o = b := by simp [Ctx.seto]
  have hne : ∀ {o' : Nat}, o' < C.st.length → o' ≠ o → C.io o' ≠ C.io o := fun h1 h2 h3 => h2 (hm.inj _ _ h1 hlt h3)
  refine { arr := ?_, map := ?_, loc := ?_, inj := ?_, injl := hm.injl, sep := ?_, w0 := ?_, w0l := hm.w0l, w0s := fun b' h => Nat.lt_of_lt_of_le (hm.w0s b' h) hext.size, glob := glob_ext hm hext (fun b' hb hn => ht.keep b' hb (fun h => hn (h ▸ hOW))) }
  · intro o' c' e' wr' h1
    rw [hg] at h1
    by_cases h : o' = o
    · subst h
      simp at h1
      obtain ⟨rfl, rfl, rfl⟩ := h1
      exact ⟨cur', fz', vs', by rw [hio']; exact hb, hsz, hnf, hc, fun j c hj => hext.rep (hr j c hj)⟩
    · simp [h] at h1
      obtain ⟨cur, fz, vs, hb, hl, hn, hc, hr⟩ := hm.arr o' c' e' wr' h1
      exact ⟨cur, fz, vs, by rw [hio h]; exact hkeep (hne (lt_of_some h1) h) hb, hl, hn, hc, fun j c hj => hext.rep (hr j c hj)⟩
  · intro o' es h1
    rw [hg] at h1
    have h : o' ≠ o := fun h => by simp [h] at h1
    simp [h] at h1
    obtain ⟨ents, clock, hb, hl, hr⟩ := hm.map o' es h1
    exact ⟨ents, clock, by rw [hio h]; exact hkeep (hne (lt_of_some h1) h) hb, hl, fun j k v hj => by obtain ⟨me, m1, m2, m3⟩ := hr j k v hj; exact ⟨me, m1, m2, hext.rep m3⟩⟩
  · intro s g cs b' hs hb'
    obtain ⟨cur, t, fz, vs, hh, hl, hn, hc, hr⟩ := hm.loc s g cs b' hs hb'
    exact ⟨cur, t, fz, vs, hkeep (fun h => hm.sep o s b' g cs hlt hs hb' h.symm) hh, hl, hn, hc, fun j c hj => hext.rep (hr j c hj)⟩
  · intro o1 o2 h1 h2 he
    rw [hlen] at h1 h2
    by_cases e1 : o1 = o
    · by_cases e2 : o2 = o
      · omega
      · subst e1
        rw [hio', hio e2] at he
        rcases ht.place with h3 | h3
        · rw [h3] at he; exact hm.inj _ _ h1 h2 he
        · have := mem_io_lt hm h2; omega
    · by_cases e2 : o2 = o
      · subst e2
        rw [hio', hio e1] at he
        rcases ht.place with h3 | h3
        · rw [h3] at he; exact hm.inj _ _ h1 h2 he
        · have := mem_io_lt hm h1; omega
      · rw [hio e1, hio e2] at he; exact hm.inj _ _ h1 h2 he
  · intro o1 s b' g cs h1 hs hb'
    rw [hlen] at h1
    by_cases e1 : o1 = o
    · subst e1
      rw [hio']
      rcases ht.place with h3 | h3
      · rw [h3]; exact hm.sep _ s b' g cs h1 hs hb'
      · have := mem_il_lt hm hs hb'; omega
    · rw [hio e1]; exact hm.sep _ s b' g cs h1 hs hb'
  · intro o1 h1
    rw [hlen] at h1
    by_cases e1 : o1 = o
    · subst e1
      rw [hio']
      rcases ht.place with h3 | h3
      · rw [h3]; exact hm.w0 _ h1
      · intro h; have := hm.w0s _ h; omega
    · rw [hio e1]; exact hm.w0 _ h1

theorem turned_row {o : Nat} {cur cur' : Array Value} {e : TypeId} {fz : Nat × Nat} (hb : C.w.heap[C.io o]? = some (.cells cur e fz)) (hsz : cur'.size = cur.size) : Turned C (C.w.setRow (C.io o) cur') o (C.io o) where
  os := rfl
  tape := rfl
  output := rfl
  size := by simp
  keep := fun b' _ hne => setRow_other _ _ _ _ hne
  form := fun c1 e1 f1 h1 => by rw [hb] at h1; cases h1; exact ⟨cur', fz, setRow_heap _ _ _ _ _ _ hb, hsz⟩
  place := .inl rfl

theorem turned_push {o : Nat} {x : Obj} (hlt : C.io o < C.w.heap.size) (hw : w'.heap = C.w.heap.push x) (h1 : w'.os = C.w.os) (h2 : w'.tape = C.w.tape) (h3 : w'.output = C.w.output) : Turned C w' o C.w.heap.size where
  os := h1
  tape := h2
  output := h3
  size := by rw [hw]; simp
  keep := fun b' hb _ => push_old hw hb
  form := fun c1 e1 f1 h => ⟨c1, f1, by rw [push_old hw hlt]; exact h, rfl⟩
  place := .inr (Nat.le_refl _)

/-! ### a local variable that is written -/
def Ctx.setl (C : Ctx) (w' : World) (lb' : Lb) : Ctx := { C with w := w', lb := lb' }

theorem mem_setl (hm : Mem C) {d g b : Nat} {cells cells' : List AV} {cur cur' : Array Value} {t : TypeId} {fz : Nat × Nat} (hs : lbGet C.lb d = some (g, cells)) (hil : C.il d = some b) (hb : C.w.heap[b]? = some (.cells cur t fz)) (hsz : cur'.size = cur.size)
    (hl : cells'.length = cells.length) {vs' : Nat → Value} (hc : ∀ (j : Nat), j < cells'.length → cur'[j]? = some (vs' j)) (hr : ∀ (j : Nat) (c : AV), cells'[j]? = some c → Rep C c (vs' j)) (hw : w' = C.w.setRow b cur') :
    Mem (C.setl w' (lbSet C.lb d g cells')) ∧ Ext C (C.setl w' (lbSet C.lb d g cells')) ∧ LExt C (C.setl w' (lbSet C.lb d g cells')) := by
  subst hw
  have hOW : C.OW b := .inr (.inr ⟨d, g, cells, hs, hil⟩)
  have hlb : ∀ s, lbGet (lbSet C.lb d g cells') s = if s = d then some (g, cells') else lbGet C.lb s := lbGet_set _ _ _ _
  have hext : Ext C (C.setl (C.w.setRow b cur') (lbSet C.lb d g cells')) := by
    refine { os := rfl, tape := rfl, output := rfl, size := by simp [Ctx.setl], keep := fun b' _ hn => setRow_other _ _ _ _ (fun h => hn (h ▸ hOW)), form := ?_, ow := ?_, w0 := rfl, ga := rfl, env := rfl, arr := fun o cells e wr ho => ⟨cells, wr, ho, Nat.le_refl _, fun _ => rfl⟩, map := fun o es ho => ⟨es, ho, rfl⟩ }
    · intro b' c1 e1 f1 h1
      by_cases h : b' = b
      · subst h; rw [hb] at h1; cases h1; exact ⟨cur', fz, setRow_heap _ _ _ _ _ _ hb, hsz⟩
      · exact ⟨c1, f1, by show (C.w.setRow b cur').heap[b']? = _; rw [setRow_other _ _ _ _ h]; exact h1, rfl⟩
    · intro b' h
      rcases h with h | h | ⟨s, g', cs, h1, h2⟩
      · exact .inl (.inl h)
      · exact .inl (.inr (.inl h))
      · simp only [Ctx.setl] at h1 h2
        rw [hlb] at h1
        by_cases e : s = d
        · subst e; rw [hil] at h2; cases h2; exact .inl hOW
        · simp [e] at h1; exact .inl (.inr (.inr ⟨s, g', cs, h1, h2⟩))
  have hget : ∀ {s g' : Nat} {cs : List AV}, lbGet (C.setl (C.w.setRow b cur') (lbSet C.lb d g cells')).lb s = some (g', cs) → (s = d ∧ g' = g ∧ cs = cells') ∨ (s ≠ d ∧ lbGet C.lb s = some (g', cs)) := by
    intro s g' cs h1
    simp only [Ctx.setl] at h1
    rw [hlb] at h1
    by_cases e : s = d
    · simp [e] at h1; exact .inl ⟨e, h1.1.symm, h1.2.symm⟩
    · simp [e] at h1; exact .inr ⟨e, h1⟩
  have hkeep : ∀ {b' : Nat} {y : Obj}, b' ≠ b → C.w.heap[b']? = some y → (C.w.setRow b cur').heap[b']? = some y := fun hne hb => by rw [setRow_other _ _ _ _ hne]; exact hb
  have hany : ∀ {s g' b' : Nat} {cs : List AV}, lbGet (C.setl (C.w.setRow b cur') (lbSet C.lb d g cells')).lb s = some (g', cs) → ∃ g2 c2, lbGet C.lb s = some (g2, c2) := by
    intro s g' b' cs h1
    rcases hget h1 with ⟨rfl, _, _⟩ | ⟨_, h2⟩
    · exact ⟨_, _, hs⟩
    · exact ⟨_, _, h2⟩
  refine ⟨{ arr := ?_, map := ?_, loc := ?_, inj := hm.inj, injl := ?_, sep := ?_, w0 := hm.w0, w0l := ?_, w0s := fun b' h => Nat.lt_of_lt_of_le (hm.w0s b' h) hext.size, glob := glob_ext hm hext (fun b' _ hn => setRow_other _ _ _ _ (fun h => hn (h ▸ hOW))) }, hext, ?_⟩
  · intro o' c' e' wr' h1
    obtain ⟨cur, fz, vs, hb1, hl1, hn, hc, hr⟩ := hm.arr o' c' e' wr' h1
    exact ⟨cur, fz, vs, hkeep (hm.sep o' d b g cells (lt_of_some h1) hs hil) hb1, hl1, hn, hc, fun j c hj => hext.rep (hr j c hj)⟩
  · intro o' es h1
    obtain ⟨ents, clock, hb1, hl1, hr⟩ := hm.map o' es h1
    exact ⟨ents, clock, hkeep (hm.sep o' d b g cells (lt_of_some h1) hs hil) hb1, hl1, fun j k v hj => by obtain ⟨me, m1, m2, m3⟩ := hr j k v hj; exact ⟨me, m1, m2, hext.rep m3⟩⟩
  · intro s g' cs b' h1 h2
    obtain ⟨curd, td, fzd, vsd, hhd, hld, hnd, _, _⟩ := hm.loc d g cells b hs hil
    rw [hb] at hhd; cases hhd
    rcases hget h1 with ⟨rfl, rfl, rfl⟩ | ⟨hne, h3⟩
    · have : b' = b := by simp only [Ctx.setl] at h2; rw [hil] at h2; cases h2; rfl
      subst this
      exact ⟨cur', t, fz, vs', setRow_heap _ _ _ _ _ _ hb, by omega, ⟨fun j hj => hnd.1 j (by omega), hnd.2⟩, hc, fun j c hj => hext.rep (hr j c hj)⟩
    · obtain ⟨c1, t1, f1, v1, hh, hl1, hn1, hc1, hr1⟩ := hm.loc s g' cs b' h3 h2
      exact ⟨c1, t1, f1, v1, hkeep (fun h => by subst h; exact hne (hm.injl s d b' g' cs g cells h3 hs h2 hil)) hh, hl1, hn1, hc1, fun j c hj => hext.rep (hr1 j c hj)⟩
  · intro s s' b' g1 c1 g2 c2 h1 h2 h3 h4
    obtain ⟨_, _, k1⟩ := hany (b' := 0) h1
    obtain ⟨_, _, k2⟩ := hany (b' := 0) h2
    exact hm.injl s s' b' _ _ _ _ k1 k2 h3 h4
  · intro o s b' g1 c1 hl h1 h2
    obtain ⟨_, _, k1⟩ := hany (b' := 0) h1
    exact hm.sep o s b' _ _ hl k1 h2
  · intro s b' g1 c1 h1 h2
    obtain ⟨_, _, k1⟩ := hany (b' := 0) h1
    exact hm.w0l s b' _ _ k1 h2
  · intro s g0 cs h1
    by_cases e : s = d
    · subst e
      rw [hs] at h1; cases h1
      exact ⟨g, cells', by simp [Ctx.setl, hlb], Nat.le_refl _, fun _ => rfl⟩
    · exact ⟨g0, cs, by simp [Ctx.setl, hlb, e, h1], Nat.le_refl _, fun _ => rfl⟩

end
end Go.Proofs.YtcfaajaccbadbaaDoor.Ahm
