/- Steps that change memory: a new object, a new local variable, a store. -/
import Derived.Test.YtcfaajaccbadbaaDoorAhmI
set_option linter.unusedSimpArgs false
set_option linter.unusedVariables false
namespace Go.Proofs.YtcfaajaccbadbaaDoor.Ahm
open Go

theorem lbGet_set (m : Lb) (t g : Nat) (c : List AV) (s : Nat) : lbGet (lbSet m t g c) s = if s = t then some (g, c) else lbGet m s := by
  induction m with
  | nil =>
    simp only [lbSet, lbGet]
    by_cases h : s = t
    · subst h; simp
    · have : Nat.beq t s = false := by
        cases h2 : Nat.beq t s
        · rfl
        · exact absurd (Nat.eq_of_beq_eq_true h2).symm h
      simp [this, h]
  | cons x r ih =>
    obtain ⟨s', g', c'⟩ := x
    simp only [lbSet]
    cases h1 : Nat.beq s' t
    · simp only [cond_false, lbGet]
      cases h2 : Nat.beq s' s
      · simp only [cond_false, ih]
      · have e := Nat.eq_of_beq_eq_true h2
        subst e
        have hne : s' ≠ t := fun e => by subst e; simp at h1
        simp [hne]
    · have e := Nat.eq_of_beq_eq_true h1
      subst e
      simp only [cond_true, lbGet]
      by_cases h : s = s'
      · subst h; simp
      · have : Nat.beq s' s = false := by
          cases h2 : Nat.beq s' s
          · rfl
          · exact absurd (Nat.eq_of_beq_eq_true h2).symm h
        simp [this, h]

theorem lt_of_some {α : Type} {l : List α} {i : Nat} {x : α} (h : l[i]? = some x) : i < l.length := (List.getElem?_eq_some_iff.1 h).1
theorem alt_of_some {α : Type} {l : Array α} {i : Nat} {x : α} (h : l[i]? = some x) : i < l.size := (Array.getElem?_eq_some_iff.1 h).1

theorem push_old {w w' : World} {o : Obj} (h : w'.heap = w.heap.push o) {b : Nat} (hb : b < w.heap.size) : w'.heap[b]? = w.heap[b]? := by
  rw [h, Array.getElem?_push]; simp [Nat.ne_of_lt hb]
theorem push_new {w w' : World} {o : Obj} (h : w'.heap = w.heap.push o) : w'.heap[w.heap.size]? = some o := by
  rw [h, Array.getElem?_push]; simp

/-- the machine's context behind a new object -/
def Ctx.push (C : Ctx) (w' : World) (x : AObj) : Ctx := { C with w := w', io := fun o => if o = C.st.length then C.w.heap.size else C.io o, st := C.st ++ [x] }

theorem push_io {C : Ctx} {w' : World} {x : AObj} {o : Nat} (h : o < C.st.length) : (C.push w' x).io o = C.io o := by simp [Ctx.push, Nat.ne_of_lt h]
theorem push_io_new {C : Ctx} {w' : World} {x : AObj} : (C.push w' x).io C.st.length = C.w.heap.size := by simp [Ctx.push]
theorem push_st_old {C : Ctx} {w' : World} {x y : AObj} {o : Nat} (h : C.st[o]? = some y) : (C.push w' x).st[o]? = some y := by
  simp [Ctx.push, List.getElem?_append_left (lt_of_some h), h]
theorem push_st {C : Ctx} {w' : World} {x y : AObj} {o : Nat} (h : (C.push w' x).st[o]? = some y) : C.st[o]? = some y ∨ (o = C.st.length ∧ y = x) := by
  simp only [Ctx.push] at h
  rcases Nat.lt_trichotomy o C.st.length with h1 | h1 | h1
  · rw [List.getElem?_append_left h1] at h; exact .inl h
  · subst h1; simp at h; exact .inr ⟨rfl, h.symm⟩
  · rw [List.getElem?_append_right (by omega)] at h
    have : o - C.st.length ≠ 0 := by omega
    cases hk : o - C.st.length with
    | zero => omega
    | succ k => simp [hk] at h

theorem ext_push {C : Ctx} {w' : World} {o : Obj} (hw : w'.heap = C.w.heap.push o) (h1 : w'.os = C.w.os) (h2 : w'.tape = C.w.tape) (h3 : w'.output = C.w.output) (x : AObj) : Ext C (C.push w' x) where
  os := h1
  tape := h2
  output := h3
  size := by show C.w.heap.size ≤ w'.heap.size; rw [hw]; simp
  keep := fun b hb _ => push_old hw hb
  form := fun b cur e fz hb => ⟨cur, fz, by show w'.heap[b]? = _; rw [push_old hw (alt_of_some hb)]; exact hb, rfl⟩
  ow := fun b hb => by
    rcases hb with ⟨o', cells, e, ho, hio⟩ | ⟨o', es, ho, hio⟩ | ⟨s, g, cs, hs, hb⟩
    · rcases push_st ho with h | ⟨rfl, _⟩
      · rw [push_io (lt_of_some h)] at hio; exact .inl (.inl ⟨o', cells, e, h, hio⟩)
      · rw [push_io_new] at hio; exact .inr (by omega)
    · rcases push_st ho with h | ⟨rfl, _⟩
      · rw [push_io (lt_of_some h)] at hio; exact .inl (.inr (.inl ⟨o', es, h, hio⟩))
      · rw [push_io_new] at hio; exact .inr (by omega)
    · exact .inl (.inr (.inr ⟨s, g, cs, hs, hb⟩))
  w0 := rfl
  ga := rfl
  env := rfl
  arr := fun o' cells e wr ho => ⟨cells, wr, push_st_old ho, Nat.le_refl _, fun _ => push_io (lt_of_some ho)⟩
  map := fun o' es ho => ⟨es, push_st_old ho, push_io (lt_of_some ho)⟩

theorem mem_io_lt {C : Ctx} (hm : Mem C) {o : Nat} (h : o < C.st.length) : C.io o < C.w.heap.size := by
  have hs : C.st[o]? = some C.st[o] := List.getElem?_eq_getElem h
  cases hx : C.st[o] with
  | arr cells e wr => rw [hx] at hs; obtain ⟨_, _, _, hb, _⟩ := hm.arr o cells e wr hs; exact alt_of_some hb
  | map es => rw [hx] at hs; obtain ⟨_, _, hb, _⟩ := hm.map o es hs; exact alt_of_some hb
theorem mem_il_lt {C : Ctx} (hm : Mem C) {s g b : Nat} {cs : List AV} (h : lbGet C.lb s = some (g, cs)) (hb : C.il s = some b) : b < C.w.heap.size := by
  obtain ⟨_, _, _, _, hh, _⟩ := hm.loc s g cs b h hb; exact alt_of_some hh

/-- What a new object has to be. -/
def Fresh (C : Ctx) (o : Obj) : AObj → Prop
  | .arr cells e _ => ∃ (cur : Array Value) (fz : Nat × Nat) (vs : Nat → Value), o = .cells cur e fz ∧ cells.length ≤ cur.size ∧ NoFz cur fz ∧ (∀ (j : Nat), j < cells.length → cur[j]? = some (vs j)) ∧ (∀ (j : Nat) (c : AV), cells[j]? = some c → Rep C c (vs j))
  | .map es => ∃ (clock : Nat), o = .map #[] clock ∧ es = []

theorem mem_push {C : Ctx} (hm : Mem C) {w' : World} {o : Obj} (hw : w'.heap = C.w.heap.push o) (h1 : w'.os = C.w.os) (h2 : w'.tape = C.w.tape) (h3 : w'.output = C.w.output) {x : AObj} (hx : Fresh C o x) : Mem (C.push w' x) := by
  have hext := ext_push hw h1 h2 h3 x
  have hkeep : ∀ {b : Nat} {y : Obj}, C.w.heap[b]? = some y → w'.heap[b]? = some y := fun hb => by rw [push_old hw (alt_of_some hb)]; exact hb
  have hlen : (C.push w' x).st.length = C.st.length + 1 := by simp [Ctx.push]
  refine { arr := ?_, map := ?_, loc := ?_, inj := ?_, injl := hm.injl, sep := ?_, w0 := ?_, w0l := hm.w0l, w0s := ?_, glob := ?_ }
  · intro o' cells e wr ho
    rcases push_st ho with h | ⟨rfl, rfl⟩
    · obtain ⟨cur, fz, vs, hb, hl, hn, hc, hr⟩ := hm.arr o' cells e wr h
      refine ⟨cur, fz, vs, ?_, hl, hn, hc, fun j c hj => hext.rep (hr j c hj)⟩
      rw [push_io (lt_of_some h)]; exact hkeep hb
    · obtain ⟨cur, fz, vs, rfl, hl, hn, hc, hr⟩ := hx
      exact ⟨cur, fz, vs, by rw [push_io_new]; exact push_new hw, hl, hn, hc, fun j c hj => hext.rep (hr j c hj)⟩
  · intro o' es ho
    rcases push_st ho with h | ⟨rfl, rfl⟩
    · obtain ⟨ents, clock, hb, hl, hr⟩ := hm.map o' es h
      refine ⟨ents, clock, ?_, hl, fun j k v hj => ?_⟩
      · rw [push_io (lt_of_some h)]; exact hkeep hb
      · obtain ⟨me, m1, m2, m3⟩ := hr j k v hj; exact ⟨me, m1, m2, hext.rep m3⟩
    · obtain ⟨clock, rfl, rfl⟩ := hx
      exact ⟨#[], clock, by rw [push_io_new]; exact push_new hw, rfl, fun j k v hj => by simp at hj⟩
  · intro s g cs b hs hb
    obtain ⟨cur, t, fz, vs, hh, hl, hn, hc, hr⟩ := hm.loc s g cs b hs hb
    exact ⟨cur, t, fz, vs, hkeep hh, hl, hn, hc, fun j c hj => hext.rep (hr j c hj)⟩
  · intro o1 o2 hl1 hl2 he
    rw [hlen] at hl1 hl2
    by_cases e1 : o1 = C.st.length
    · by_cases e2 : o2 = C.st.length
      · omega
      · subst e1
        rw [push_io_new, push_io (by omega)] at he
        have := mem_io_lt hm (show o2 < C.st.length by omega)
        omega
    · by_cases e2 : o2 = C.st.length
      · subst e2
        rw [push_io_new, push_io (by omega)] at he
        have := mem_io_lt hm (show o1 < C.st.length by omega)
        omega
      · rw [push_io (by omega), push_io (by omega)] at he
        exact hm.inj o1 o2 (by omega) (by omega) he
  · intro o1 s b g cs hl hs hb
    rw [hlen] at hl
    by_cases e1 : o1 = C.st.length
    · subst e1
      rw [push_io_new]
      have := mem_il_lt hm hs hb
      omega
    · rw [push_io (by omega)]
      exact hm.sep o1 s b g cs (by omega) hs hb
  · intro o1 hl
    rw [hlen] at hl
    by_cases e1 : o1 = C.st.length
    · subst e1
      rw [push_io_new]
      intro h
      have := hm.w0s _ h
      omega
    · rw [push_io (by omega)]
      exact hm.w0 o1 (by omega)
  · intro b hb
    exact Nat.lt_of_lt_of_le (hm.w0s b hb) hext.size
  · exact hext.glob hm.glob

end Go.Proofs.YtcfaajaccbadbaaDoor.Ahm
