/- Frozen values, and calls to which all is handed over frozen. -/
import Derived.Test.YtcfaajaccbadbaaDoorAhmY
set_option linter.unusedSimpArgs false
set_option linter.unusedVariables false
namespace Go.Proofs.YtcfaajaccbadbaaDoor.Ahm
open Go

theorem mapO_get {f : AV → Option AV} : ∀ {l us : List AV}, mapO f l = some us → us.length = l.length ∧ ∀ (j : Nat) (u : AV), us[j]? = some u → ∃ v, l[j]? = some v ∧ f v = some u
  | [], us, h => by simp [mapO] at h; subst h; exact ⟨rfl, fun j u h => by simp at h⟩
  | v :: r, us, h => by
    simp only [mapO] at h
    cases hv : f v with
    | none => simp [hv] at h
    | some u =>
      cases hr : mapO f r with
      | none => simp [hv, hr] at h
      | some us' =>
        simp [hv, hr] at h
        subst h
        obtain ⟨h1, h2⟩ := mapO_get hr
        refine ⟨by simp [h1], fun j x hx => ?_⟩
        cases j with
        | zero => simp at hx; subst hx; exact ⟨v, rfl, hv⟩
        | succ j => simpa using h2 j x (by simpa using hx)

section
variable {C : Ctx}

/-- A frozen picture of a value, in which the blocks of U do not take part. -/
theorem res_of (hm : Mem C) (U : Nat → Prop) (hU : ∀ b, U b → C.Wr b) (ok : Nat → AV → Prop)
    (hok : ∀ n v, ok (n + 1) v → (∀ o off k L, v = .sl o off k L → ∀ cells e wr, C.st[o]? = some (.arr cells e wr) → ¬ U (C.io o) ∧ ∀ x ∈ cells, ok n x) ∧ (∀ o off L, v = .rf o off L → ∀ cells e wr, C.st[o]? = some (.arr cells e wr) → ¬ U (C.io o) ∧ ∀ x ∈ cells, ok n x) ∧
      (∀ t u, v = .ifc t u → ok n u) ∧ (∀ cs, v = .agg cs → ∀ x ∈ cs, ok n x) ∧ (∀ cs, v = .tup cs → ∀ x ∈ cs, ok n x) ∧ (∀ f a b, v = .fn f a b → (∀ x ∈ a, ok n x) ∧ (∀ x ∈ b, ok n x))) :
    ∀ (n : Nat) (v r : AV) (c : Value), ok n v → res C.E C.st n v = some r → Rep C v c → FRep ⟨C.w, U, C.ga⟩ r c := by
  intro n
  induction n with
  | zero => intro v r c _ h; simp [res] at h
  | succ n ih =>
    intro v r c hk h hr
    obtain ⟨k1, k2, k3, k4, k5, k6⟩ := hok n v hk
    have lists : ∀ (cs us : List AV) (vs : Array Value), mapO (res C.E C.st n) cs = some us → (∀ x ∈ cs, ok n x) → vs.size = cs.length → (∀ (j : Nat) (c : AV) (v : Value), cs[j]? = some c → vs[j]? = some v → Rep C c v) →
        vs.size = us.length ∧ ∀ (j : Nat) (c : AV) (v : Value), us[j]? = some c → vs[j]? = some v → FRep ⟨C.w, U, C.ga⟩ c v := by
      intro cs us vs hmo hall hl hreps
      obtain ⟨m1, m2⟩ := mapO_get hmo
      refine ⟨by omega, fun j x u hx hu => ?_⟩
      obtain ⟨y, hy, hyx⟩ := m2 j x hx
      exact ih y x u (hall y (List.mem_of_getElem? hy)) hyx (hreps j y u hy hu)
    have plain : FRep C.F v c → FRep ⟨C.w, U, C.ga⟩ v c := fun h => frep_iff (F := C.F) (F' := ⟨C.w, U, C.ga⟩) rfl rfl hU h
    cases v with
    | sl o off k L =>
      simp only [res] at h
      split at h
      · rename_i cells e wr ho
        split at h
        · rename_i s hs
          cases hL : Nat.beq cells.length L
          · simp [hL] at h
          · have hL' := Nat.eq_of_beq_eq_true hL
            simp only [hL, cond_true] at h
            split at h
            · rename_i cl hcl
              simp only [Option.map_eq_some_iff] at h
              obtain ⟨us, h1, rfl⟩ := h
              obtain ⟨m1, m2⟩ := mapO_get h1
              obtain ⟨cur, fz, vs, q1, q2, q3, q4, q5⟩ := hm.arr o cells e wr ho
              have hcut : off + k * s ≤ cells.length ∧ cl = (cells.drop off).take (k * s) := by
                unfold cut at hcl
                cases hb : Nat.ble (off + k * s) cells.length
                · simp [hb] at hcl
                · simp [hb] at hcl; exact ⟨Nat.le_of_ble_eq_true hb, hcl.symm⟩
              have hcll : cl.length = k * s := by rw [hcut.2]; simp; omega
              cases hr with
              | fz hf => cases hf
              | slOld ho' hlt _ => rw [ho] at ho'; cases ho'; omega
              | sl ho' hL2 hs2 hb2 hn2 h12 h22 =>
                refine .fs (fun j => vs (off + j)) hn2 (fun _ => (k1 o off k L rfl cells e wr ho).1) (fun j hj => ?_) fun j x hx => ?_
                · rw [m1, hcll] at hj
                  exact cell_of_heap q1 (q4 (off + j) (by omega))
                · obtain ⟨y, hy, hyx⟩ := m2 j x hx
                  rw [hcut.2, List.getElem?_take] at hy
                  split at hy
                  · rw [List.getElem?_drop] at hy
                    exact ih y x _ ((k1 o off k L rfl cells e wr ho).2 y (List.mem_of_getElem? hy)) hyx (q5 _ y hy)
                  · cases hy
            · cases h
        · cases h
      · cases h
    | rf o off L =>
      simp only [res] at h
      split at h
      · rename_i cells e wr ho
        cases hL : Nat.beq cells.length L
        · simp [hL] at h
        · have hL' := Nat.eq_of_beq_eq_true hL
          simp only [hL, cond_true, Option.map_eq_some_iff] at h
          obtain ⟨us, h1, rfl⟩ := h
          obtain ⟨m1, m2⟩ := mapO_get h1
          obtain ⟨cur, fz, vs, q1, q2, q3, q4, q5⟩ := hm.arr o cells e wr ho
          cases hr with
          | fz hf => cases hf
          | rfOld ho' hlt _ => rw [ho] at ho'; cases ho'; omega
          | rf ho' hL2 =>
            have := FRep.fp (F := ⟨C.w, U, C.ga⟩) (cells := us) (o := off) (b := C.io o) (off := 0) vs (fun _ => (k2 o off L rfl cells e wr ho).1) (fun j hj => ?_) fun j x hx => ?_
            · simpa using this
            · rw [m1] at hj
              exact cell_of_heap q1 (by rw [Nat.zero_add]; exact q4 j hj)
            · obtain ⟨y, hy, hyx⟩ := m2 j x hx
              exact ih y x _ ((k2 o off L rfl cells e wr ho).2 y (List.mem_of_getElem? hy)) hyx (q5 _ y hy)
      · cases h
    | ifc t u =>
      simp only [res, Option.map_eq_some_iff] at h
      obtain ⟨u', h1, rfl⟩ := h
      obtain ⟨c', rfl, hr'⟩ := rep_ifc hr
      exact .ifc (ih u u' c' (k3 t u rfl) h1 hr')
    | agg cs =>
      simp only [res, Option.map_eq_some_iff] at h
      obtain ⟨us, h1, rfl⟩ := h
      obtain ⟨vs, rfl, hl, hreps⟩ := rep_agg hr
      obtain ⟨a1, a2⟩ := lists cs us vs h1 (k4 cs rfl) hl hreps
      exact .agg a1 a2
    | tup cs =>
      simp only [res, Option.map_eq_some_iff] at h
      obtain ⟨us, h1, rfl⟩ := h
      obtain ⟨vs, rfl, hl, hreps⟩ := rep_tup hr
      obtain ⟨a1, a2⟩ := lists cs us vs h1 (k5 cs rfl) hl hreps
      exact .tup a1 a2
    | fn f a b =>
      simp only [res] at h
      split at h
      · rename_i ua ub hua hub
        simp at h; subst h
        obtain ⟨va, vb, rfl, e2, e3, e4, e5⟩ := rep_fn hr
        obtain ⟨a1, a2⟩ := lists a ua va hua (k6 f a b rfl).1 e2 e4
        obtain ⟨b1, b2⟩ := lists b ub vb hub (k6 f a b rfl).2 e3 e5
        exact .fn a1 b1 a2 b2
      · cases h
    | mp o => simp [res] at h
    | lp s g o => simp [res] at h
    | sc v => simp [res] at h; subst h; cases hr with | fz hf => exact plain hf
    | sp k => simp [res] at h; subst h; cases hr with | fz hf => exact plain hf
    | gl k => simp [res] at h; subst h; cases hr with | fz hf => exact plain hf
    | fs a b => simp [res] at h; subst h; cases hr with | fz hf => exact plain hf
    | fp a b => simp [res] at h; subst h; cases hr with | fz hf => exact plain hf
    | e0 => simp [res] at h; subst h; cases hr with | fz hf => exact plain hf

theorem st_lt {o : Nat} {x : AObj} (h : C.st[o]? = some x) : o < C.st.length := lt_of_some h

/-- frozen behind a call: the call's own blocks don't count -/
theorem res_sound (hm : Mem C) {n : Nat} {v r : AV} {c : Value} (h : res C.E C.st n v = some r) (hr : Rep C v c) : FRep ⟨C.w, C.W0, C.ga⟩ r c := by
  refine res_of hm C.W0 (fun b hb => .inr hb) (fun _ _ => True) (fun n v _ => ⟨fun o off k L _ cells e wr ho => ⟨hm.w0 o (st_lt ho), fun _ _ => trivial⟩, fun o off L _ cells e wr ho => ⟨hm.w0 o (st_lt ho), fun _ _ => trivial⟩, fun _ _ _ => trivial, fun _ _ _ _ => trivial, fun _ _ _ _ => trivial, fun _ _ _ _ => ⟨fun _ _ => trivial, fun _ _ => trivial⟩⟩) n v r c trivial h hr

theorem mem_wr_off (hm : Mem C) {o : Nat} {cells : List AV} {e : TypeId} (ho : C.st[o]? = some (.arr cells e false)) : ¬ C.Wr (C.io o) := by
  intro h
  rcases h with (⟨o', c', e', ho', he⟩ | ⟨o', es, ho', he⟩ | ⟨s, g, cs, h1, h2⟩) | h
  · have := hm.inj o' o (st_lt ho') (st_lt ho) he
    subst this
    rw [ho] at ho'; cases ho'
  · have := hm.inj o' o (st_lt ho') (st_lt ho) he
    subst this
    rw [ho] at ho'; cases ho'
  · exact hm.sep o s _ g cs (st_lt ho) h1 h2 rfl
  · exact hm.w0 o (st_lt ho) h

/-- frozen while the call goes on: nobody writes it any more -/
theorem resOff_sound (hm : Mem C) {n : Nat} {v r : AV} {c : Value} (hoff : resOff C.st n v = true) (h : res C.E C.st n v = some r) (hr : Rep C v c) : FRep C.F r c := by
  refine res_of hm C.Wr (fun b hb => hb) (fun n v => resOff C.st n v = true) (fun n v hv => ?_) n v r c hoff h hr
  refine ⟨fun o off k L he cells e wr ho => ?_, fun o off L he cells e wr ho => ?_, fun t u he => ?_, fun cs he x hx => ?_, fun cs he x hx => ?_, fun f a b he => ?_⟩
  · subst he
    simp only [resOff, ho] at hv
    cases wr
    · simp only [List.all_eq_true] at hv; exact ⟨mem_wr_off hm ho, fun x hx => hv x hx⟩
    · cases hv
  · subst he
    simp only [resOff, ho] at hv
    cases wr
    · simp only [List.all_eq_true] at hv; exact ⟨mem_wr_off hm ho, fun x hx => hv x hx⟩
    · cases hv
  · subst he; simpa [resOff] using hv
  · subst he; simp only [resOff, List.all_eq_true] at hv; exact hv x hx
  · subst he; simp only [resOff, List.all_eq_true] at hv; exact hv x hx
  · subst he; simp only [resOff, Bool.and_eq_true, List.all_eq_true] at hv; exact ⟨fun x hx => hv.1 x hx, fun x hx => hv.2 x hx⟩

/-! ### writing no more -/
def Dim (st st' : List AObj) : Prop := ∀ o : Nat, st'[o]? = st[o]? ∨ ∃ cells e, st[o]? = some (.arr cells e true) ∧ st'[o]? = some (.arr cells e false)

theorem Dim.refl (st : List AObj) : Dim st st := fun _ => .inl rfl
theorem Dim.trans {a b c : List AObj} (h : Dim a b) (k : Dim b c) : Dim a c := fun o => by
  rcases h o with h | ⟨cells, e, h1, h2⟩
  · rcases k o with k | ⟨cells, e, k1, k2⟩
    · exact .inl (k.trans h)
    · exact .inr ⟨cells, e, by rw [← h]; exact k1, k2⟩
  · rcases k o with k | ⟨cells', e', k1, k2⟩
    · exact .inr ⟨cells, e, h1, k.trans h2⟩
    · rw [h2] at k1; cases k1

theorem foldA_dim {f : List AObj → AV → List AObj} (hf : ∀ st v, Dim st (f st v)) : ∀ (vs : List AV) (st : List AObj), Dim st (foldA f st vs)
  | [], st => .refl st
  | v :: r, st => (hf st v).trans (foldA_dim hf r _)

theorem frz_dim : ∀ (n : Nat) (st : List AObj) (v : AV), Dim st (frz n st v)
  | 0, st, v => .refl st
  | n + 1, st, v => by
    have ih := foldA_dim (frz_dim n)
    have one : ∀ o : Nat, Dim st (match st[o]? with
        | some (.arr cells e true) => foldA (frz n) (st.set o (.arr cells e false)) cells
        | some (.arr cells _ false) => foldA (frz n) st cells
        | _ => st) := fun o => by
      split
      · rename_i cells e ho
        refine Dim.trans (fun p => ?_) (ih _ _)
        by_cases h : o = p
        · subst h
          exact .inr ⟨cells, e, ho, by simp [lt_of_some ho]⟩
        · left; simp [h]
      · exact ih _ _
      · exact .refl st
    cases v with
    | sl o off k L => exact one o
    | rf o off L => exact one o
    | ifc t v => exact frz_dim n st v
    | agg cs => exact ih _ _
    | tup vs => exact ih _ _
    | fn f a b => exact (ih a st).trans (ih b _)
    | _ => exact .refl st

def Ctx.dim (C : Ctx) (st' : List AObj) : Ctx := { C with st := st' }

theorem dim_back {st st' : List AObj} (h : Dim st st') {o : Nat} : (∀ cells e wr, st'[o]? = some (.arr cells e wr) → ∃ wr', st[o]? = some (.arr cells e wr') ∧ (wr = true → wr' = true)) ∧ (∀ es, st'[o]? = some (.map es) → st[o]? = some (.map es)) := by
  rcases h o with h | ⟨cells, e, h1, h2⟩
  · exact ⟨fun cells e wr ho => ⟨wr, by rw [← h]; exact ho, id⟩, fun es ho => by rw [← h]; exact ho⟩
  · exact ⟨fun c2 e2 wr ho => by rw [h2] at ho; cases ho; exact ⟨true, h1, fun h => by cases h⟩, fun es ho => by rw [h2] at ho; cases ho⟩

theorem dim_len {st st' : List AObj} (h : Dim st st') : st'.length = st.length := by
  have key : ∀ {a b : List AObj}, Dim a b → b.length ≤ a.length := fun {a b} h => by
    refine Nat.le_of_not_lt fun hlt => ?_
    rcases h a.length with h | ⟨_, _, h, _⟩
    · rw [List.getElem?_eq_none (Nat.le_refl _), List.getElem?_eq_none_iff] at h; omega
    · rw [List.getElem?_eq_none (Nat.le_refl _)] at h; cases h
  refine Nat.le_antisymm (key h) (Nat.le_of_not_lt fun hlt => ?_)
  rcases h st'.length with h | ⟨_, _, _, h⟩
  · rw [List.getElem?_eq_none (Nat.le_refl st'.length)] at h
    have := List.getElem?_eq_none_iff.1 h.symm
    omega
  · rw [List.getElem?_eq_none (Nat.le_refl _)] at h; cases h

theorem mem_dim (hm : Mem C) {st' : List AObj} (h : Dim C.st st') : Mem (C.dim st') ∧ Ext C (C.dim st') := by
  have hlen := dim_len h
  have hext : Ext C (C.dim st') :=
    { os := rfl, tape := rfl, output := rfl, size := Nat.le_refl _, keep := fun b hb _ => rfl, form := fun b cur e fz hb => ⟨cur, fz, hb, rfl⟩,
      ow := fun b hb => by
        rcases hb with ⟨o, cells, e, ho, he⟩ | ⟨o, es, ho, he⟩ | hb
        · obtain ⟨wr', h1, h2⟩ := (dim_back h).1 cells e true ho
          rw [h2 rfl] at h1
          exact .inl (.inl ⟨o, cells, e, h1, he⟩)
        · exact .inl (.inr (.inl ⟨o, es, (dim_back h).2 es ho, he⟩))
        · exact .inl (.inr (.inr hb)),
      w0 := rfl, ga := rfl, env := rfl,
      arr := fun o cells e wr ho => by
        rcases h o with h | ⟨c2, e2, h1, h2⟩
        · exact ⟨cells, wr, by show st'[o]? = _; rw [h]; exact ho, Nat.le_refl _, fun _ => rfl⟩
        · rw [h1] at ho; cases ho; exact ⟨cells, false, h2, Nat.le_refl _, fun _ => rfl⟩,
      map := fun o es ho => by
        rcases h o with h | ⟨c2, e2, h1, h2⟩
        · exact ⟨es, by show st'[o]? = _; rw [h]; exact ho, rfl⟩
        · rw [h1] at ho; cases ho }
  refine ⟨{ arr := ?_, map := ?_, loc := ?_, inj := fun o o' h1 h2 => hm.inj o o' (by rw [← hlen]; exact h1) (by rw [← hlen]; exact h2), injl := hm.injl, sep := fun o s b g cs hl => hm.sep o s b g cs (by rw [← hlen]; exact hl), w0 := fun o hl => hm.w0 o (by rw [← hlen]; exact hl), w0l := hm.w0l, w0s := hm.w0s, glob := glob_ext hm hext (fun b hb _ => rfl) }, hext⟩
  · intro o' cs e wr ho
    obtain ⟨wr', h1, _⟩ := (dim_back h).1 cs e wr ho
    obtain ⟨cur, fz, vs, hb, hl, hn, hc, hr⟩ := hm.arr o' cs e wr' h1
    exact ⟨cur, fz, vs, hb, hl, hn, hc, fun j c hj => hext.rep (hr j c hj)⟩
  · intro o' es ho
    obtain ⟨ents, clock, hb, hl, hr⟩ := hm.map o' es ((dim_back h).2 es ho)
    exact ⟨ents, clock, hb, hl, fun j k v hj => by obtain ⟨me, m1, m2, m3⟩ := hr j k v hj; exact ⟨me, m1, m2, hext.rep m3⟩⟩
  · intro s g cs b hs hb
    obtain ⟨cur, t, fz, vs, hh, hl, hn, hc, hr⟩ := hm.loc s g cs b hs hb
    exact ⟨cur, t, fz, vs, hh, hl, hn, hc, fun j c hj => hext.rep (hr j c hj)⟩

/-! ### a world that has only grown -/
structure Grown (w w' : World) : Prop where
  os : w'.os = w.os
  tape : w'.tape = w.tape
  output : w'.output = w.output
  size : w.heap.size ≤ w'.heap.size
  keep : ∀ b, b < w.heap.size → w'.heap[b]? = w.heap[b]?

theorem mem_grown (hm : Mem C) {w' : World} (hw : Grown C.w w') : Mem (C.more w') ∧ Ext C (C.more w') := by
  have hkeep : ∀ {b : Nat} {y : Obj}, C.w.heap[b]? = some y → w'.heap[b]? = some y := fun hb => by rw [hw.keep _ (alt_of_some hb)]; exact hb
  have hext : Ext C (C.more w') :=
    { os := hw.os, tape := hw.tape, output := hw.output, size := hw.size, keep := fun b hb _ => hw.keep b hb,
      form := fun b cur e fz hb => ⟨cur, fz, hkeep hb, rfl⟩, ow := fun b hb => .inl hb, w0 := rfl, ga := rfl, env := rfl,
      arr := fun o cells e wr ho => ⟨cells, wr, ho, Nat.le_refl _, fun _ => rfl⟩, map := fun o es ho => ⟨es, ho, rfl⟩ }
  refine ⟨{ arr := ?_, map := ?_, loc := ?_, inj := hm.inj, injl := hm.injl, sep := hm.sep, w0 := hm.w0, w0l := hm.w0l, w0s := fun b hb => Nat.lt_of_lt_of_le (hm.w0s b hb) hext.size, glob := glob_ext hm hext (fun b hb _ => hw.keep b hb) }, hext⟩
  · intro o' cs e wr ho
    obtain ⟨cur, fz, vs, hb, hl, hn, hc, hr⟩ := hm.arr o' cs e wr ho
    exact ⟨cur, fz, vs, hkeep hb, hl, hn, hc, fun j c hj => hext.rep (hr j c hj)⟩
  · intro o' es ho
    obtain ⟨ents, clock, hb, hl, hr⟩ := hm.map o' es ho
    exact ⟨ents, clock, hkeep hb, hl, fun j k v hj => by obtain ⟨me, m1, m2, m3⟩ := hr j k v hj; exact ⟨me, m1, m2, hext.rep m3⟩⟩
  · intro s g cs b hs hb
    obtain ⟨cur, t, fz, vs, hh, hl, hn, hc, hr⟩ := hm.loc s g cs b hs hb
    exact ⟨cur, t, fz, vs, hkeep hh, hl, hn, hc, fun j c hj => hext.rep (hr j c hj)⟩

end

/-! ### what a call does whose arguments are frozen -/
def FArgs (F : FC) (args : List AV) (cargs : Array Value) : Prop := cargs.size = args.length ∧ ∀ (j : Nat) (x : AV) (c : Value), args[j]? = some x → cargs[j]? = some c → FRep F x c

def PureSpec (E : Env) (g : FuncId) (args : List AV) (r : AV) : Prop := ∀ (F : FC), F.ga = E.tok → GlobOk E F → (∀ b, F.Wr b → b < F.w.heap.size) → ∀ cargs, FArgs F args cargs →
  Callable E.P g ∧ Calls E.P g cargs F.w fun e w' => ∃ c, e = .returned c ∧ Grown F.w w' ∧ FRep ⟨w', F.Wr, F.ga⟩ r c

def PrimOk (E : Env) : Prop := ∀ g p, E.prim g = some p → ∀ args r, p args = some r → PureSpec E g args r

theorem flat_frep {F F' : FC} (hg : F'.ga = F.ga) : ∀ {r : AV} {c : Value}, FRep F r c → flat r = true → FRep F' r c := by
  have hl : ∀ (cs : List AV), flatL cs = true → ∀ x ∈ cs, flat x = true := by
    intro cs
    induction cs with
    | nil => intro _ x hx; simp at hx
    | cons y r ih =>
      intro h x hx
      simp only [flatL, Bool.and_eq_true] at h
      rcases List.mem_cons.1 hx with rfl | hx
      · exact h.1
      · exact ih h.2 x hx
  intro r c h
  induction h with
  | sc h => exact fun _ => .sc h
  | sp h => intro _; rw [← hg] at h ⊢; exact .sp h
  | gl => exact fun _ => .gl
  | ifc _ ih => exact fun hf => .ifc (ih (by simpa [flat] using hf))
  | agg h1 _ ih => exact fun hf => .agg h1 fun j c v hc hv => ih j c v hc hv (hl _ (by simpa [flat] using hf) c (List.mem_of_getElem? hc))
  | tup h1 _ ih => exact fun hf => .tup h1 fun j c v hc hv => ih j c v hc hv (hl _ (by simpa [flat] using hf) c (List.mem_of_getElem? hc))
  | fs => exact fun hf => by simp [flat] at hf
  | fs0 => exact fun hf => by simp [flat] at hf
  | fp => exact fun hf => by simp [flat] at hf
  | e0 => exact fun hf => by simp [flat] at hf
  | fn => exact fun hf => by simp [flat] at hf

theorem mapO_congr {f g : AV → Option AV} : ∀ {l : List AV}, (∀ x ∈ l, f x = g x) → mapO f l = mapO g l
  | [], _ => rfl
  | v :: r, h => by simp only [mapO]; rw [h v (List.mem_cons_self ..), mapO_congr fun x hx => h x (List.mem_cons_of_mem _ hx)]

theorem res_dim {E : Env} {st st' : List AObj} (h : Dim st st') : ∀ (n : Nat) (v : AV), res E st' n v = res E st n v
  | 0, v => rfl
  | n + 1, v => by
    have ih := fun x => res_dim (E := E) h n x
    have ihm : ∀ l : List AV, mapO (res E st' n) l = mapO (res E st n) l := fun l => mapO_congr fun x _ => ih x
    have hf : ∀ o : Nat, (∀ cells e wr, st'[o]? = some (.arr cells e wr) → ∃ wr', st[o]? = some (.arr cells e wr')) := fun o cells e wr ho => by
      obtain ⟨wr', h1, _⟩ := (dim_back h).1 cells e wr ho
      exact ⟨wr', h1⟩
    cases v with
    | sl o off k L =>
      simp only [res]
      rcases h o with ho | ⟨cells, e, h1, h2⟩
      · rw [ho]; simp only [ihm]
      · rw [h1, h2]; simp only [ihm]
    | rf o off L =>
      simp only [res]
      rcases h o with ho | ⟨cells, e, h1, h2⟩
      · rw [ho]; simp only [ihm]
      · rw [h1, h2]; simp only [ihm]
    | _ => simp only [res, ihm, ih]

theorem pureCall_sound {E : Env} {g : FuncId} {run : List AV → Option AV} (hrun : ∀ as r, run as = some r → PureSpec E g as r) {args : List AV} {st st' : List AObj} {r : AV} (h : pureCall E g run args st = some (r, st'))
    (C : Ctx) (hE : C.E = E) (hst : C.st = st) (hm : Mem C) (cargs : Array Value) (hargs : Args C args cargs) :
    Callable E.P g ∧ Calls E.P g cargs C.w fun e w' => ∃ c C', e = .returned c ∧ Out C w' C.lb st' C' ∧ C'.il = C.il ∧ Rep C' r c := by
  unfold pureCall at h
  split at h
  · cases h
  · rename_i as has
    split at h
    · cases h
    · rename_i r0 hr0
      cases hfl : flat r0
      · have h' : (bif args.all (resOff (foldA (frz depthA) st args) depthA) then some (r0, foldA (frz depthA) st args) else none) = some (r, st') := by
          rw [hfl] at h; exact h
        have hdim : Dim C.st (foldA (frz depthA) st args) := by rw [hst]; exact foldA_dim (frz_dim depthA) args st
        obtain ⟨m1, x1⟩ := mem_dim hm hdim
        generalize foldA (frz depthA) st args = st2 at h' m1 x1 hdim
        cases hoff : args.all (resOff st2 depthA)
        · simp only [hoff, cond_false] at h'; cases h'
        · simp only [hoff, cond_true, Option.some.injEq, Prod.mk.injEq] at h'
          obtain ⟨rfl, rfl⟩ := h'
          rw [List.all_eq_true] at hoff
          have has' : mapO (res E st2 depthA) args = some as := by
            rw [← has, ← hst]
            exact congrArg (fun f => mapO f args) (funext fun v => res_dim hdim depthA v)
          cases hhas : mapO (res E st2 depthA) args with
          | none => rw [hhas] at has'; cases has'
          | some as' =>
            rw [hhas] at has'; cases has'
            have has' := hhas
            obtain ⟨n1, n2⟩ := mapO_get has'
            have hfa : FArgs (C.dim st2).F as cargs := ⟨by rw [hargs.1, n1], fun j x c hx hc => by
              obtain ⟨v, hv, hvx⟩ := n2 j x hx
              exact resOff_sound m1 (hoff v (List.mem_of_getElem? hv)) (by show res C.E st2 depthA v = some x; rw [hE]; exact hvx) (x1.rep (hargs.2 j v c hv hc))⟩
            obtain ⟨c1, c2⟩ := hrun as r0 hr0 (C.dim st2).F (by rw [← hE]; rfl) (by rw [← hE]; exact m1.glob) (fun b hb => mem_own_lt m1 hb) cargs hfa
            refine ⟨c1, c2.mono fun e w' he => ?_⟩
            obtain ⟨c, rfl, hgr, hfr⟩ := he
            obtain ⟨m2, x2⟩ := mem_grown m1 (w' := w') hgr
            exact ⟨c, (C.dim st2).more w', rfl, ⟨rfl, rfl, rfl, m2, x1.trans x2, fun s g cs h => ⟨g, cs, h, Nat.le_refl _, fun _ => rfl⟩⟩, rfl, .fz hfr⟩
      · simp only [hfl, cond_true, Option.some.injEq, Prod.mk.injEq] at h
        obtain ⟨rfl, rfl⟩ := h
        obtain ⟨n1, n2⟩ := mapO_get has
        have hfa : FArgs ⟨C.w, C.W0, C.ga⟩ as cargs := ⟨by rw [hargs.1, n1], fun j x c hx hc => by
          obtain ⟨v, hv, hvx⟩ := n2 j x hx
          exact res_sound hm (by rw [hE, hst]; exact hvx) (hargs.2 j v c hv hc)⟩
        have hglob : GlobOk E ⟨C.w, C.W0, C.ga⟩ := by
          rw [← hE]
          exact hm.glob.step (F := C.F) (F' := ⟨C.w, C.W0, C.ga⟩) rfl fun b _ hn => ⟨rfl, fun h => hn (.inr h)⟩
        obtain ⟨c1, c2⟩ := hrun as r0 hr0 ⟨C.w, C.W0, C.ga⟩ (by rw [← hE]) hglob hm.w0s cargs hfa
        refine ⟨c1, c2.mono fun e w' he => ?_⟩
        obtain ⟨c, rfl, hgr, hfr⟩ := he
        obtain ⟨m2, x2⟩ := mem_grown hm (w' := w') hgr
        exact ⟨c, C.more w', rfl, ⟨rfl, rfl, hst, m2, x2, fun s g cs h => ⟨g, cs, h, Nat.le_refl _, fun _ => rfl⟩⟩, rfl, .fz (flat_frep (F := ⟨w', C.W0, C.ga⟩) (F' := (C.more w').F) rfl hfr hfl)⟩

/-- A body that is called alone. -/
theorem alone_sound {E : Env} {callf : CallF} {k : Nat} (hmix : E.P.follows .mixedOrders = true) (hc : CallOk E callf) {g : FuncId} {as : List AV} {r : AV} (h : alone E callf k g as = some r) : PureSpec E g as r := by
  intro F hga hg hs cargs hargs
  unfold alone at h
  split at h
  · rename_i v st hb
    let C : Ctx := { E := E, w := F.w, io := fun _ => 0, il := fun _ => none, lb := [], st := [], W0 := F.Wr }
    have hwr : ∀ b, C.Wr b → F.Wr b := fun b hb => by
      rcases hb with (⟨o, _, _, ho, _⟩ | ⟨o, _, ho, _⟩ | ⟨s, g, cs, hs, _⟩) | hb
      · simp [C] at ho
      · simp [C] at ho
      · simp [C, lbGet] at hs
      · exact hb
    have hm : Mem C :=
      { arr := fun o cells e wr ho => by simp [C] at ho, map := fun o es ho => by simp [C] at ho, loc := fun s g cs b h => by simp [C, lbGet] at h, inj := fun o o' ho => by simp [C] at ho, injl := fun s s' b g cs g' cs' h => by simp [C, lbGet] at h,
        sep := fun o s b g cs ho => by simp [C] at ho, w0 := fun o ho => by simp [C] at ho, w0l := fun s b g cs h => by simp [C, lbGet] at h, w0s := hs,
        glob := hg.step (F := F) (F' := C.F) hga.symm fun b _ hn => ⟨rfl, fun h => hn (hwr b h)⟩ }
    obtain ⟨c1, c2⟩ := body_sound hmix hc g as [] v st hb C rfl rfl hm cargs ⟨hargs.1, fun j x c hx hcc => .fz (frep_iff (F := F) (F' := C.F) rfl hga.symm hwr (hargs.2 j x c hx hcc))⟩
    refine ⟨c1, c2.mono fun e w' he => ?_⟩
    obtain ⟨c, C', rfl, o1, o2, o3⟩ := he
    have hE' : C'.E = E := o1.ext.env
    have := res_sound o1.mem (n := depthA) (v := v) (r := r) (by rw [hE', o1.st]; exact h) o3
    refine ⟨c, rfl, ?_, ?_⟩
    · have x := o1.ext
      have hno : ∀ b, ¬ C.OW b := fun b hb => by
        rcases hb with ⟨o, _, _, ho, _⟩ | ⟨o, _, ho, _⟩ | ⟨s, g, cs, hs, _⟩
        · simp [C] at ho
        · simp [C] at ho
        · simp [C, lbGet] at hs
      rw [← o1.w]
      exact ⟨x.os, x.tape, x.output, x.size, fun b hb => x.keep b hb (hno b)⟩
    · have e1 : C'.W0 = F.Wr := o1.ext.w0
      have e2 : C'.ga = F.ga := by rw [hga]; exact congrArg Env.tok hE'
      rw [e1, e2, o1.w] at this
      exact this
  · cases h

/-- ████ Calls. ████ -/
theorem call_sound {E : Env} (hmix : E.P.follows .mixedOrders = true) (hp : PrimOk E) (k : Nat) : ∀ n, CallOk E (call E k n)
  | 0 => fun g args st r st' h => by simp [call] at h
  | n + 1 => fun g args st r st' h C hE hst hm cargs hargs => by
    simp only [call] at h
    cases hpr : E.prim g with
    | some p =>
      simp only [hpr] at h
      exact pureCall_sound (fun as r hr => hp g p hpr as r hr) h C hE hst hm cargs hargs
    | none =>
      simp only [hpr] at h
      cases hpu : E.pure g
      · simp only [hpu, cond_false] at h
        exact body_sound hmix (call_sound hmix hp k n) g args st r st' h C hE hst hm cargs hargs
      · simp only [hpu, cond_true] at h
        exact pureCall_sound (fun as r hr => alone_sound hmix (call_sound hmix hp k n) hr) h C hE hst hm cargs hargs

theorem pure_of_alone {E : Env} (hmix : E.P.follows .mixedOrders = true) (hp : PrimOk E) {k n : Nat} {g : FuncId} {as : List AV} {r : AV} (h : alone E (call E k n) k g as = some r) : PureSpec E g as r := alone_sound hmix (call_sound hmix hp k n) h

end Go.Proofs.YtcfaajaccbadbaaDoor.Ahm
