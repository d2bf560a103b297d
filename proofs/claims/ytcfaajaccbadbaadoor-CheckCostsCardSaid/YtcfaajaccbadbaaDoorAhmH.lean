/- Parts laid at their places; then every operation that changes no memory. -/
import Derived.Test.YtcfaajaccbadbaaDoorAhmG
set_option linter.unusedSimpArgs false
set_option linter.unusedVariables false
namespace Go.Proofs.YtcfaajaccbadbaaDoor.Ahm
open Go

theorem fold_size (off : Nat) : ∀ (l : List Value) (k : Nat) (cells : Array Value), ((l.zipIdx k).foldl (fun (cs : Array Value) (x : Value × Nat) => cs.setIfInBounds (off + x.2) x.1) cells).size = cells.size
  | [], _, _ => rfl
  | v :: l, k, cells => by simp only [List.zipIdx_cons, List.foldl_cons]; rw [fold_size off l (k + 1)]; simp

theorem fold_get (off i : Nat) : ∀ (l : List Value) (k : Nat) (cells : Array Value), i < cells.size →
    ((l.zipIdx k).foldl (fun (cs : Array Value) (x : Value × Nat) => cs.setIfInBounds (off + x.2) x.1) cells)[i]? = if off + k ≤ i ∧ i < off + k + l.length then l[i - off - k]? else cells[i]?
  | [], k, cells, hi => by simp; omega
  | v :: l, k, cells, hi => by
    simp only [List.zipIdx_cons, List.foldl_cons]
    rw [fold_get off i l (k + 1) _ (by simpa using hi)]
    by_cases h1 : off + k = i
    · subst h1
      rw [if_neg (by omega), if_pos (by simp)]
      have : off + k - off - k = 0 := by omega
      simp [this, hi]
    · by_cases h2 : off + (k + 1) ≤ i ∧ i < off + (k + 1) + l.length
      · rw [if_pos h2, if_pos (by simp; omega)]
        have : i - off - k = (i - off - (k + 1)) + 1 := by omega
        rw [this]; rfl
      · rw [if_neg h2, if_neg (by simp; omega)]
        simp [Array.getElem?_setIfInBounds, h1]

theorem splice_get {cells vs : List AV} {off : Nat} (h : off + vs.length ≤ cells.length) (i : Nat) :
    (splice cells off vs).length = cells.length ∧ (splice cells off vs)[i]? = if off ≤ i ∧ i < off + vs.length then vs[i - off]? else cells[i]? := by
  unfold splice
  refine ⟨by simp; omega, ?_⟩
  by_cases h1 : i < off
  · rw [if_neg (by omega), List.getElem?_append_left (by simp; omega), List.getElem?_append_left (by simp; omega), List.getElem?_take, if_pos h1]
  · by_cases h2 : i < off + vs.length
    · rw [if_pos ⟨by omega, h2⟩, List.getElem?_append_left (by simp; omega), List.getElem?_append_right (by simp; omega)]
      simp [Nat.min_eq_left (show off ≤ cells.length by omega)]
    · rw [if_neg (by omega), List.getElem?_append_right (by simp; omega), List.getElem?_drop]
      congr 1
      simp
      omega

/-- as many cells, each with its value -/
def CR (R : AV → Value → Prop) (l : List AV) (us : Array Value) : Prop := us.size = l.length ∧ ∀ (j : Nat) (x : AV) (c : Value), l[j]? = some x → us[j]? = some c → R x c

section
variable {C : Ctx}

theorem cells_rel {v : AV} {c : Value} (h : Rep C v c) : (v.cells.all AV.isCell = true → v.cells.length = c.cells.size) ∧ (v.cells.length = c.cells.size → CR (Rep C) v.cells c.cells) := by
  have lone : v.cells = [v] → c.cells = #[c] → (v.cells.all AV.isCell = true → v.cells.length = c.cells.size) ∧ (v.cells.length = c.cells.size → CR (Rep C) v.cells c.cells) := by
    intro h1 h2
    refine ⟨fun _ => by simp [h1, h2], fun _ => ⟨by simp [h1, h2], fun j x u hx hu => ?_⟩⟩
    cases j with
    | zero => simp [h1, h2] at hx hu; subst hx hu; exact h
    | succ j => simp [h1] at hx
  cases v with
  | agg cs =>
    obtain ⟨vs, rfl, hl, hr⟩ := rep_agg h
    exact ⟨fun _ => by simp [AV.cells, Value.cells, hl], fun _ => ⟨by simp [AV.cells, Value.cells, hl], hr⟩⟩
  | sc u =>
    obtain ⟨rfl, hs⟩ := rep_sc h
    refine lone rfl ?_
    cases c <;> first | rfl | simp [scal] at hs
  | sp k => exact lone rfl (by have hv := (rep_sp h).2; cases c <;> first | rfl | simp [Value.oneCell'] at hv)
  | gl k => rw [rep_gl h] at *; exact lone rfl rfl
  | fs cells n => obtain ⟨a, cap, rfl, _⟩ := fs_form (rep_fs h); exact lone rfl rfl
  | fp cells n => have := rep_fp h; cases this; exact lone rfl rfl
  | e0 => obtain ⟨a, rfl⟩ := rep_e0 h; exact lone rfl rfl
  | ifc t v => obtain ⟨u, rfl, _⟩ := rep_ifc h; exact lone rfl rfl
  | tup vs => obtain ⟨u, rfl, _⟩ := rep_tup h; exact lone rfl rfl
  | fn f a b => obtain ⟨va, vb, rfl, _⟩ := rep_fn h; exact lone rfl rfl
  | lp s g o => cases h; rename_i h; cases h
  | mp o => cases h with
    | fz h => cases h
    | mp ho => exact lone rfl rfl
  | sl o off n L =>
    cases h with
    | fz h => cases h
    | sl => exact lone rfl rfl
    | slOld ho hL hv => exact lone rfl (by cases c <;> first | rfl | simp [Value.oneCell'] at hv)
  | rf o off L =>
    cases h with
    | fz h => cases h
    | rf => exact lone rfl rfl
    | rfOld ho hL hv => exact lone rfl (by cases c <;> first | rfl | simp [Value.oneCell'] at hv)

theorem cells_len {v : AV} {c : Value} (h : Rep C v c) : v.cells.length = c.cells.size ∧ CR (Rep C) v.cells c.cells := by
  have hk := cells_rel h
  have : v.cells.length = c.cells.size := by
    cases v with
    | agg cs => obtain ⟨vs, rfl, hl, hr⟩ := rep_agg h; simp [AV.cells, Value.cells, hl]
    | tup vs => obtain ⟨u, rfl, _⟩ := rep_tup h; rfl
    | sc u =>
      obtain ⟨rfl, hs⟩ := rep_sc h
      cases c <;> first | rfl | simp [scal] at hs
    | lp s g o => cases h; rename_i h; cases h
    | _ => exact hk.1 rfl
  exact ⟨this, hk.2 this⟩

/-- the model's laying of parts -/
theorem fill_rel {place : Nat → Option (Nat × Nat)} : ∀ (ps : List (Nat × AV)) (cps : List (Nat × Value)) (cells : List AV) (us : Array Value) (out : List AV),
    cps.length = ps.length → (∀ (j : Nat) (p : Nat × AV) (q : Nat × Value), ps[j]? = some p → cps[j]? = some q → q.1 = p.1 ∧ Rep C p.2 q.2) → CR (Rep C) cells us → fillA place cells ps = some out →
    ∃ us', Instr.fill place us cps = some us' ∧ CR (Rep C) out us' ∧ out.length = cells.length
  | [], cps, cells, us, out, hl, _, hcr, h => by
    obtain rfl : cps = [] := List.eq_nil_of_length_eq_zero (by simpa using hl)
    simp [fillA] at h
    subst h
    exact ⟨us, rfl, hcr, rfl⟩
  | (i, v) :: ps, cps, cells, us, out, hl, hp, hcr, h => by
    cases cps with
    | nil => simp at hl
    | cons q cps =>
      obtain ⟨h1, h2⟩ := hp 0 (i, v) q rfl rfl
      obtain ⟨i', c⟩ := q
      simp only at h1 h2
      subst h1
      simp only [fillA] at h
      cases hpl : place i' with
      | none => simp [hpl] at h
      | some x =>
        obtain ⟨off, size⟩ := x
        simp only [hpl] at h
        cases hb : (Nat.beq v.cells.length size && Nat.ble (off + size) cells.length && v.cells.all AV.isCell)
        · simp [hb] at h
        · simp only [hb, cond_true] at h
          simp only [Bool.and_eq_true] at hb
          have e1 := Nat.eq_of_beq_eq_true hb.1.1
          have e2 := Nat.le_of_ble_eq_true hb.1.2
          obtain ⟨e3, e4⟩ := cells_len h2
          have hsz : us.size = cells.length := hcr.1
          have hcr' : CR (Rep C) (splice cells off v.cells) (c.cells.zipIdx.foldl (fun cs (x : Value × Nat) => cs.setIfInBounds (off + x.2) x.1) us) := by
            rw [← Array.foldl_toList, Array.toList_zipIdx]
            refine ⟨?_, fun j x u hx hu => ?_⟩
            · rw [fold_size, (splice_get (cells := cells) (vs := v.cells) (off := off) (by omega) 0).1, hsz]
            · have hj : j < us.size := by
                have := (List.getElem?_eq_some_iff.1 hx).1
                rw [(splice_get (cells := cells) (vs := v.cells) (off := off) (by omega) 0).1] at this
                omega
              rw [(splice_get (cells := cells) (vs := v.cells) (off := off) (by omega) j).2] at hx
              rw [fold_get off j _ 0 us hj] at hu
              have hlen : c.cells.toList.length = v.cells.length := by simp [e3]
              rw [hlen] at hu
              by_cases hin : off ≤ j ∧ j < off + v.cells.length
              · rw [if_pos hin] at hx
                rw [if_pos (by omega)] at hu
                exact e4.2 (j - off) x u hx (by simpa using hu)
              · rw [if_neg hin] at hx
                rw [if_neg (by omega)] at hu
                exact hcr.2 j x u hx hu
          obtain ⟨us', r1, r2, r3⟩ := fill_rel ps cps _ _ out (by simpa using hl) (fun j p q hp' hq' => hp (j + 1) p q hp' hq') hcr' h
          refine ⟨us', ?_, r2, by rw [r3, (splice_get (cells := cells) (vs := v.cells) (off := off) (by omega) 0).1]⟩
          simp only [Instr.fill, hpl]
          rw [if_neg (by simp; omega)]
          exact r1

theorem parts_sound {m : Tm} {N : Nat} {a : Act} (ht : TmOk C m N a) : ∀ {ps : List (Nat × Operand)} {vs : List (Nat × AV)}, parts m ps = some vs →
    vs.length = ps.length ∧ ∀ (j : Nat) (p : Nat × AV) (q : Nat × Operand), vs[j]? = some p → ps[j]? = some q → q.1 = p.1 ∧ RepT C p.2 (a.eval q.2)
  | [], vs, h => by simp [parts] at h; subst h; exact ⟨rfl, fun j p q hj => by simp at hj⟩
  | (i, x) :: ps, vs, h => by
    simp only [parts] at h
    cases hx : opv m x with
    | none => simp [hx] at h
    | some v =>
      cases hs : parts m ps with
      | none => simp [hx, hs] at h
      | some us =>
        simp [hx, hs] at h
        subst h
        obtain ⟨h1, h2⟩ := parts_sound ht hs
        refine ⟨by simp [h1], fun j p q hj hq => ?_⟩
        cases j with
        | zero => simp at hj hq; subst hj hq; exact ⟨rfl, opv_sound ht hx⟩
        | succ j => exact h2 j p q (by simpa using hj) (by simpa using hq)

/-- what is laid as a part is no pointer to a local variable -/
theorem fillA_nolp {place : Nat → Option (Nat × Nat)} : ∀ (ps : List (Nat × AV)) (cells out : List AV), fillA place cells ps = some out → ∀ p ∈ ps, p.2.isLp = false
  | [], _, _, _, p, hp => by cases hp
  | (i, v) :: ps, cells, out, h, p, hp => by
    simp only [fillA] at h
    cases hpl : place i with
    | none => simp [hpl] at h
    | some x =>
      obtain ⟨off, size⟩ := x
      simp only [hpl] at h
      cases hb : (Nat.beq v.cells.length size && Nat.ble (off + size) cells.length && v.cells.all AV.isCell)
      · simp [hb] at h
      · simp only [hb, cond_true] at h
        rcases List.mem_cons.1 hp with rfl | hp'
        · simp only [Bool.and_eq_true] at hb
          cases v <;> first | rfl | (simp [AV.cells, AV.isCell] at hb)
        · exact fillA_nolp ps _ out h p hp'

theorem mapM_sizes {E : Env} (fields : Array Field) (w : World) (h : ∀ f ∈ fields.toList, ∃ s, sizeT E f.type = some s) :
    (fields.mapM fun f => do pure (f.offset, ← sizeOf f.type) : Sem (Array (Nat × Nat))).run E.P w = .ok (fields.map fun f => (f.offset, (sizeT E f.type).getD 0)) w := by
  rw [Array.mapM_eq_mapM_toList]
  have key : ∀ (l : List Field), (∀ f ∈ l, ∃ s, sizeT E f.type = some s) → (l.mapM fun f => do pure (f.offset, ← sizeOf f.type) : Sem (List (Nat × Nat))).run E.P w = .ok (l.map fun f => (f.offset, (sizeT E f.type).getD 0)) w := by
    intro l
    induction l with
    | nil => intro _; rfl
    | cons f l ih =>
      intro hl
      obtain ⟨s, hs⟩ := hl f (List.mem_cons_self ..)
      have := ih fun g hg => hl g (List.mem_cons_of_mem _ hg)
      simp only [List.mapM_cons, Sem.run_bind, run_sizeOf_of hs, Result.andThen_ok, Sem.run_pure, this, List.map_cons, hs, Option.getD_some]
  simp only [Sem.run_map, key fields.toList h, Result.andThen_ok]
  congr 1
  apply Array.ext'
  simp

theorem fill_congr {p q : Nat → Option (Nat × Nat)} (h : ∀ i, p i = q i) (cells : Array Value) (l : List (Nat × Value)) : Instr.fill p cells l = Instr.fill q cells l := by
  have : p = q := funext h
  rw [this]

theorem buildA_sound {t : TypeId} {ps : List (Nat × AV)} {cps : Array (Nat × Value)} {v : AV} (hl : cps.toList.length = ps.length)
    (hp : ∀ (j : Nat) (p : Nat × AV) (q : Nat × Value), ps[j]? = some p → cps.toList[j]? = some q → q.1 = p.1 ∧ Rep C p.2 q.2) (h : buildA C.E t ps = some v) (w : World) :
    ∃ u, (Instr.build t cps).run C.E.P w = .ok u w ∧ Rep C v u := by
  unfold buildA at h
  split at h
  · rename_i z fields hz hd
    obtain ⟨zu, hzr, _, _, hz3, hz4, _⟩ := zeroA_sound (C := C) hz
    cases hall : fields.toList.all (fun f => (sizeT C.E f.type).isSome)
    · simp [hall] at h
    · simp only [hall, cond_true] at h
      cases hf : fillA (fieldPl C.E fields) z.cells ps with
      | none => simp [hf] at h
      | some out =>
        simp [hf] at h
        subst h
        have hsz : ∀ f ∈ fields.toList, ∃ s, sizeT C.E f.type = some s := fun f hfm => Option.isSome_iff_exists.1 (List.all_eq_true.1 hall f hfm)
        obtain ⟨us, r1, r2, r3⟩ := fill_rel (C := C) ps cps.toList z.cells zu.cells out hl hp ⟨hz3, fun j x c hx hc => .fz (hz4 j x c C.F hx hc)⟩ hf
        have hplaces : ∀ i, fieldPl C.E fields i = (fields.map fun f => (f.offset, (sizeT C.E f.type).getD 0))[i]? := fun i => by
          unfold fieldPl
          cases hfi : fields[i]? with
          | none => simp [hfi]
          | some f =>
            have hm : f ∈ fields.toList := by
              have := Array.mem_of_getElem? hfi
              simpa using this
            obtain ⟨s, hs⟩ := hsz f hm
            simp [hfi, hs]
        rw [fill_congr hplaces] at r1
        refine ⟨.agg us, ?_, .agg r2.1 r2.2⟩
        simp only [Instr.build, Sem.run_bind, hzr, Result.andThen_ok, run_underlying hd]
        have hm := mapM_sizes (E := C.E) fields w hsz
        simp only [Sem.run_bind, hm, Result.andThen_ok]
        rw [r1]
        rfl
  · rename_i z n e hz hd
    obtain ⟨zu, hzr, _, _, hz3, hz4, _⟩ := zeroA_sound (C := C) hz
    cases hs : sizeT C.E e with
    | none => simp [hs] at h
    | some s =>
      simp only [hs] at h
      cases hf : fillA (fun i => some (i * s, s)) z.cells ps with
      | none => simp [hf] at h
      | some out =>
        simp [hf] at h
        subst h
        obtain ⟨us, r1, r2, r3⟩ := fill_rel (C := C) ps cps.toList z.cells zu.cells out hl hp ⟨hz3, fun j x c hx hc => .fz (hz4 j x c C.F hx hc)⟩ hf
        refine ⟨.agg us, ?_, .agg r2.1 r2.2⟩
        simp only [Instr.build, Sem.run_bind, hzr, Result.andThen_ok, run_underlying hd, run_sizeOf_of hs]
        rw [r1]
        rfl
  · cases h

/-! ### maps that are read -/
theorem keyEq_spec {kt : TypeDesc} {ik : IntKind} (hk : kt = .int ik) {a b : Value} {r : Bool} (h : keyEq a b = some r) : Instr.sameNow kt a b = some r := by
  subst hk
  cases a <;> cases b <;> simp [keyEq] at h
  rename_i k x l y
  obtain ⟨rfl, h⟩ := h
  simp [Instr.sameNow, h]

theorem mapFind_spec {kt : TypeDesc} {ik : IntKind} (hk : kt = .int ik) {k : Value} : ∀ (es : List (Value × AV)) (ents : List MapEntry) (i : Nat) (r : Option AV), ents.length = es.length →
    (∀ (j : Nat) (k : Value) (v : AV), es[j]? = some (k, v) → ∃ me : MapEntry, ents[j]? = some me ∧ me.key = k ∧ Rep C v me.val) → mapFind k es = some r →
    (r = none ∧ Instr.findNow kt k ents i = some none) ∨ (∃ v u j, r = some v ∧ Instr.findNow kt k ents i = some (some (i + j, u)) ∧ Rep C v u ∧ j < ents.length)
  | [], ents, i, r, hl, hr, h => by
    obtain rfl : ents = [] := List.eq_nil_of_length_eq_zero (by simpa using hl)
    simp [mapFind] at h
    exact .inl ⟨h.symm, rfl⟩
  | (k', v) :: es, ents, i, r, hl, hr, h => by
    cases ents with
    | nil => simp at hl
    | cons e ents =>
      obtain ⟨me, h1, h2, h3⟩ := hr 0 k' v rfl
      simp at h1
      subst h1
      simp only [mapFind] at h
      cases he : keyEq k k' with
      | none => simp [he] at h
      | some b =>
        have hs := keyEq_spec hk he
        rw [← h2] at hs
        simp only [he] at h
        cases b with
        | true =>
          simp at h
          exact .inr ⟨v, e.val, 0, h.symm, by simp [Instr.findNow, hs], h3, by simp⟩
        | false =>
          simp only at h
          rcases mapFind_spec hk es ents (i + 1) r (by simpa using hl) (fun j k v hj => hr (j + 1) k v hj) h with ⟨r1, r2⟩ | ⟨u, u', j, r1, r2, r3, r4⟩
          · exact .inl ⟨r1, by simp [Instr.findNow, hs, r2]⟩
          · exact .inr ⟨u, u', j + 1, r1, by simp [Instr.findNow, hs, r2]; omega, r3, by simp; omega⟩

theorem run_checkKey {E : Env} {kt : TypeId} {ik k : IntKind} {n : Int} (h : E.P.underlying kt = some (.int ik)) (b : Bool) (w : World) : (Instr.checkKey b 10000 kt (.int k n)).run E.P w = .ok () w := by
  show (Instr.checkKey b (9999 + 1) kt (.int k n)).run E.P w = .ok () w
  generalize 9999 = d
  simp [Instr.checkKey, run_underlying h]

theorem rep_mp {o : Nat} {c : Value} (h : Rep C (.mp o) c) : c = .map (some (C.io o)) ∧ ∃ es, C.st[o]? = some (.map es) := by
  cases h with
  | fz h => cases h
  | mp ho => exact ⟨rfl, _, ho⟩

/-- what a look at a map finds -/
theorem mapGet_sound (hm : Mem C) {x : AV} {k : Value} {cx : Value} {r : Option AV} (hx : RepT C x cx) (h : mapGet C.st x k = some r) {kt : TypeId} {ik : IntKind} (hkt : C.E.P.underlying kt = some (.int ik)) :
    ∃ es : Array MapEntry, ((cx = .map none ∧ es = #[]) ∨ ∃ b clock, cx = .map (some b) ∧ C.w.heap[b]? = some (.map es clock)) ∧
      ((r = none ∧ Instr.findNow (.int ik) k es.toList 0 = some none) ∨ ∃ v u j, r = some v ∧ Instr.findNow (.int ik) k es.toList 0 = some (some (j, u)) ∧ Rep C v u) := by
  unfold mapGet at h
  split at h
  · have := repT_sc (C := C) hx
    subst this
    simp at h
    exact ⟨#[], .inl ⟨rfl, rfl⟩, .inl ⟨h.symm, rfl⟩⟩
  · rename_i o
    split at h
    · rename_i es ho
      obtain ⟨ents, clock, hb, hl, hrep⟩ := hm.map o es ho
      obtain ⟨rfl, _⟩ := rep_mp (C := C) hx
      refine ⟨ents, .inr ⟨_, clock, rfl, hb⟩, ?_⟩
      rcases mapFind_spec (C := C) rfl es ents.toList 0 _ (by simpa using hl) (fun j k v hj => by simpa using hrep j k v hj) h with ⟨r1, r2⟩ | ⟨v', u, j, r1, r2, r3, _⟩
      · exact .inl ⟨r1, r2⟩
      · exact .inr ⟨v', u, _, r1, r2, r3⟩
    · cases h
  · cases h

theorem lookupA_sound (hm : Mem C) {t : TypeId} {x k v : AV} {ok : Bool} {cx ck : Value} (hx : RepT C x cx) (hk : RepT C k ck) (h : lookupA C.E C.st t x k ok = some v) :
    ∃ u, (Instr.lookup t cx ck ok).run C.E.P C.w = .ok u C.w ∧ Rep C v u := by
  unfold lookupA at h
  split at h
  · rename_i kt e kk ki hd
    have := repT_sc (C := C) hk
    subst this
    split at h
    · rename_i ik z hkt hz
      obtain ⟨zu, hzr, _, hz2, _⟩ := zeroA_sound (C := C) hz
      have fin : ∀ (v' : AV) (u : Value) (b : Bool), Rep C v' u → Rep C (if ok then .tup [v', .sc (.bool b)] else v') (if ok then .tuple #[u, .bool b] else u) := fun v' u b hr => by
        cases ok
        · exact hr
        · refine .tup rfl fun j x c hx hc => ?_
          rcases j with _ | _ | j
          · simp at hx hc; subst hx hc; exact hr
          · simp at hx hc; subst hx hc; exact .fz (.sc rfl)
          · simp at hx
      cases hg : mapGet C.st x (.int kk ki) with
      | none => simp [hg] at h
      | some r =>
        obtain ⟨es, hrun, hr⟩ := mapGet_sound hm hx hg hkt
        rcases hr with ⟨rfl, hf⟩ | ⟨v', u, j, rfl, hf, hr3⟩
        · simp only [hg, Option.some.injEq] at h
          subst h
          refine ⟨_, ?_, fin z zu false (.fz (hz2 C.F))⟩
          rcases hrun with ⟨rfl, rfl⟩ | ⟨b, clock, rfl, hb⟩
          · simp [Instr.lookup, run_underlying hd, run_checkKey hkt, Instr.findKey, run_underlying hkt, Instr.findNow, hzr]
          · simp [Instr.lookup, run_underlying hd, getObj, Sem.run, hb, run_checkKey hkt, Instr.findKey, run_underlying hkt, hf, hzr]
        · simp only [hg, Option.some.injEq] at h
          subst h
          refine ⟨_, ?_, fin v' u true hr3⟩
          rcases hrun with ⟨rfl, rfl⟩ | ⟨b, clock, rfl, hb⟩
          · simp [Instr.findNow] at hf
          · simp [Instr.lookup, run_underlying hd, getObj, Sem.run, hb, run_checkKey hkt, Instr.findKey, run_underlying hkt, hf]
    · cases h
  · cases h

theorem typeAssertA_sound {x v : AV} {xt t : TypeId} {ok : Bool} {c : Value} (hr : RepT C x c) (h : typeAssertA C.E x t ok = some v) (w : World) :
    ∃ u, (Instr.typeAssert c xt t ok).run C.E.P w = .ok u w ∧ Rep C v u := by
  have fin : ∀ (v' : AV) (u : Value) (b : Bool), Rep C v' u → Rep C (.tup [v', .sc (.bool b)]) (.tuple #[u, .bool b]) := fun v' u b hr => by
    refine .tup rfl fun j x c hx hc => ?_
    rcases j with _ | _ | j
    · simp at hx hc; subst hx hc; exact hr
    · simp at hx hc; subst hx hc; exact .fz (.sc rfl)
    · simp at hx
  unfold typeAssertA at h
  split at h
  · cases h
  · cases h
  · rename_i d hni hd
    split at h
    · have := repT_sc (C := C) hr
      subst this
      cases ok with
      | false => simp at h
      | true =>
        simp only [if_true] at h
        cases hz : zeroA C.E t with
        | none => simp [hz] at h
        | some z =>
          simp [hz] at h
          subst h
          obtain ⟨zu, hzr, _, hz2, _⟩ := zeroA_sound (C := C) hz
          refine ⟨_, ?_, fin z zu false (.fz (hz2 C.F))⟩
          cases d <;> first
            | (exact absurd hd (hni _))
            | (exact (hni _ rfl).elim)
            | simp [Instr.typeAssert, run_underlying hd, hzr]
    · rename_i t' v'
      obtain ⟨u, rfl, hu⟩ := rep_ifc (C := C) hr
      split at h
      · rename_i he
        subst he
        simp at h
        subst h
        cases ok with
        | false =>
          refine ⟨u, ?_, hu⟩
          cases d <;> first
            | (exact absurd hd (hni _))
            | (exact (hni _ rfl).elim)
            | simp [Instr.typeAssert, run_underlying hd]
        | true =>
          refine ⟨_, ?_, fin _ _ true hu⟩
          cases d <;> first
            | (exact absurd hd (hni _))
            | (exact (hni _ rfl).elim)
            | simp [Instr.typeAssert, run_underlying hd]
      · rename_i he
        cases ok with
        | false => simp at h
        | true =>
          simp only [if_true] at h
          cases hz : zeroA C.E t with
          | none => simp [hz] at h
          | some z =>
            simp [hz] at h
            subst h
            obtain ⟨zu, hzr, _, hz2, _⟩ := zeroA_sound (C := C) hz
            refine ⟨_, ?_, fin z zu false (.fz (hz2 C.F))⟩
            cases d <;> first
              | (exact absurd hd (hni _))
              | (exact (hni _ rfl).elim)
              | simp [Instr.typeAssert, run_underlying hd, he, hzr]
    · cases h

theorem lenA_sound (hm : Mem C) {t : TypeId} {x v : AV} {c : Value} (hr : RepT C x c) (hl : liveA C.lb C.st x = true) (h : lenA C.E t x C.st = some v) (ty : TypeId) :
    ∃ u, (Builtin.len_ #[t] ty #[c]).run C.E.P C.w = .ok u C.w ∧ Rep C v u := by
  unfold lenA at h
  split at h
  · rename_i s hd
    have := repT_sc (C := C) hr
    subst this
    simp at h; subst h
    exact ⟨_, by simp [Builtin.len_, run_underlying hd, goInt], .fz (.sc rfl)⟩
  · rename_i e hd
    have := repT_sc (C := C) hr
    subst this
    simp at h; subst h
    exact ⟨_, by simp [Builtin.len_, run_underlying hd, goInt], .fz (.sc rfl)⟩
  · rename_i e cells n hd
    obtain ⟨a, cap, rfl, _⟩ := fs_form (rep_fs (C := C) hr)
    simp at h; subst h
    exact ⟨_, by simp [Builtin.len_, run_underlying hd, goInt], .fz (.sc rfl)⟩
  · rename_i e o off n L hd
    obtain ⟨_, _, _, cap, _, _, _, _, _, rfl, _⟩ := live_sl hr hl
    simp at h; subst h
    exact ⟨_, by simp [Builtin.len_, run_underlying hd, goInt], .fz (.sc rfl)⟩
  · rename_i e hd
    obtain ⟨a, rfl⟩ := rep_e0 (C := C) hr
    simp at h; subst h
    exact ⟨_, by simp [Builtin.len_, run_underlying hd, goInt], .fz (.sc rfl)⟩
  · rename_i k e hd
    have := repT_sc (C := C) hr
    subst this
    simp at h; subst h
    exact ⟨_, by simp [Builtin.len_, run_underlying hd, goInt], .fz (.sc rfl)⟩
  · rename_i k e o hd
    split at h
    · rename_i es ho
      obtain ⟨ents, clock, hb, hle, hrep⟩ := hm.map o es ho
      have hmp : c = .map (some (C.io o)) := by
        have hx' : Rep C (.mp o) c := hr
        cases hx' with
        | fz h => cases h
        | mp => rfl
      subst hmp
      simp at h; subst h
      exact ⟨.int .i64 ents.size, by simp [Builtin.len_, run_underlying hd, goInt, getObj, Sem.run, hb], by rw [hle]; exact .fz (.sc rfl)⟩
    · cases h
  · cases h

theorem maxA_sound {mx : Bool} {vs : List AV} {v : AV} {cs : List Value} (hl : vs.length = cs.length) (hr : ∀ (j : Nat) (x : AV) (c : Value), vs[j]? = some x → cs[j]? = some c → RepT C x c) (h : maxA mx vs = some v)
    (ats : Array TypeId) (ty : TypeId) (w : World) : ∃ u, (if mx then Builtin.max_ ats ty cs.toArray else Builtin.min_ ats ty cs.toArray : Sem Value).run C.E.P w = .ok u w ∧ Rep C v u := by
  unfold maxA at h
  split at h
  · rename_i k a k' b
    split at h
    · rename_i hk
      subst hk
      simp at h
      obtain ⟨c1, c2, rfl⟩ : ∃ c1 c2, cs = [c1, c2] := by
        match cs, hl with
        | [c1, c2], _ => exact ⟨c1, c2, rfl⟩
      have e1 := repT_sc (C := C) (hr 0 _ c1 rfl rfl)
      have e2 := repT_sc (C := C) (hr 1 _ c2 rfl rfl)
      subst e1 e2 h
      cases mx
      · refine ⟨.int k (if b < a then b else a), ?_, .fz (.sc rfl)⟩
        simp [Builtin.min_, Builtin.min2]
      · refine ⟨.int k (if b > a then b else a), ?_, .fz (.sc rfl)⟩
        simp [Builtin.max_, Builtin.max2]
    · cases h
  · cases h

end
end Go.Proofs.YtcfaajaccbadbaaDoor.Ahm
