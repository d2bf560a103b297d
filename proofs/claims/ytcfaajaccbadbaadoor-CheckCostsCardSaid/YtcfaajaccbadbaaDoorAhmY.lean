/- A function's body against the model's calls. -/
import Derived.Test.YtcfaajaccbadbaaDoorAhmX
set_option linter.unusedSimpArgs false
set_option linter.unusedVariables false
namespace Go.Proofs.YtcfaajaccbadbaaDoor.Ahm
open Go

def readResult (a : Act) : ResultVar → Sem Value
  | .tmp t => pure (a.tmps.getD t undef)
  | .cell b t => do loadVar t (← asAddr (a.tmps.getD b undef))

theorem results_eq (fn : Func) (a : Act) : results fn a.tmps = (do
    let vs ← fn.results.mapM (readResult a)
    pure (if h : vs.size = 1 then vs[0] else .tuple vs)) := by
  unfold results
  rfl

theorem loadA_ptr {C : Ctx} (hm : Mem C) {p v : AV} {t : TypeId} {c : Value} (hr : RepT C p c) (h : loadA C.E C.lb C.st t p = some v) : ∃ b, c = .pointer (some b) := by
  unfold loadA at h
  cases ha : isAggT C.E t with
  | none => simp [ha] at h
  | some b =>
    cases hs : sizeT C.E t with
    | none => cases b <;> simp [ha, hs] at h
    | some n =>
      cases b with
      | true =>
        simp only [ha, hs] at h
        cases hd : rdCells C.E C.lb C.st p n with
        | none => simp [hd] at h
        | some l => obtain ⟨hn, b, off, us, rfl, hl⟩ := rdCells_sound hm hr hd; exact ⟨_, rfl⟩
      | false =>
        simp only [ha, hs] at h
        cases hd : rdCells C.E C.lb C.st p 1 with
        | none => simp [hd] at h
        | some l => obtain ⟨hn, b, off, us, rfl, hl⟩ := rdCells_sound hm hr hd; exact ⟨_, rfl⟩

/-- The results, read. -/
theorem resultA_sound {C : Ctx} (hm : Mem C) {N : Nat} {a : Act} {m : Tm} (ht : TmOk C m N a) : ∀ {rs : List ResultVar} {vs : List AV}, resultA C.E C.lb C.st m rs = some vs →
    ∃ us : List Value, (rs.mapM (readResult a)).run C.E.P C.w = .ok us C.w ∧ us.length = vs.length ∧
      ∀ (j : Nat) (v : AV) (u : Value), vs[j]? = some v → us[j]? = some u → Rep C v u
  | [], vs, h => by
    simp [resultA] at h; subst h
    exact ⟨[], by simp [Sem.run_pure], rfl, fun j v u h => by simp at h⟩
  | .tmp t :: r, vs, h => by
    simp only [resultA] at h
    split at h
    · rename_i v vs1 hv hvs
      cases hl : v.isLp
      · simp [hl] at h; subst h
        obtain ⟨us, h1, h2, h3⟩ := resultA_sound hm ht hvs
        obtain ⟨c, c1, c2⟩ := ht.get t v hv
        refine ⟨c :: us, ?_, by simp [h2], fun j x u hx hu => ?_⟩
        · rw [List.mapM_cons]
          simp only [readResult, Sem.run_bind, Sem.run_pure, Result.andThen_ok, h1]
          simp [Array.getD_eq_getD_getElem?, c1]
        · cases j with
          | zero => simp at hx hu; subst hx hu; exact rep_of c2 hl
          | succ j => exact h3 j x u (by simpa using hx) (by simpa using hu)
      · simp [hl] at h
    · cases h
  | .cell b t :: r, vs, h => by
    simp only [resultA] at h
    split at h
    · rename_i v vs1 hv hvs
      cases hl : v.isLp
      · simp [hl] at h; subst h
        obtain ⟨us, h1, h2, h3⟩ := resultA_sound hm ht hvs
        cases hb : tmGet m b with
        | none => simp [hb] at hv
        | some p =>
          simp [hb] at hv
          obtain ⟨c, c1, c2⟩ := ht.get b p hb
          obtain ⟨u0, u1, u2⟩ := loadA_sound hm c2 hv
          refine ⟨u0 :: us, ?_, by simp [h2], fun j x u hx hu => ?_⟩
          · rw [List.mapM_cons]
            have e : a.tmps.getD b undef = c := by simp [Array.getD_eq_getD_getElem?, c1]
            obtain ⟨ad, rfl⟩ := loadA_ptr hm c2 hv
            have u1' : (readResult a (.cell b t)).run C.E.P C.w = .ok u0 C.w := by
              simp only [readResult, e, asAddr]
              simpa [Instr.loadAt, Instr.sureAddr] using u1
            simp only [Sem.run_bind, u1', Result.andThen_ok, h1, Sem.run_pure]
          · cases j with
            | zero => simp at hx hu; subst hx hu; exact u2
            | succ j => exact h3 j x u (by simpa using hx) (by simpa using hu)
      · simp [hl] at h
    · cases h

theorem number_get : ∀ (args : List AV) (i t : Nat), tmGet (number i args) t = if i ≤ t then args[t - i]? else none
  | [], i, t => by simp [number, tmGet]
  | v :: r, i, t => by
    simp only [number, tmGet, number_get r (i + 1) t]
    cases hb : Nat.beq i t
    · have hne : i ≠ t := fun e => by subst e; simp at hb
      simp only [cond_false]
      by_cases h : i + 1 ≤ t
      · rw [if_pos h, if_pos (by omega), show t - i = (t - (i + 1)) + 1 by omega]; simp
      · rw [if_neg h, if_neg (by omega)]
    · have := Nat.eq_of_beq_eq_true hb
      subst this
      simp

/-- where a call's body stands: the caller's local variables are others' -/
def Ctx.inner (C : Ctx) : Ctx := { C with lb := [], W0 := fun b => C.W0 b ∨ ∃ s g cs, lbGet C.lb s = some (g, cs) ∧ C.il s = some b }

section
variable {C : Ctx}

theorem inner_wr {b : Nat} (h : C.inner.Wr b) : C.Wr b := by
  rcases h with (h | h | ⟨s, g, cs, h, _⟩) | (h | h)
  · exact .inl (.inl h)
  · exact .inl (.inr (.inl h))
  · simp [Ctx.inner, lbGet] at h
  · exact .inr h
  · exact .inl (.inr (.inr h))

theorem rep_inner {v : AV} {c : Value} (h : Rep C v c) : Rep C.inner v c := rep_iff (C := C) (C' := C.inner) rfl rfl rfl rfl rfl (fun b hb => inner_wr hb) h

theorem mem_inner (hm : Mem C) : Mem C.inner where
  arr := fun o cells e wr ho => by
    obtain ⟨cur, fz, vs, h1, h2, h3, h4, h5⟩ := hm.arr o cells e wr ho
    exact ⟨cur, fz, vs, h1, h2, h3, h4, fun j c hj => rep_inner (h5 j c hj)⟩
  map := fun o es ho => by
    obtain ⟨ents, clock, h1, h2, h3⟩ := hm.map o es ho
    exact ⟨ents, clock, h1, h2, fun j k v hj => by obtain ⟨me, m1, m2, m3⟩ := h3 j k v hj; exact ⟨me, m1, m2, rep_inner m3⟩⟩
  loc := fun s g cs b h => by simp [Ctx.inner, lbGet] at h
  inj := hm.inj
  injl := fun s s' b g cs g' cs' h => by simp [Ctx.inner, lbGet] at h
  sep := fun o s b g cs _ h => by simp [Ctx.inner, lbGet] at h
  w0 := fun o ho h => by
    rcases h with h | ⟨s, g, cs, h1, h2⟩
    · exact hm.w0 o ho h
    · exact hm.sep o s _ g cs ho h1 h2 rfl
  w0l := fun s b g cs h => by simp [Ctx.inner, lbGet] at h
  w0s := fun b h => by
    rcases h with h | ⟨s, g, cs, h1, h2⟩
    · exact hm.w0s b h
    · exact mem_il_lt hm h1 h2
  glob := hm.glob.step (F := C.F) (F' := C.inner.F) rfl fun b _ hn => ⟨rfl, fun h => hn (inner_wr h)⟩

/-- back in the caller -/
def Ctx.outer (C' C : Ctx) : Ctx := { C' with lb := C.lb, il := C.il, W0 := C.W0 }

theorem outer_wr {C' : Ctx} (h0 : C'.W0 = C.inner.W0) {b : Nat} (h : (C'.outer C).Wr b) : C'.Wr b := by
  rcases h with (h | h | ⟨s, g, cs, h1, h2⟩) | h
  · exact .inl (.inl h)
  · exact .inl (.inr (.inl h))
  · exact .inr (by rw [h0]; exact .inr ⟨s, g, cs, h1, h2⟩)
  · exact .inr (by rw [h0]; exact .inl h)

theorem rep_outer {C' : Ctx} (h0 : C'.W0 = C.inner.W0) {v : AV} {c : Value} (h : Rep C' v c) : Rep (C'.outer C) v c := rep_iff (C := C') (C' := C'.outer C) rfl rfl rfl rfl rfl (fun b hb => outer_wr h0 hb) h

theorem out_outer (hm : Mem C) {C' : Ctx} (hm' : Mem C') (hext : Ext C.inner C') : Out C C'.w C.lb C'.st (C'.outer C) := by
  have h0 : C'.W0 = C.inner.W0 := hext.w0
  have hin : ∀ b, C.inner.OW b → C.OW b := fun b h => by
    rcases h with h | h | ⟨s, g, cs, h, _⟩
    · exact .inl h
    · exact .inr (.inl h)
    · simp [Ctx.inner, lbGet] at h
  have hloc : ∀ s g cs b, lbGet C.lb s = some (g, cs) → C.il s = some b → b < C.w.heap.size ∧ ¬ C.inner.OW b := fun s g cs b h1 h2 => by
    refine ⟨mem_il_lt hm h1 h2, fun h => ?_⟩
    rcases h with ⟨o, cells, e, ho, hb⟩ | ⟨o, es, ho, hb⟩ | ⟨s, g, cs, h, _⟩
    · exact hm.sep o s b g cs (lt_of_some ho) h1 h2 hb
    · exact hm.sep o s b g cs (lt_of_some ho) h1 h2 hb
    · simp [Ctx.inner, lbGet] at h
  refine ⟨rfl, rfl, rfl, { arr := ?_, map := ?_, loc := ?_, inj := hm'.inj, injl := hm.injl, sep := ?_, w0 := ?_, w0l := hm.w0l, w0s := ?_, glob := ?_ },
    { os := hext.os, tape := hext.tape, output := hext.output, size := hext.size, keep := fun b hb hn => hext.keep b hb fun h => hn (hin b h), form := hext.form, ow := ?_, w0 := rfl, ga := hext.ga, env := hext.env, arr := hext.arr, map := hext.map },
    fun s g cs h => ⟨g, cs, h, Nat.le_refl _, fun _ => rfl⟩⟩
  · intro o cells e wr ho
    obtain ⟨cur, fz, vs, h1, h2, h3, h4, h5⟩ := hm'.arr o cells e wr ho
    exact ⟨cur, fz, vs, h1, h2, h3, h4, fun j c hj => rep_outer h0 (h5 j c hj)⟩
  · intro o es ho
    obtain ⟨ents, clock, h1, h2, h3⟩ := hm'.map o es ho
    exact ⟨ents, clock, h1, h2, fun j k v hj => by obtain ⟨me, m1, m2, m3⟩ := h3 j k v hj; exact ⟨me, m1, m2, rep_outer h0 m3⟩⟩
  · intro s g cs b h1 h2
    obtain ⟨cur, t, fz, vs, k1, k2, k3, k4, k5⟩ := hm.loc s g cs b h1 h2
    obtain ⟨l1, l2⟩ := hloc s g cs b h1 h2
    refine ⟨cur, t, fz, vs, ?_, k2, k3, k4, fun j c hj => rep_outer h0 (hext.rep (rep_inner (k5 j c hj)))⟩
    exact (hext.keep b l1 l2).trans k1
  · intro o s b g cs ho h1 h2 hb
    have := hm'.w0 o ho
    rw [h0] at this
    exact this (.inr ⟨s, g, cs, h1, by rw [show C'.io o = b from hb]; exact h2⟩)
  · intro o ho h
    have := hm'.w0 o ho
    rw [h0] at this
    exact this (.inl h)
  · intro b h
    exact hm'.w0s b (by rw [h0]; exact .inl h)
  · exact hm'.glob.step (F := C'.F) (F' := (C'.outer C).F) rfl fun b _ hn => ⟨rfl, fun h => hn (outer_wr h0 h)⟩
  · intro b h
    have lift : C'.OW b → C.OW b ∨ C.w.heap.size ≤ b := fun h => (hext.ow b h).imp (hin b) id
    rcases h with h | h | ⟨s, g, cs, h1, h2⟩
    · exact lift (.inl h)
    · exact lift (.inr (.inl h))
    · exact .inl (.inr (.inr ⟨s, g, cs, h1, h2⟩))

end

theorem packed {C : Ctx} {vs : List AV} {us : List Value} (hl : us.length = vs.length) (hr : ∀ (j : Nat) (v : AV) (u : Value), vs[j]? = some v → us[j]? = some u → Rep C v u) :
    Rep C (packA vs) (if h : us.toArray.size = 1 then us.toArray[0] else .tuple us.toArray) := by
  have tupled : us.length ≠ 1 → Rep C (.tup vs) (if h : us.toArray.size = 1 then us.toArray[0] else .tuple us.toArray) := fun hne => by
    rw [dif_neg (by simpa using hne)]
    exact .tup (by simpa using hl) fun j v u hv hu => hr j v u hv (by simpa using hu)
  match vs, us, hl, hr, tupled with
  | [], [], _, _, t => exact t (by simp)
  | [v], [u], _, hr, _ => simpa [packA] using hr 0 v u rfl rfl
  | v :: v2 :: r, u :: u2 :: r', _, _, t => exact t (by simp)

theorem body_sound {E : Env} {callf : CallF} {k : Nat} (hmix : E.P.follows .mixedOrders = true) (hc : CallOk E callf) : CallOk E (body E callf k) := by
  intro g args st r st' h C hE hst hm cargs hargs
  unfold body at h
  split at h
  · rename_i fn hf
    split at h
    · rename_i c hb
      cases hg : (fn.name == "runtime.NumGoroutine" || args.any AV.isLp || !Nat.ble args.length fn.ntmps)
      · simp only [hg, cond_false] at h
        simp only [Bool.or_eq_false_iff, Bool.not_eq_false'] at hg
        have hble : args.length ≤ fn.ntmps := Nat.le_of_ble_eq_true hg.2
        refine ⟨⟨fn, c, hf, hb, hg.1.1⟩, calls_of_wp hf hb ?_⟩
        have ht : TmOk C.inner (number 0 args) fn.ntmps { tmps := cargs ++ Array.replicate (fn.ntmps - cargs.size) undef, defers := [] } := by
          refine ⟨rfl, by simp [hargs.1]; omega, fun t v hv => ?_⟩
          rw [number_get] at hv
          simp at hv
          have hlt : t < args.length := (List.getElem?_eq_some_iff.1 hv).1
          have hlt' : t < cargs.size := by rw [hargs.1]; exact hlt
          exact ⟨cargs[t], by rw [Array.getElem?_append_left hlt']; simp [hlt'], repT_of (rep_inner (hargs.2 t v _ hv (by simp [hlt'])))⟩
        have done : ∀ (s : St) (x : AX), x = .norm ∨ x = .ret → ev E callf g fn.ntmps k c { tm := number 0 args, lb := [], st } = some (x, s) → ∀ vs, resultA E s.lb s.st s.tm fn.results.toList = some vs → some (packA vs, s.st) = some (r, st') →
            c.wp E.P (bodyPost E.P fn fun e w' => ∃ c C', e = .returned c ∧ Out C w' C.lb st' C' ∧ C'.il = C.il ∧ Rep C' r c) { tmps := cargs ++ Array.replicate (fn.ntmps - cargs.size) undef, defers := [] } C.w := by
          intro s x hx hev vs hvs hfin
          simp at hfin
          obtain ⟨rfl, rfl⟩ := hfin
          refine (ev_wp hmix hc k c { tm := number 0 args, lb := [], st } s x C.inner _ hE rfl hst (mem_inner hm) ht hev _ fun C' a' F => ?_).1
          have hpost : a'.defers = [] ∧ ∃ v, (results fn a'.tmps).run E.P C'.w = .ok v C'.w ∧ ∃ c C2, (Ending.returned v) = .returned c ∧ Out C C'.w C.lb s.st C2 ∧ C2.il = C.il ∧ Rep C2 (packA vs) c := by
            refine ⟨F.tm.defers, ?_⟩
            have hE' : C'.E = E := F.ext.env.trans hE
            rw [← hE', ← F.lb, ← F.st] at hvs
            obtain ⟨us, u1, u2, u3⟩ := resultA_sound F.mem F.tm hvs
            refine ⟨_, ?_, _, C'.outer C, rfl, by rw [← F.st]; exact out_outer hm F.mem F.ext, rfl, rep_outer F.ext.w0 (packed u2 u3)⟩
            rw [results_eq, ← hE', Array.mapM_eq_mapM_toList]
            simp only [Sem.run_bind, Sem.run_map, u1, Result.andThen_ok, Sem.run_pure]
          rcases hx with rfl | rfl <;> exact hpost
        split at h
        · rename_i s hev
          split at h
          · rename_i vs hvs; exact done s _ (.inl rfl) hev vs hvs h
          · cases h
        · rename_i s hev
          split at h
          · rename_i vs hvs; exact done s _ (.inr rfl) hev vs hvs h
          · cases h
        · cases h
      · simp [hg] at h
    · cases h
  · cases h

end Go.Proofs.YtcfaajaccbadbaaDoor.Ahm
