/- One operation, and operations one behind the other, against the model's. -/
import Derived.Test.YtcfaajaccbadbaaDoorAhmP
import Derived.Below
set_option linter.unusedSimpArgs false
set_option linter.unusedVariables false
namespace Go.Proofs.YtcfaajaccbadbaaDoor.Ahm
open Go

/-! ### contexts that say the same -/
theorem frep_iff {F F' : FC} (hw : F'.w = F.w) (hg : F'.ga = F.ga) (hW : ∀ b, F'.Wr b → F.Wr b) {v : AV} {c : Value} (h : FRep F v c) : FRep F' v c :=
  h.mono hg fun b _ hn => ⟨by rw [hw], fun hh => hn (hW b hh)⟩

theorem rep_iff {C C' : Ctx} (hw : C'.w = C.w) (hg : C'.ga = C.ga) (hE : C'.E = C.E) (hio : C'.io = C.io) (hst : C'.st = C.st) (hW : ∀ b, C'.Wr b → C.Wr b) {v : AV} {c : Value} (h : Rep C v c) : Rep C' v c := by
  induction h with
  | fz h => exact .fz (frep_iff (F := C.F) (F' := C'.F) hw hg hW h)
  | sl ho hL hs hb hn h1 h2 =>
    rw [← hio]
    exact .sl (by rw [hst]; exact ho) hL (by rw [hE]; exact hs) (by rw [hw, hio]; exact hb) hn h1 h2
  | slOld ho hL hv => exact .slOld (by rw [hst]; exact ho) hL hv
  | rf ho hL => rw [← hio]; exact .rf (by rw [hst]; exact ho) hL
  | rfOld ho hL hv => exact .rfOld (by rw [hst]; exact ho) hL hv
  | ifc _ ih => exact .ifc ih
  | agg hl _ ih => exact .agg hl ih
  | tup hl _ ih => exact .tup hl ih
  | fn ha hb _ _ iha ihb => exact .fn ha hb iha ihb
  | mp ho => rw [← hio]; exact .mp (by rw [hst]; exact ho)

/-! ### what calls do -/
def Callable (P : Program) (g : FuncId) : Prop := ∃ fn c, P.funcs[g]? = some fn ∧ fn.body = some c ∧ (fn.name == "runtime.NumGoroutine") = false

def Args (C : Ctx) (args : List AV) (cargs : Array Value) : Prop := cargs.size = args.length ∧ ∀ (j : Nat) (x : AV) (c : Value), args[j]? = some x → cargs[j]? = some c → Rep C x c

def CallOk (E : Env) (callf : CallF) : Prop := ∀ (g : FuncId) (args : List AV) (st : List AObj) (r : AV) (st' : List AObj), callf g args st = some (r, st') → ∀ C : Ctx, C.E = E → C.st = st → Mem C → ∀ cargs : Array Value, Args C args cargs →
  Callable E.P g ∧ Calls E.P g cargs C.w fun e w' => ∃ c C', e = .returned c ∧ Out C w' C.lb st' C' ∧ C'.il = C.il ∧ Rep C' r c

theorem run_callFunc {P : Program} {g : FuncId} (h : Callable P g) (args : Array Value) (w : World) : (callFunc g args).run P w = .ok (.enter g args) w := by
  obtain ⟨fn, c, h1, h2, h3⟩ := h
  simp only [callFunc, Sem.run_bind, run_program, Result.andThen_ok, h1, h3, h2]
  rfl

section
variable {C : Ctx} {callf : CallF}

theorem args_append {xs ys : List AV} {us ws : Array Value} (h1 : Args C xs us) (h2 : Args C ys ws) : Args C (xs ++ ys) (us ++ ws) := by
  refine ⟨by simp [h1.1, h2.1], fun j x c hx hc => ?_⟩
  by_cases hj : j < xs.length
  · rw [List.getElem?_append_left hj] at hx
    rw [Array.getElem?_append_left (by rw [h1.1]; exact hj)] at hc
    exact h1.2 j x c hx hc
  · rw [List.getElem?_append_right (by omega)] at hx
    rw [Array.getElem?_append_right (by rw [h1.1]; omega), h1.1] at hc
    exact h2.2 _ x c hx hc

theorem runOp_wp (hc : CallOk C.E callf) (hm : Mem C) {m : Tm} {N : Nat} {a : Act} (ht : TmOk C m N a) {f : FuncId} {o : Oper} {v : AV} {lb' : Lb} {st' : List AObj} {eff : Bool} (h : runOp C.E callf f m C.lb C.st o = some (v, lb', st', eff))
    {K : Act → World → Prop} {Q : Exit → Act → World → Prop} (hK : ∀ (u : Value) (C' : Ctx), Out C C'.w lb' st' C' → RepT C' v u → K (a.put o.dst u) C'.w) : o.wp C.E.P a C.w K Q := by
  unfold runOp at h
  cases hq : quiet C.E m C.lb C.st o with
  | some w =>
    simp only [hq, Option.some.injEq, Prod.mk.injEq] at h
    obtain ⟨rfl, rfl, rfl, _⟩ := h
    obtain ⟨u, r1, r2⟩ := quiet_sound hm ht hq
    unfold Oper.wp
    rw [r1]
    exact hK u C ⟨rfl, rfl, rfl, hm, Ext.refl C, LExt.refl C⟩ r2
  | none =>
    simp only [hq] at h
    cases he : effect C.E f m C.lb C.st o with
    | some r =>
      obtain ⟨w, l2, s2⟩ := r
      simp only [he, Option.some.injEq, Prod.mk.injEq] at h
      obtain ⟨rfl, rfl, rfl, _⟩ := h
      obtain ⟨u, C', r1, r2, r3⟩ := effect_sound hm ht he
      unfold Oper.wp
      rcases r1 with r1 | ⟨r1, rfl⟩
      · rw [r1]; exact hK u C' r2 r3
      · rw [r1]; exact hK undef C' r2 r3
    | none =>
      simp only [he] at h
      cases hca : callA callf m C.st o with
      | none => simp [hca] at h
      | some r =>
        obtain ⟨w, s2⟩ := r
        simp only [hca] at h
        cases hlp : w.isLp
        · simp only [hlp, cond_false, Option.some.injEq, Prod.mk.injEq] at h
          obtain ⟨rfl, rfl, rfl, _⟩ := h
          unfold callA at hca
          split at hca
          · rename_i x args ats hop
            split at hca
            · rename_i g first cap as hx has
              obtain ⟨va, vb, e1, e2, e3, e4, e5⟩ := rep_fn (C := C) (opv_sound ht hx)
              obtain ⟨f1, f2⟩ := opvs_sound ht has
              cases hlps : as.any AV.isLp
              · simp only [hlps, cond_false] at hca
                have hargs : Args C as (args.map a.eval) := ⟨by simp [f1], fun j y c hy hc => by
                  rw [Array.getElem?_map] at hc
                  cases hj : args[j]? with
                  | none => simp [hj] at hc
                  | some z =>
                    simp [hj] at hc
                    subst hc
                    have hnl : y.isLp = false := by
                      have := List.any_eq_false.1 hlps y (List.mem_of_getElem? hy)
                      simpa using this
                    exact rep_of (f2 j y z hy (by simpa using hj)) hnl⟩
                obtain ⟨hcb, hcalls⟩ := hc g _ C.st _ _ hca C rfl rfl hm (va ++ args.map a.eval ++ vb) (args_append (args_append ⟨e2, e4⟩ hargs) ⟨e3, e5⟩)
                have hrun : (execOp a.eval o).run C.E.P C.w = .ok (.enter g (va ++ args.map a.eval ++ vb)) C.w := by
                  unfold execOp
                  simp only [hop, Sem.run_bind, resolve, e1, Deferred.ofValue, Sem.run_pure, Result.andThen_ok, invoke, run_callFunc hcb]
                unfold Oper.wp
                rw [hrun]
                refine hcalls.mono fun e w' he => ?_
                obtain ⟨c, C', rfl, o1, o2, o3⟩ := he
                have := hK c C' (out_of o1) (repT_of o3)
                rw [o1.w] at this
                exact this
              · simp [hlps] at hca
            · cases hca
          · cases hca
        · simp [hlp] at h

theorem tmGet_set (m : Tm) (t : Nat) (v : AV) (s : Nat) : tmGet (tmSet m t v) s = if s = t then some v else tmGet m s := by
  have hdel : ∀ (m : Tm), s ≠ t → tmGet (tmDel m t) s = tmGet m s := by
    intro m hne
    induction m with
    | nil => rfl
    | cons x r ih =>
      obtain ⟨s', v'⟩ := x
      simp only [tmDel]
      cases h1 : Nat.beq s' t
      · simp only [cond_false, tmGet]
        cases h2 : Nat.beq s' s
        · simp [ih]
        · simp
      · have := Nat.eq_of_beq_eq_true h1
        subst this
        simp only [cond_true, ih, tmGet]
        have : Nat.beq s' s = false := by
          cases h2 : Nat.beq s' s
          · rfl
          · exact absurd (Nat.eq_of_beq_eq_true h2).symm hne
        simp [this]
  unfold tmSet
  simp only [tmGet]
  by_cases h : s = t
  · subst h; simp
  · have : Nat.beq t s = false := by
      cases h2 : Nat.beq t s
      · rfl
      · exact absurd (Nat.eq_of_beq_eq_true h2).symm h
    simp [this, h, hdel m h]

theorem TmOk.put {m m' : Tm} {N : Nat} {a : Act} (ht : TmOk C m N a) {dst : Option Tmp} {v : AV} {u : Value} (h : putA N m dst v = some m') {C' : Ctx} (hext : Ext C C') (hlext : LExtW C C') (hv : RepT C' v u) : TmOk C' m' N (a.put dst u) := by
  unfold putA at h
  cases dst with
  | none => simp at h; subst h; exact ⟨ht.defers, ht.size, fun t w hw => by obtain ⟨c, h1, h2⟩ := ht.get t w hw; exact ⟨c, h1, hext.repTW hlext h2⟩⟩
  | some d =>
    simp only at h
    cases hb : Nat.blt d N
    · simp [hb] at h
    · simp [hb] at h
      subst h
      have hd : d < N := Nat.le_of_ble_eq_true hb
      refine ⟨ht.defers, by simp [Act.put, ht.size], fun t w hw => ?_⟩
      rw [tmGet_set] at hw
      by_cases e : t = d
      · subst e
        simp at hw; subst hw
        exact ⟨u, by simp [Act.put, Array.getElem?_setIfInBounds, ht.size, hd], hv⟩
      · simp [e] at hw
        obtain ⟨c, h1, h2⟩ := ht.get t w hw
        exact ⟨c, by simp [Act.put, Array.getElem?_setIfInBounds, Ne.symm e, h1], hext.repTW hlext h2⟩

theorem wantedA_sound {m : Tm} {N : Nat} {a : Act} (ht : TmOk C m N a) {ops : Array Oper} {o : Oper} {b : Bool} (h : wantedA ops.toList m o = some b) : Region.wanted o (yielded ops a.tmps) = b := by
  unfold wantedA at h
  unfold Region.wanted
  cases hg : o.guard with
  | none => simp [hg] at h; simp [h]
  | some jw =>
    obtain ⟨j, want⟩ := jw
    simp only [hg] at h
    cases hy : yieldA ops.toList m j with
    | none => simp [hy] at h
    | some r =>
      simp [hy] at h
      have : yielded ops a.tmps j = r := by
        unfold yieldA at hy
        unfold yielded
        have hj : ops.toList[j]? = ops[j]? := by simp
        rw [hj] at hy
        cases hoj : ops[j]? with
        | none => simp [hoj] at hy; subst hy; simp
        | some oj =>
          obtain ⟨dst, op, type, pos, after, guard⟩ := oj
          cases dst with
          | none => simp [hoj] at hy; subst hy; simp
          | some d =>
            simp only [hoj] at hy
            split at hy
            · rename_i b' hb'
              simp at hy; subst hy
              obtain ⟨c, h1, h2⟩ := ht.get d _ hb'
              have := repT_sc h2
              subst this
              simp [h1]
            · rename_i hb'
              simp at hy; subst hy
              obtain ⟨c, h1, h2⟩ := ht.get d _ hb'
              have := repT_sc h2
              subst this
              simp [h1]
            · cases hy
      show (yielded ops a.tmps j == some want) = b
      rw [this]
      exact h

end

theorem evOps_wp {callf : CallF} {f N : Nat} {ops : Array Oper} {Q : Exit → Act → World → Prop} : ∀ (r : List Oper) (s s' : St) (C : Ctx) (a : Act), CallOk C.E callf → C.lb = s.lb → C.st = s.st → Mem C → TmOk C s.tm N a → evOps C.E callf f N ops.toList r s = some s' →
    (∀ (C' : Ctx) (a' : Act), Out C C'.w s'.lb s'.st C' → TmOk C' s'.tm N a' → Q .normal a' C'.w) → wpList C.E.P ops Q r a C.w
  | [], s, s', C, a, hc, hlb, hst, hm, ht, h, hQ => by
    simp [evOps] at h
    subst h
    exact wpList_nil (hQ C a ⟨rfl, hlb, hst, hm, Ext.refl C, LExt.refl C⟩ ht)
  | o :: r, s, s', C, a, hc, hlb, hst, hm, ht, h, hQ => by
    simp only [evOps] at h
    cases hw : wantedA ops.toList s.tm o with
    | none => simp [hw] at h
    | some b =>
      have hwa := wantedA_sound ht hw
      refine wpList_step fun K hK => ?_
      cases b with
      | false =>
        simp only [hw] at h
        rw [if_neg (by rw [hwa]; simp)]
        cases hp : putA N s.tm o.dst (.sc undef) with
        | none => simp [hp] at h
        | some m =>
          simp only [hp] at h
          refine hK _ _ (evOps_wp r { s with tm := m } s' C _ hc hlb hst hm (ht.put hp (Ext.refl C) (LExt.refl C).weak (Rep.fz (.sc rfl))) h hQ)
      | true =>
        simp only [hw] at h
        rw [if_pos hwa]
        cases hro : runOp C.E callf f s.tm s.lb s.st o with
        | none => simp [hro] at h
        | some x =>
          obtain ⟨v, lb, st, e⟩ := x
          simp only [hro] at h
          cases hp : putA N s.tm o.dst v with
          | none => simp [hp] at h
          | some m =>
            simp only [hp] at h
            rw [← hlb, ← hst] at hro
            refine runOp_wp hc hm ht hro fun u C' o1 o2 => hK _ _ ?_
            have hE := o1.ext.env
            rw [← hE] at h ⊢
            refine evOps_wp r { tm := m, lb, st } s' C' _ (by rw [hE]; exact hc) o1.lb o1.st o1.mem (ht.put hp o1.ext o1.lext.weak o2) h fun C2 a2 p1 p2 => hQ C2 a2 ⟨rfl, p1.lb, p1.st, p1.mem, o1.ext.trans p1.ext, o1.lext.trans p1.lext⟩ p2

end Go.Proofs.YtcfaajaccbadbaaDoor.Ahm
