/- Code with all types looked up ahead; what holds behind it. -/
import Derived.Test.YtcfaajaccbadbaaDoorAhmLc
set_option linter.unusedSimpArgs false
set_option linter.unusedVariables false
namespace Go.Proofs.YtcfaajaccbadbaaDoor.Ahm
open Go

section
variable {E : Env}

theorem xw_ok {ops : List Oper} {m : Tm} {o : Oper} {w : Bool} (h : xw m (cg ops o.guard) = some w) : wantedA ops m o = some w := by
  unfold wantedA
  cases hg : o.guard with
  | none => simp only [hg, cg, xw] at h; exact h
  | some p =>
    obtain ⟨j, want⟩ := p
    simp only [hg, cg] at h
    simp only [yieldA]
    split at h
    · rename_i d _ _ _ _ _ ho
      simp only [ho]
      simp only [xw] at h
      split at h
      · rename_i b hb
        simp only [Option.some.injEq] at h; subst h
        simp only [hb]
        cases want <;> cases b <;> rfl
      · rename_i hb
        simp only [Option.some.injEq] at h; subst h
        simp only [hb]
        cases want <;> rfl
      · cases h
    · rename_i hn
      simp only [xw, Option.some.injEq] at h; subst h
      cases hj : ops[j]? with
      | none => cases want <;> rfl
      | some o2 =>
        obtain ⟨d, op, ty, pos, aft, gd⟩ := o2
        cases d with
        | none => cases want <;> rfl
        | some d => exact (hn _ _ _ _ _ _ hj).elim

theorem xput_ok {N : Nat} {m : Tm} {d : Option Tmp} (h : (match d with | some d => Nat.blt d N | none => true) = true) (v : AV) : putA N m d v = some (xput m d v) := by
  cases d with
  | none => rfl
  | some d => simp only at h; simp only [putA, xput, h, cond_true]

theorem coper_ok {f N : Nat} {ops : List Oper} {o : Oper} {x : XOper} (h : coper E f N ops o = some x) :
    (match o.dst with | some d => Nat.blt d N | none => true) = true ∧ x.dst = o.dst ∧ x.g = cg ops o.guard ∧ cop E f o.dst o.op = some x.op := by
  unfold coper at h
  split at h
  · rename_i y h1 h2
    simp only [Option.some.injEq] at h; subst h
    exact ⟨h1, rfl, rfl, h2⟩
  · cases h

theorem cops_cons {f N : Nat} {ops : List Oper} {o : Oper} {r : List Oper} {xs : List XOper} (h : cops E f N ops (o :: r) = some xs) : ∃ x l, xs = x :: l ∧ coper E f N ops o = some x ∧ cops E f N ops r = some l := by
  simp only [cops] at h
  split at h
  · rename_i x l h1 h2
    simp only [Option.some.injEq] at h
    exact ⟨x, l, h.symm, h1, h2⟩
  · cases h

/-! two lists of temporaries that say the same -/
def Same (m m' : Tm) : Prop := ∀ t, tmGet m t = tmGet m' t
theorem Same.refl (m : Tm) : Same m m := fun _ => rfl
section
variable {m m' : Tm} {lb : Lb} {st : List AObj}
theorem xv_same (h : Same m m') (x : XV) : xv m x = xv m' x := by
  cases x with
  | t n => exact h n
  | k v => rfl
theorem xvs_same (h : Same m m') : ∀ (l : List XV), xvs m l = xvs m' l
  | [] => rfl
  | x :: r => by simp only [xvs, xv_same h, xvs_same h r]
theorem xps_same (h : Same m m') : ∀ (l : List (Nat × Nat × XV)), xps m l = xps m' l
  | [] => rfl
  | (o, s, x) :: r => by simp only [xps, xv_same h, xps_same h r]
theorem xl_same (h : Same m m') (x : XV) : xl m lb st x = xl m' lb st x := by unfold xl; rw [xv_same h]
theorem xo_same (h : Same m m') (x : Option XV) : xo m x = xo m' x := by
  cases x with
  | none => rfl
  | some x => simp only [xo, xv_same h]
theorem xq_same (h : Same m m') (x : XQ) : xq m lb st E x = xq m' lb st E x := by
  cases x <;> simp only [xq, xv_same h, xvs_same h, xps_same h, xl_same h, xo_same h]
theorem xe_same (h : Same m m') (x : XE) : xe m lb st E x = xe m' lb st E x := by
  cases x <;> simp only [xe, xv_same h, xvs_same h, xps_same h, xl_same h, xo_same h]
theorem xop_same {callf : CallF} (h : Same m m') (x : XOp) : xop m lb st E callf x = xop m' lb st E callf x := by
  cases x <;> simp only [xop, xq_same h, xe_same h, xcall, xv_same h, xvs_same h]
theorem xw_same (h : Same m m') (g : XG) : xw m g = xw m' g := by
  cases g <;> simp only [xw, h _]
theorem same_put (h : Same m m') (d : Option Nat) (v : AV) : Same (xcons m d v) (xput m' d v) := by
  cases d with
  | none => exact h
  | some d =>
    intro t
    have hd : ∀ m'', tmGet (tmSet m'' d v) t = if t = d then some v else tmGet m'' t := fun m'' => tmGet_set _ _ _ _
    simp only [xcons, xput, hd, tmGet]
    by_cases e : t = d
    · subst e; simp
    · have : Nat.beq d t = false := by
        cases hb : Nat.beq d t
        · rfl
        · exact absurd (Nat.eq_of_beq_eq_true hb).symm e
      simp [this, e, h t]
end

theorem xev_ok {callf : CallF} {f N : Nat} {ops : List Oper} : ∀ {r : List Oper} {xs : List XOper} {s s' : St} {m : Tm}, cops E f N ops r = some xs → Same s.tm m → xev E callf xs s = some s' →
    ∃ m', evOps E callf f N ops r ⟨m, s.lb, s.st⟩ = some ⟨m', s'.lb, s'.st⟩ ∧ Same s'.tm m'
  | [], xs, s, s', m, h, hm, hx => by
    simp only [cops, Option.some.injEq] at h; subst h
    simp only [xev, Option.some.injEq] at hx; subst hx
    exact ⟨m, rfl, hm⟩
  | o :: r, xs, s, s', m, h, hm, hx => by
    obtain ⟨x, l, rfl, h1, h2⟩ := cops_cons h
    obtain ⟨c1, c2, c3, c4⟩ := coper_ok h1
    simp only [xev] at hx
    obtain ⟨w, hw, hx⟩ := andThen_eq hx
    rw [xw_same hm] at hw
    have hw' := xw_ok (c3 ▸ hw)
    cases w with
    | false =>
      simp only [ifB_false] at hx
      simp only [evOps, hw', xput_ok c1]
      rw [c2] at hx
      exact xev_ok (s := ⟨xcons s.tm o.dst (.sc undef), s.lb, s.st⟩) h2 (same_put hm _ _) hx
    | true =>
      simp only [ifB_true] at hx
      obtain ⟨⟨v, lb, st⟩, ho, hx⟩ := andThen_eq hx
      rw [xop_same hm] at ho
      obtain ⟨e, he⟩ := cop_ok c4 ho
      simp only [evOps, hw', he, xput_ok c1]
      rw [c2] at hx
      exact xev_ok (s := ⟨xcons s.tm o.dst v, lb, st⟩) h2 (same_put hm _ _) hx

/-! drawn regions -/
theorem pairsOK_mem {b : List Nat} : ∀ {l : List Nat}, pairsOK b l = true → ∀ {pre post : List Nat} {i j : Nat}, l = pre ++ i :: post → j ∈ post → forced b i j = true
  | [], _, pre, post, i, j, h, _ => by simp at h
  | x :: r, hp, pre, post, i, j, h, hj => by
    simp only [pairsOK, Bool.and_eq_true, List.all_eq_true] at hp
    cases pre with
    | nil => simp at h; obtain ⟨rfl, rfl⟩ := h; exact hp.1 j hj
    | cons y pre => simp at h; exact pairsOK_mem hp.2 h.2 hj

theorem pairs_chain {b : List Nat} : ∀ {l : List Nat}, pairsOK b l = true → chainOK b l = true
  | [], _ => rfl
  | [_], _ => rfl
  | x :: y :: r, h => by
    simp only [pairsOK, Bool.and_eq_true, List.all_eq_true] at h
    simp only [chainOK, Bool.and_eq_true]
    refine ⟨h.1 y (by simp), pairs_chain ?_⟩
    simp only [pairsOK, Bool.and_eq_true, List.all_eq_true]
    exact h.2

theorem pairs_sub {b : List Nat} {l l' : List Nat} (h : List.Sublist l' l) : pairsOK b l = true → pairsOK b l' = true := by
  induction h with
  | slnil => exact id
  | cons a _ ih => intro h; simp only [pairsOK, Bool.and_eq_true] at h; exact ih h.2
  | cons_cons a hs ih =>
    intro h
    simp only [pairsOK, Bool.and_eq_true, List.all_eq_true] at h ⊢
    exact ⟨fun x hx => h.1 x (hs.subset hx), ih h.2⟩

theorem runOp_q {callf : CallF} {f : FuncId} {m : Tm} {lb : Lb} {st : List AObj} {o : Oper} {v : AV} (h : quiet E m lb st o = some v) : runOp E callf f m lb st o = some (v, lb, st, false) := by
  unfold runOp; rw [h]

theorem xopS_same {callf : CallF} {m m' : Tm} {lb : Lb} {st : List AObj} (h : Same m m') (x : XOp) : xopS E callf m lb st x = xopS E callf m' lb st x := by
  cases x <;> simp only [xopS, xq_same h, xcallV, xv_same h, xvs_same h]

theorem xevS_ok {callf : CallF} {f N : Nat} {ops : List Oper} {lb : Lb} {st : List AObj} : ∀ {r : List Oper} {xs : List XOper} {m0 m m' : Tm} (p : Nat), cops E f N ops r = some xs → (∀ o ∈ r, locAlloc E f o = none) → Same m0 m → xevS E callf lb st xs m0 = some m' →
    ∃ m2 rs hs, Same m' m2 ∧ evRecs E callf f N ops r ⟨m, lb, st⟩ = some (rs, hs, ⟨m2, lb, st⟩) ∧ (∀ x ∈ hs, x = (lb, st)) ∧ List.Sublist (effsOf p rs) (effPl p xs)
  | [], xs, m0, m, m', p, h, _, hm, hx => by
    simp only [cops, Option.some.injEq] at h; subst h
    simp only [xevS, Option.some.injEq] at hx; subst hx
    exact ⟨m, [], [], hm, rfl, fun x hx => (by simp at hx), List.Sublist.slnil⟩
  | o :: r, xs, m0, m, m', p, h, hl, hm, hx => by
    obtain ⟨x, l, rfl, h1, h2⟩ := cops_cons h
    obtain ⟨c1, c2, c3, c4⟩ := coper_ok h1
    have hlo := hl o (List.mem_cons_self ..)
    have hlr : ∀ o ∈ r, locAlloc E f o = none := fun o ho => hl o (List.mem_cons_of_mem _ ho)
    simp only [xevS, xw_same hm, xopS_same hm] at hx
    cases hw : xw m x.g with
    | none => simp only [hw, andThen_none] at hx; cases hx
    | some w =>
      simp only [hw, andThen_some] at hx
      have hw' := xw_ok (c3 ▸ hw)
      cases w with
      | false =>
        simp only [ifB_false] at hx
        rw [c2] at hx
        obtain ⟨m2, rs, hs, e0, e1, e2, e3⟩ := xevS_ok (p + 1) h2 hlr (same_put hm _ _) hx
        refine ⟨m2, ⟨false, false, .sc undef, m⟩ :: rs, hs, e0, ?_, ?_, ?_⟩
        · simp only [evRecs, hw', xput_ok c1, e1]
        · exact e2
        · simp only [effsOf, cond_false, effPl]
          cases mayEff x.op
          · exact e3
          · exact e3.cons _
      | true =>
        simp only [ifB_true, xopS_same hm] at hx
        cases ho : xopS E callf m lb st x.op with
        | none => simp only [ho, andThen_none] at hx; cases hx
        | some v =>
          simp only [ho, andThen_some] at hx
          rw [c2] at hx
          obtain ⟨m2, rs, hs, e0, e1, e2, e3⟩ := xevS_ok (p + 1) h2 hlr (same_put hm _ _) hx
          cases hop : x.op with
          | q y =>
            rw [hop] at ho c4
            simp only [xopS] at ho
            have hq : quiet E m lb st o = some v := by
              unfold cop at c4
              split at c4
              · rename_i z hz
                simp only [Option.some.injEq, XOp.q.injEq] at c4; subst c4
                rw [cq_ok hz]; exact ho
              · split at c4
                · cases c4
                · split at c4 <;> cases c4
            refine ⟨m2, ⟨true, false, v, m⟩ :: rs, hs, e0, ?_, ?_, ?_⟩
            · simp only [evRecs, hw', runOpD, hlo, runOp_q hq, xput_ok c1, e1, cond_false]
            · exact e2
            · simp only [effsOf, cond_false, effPl, hop, mayEff]; exact e3
          | e y => rw [hop] at ho; simp [xopS] at ho
          | call y ys =>
            rw [hop] at ho c4
            simp only [xopS, xcallV] at ho
            have hcc : cc o.op = some (y, ys) := by
              unfold cop at c4
              split at c4
              · cases c4
              · split at c4
                · cases c4
                · split at c4
                  · rename_i hh
                    simp only [Option.some.injEq, XOp.call.injEq] at c4
                    obtain ⟨rfl, rfl⟩ := c4
                    exact hh
                  · cases c4
            obtain ⟨q1, q2, q3⟩ := cc_ok (E := E) (m := m) (lb := lb) (st := st) (callf := callf) (f := f) hcc
            split at ho
            · rename_i g first cap hy
              split at ho
              · rename_i as has
                cases hb : as.any AV.isLp
                · simp only [hb, ifB_false] at ho
                  obtain ⟨⟨v2, st2⟩, hcall, ho⟩ := andThen_eq ho
                  cases hq : (stBeq st2 st && !v2.isLp)
                  · simp only [hq, ifB_false] at ho; cases ho
                  · simp only [hq, ifB_true, Option.some.injEq] at ho; subst ho
                    simp only [Bool.and_eq_true, Bool.not_eq_true'] at hq
                    have hst := stBeq_eq hq.1
                    subst hst
                    have hrun : runOp E callf f m lb st2 o = some (v2, lb, st2, true) := by
                      unfold runOp
                      rw [q1, q2, q3]
                      simp only [xcall, hy, has, hb, ifB_false, hcall, hq.2, cond_false]
                    refine ⟨m2, ⟨true, true, v2, m⟩ :: rs, (lb, st2) :: hs, e0, ?_, ?_, ?_⟩
                    · simp only [evRecs, hw', runOpD, hlo, hrun, xput_ok c1, e1, cond_true]
                    · exact fun x hx => (List.mem_cons.1 hx).elim (fun h => h) (e2 x)
                    · simp only [effsOf, cond_true, effPl, hop, mayEff]; exact e3.cons_cons _
                · rw [hb] at ho; cases ho
              · cases ho
            · cases ho

theorem layLoc_none {f : FuncId} {m : Tm} : ∀ {r : List Oper} {lb : Lb}, (∀ o ∈ r, locAlloc E f o = none) → layLoc E f m r lb = some lb
  | [], lb, _ => rfl
  | o :: r, lb, h => by
    simp only [layLoc, h o (List.mem_cons_self ..)]
    exact layLoc_none fun o ho => h o (List.mem_cons_of_mem _ ho)

theorem draw_ok {callf : CallF} {f N : Nat} {ops : List Oper} {xs : List XOper} (hc : cops E f N ops ops = some xs) (hd : drawOK E f ops xs = true) {s : St} {m' : Tm} (hx : xevS E callf s.lb s.st xs s.tm = some m') :
    ∃ m2, evDraw E callf f N ops s = some ⟨m2, s.lb, s.st⟩ ∧ Same m' m2 := by
  unfold drawOK at hd
  simp only [Bool.and_eq_true] at hd
  obtain ⟨⟨⟨⟨_, d1⟩, d2⟩, d3⟩, d4⟩ := hd
  have hl : ∀ o ∈ ops, locAlloc E f o = none := fun o ho => Option.isNone_iff_eq_none.1 (List.all_eq_true.1 d4 o ho)
  obtain ⟨m2, rs, hs, e0, e1, e2, e3⟩ := xevS_ok 0 hc hl (Same.refl _) hx
  refine ⟨m2, ?_, e0⟩
  unfold evDraw
  have hcalm : calm E f s.lb s.st ops hs = true := by
    unfold calm
    simp only [Bool.and_eq_true, List.all_eq_true]
    refine ⟨fun o ho => List.all_eq_true.1 d4 o ho, fun x hx => ?_⟩
    rw [e2 x hx]
    exact ⟨lbBeq_self _, stBeq_self _⟩
  simp only [layLoc_none hl, e1, d1, d2, pairs_chain (pairs_sub e3 d3), hcalm, Bool.or_true, Bool.and_self, cond_true]

end

/-! ### regions in any order, in general -/
def xopD (E : Env) (callf : CallF) (m : Tm) (lb : Lb) (st : List AObj) : XOp → Option (AV × Lb × List AObj × Bool)
  | .q x => andThen (xq m lb st E x) (fun v => some (v, lb, st, false)) .mk
  | .e (.new d _ true _) => some (.lp d 0 0, lb, st, false)
  | .e x => andThen (xe m lb st E x) (fun y => some (y.1, y.2.1, y.2.2, true)) .mk
  | .call x xs => andThen (xcall m st callf x xs) (fun y => ifB y.1.isLp none (some (y.1, lb, y.2, true)) .mk) .mk

def xrecs (E : Env) (callf : CallF) : List XOper → St → Option (List Rec × List (Lb × List AObj) × St)
  | [], s => some ([], [], s)
  | o :: r, s => andThen (xw s.tm o.g) (fun w => ifB w
      (andThen (xopD E callf s.tm s.lb s.st o.op) (fun y => andThen (xrecs E callf r ⟨xput s.tm o.dst y.1, y.2.1, y.2.2.1⟩) (fun z => some (⟨true, y.2.2.2, y.1, s.tm⟩ :: z.1, (bif y.2.2.2 then (y.2.1, y.2.2.1) :: z.2.1 else z.2.1), z.2.2)) .mk) .mk)
      (andThen (xrecs E callf r ⟨xput s.tm o.dst (.sc undef), s.lb, s.st⟩) (fun z => some (⟨false, false, .sc undef, s.tm⟩ :: z.1, z.2.1, z.2.2)) .mk) .mk) .mk

def xlay (m : Tm) : List XOper → Lb → Option Lb
  | [], lb => some lb
  | o :: r, lb => match o.op with
    | .e (.new d _ true z) => bif tmMentions d m then none else xlay m r (lbSet lb d 0 z)
    | _ => xlay m r lb

def xholds (E : Env) (m : Tm) (x : XQ) (v : AV) : List (Lb × List AObj) → Bool
  | [] => true
  | (lb, st) :: r => (match xq m lb st E x with | some u => AV.beq u v | none => false) && xholds E m x v r

def xstage (E : Env) (m : Tm) (v : AV) (win : List (Lb × List AObj)) : XOp → Bool
  | .e (.new d _ true z) => bornAt d z win
  | .q x => xholds E m x v win
  | _ => true

def xcheck (E : Env) (b es : List Nat) (H : List (Lb × List AObj)) : Nat → List XOper → List Rec → Bool
  | i, o :: os, r :: rs => (!r.ran || r.eff || xstage E r.m r.v ((H.drop (lowOf b es i)).take (highOf b es i + 1 - lowOf b es i)) o.op) && xcheck E b es H (i + 1) os rs
  | _, _, _ => true

def xevD (E : Env) (callf : CallF) (b : List Nat) (ops : List XOper) (s : St) : Option St :=
  andThen (xlay s.tm ops s.lb) (fun lb => andThen (xrecs E callf ops ⟨s.tm, lb, s.st⟩) (fun z => ifB (chainOK b (effsOf 0 z.1) && xcheck E b (effsOf 0 z.1) ((lb, s.st) :: z.2.1) 0 ops z.1) (some z.2.2) none .mk) .mk) .mk

section
variable {E : Env}
theorem ce_new {f : FuncId} {dst : Option Tmp} {o : Op} {d : Tmp} {t : TypeId} {l : Bool} {z : List AV} (h : ce E f dst o = some (.new d t l z)) :
    o = .alloc t ∧ dst = some d ∧ l = memN (E.loc f) d ∧ ∃ zz n, zeroA E t = some zz ∧ sizeT E t = some n ∧ Nat.beq zz.cells.length n = true ∧ z = zz.cells := by
  cases o with
  | alloc t' =>
    simp only [ce] at h
    split at h
    · rename_i z' n d' hz hn
      cases hb : Nat.beq z'.cells.length n
      · simp [hb] at h
      · simp only [hb, cond_true, Option.some.injEq, XE.new.injEq] at h
        obtain ⟨rfl, rfl, rfl, rfl⟩ := h
        exact ⟨rfl, rfl, rfl, z', n, hz, hn, hb, rfl⟩
    · cases h
  | box t' a => simp only [ce] at h; split at h <;> cases h
  | buildSlice t' l ps =>
    simp only [ce] at h
    split at h
    · rename_i e z s b _
      cases hb : Nat.ble (l * s) 16777216
      · simp [hb] at h
      · simp [hb, Option.map_eq_some_iff] at h
    · cases h
  | makeSlice t' l c => simp only [ce] at h; split at h <;> cases h
  | convert a b x =>
    simp only [ce] at h
    split at h
    · split at h
      · cases hb : Nat.beq a b <;> simp [hb] at h
      · cases h
    · cases h
  | makeMap t' r => cases r <;> simp [ce] at h
  | store t' a b => simp only [ce] at h; split at h <;> cases h
  | mapUpdate t' a b c =>
    simp only [ce] at h
    split at h
    · split at h <;> cases h
    · cases h
  | insert t' a b c =>
    simp only [ce] at h
    split at h
    · split at h <;> cases h
    · cases h
  | call c =>
    obtain ⟨callee, args, ts⟩ := c
    cases callee with
    | builtin b =>
      cases b with
      | append =>
        simp only [ce] at h
        split at h
        · split at h <;> cases h
        · cases h
      | _ => simp [ce] at h
    | _ => simp [ce] at h
  | _ => simp [ce] at h

theorem loc_of_alloc {f : FuncId} {o : Oper} {t : TypeId} {d : Tmp} (ho : o.op = .alloc t) (hd : o.dst = some d) (hl : memN (E.loc f) d = true) : locAlloc E f o = some (t, d) := by
  unfold locAlloc; simp only [ho, hd, hl, cond_true]

/-- an operation that is no local variable's birth -/
theorem loc_none {f : FuncId} {o : Oper} (h : ∀ t d, o.op = .alloc t → o.dst = some d → memN (E.loc f) d = false) : locAlloc E f o = none := by
  unfold locAlloc
  split
  · rename_i t d h1 h2; simp [h t d h1 h2]
  · rfl

theorem cq_alloc (t : TypeId) : cq E (.alloc t) = none := rfl
theorem cc_alloc (t : TypeId) : cc (.alloc t) = none := rfl

theorem xopD_ok {callf : CallF} {f : FuncId} {m : Tm} {lb : Lb} {st : List AObj} {o : Oper} {x : XOp} (h : cop E f o.dst o.op = some x) {r : AV × Lb × List AObj × Bool} (hx : xopD E callf m lb st x = some r) : runOpD E callf f m lb st o = some r := by
  unfold cop at h
  split at h
  · rename_i y hq
    simp only [Option.some.injEq] at h; subst h
    have hl : locAlloc E f o = none := loc_none fun t d h1 _ => by rw [h1] at hq; cases hq
    unfold runOpD
    simp only [hl]
    simp only [xopD] at hx
    obtain ⟨v, hv, hx⟩ := andThen_eq hx
    rw [← cq_ok hq] at hv
    rw [← hx]; exact runOp_q hv
  · split at h
    · rename_i hnq y he
      simp only [Option.some.injEq] at h; subst h
      obtain ⟨h1, h2⟩ := ce_ok (m := m) (lb := lb) (st := st) he
      have gen : ∀ (hl : locAlloc E f o = none) {v lb' st'}, xe m lb st E y = some (v, lb', st') → runOpD E callf f m lb st o = some (v, lb', st', true) := fun hl v lb' st' hv => by
        unfold runOpD
        simp only [hl]
        unfold runOp
        rw [h1, h2 _ hv]
      unfold xopD at hx
      split at hx
      · rename_i q; cases q
      · rename_i d t z hq
        simp only [XOp.e.injEq] at hq; subst hq
        obtain ⟨o1, o2, o3, _⟩ := ce_new he
        simp only [Option.some.injEq] at hx; subst hx
        unfold runOpD
        simp only [loc_of_alloc o1 o2 o3.symm]
      · rename_i y' hno hq
        simp only [XOp.e.injEq] at hq; subst hq
        have hl : locAlloc E f o = none := loc_none fun t d h3 h4 => by
          cases hm : memN (E.loc f) d
          · rfl
          · exfalso
            have he' := he
            rw [h3, h4] at he'
            simp only [ce] at he'
            split at he'
            · rename_i zz n d' hz hn hd
              simp only [Option.some.injEq] at hd; subst hd
              cases hb : Nat.beq zz.cells.length n
              · simp [hb] at he'
              · simp only [hb, cond_true, Option.some.injEq] at he'
                rw [hm] at he'
                exact hno _ _ _ he'.symm
            · cases he'
        obtain ⟨⟨v, lb', st'⟩, hv, hx⟩ := andThen_eq hx
        simp only [Option.some.injEq] at hx; subst hx
        exact gen hl hv
      · rename_i q; cases q
    · split at h
      · rename_i hnq hne y ys hc
        simp only [Option.some.injEq] at h; subst h
        have hl : locAlloc E f o = none := loc_none fun t d h1 _ => by rw [h1] at hc; cases hc
        obtain ⟨h1, h2, h3⟩ := cc_ok (E := E) (m := m) (lb := lb) (st := st) (callf := callf) (f := f) hc
        simp only [xopD] at hx
        unfold runOpD
        simp only [hl]
        unfold runOp
        rw [h1, h2, h3]
        obtain ⟨⟨v, st'⟩, hv, hx⟩ := andThen_eq hx
        simp only [hv]
        cases hlp : v.isLp
        · simp only [hlp, ifB_false] at hx; simpa [hlp] using hx
        · simp only [hlp, ifB_true] at hx; cases hx
      · cases h

theorem xrecs_ok {callf : CallF} {f N : Nat} {ops : List Oper} : ∀ {r : List Oper} {xs : List XOper} {s : St} {y : List Rec × List (Lb × List AObj) × St}, cops E f N ops r = some xs → xrecs E callf xs s = some y → evRecs E callf f N ops r s = some y
  | [], xs, s, y, h, hx => by
    simp only [cops, Option.some.injEq] at h; subst h
    exact hx
  | o :: r, xs, s, y, h, hx => by
    obtain ⟨x, l, rfl, h1, h2⟩ := cops_cons h
    obtain ⟨c1, c2, c3, c4⟩ := coper_ok h1
    simp only [xrecs] at hx
    obtain ⟨w, hw, hx⟩ := andThen_eq hx
    have hw' := xw_ok (c3 ▸ hw)
    cases w with
    | false =>
      simp only [ifB_false] at hx
      rw [c2] at hx
      obtain ⟨⟨rs, hs, s'⟩, hr, hx⟩ := andThen_eq hx
      simp only [evRecs, hw', xput_ok c1, xrecs_ok h2 hr]
      exact hx
    | true =>
      simp only [ifB_true] at hx
      obtain ⟨⟨v, lb, st, e⟩, ho, hx⟩ := andThen_eq hx
      rw [c2] at hx
      obtain ⟨⟨rs, hs, s'⟩, hr, hx⟩ := andThen_eq hx
      simp only [evRecs, hw', xopD_ok c4 ho, xput_ok c1, xrecs_ok h2 hr]
      exact hx

theorem xlay_ok {f N : Nat} {ops : List Oper} {m : Tm} : ∀ {r : List Oper} {xs : List XOper} {lb lb' : Lb}, cops E f N ops r = some xs → xlay m xs lb = some lb' → layLoc E f m r lb = some lb'
  | [], xs, lb, lb', h, hx => by
    simp only [cops, Option.some.injEq] at h; subst h
    exact hx
  | o :: r, xs, lb, lb', h, hx => by
    obtain ⟨x, l, rfl, h1, h2⟩ := cops_cons h
    obtain ⟨c1, c2, c3, c4⟩ := coper_ok h1
    have inv : ∀ {t d}, locAlloc E f o = some (t, d) → ∃ z, x.op = .e (.new d t true z) ∧ ∃ zz, zeroA E t = some zz ∧ z = zz.cells := fun {t d} hl => by
      obtain ⟨o1, o2, o3⟩ := locAlloc_spec hl
      unfold cop at c4
      rw [o1] at c4
      simp only [cq_alloc, cc_alloc] at c4
      split at c4
      · rename_i y he
        simp only [Option.some.injEq] at c4
        rw [o2] at he
        simp only [ce] at he
        split at he
        · rename_i zz n d' hz hn hd
          simp only [Option.some.injEq] at hd; subst hd
          cases hb : Nat.beq zz.cells.length n
          · simp [hb] at he
          · simp only [hb, cond_true, Option.some.injEq, o3] at he
            exact ⟨zz.cells, by rw [← c4, ← he], zz, hz, rfl⟩
        · cases he
      · cases c4
    simp only [xlay] at hx
    simp only [layLoc]
    cases hl : locAlloc E f o with
    | some td =>
      obtain ⟨t, d⟩ := td
      obtain ⟨z, e1, zz, e2, rfl⟩ := inv hl
      simp only [e1] at hx
      simp only [e2]
      cases hm : tmMentions d m
      · simp only [hm, cond_false] at hx ⊢; exact xlay_ok h2 hx
      · simp [hm] at hx
    | none =>
      simp only
      split at hx
      · rename_i d t z he
        exfalso
        rw [he] at c4
        unfold cop at c4
        split at c4
        · cases c4
        · split at c4
          · rename_i y hy
            simp only [Option.some.injEq, XOp.e.injEq] at c4; subst c4
            obtain ⟨o1, o2, o3, _⟩ := ce_new hy
            rw [loc_of_alloc o1 o2 o3.symm] at hl; cases hl
          · split at c4 <;> cases c4
      · exact xlay_ok h2 hx

theorem xholds_ok {m : Tm} {o : Oper} {x : XQ} {v : AV} (hq : cq E o.op = some x) : ∀ {win : List (Lb × List AObj)}, xholds E m x v win = true → holdsAt E m o v win = true
  | [], _ => rfl
  | (lb, st) :: r, h => by
    simp only [xholds, Bool.and_eq_true] at h
    simp only [holdsAt, Bool.and_eq_true, cq_ok hq]
    exact ⟨h.1, xholds_ok hq h.2⟩

theorem xcheck_ok {f N : Nat} {ops : List Oper} {b es : List Nat} {H : List (Lb × List AObj)} {callf : CallF} : ∀ {r : List Oper} {xs : List XOper} {rs : List Rec} {i : Nat} {s : St} {hs : List (Lb × List AObj)} {s' : St}, cops E f N ops r = some xs → xrecs E callf xs s = some (rs, hs, s') → xcheck E b es H i xs rs = true → checkQ E f b es H i r rs = true
  | [], xs, rs, i, s, hs, s', _, _, _ => rfl
  | o :: r, xs, [], i, s, hs, s', _, _, _ => rfl
  | o :: r, xs, rc :: rs, i, s, hs, s', h, hr, hx => by
    obtain ⟨x, l, rfl, h1, h2⟩ := cops_cons h
    obtain ⟨c1, c2, c3, c4⟩ := coper_ok h1
    simp only [xcheck, Bool.and_eq_true] at hx
    obtain ⟨hx1, hx2⟩ := hx
    -- the record's own run, and the rest
    have hrun : (∃ s2 hs2, xrecs E callf l s2 = some (rs, hs2, s')) ∧ (rc.ran = true → ∃ lb st, xopD E callf rc.m s.lb s.st x.op = some (rc.v, lb, st, rc.eff)) := by
      simp only [xrecs] at hr
      obtain ⟨w, hw, hr⟩ := andThen_eq hr
      cases w with
      | false =>
        simp only [ifB_false] at hr
        obtain ⟨⟨rs2, hs2, s2⟩, hrr, hr⟩ := andThen_eq hr
        simp only [Option.some.injEq, Prod.mk.injEq, List.cons.injEq] at hr
        obtain ⟨⟨rfl, rfl⟩, rfl, rfl⟩ := hr
        exact ⟨⟨_, _, hrr⟩, fun h => by cases h⟩
      | true =>
        simp only [ifB_true] at hr
        obtain ⟨⟨v, lb, st, e⟩, ho, hr⟩ := andThen_eq hr
        obtain ⟨⟨rs2, hs2, s2⟩, hrr, hr⟩ := andThen_eq hr
        simp only [Option.some.injEq, Prod.mk.injEq, List.cons.injEq] at hr
        obtain ⟨⟨rfl, rfl⟩, _, rfl⟩ := hr
        exact ⟨⟨_, _, hrr⟩, fun _ => ⟨lb, st, ho⟩⟩
    obtain ⟨⟨s2, hs2, hrr⟩, hop⟩ := hrun
    simp only [checkQ, Bool.and_eq_true]
    refine ⟨?_, xcheck_ok h2 hrr hx2⟩
    simp only [Bool.or_eq_true, Bool.not_eq_true'] at hx1 ⊢
    rcases hx1 with hx1 | hx1
    · exact .inl hx1
    · cases hran : rc.ran
      · exact .inl (.inl rfl)
      · cases heff : rc.eff
        · right
          obtain ⟨lb, st, ho⟩ := hop hran
          rw [heff] at ho
          unfold stageOK
          unfold cop at c4
          split at c4
          · rename_i y hy
            simp only [Option.some.injEq] at c4
            rw [← c4] at hx1
            have hl : locAlloc E f o = none := loc_none fun t d h1 _ => by rw [h1] at hy; cases hy
            simp only [hl, Bool.or_eq_true]
            exact .inr (xholds_ok hy hx1)
          · split at c4
            · rename_i y hy
              simp only [Option.some.injEq] at c4
              rw [← c4] at hx1 ho
              unfold xopD at ho
              split at ho
              · rename_i q; cases q
              · rename_i d t z hq
                simp only [XOp.e.injEq] at hq; subst hq
                obtain ⟨o1, o2, o3, zz, n, hz, hn, hb, rfl⟩ := ce_new hy
                simp only [loc_of_alloc o1 o2 o3.symm, hz, hn, hb, Bool.true_and]
                exact hx1
              · obtain ⟨y2, _, ho⟩ := andThen_eq ho
                simp at ho
              · rename_i q; cases q
            · split at c4
              · rename_i y ys hy
                simp only [Option.some.injEq] at c4
                rw [← c4] at ho
                simp only [xopD] at ho
                obtain ⟨y2, _, ho⟩ := andThen_eq ho
                cases hlp : y2.1.isLp
                · simp only [hlp, ifB_false] at ho; simp at ho
                · simp only [hlp, ifB_true] at ho; cases ho
              · cases c4
        · exact .inl (.inr rfl)

theorem xevD_ok {callf : CallF} {f N : Nat} {ops : List Oper} {xs : List XOper} (hc : cops E f N ops ops = some xs) (h1 : edgesOK 0 ops = true) (h2 : slotsOK ops (bef ops []) = true) {s s' : St} (hx : xevD E callf (bef ops []) xs s = some s') :
    evDraw E callf f N ops s = some s' := by
  unfold xevD at hx
  obtain ⟨lb, hl, hx⟩ := andThen_eq hx
  obtain ⟨⟨rs, hs, s2⟩, hr, hx⟩ := andThen_eq hx
  cases hk : (chainOK (bef ops []) (effsOf 0 rs) && xcheck E (bef ops []) (effsOf 0 rs) ((lb, s.st) :: hs) 0 xs rs)
  · simp only [hk, ifB_false] at hx; cases hx
  · simp only [hk, ifB_true, Option.some.injEq] at hx; subst hx
    simp only [Bool.and_eq_true] at hk
    unfold evDraw
    simp only [xlay_ok hc hl, xrecs_ok hc hr, h1, h2, hk.1, xcheck_ok hc hr hk.2, Bool.true_or, Bool.and_self, cond_true]
end

/-! ### code -/
inductive XC where
  | skip
  | reg (live : List Nat) (d : Bool) (ops : List XOper)
  | regD (live : List Nat) (b : List Nat) (ops : List XOper)
  | seq (a b : XC)
  | cond (c : XV) (a b : XC)
  | block (id : Nat) (c : XC)
  | loop (c : XC)
  | exit (id : Nat)
  | ret

/-- what is kept of a state -/
def xtrim (live : List Nat) (s : St) : St :=
  let m := tmKeep live s.tm
  { tm := m, lb := lbKeep m s.lb, st := s.st }

def cxc (E : Env) (f N : Nat) : Code → Option XC
  | .skip | .label _ => some .skip
  | .region id ops d => match cops E f N ops.toList ops.toList with
    | some xs => bif d then (bif drawOK E f ops.toList xs then some (.reg (E.live f id) true xs) else bif edgesOK 0 ops.toList && slotsOK ops.toList (bef ops.toList []) then some (.regD (E.live f id) (bef ops.toList []) xs) else none) else some (.reg (E.live f id) false xs)
    | none => none
  | .seq a b => match cxc E f N a, cxc E f N b with
    | some a, some b => some (.seq a b)
    | _, _ => none
  | .cond c a b => match cv c, cxc E f N a, cxc E f N b with
    | some c, some a, some b => some (.cond c a b)
    | _, _, _ => none
  | .block id c => (cxc E f N c).map (.block id)
  | .loop c => (cxc E f N c).map .loop
  | .scope c => cxc E f N c
  | .exit id => some (.exit id)
  | .ret => some .ret
  | _ => none

section
variable (E : Env) (f N : Nat)

/-- what code comes to: a relation -/
inductive Xr : XC → St → AX → St → Prop where
  | skip {s} : Xr .skip s .norm s
  | reg {live ops s s'} : xev E (callL E) ops s = some s' → Xr (.reg live false ops) s .norm (xtrim live s')
  | regS {live ops s m} : xevS E (callL E) s.lb s.st ops s.tm = some m → Xr (.reg live true ops) s .norm (xtrim live ⟨m, s.lb, s.st⟩)
  | regD {live b ops s s'} : xevD E (callL E) b ops s = some s' → Xr (.regD live b ops) s .norm (xtrim live s')
  | seq {a b s s' x s''} : Xr a s .norm s' → Xr b s' x s'' → Xr (.seq a b) s x s''
  | seqX {a b s s' x} : Xr a s x s' → x ≠ .norm → Xr (.seq a b) s x s'
  | cond {c a b s t x s'} : xv s.tm c = some (.sc (.bool t)) → Xr (bif t then a else b) s x s' → Xr (.cond c a b) s x s'
  | block {id c s x s'} : Xr c s x s' → x ≠ .exit id → Xr (.block id c) s x s'
  | blockX {id c s s'} : Xr c s (.exit id) s' → Xr (.block id c) s .norm s'
  | loop {c s s' x s''} : Xr c s .norm s' → Xr (.loop c) s' x s'' → Xr (.loop c) s x s''
  | loopX {c s s' x} : Xr c s x s' → x ≠ .norm → Xr (.loop c) s x s'
  | exit {id s} : Xr (.exit id) s (.exit id) s
  | ret {s} : Xr .ret s .ret s

variable {E f N}

theorem keep_same {m m' : Tm} (h : Same m m') : ∀ (l : List Nat), tmKeep l m = tmKeep l m'
  | [] => rfl
  | t :: l => by simp only [tmKeep, h t, keep_same h l]
theorem trim_same {s : St} {m' : Tm} {id : Nat} (h : Same s.tm m') : xtrim (E.live f id) s = trim E f id ⟨m', s.lb, s.st⟩ := by
  unfold xtrim trim
  simp only [keep_same h]

def strip : Code → Code
  | .scope c => strip c
  | c => c
theorem strip_cxc : ∀ (c : Code), cxc E f N c = cxc E f N (strip c)
  | .scope c => by simp only [cxc, strip]; exact strip_cxc c
  | .skip | .label _ | .region .. | .seq .. | .cond .. | .block .. | .loop .. | .exit .. | .ret => rfl
  | .rangeFunc .. | .goto _ | .refuse _ => rfl
theorem strip_ev {s : St} {r : AX × St} : ∀ (c : Code), (∃ k, ev E (callL E) f N k (strip c) s = some r) → ∃ k, ev E (callL E) f N k c s = some r
  | .scope c, h => by
    obtain ⟨k, hk⟩ := strip_ev c (by simpa [strip] using h)
    exact ⟨k + 1, by simp only [ev]; exact hk⟩
  | .skip, h | .label _, h | .region .., h | .seq .., h | .cond .., h | .block .., h | .loop .., h | .exit .., h | .ret, h => h
  | .rangeFunc .., h | .goto _, h | .refuse _, h => h
theorem strip_no : ∀ (c c' : Code), strip c ≠ .scope c'
  | .scope c, c', h => strip_no c c' (by simpa [strip] using h)
  | .skip, _, h | .label _, _, h | .region .., _, h | .seq .., _, h | .cond .., _, h | .block .., _, h | .loop .., _, h | .exit .., _, h | .ret, _, h => by cases h
  | .rangeFunc .., _, h | .goto _, _, h | .refuse _, _, h => by cases h

theorem ev_up {k k' : Nat} {c : Code} {s : St} {r : AX × St} (h : k ≤ k') (hx : ev E (callL E) f N k c s = some r) : ev E (callL E) f N k' c s = some r := ev_mono (Le.refl _) h hx

theorem xr_ok {xc : XC} {s s' : St} {x : AX} (h : Xr E xc s x s') : ∀ {c : Code}, cxc E f N c = some xc → ∃ k, ev E (callL E) f N k c s = some (x, s') := by
  suffices H : ∀ {c : Code}, (∀ c', c ≠ .scope c') → cxc E f N c = some xc → ∃ k, ev E (callL E) f N k c s = some (x, s') from
    fun {c} hc => strip_ev c (H (strip_no c) (by rw [← strip_cxc]; exact hc))
  have go : ∀ {xc : XC} {s : St} {x : AX} {s' : St}, (∀ {c : Code}, (∀ c', c ≠ .scope c') → cxc E f N c = some xc → ∃ k, ev E (callL E) f N k c s = some (x, s')) → ∀ {c : Code}, cxc E f N c = some xc → ∃ k, ev E (callL E) f N k c s = some (x, s') :=
    fun {xc s x s'} H {c} hc => strip_ev c (H (strip_no c) (by rw [← strip_cxc]; exact hc))
  have reg_inv : ∀ {id : Nat} {ops : Array Oper} {d : Bool} {y : XC}, cxc E f N (.region id ops d) = some y → ∃ xs, cops E f N ops.toList ops.toList = some xs ∧ ((y = .reg (E.live f id) d xs ∧ (d = true → drawOK E f ops.toList xs = true)) ∨ ((d = true ∧ edgesOK 0 ops.toList = true ∧ slotsOK ops.toList (bef ops.toList []) = true) ∧ y = .regD (E.live f id) (bef ops.toList []) xs)) := by
    intro id ops d y h
    simp only [cxc] at h
    cases hc : cops E f N ops.toList ops.toList with
    | none => simp [hc] at h
    | some xs =>
      simp only [hc] at h
      refine ⟨xs, rfl, ?_⟩
      cases d with
      | false => simp at h; exact .inl ⟨h.symm, fun h => by cases h⟩
      | true =>
        cases hd : drawOK E f ops.toList xs
        · cases he : edgesOK 0 ops.toList <;> cases hs : slotsOK ops.toList (bef ops.toList []) <;> simp [hd, he, hs] at h
          exact .inr ⟨⟨rfl, rfl, rfl⟩, h.symm⟩
        · simp [hd] at h; exact .inl ⟨h.symm, fun _ => rfl⟩
  induction h with
  | skip =>
    intro c hs hc
    cases c with
    | skip => exact ⟨1, rfl⟩
    | label l => exact ⟨1, rfl⟩
    | scope c => exact (hs c rfl).elim
    | region id ops d => obtain ⟨xs, _, ⟨h, _⟩ | ⟨_, h⟩⟩ := reg_inv hc <;> cases h
    | seq a b => simp only [cxc] at hc; split at hc <;> cases hc
    | cond a b c => simp only [cxc] at hc; split at hc <;> cases hc
    | block i c => simp [cxc] at hc
    | loop c => simp [cxc] at hc
    | _ => simp [cxc] at hc
  | reg hx =>
    intro c hs hc
    cases c with
    | region id ops d =>
      obtain ⟨xs, h1, ⟨h2, h3⟩ | ⟨h2, h3⟩⟩ := reg_inv hc
      · simp only [XC.reg.injEq] at h2
        obtain ⟨rfl, rfl, rfl⟩ := h2
        obtain ⟨m', e1, e2⟩ := xev_ok h1 (Same.refl _) hx
        refine ⟨1, ?_⟩
        simp only [ev, cond_false, e1]
        exact congrArg some (congrArg (Prod.mk AX.norm) (trim_same e2).symm)
      · cases h3
    | scope c => exact (hs c rfl).elim
    | seq a b => simp only [cxc] at hc; split at hc <;> cases hc
    | cond a b c => simp only [cxc] at hc; split at hc <;> cases hc
    | _ => simp [cxc] at hc
  | regS hx =>
    intro c hs hc
    cases c with
    | region id ops d =>
      obtain ⟨xs, h1, ⟨h2, h3⟩ | ⟨h2, h3⟩⟩ := reg_inv hc
      · simp only [XC.reg.injEq] at h2
        obtain ⟨rfl, rfl, rfl⟩ := h2
        obtain ⟨m', e1, e2⟩ := draw_ok h1 (h3 rfl) hx
        refine ⟨1, ?_⟩
        simp only [ev, cond_true, e1]
        exact congrArg some (congrArg (Prod.mk AX.norm) (trim_same (s := ⟨_, _, _⟩) e2).symm)
      · cases h3
    | scope c => exact (hs c rfl).elim
    | seq a b => simp only [cxc] at hc; split at hc <;> cases hc
    | cond a b c => simp only [cxc] at hc; split at hc <;> cases hc
    | _ => simp [cxc] at hc
  | regD hx =>
    intro c hs hc
    cases c with
    | region id ops d =>
      obtain ⟨xs, h1, ⟨h2, h3⟩ | ⟨⟨rfl, h2, h4⟩, h3⟩⟩ := reg_inv hc
      · cases h2
      · simp only [XC.regD.injEq] at h3
        obtain ⟨rfl, rfl, rfl⟩ := h3
        refine ⟨1, ?_⟩
        simp only [ev, cond_true, xevD_ok h1 h2 h4 hx]
        rfl
    | scope c => exact (hs c rfl).elim
    | seq a b => simp only [cxc] at hc; split at hc <;> cases hc
    | cond a b c => simp only [cxc] at hc; split at hc <;> cases hc
    | _ => simp [cxc] at hc
  | seq _ _ ih1 ih2 =>
    intro c hs hc
    cases c with
    | seq a b =>
      simp only [cxc] at hc
      split at hc
      · rename_i a' b' h1 h2
        simp only [Option.some.injEq, XC.seq.injEq] at hc
        obtain ⟨rfl, rfl⟩ := hc
        obtain ⟨k, hk⟩ := go ih1 h1
        obtain ⟨k', hk'⟩ := go ih2 h2
        exact ⟨max k k' + 1, by simp only [ev, ev_up (Nat.le_max_left k k') hk]; exact ev_up (Nat.le_max_right k k') hk'⟩
      · cases hc
    | region id ops d => obtain ⟨xs, _, ⟨h, _⟩ | ⟨_, h⟩⟩ := reg_inv hc <;> cases h
    | scope c => exact (hs c rfl).elim
    | cond a b c => simp only [cxc] at hc; split at hc <;> cases hc
    | _ => simp [cxc] at hc
  | seqX _ hn ih1 =>
    intro c hs hc
    cases c with
    | seq a b =>
      simp only [cxc] at hc
      split at hc
      · rename_i a' b' h1 h2
        simp only [Option.some.injEq, XC.seq.injEq] at hc
        obtain ⟨rfl, rfl⟩ := hc
        obtain ⟨k, hk⟩ := go ih1 h1
        refine ⟨k + 1, ?_⟩
        simp only [ev, hk]
        split
        · rename_i s2 he; simp only [Option.some.injEq, Prod.mk.injEq] at he; exact (hn he.1).elim
        · rfl
      · cases hc
    | region id ops d => obtain ⟨xs, _, ⟨h, _⟩ | ⟨_, h⟩⟩ := reg_inv hc <;> cases h
    | scope c => exact (hs c rfl).elim
    | cond a b c => simp only [cxc] at hc; split at hc <;> cases hc
    | _ => simp [cxc] at hc
  | cond hv _ ih =>
    rename_i t _ _ _
    intro c hs hc
    cases c with
    | cond c a b =>
      simp only [cxc] at hc
      split at hc
      · rename_i c' a' b' h1 h2 h3
        simp only [Option.some.injEq, XC.cond.injEq] at hc
        obtain ⟨rfl, rfl, rfl⟩ := hc
        cases t with
        | true =>
          obtain ⟨k, hk⟩ := go ih h2
          exact ⟨k + 1, by simp only [ev, cv_ok h1, hv, cond_true]; exact hk⟩
        | false =>
          obtain ⟨k, hk⟩ := go ih h3
          exact ⟨k + 1, by simp only [ev, cv_ok h1, hv, cond_false]; exact hk⟩
      · cases hc
    | region id ops d => obtain ⟨xs, _, ⟨h, _⟩ | ⟨_, h⟩⟩ := reg_inv hc <;> cases h
    | scope c => exact (hs c rfl).elim
    | seq a b => simp only [cxc] at hc; split at hc <;> cases hc
    | _ => simp [cxc] at hc
  | block _ hn ih =>
    intro c hs hc
    cases c with
    | block i c =>
      simp only [cxc, Option.map_eq_some_iff, XC.block.injEq] at hc
      obtain ⟨y, h1, rfl, rfl⟩ := hc
      obtain ⟨k, hk⟩ := go ih h1
      refine ⟨k + 1, ?_⟩
      simp only [ev, hk]
      split
      · rename_i id' s2 he
        simp only [Option.some.injEq, Prod.mk.injEq] at he
        obtain ⟨rfl, rfl⟩ := he
        cases hb : Nat.beq id' i
        · rfl
        · exact (hn (by rw [Nat.eq_of_beq_eq_true hb])).elim
      · rfl
    | region id ops d => obtain ⟨xs, _, ⟨h, _⟩ | ⟨_, h⟩⟩ := reg_inv hc <;> cases h
    | scope c => exact (hs c rfl).elim
    | seq a b => simp only [cxc] at hc; split at hc <;> cases hc
    | cond a b c => simp only [cxc] at hc; split at hc <;> cases hc
    | _ => simp [cxc] at hc
  | blockX _ ih =>
    intro c hs hc
    cases c with
    | block i c =>
      simp only [cxc, Option.map_eq_some_iff, XC.block.injEq] at hc
      obtain ⟨y, h1, rfl, rfl⟩ := hc
      obtain ⟨k, hk⟩ := go ih h1
      refine ⟨k + 1, ?_⟩
      simp [ev, hk]
    | region id ops d => obtain ⟨xs, _, ⟨h, _⟩ | ⟨_, h⟩⟩ := reg_inv hc <;> cases h
    | scope c => exact (hs c rfl).elim
    | seq a b => simp only [cxc] at hc; split at hc <;> cases hc
    | cond a b c => simp only [cxc] at hc; split at hc <;> cases hc
    | _ => simp [cxc] at hc
  | loop _ _ ih1 ih2 =>
    intro c hs hc
    have hc0 := hc
    cases c with
    | loop c =>
      simp only [cxc, Option.map_eq_some_iff, XC.loop.injEq] at hc
      obtain ⟨y, h1, rfl⟩ := hc
      obtain ⟨k, hk⟩ := go ih1 h1
      obtain ⟨k', hk'⟩ := ih2 hs hc0
      exact ⟨max k k' + 1, by simp only [ev, ev_up (Nat.le_max_left k k') hk]; exact ev_up (Nat.le_max_right k k') hk'⟩
    | region id ops d => obtain ⟨xs, _, ⟨h, _⟩ | ⟨_, h⟩⟩ := reg_inv hc <;> cases h
    | scope c => exact (hs c rfl).elim
    | seq a b => simp only [cxc] at hc; split at hc <;> cases hc
    | cond a b c => simp only [cxc] at hc; split at hc <;> cases hc
    | _ => simp [cxc] at hc
  | loopX _ hn ih =>
    intro c hs hc
    cases c with
    | loop c =>
      simp only [cxc, Option.map_eq_some_iff, XC.loop.injEq] at hc
      obtain ⟨y, h1, rfl⟩ := hc
      obtain ⟨k, hk⟩ := go ih h1
      refine ⟨k + 1, ?_⟩
      simp only [ev, hk]
      split
      · rename_i s2 he; simp only [Option.some.injEq, Prod.mk.injEq] at he; exact (hn he.1).elim
      · rfl
    | region id ops d => obtain ⟨xs, _, ⟨h, _⟩ | ⟨_, h⟩⟩ := reg_inv hc <;> cases h
    | scope c => exact (hs c rfl).elim
    | seq a b => simp only [cxc] at hc; split at hc <;> cases hc
    | cond a b c => simp only [cxc] at hc; split at hc <;> cases hc
    | _ => simp [cxc] at hc
  | exit =>
    intro c hs hc
    cases c with
    | exit i => simp only [cxc, Option.some.injEq, XC.exit.injEq] at hc; subst hc; exact ⟨1, rfl⟩
    | region id ops d => obtain ⟨xs, _, ⟨h, _⟩ | ⟨_, h⟩⟩ := reg_inv hc <;> cases h
    | scope c => exact (hs c rfl).elim
    | seq a b => simp only [cxc] at hc; split at hc <;> cases hc
    | cond a b c => simp only [cxc] at hc; split at hc <;> cases hc
    | _ => simp [cxc] at hc
  | ret =>
    intro c hs hc
    cases c with
    | ret => exact ⟨1, rfl⟩
    | region id ops d => obtain ⟨xs, _, ⟨h, _⟩ | ⟨_, h⟩⟩ := reg_inv hc <;> cases h
    | scope c => exact (hs c rfl).elim
    | seq a b => simp only [cxc] at hc; split at hc <;> cases hc
    | cond a b c => simp only [cxc] at hc; split at hc <;> cases hc
    | _ => simp [cxc] at hc

theorem xr_ev {xc : XC} {s s' : St} {x : AX} (h : Xr E xc s x s') {c : Code} (hc : cxc E f N c = some xc) : evL E f N c s = some (x, s') := evL_iff.2 (xr_ok h hc)

/-- what holds behind code -/
def xp (E : Env) (c : XC) (s : St) (Q : AX → St → Prop) (t : Tag0 c := .mk) (u : Tag Q := .mk) : Prop := ∃ x s', Xr E c s x s' ∧ Q x s'

end
end Go.Proofs.YtcfaajaccbadbaaDoor.Ahm
