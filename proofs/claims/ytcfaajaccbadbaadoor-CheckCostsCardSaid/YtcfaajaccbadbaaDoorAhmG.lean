/- Operations that change no memory, each: numbers, equality, maps, types, parts. -/
import Derived.Test.YtcfaajaccbadbaaDoorAhmF
import Derived.LaidEql
set_option linter.unusedSimpArgs false
set_option linter.unusedVariables false
namespace Go.Proofs.YtcfaajaccbadbaaDoor.Ahm
open Go

section
variable {C : Ctx}

theorem binInt_run {op : BinOp} {k : IntKind} {a b : Int} {v : Value} (h : binInt op k a b = some v) (t : TypeId) (P : Program) (w : World) :
    (Go.binOp op t (.int k a) (.int k b)).run P w = .ok v w ∧ scal v = true := by
  cases op <;> simp only [binInt] at h <;> first
    | (simp at h; subst h; simp [Go.binOp, Op.intArith, Op.intBits, Op.intCmp, scal]; done)
    | (split at h
       · cases h
       · simp at h; subst h; rename_i hz; simp [Go.binOp, Op.intDiv, hz, scal])
    | (simp at h; done)

theorem shiftA_run {op : BinOp} {k k' : IntKind} {a b : Int} {v : Value} (hop : op = .shl ∨ op = .shr) (h : shiftA op k a b = some v) (t : TypeId) (P : Program) (w : World) :
    (Go.binOp op t (.int k a) (.int k' b)).run P w = .ok v w ∧ scal v = true := by
  unfold shiftA at h
  split at h
  · cases h
  · rename_i hb
    rcases hop with rfl | rfl <;> simp at h <;> subst h <;> simp [Go.binOp, Op.shift, hb, scal]

theorem eqGuard_run {op : BinOp} {t : TypeId} {x y : Operand} {a b : Value} {w : World} (P : Program) (h : ∀ as, a ≠ .agg as) (hn : a = .nilIface → b = .nilIface → (constOp x || constOp y) = true) :
    (eqGuard op t x y a b).run P w = .ok () w := by
  unfold eqGuard
  have key : ∀ (z : Sem Unit), z.run P w = .ok () w → (if (!true) = true then pure () else z : Sem Unit).run P w = .ok () w := fun z hz => by simpa using hz
  split <;> first
    | rfl
    | (refine key _ ?_
       split
       · have hc := hn rfl rfl
         cases x <;> cases y <;> simp [constOp] at hc ⊢
       · exact absurd rfl (h _)
       · rfl)

theorem equal_eq (t : TypeId) (x y : Value) : Op.equal t x y = Op.equalIn (9999 + 1) t x y := rfl

theorem live_ptr {p : AV} {c : Value} (hr : RepT C p c) (hl : liveA C.lb C.st p = true) (h : isNonNilPtr p = true) : ∃ a, c = .pointer (some a) := by
  cases p <;> simp [isNonNilPtr] at h
  · exact ⟨_, rep_gl (C := C) hr⟩
  · have := rep_fp (C := C) hr; cases this; exact ⟨_, rfl⟩
  · exact ⟨_, (live_rf hr hl).2⟩
  · obtain ⟨b, cs, _, _, hc⟩ := live_lp hr hl; exact ⟨_, hc⟩

theorem live_slice {p : AV} {c : Value} (hr : RepT C p c) (hl : liveA C.lb C.st p = true) (h : isNonNilSlice p = true) : ∃ a n cap, c = .slice (some a) n cap := by
  cases p <;> simp [isNonNilSlice] at h
  · obtain ⟨a, cap, rfl, _⟩ := fs_form (rep_fs (C := C) hr); exact ⟨_, _, _, rfl⟩
  · obtain ⟨_, _, _, cap, _, _, _, _, _, rfl, _⟩ := live_sl hr hl; exact ⟨_, _, _, rfl⟩
  · obtain ⟨a, rfl⟩ := rep_e0 (C := C) hr; exact ⟨_, _, _, rfl⟩

theorem eqA_run0 {t : TypeId} {x y : Operand} {a b : AV} {ca cb : Value} {r : Bool} (ha : RepT C a ca) (hb : RepT C b cb) (hla : liveA C.lb C.st a = true) (h : eqA C.E t x y a b = some r) (hns : ∀ t j u k, a = .ifc t (.sp j) → b = .ifc u (.sp k) → False) (w : World) :
    (∀ d, (Op.equalIn (d + 1) t ca cb).run C.E.P w = .ok r w) ∧ (∀ as, ca ≠ .agg as) ∧ (ca = .nilIface → cb = .nilIface → (constOp x || constOp y) = true) ∧
      (∀ k n, ca ≠ .int k n) ∧ (∀ k n, ca ≠ .float k n) ∧ (∀ k n m, ca ≠ .complex k n m) ∧ (∀ s, ca ≠ .string s) := by
  unfold eqA at h
  split at h
  · rename_i p q hd
    have h1 := repT_sc (C := C) ha
    have h2 := repT_sc (C := C) hb
    subst h1 h2
    simp at h; subst h
    simp [Op.equalIn, run_underlying hd]
  · rename_i hd
    have h1 := repT_sc (C := C) ha
    have h2 := repT_sc (C := C) hb
    subst h1 h2
    cases hc : (constOp x || constOp y)
    · simp [hc] at h
    · simp [hc] at h; subst h
      exact ⟨by simp [Op.equalIn, run_underlying hd], by simp, fun _ _ => rfl, by simp, by simp, by simp, by simp⟩
  · rename_i t' v' hd
    obtain ⟨u, rfl, hu⟩ := rep_ifc (C := C) ha
    have h2 := repT_sc (C := C) hb
    subst h2
    simp at h; subst h
    simp [Op.equalIn, run_underlying hd]
  · rename_i t' v' hd
    obtain ⟨u, rfl, hu⟩ := rep_ifc (C := C) hb
    have h2 := repT_sc (C := C) ha
    subst h2
    simp at h; subst h
    simp [Op.equalIn, run_underlying hd]
  · exact (hns _ _ _ _ rfl rfl).elim
  · rename_i hd
    have h1 := repT_sc (C := C) ha
    have h2 := repT_sc (C := C) hb
    subst h1 h2
    simp at h; subst h
    simp [Op.equalIn, run_underlying hd]
  · rename_i p _ _ _ _ hd _
    have h2 := repT_sc (C := C) hb
    subst h2
    cases hp : isNonNilPtr p
    · simp [hp] at h
    · simp [hp] at h; subst h
      obtain ⟨ad, rfl⟩ := live_ptr ha hla hp
      simp [Op.equalIn, run_underlying hd]
  · rename_i hd
    have h1 := repT_sc (C := C) ha
    have h2 := repT_sc (C := C) hb
    subst h1 h2
    simp at h; subst h
    simp [Op.equalIn, run_underlying hd]
  · rename_i p _ _ _ _ hd _
    have h2 := repT_sc (C := C) hb
    subst h2
    cases hp : isNonNilSlice p
    · simp [hp] at h
    · simp [hp] at h; subst h
      obtain ⟨ad, n, cap, rfl⟩ := live_slice ha hla hp
      simp [Op.equalIn, run_underlying hd]
  · cases h

theorem eqA_run (hm : Mem C) {t : TypeId} {x y : Operand} {a b : AV} {ca cb : Value} {r : Bool} (ha : RepT C a ca) (hb : RepT C b cb) (hla : liveA C.lb C.st a = true) (h : eqA C.E t x y a b = some r) (w : World) (hw : w = C.w) :
    (∀ d, (Op.equalIn (d + 2) t ca cb).run C.E.P w = .ok r w) ∧ (∀ as, ca ≠ .agg as) ∧ (ca = .nilIface → cb = .nilIface → (constOp x || constOp y) = true) ∧
      (∀ k n, ca ≠ .int k n) ∧ (∀ k n, ca ≠ .float k n) ∧ (∀ k n m, ca ≠ .complex k n m) ∧ (∀ s, ca ≠ .string s) := by
  by_cases hs : ∃ t j u k, a = .ifc t (.sp j) ∧ b = .ifc u (.sp k)
  · obtain ⟨tj, j, tk, k, rfl, rfl⟩ := hs
    unfold eqA at h
    cases hd : C.E.P.underlying t with
    | none => simp [hd] at h
    | some ut =>
      cases ut with
      | interface ms =>
        simp only [hd] at h
        obtain ⟨uj, rfl, huj⟩ := rep_ifc (C := C) ha
        obtain ⟨uk, rfl, huk⟩ := rep_ifc (C := C) hb
        have ej := (rep_sp huj).1
        have ek := (rep_sp huk).1
        cases hcnd : (C.E.sent j && C.E.sent k && Nat.beq tj tk && ptrOK C.E tj)
        · simp [hcnd] at h
        · simp only [hcnd, cond_true, Option.some.injEq] at h
          subst h
          simp only [Bool.and_eq_true] at hcnd
          obtain ⟨⟨⟨sj, sk⟩, htt⟩, hok⟩ := hcnd
          have htt := Nat.eq_of_beq_eq_true htt
          subst htt
          unfold ptrOK at hok
          split at hok
          · rename_i te i hpt hi
            simp only [Bool.and_eq_true] at hok
            obtain ⟨hcomp, hok⟩ := hok
            split at hok
            · rename_i jf hte
              obtain ⟨aj, cj, tj', e1, _, e2⟩ := hm.glob.sent j sj
              obtain ⟨ak, ck, tk', f1, _, f2⟩ := hm.glob.sent k sk
              have e1 : C.ga j = .pointer (some aj) := e1
              have f1 : C.ga k = .pointer (some ak) := f1
              rw [e1] at ej; rw [f1] at ek
              subst ej ek
              have hsz : jf.size ≠ 0 := fun h0 => by simp [h0] at hok
              refine ⟨fun d => ?_, by simp, by simp, by simp, by simp, by simp, by simp⟩
              subst hw
              cases hjk : Nat.beq j k
              · refine run_equalIn_iface_ptr_other _ d hd hpt hi hcomp hte hsz (fun he => ?_) e2 f2
                have : C.F.ga j = C.F.ga k := by show C.ga j = C.ga k; rw [e1, f1, he]
                have := hm.glob.inj j k sj sk this
                subst this
                simp at hjk
              · have := Nat.eq_of_beq_eq_true hjk
                subst this
                rw [e1] at f1
                cases f1
                exact run_equalIn_iface_ptr_same _ d aj hd hpt hi hcomp hte
            · cases hok
          · cases hok
      | _ => simp [hd, isNonNilPtr, isNonNilSlice] at h
  · obtain ⟨r1, r2⟩ := eqA_run0 ha hb hla h (fun t j u k h1 h2 => hs ⟨t, j, u, k, h1, h2⟩) w
    exact ⟨fun d => r1 (d + 1), r2⟩

theorem binOp_eq {op : BinOp} (hop : op = .eql ∨ op = .neq) {t : TypeId} {ca cb : Value} {r : Bool} {P : Program} {w : World} (he : ∀ d, (Op.equalIn (d + 2) t ca cb).run P w = .ok r w)
    (h1 : ∀ k n, ca ≠ .int k n) (h2 : ∀ k n, ca ≠ .float k n) (h3 : ∀ k n m, ca ≠ .complex k n m) (h4 : ∀ s, ca ≠ .string s) :
    (Go.binOp op t ca cb).run P w = .ok (.bool (if op = .eql then r else !r)) w := by
  have he : (Op.equal t ca cb).run P w = .ok r w := he 9998
  rcases hop with rfl | rfl <;> cases ca <;> first
    | (exact absurd rfl (h1 _ _))
    | (exact absurd rfl (h2 _ _))
    | (exact absurd rfl (h3 _ _ _))
    | (exact absurd rfl (h4 _))
    | (simp [Go.binOp, he]; done)

theorem binA_sound (hm : Mem C) {op : BinOp} {t : TypeId} {x y : Operand} {a b v : AV} {ca cb : Value} (ha : RepT C a ca) (hb : RepT C b cb) (hla : liveA C.lb C.st a = true) (h : binA C.E op t x y a b = some v) (w : World) (hw : w = C.w) :
    ∃ u, (do eqGuard op t x y ca cb; Go.binOp op t ca cb : Sem Value).run C.E.P w = .ok u w ∧ Rep C v u := by
  unfold binA at h
  split at h
  · rename_i k p k' q
    have h1 := repT_sc (C := C) ha
    have h2 := repT_sc (C := C) hb
    subst h1 h2
    have hg := eqGuard_run (op := op) (t := t) (x := x) (y := y) (a := .int k p) (b := .int k' q) (w := w) C.E.P (by simp) (by simp)
    split at h
    · cases hs : shiftA .shl k p q with
      | none => simp [hs] at h
      | some u =>
        simp [hs] at h; subst h
        obtain ⟨r1, r2⟩ := shiftA_run (k' := k') (.inl rfl) hs t C.E.P w
        exact ⟨u, by simp [hg, r1], .fz (.sc r2)⟩
    · cases hs : shiftA .shr k p q with
      | none => simp [hs] at h
      | some u =>
        simp [hs] at h; subst h
        obtain ⟨r1, r2⟩ := shiftA_run (k' := k') (.inr rfl) hs t C.E.P w
        exact ⟨u, by simp [hg, r1], .fz (.sc r2)⟩
    · split at h
      · rename_i hk
        subst hk
        cases hs : binInt op k p q with
        | none => simp [hs] at h
        | some u =>
          simp [hs] at h; subst h
          obtain ⟨r1, r2⟩ := binInt_run hs t C.E.P w
          exact ⟨u, by simp [hg, r1], .fz (.sc r2)⟩
      · cases h
  · rename_i p q
    have h1 := repT_sc (C := C) ha
    have h2 := repT_sc (C := C) hb
    subst h1 h2
    have hg := eqGuard_run (op := op) (t := t) (x := x) (y := y) (a := .string p) (b := .string q) (w := w) C.E.P (by simp) (by simp)
    split at h
    · simp at h; subst h
      exact ⟨.bool (p.toList == q.toList), by simp [hg, Go.binOp, Op.stringOp], .fz (.sc rfl)⟩
    · simp at h; subst h
      exact ⟨.bool (!(p.toList == q.toList)), by simp [hg, Go.binOp, Op.stringOp], .fz (.sc rfl)⟩
    · cases h
  · split at h
    · rename_i r ho he
      simp at h; subst h
      have hop : op = .eql := by cases op <;> simp [isEq] at ho ⊢
      obtain ⟨r1, r2, r3, r4, r5, r6, r7⟩ := eqA_run hm ha hb hla he w hw
      have hg := eqGuard_run (op := op) (t := t) (x := x) (y := y) (w := w) C.E.P r2 r3
      subst hop
      have he' := binOp_eq (.inl rfl) r1 r4 r5 r6 r7
      refine ⟨.bool r, ?_, .fz (.sc rfl)⟩
      simp only [Sem.run_bind, hg, Result.andThen_ok, he', if_true]
    · rename_i r ho he
      simp at h; subst h
      have hop : op = .neq := by cases op <;> simp [isEq] at ho ⊢
      obtain ⟨r1, r2, r3, r4, r5, r6, r7⟩ := eqA_run hm ha hb hla he w hw
      have hg := eqGuard_run (op := op) (t := t) (x := x) (y := y) (w := w) C.E.P r2 r3
      subst hop
      have he' := binOp_eq (.inr rfl) r1 r4 r5 r6 r7
      refine ⟨.bool (!r), ?_, .fz (.sc rfl)⟩
      simp only [Sem.run_bind, hg, Result.andThen_ok, he']
      rfl
    · cases h

/-! ### zeros, parts -/
theorem zeroA_sound {t : TypeId} {z : AV} (h : zeroA C.E t = some z) : ∃ u, (∀ w, (zeroValue t).run C.E.P w = .ok u w) ∧ (∃ i, C.E.P.info? t = some i ∧ i.zero = some u) ∧ (∀ F : FC, FRep F z u) ∧
    u.cells.size = z.cells.length ∧ (∀ (j : Nat) (x : AV) (c : Value) (F : FC), z.cells[j]? = some x → u.cells[j]? = some c → FRep F x c) ∧ (∀ x ∈ z.cells, x.isCell = true ∧ isFz x = true) := by
  unfold zeroA at h
  cases hi : C.E.P.info? t with
  | none => simp [hi] at h
  | some i =>
    simp only [hi, Option.bind_some] at h
    cases hz : i.zero with
    | none => simp [hz] at h
    | some u =>
      have hrun : ∀ w, (zeroValue t).run C.E.P w = .ok u w := fun w => by simp [zeroValue, typeInfo, hi, hz]
      have sccell : ∀ v : Value, scal v = true → v.oneCell' = true → (AV.sc v).isCell = true ∧ isFz (AV.sc v) = true := fun v h1 h2 => by
        cases v <;> simp_all [AV.isCell, isFz, Value.oneCell']
      have lone : ∀ v : Value, (∀ cs, v ≠ .agg cs) → (bif scal v && v.oneCell' then some (AV.sc v) else none) = some z → ∃ u', (∀ w, (zeroValue t).run C.E.P w = .ok u' w) → u' = v →
          (∀ F : FC, FRep F z u') ∧ u'.cells.size = z.cells.length ∧ (∀ (j : Nat) (x : AV) (c : Value) (F : FC), z.cells[j]? = some x → u'.cells[j]? = some c → FRep F x c) ∧ (∀ x ∈ z.cells, x.isCell = true ∧ isFz x = true) := by
        intro v hv hc
        refine ⟨v, fun _ _ => ?_⟩
        cases hs : (scal v && v.oneCell')
        · simp [hs] at hc
        · simp [hs] at hc
          subst hc
          simp only [Bool.and_eq_true] at hs
          have hcells : v.cells = #[v] := by cases v <;> first | rfl | exact absurd rfl (hv _)
          refine ⟨fun F => .sc hs.1, by simp [hcells, AV.cells], fun j x c F hx hc => ?_, fun x hx => ?_⟩
          · cases j with
            | zero => simp [AV.cells, hcells] at hx hc; subst hx hc; exact .sc hs.1
            | succ j => simp [AV.cells] at hx
          · simp [AV.cells] at hx; subst hx; exact sccell v hs.1 hs.2
      by_cases ha : ∃ cs, u = .agg cs
      · obtain ⟨cs, rfl⟩ := ha
        simp only [hz] at h
        cases hs : (cs.toList.all fun v => scal v && v.oneCell')
        · simp [hs] at h
        · simp [hs] at h
          subst h
          have hall : ∀ v ∈ cs.toList, scal v = true ∧ v.oneCell' = true := fun v hv => by
            have := List.all_eq_true.1 hs v hv
            simpa using this
          have hget : ∀ (j : Nat) (x : AV) (c : Value) (F : FC), (cs.toList.map AV.sc)[j]? = some x → cs[j]? = some c → FRep F x c := fun j x c F hx hc => by
            have hc' : cs.toList[j]? = some c := by simpa using hc
            rw [List.getElem?_map, hc'] at hx
            simp at hx
            subst hx
            exact .sc (hall c (List.mem_of_getElem? hc')).1
          refine ⟨.agg cs, hrun, ⟨i, rfl, hz⟩, fun F => .agg (by simp) (fun j x c hx hc => hget j x c F (by simpa using hx) hc), by simp [Value.cells, AV.cells], fun j x c F hx hc => hget j x c F (by simpa [AV.cells] using hx) hc, fun x hx => ?_⟩
          simp [AV.cells] at hx
          obtain ⟨v, hv, rfl⟩ := hx
          obtain ⟨h1, h2⟩ := hall v (by simpa using hv)
          exact sccell v h1 h2
      · have hne : ∀ cs, u ≠ .agg cs := fun cs he => ha ⟨cs, he⟩
        have h' : (bif scal u && u.oneCell' then some (AV.sc u) else none) = some z := by
          rw [hz] at h
          cases u <;> first | exact h | exact absurd rfl (hne _)
        obtain ⟨u', hu'⟩ := lone u hne h'
        by_cases e : u' = u
        · subst e
          obtain ⟨a1, a2, a3, a4⟩ := hu' hrun rfl
          exact ⟨u', hrun, ⟨i, rfl, hz⟩, a1, a2, a3, a4⟩
        · -- the witness is u itself
          cases hs : (scal u && u.oneCell')
          · simp [hs] at h'
          · simp [hs] at h'
            subst h'
            simp only [Bool.and_eq_true] at hs
            have hcells : u.cells = #[u] := by cases u <;> first | rfl | exact absurd rfl (hne _)
            refine ⟨u, hrun, ⟨i, rfl, hz⟩, fun F => .sc hs.1, by simp [hcells, AV.cells], fun j x c F hx hc => ?_, fun x hx => ?_⟩
            · cases j with
              | zero => simp [AV.cells, hcells] at hx hc; subst hx hc; exact .sc hs.1
              | succ j => simp [AV.cells] at hx
            · simp [AV.cells] at hx; subst hx; exact sccell u hs.1 hs.2

end
end Go.Proofs.YtcfaajaccbadbaaDoor.Ahm
