/- The abstract machine without fuel: what it answers with enough of it. -/
import Derived.Test.YtcfaajaccbadbaaDoorAhmZ
set_option linter.unusedSimpArgs false
set_option linter.unusedVariables false
namespace Go.Proofs.YtcfaajaccbadbaaDoor.Ahm
open Go

/-- One call function answers all that another one does. -/
def Le (f g : CallF) : Prop := ∀ a as st x, f a as st = some x → g a as st = some x
theorem Le.refl (f : CallF) : Le f f := fun _ _ _ _ h => h
theorem Le.trans {f g h : CallF} (a : Le f g) (b : Le g h) : Le f h := fun _ _ _ _ x => b _ _ _ _ (a _ _ _ _ x)

section
variable {E : Env}

theorem callA_mono {f g : CallF} (h : Le f g) {m : Tm} {st : List AObj} {o : Oper} {x : AV × List AObj} (hx : callA f m st o = some x) : callA g m st o = some x := by
  unfold callA at hx ⊢
  split at hx
  · rename_i y args _ ho
    split at hx
    · rename_i gg first cap as h1 h2
      cases hl : as.any AV.isLp
      · simp only [hl, cond_false] at hx ⊢; exact h _ _ _ _ hx
      · simp [hl] at hx
    · cases hx
  · cases hx

theorem runOp_mono {f g : CallF} (h : Le f g) {n : FuncId} {m : Tm} {lb : Lb} {st : List AObj} {o : Oper} {x : AV × Lb × List AObj × Bool} (hx : runOp E f n m lb st o = some x) : runOp E g n m lb st o = some x := by
  unfold runOp at hx ⊢
  split
  · rename_i v hq; simp only [hq] at hx; exact hx
  · rename_i hq
    simp only [hq] at hx
    split
    · rename_i v he; simp only [he] at hx; exact hx
    · rename_i he
      simp only [he] at hx
      cases hc : callA f m st o with
      | none => simp [hc] at hx
      | some y => rw [callA_mono h hc]; simpa [hc] using hx

theorem runOpD_mono {f g : CallF} (h : Le f g) {n : FuncId} {m : Tm} {lb : Lb} {st : List AObj} {o : Oper} {x : AV × Lb × List AObj × Bool} (hx : runOpD E f n m lb st o = some x) : runOpD E g n m lb st o = some x := by
  unfold runOpD at hx ⊢
  split
  · rename_i hl; simp only [hl] at hx; exact hx
  · rename_i hl; simp only [hl] at hx; exact runOp_mono h hx

theorem evOps_mono {f g : CallF} (h : Le f g) {n N : Nat} {ops : List Oper} : ∀ {r : List Oper} {s s' : St}, evOps E f n N ops r s = some s' → evOps E g n N ops r s = some s'
  | [], s, s', hx => hx
  | o :: r, s, s', hx => by
    simp only [evOps] at hx ⊢
    split at hx
    · cases hx
    · rename_i hw
      split at hx
      · cases hx
      · rename_i m hm; try simp only [hw, hm]
        exact evOps_mono h hx
    · rename_i hw
      split at hx
      · cases hx
      · rename_i v lb st e hr
        try simp only [hw]
        simp only [runOp_mono h hr]
        split at hx
        · cases hx
        · rename_i m hm; try simp only [hm]
          exact evOps_mono h hx

theorem evRecs_mono {f g : CallF} (h : Le f g) {n N : Nat} {ops : List Oper} : ∀ {r : List Oper} {s : St} {x : List Rec × List (Lb × List AObj) × St}, evRecs E f n N ops r s = some x → evRecs E g n N ops r s = some x
  | [], s, x, hx => hx
  | o :: r, s, x, hx => by
    simp only [evRecs] at hx ⊢
    split at hx
    · cases hx
    · rename_i hw
      split at hx
      · cases hx
      · rename_i m hm
        try simp only [hw, hm]
        split at hx
        · rename_i hr; simp only [evRecs_mono h hr]; exact hx
        · cases hx
    · rename_i hw
      split at hx
      · cases hx
      · rename_i v lb st e hr
        try simp only [hw]
        simp only [runOpD_mono h hr]
        split at hx
        · cases hx
        · rename_i m hm
          try simp only [hm]
          split at hx
          · rename_i hr; simp only [evRecs_mono h hr]; exact hx
          · cases hx

theorem evDraw_mono {f g : CallF} (h : Le f g) {n N : Nat} {ops : List Oper} {s s' : St} (hx : evDraw E f n N ops s = some s') : evDraw E g n N ops s = some s' := by
  unfold evDraw at hx ⊢
  split at hx
  · cases hx
  · rename_i lb hl
    simp only [hl]
    split at hx
    · cases hx
    · rename_i rs hs s2 hr
      simp only [evRecs_mono h hr]
      exact hx

theorem reg_mono {f g : CallF} (h : Le f g) {n N : Nat} {ops : Array Oper} {d : Bool} {s s' : St} (hx : (bif d then evDraw E f n N ops.toList s else evOps E f n N ops.toList ops.toList s) = some s') :
    (bif d then evDraw E g n N ops.toList s else evOps E g n N ops.toList ops.toList s) = some s' := by
  cases d
  · exact evOps_mono h hx
  · exact evDraw_mono h hx

theorem ev_mono {f g : CallF} (h : Le f g) {n N : Nat} : ∀ {k k' : Nat} {c : Code} {s : St} {r : AX × St}, k ≤ k' → ev E f n N k c s = some r → ev E g n N k' c s = some r
  | 0, _, c, s, r, _, hx => by simp [ev] at hx
  | k + 1, 0, c, s, r, hk, hx => by omega
  | k + 1, k' + 1, c, s, r, hk, hx => by
    have hk' : k ≤ k' := by omega
    have ih : ∀ {c : Code} {s : St} {r : AX × St}, ev E f n N k c s = some r → ev E g n N k' c s = some r := fun hx => ev_mono h hk' hx
    cases c with
    | skip => simpa [ev] using hx
    | label x => simpa [ev] using hx
    | region id ops d =>
      simp only [ev] at hx ⊢
      split at hx
      · rename_i s2 hs; rw [reg_mono h hs]; exact hx
      · cases hx
    | seq a b =>
      simp only [ev] at hx ⊢
      cases ha : ev E f n N k a s with
      | none => simp [ha] at hx
      | some y =>
        obtain ⟨ax, s2⟩ := y
        rw [ih ha]
        rw [ha] at hx
        cases ax with
        | norm => exact ih hx
        | exit i => exact hx
        | ret => exact hx
    | cond c a b =>
      simp only [ev] at hx ⊢
      split at hx
      · rename_i t ht; exact ih hx
      · cases hx
    | block id c =>
      simp only [ev] at hx ⊢
      cases ha : ev E f n N k c s with
      | none => simp [ha] at hx
      | some y => rw [ih ha]; rw [ha] at hx; exact hx
    | loop c =>
      simp only [ev] at hx ⊢
      cases ha : ev E f n N k c s with
      | none => simp [ha] at hx
      | some y =>
        obtain ⟨ax, s2⟩ := y
        rw [ih ha]
        rw [ha] at hx
        cases ax with
        | norm => exact ih hx
        | exit i => exact hx
        | ret => exact hx
    | scope c => simp only [ev] at hx ⊢; exact ih hx
    | exit id => simpa [ev] using hx
    | ret => simpa [ev] using hx
    | _ => simp [ev] at hx

theorem body_mono {f g : CallF} (h : Le f g) {k k' : Nat} (hk : k ≤ k') {a : FuncId} {as : List AV} {st : List AObj} {x : AV × List AObj} (hx : body E f k a as st = some x) : body E g k' a as st = some x := by
  unfold body at hx ⊢
  split
  · rename_i fn hf
    simp only [hf] at hx
    split
    · rename_i c hc
      simp only [hc] at hx
      cases hb : (fn.name == "runtime.NumGoroutine" || as.any AV.isLp || !Nat.ble as.length fn.ntmps)
      · simp only [hb, cond_false] at hx ⊢
        cases hv : ev E f a fn.ntmps k c { tm := number 0 as, lb := [], st } with
        | none => simp [hv] at hx
        | some y => rw [ev_mono h hk hv]; rw [hv] at hx; exact hx
      · simp [hb] at hx
    · rename_i hc; simp [hc] at hx
  · rename_i hf; simp [hf] at hx

theorem alone_mono {f g : CallF} (h : Le f g) {k k' : Nat} (hk : k ≤ k') {a : FuncId} {as : List AV} {x : AV} (hx : alone E f k a as = some x) : alone E g k' a as = some x := by
  unfold alone at hx ⊢
  cases hb : body E f k a as [] with
  | none => simp [hb] at hx
  | some y => rw [body_mono h hk hb]; rw [hb] at hx; exact hx

theorem pureCall_mono {a : FuncId} {run run' : List AV → Option AV} (h : ∀ as x, run as = some x → run' as = some x) {as : List AV} {st : List AObj} {x : AV × List AObj} (hx : pureCall E a run as st = some x) : pureCall E a run' as st = some x := by
  unfold pureCall at hx ⊢
  split at hx
  · cases hx
  · rename_i bs hbs
    simp only
    split at hx
    · cases hx
    · rename_i r hr; rw [h _ _ hr]; exact hx

theorem call_mono {k k' : Nat} (hk : k ≤ k') : ∀ {n n' : Nat}, n ≤ n' → Le (call E k n) (call E k' n')
  | 0, _, _ => fun a as st x h => by simp [call] at h
  | n + 1, 0, h => by omega
  | n + 1, n' + 1, h => fun a as st x hx => by
    have ih : Le (call E k n) (call E k' n') := call_mono hk (by omega)
    simp only [call] at hx ⊢
    cases hp : E.prim a with
    | some p => simp only [hp] at hx ⊢; exact hx
    | none =>
      simp only [hp] at hx ⊢
      cases hu : E.pure a
      · simp only [hu, cond_false] at hx ⊢; exact body_mono ih hk hx
      · simp only [hu, cond_true] at hx ⊢; exact pureCall_mono (fun _ _ h => alone_mono ih hk h) hx

end

/-! ### with enough fuel -/
/-- The answers of a family that grows. -/
noncomputable def sup {α : Type} (f : Nat → Option α) : Option α :=
  open Classical in if h : ∃ x k, f k = some x then some h.choose else none

theorem sup_iff {α : Type} {f : Nat → Option α} (hm : ∀ {k k' : Nat} {x : α}, k ≤ k' → f k = some x → f k' = some x) {x : α} : sup f = some x ↔ ∃ k, f k = some x := by
  unfold sup
  constructor
  · intro h
    split at h
    · rename_i hx
      obtain rfl := Option.some.inj h
      exact hx.choose_spec
    · cases h
  · rintro ⟨k, hk⟩
    have hx : ∃ x k, f k = some x := ⟨x, k, hk⟩
    rw [dif_pos hx]
    obtain ⟨k', hk'⟩ := hx.choose_spec
    have h1 := hm (Nat.le_max_left k k') hk
    have h2 := hm (Nat.le_max_right k k') hk'
    exact h2.symm.trans h1

section
variable (E : Env)

/-- A call, with enough fuel. -/
noncomputable def callL : CallF := fun g as st => sup fun n => call E n n g as st
/-- Code, with enough fuel. -/
noncomputable def evL (f N : Nat) (c : Code) (s : St) : Option (AX × St) := sup fun k => ev E (callL E) f N k c s

variable {E}
theorem callL_iff {g : FuncId} {as : List AV} {st : List AObj} {x : AV × List AObj} : callL E g as st = some x ↔ ∃ n, call E n n g as st = some x :=
  sup_iff fun h hx => call_mono h h _ _ _ _ hx
theorem evL_iff {f N : Nat} {c : Code} {s : St} {x : AX × St} : evL E f N c s = some x ↔ ∃ k, ev E (callL E) f N k c s = some x :=
  sup_iff fun h hx => ev_mono (Le.refl _) h hx

theorem call_le (n : Nat) : Le (call E n n) (callL E) := fun _ _ _ _ h => callL_iff.2 ⟨n, h⟩
theorem call_up {n m : Nat} (h : n ≤ m) : Le (call E n n) (call E m m) := call_mono h h

/-! what is reached is reached with some fuel -/
theorem callA_cont {m : Tm} {st : List AObj} {o : Oper} {x : AV × List AObj} (hx : callA (callL E) m st o = some x) : ∃ n, callA (call E n n) m st o = some x := by
  unfold callA at hx
  split at hx
  · rename_i y args _ ho
    split at hx
    · rename_i gg first cap as h1 h2
      cases hl : as.any AV.isLp
      · simp only [hl, cond_false] at hx
        obtain ⟨n, hn⟩ := callL_iff.1 hx
        refine ⟨n, ?_⟩
        unfold callA
        simp only [ho, h1, h2, hl, cond_false]
        exact hn
      · simp [hl] at hx
    · cases hx
  · cases hx

theorem runOp_cont {f : FuncId} {m : Tm} {lb : Lb} {st : List AObj} {o : Oper} {x : AV × Lb × List AObj × Bool} (hx : runOp E (callL E) f m lb st o = some x) : ∃ n, runOp E (call E n n) f m lb st o = some x := by
  unfold runOp at hx
  cases hq : quiet E m lb st o with
  | some v => exact ⟨0, by unfold runOp; simp only [hq] at hx ⊢; exact hx⟩
  | none =>
    simp only [hq] at hx
    cases he : effect E f m lb st o with
    | some v => exact ⟨0, by unfold runOp; simp only [hq, he] at hx ⊢; exact hx⟩
    | none =>
      simp only [he] at hx
      cases hc : callA (callL E) m st o with
      | none => simp [hc] at hx
      | some y =>
        obtain ⟨n, hn⟩ := callA_cont hc
        exact ⟨n, by unfold runOp; simp only [hq, he, hn]; simpa [hc] using hx⟩

theorem runOpD_cont {f : FuncId} {m : Tm} {lb : Lb} {st : List AObj} {o : Oper} {x : AV × Lb × List AObj × Bool} (hx : runOpD E (callL E) f m lb st o = some x) : ∃ n, runOpD E (call E n n) f m lb st o = some x := by
  unfold runOpD at hx
  cases hl : locAlloc E f o with
  | some y => exact ⟨0, by unfold runOpD; simp only [hl] at hx ⊢; exact hx⟩
  | none =>
    simp only [hl] at hx
    obtain ⟨n, hn⟩ := runOp_cont hx
    exact ⟨n, by unfold runOpD; simp only [hl]; exact hn⟩

theorem evOps_cont {f N : Nat} {ops : List Oper} : ∀ {r : List Oper} {s s' : St}, evOps E (callL E) f N ops r s = some s' → ∃ n, evOps E (call E n n) f N ops r s = some s'
  | [], s, s', hx => ⟨0, hx⟩
  | o :: r, s, s', hx => by
    simp only [evOps] at hx
    split at hx
    · cases hx
    · rename_i hw
      split at hx
      · cases hx
      · rename_i m hm
        obtain ⟨n, hn⟩ := evOps_cont hx
        exact ⟨n, by simp only [evOps, hw, hm]; exact hn⟩
    · rename_i hw
      split at hx
      · cases hx
      · rename_i v lb st e hr
        split at hx
        · cases hx
        · rename_i m hm
          obtain ⟨n, hn⟩ := runOp_cont hr
          obtain ⟨n', hn'⟩ := evOps_cont hx
          refine ⟨max n n', ?_⟩
          simp only [evOps, hw, runOp_mono (call_up (Nat.le_max_left n n')) hn, hm]
          exact evOps_mono (call_up (Nat.le_max_right n n')) hn'

theorem evRecs_cont {f N : Nat} {ops : List Oper} : ∀ {r : List Oper} {s : St} {x : List Rec × List (Lb × List AObj) × St}, evRecs E (callL E) f N ops r s = some x → ∃ n, evRecs E (call E n n) f N ops r s = some x
  | [], s, x, hx => ⟨0, hx⟩
  | o :: r, s, x, hx => by
    simp only [evRecs] at hx
    split at hx
    · cases hx
    · rename_i hw
      split at hx
      · cases hx
      · rename_i m hm
        split at hx
        · rename_i hr
          obtain ⟨n, hn⟩ := evRecs_cont hr
          exact ⟨n, by simp only [evRecs, hw, hm, hn]; exact hx⟩
        · cases hx
    · rename_i hw
      split at hx
      · cases hx
      · rename_i v lb st e hr
        split at hx
        · cases hx
        · rename_i m hm
          split at hx
          · rename_i hr2
            obtain ⟨n, hn⟩ := runOpD_cont hr
            obtain ⟨n', hn'⟩ := evRecs_cont hr2
            refine ⟨max n n', ?_⟩
            simp only [evRecs, hw, runOpD_mono (call_up (Nat.le_max_left n n')) hn, hm, evRecs_mono (call_up (Nat.le_max_right n n')) hn']
            exact hx
          · cases hx

theorem reg_cont {f N : Nat} {ops : Array Oper} {d : Bool} {s s' : St} (hx : (bif d then evDraw E (callL E) f N ops.toList s else evOps E (callL E) f N ops.toList ops.toList s) = some s') :
    ∃ n, (bif d then evDraw E (call E n n) f N ops.toList s else evOps E (call E n n) f N ops.toList ops.toList s) = some s' := by
  cases d
  · exact evOps_cont hx
  · simp only [cond_true] at hx ⊢
    unfold evDraw at hx
    split at hx
    · cases hx
    · rename_i lb hl
      split at hx
      · cases hx
      · rename_i rs hs s2 hr
        obtain ⟨n, hn⟩ := evRecs_cont hr
        exact ⟨n, by unfold evDraw; simp only [hl, hn]; exact hx⟩

theorem ev_cont {f N : Nat} : ∀ {k : Nat} {c : Code} {s : St} {r : AX × St}, ev E (callL E) f N k c s = some r → ∃ n, ev E (call E n n) f N k c s = some r
  | 0, c, s, r, hx => by simp [ev] at hx
  | k + 1, c, s, r, hx => by
    have ih : ∀ {c : Code} {s : St} {r : AX × St}, ev E (callL E) f N k c s = some r → ∃ n, ev E (call E n n) f N k c s = some r := fun hx => ev_cont hx
    cases c with
    | skip => exact ⟨0, by simpa [ev] using hx⟩
    | label x => exact ⟨0, by simpa [ev] using hx⟩
    | region id ops d =>
      simp only [ev] at hx
      split at hx
      · rename_i s2 hs
        obtain ⟨n, hn⟩ := reg_cont hs
        exact ⟨n, by simp only [ev, hn]; exact hx⟩
      · cases hx
    | seq a b =>
      simp only [ev] at hx
      cases ha : ev E (callL E) f N k a s with
      | none => simp [ha] at hx
      | some y =>
        obtain ⟨ax, s2⟩ := y
        obtain ⟨n, hn⟩ := ih ha
        rw [ha] at hx
        cases ax with
        | norm =>
          obtain ⟨n', hn'⟩ := ih hx
          exact ⟨max n n', by simp only [ev, ev_mono (call_up (Nat.le_max_left n n')) (Nat.le_refl _) hn]; exact ev_mono (call_up (Nat.le_max_right n n')) (Nat.le_refl _) hn'⟩
        | exit i => exact ⟨n, by simp only [ev, hn]; exact hx⟩
        | ret => exact ⟨n, by simp only [ev, hn]; exact hx⟩
    | cond c a b =>
      simp only [ev] at hx
      split at hx
      · rename_i t ht
        obtain ⟨n, hn⟩ := ih hx
        exact ⟨n, by simp only [ev, ht]; exact hn⟩
      · cases hx
    | block id c =>
      simp only [ev] at hx
      cases ha : ev E (callL E) f N k c s with
      | none => simp [ha] at hx
      | some y =>
        obtain ⟨n, hn⟩ := ih ha
        rw [ha] at hx
        exact ⟨n, by simp only [ev, hn]; exact hx⟩
    | loop c =>
      simp only [ev] at hx
      cases ha : ev E (callL E) f N k c s with
      | none => simp [ha] at hx
      | some y =>
        obtain ⟨ax, s2⟩ := y
        obtain ⟨n, hn⟩ := ih ha
        rw [ha] at hx
        cases ax with
        | norm =>
          obtain ⟨n', hn'⟩ := ih hx
          exact ⟨max n n', by simp only [ev, ev_mono (call_up (Nat.le_max_left n n')) (Nat.le_refl _) hn]; exact ev_mono (call_up (Nat.le_max_right n n')) (Nat.le_refl _) hn'⟩
        | exit i => exact ⟨n, by simp only [ev, hn]; exact hx⟩
        | ret => exact ⟨n, by simp only [ev, hn]; exact hx⟩
    | scope c =>
      simp only [ev] at hx
      obtain ⟨n, hn⟩ := ih hx
      exact ⟨n, by simp only [ev]; exact hn⟩
    | exit id => exact ⟨0, by simpa [ev] using hx⟩
    | ret => exact ⟨0, by simpa [ev] using hx⟩
    | _ => simp [ev] at hx

/-! ### the equations, and what they are good for -/
/-- the rest of a body behind its code -/
def ending (E : Env) (fn : Func) : Option (AX × St) → Option (AV × List AObj)
  | some (.norm, s) | some (.ret, s) => match resultA E s.lb s.st s.tm fn.results.toList with
    | some vs => some (packA vs, s.st)
    | none => none
  | _ => none

theorem callL_prim {g : FuncId} {p : List AV → Option AV} (hp : E.prim g = some p) {as : List AV} {st : List AObj} : callL E g as st = pureCall E g p as st := by
  apply Option.ext
  intro x
  rw [callL_iff]
  constructor
  · rintro ⟨n, hn⟩
    cases n with
    | zero => simp [call] at hn
    | succ n => simpa [call, hp] using hn
  · intro h; exact ⟨1, by simpa [call, hp] using h⟩

theorem body_of {g : FuncId} {fn : Func} {c : Code} (hf : E.P.funcs[g]? = some fn) (hb : fn.body = some c) (hn : (fn.name == "runtime.NumGoroutine") = false) {as : List AV} (hl : as.any AV.isLp = false) (hk : Nat.ble as.length fn.ntmps = true) (callf : CallF) (k : Nat) (st : List AObj) :
    body E callf k g as st = ending E fn (ev E callf g fn.ntmps k c { tm := number 0 as, lb := [], st }) := by
  unfold body
  simp only [hf, hb, hn, hl, hk]
  rfl

/-- A call that is handed the memory. -/
theorem callL_body {g : FuncId} {fn : Func} {c : Code} (hp : E.prim g = none) (hu : E.pure g = false) (hf : E.P.funcs[g]? = some fn) (hb : fn.body = some c) (hn : (fn.name == "runtime.NumGoroutine") = false) {as : List AV} (hl : as.any AV.isLp = false) (hk : Nat.ble as.length fn.ntmps = true)
    {st : List AObj} {r : AX × St} {x : AV × List AObj} (h : evL E g fn.ntmps c { tm := number 0 as, lb := [], st } = some r) (hx : ending E fn (some r) = some x) : callL E g as st = some x := by
  obtain ⟨k, hk'⟩ := evL_iff.1 h
  obtain ⟨n, hn'⟩ := ev_cont hk'
  rw [callL_iff]
  refine ⟨max n k + 1, ?_⟩
  simp only [call, hp, hu, cond_false]
  rw [body_of hf hb hn hl hk, ev_mono (call_mono (by omega) (by omega)) (by omega) hn']
  exact hx

/-- A call that is handed frozen values. -/
theorem callL_pure {g : FuncId} {fn : Func} {c : Code} (hp : E.prim g = none) (hu : E.pure g = true) (hf : E.P.funcs[g]? = some fn) (hb : fn.body = some c) (hn : (fn.name == "runtime.NumGoroutine") = false) {args as : List AV} {st : List AObj} (hres : mapO (res E st depthA) args = some as) (hl : as.any AV.isLp = false) (hk : Nat.ble as.length fn.ntmps = true)
    {r : AX × St} {v : AV} {st2 : List AObj} {u : AV} (h : evL E g fn.ntmps c { tm := number 0 as, lb := [], st := [] } = some r) (hx : ending E fn (some r) = some (v, st2)) (hv : res E st2 depthA v = some u)
    {y : AV × List AObj} (hy : pureCall E g (fun _ => some u) args st = some y) : callL E g args st = some y := by
  obtain ⟨k, hk'⟩ := evL_iff.1 h
  obtain ⟨n, hn'⟩ := ev_cont hk'
  rw [callL_iff]
  refine ⟨max n k + 1, ?_⟩
  simp only [call, hp, hu, cond_true]
  have hal : alone E (call E (max n k + 1) (max n k)) (max n k + 1) g as = some u := by
    unfold alone
    rw [body_of hf hb hn hl hk, ev_mono (call_mono (by omega) (by omega)) (by omega) hn', hx]
    exact hv
  unfold pureCall at hy ⊢
  simp only [hres] at hy ⊢
  rw [hal]
  exact hy

end

/-- From the answer without fuel to what the program does. -/
theorem pure_of_evL {E : Env} (hmix : E.P.follows .mixedOrders = true) (hprim : PrimOk E) {g : FuncId} {fn : Func} {c : Code} (hf : E.P.funcs[g]? = some fn) (hb : fn.body = some c) (hn : (fn.name == "runtime.NumGoroutine") = false) {as : List AV} (hl : as.any AV.isLp = false) (hk : Nat.ble as.length fn.ntmps = true)
    {r : AX × St} {v : AV} {st2 : List AObj} {u : AV} (h : evL E g fn.ntmps c { tm := number 0 as, lb := [], st := [] } = some r) (hx : ending E fn (some r) = some (v, st2)) (hv : res E st2 depthA v = some u) : PureSpec E g as u := by
  obtain ⟨k, hk'⟩ := evL_iff.1 h
  obtain ⟨n, hn'⟩ := ev_cont hk'
  refine pure_of_alone hmix hprim (k := max n k) (n := max n k) ?_
  unfold alone
  rw [body_of hf hb hn hl hk, ev_mono (call_mono (by omega) (by omega)) (by omega) hn', hx]
  exact hv

end Go.Proofs.YtcfaajaccbadbaaDoor.Ahm
