/- What holds behind code, step by step; what functions answer. -/
import Derived.Test.YtcfaajaccbadbaaDoorAhmLd
set_option linter.unusedSimpArgs false
set_option linter.unusedVariables false
namespace Go.Proofs.YtcfaajaccbadbaaDoor.Ahm
open Go

inductive XR where
  | t (n : Nat)
  | c (n : Nat) (a : Option Nat)
def crs (E : Env) : List ResultVar → Option (List XR)
  | [] => some []
  | .tmp t :: r => (crs E r).map (.t t :: ·)
  | .cell a t :: r => match szT E t, crs E r with
    | some n, some l => some (.c a n :: l)
    | _, _ => none

/-- A function's code, with all types looked up ahead. -/
def HasCode (E : Env) (g N : Nat) (rs : List XR) (x : XC) : Prop :=
  ∃ fn c, E.P.funcs[g]? = some fn ∧ fn.body = some c ∧ (fn.name == "runtime.NumGoroutine") = false ∧ fn.ntmps = N ∧ crs E fn.results.toList = some rs ∧ cxc E g fn.ntmps c = some x

def xres (E : Env) (s : St) : List XR → Option (List AV)
  | [] => some []
  | .t t :: r => match tmGet s.tm t with
    | some v => bif v.isLp then none else match xres E s r with
      | some vs => some (v :: vs)
      | none => none
    | none => none
  | .c a n :: r => match tmGet s.tm a with
    | some p => match xload s.lb s.st E n p with
      | some v => bif v.isLp then none else match xres E s r with
        | some vs => some (v :: vs)
        | none => none
      | none => none
    | none => none

theorem xres_ok {E : Env} {s : St} : ∀ {l : List ResultVar} {rs : List XR} {vs : List AV}, crs E l = some rs → xres E s rs = some vs → resultA E s.lb s.st s.tm l = some vs
  | [], rs, vs, h, hx => by simp only [crs, Option.some.injEq] at h; subst h; exact hx
  | .tmp t :: r, rs, vs, h, hx => by
    simp only [crs, Option.map_eq_some_iff] at h
    obtain ⟨l, h1, rfl⟩ := h
    simp only [xres] at hx
    simp only [resultA]
    cases hv : tmGet s.tm t with
    | none => simp [hv] at hx
    | some v =>
      simp only [hv] at hx
      cases hl : v.isLp
      · simp only [hl, cond_false] at hx
        cases hr : xres E s l with
        | none => simp [hr] at hx
        | some us => simp only [hr] at hx; simp only [xres_ok h1 hr, hl, cond_false]; exact hx
      · simp [hl] at hx
  | .cell a t :: r, rs, vs, h, hx => by
    simp only [crs] at h
    split at h
    · rename_i n l h1 h2
      simp only [Option.some.injEq] at h; subst h
      simp only [xres] at hx
      simp only [resultA]
      cases hp : tmGet s.tm a with
      | none => simp [hp] at hx
      | some p =>
        simp only [hp] at hx
        simp only [Option.bind_some, xload_ok h1]
        cases hv : xload s.lb s.st E n p with
        | none => simp [hv] at hx
        | some v =>
          simp only [hv] at hx
          cases hl : v.isLp
          · simp only [hl, cond_false] at hx
            cases hr : xres E s l with
            | none => simp [hr] at hx
            | some us => simp only [hr] at hx; simp only [xres_ok h2 hr, hl, cond_false]; exact hx
          · simp [hl] at hx
    · cases h

/-- Frozen results at an end. -/
def Done (E : Env) (rs : List XR) (r : AV) (x : AX) (s : St) : Prop :=
  match x with
  | .exit _ => False
  | _ => match xres E s rs with
    | some vs => res E s.st depthA (packA vs) = some r
    | none => False
/-- Results and memory at an end. -/
def DoneR (E : Env) (rs : List XR) (v : AV) (st : List AObj) (x : AX) (s : St) : Prop :=
  match x with
  | .exit _ => False
  | _ => match xres E s rs with
    | some vs => packA vs = v ∧ s.st = st
    | none => False

/-- Frozen results at an end, of which something holds. -/
def DoneP (E : Env) (rs : List XR) (P : AV → Prop) (x : AX) (s : St) : Prop :=
  match x with
  | .exit _ => False
  | _ => match xres E s rs with
    | some vs => ∃ r, res E s.st depthA (packA vs) = some r ∧ P r
    | none => False

/-- What a function answers that is handed frozen values. -/
noncomputable def ansL (E : Env) (g : FuncId) (as : List AV) : Option AV :=
  match E.prim g with
  | some p => p as
  | none => sup fun n => alone E (call E n n) n g as

section
variable {E : Env} {g N : Nat} {rs : List XR} {x : XC}

theorem alone_up {k k' : Nat} {g : FuncId} {as : List AV} {r : AV} (h : k ≤ k') (hx : alone E (call E k k) k g as = some r) : alone E (call E k' k') k' g as = some r :=
  alone_mono (call_mono h h) h hx

theorem ansL_iff {g : FuncId} {as : List AV} {r : AV} (hp : E.prim g = none) : ansL E g as = some r ↔ ∃ n, alone E (call E n n) n g as = some r := by
  unfold ansL
  simp only [hp]
  exact sup_iff fun h hx => alone_up h hx

theorem ansL_run {g : FuncId} {as : List AV} {r : AV} (hp : E.prim g = none) (n : Nat) (h : alone E (call E n n) n g as = some r) : ansL E g as = some r := (ansL_iff hp).2 ⟨n, h⟩

theorem callL_frozen {g : FuncId} (hu : (E.pure g || isPrim E g) = true) (args : List AV) (st : List AObj) : callL E g args st = pureCall E g (ansL E g) args st := by
  cases hp : E.prim g with
  | some p =>
    rw [callL_prim hp]
    have : ansL E g = p := by funext as; unfold ansL; rw [hp]
    rw [this]
  | none =>
    have hpu : E.pure g = true := by simpa [isPrim, hp] using hu
    apply Option.ext
    intro y
    rw [callL_iff]
    constructor
    · rintro ⟨n, hn⟩
      cases n with
      | zero => simp [call] at hn
      | succ n =>
        simp only [call, hp, hpu, cond_true] at hn
        exact pureCall_mono (fun as r hr => (ansL_iff hp).2 ⟨n + 1, alone_mono (call_mono (Nat.le_refl _) (Nat.le_succ n)) (Nat.le_refl _) hr⟩) hn
    · intro h
      unfold pureCall at h
      cases hm : mapO (res E st depthA) args with
      | none => simp [hm] at h
      | some as =>
        simp only [hm] at h
        cases hr : ansL E g as with
        | none => simp [hr] at h
        | some r =>
          obtain ⟨n, hn⟩ := (ansL_iff hp).1 hr
          refine ⟨n + 1, ?_⟩
          simp only [call, hp, hpu, cond_true]
          have hal : alone E (call E (n + 1) n) (n + 1) g as = some r := alone_mono (call_mono (Nat.le_succ n) (Nat.le_refl _)) (Nat.le_succ n) hn
          unfold pureCall
          simp only [hm, hal]
          simp only [hr] at h
          exact h

theorem ending_of {fn : Func} (hrs : crs E fn.results.toList = some rs) {y : AX} {s : St} {vs : List AV} (hx : ∀ i, y ≠ .exit i) (h : xres E s rs = some vs) : ending E fn (some (y, s)) = some (packA vs, s.st) := by
  have := xres_ok hrs h
  cases y with
  | norm => simp only [ending, this]
  | ret => simp only [ending, this]
  | exit i => exact (hx i rfl).elim

theorem ansL_of {as : List AV} {r : AV} (hp : E.prim g = none) (hc : HasCode E g N rs x) (hl : as.any AV.isLp = false) (hk : Nat.ble as.length N = true) (h : xp E x ⟨number 0 as, [], []⟩ (Done E rs r)) : ansL E g as = some r := by
  obtain ⟨fn, c, h1, h2, h3, rfl, h5, h6⟩ := hc
  obtain ⟨y, s, hx, hd⟩ := h
  have hev := xr_ev hx h6
  obtain ⟨k, hk'⟩ := evL_iff.1 hev
  obtain ⟨n, hn'⟩ := ev_cont hk'
  have hy : ∀ i, y ≠ .exit i := fun i e => by subst e; exact hd
  have hd' : ∃ vs, xres E s rs = some vs ∧ res E s.st depthA (packA vs) = some r := by
    cases y with
    | exit i => exact (hy i rfl).elim
    | norm =>
      simp only [Done] at hd
      cases hv : xres E s rs with
      | none => simp [hv] at hd
      | some vs => exact ⟨vs, rfl, by simpa [hv] using hd⟩
    | ret =>
      simp only [Done] at hd
      cases hv : xres E s rs with
      | none => simp [hv] at hd
      | some vs => exact ⟨vs, rfl, by simpa [hv] using hd⟩
  obtain ⟨vs, hv, hr⟩ := hd'
  refine (ansL_iff hp).2 ⟨max n k, ?_⟩
  unfold alone
  rw [body_of h1 h2 h3 hl hk, ev_mono (call_mono (by omega) (by omega)) (by omega) hn', ending_of h5 hy hv]
  exact hr

theorem ansL_ofP {as : List AV} {P : AV → Prop} (hp : E.prim g = none) (hc : HasCode E g N rs x) (hl : as.any AV.isLp = false) (hk : Nat.ble as.length N = true) (h : xp E x ⟨number 0 as, [], []⟩ (DoneP E rs P)) : ∃ r, ansL E g as = some r ∧ P r := by
  obtain ⟨y, s, hx, hd⟩ := h
  have hd' : ∃ r, Done E rs r y s ∧ P r := by
    cases y with
    | exit i => exact hd.elim
    | norm =>
      simp only [DoneP] at hd
      cases hv : xres E s rs with
      | none => simp [hv] at hd
      | some vs =>
        simp only [hv] at hd
        obtain ⟨r, h1, h2⟩ := hd
        exact ⟨r, by simp only [Done, hv]; exact h1, h2⟩
    | ret =>
      simp only [DoneP] at hd
      cases hv : xres E s rs with
      | none => simp [hv] at hd
      | some vs =>
        simp only [hv] at hd
        obtain ⟨r, h1, h2⟩ := hd
        exact ⟨r, by simp only [Done, hv]; exact h1, h2⟩
  obtain ⟨r, h1, h2⟩ := hd'
  exact ⟨r, ansL_of hp hc hl hk ⟨y, s, hx, h1⟩, h2⟩

theorem callL_of {as : List AV} {st st' : List AObj} {v : AV} (hp : E.prim g = none) (hu : E.pure g = false) (hc : HasCode E g N rs x) (hl : as.any AV.isLp = false) (hk : Nat.ble as.length N = true) (h : xp E x ⟨number 0 as, [], st⟩ (DoneR E rs v st')) : callL E g as st = some (v, st') := by
  obtain ⟨fn, c, h1, h2, h3, rfl, h5, h6⟩ := hc
  obtain ⟨y, s, hx, hd⟩ := h
  have hy : ∀ i, y ≠ .exit i := fun i e => by subst e; exact hd
  have hd' : ∃ vs, xres E s rs = some vs ∧ packA vs = v ∧ s.st = st' := by
    cases y with
    | exit i => exact (hy i rfl).elim
    | norm =>
      simp only [DoneR] at hd
      cases hv : xres E s rs with
      | none => simp [hv] at hd
      | some vs => exact ⟨vs, rfl, by simpa [hv] using hd⟩
    | ret =>
      simp only [DoneR] at hd
      cases hv : xres E s rs with
      | none => simp [hv] at hd
      | some vs => exact ⟨vs, rfl, by simpa [hv] using hd⟩
  obtain ⟨vs, hv, rfl, rfl⟩ := hd'
  exact callL_body hp hu h1 h2 h3 hl hk (xr_ev hx h6) (ending_of h5 hy hv)

/-- From an answer to what the program does. -/
theorem pure_of_ans (hmix : E.P.follows .mixedOrders = true) (hprim : PrimOk E) {as : List AV} {r : AV} (h : ansL E g as = some r) : PureSpec E g as r := by
  cases hp : E.prim g with
  | some p => exact hprim g p hp as r (by unfold ansL at h; simpa [hp] using h)
  | none =>
    obtain ⟨n, hn⟩ := (ansL_iff hp).1 h
    exact pure_of_alone hmix hprim hn

end

/-! ### steps -/
section
variable {E : Env} {Q : AX → St → Prop} {s : St}

theorem xp_mono {c : XC} {Q' : AX → St → Prop} (h : xp E c s Q) (hQ : ∀ x s', Q x s' → Q' x s') : xp E c s Q' := by
  obtain ⟨x, s', h1, h2⟩ := h
  exact ⟨x, s', h1, hQ _ _ h2⟩

theorem xp_skip : xp E .skip s Q = Q .norm s := by
  apply propext
  constructor
  · rintro ⟨x, s', h, hq⟩; cases h; exact hq
  · intro h; exact ⟨_, _, .skip, h⟩
theorem xp_exit {i : Nat} : xp E (.exit i) s Q = Q (.exit i) s := by
  apply propext
  constructor
  · rintro ⟨x, s', h, hq⟩; cases h; exact hq
  · intro h; exact ⟨_, _, .exit, h⟩
theorem xp_ret : xp E .ret s Q = Q .ret s := by
  apply propext
  constructor
  · rintro ⟨x, s', h, hq⟩; cases h; exact hq
  · intro h; exact ⟨_, _, .ret, h⟩

/-- what comes next behind the first half -/
def seqQ (E : Env) (b : XC) (Q : AX → St → Prop) : AX → St → Prop
  | .norm, s => xp E b s Q
  | x, s => Q x s
theorem seqQ_norm {b : XC} : seqQ E b Q .norm s = xp E b s Q := rfl
theorem seqQ_exit {b : XC} {i : Nat} : seqQ E b Q (.exit i) s = Q (.exit i) s := rfl
theorem seqQ_ret {b : XC} : seqQ E b Q .ret s = Q .ret s := rfl
theorem xp_seq {a b : XC} : xp E (.seq a b) s Q = xp E a s (seqQ E b Q) := by
  apply propext
  constructor
  · rintro ⟨x, s', h, hq⟩
    cases h with
    | seq h1 h2 => exact ⟨_, _, h1, _, _, h2, hq⟩
    | seqX h1 hn => exact ⟨_, _, h1, by cases x <;> first | exact (hn rfl).elim | exact hq⟩
  · rintro ⟨x, s', h, hq⟩
    cases x with
    | norm => obtain ⟨y, s2, h2, hq2⟩ := hq; exact ⟨_, _, .seq h h2, hq2⟩
    | exit i => exact ⟨_, _, .seqX h (by simp), hq⟩
    | ret => exact ⟨_, _, .seqX h (by simp), hq⟩

/-- A branch, as a proposition: what follows of each way. -/
def br (b : Bool) (A B : Prop) (t : Tag (ULift.up A, ULift.up B) := .mk) : Prop := (b = true → A) ∧ (b = false → B)
theorem br_true {A B : Prop} : br true A B = A := by unfold br; simp
theorem br_false {A B : Prop} : br false A B = B := by unfold br; simp
theorem br_eq {b : Bool} {A B : Prop} : br b A B = (bif b then A else B) := by cases b <;> simp [br_true, br_false]

def condQ (E : Env) (a b : XC) (s : St) (Q : AX → St → Prop) : Option AV → Prop
  | some (.sc (.bool t)) => br t (xp E a s Q) (xp E b s Q)
  | _ => False
theorem xp_cond {c : XV} {a b : XC} : xp E (.cond c a b) s Q = condQ E a b s Q (xv s.tm c) := by
  apply propext
  constructor
  · rintro ⟨x, s', h, hq⟩
    cases h with
    | cond hv h => rename_i t; rw [hv]; simp only [condQ, br_eq]; cases t <;> exact ⟨_, _, h, hq⟩
  · intro h
    unfold condQ at h
    split at h
    · rename_i t hv
      rw [br_eq] at h
      cases t with
      | true => obtain ⟨x, s', h1, h2⟩ := h; exact ⟨x, s', .cond hv h1, h2⟩
      | false => obtain ⟨x, s', h1, h2⟩ := h; exact ⟨x, s', .cond hv h1, h2⟩
    · exact h.elim

def blockQ (id : Nat) (Q : AX → St → Prop) : AX → St → Prop
  | .exit i, s => bif Nat.beq i id then Q .norm s else Q (.exit i) s
  | x, s => Q x s
theorem blockQ_norm {i : Nat} : blockQ i Q .norm s = Q .norm s := rfl
theorem blockQ_exit {i j : Nat} : blockQ i Q (.exit j) s = (bif Nat.beq j i then Q .norm s else Q (.exit j) s) := rfl
theorem blockQ_ret {i : Nat} : blockQ i Q .ret s = Q .ret s := rfl
theorem xp_block {id : Nat} {c : XC} : xp E (.block id c) s Q = xp E c s (blockQ id Q) := by
  apply propext
  constructor
  · rintro ⟨x, s', h, hq⟩
    cases h with
    | block h hn =>
      refine ⟨_, _, h, ?_⟩
      cases x with
      | exit i =>
        simp only [blockQ]
        cases hb : Nat.beq i id
        · exact hq
        · exact (hn (by rw [Nat.eq_of_beq_eq_true hb])).elim
      | _ => exact hq
    | blockX h => exact ⟨_, _, h, by simp [blockQ]; exact hq⟩
  · rintro ⟨x, s', h, hq⟩
    cases x with
    | exit i =>
      simp only [blockQ] at hq
      cases hb : Nat.beq i id
      · simp only [hb, cond_false] at hq
        exact ⟨_, _, .block h (fun e => by cases e; simp at hb), hq⟩
      · simp only [hb, cond_true] at hq
        have := Nat.eq_of_beq_eq_true hb
        subst this
        exact ⟨_, _, .blockX h, hq⟩
    | norm => exact ⟨_, _, .block h (by simp), hq⟩
    | ret => exact ⟨_, _, .block h (by simp), hq⟩

/-- the rest behind a region -/
def optQ {α : Type} (K : α → Prop) (o : Option α) (t : Tag K := .mk) : Prop :=
  match o with
  | some a => K a
  | none => False
theorem optQ_some {α : Type} {K : α → Prop} {a : α} : optQ K (some a) = K a := rfl
theorem optQ_ifB {α : Type} {K : α → Prop} {b : Bool} {x y : Option α} : optQ K (ifB b x y .mk) = br b (optQ K x) (optQ K y) := by cases b <;> simp [ifB, br]
theorem xp_reg {live : List Nat} {ops : List XOper} : xp E (.reg live false ops) s Q = optQ (fun s' => Q .norm (xtrim live s')) (xev E (callL E) ops s) := by
  apply propext
  constructor
  · rintro ⟨x, s', h, hq⟩
    cases h with
    | reg h => rw [h]; exact hq
  · intro h
    cases hx : xev E (callL E) ops s with
    | none => rw [hx] at h; exact h.elim
    | some s' => rw [hx] at h; exact ⟨_, _, .reg hx, h⟩
theorem xp_regS {live : List Nat} {ops : List XOper} : xp E (.reg live true ops) s Q = optQ (fun m => Q .norm (xtrim live ⟨m, s.lb, s.st⟩)) (xevS E (callL E) s.lb s.st ops s.tm) := by
  apply propext
  constructor
  · rintro ⟨x, s', h, hq⟩
    cases h with
    | regS h => rw [h]; exact hq
  · intro h
    cases hx : xevS E (callL E) s.lb s.st ops s.tm with
    | none => rw [hx] at h; exact h.elim
    | some s' => rw [hx] at h; exact ⟨_, _, .regS hx, h⟩

theorem xp_regD {live b : List Nat} {ops : List XOper} : xp E (.regD live b ops) s Q = optQ (fun s' => Q .norm (xtrim live s')) (xevD E (callL E) b ops s) := by
  apply propext
  constructor
  · rintro ⟨x, s', h, hq⟩
    cases h with
    | regD h => rw [h]; exact hq
  · intro h
    cases hx : xevD E (callL E) b ops s with
    | none => rw [hx] at h; exact h.elim
    | some s' => rw [hx] at h; exact ⟨_, _, .regD hx, h⟩

/-- A loop, with what holds ahead of each round and a number that falls. -/
def loopQ (I : Nat → St → Prop) (n : Nat) (Q : AX → St → Prop) : AX → St → Prop
  | .norm, s => ∃ m, m < n ∧ I m s
  | x, s => Q x s
theorem loopQ_norm {I : Nat → St → Prop} {n : Nat} : loopQ I n Q .norm s = ∃ m, m < n ∧ I m s := rfl
theorem loopQ_exit {I : Nat → St → Prop} {n i : Nat} : loopQ I n Q (.exit i) s = Q (.exit i) s := rfl
theorem loopQ_ret {I : Nat → St → Prop} {n : Nat} : loopQ I n Q .ret s = Q .ret s := rfl
theorem xp_loop {c : XC} (I : Nat → St → Prop) (n : Nat) (h0 : I n s) (hs : ∀ n s, I n s → xp E c s (loopQ I n Q)) : xp E (.loop c) s Q := by
  induction n using Nat.strongRecOn generalizing s with
  | ind n ih =>
    obtain ⟨x, s', h1, h2⟩ := hs n s h0
    cases x with
    | norm =>
      obtain ⟨m, hm, hI⟩ := h2
      obtain ⟨y, s2, k1, k2⟩ := ih m hm hI
      exact ⟨y, s2, .loop h1 k1, k2⟩
    | exit i => exact ⟨_, _, .loopX h1 (by simp), h2⟩
    | ret => exact ⟨_, _, .loopX h1 (by simp), h2⟩
/-- A loop's next round. -/
theorem xp_loop1 {c : XC} : xp E (.loop c) s Q = xp E c s (seqQ E (.loop c) Q) := by
  apply propext
  constructor
  · rintro ⟨x, s', h, hq⟩
    cases h with
    | loop h1 h2 => exact ⟨_, _, h1, _, _, h2, hq⟩
    | loopX h1 hn => exact ⟨_, _, h1, by cases x <;> first | exact (hn rfl).elim | exact hq⟩
  · rintro ⟨x, s', h, hq⟩
    cases x with
    | norm => obtain ⟨y, s2, h2, hq2⟩ := hq; exact ⟨_, _, .loop h h2, hq2⟩
    | exit i => exact ⟨_, _, .loopX h (by simp), hq⟩
    | ret => exact ⟨_, _, .loopX h (by simp), hq⟩
end

/-! ### short words for values -/
abbrev I (n : Int) : AV := .sc (.int .i64 n)
abbrev B (b : Bool) : AV := .sc (.bool b)
abbrev U8 (n : Int) : AV := .sc (.int .u8 n)
abbrev nilS : AV := .sc (.slice none 0 0)

theorem nbeq (a b : Nat) : Nat.beq a b = decide (a = b) := by
  cases h : Nat.beq a b
  · symm; simp; intro e; subst e; simp at h
  · symm; simp; exact Nat.eq_of_beq_eq_true h
theorem nble (a b : Nat) : Nat.ble a b = decide (a ≤ b) := by
  cases h : Nat.ble a b
  · symm; simp; exact Nat.lt_of_not_le fun e => by rw [Nat.ble_eq_true_of_le e] at h; cases h
  · symm; simp; exact Nat.le_of_ble_eq_true h

theorem wrap64 {z : Int} (h : -9223372036854775808 ≤ z ∧ z ≤ 9223372036854775807) : IntKind.wrap .i64 z = z := IntWalk.i64_in _ (by omega)

end Go.Proofs.YtcfaajaccbadbaaDoor.Ahm
