/- Operations with all types looked up ahead do what they did. -/
import Derived.Test.YtcfaajaccbadbaaDoorAhmLb
set_option linter.unusedSimpArgs false
set_option linter.unusedVariables false
namespace Go.Proofs.YtcfaajaccbadbaaDoor.Ahm
open Go

section
variable {E : Env} {m : Tm} {lb : Lb} {st : List AObj}

theorem cv_ok {x : Operand} {y : XV} (h : cv x = some y) : opv m x = xv m y := by
  cases x with
  | tmp t => simp only [cv, Option.some.injEq] at h; subst h; rfl
  | const v =>
    simp only [cv] at h
    cases hs : scal v
    · simp [hs] at h
    · simp only [hs, cond_true, Option.some.injEq] at h; subst h; simp [opv, xv, hs]
  | global g => simp only [cv, Option.some.injEq] at h; subst h; rfl
  | func f => simp only [cv, Option.some.injEq] at h; subst h; rfl

theorem cvs_ok : ∀ {l : List Operand} {ys : List XV}, cvs l = some ys → opvs m l = xvs m ys
  | [], ys, h => by simp only [cvs, Option.some.injEq] at h; subst h; rfl
  | x :: r, ys, h => by
    simp only [cvs] at h
    split at h
    · rename_i y l h1 h2
      simp only [Option.some.injEq] at h; subst h
      simp only [opvs, xvs, cv_ok h1, cvs_ok h2]
      cases xv m y with
      | none => rfl
      | some v => cases xvs m l <;> rfl
    · cases h

theorem xl_ok {x : Operand} {y : XV} (h : cv x = some y) : getL m lb st x = xl m lb st y := by
  unfold getL xl; rw [cv_ok h]; cases xv m y <;> rfl

theorem xo_ok {x : Option Operand} {y : Option XV} (h : cvo x = some y) : x.map (opv m) = (match y with | none => none | some y => some (xv m y)) := by
  cases x with
  | none => simp only [cvo, Option.some.injEq] at h; subst h; rfl
  | some x =>
    simp only [cvo, Option.map_eq_some_iff] at h
    obtain ⟨a, h1, rfl⟩ := h
    simp [cv_ok h1]

theorem cps_ok {place : Nat → Option (Nat × Nat)} : ∀ {l : List (Nat × Operand)} {ys : List (Nat × Nat × XV)}, cps place l = some ys → ∀ (cells : List AV),
    ((parts m l).bind fun vs => fillA place cells vs) = (match xps m ys with | some vs => xfill cells vs | none => none)
  | [], ys, h, cells => by simp only [cps, Option.some.injEq] at h; subst h; rfl
  | (i, x) :: r, ys, h, cells => by
    simp only [cps] at h
    split at h
    · rename_i o s y l hp h1 h2
      simp only [Option.some.injEq] at h; subst h
      simp only [parts, xps, cv_ok h1]
      cases hv : xv m y with
      | none => rfl
      | some v =>
        simp only
        have ih := cps_ok h2
        cases hps : parts m r with
        | none =>
          have := ih []
          simp only [hps, Option.bind_none] at this
          cases hx : xps m l with
          | none => rfl
          | some vs =>
            simp only [Option.bind_none]
            have hall : ∀ cells, xfill cells vs = none := fun cells => by
              have := ih cells
              simp only [hps, Option.bind_none, hx] at this
              exact this.symm
            simp only [xfill]
            cases (Nat.beq v.cells.length s && Nat.ble (o + s) cells.length && v.cells.all AV.isCell)
            · rfl
            · simp [hall]
        | some vs =>
          cases hx : xps m l with
          | none =>
            simp only [Option.bind_some, fillA, hp]
            cases (Nat.beq v.cells.length s && Nat.ble (o + s) cells.length && v.cells.all AV.isCell)
            · rfl
            · have := ih (splice cells o v.cells)
              simp only [hps, Option.bind_some, hx] at this
              simpa using this
          | some us =>
            simp only [Option.bind_some, fillA, hp, xfill]
            cases (Nat.beq v.cells.length s && Nat.ble (o + s) cells.length && v.cells.all AV.isCell)
            · rfl
            · have := ih (splice cells o v.cells)
              simp only [hps, Option.bind_some, hx] at this
              simpa using this
    · cases h

/-- where something is filled in: all there is to know -/
theorem cps_ok' {place : Nat → Option (Nat × Nat)} {l : List (Nat × Operand)} {ys : List (Nat × Nat × XV)} (h : cps place l = some ys) {cells cs : List AV} {vs : List (Nat × Nat × AV)} (hx : xps m ys = some vs) (hf : xfill cells vs = some cs) :
    ∃ us, parts m l = some us ∧ fillA place cells us = some cs := by
  have := cps_ok (m := m) h cells
  simp only [hx, hf] at this
  cases hp : parts m l with
  | none => simp [hp] at this
  | some us => exact ⟨us, rfl, by simpa [hp] using this⟩

theorem xeq_ok (t : TypeId) (x y : Operand) (a b : AV) : eqA E t x y a b = xeq E (eqC E t) (constOp x || constOp y) a b := by
  unfold eqA eqC
  generalize E.P.underlying t = u
  cases u with
  | none => rfl
  | some td =>
    cases td <;> first
      | rfl
      | (unfold xeq
         split <;> split <;> first
           | (simp_all; done)
           | (simp_all; rename_i hx; exact (hx _ _ _ _ _ rfl rfl rfl rfl rfl).elim))

theorem xbin_ok (op : BinOp) (t : TypeId) (x y : Operand) (a b : AV) : binA E op t x y a b = xbin E op (eqC E t) (constOp x || constOp y) a b := by
  have h : eqA E t x y = xeq E (eqC E t) (constOp x || constOp y) := by funext a b; exact xeq_ok t x y a b
  unfold binA xbin
  simp only [h]
  rfl

theorem xload_ok {t : TypeId} {n : Option Nat} (h : szT E t = some n) (p : AV) : loadA E lb st t p = xload lb st E n p := by
  unfold szT at h
  unfold loadA
  split at h
  · rename_i k h1 h2; simp only [Option.some.injEq] at h; subst h; simp only [h1, h2]; rfl
  · rename_i k h1 h2; simp only [Option.some.injEq] at h; subst h; simp only [h1, h2]; rfl
  · cases h

theorem xpart_ok {t : TypeId} {n : Option Nat} (h : szT E t = some n) (cs : List AV) (off : Nat) : partA E t cs off = xpart n cs off := by
  unfold szT at h
  unfold partA
  split at h
  · rename_i k h1 h2; simp only [Option.some.injEq] at h; subst h; simp only [h1, h2]; rfl
  · rename_i k h1 h2; simp only [Option.some.injEq] at h; subst h; simp only [h1, h2]; rfl
  · cases h

theorem some_of {α : Type} {a b : Option α} (h : a = b) : a = b := h

theorem xsrcS_ok {s : Nat} {t e : TypeId} (h : E.P.underlying t = some (.slice e)) (x : AV) : srcA E st s t x = xsrc st s .sl x := by
  unfold srcA xsrc
  rw [h]
  cases x with
  | sc v => cases v <;> first | rfl | (rename_i a o n; cases a <;> first | rfl | (cases o <;> first | rfl | (cases n <;> rfl))) | skip
  | _ => rfl

theorem bindm {α β : Type} (o : Option α) (f : α → Option β) : o.bind f = (match o with | some a => f a | none => none) := by cases o <;> rfl

theorem build_ok {t : TypeId} {ps : List (Nat × Operand)} {place : Nat → Option (Nat × Nat)} {z : AV} {ys : List (Nat × Nat × XV)} (hc : cps place ps = some ys) (hb : ∀ us, buildA E t us = (fillA place z.cells us).map .agg) :
    (parts m ps).bind (buildA E t) = (match xps m ys with | some vs => (match xfill z.cells vs with | some cs => some (.agg cs) | none => none) | none => none) := by
  have := cps_ok (m := m) hc z.cells
  cases hp : parts m ps with
  | none =>
    simp only [hp, Option.bind_none] at this ⊢
    cases hx : xps m ys with
    | none => rfl
    | some vs => simp only [hx] at this; simp only [← this]
  | some us =>
    simp only [hp, Option.bind_some] at this ⊢
    rw [hb, this]
    cases hx : xps m ys with
    | none => rfl
    | some vs => simp only; cases xfill z.cells vs <;> rfl

theorem cq_ok {o : Oper} {x : XQ} (h : cq E o.op = some x) : quiet E m lb st o = xq m lb st E x := by
  unfold quiet
  generalize o.op = op at h ⊢
  cases op with
  | move a =>
    simp only [cq, Option.map_eq_some_iff] at h
    obtain ⟨y, h1, rfl⟩ := h
    simp only [xq, cv_ok h1]
  | assign a =>
    simp only [cq, Option.map_eq_some_iff] at h
    obtain ⟨y, h1, rfl⟩ := h
    simp only [xq, cv_ok h1]
  | pick c a b =>
    simp only [cq] at h
    split at h
    · rename_i h1 h2 h3
      simp only [Option.some.injEq] at h; subst h
      simp only [xq, cv_ok h1, cv_ok h2, cv_ok h3]
      rfl
    · cases h
  | build t ps =>
    simp only [cq] at h
    split at h
    · rename_i z fields hz hu
      cases hall : fields.toList.all (fun f => (sizeT E f.type).isSome)
      · simp [hall] at h
      · simp only [hall, cond_true, Option.map_eq_some_iff] at h
        obtain ⟨ys, h1, rfl⟩ := h
        simp only [xq]
        exact build_ok h1 fun us => by simp only [buildA, hz, hu, hall, cond_true]
    · rename_i z n e hz hu
      split at h
      · rename_i s hs
        simp only [Option.map_eq_some_iff] at h
        obtain ⟨ys, h1, rfl⟩ := h
        simp only [xq]
        exact build_ok h1 fun us => by simp only [buildA, hz, hu, hs]
      · cases h
    · cases h
  | load t a =>
    simp only [cq] at h
    split at h
    · rename_i h1 h2
      simp only [Option.some.injEq] at h; subst h
      simp only [xq, cv_ok h2, bindm]
      cases xv m _ with
      | none => rfl
      | some p => exact xload_ok h1 p
    · cases h
  | nilCheck a =>
    simp only [cq, Option.map_eq_some_iff] at h
    obtain ⟨y, h1, rfl⟩ := h
    simp only [xq, xl_ok h1, bindm]
    cases xl m lb st y <;> rfl
  | binOp op t a b ty =>
    simp only [cq] at h
    split at h
    · rename_i h1 h2
      simp only [Option.some.injEq] at h; subst h
      simp only [xq, xl_ok h1, xl_ok h2, xbin_ok]
      rfl
    · cases h
  | unOp op t a =>
    cases op with
    | not =>
      simp only [cq, Option.map_eq_some_iff] at h
      obtain ⟨y, h1, rfl⟩ := h
      simp only [xq, cv_ok h1]
      rfl
    | neg =>
      simp only [cq, Option.map_eq_some_iff] at h
      obtain ⟨y, h1, rfl⟩ := h
      simp only [xq, cv_ok h1]
      rfl
    | _ => simp [cq] at h
  | convert s d a =>
    simp only [cq] at h
    split at h
    · rename_i u k y h1 h2 h3
      simp only [Option.some.injEq] at h; subst h
      simp only [xq, h1, h2, cv_ok h3]
      cases xv m y with
      | none => rfl
      | some v => cases v with
        | sc v => cases v <;> rfl
        | _ => rfl
    · rename_i e y h1 h2 h3
      split at h
      · rename_i h4
        simp only [Option.some.injEq] at h; subst h
        simp only [xq, h1, h2, cv_ok h3, h4]
        cases xv m y with
        | none => rfl
        | some v =>
          simp only [xsrcS_ok h1, h4]
          cases xsrc st 1 .sl v <;> rfl
      · cases h
    · cases h
  | makeInterface t a =>
    simp only [cq] at h
    split at h
    · cases h
    · rename_i u y h1 h2 h3
      simp only [Option.some.injEq] at h; subst h
      simp only [xq, cv_ok h3, h2]
      cases u with
      | interface ms => exact (h1 ms rfl).elim
      | _ => cases xv m y <;> rfl
    · cases h
  | makeFunc fn a b =>
    cases fn with
    | func f =>
      simp only [cq] at h
      split at h
      · rename_i h1 h2
        simp only [Option.some.injEq] at h; subst h
        simp only [xq, cvs_ok h1, cvs_ok h2]
        rfl
      · cases h
    | _ => simp [cq] at h
  | slice t a lo hi mx =>
    simp only [cq] at h
    split at h
    · rename_i y l u h1 h2 h3 h4 h5
      simp only [Option.some.injEq] at h; subst h
      have hmx : mx = none := by
        cases mx with
        | none => rfl
        | some w => simp [cvo] at h5
      subst hmx
      simp only [xq, xl_ok h2, xo_ok h3, xo_ok h4]
      cases xl m lb st y with
      | none => rfl
      | some v =>
        have key : ∀ (a b : Option AV), sliceA E st t v a b none = xslS v a b := fun a b => by
          simp only [sliceA, h1, xslS]
          cases v with
          | sc q => cases q <;> rfl
          | _ => rfl
        cases l with
        | none => cases u with
          | none => simp [xo, key]
          | some u => cases hu : xv m u <;> simp [xo, key, hu]
        | some l => cases hl : xv m l with
          | none => simp [xo, key, hl]
          | some lv => cases u with
            | none => simp [xo, key, hl]
            | some u => cases hu : xv m u <;> simp [xo, key, hl, hu]
    · rename_i e y l u k h1 h2 h3 h4 h5
      split at h
      · rename_i s hs
        simp only [Option.some.injEq] at h; subst h
        simp only [xq, xl_ok h2, xo_ok h3, xo_ok h4, xo_ok h5]
        cases xl m lb st y with
        | none => rfl
        | some v =>
          have key : ∀ (a b c : Option AV), sliceA E st t v a b c = xsl st s e v a b c := fun a b c => by
            simp only [sliceA, h1, hs, xsl]
            rfl
          cases l with
          | none => cases u with
            | none => cases k with
              | none => simp [xo, key]
              | some k => cases hk : xv m k <;> simp [xo, key, hk]
            | some u => cases hu : xv m u with
              | none => simp [xo, key, hu]
              | some uv => cases k with
                | none => simp [xo, key, hu]
                | some k => cases hk : xv m k <;> simp [xo, key, hu, hk]
          | some l => cases hl : xv m l with
            | none => simp [xo, key, hl]
            | some lv => cases u with
              | none => cases k with
                | none => simp [xo, key, hl]
                | some k => cases hk : xv m k <;> simp [xo, key, hl, hk]
              | some u => cases hu : xv m u with
                | none => simp [xo, key, hl, hu]
                | some uv => cases k with
                  | none => simp [xo, key, hl, hu]
                  | some k => cases hk : xv m k <;> simp [xo, key, hl, hu, hk]
      · cases h
    · cases h
  | fieldAddr t a i =>
    simp only [cq] at h
    split at h
    · rename_i fields y h1 h2
      split at h
      · rename_i f hf
        split at h
        · rename_i n hs
          simp only [Option.some.injEq] at h; subst h
          simp only [xq, xl_ok h2, bindm]
          cases xl m lb st y with
          | none => rfl
          | some p => simp only [fieldAddrA, h1, hf, hs]
        · cases h
      · cases h
    · cases h
  | field t a i =>
    simp only [cq] at h
    split at h
    · rename_i fields y h1 h2
      split at h
      · rename_i f hf
        split at h
        · rename_i n hs
          simp only [Option.some.injEq] at h; subst h
          simp only [xq, cv_ok h2, bindm]
          cases xv m y with
          | none => rfl
          | some p => cases p with
            | agg cs => simp only [fieldA, h1, hf]; exact xpart_ok hs _ _
            | _ => simp only [fieldA, h1]
        · cases h
      · cases h
    · cases h
  | indexAddr t a i =>
    simp only [cq] at h
    split at h
    · rename_i e y z h1 h2 h3
      simp only [Option.map_eq_some_iff] at h
      obtain ⟨s, hs, rfl⟩ := h
      simp only [xq, xl_ok h2, cv_ok h3]
      cases xl m lb st y with
      | none => rfl
      | some u => cases xv m z with
        | none => rfl
        | some v =>
          simp only [indexAddrA, xiaS, h1, hs]
          cases sIntOf v with
          | none => rfl
          | some i => cases u <;> rfl
    · rename_i n e y z h1 h2 h3
      simp only [Option.map_eq_some_iff] at h
      obtain ⟨s, hs, rfl⟩ := h
      simp only [xq, xl_ok h2, cv_ok h3]
      cases xl m lb st y with
      | none => rfl
      | some u => cases xv m z with
        | none => rfl
        | some v =>
          simp only [indexAddrA, xiaA, h1, hs]
          rfl
    · cases h
  | index t a i =>
    simp only [cq] at h
    split at h
    · rename_i n e y z h1 h2 h3
      split at h
      · rename_i s a hs ha
        simp only [Option.some.injEq] at h; subst h
        simp only [xq, cv_ok h2, cv_ok h3]
        cases xv m y with
        | none => rfl
        | some u => cases xv m z with
          | none => rfl
          | some v =>
            simp only [indexA, xixA, h1, hs]
            cases sIntOf v with
            | none => rfl
            | some i => cases u with
              | agg cs => simp only [hs, xpart_ok ha]
              | _ => rfl
      · cases h
    · rename_i y z h1 h2 h3
      simp only [Option.some.injEq] at h; subst h
      simp only [xq, cv_ok h2, cv_ok h3]
      cases xv m y with
      | none => rfl
      | some u => cases xv m z with
        | none => rfl
        | some v =>
          simp only [indexA, xixS, h1]
          cases sIntOf v with
          | none => rfl
          | some i => cases u with
            | sc w => cases w <;> rfl
            | _ => rfl
    · cases h
  | lookup t a i ok =>
    simp only [cq] at h
    split at h
    · rename_i kt e y z h1 h2 h3
      split at h
      · rename_i k w hk hz
        simp only [Option.some.injEq] at h; subst h
        simp only [xq, cv_ok h2, cv_ok h3]
        cases xv m y with
        | none => rfl
        | some u => cases xv m z with
          | none => rfl
          | some v =>
            simp only [lookupA, xlook, h1]
            cases v with
            | sc q => cases q with
              | int kk ki =>
                simp only [hk, hz]
                cases mapGet st u (.int kk ki) with
                | none => rfl
                | some o => cases o <;> rfl
              | _ => rfl
            | _ => rfl
      · cases h
    · cases h
  | typeAssert a t s ok =>
    simp only [cq] at h
    split at h
    · cases h
    · rename_i u y h1 h2 h3
      simp only [Option.some.injEq] at h; subst h
      simp only [xq, cv_ok h3, bindm]
      cases xv m y with
      | none => rfl
      | some v =>
        simp only [typeAssertA, h2]
        cases u with
        | interface ms => exact (h1 ms rfl).elim
        | _ => rfl
    · cases h
  | extract a i =>
    simp only [cq, Option.map_eq_some_iff] at h
    obtain ⟨y, h1, rfl⟩ := h
    simp only [xq, cv_ok h1]
    rfl
  | call c =>
    obtain ⟨callee, args, ts⟩ := c
    cases callee with
    | builtin b =>
      cases b with
      | len =>
        simp only [cq] at h
        split at h
        · rename_i a t ha ht
          split at h
          · rename_i y h1 h2
            simp only [Option.some.injEq] at h; subst h
            simp only [xq, ha, ht, xl_ok h2, bindm]
            cases xl m lb st y with
            | none => rfl
            | some v =>
              simp only [lenA, h1]
              cases v with
              | sc q => cases q <;> rfl
              | _ => rfl
          · rename_i e y h1 h2
            simp only [Option.some.injEq] at h; subst h
            simp only [xq, ha, ht, xl_ok h2, bindm]
            cases xl m lb st y with
            | none => rfl
            | some v =>
              simp only [lenA, h1, xlenL]
              cases v with
              | sc q => cases q <;> first | rfl | (rename_i a o n; cases a <;> first | rfl | (cases o <;> first | rfl | (cases n <;> rfl)))
              | _ => rfl
          · rename_i k e y h1 h2
            simp only [Option.some.injEq] at h; subst h
            simp only [xq, ha, ht, xl_ok h2, bindm]
            cases xl m lb st y with
            | none => rfl
            | some v =>
              simp only [lenA, h1, xlenM]
              cases v with
              | sc q => cases q <;> first | rfl | (rename_i a; cases a <;> rfl)
              | _ => rfl
          · cases h
        · cases h
      | max =>
        simp only [cq, Option.map_eq_some_iff] at h
        obtain ⟨y, h1, rfl⟩ := h
        simp only [xq, cvs_ok h1, bindm]
        cases xvs m y <;> rfl
      | min =>
        simp only [cq, Option.map_eq_some_iff] at h
        obtain ⟨y, h1, rfl⟩ := h
        simp only [xq, cvs_ok h1, bindm]
        cases xvs m y <;> rfl
      | _ => simp [cq] at h
    | _ => simp [cq] at h
  | _ => simp [cq] at h

theorem xsrc_ok {s : Nat} {t : TypeId} (x : AV) : srcA E st s t x = xsrc st s (srcC E t) x := by
  unfold srcC
  split
  · rename_i e h; exact xsrcS_ok h x
  · rename_i h
    unfold srcA xsrc
    rw [h]
    cases x with
    | sc v => cases v <;> first | rfl | (rename_i a o n; cases a <;> first | rfl | (cases o <;> first | rfl | (cases n <;> rfl)))
    | _ => rfl
  · rename_i h1 h2
    unfold srcA xsrc
    cases hu : E.P.underlying t with
    | none => cases x <;> rfl
    | some u => cases u with
      | slice e => exact (h1 e hu).elim
      | string => exact (h2 hu).elim
      | _ => cases x with
        | sc v => cases v <;> rfl
        | _ => rfl

theorem xnew_ok (f : FuncId) (d : Tmp) (t : TypeId) (cells : List AV) : effect.newVarA E f (some d) lb st t cells = some (xnew lb st d t (memN (E.loc f) d) cells) := by
  unfold effect.newVarA xnew
  cases h : memN (E.loc f) d <;> simp [h]

theorem xapp_ok {t xt e : TypeId} {z : List AV} {s b : Nat} (h : elemA E t = some (e, z, s, b)) (x y : AV) : appendA E st t xt x y = (match xsrc st s (srcC E xt) y with | some (news, n) => xapp st e s b x news n | none => none) := by
  unfold appendA
  simp only [h, xsrc_ok]
  cases xsrc st s (srcC E xt) y with
  | none => rfl
  | some p => obtain ⟨news, n⟩ := p; simp only [xapp]; rfl

theorem ce_ok {f : FuncId} {o : Oper} {x : XE} (h : ce E f o.dst o.op = some x) : quiet E m lb st o = none ∧ ∀ r, xe m lb st E x = some r → effect E f m lb st o = some r := by
  unfold quiet effect
  generalize o.dst = dst at h ⊢
  generalize o.op = op at h ⊢
  cases op with
  | alloc t =>
    simp only [ce] at h
    split at h
    · rename_i z n d hz hn
      cases hb : Nat.beq z.cells.length n
      · simp [hb] at h
      · simp only [hb, cond_true, Option.some.injEq] at h; subst h
        exact ⟨rfl, fun r hr => by simp only [hz, hn, hb, cond_true, xnew_ok]; exact hr⟩
    · cases h
  | box t a =>
    simp only [ce] at h
    split at h
    · rename_i n y d hn h1
      simp only [Option.some.injEq] at h; subst h
      refine ⟨rfl, fun r hr => ?_⟩
      simp only [xe, cv_ok h1, hn] at hr ⊢
      cases hv : xv m y with
      | none => simp [hv] at hr
      | some v => simp only [hv, xnew_ok] at hr ⊢; exact hr
    · cases h
  | buildSlice t len ps =>
    simp only [ce] at h
    split at h
    · rename_i e z s b he
      cases hb : Nat.ble (len * s) 16777216
      · simp [hb] at h
      · simp only [hb, cond_true, Option.map_eq_some_iff] at h
        obtain ⟨ys, hy, rfl⟩ := h
        refine ⟨rfl, fun r hr => ?_⟩
        simp only [xe] at hr
        cases hx : xps m ys with
        | none => simp [hx] at hr
        | some vs =>
          simp only [hx] at hr
          cases hf : xfill (rep z len) vs with
          | none => simp [hf] at hr
          | some cells =>
            simp only [hf, Option.some.injEq] at hr
            obtain ⟨us, h1, h2⟩ := cps_ok' hy hx hf
            simp only [h1]
            simp only [litA, buildSliceA, he, hb, cond_true, h2, Option.map_some]
            cases dst with
            | none => simpa using hr
            | some d =>
              simp only at hr ⊢
              cases hq : memN (E.lit f) d
              · simpa [hq] using hr
              · cases hz : isFzL cells
                · simpa [hq, hz] using hr
                · simpa [hq, hz] using hr
    · cases h
  | makeSlice t l c =>
    simp only [ce] at h
    split at h
    · rename_i e z s b y w he h1 h2
      simp only [Option.some.injEq] at h; subst h
      refine ⟨rfl, fun r hr => ?_⟩
      simp only [xe, cv_ok h1, cv_ok h2] at hr ⊢
      cases hv : xv m y with
      | none => simp [hv] at hr
      | some v => cases hw : xv m w with
        | none => simp [hv, hw] at hr
        | some u =>
          simp only [hv, hw] at hr ⊢
          simp only [makeSliceA, he]
          cases hi : sIntOf v with
          | none => simp [hi] at hr
          | some i => cases hj : sIntOf u with
            | none => simp [hi, hj] at hr
            | some j =>
              simp only [hi, hj] at hr ⊢
              cases hb : (decide (0 ≤ i) && decide (i ≤ j) && Nat.ble (j.toNat * b) roomA && decide (j ≤ 9223372036854775807))
              · simp [hb] at hr
              · simp only [hb, cond_true, Option.map_some] at hr ⊢; exact hr
    · cases h
  | convert s d a =>
    simp only [ce] at h
    split at h
    · rename_i e e2 y h1 h2 h3
      split at h
      · rename_i h4
        cases hb : Nat.beq s d
        · simp [hb] at h
        · simp only [hb, cond_true, Option.some.injEq] at h; subst h
          refine ⟨?_, fun r hr => ?_⟩
          · simp only [h1, h2]
            try (cases opv m a with
            | none => rfl
            | some v => cases v <;> rfl)
          · simp only [xe, cv_ok h3, h1] at hr ⊢
            cases hv : xv m y with
            | none => simp [hv] at hr
            | some v => cases v with
              | sl o off n L =>
                simp only [hv] at hr ⊢
                simp only [h4, hb, Bool.true_and]
                split at hr
                · rename_i ho; simp only [ho]; exact hr
                · cases hr
              | _ => simp [hv] at hr
      · cases h
    · cases h
  | makeMap t r =>
    cases r with
    | none => simp only [ce, Option.some.injEq] at h; subst h; exact ⟨rfl, fun r hr => hr⟩
    | some _ => simp [ce] at h
  | store t a b =>
    simp only [ce] at h
    split at h
    · rename_i n y z hn h1 h2
      simp only [Option.some.injEq] at h; subst h
      refine ⟨rfl, fun r hr => ?_⟩
      simp only [xe, cv_ok h1, cv_ok h2] at hr ⊢
      cases hv : xv m y with
      | none => simp [hv] at hr
      | some v => cases hw : xv m z with
        | none => simp [hv, hw] at hr
        | some u =>
          simp only [hv, hw] at hr ⊢
          simp only [storeA, hn]
          cases hb : Nat.beq u.cells.length n
          · simp [hb] at hr
          · simp only [hb, cond_true] at hr ⊢
            cases hs : wrCells lb st v u.cells with
            | none => simp [hs] at hr
            | some p => obtain ⟨l, s⟩ := p; simp only [hs] at hr ⊢; exact hr
    · cases h
  | mapUpdate t a b c =>
    simp only [ce] at h
    split at h
    · rename_i kt e y z w h1 h2 h3 h4
      split at h
      · rename_i k hk
        simp only [Option.some.injEq] at h; subst h
        refine ⟨rfl, fun r hr => ?_⟩
        simp only [xe, cv_ok h2, cv_ok h3, cv_ok h4, h1] at hr ⊢
        split at hr
        · rename_i o kk ki v e1 e2 e3
          simp only [e1, e2, e3, hk]
          split at hr
          · rename_i es ho
            simp only [ho]
            cases hl : v.isLp
            · simp only [hl, cond_false] at hr ⊢
              cases hp : mapPut (.int kk ki) v es with
              | none => simp [hp] at hr
              | some es' => simp only [hp, Option.map_some] at hr ⊢; exact hr
            · simp [hl] at hr
          · cases hr
        · cases hr
      · cases h
    · cases h
  | insert t a b c =>
    simp only [ce] at h
    split at h
    · rename_i kt e y z w h1 h2 h3 h4
      split at h
      · rename_i k hk
        simp only [Option.some.injEq] at h; subst h
        refine ⟨rfl, fun r hr => ?_⟩
        simp only [xe, cv_ok h2, cv_ok h3, cv_ok h4, h1] at hr ⊢
        split at hr
        · rename_i o kk ki v e1 e2 e3
          simp only [e1, e2, e3, hk]
          split at hr
          · rename_i es ho
            simp only [ho]
            cases hl : v.isLp
            · simp only [hl, cond_false] at hr ⊢
              cases hp : mapPut (.int kk ki) v es with
              | none => simp [hp] at hr
              | some es' => simp only [hp, Option.map_some] at hr ⊢; exact hr
            · simp [hl] at hr
          · cases hr
        · cases hr
      · cases h
    · cases h
  | call c =>
    obtain ⟨callee, args, ts⟩ := c
    cases callee with
    | builtin b =>
      cases b with
      | append =>
        simp only [ce] at h
        split at h
        · rename_i a b t xt ha ht
          split at h
          · rename_i e z s by_ y w he h1 h2
            simp only [Option.some.injEq] at h; subst h
            refine ⟨rfl, fun r hr => ?_⟩
            simp only [xe] at hr
            simp only [ha, ht, opvs, cv_ok h1, cv_ok h2]
            cases hv : xv m y with
            | none => simp [hv] at hr
            | some v => cases hw : xv m w with
              | none => simp [hv, hw] at hr
              | some u =>
                simp only [hv, hw] at hr ⊢
                rw [xapp_ok he]
                cases hx : xsrc st s (srcC E xt) u with
                | none => simp [hx] at hr
                | some p =>
                  obtain ⟨news, n⟩ := p
                  simp only [hx] at hr ⊢
                  cases hp : xapp st e s by_ v news n with
                  | none => simp [hp] at hr
                  | some q => obtain ⟨q1, q2⟩ := q; simp only [hp, Option.map_some] at hr ⊢; exact hr
          · cases h
        · cases h
      | _ => simp [ce] at h
    | _ => simp [ce] at h
  | _ => simp [ce] at h

theorem cc_ok {callf : CallF} {f : FuncId} {o : Oper} {x : XV} {xs : List XV} (h : cc o.op = some (x, xs)) : quiet E m lb st o = none ∧ effect E f m lb st o = none ∧ callA callf m st o = xcall m st callf x xs := by
  unfold quiet effect callA
  generalize o.op = op at h ⊢
  cases op with
  | call c =>
    obtain ⟨callee, args, ts⟩ := c
    cases callee with
    | value a =>
      simp only [cc] at h
      split at h
      · rename_i h1 h2
        simp only [Option.some.injEq, Prod.mk.injEq] at h
        obtain ⟨rfl, rfl⟩ := h
        refine ⟨rfl, rfl, ?_⟩
        simp only [cv_ok h1, cvs_ok h2, xcall]
        cases xv m _ with
        | none => rfl
        | some v => cases v with
          | fn g a b => cases xvs m _ with
            | none => rfl
            | some as => simp only; cases as.any AV.isLp <;> rfl
          | _ => rfl
      · cases h
    | _ => simp [cc] at h
  | _ => simp [cc] at h

theorem cop_ok {callf : CallF} {f : FuncId} {o : Oper} {x : XOp} (h : cop E f o.dst o.op = some x) {v : AV} {lb' : Lb} {st' : List AObj} (hx : xop m lb st E callf x = some (v, lb', st')) :
    ∃ e, runOp E callf f m lb st o = some (v, lb', st', e) := by
  unfold cop at h
  split at h
  · rename_i y hq
    simp only [Option.some.injEq] at h; subst h
    simp only [xop] at hx
    obtain ⟨u, hu, hx⟩ := andThen_eq hx
    simp only [Option.some.injEq, Prod.mk.injEq] at hx
    obtain ⟨rfl, rfl, rfl⟩ := hx
    exact ⟨false, by unfold runOp; rw [cq_ok hq, hu]⟩
  · split at h
    · rename_i y he
      simp only [Option.some.injEq] at h; subst h
      simp only [xop] at hx
      obtain ⟨h1, h2⟩ := ce_ok (m := m) (lb := lb) (st := st) he
      exact ⟨true, by unfold runOp; rw [h1, h2 _ hx]⟩
    · split at h
      · rename_i y ys hc
        simp only [Option.some.injEq] at h; subst h
        obtain ⟨h1, h2, h3⟩ := cc_ok (E := E) (m := m) (lb := lb) (st := st) (callf := callf) (f := f) hc
        simp only [xop] at hx
        refine ⟨true, ?_⟩
        unfold runOp
        rw [h1, h2, h3]
        obtain ⟨⟨u, s2⟩, hu, hx⟩ := andThen_eq hx
        simp only [hu]
        cases hl : u.isLp
        · simp only [hl, ifB_false, Option.some.injEq, Prod.mk.injEq] at hx
          obtain ⟨rfl, rfl, rfl⟩ := hx
          simp [hl]
        · simp only [hl, ifB_true] at hx; cases hx
      · cases h

end
end Go.Proofs.YtcfaajaccbadbaaDoor.Ahm
