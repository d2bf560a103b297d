/- Operations that change no memory: what the abstract machine says of one is what the model does. -/
import Derived.Test.YtcfaajaccbadbaaDoorAhmC
import Derived.Laws.Sem
import Derived.Laws.Cells
set_option linter.unusedSimpArgs false
set_option linter.unusedVariables false
namespace Go.Proofs.YtcfaajaccbadbaaDoor.Ahm
open Go

/-- A frame's temporaries. -/
structure TmOk (C : Ctx) (m : Tm) (N : Nat) (a : Act) : Prop where
  defers : a.defers = []
  size : a.tmps.size = N
  get : ∀ (t : Nat) (v : AV), tmGet m t = some v → ∃ c, a.tmps[t]? = some c ∧ RepT C v c

theorem mem_F_ga (C : Ctx) : C.F.ga = C.ga := rfl

theorem opv_sound {C : Ctx} {m : Tm} {N : Nat} {a : Act} (ht : TmOk C m N a) {x : Operand} {v : AV} (h : opv m x = some v) : RepT C v (a.eval x) := by
  cases x with
  | tmp t =>
    obtain ⟨c, hc, hr⟩ := ht.get t v h
    have : a.eval (.tmp t) = c := by simp [Act.eval, hc]
    rw [this]; exact hr
  | const u =>
    simp only [opv] at h
    cases hs : scal u
    · simp [hs] at h
    · simp [hs] at h; subst h; exact Rep.fz (.sc hs)
  | global g => simp [opv] at h; subst h; exact Rep.fz .gl
  | func f => simp [opv] at h; subst h; exact Rep.fz (.fn rfl rfl (fun j c v hj => by simp at hj) (fun j c v hj => by simp at hj))

theorem opvs_sound {C : Ctx} {m : Tm} {N : Nat} {a : Act} (ht : TmOk C m N a) : ∀ {xs : List Operand} {vs : List AV}, opvs m xs = some vs → vs.length = xs.length ∧ ∀ (j : Nat) (v : AV) (x : Operand), vs[j]? = some v → xs[j]? = some x → RepT C v (a.eval x)
  | [], vs, h => by simp [opvs] at h; subst h; exact ⟨rfl, fun j v x hj => by simp at hj⟩
  | x :: xs, vs, h => by
    simp only [opvs] at h
    cases hx : opv m x with
    | none => simp [hx] at h
    | some v =>
      cases hs : opvs m xs with
      | none => simp [hx, hs] at h
      | some us =>
        simp [hx, hs] at h
        subst h
        obtain ⟨h1, h2⟩ := opvs_sound ht hs
        refine ⟨by simp [h1], fun j u y hj hy => ?_⟩
        cases j with
        | zero => simp at hj hy; subst hj hy; exact opv_sound ht hx
        | succ j => exact h2 j u y (by simpa using hj) (by simpa using hy)

/-! ### looking into values -/
section inv
variable {C : Ctx} {c : Value}

theorem rep_sc {v : Value} (h : Rep C (.sc v) c) : c = v ∧ scal v = true := by
  cases h with
  | fz h => cases h; exact ⟨rfl, by assumption⟩

theorem repT_sc {v : Value} (h : RepT C (.sc v) c) : c = v := (rep_sc h).1

theorem rep_agg {cs : List AV} (h : Rep C (.agg cs) c) : ∃ vs : Array Value, c = .agg vs ∧ vs.size = cs.length ∧ ∀ (j : Nat) (x : AV) (v : Value), cs[j]? = some x → vs[j]? = some v → Rep C x v := by
  cases h with
  | fz h => cases h with | agg hl hr => exact ⟨_, rfl, hl, fun j x v h1 h2 => .fz (hr j x v h1 h2)⟩
  | agg hl hr => exact ⟨_, rfl, hl, hr⟩
theorem rep_tup {cs : List AV} (h : Rep C (.tup cs) c) : ∃ vs : Array Value, c = .tuple vs ∧ vs.size = cs.length ∧ ∀ (j : Nat) (x : AV) (v : Value), cs[j]? = some x → vs[j]? = some v → Rep C x v := by
  cases h with
  | fz h => cases h with | tup hl hr => exact ⟨_, rfl, hl, fun j x v h1 h2 => .fz (hr j x v h1 h2)⟩
  | tup hl hr => exact ⟨_, rfl, hl, hr⟩
theorem rep_ifc {t : TypeId} {v : AV} (h : Rep C (.ifc t v) c) : ∃ u, c = .iface t u ∧ Rep C v u := by
  cases h with
  | fz h => cases h with | ifc h => exact ⟨_, rfl, .fz h⟩
  | ifc h => exact ⟨_, rfl, h⟩
theorem rep_fn {f : FuncId} {as bs : List AV} (h : Rep C (.fn f as bs) c) : ∃ va vb : Array Value, c = .func (.func f) va vb ∧ va.size = as.length ∧ vb.size = bs.length ∧
    (∀ (j : Nat) (x : AV) (v : Value), as[j]? = some x → va[j]? = some v → Rep C x v) ∧ (∀ (j : Nat) (x : AV) (v : Value), bs[j]? = some x → vb[j]? = some v → Rep C x v) := by
  cases h with
  | fz h => cases h with | fn h1 h2 h3 h4 => exact ⟨_, _, rfl, h1, h2, fun j x v a b => .fz (h3 j x v a b), fun j x v a b => .fz (h4 j x v a b)⟩
  | fn h1 h2 h3 h4 => exact ⟨_, _, rfl, h1, h2, h3, h4⟩
theorem rep_fs {cells : List AV} {n : Nat} (h : Rep C (.fs cells n) c) : FRep C.F (.fs cells n) c := by cases h; assumption
theorem rep_fp {cells : List AV} {n : Nat} (h : Rep C (.fp cells n) c) : FRep C.F (.fp cells n) c := by cases h; assumption
theorem rep_sp {k : Nat} (h : Rep C (.sp k) c) : c = C.ga k ∧ c.oneCell' = true := by
  cases h with
  | fz h => cases h with | sp h => exact ⟨rfl, h⟩
theorem rep_gl {k : Nat} (h : Rep C (.gl k) c) : c = .pointer (some ⟨k, 0, none⟩) := by cases h with | fz h => cases h; rfl
theorem rep_e0 (h : Rep C .e0 c) : ∃ a, c = .slice (some a) 0 0 := by cases h with | fz h => cases h; exact ⟨_, rfl⟩
theorem rep_rf {o off L : Nat} {cells : List AV} {e : TypeId} {wr : Bool} (h : Rep C (.rf o off L) c) (ho : C.st[o]? = some (.arr cells e wr)) (hL : cells.length = L) :
    c = .pointer (some ⟨C.io o, off, none⟩) := by
  cases h with
  | fz h => cases h
  | rf => rfl
  | rfOld h1 h2 _ => rw [ho] at h1; cases h1; omega
theorem rep_sl {o off n L : Nat} {cells : List AV} {e : TypeId} {wr : Bool} (h : Rep C (.sl o off n L) c) (ho : C.st[o]? = some (.arr cells e wr)) (hL : cells.length = L) :
    ∃ (cap s : Nat) (cur : Array Value) (fz : Nat × Nat), c = .slice (some ⟨C.io o, off, none⟩) n cap ∧ sizeT C.E e = some s ∧ C.w.heap[C.io o]? = some (.cells cur e fz) ∧ n ≤ cap ∧ L ≤ off + cap * s ∧ off + cap * s ≤ cur.size := by
  cases h with
  | fz h => cases h
  | sl h1 h2 h3 h4 h5 h6 h7 => rw [ho] at h1; cases h1; exact ⟨_, _, _, _, rfl, h3, h4, h5, h6, h7⟩
  | slOld h1 h2 _ => rw [ho] at h1; cases h1; omega
end inv

/-! ### reading -/
/-- so many values, one behind the other at an address -/
structure Lies (C : Ctx) (b off : Nat) (l : List AV) (us : List Value) : Prop where
  len : us.length = l.length
  cell : ∀ (j : Nat) (u : Value), us[j]? = some u → C.w.cell? ⟨b, off + j, none⟩ = some u
  rep : ∀ (j : Nat) (x : AV) (u : Value), l[j]? = some x → us[j]? = some u → Rep C x u

theorem cut_some {cells l : List AV} {off n : Nat} (h : cut cells off n = some l) : off + n ≤ cells.length ∧ l = (cells.drop off).take n ∧ l.length = n ∧ ∀ j, j < n → l[j]? = cells[off + j]? := by
  unfold cut at h
  cases hb : Nat.ble (off + n) cells.length
  · simp [hb] at h
  · simp [hb] at h
    have hle := Nat.le_of_ble_eq_true hb
    subst h
    exact ⟨hle, rfl, by simp; omega, fun j hj => by simp [List.getElem?_take, hj]⟩

theorem lies_of {C : Ctx} {b k off n : Nat} {cells l : List AV} {vs : Nat → Value} (hc : ∀ (j : Nat), j < cells.length → C.w.cell? ⟨b, k + j, none⟩ = some (vs j))
    (hr : ∀ (j : Nat) (c : AV), cells[j]? = some c → Rep C c (vs j)) (h : cut cells off n = some l) : Lies C b (k + off) l ((List.range n).map fun j => vs (off + j)) := by
  obtain ⟨h1, _, h3, h4⟩ := cut_some h
  refine ⟨by simp [h3], fun j u hj => ?_, fun j x u hx hu => ?_⟩
  · by_cases hlt : j < n
    · have : u = vs (off + j) := by simpa [hlt] using hj.symm
      subst this
      rw [Nat.add_assoc]; exact hc _ (by omega)
    · simp [List.getElem?_eq_none, hlt, Nat.le_of_not_lt hlt] at hj
  · by_cases hlt : j < n
    · have : u = vs (off + j) := by simpa [hlt] using hu.symm
      subst this
      exact hr _ _ (by rw [← h4 j hlt]; exact hx)
    · simp [List.getElem?_eq_none, hlt, Nat.le_of_not_lt hlt] at hu

theorem cell_of_heap {w : World} {b off : Nat} {cur : Array Value} {t : TypeId} {fz : Nat × Nat} {v : Value} (h : w.heap[b]? = some (.cells cur t fz)) (hv : cur[off]? = some v) : w.cell? ⟨b, off, none⟩ = some v := by
  simp [World.cell?, h, hv]

theorem rdCells_sound {C : Ctx} (hm : Mem C) {p : AV} {n : Nat} {l : List AV} {c : Value} (hr : RepT C p c) (h : rdCells C.E C.lb C.st p n = some l) :
    l.length = n ∧ ∃ b off us, c = .pointer (some ⟨b, off, none⟩) ∧ Lies C b off l us := by
  cases p with
  | fp cells off =>
    simp only [rdCells] at h
    have hf := rep_fp (C := C) hr
    cases hf with
    | fp vs hw hc hrr => exact ⟨(cut_some h).2.2.1, _, _, _, rfl, lies_of hc (fun j c hj => .fz (hrr j c hj)) h⟩
  | rf o off L =>
    simp only [rdCells] at h
    cases ho : C.st[o]? with
    | none => simp [ho] at h
    | some x =>
      cases x with
      | map es => simp [ho] at h
      | arr cells e wr =>
        simp only [ho] at h
        cases hL : Nat.beq cells.length L
        · simp [hL] at h
        · simp only [hL, cond_true] at h
          have hL' := Nat.eq_of_beq_eq_true hL
          have hp := rep_rf (C := C) hr ho hL'
          obtain ⟨cur, fz, vs, hb, hsz, _, hcur, hrep⟩ := hm.arr o cells e wr ho
          have := lies_of (C := C) (b := C.io o) (k := 0) (vs := vs) (fun j hj => by rw [Nat.zero_add]; exact cell_of_heap hb (hcur j hj)) hrep h
          rw [Nat.zero_add] at this
          exact ⟨(cut_some h).2.2.1, _, _, _, hp, this⟩
  | lp s g off =>
    simp only [rdCells] at h
    cases hl : lbGet C.lb s with
    | none => simp [hl] at h
    | some x =>
      obtain ⟨g', cells⟩ := x
      simp only [hl] at h
      cases hg : Nat.beq g g'
      · simp [hg] at h
      · simp only [hg, cond_true] at h
        have hg' := Nat.eq_of_beq_eq_true hg
        obtain ⟨g2, cs2, hl2, _, hr2⟩ := hr
        rw [hl] at hl2; cases hl2
        obtain ⟨b, hb, hc⟩ := hr2 hg'.symm
        obtain ⟨cur, t, fz, vs, hbb, hsz, _, hcur, hrep⟩ := hm.loc s g' cells b hl hb
        have := lies_of (C := C) (b := b) (k := 0) (vs := vs) (fun j hj => by rw [Nat.zero_add]; exact cell_of_heap hbb (hcur j hj)) hrep h
        rw [Nat.zero_add] at this
        exact ⟨(cut_some h).2.2.1, _, _, _, hc, this⟩
  | gl g =>
    simp only [rdCells] at h
    cases hn : Nat.beq n 1
    · simp [hn] at h
    · simp only [hn, cond_true] at h
      have hn' := Nat.eq_of_beq_eq_true hn
      cases hg : C.E.glob g with
      | none => simp [hg] at h
      | some v =>
        simp [hg] at h
        subst h
        obtain ⟨_, c', hc', hrep⟩ := hm.glob.glob g v hg
        refine ⟨by simp [hn'], g, 0, [c'], rep_gl (C := C) hr, ⟨by simp, fun j u hj => ?_, fun j x u hx hu => ?_⟩⟩
        · cases j with
          | zero => simp at hj; subst hj; exact hc'
          | succ j => simp at hj
        · cases j with
          | zero => simp at hx hu; subst hx hu; exact .fz hrep
          | succ j => simp at hx
  | _ => simp [rdCells] at h

theorem isAggT_spec {E : Env} {t : TypeId} {b : Bool} (h : isAggT E t = some b) (w : World) : (isAgg t).run E.P w = .ok b w := by
  unfold isAggT at h
  cases hd : E.P.underlying t with
  | none => simp [hd] at h
  | some d => cases d <;> simp [hd] at h <;> subst h <;> simp [isAgg, run_underlying hd]

theorem sizeT_spec {E : Env} {t : TypeId} {n : Nat} (h : sizeT E t = some n) : ∃ i, E.P.info? t = some i ∧ i.size = n := by
  unfold sizeT at h
  cases hi : E.P.info? t with
  | none => simp [hi] at h
  | some i => simp [hi] at h; exact ⟨i, rfl, h⟩

theorem run_sizeOf_of {E : Env} {t : TypeId} {n : Nat} (h : sizeT E t = some n) (w : World) : (sizeOf t).run E.P w = .ok n w := by
  obtain ⟨i, hi, hn⟩ := sizeT_spec h
  simp [sizeOf, typeInfo, hi, hn]

theorem one_some {l : List AV} {v : AV} (h : one l = some v) : l = [v] := by
  cases l with
  | nil => simp [one] at h
  | cons x r => cases r with
    | nil => simp [one] at h; rw [h]
    | cons y r => simp [one] at h

theorem run_loadCells_lies {C : Ctx} {P : Program} {b off : Nat} {l : List AV} {us : List Value} (h : Lies C b off l us) (n : Nat) (hn : l.length = n) :
    (loadCells ⟨b, off, none⟩ n).run P C.w = .ok us.toArray C.w := by
  have := run_loadCells_list (P := P) C.w ⟨b, off, none⟩ us (fun j v hj => by rw [Addr.add_lit]; exact h.cell j v hj)
  rw [h.len, hn] at this
  exact this

theorem loadA_sound {C : Ctx} (hm : Mem C) {p v : AV} {t : TypeId} {c : Value} (hr : RepT C p c) (h : loadA C.E C.lb C.st t p = some v) :
    ∃ u, (Instr.loadAt t c).run C.E.P C.w = .ok u C.w ∧ Rep C v u := by
  unfold loadA at h
  cases ha : isAggT C.E t with
  | none => simp [ha] at h
  | some b =>
    cases hs : sizeT C.E t with
    | none => cases b <;> simp [ha, hs] at h
    | some n =>
      cases b with
      | true =>
        simp only [ha, hs] at h
        cases hd : rdCells C.E C.lb C.st p n with
        | none => simp [hd] at h
        | some l =>
          simp [hd] at h
          subst h
          obtain ⟨hn, b, off, us, rfl, hl⟩ := rdCells_sound hm hr hd
          refine ⟨.agg us.toArray, ?_, .agg (by simp [hl.len]) fun j x u hx hu => hl.rep j x u hx (by simpa using hu)⟩
          simp [Instr.loadAt, Instr.sureAddr, loadVar, isAggT_spec ha, run_sizeOf_of hs, run_loadCells_lies hl n hn]
      | false =>
        simp only [ha, hs] at h
        cases hd : rdCells C.E C.lb C.st p 1 with
        | none => simp [hd] at h
        | some l =>
          simp [hd] at h
          have := one_some h
          subst this
          obtain ⟨hn, b, off, us, rfl, hl⟩ := rdCells_sound hm hr hd
          have hlen := hl.len
          obtain ⟨u, rfl⟩ : ∃ u, us = [u] := by
            cases us with
            | nil => simp at hlen
            | cons u r => cases r with
              | nil => exact ⟨u, rfl⟩
              | cons _ _ => simp at hlen
          refine ⟨u, ?_, hl.rep 0 v u rfl rfl⟩
          have hcell := hl.cell 0 u rfl
          simp only [Nat.add_zero] at hcell
          simp [Instr.loadAt, Instr.sureAddr, loadVar, isAggT_spec ha, hcell]

end Go.Proofs.YtcfaajaccbadbaaDoor.Ahm
