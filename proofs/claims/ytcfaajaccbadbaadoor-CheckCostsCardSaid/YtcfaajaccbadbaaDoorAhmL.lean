/- Every operation that changes memory, but calls. -/
import Derived.Test.YtcfaajaccbadbaaDoorAhmK
set_option linter.unusedSimpArgs false
set_option linter.unusedVariables false
namespace Go.Proofs.YtcfaajaccbadbaaDoor.Ahm
open Go

theorem run_storeCells_row (P : Program) (g o : Nat) (t : TypeId) (fz : Nat × Nat) : ∀ (vs : List Value) (i : Nat) (cur : Array Value) (w : World), w.heap[g]? = some (.cells cur t fz) → NoFz cur fz → o + i + vs.length ≤ cur.size → (∀ v ∈ vs, v.oneCell' = true) →
    (storeCells ⟨g, o, none⟩ vs i).run P w = .ok () (w.setRow g (cur.toList.take (o + i) ++ vs ++ cur.toList.drop (o + i + vs.length)).toArray)
  | [], i, cur, w, hg, _, _, _ => by
    simp only [storeCells, List.append_nil, List.length_nil, Nat.add_zero, List.take_append_drop, Array.toArray_toList]
    rw [setRow_self w g cur t fz hg]
    rfl
  | v :: rest, i, cur, w, hg, hn, hl, h1 => by
    have hi : o + i < cur.size := by simp at hl; omega
    have hadd : (⟨g, o, none⟩ : Addr).add i = ⟨g, o + i, none⟩ := Addr.add_lit ..
    have hcell : w.cell? ⟨g, o + i, none⟩ = some cur[o + i] := by simp [World.cell?, hg, hi]
    have hfro : w.frozen? ⟨g, o + i, none⟩ = false := by
      have := hn.1 (o + i) hi
      simp only [World.frozen?, hg]
      obtain ⟨f1, f2⟩ := fz
      simpa using this
    have hst : (store ((⟨g, o, none⟩ : Addr).add i) v).run P w = .ok () (w.setRow g (cur.setIfInBounds (o + i) v)) := by
      rw [hadd, run_store P w _ v _ (h1 v (by simp)), hcell]
      simp [hfro, setCell_eq_setRow w g (o + i) cur t fz v hg]
    have ih := run_storeCells_row P g o t fz rest (i + 1) (cur.setIfInBounds (o + i) v) (w.setRow g (cur.setIfInBounds (o + i) v)) (setRow_heap w g cur _ t _ hg) ⟨fun j hj => hn.1 j (by simpa using hj), hn.2⟩ (by simp at hl ⊢; omega) (fun x hx => h1 x (by simp [hx]))
    simp only [storeCells, Sem.run_bind, hst, Result.andThen_ok, ih, setRow_setRow]
    congr 3
    have e := list_seg_step cur.toList (o + i) v rest (by simp at hl ⊢; omega)
    simpa [Array.toList_setIfInBounds, Nat.add_assoc] using e

theorem row_get (cur : Array Value) (us : List Value) (o j : Nat) (h : o + us.length ≤ cur.size) :
    (cur.toList.take o ++ us ++ cur.toList.drop (o + us.length)).toArray.size = cur.size ∧
    (cur.toList.take o ++ us ++ cur.toList.drop (o + us.length)).toArray[j]? = if o ≤ j ∧ j < o + us.length then us[j - o]? else cur[j]? := by
  refine ⟨by simp; omega, ?_⟩
  rw [List.getElem?_toArray]
  by_cases h1 : j < o
  · rw [if_neg (by omega), List.getElem?_append_left (by simp; omega), List.getElem?_append_left (by simp; omega), List.getElem?_take, if_pos h1]; simp
  · by_cases h2 : j < o + us.length
    · rw [if_pos ⟨by omega, h2⟩, List.getElem?_append_left (by simp; omega), List.getElem?_append_right (by simp; omega)]
      simp [Nat.min_eq_left (show o ≤ cur.size by omega)]
    · rw [if_neg (by omega), List.getElem?_append_right (by simp; omega), List.getElem?_drop]
      simp
      congr 1
      omega

section
variable {C : Ctx}

theorem rep_one {v : AV} {c : Value} (h : Rep C v c) (hc : v.isCell = true) : c.oneCell' = true := by
  cases v with
  | sc u =>
    obtain ⟨rfl, hs⟩ := rep_sc h
    cases c <;> first | rfl | (simp [AV.isCell] at hc; done) | simp [scal] at hs
  | sp k => exact (rep_sp h).2
  | gl k => rw [rep_gl h]; rfl
  | fs cells n => obtain ⟨a, cap, rfl, _⟩ := fs_form (rep_fs h); rfl
  | fp cells n => have := rep_fp h; cases this; rfl
  | e0 => obtain ⟨a, rfl⟩ := rep_e0 h; rfl
  | ifc t v => obtain ⟨u, rfl, _⟩ := rep_ifc h; rfl
  | agg cs => simp [AV.isCell] at hc
  | tup vs => simp [AV.isCell] at hc
  | fn f a b => obtain ⟨va, vb, rfl, _⟩ := rep_fn h; rfl
  | lp s g o => simp [AV.isCell] at hc
  | mp o => rw [(rep_mp h).1]; rfl
  | sl o off n L =>
    cases h with
    | fz h => cases h
    | sl => rfl
    | slOld _ _ hv => exact hv
  | rf o off L =>
    cases h with
    | fz h => cases h
    | rf => rfl
    | rfOld _ _ hv => exact hv

/-- the outcome of a step that changes memory -/
structure Out (C : Ctx) (w' : World) (lb' : Lb) (st' : List AObj) (C' : Ctx) : Prop where
  w : C'.w = w'
  lb : C'.lb = lb'
  st : C'.st = st'
  mem : Mem C'
  ext : Ext C C'
  lext : LExt C C'

/-- values written over an object's, or a local variable's, cells -/
theorem over {cells vs : List AV} {cur : Array Value} {us : List Value} {vals : Nat → Value} {off : Nat} (hl : us.length = vs.length) (hfit : off + vs.length ≤ cells.length) (hsz : cells.length ≤ cur.size)
    (hc : ∀ (j : Nat), j < cells.length → cur[j]? = some (vals j)) (hr : ∀ (j : Nat) (c : AV), cells[j]? = some c → Rep C c (vals j)) (hu : ∀ (j : Nat) (x : AV) (u : Value), vs[j]? = some x → us[j]? = some u → Rep C x u) :
    (splice cells off vs).length = cells.length ∧ ∃ vals' : Nat → Value, (∀ (j : Nat), j < (splice cells off vs).length → (cur.toList.take off ++ us ++ cur.toList.drop (off + us.length)).toArray[j]? = some (vals' j)) ∧
      ∀ (j : Nat) (c : AV), (splice cells off vs)[j]? = some c → Rep C c (vals' j) := by
  have hs := fun i => splice_get (cells := cells) (vs := vs) (off := off) hfit i
  refine ⟨(hs 0).1, fun j => if off ≤ j ∧ j < off + us.length then us.getD (j - off) undef else vals j, fun j hj => ?_, fun j c hj => ?_⟩
  · rw [(hs 0).1] at hj
    rw [(row_get cur us off j (by omega)).2]
    by_cases h : off ≤ j ∧ j < off + us.length
    · rw [if_pos h]; show _ = some (if off ≤ j ∧ j < off + us.length then us.getD (j - off) undef else vals j); rw [if_pos h]
      have : j - off < us.length := by omega
      simp [List.getD, List.getElem?_eq_getElem this]
    · rw [if_neg h]; show _ = some (if off ≤ j ∧ j < off + us.length then us.getD (j - off) undef else vals j); rw [if_neg h]; exact hc j hj
  · rw [(hs j).2] at hj
    by_cases h : off ≤ j ∧ j < off + us.length
    · rw [if_pos (by omega)] at hj
      show Rep C c (if off ≤ j ∧ j < off + us.length then us.getD (j - off) undef else vals j)
      rw [if_pos h]
      have : j - off < us.length := by omega
      have hu' : us[j - off]? = some (us.getD (j - off) undef) := by simp [List.getD, List.getElem?_eq_getElem this]
      exact hu _ _ _ hj hu'
    · rw [if_neg (by omega)] at hj
      show Rep C c (if off ≤ j ∧ j < off + us.length then us.getD (j - off) undef else vals j)
      rw [if_neg h]
      exact hr j c hj

theorem wrCells_sound (hm : Mem C) {p : AV} {vs : List AV} {us : List Value} {c : Value} {lb' : Lb} {st' : List AObj} (hp : RepT C p c) (hl : us.length = vs.length)
    (hu : ∀ (j : Nat) (x : AV) (u : Value), vs[j]? = some x → us[j]? = some u → Rep C x u) (h : wrCells C.lb C.st p vs = some (lb', st')) :
    ∃ (a : Addr) (C' : Ctx), c = .pointer (some a) ∧ (storeCells a us).run C.E.P C.w = .ok () C'.w ∧ Out C C'.w lb' st' C' := by
  unfold wrCells at h
  cases hall : vs.all AV.isCell
  · simp [hall] at h
  · simp only [hall, cond_true] at h
    have hone : ∀ v ∈ us, v.oneCell' = true := fun v hv => by
      obtain ⟨j, hj⟩ := List.mem_iff_getElem?.1 hv
      have hlt := lt_of_some hj
      have hx : vs[j]? = some (vs[j]'(by omega)) := List.getElem?_eq_getElem (by omega)
      exact rep_one (hu j _ v hx hj) (List.all_eq_true.1 hall _ (List.mem_of_getElem? hx))
    split at h
    · rename_i o off L
      split at h
      · rename_i cells e ho
        cases hb : (Nat.beq cells.length L && Nat.ble (off + vs.length) cells.length)
        · simp [hb] at h
        · simp only [hb, cond_true, Option.some.injEq, Prod.mk.injEq] at h
          simp only [Bool.and_eq_true] at hb
          have hL := Nat.eq_of_beq_eq_true hb.1
          have hfit := Nat.le_of_ble_eq_true hb.2
          obtain ⟨rfl, rfl⟩ := h
          have hcp := rep_rf (C := C) hp ho hL
          obtain ⟨cur, fz, vals, hbb, hsz, hnf, hc, hr⟩ := hm.arr o cells e true ho
          obtain ⟨h1, vals', h2, h3⟩ := over hl hfit hsz hc hr hu
          have hrs := (row_get cur us off 0 (by omega)).1
          have hrun := run_storeCells_row C.E.P (C.io o) off e fz us 0 cur C.w hbb hnf (by omega) hone
          simp only [Nat.add_zero] at hrun
          have ht := turned_row (C := C) (o := o) hbb hrs
          refine ⟨_, C.seto (C.w.setRow (C.io o) _) o (C.io o) (.arr (splice cells off vs) e true), hcp, hrun, rfl, rfl, rfl, ?_, ext_seto hm ho ht (by omega) (fun _ => rfl), LExt.refl _⟩
          exact mem_seto hm ho ht (by omega) (fun _ => rfl) (setRow_heap _ _ _ _ _ _ hbb) (by omega) ⟨fun j hj => hnf.1 j (by omega), hnf.2⟩ h2 h3
      · cases h
    · rename_i s g off
      split at h
      · rename_i g' cells hs
        cases hb : (Nat.beq g g' && Nat.ble (off + vs.length) cells.length)
        · simp [hb] at h
        · simp only [hb, cond_true, Option.some.injEq, Prod.mk.injEq] at h
          simp only [Bool.and_eq_true] at hb
          have hg := Nat.eq_of_beq_eq_true hb.1
          have hfit := Nat.le_of_ble_eq_true hb.2
          obtain ⟨rfl, rfl⟩ := h
          subst hg
          obtain ⟨g2, cs2, hl2, _, hr2⟩ := hp
          rw [hs] at hl2; cases hl2
          obtain ⟨b, hil, rfl⟩ := hr2 rfl
          obtain ⟨cur, t, fz, vals, hbb, hsz, hnf, hc, hr⟩ := hm.loc s g cells b hs hil
          obtain ⟨h1, vals', h2, h3⟩ := over hl hfit (by omega) hc hr hu
          have hrs := (row_get cur us off 0 (by omega)).1
          have hrun := run_storeCells_row C.E.P b off t fz us 0 cur C.w hbb hnf (by omega) hone
          simp only [Nat.add_zero] at hrun
          obtain ⟨m1, m2, m3⟩ := mem_setl hm hs hil hbb hrs h1 h2 h3 rfl
          exact ⟨_, C.setl (C.w.setRow b _) (lbSet C.lb s g (splice cells off vs)), rfl, hrun, rfl, rfl, rfl, m1, m2, m3⟩
      · cases h
    · cases h

theorem storeA_sound (hm : Mem C) {p v : AV} {c u : Value} {t : TypeId} {lb' : Lb} {st' : List AObj} (hp : RepT C p c) (hv : RepT C v u) (h : storeA C.E C.lb C.st t p v = some (lb', st')) :
    ∃ C' : Ctx, (Instr.storeAt t c u).run C.E.P C.w = .ok () C'.w ∧ Out C C'.w lb' st' C' := by
  unfold storeA at h
  cases hs : sizeT C.E t with
  | none => simp [hs] at h
  | some n =>
    simp only [hs] at h
    cases hb : Nat.beq v.cells.length n
    · simp [hb] at h
    · simp only [hb, cond_true] at h
      have hn := Nat.eq_of_beq_eq_true hb
      have hlp : v.isLp = false := by
        cases v <;> first | rfl | (simp [wrCells, AV.cells, AV.isCell] at h)
      have hvr := rep_of hv hlp
      obtain ⟨e1, e2⟩ := cells_len hvr
      obtain ⟨a, C', rfl, r1, r2⟩ := wrCells_sound hm (us := u.cells.toList) hp (by simp [e1]) (fun j x y hx hy => e2.2 j x y hx (by simpa using hy)) h
      refine ⟨C', ?_, r2⟩
      have hsz : ¬ u.cells.size ≠ n := by rw [← e1]; omega
      simp only [Instr.storeAt, Instr.sureAddr, storeVar, Sem.run_bind, Sem.run_pure, Result.andThen_ok, run_sizeOf_of hs, Sem.run_ite]
      rw [if_neg hsz]
      simp only [Sem.run_bind, Sem.run_pure, Result.andThen_ok, r1]

end
end Go.Proofs.YtcfaajaccbadbaaDoor.Ahm
