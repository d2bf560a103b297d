/- 'append'; then every operation that changes memory, but calls. -/
import Derived.Test.YtcfaajaccbadbaaDoorAhmN
set_option linter.unusedSimpArgs false
set_option linter.unusedVariables false
namespace Go.Proofs.YtcfaajaccbadbaaDoor.Ahm
open Go

section
variable {C : Ctx}

theorem srcA_type {s : Nat} {t : TypeId} {x : AV} {r : List AV × Nat} (h : srcA C.E C.st s t x = some r) : ∃ d, C.E.P.underlying t = some d ∧ ∀ k, d ≠ .int k := by
  unfold srcA at h
  split at h <;> first
    | (rename_i hd; exact ⟨_, hd, fun k hk => by cases hk⟩)
    | cases h

theorem run_append_room' {t xt e ty : TypeId} {dx : TypeDesc} {s n : Nat} {b off sLen sCap : Nat} {cx : Value} {us : List Value} {w' : World} (hd : C.E.P.underlying t = some (.slice e)) (hs : sizeT C.E e = some s) (hx : C.E.P.underlying xt = some dx) (hni : ∀ k, dx ≠ .int k)
    (hlen : (Builtin.lenOf cx).run C.E.P C.w = .ok n C.w) (hf : (Builtin.firstCells s n cx).run C.E.P C.w = .ok us.toArray C.w) (hroom : sLen + n ≤ sCap) (hst : (storeCells ⟨b, off + sLen * s, none⟩ us).run C.E.P C.w = .ok () w') :
    (Builtin.append_ #[t, xt] ty #[.slice (some ⟨b, off, none⟩) sLen sCap, cx]).run C.E.P C.w = .ok (.slice (some ⟨b, off, none⟩) (sLen + n) sCap) w' := by
  have hm : (match dx with | .int _ => true | _ => false) = false := by cases dx <;> first | rfl | exact absurd rfl (hni _)
  simp only [Builtin.append_, Sem.run_bind, run_underlying hd, Result.andThen_ok, run_sizeOf_of hs, List.getElem?_toArray, List.getElem?_cons_zero, List.getElem?_cons_succ, run_underlying hx, Sem.run_pure, hm, Bool.false_eq_true, if_false, hlen, hroom, if_true, Bool.not_false, hf, Addr.add_lit, hst]

theorem run_append_nil0 {t xt e ty : TypeId} {dx : TypeDesc} {s : Nat} {cx : Value} {us : List Value} {a : Option Addr} (hd : C.E.P.underlying t = some (.slice e)) (hs : sizeT C.E e = some s) (hx : C.E.P.underlying xt = some dx) (hni : ∀ k, dx ≠ .int k)
    (hlen : (Builtin.lenOf cx).run C.E.P C.w = .ok 0 C.w) (hf : (Builtin.firstCells s 0 cx).run C.E.P C.w = .ok us.toArray C.w) (hus : us = []) :
    (Builtin.append_ #[t, xt] ty #[.slice a 0 0, cx]).run C.E.P C.w = .ok (.slice a 0 0) C.w := by
  have hm : (match dx with | .int _ => true | _ => false) = false := by cases dx <;> first | rfl | exact absurd rfl (hni _)
  subst hus
  cases a <;> simp only [Builtin.append_, Sem.run_bind, run_underlying hd, Result.andThen_ok, run_sizeOf_of hs, List.getElem?_toArray, List.getElem?_cons_zero, List.getElem?_cons_succ, run_underlying hx, Sem.run_pure, hm, Bool.false_eq_true, if_false, hlen, Nat.add_zero, Nat.le_refl, if_true, Bool.not_false, hf, storeCells]

theorem run_append_grow' {t xt e ty : TypeId} {dx : TypeDesc} {i : TypeInfo} {zu : Value} {s n : Nat} {a : Option Addr} {sLen sCap : Nat} {cx : Value} {us olds : List Value} (hd : C.E.P.underlying t = some (.slice e)) (hi : C.E.P.info? e = some i) (hsz : i.size = s) (hzr : ∀ w, (zeroValue e).run C.E.P w = .ok zu w)
    (hx : C.E.P.underlying xt = some dx) (hni : ∀ k, dx ≠ .int k) (hlen : (Builtin.lenOf cx).run C.E.P C.w = .ok n C.w) (hf : ∀ w' : World, w'.heap = C.w.heap → (Builtin.firstCells s n cx).run C.E.P w' = .ok us.toArray w')
    (hold : ∀ w' : World, w'.heap = C.w.heap → (Builtin.firstCells s sLen (.slice a sLen sCap)).run C.E.P w' = .ok olds.toArray w') (hgrow : sCap < sLen + n) (hbytes : (sLen + n) * i.bytes ≤ 140737488355328) (hb0 : 0 < i.bytes) :
    ∃ (newCap : Nat) (rest : Array Value), sLen + n ≤ newCap ∧ rest.size = (newCap - (sLen + n)) * zu.cells.size ∧
      (Builtin.append_ #[t, xt] ty #[.slice a sLen sCap, cx]).run C.E.P C.w = .ok (.slice (some ⟨C.w.heap.size, 0, none⟩) (sLen + n) newCap) (C.w.drew.alloc (.cells (olds.toArray ++ us.toArray ++ rest) e)) := by
  have hm : (match dx with | .int _ => true | _ => false) = false := by cases dx <;> first | rfl | exact absurd rfl (hni _)
  have hs : sizeT C.E e = some s := by simp [sizeT, hi, hsz]
  have hnr : ¬ sLen + n ≤ sCap := by omega
  have h63 : ¬ ((((sLen + n : Nat) : Int) > IntKind.i64.max) ∧ ((false = true) ∨ i.bytes = 0)) := fun h => h.2.elim (fun h => by cases h) (fun h => by omega)
  have h48 : ¬ Builtin.nextslicecap (sLen + n) sCap * i.bytes > 2 ^ 48 := by
    have := growslice_fits hgrow hbytes
    omega
  refine ⟨grownCap C.w (sLen + n) sCap e, Builtin.zeroCells zu.cells (grownCap C.w (sLen + n) sCap e - (sLen + n)), grownCap_ge _ _ _ _, by simp [Builtin.zeroCells], ?_⟩
  have hfd := hf C.w.drew rfl
  have hod := hold C.w.drew rfl
  have hforced : Question.forced (.appendCap (sLen + n) sCap e) = false := rfl
  simp only [Builtin.append_, Sem.run_bind, run_underlying hd, Result.andThen_ok, run_sizeOf_of hs, List.getElem?_toArray, List.getElem?_cons_zero, List.getElem?_cons_succ, run_underlying hx, Sem.run_pure, hm, Bool.false_eq_true, if_false, hlen, hnr, typeInfo, run_program, hi]
  rw [Sem.run_ite, if_neg (by simpa using h63)]
  simp only [Sem.run_bind, Result.andThen_ok, Sem.run_ite, run_program, hi, Sem.run_pure]
  rw [if_neg h48]
  simp only [Sem.run_bind, run_choose_drew, hforced, Bool.false_eq_true, if_false, Result.andThen_ok, run_program, hi, Sem.run_pure, run_askRoom, Bool.not_false, if_true]
  rw [hod]
  simp only [Result.andThen_ok]
  rw [hfd]
  simp only [Result.andThen_ok, hzr, newRow, Sem.run_bind, run_newObj_alloc]
  rfl

theorem lies_olds (hm : Mem C) {o off n : Nat} {cells l : List AV} {e : TypeId} {wr : Bool} (ho : C.st[o]? = some (.arr cells e wr)) (hc : cut cells off n = some l) :
    ∃ us : List Value, us.length = n ∧ Lies C (C.io o) off l us := by
  obtain ⟨cur, fz, vs, hbb, hsz, _, hcur, hrep⟩ := hm.arr o cells e wr ho
  have hl := lies_of (C := C) (b := C.io o) (k := 0) (vs := vs) (fun j hj => by rw [Nat.zero_add]; exact cell_of_heap hbb (hcur j hj)) hrep hc
  rw [Nat.zero_add] at hl
  exact ⟨_, by rw [hl.len]; exact (cut_some hc).2.2.1, hl⟩

theorem appendA_sound (hm : Mem C) {t xt ty : TypeId} {x y v : AV} {cx cy : Value} {st' : List AObj} (hx : RepT C x cx) (hy : RepT C y cy) (h : appendA C.E C.st t xt x y = some (v, st')) :
    ∃ (u : Value) (C' : Ctx), (Builtin.append_ #[t, xt] ty #[cx, cy]).run C.E.P C.w = .ok u C'.w ∧ Out C C'.w C.lb st' C' ∧ Rep C' v u := by
  unfold appendA at h
  split at h
  · cases h
  · rename_i e z s by_ he
    split at h
    · cases h
    · rename_i news n hsrc
      cases hall : news.all AV.isCell
      · simp [hall] at h
      · simp only [hall, Bool.not_true, cond_false] at h
        obtain ⟨hd, hs, hs0, hzl, ⟨i, hi, hsz, hby, hby0⟩, zu, hzr, hzu, _, _⟩ := elemA_some he
        obtain ⟨dx, hxt, hni⟩ := srcA_type hsrc
        have hsr := srcA_sound hm hy hsrc
        obtain ⟨us, hf, hul, hur⟩ := hsr.first
        have hnone : ∀ u ∈ us, u.oneCell' = true := fun u hu => by
          obtain ⟨j, hj⟩ := List.mem_iff_getElem?.1 hu
          have hlt := lt_of_some hj
          have hx : news[j]? = some (news[j]'(by omega)) := List.getElem?_eq_getElem (by omega)
          exact rep_one (hur j _ u hx hj) (List.all_eq_true.1 hall _ (List.mem_of_getElem? hx))
        -- a new block for nothing but what is appended
        have fresh : ∀ (a : Option Addr), (∀ w' : World, w'.heap = C.w.heap → (Builtin.firstCells s 0 (.slice a 0 0)).run C.E.P w' = .ok ([] : List Value).toArray w') → n ≠ 0 → n * by_ ≤ roomA →
            ∃ (u : Value) (C' : Ctx), (Builtin.append_ #[t, xt] ty #[.slice a 0 0, cy]).run C.E.P C.w = .ok u C'.w ∧ Out C C'.w C.lb (C.st ++ [.arr news e true]) C' ∧ Rep C' (.sl C.st.length 0 n (n * s)) u := by
          intro a ha hn0 hroom
          obtain ⟨cap, rest, hcap, hrest, hrun⟩ := run_append_grow' (ty := ty) hd hi hsz hzr hxt hni hsr.len hf ha (by omega) (by rw [hby, Nat.zero_add]; unfold roomA at hroom; exact hroom) (by omega)
          rw [Nat.zero_add] at hcap hrest hrun
          have hcr : CR (Rep C) news us.toArray := ⟨by simp [hul], fun j x u hx hu => hur j x u hx (by simpa using hu)⟩
          obtain ⟨vs, hc, hr⟩ := cr_vals hcr
          have hsize : ((([] : List Value).toArray ++ us.toArray ++ rest)).size = cap * s := by
            simp [hul, hsr.size, hrest, hzu]
            rw [← Nat.add_mul]; congr 1; omega
          have hw : (C.w.drew.alloc (.cells (([] : List Value).toArray ++ us.toArray ++ rest) e)).heap = C.w.heap.push (.cells (([] : List Value).toArray ++ us.toArray ++ rest) e) := rfl
          have hmp := mem_push hm hw rfl rfl rfl (x := .arr news e true) ⟨_, (0, 0), vs, rfl, by rw [hsize, hsr.size]; exact Nat.mul_le_mul_right _ hcap, nofz0 _, fun j hj => by
            have := hc j hj
            rw [Array.getElem?_append_left (by simp; omega)]
            simpa using this, hr⟩
          refine ⟨_, C.push _ (.arr news e true), hrun, ⟨rfl, rfl, rfl, hmp, ext_push hw rfl rfl rfl _, LExt.refl _⟩, ?_⟩
          have ho : (C.push (C.w.drew.alloc (.cells (([] : List Value).toArray ++ us.toArray ++ rest) e)) (.arr news e true)).st[C.st.length]? = some (.arr news e true) := by simp [Ctx.push]
          have := Rep.sl (off := 0) (n := n) (cap := cap) (s := s) (fz := (0, 0)) ho hsr.size hs (by rw [push_io_new]; exact push_new hw) hcap (by rw [Nat.zero_add]; exact Nat.mul_le_mul_right _ hcap) (by rw [hsize]; omega)
          rw [push_io_new] at this
          exact this
        split at h
        · -- nil
          have := repT_sc hx
          subst this
          cases hn : Nat.beq n 0
          · simp only [hn, cond_false] at h
            cases hroom : Nat.ble (n * by_) roomA
            · simp [hroom] at h
            · simp only [hroom, cond_true, Option.some.injEq, Prod.mk.injEq] at h
              obtain ⟨rfl, rfl⟩ := h
              exact fresh none (fun _ _ => rfl) (fun h => by subst h; simp at hn) (Nat.le_of_ble_eq_true hroom)
          · have hn' := Nat.eq_of_beq_eq_true hn
            subst hn'
            simp at h
            obtain ⟨rfl, rfl⟩ := h
            have hus : us = [] := List.eq_nil_of_length_eq_zero (by rw [hul, hsr.size]; simp)
            exact ⟨_, C, run_append_nil0 hd hs hxt hni hsr.len (hf C.w rfl) hus, ⟨rfl, rfl, rfl, hm, Ext.refl C, LExt.refl C⟩, hx⟩
        · -- e0
          obtain ⟨a, rfl⟩ := rep_e0 (C := C) hx
          cases hn : Nat.beq n 0
          · simp only [hn, cond_false] at h
            cases hroom : Nat.ble (n * by_) roomA
            · simp [hroom] at h
            · simp only [hroom, cond_true, Option.some.injEq, Prod.mk.injEq] at h
              obtain ⟨rfl, rfl⟩ := h
              exact fresh (some a) (fun w' _ => by simp [Builtin.firstCells, loadCells, loadCellsFrom]) (fun h => by subst h; simp at hn) (Nat.le_of_ble_eq_true hroom)
          · have hn' := Nat.eq_of_beq_eq_true hn
            subst hn'
            simp at h
            obtain ⟨rfl, rfl⟩ := h
            have hus : us = [] := List.eq_nil_of_length_eq_zero (by rw [hul, hsr.size]; simp)
            exact ⟨_, C, run_append_nil0 hd hs hxt hni hsr.len (hf C.w rfl) hus, ⟨rfl, rfl, rfl, hm, Ext.refl C, LExt.refl C⟩, hx⟩
        · -- own
          rename_i o off m L
          split at h
          · rename_i cells e' ho
            cases hb : (Nat.beq cells.length L && Nat.beq e e')
            · simp [hb] at h
            · simp only [hb, cond_true] at h
              simp only [Bool.and_eq_true] at hb
              have hL := Nat.eq_of_beq_eq_true hb.1
              have hee := Nat.eq_of_beq_eq_true hb.2
              subst hee
              obtain ⟨cap, s', cur, fz, rfl, hs', hbb, hmc, hLc, hcc⟩ := rep_sl (C := C) hx ho hL
              rw [hs] at hs'; cases hs'
              obtain ⟨cur', fz', vals, hbb', hsz', hnf, hc, hr⟩ := hm.arr o cells e true ho
              rw [hbb] at hbb'; cases hbb'
              have hlt := lt_of_some ho
              cases hfit : Nat.ble (off + m * s + n * s) L
              · simp only [hfit, cond_false] at h
                have hfit' : ¬ off + m * s + n * s ≤ L := fun hh => by rw [Nat.ble_eq_true_of_le hh] at hfit; cases hfit
                cases hg : (Nat.beq off 0 && Nat.beq (m * s) L && Nat.ble ((m + n) * by_) roomA)
                · simp [hg] at h
                · simp only [hg, cond_true, Option.some.injEq, Prod.mk.injEq] at h
                  obtain ⟨rfl, rfl⟩ := h
                  simp only [Bool.and_eq_true] at hg
                  have hoff := Nat.eq_of_beq_eq_true hg.1.1
                  have hmL := Nat.eq_of_beq_eq_true hg.1.2
                  have hroom := Nat.le_of_ble_eq_true hg.2
                  subst hoff
                  have hnews : news.length = n * s := hsr.size
                  have hn0 : 0 < n * s := by omega
                  -- the row behind it
                  have hrow : ∀ (j : Nat) (c : AV), (cells ++ news)[j]? = some c → Rep C c (if j < cells.length then vals j else us.getD (j - cells.length) undef) := fun j c hj => by
                    by_cases hjl : j < cells.length
                    · rw [List.getElem?_append_left hjl] at hj
                      rw [if_pos hjl]; exact hr j c hj
                    · rw [List.getElem?_append_right (by omega)] at hj
                      rw [if_neg hjl]
                      have hjn := lt_of_some hj
                      have hu : us[j - cells.length]? = some (us.getD (j - cells.length) undef) := by
                        have : j - cells.length < us.length := by omega
                        simp [List.getD, List.getElem?_eq_getElem this]
                      exact hur _ _ _ hj hu
                  by_cases hin : m + n ≤ cap
                  · -- there is room
                    have hcap : (m + n) * s ≤ cap * s := Nat.mul_le_mul_right _ hin
                    rw [Nat.add_mul] at hcap
                    have hfit2 : L + us.length ≤ cur.size := by omega
                    have hst := run_storeCells_row C.E.P (C.io o) L e fz us 0 cur C.w hbb hnf (by omega) hnone
                    simp only [Nat.add_zero] at hst
                    have hrun := run_append_room' (ty := ty) hd hs hxt hni hsr.len (hf C.w rfl) hin (by rw [Nat.zero_add, hmL]; exact hst)
                    have hrs := (row_get cur us L 0 hfit2).1
                    have ht := turned_row (C := C) (o := o) hbb hrs
                    have hlen' : (cells ++ news).length = L + n * s := by simp [hL, hnews]
                    have hcl : ∀ (j : Nat), j < (cells ++ news).length → (cur.toList.take L ++ us ++ cur.toList.drop (L + us.length)).toArray[j]? = some (if j < cells.length then vals j else us.getD (j - cells.length) undef) := fun j hj => by
                      rw [(row_get cur us L j hfit2).2]
                      by_cases hjl : j < cells.length
                      · rw [if_neg (by omega), if_pos hjl]; exact hc j hjl
                      · rw [if_pos (by omega), if_neg hjl, hL]
                        have : j - L < us.length := by omega
                        simp [List.getD, List.getElem?_eq_getElem this]
                    have hms := mem_seto hm ho ht (cells' := cells ++ news) (by omega) (fun hh => by omega) (setRow_heap _ _ _ _ _ _ hbb) (by omega) ⟨fun j hj => hnf.1 j (by omega), hnf.2⟩ hcl hrow
                    refine ⟨_, C.seto (C.w.setRow (C.io o) _) o (C.io o) (.arr (cells ++ news) e true), hrun, ⟨rfl, rfl, rfl, hms, ext_seto hm ho ht (by omega) (fun hh => by omega), LExt.refl _⟩, ?_⟩
                    have ho' : (C.seto (C.w.setRow (C.io o) (cur.toList.take L ++ us ++ cur.toList.drop (L + us.length)).toArray) o (C.io o) (.arr (cells ++ news) e true)).st[o]? = some (.arr (cells ++ news) e true) := by
                      simp only [Ctx.seto]; rw [set_get hlt]; simp
                    have hio : (C.seto (C.w.setRow (C.io o) (cur.toList.take L ++ us ++ cur.toList.drop (L + us.length)).toArray) o (C.io o) (.arr (cells ++ news) e true)).io o = C.io o := by simp [Ctx.seto]
                    have := Rep.sl (off := 0) (n := m + n) (cap := cap) (s := s) ho' hlen' hs (by rw [hio]; exact setRow_heap _ _ _ _ _ _ hbb) hin (by omega) (by omega)
                    rw [hio] at this
                    exact this
                  · -- a new block
                    have hcutall : cut cells 0 (m * s) = some cells := by
                      unfold cut
                      rw [Nat.zero_add, Nat.ble_eq_true_of_le (by omega)]
                      simp [hmL, ← hL]
                    obtain ⟨olds, hol, hlies⟩ := lies_olds hm ho hcutall
                    have hold : ∀ w' : World, w'.heap = C.w.heap → (Builtin.firstCells s m (.slice (some ⟨C.io o, 0, none⟩) m cap)).run C.E.P w' = .ok olds.toArray w' := fun w' hw => run_loadCells_lies' hw hlies (m * s) (by omega)
                    obtain ⟨cap', rest, hcap', hrest, hrun⟩ := run_append_grow' (ty := ty) hd hi hsz hzr hxt hni hsr.len hf hold (by omega) (by rw [hby]; unfold roomA at hroom; exact hroom) (by omega)
                    have hsize : (olds.toArray ++ us.toArray ++ rest).size = cap' * s := by
                      simp [hol, hul, hnews, hrest, hzu]
                      rw [← Nat.add_mul, ← Nat.add_mul]; congr 1; omega
                    have hw : (C.w.drew.alloc (.cells (olds.toArray ++ us.toArray ++ rest) e)).heap = C.w.heap.push (.cells (olds.toArray ++ us.toArray ++ rest) e) := rfl
                    have ht := turned_push (C := C) (o := o) (alt_of_some hbb) hw rfl rfl rfl
                    have hlen' : (cells ++ news).length = L + n * s := by simp [hL, hnews]
                    have hle' : (m + n) * s ≤ cap' * s := Nat.mul_le_mul_right _ hcap'
                    rw [Nat.add_mul] at hle'
                    have hrow2 : ∀ (j : Nat) (c : AV), (cells ++ news)[j]? = some c → Rep C c (if j < cells.length then olds.getD j undef else us.getD (j - cells.length) undef) := fun j c hj => by
                      by_cases hjl : j < cells.length
                      · rw [List.getElem?_append_left hjl] at hj
                        rw [if_pos hjl]
                        have : olds[j]? = some (olds.getD j undef) := by
                          have : j < olds.length := by omega
                          simp [List.getD, List.getElem?_eq_getElem this]
                        exact hlies.rep j c _ hj this
                      · have := hrow j c hj
                        rw [if_neg hjl] at this
                        rw [if_neg hjl]; exact this
                    have hcl : ∀ (j : Nat), j < (cells ++ news).length → (olds.toArray ++ us.toArray ++ rest)[j]? = some (if j < cells.length then olds.getD j undef else us.getD (j - cells.length) undef) := fun j hj => by
                      rw [Array.getElem?_append_left (by simp; omega)]
                      by_cases hjl : j < cells.length
                      · rw [Array.getElem?_append_left (by simp; omega), if_pos hjl]
                        have : j < olds.length := by omega
                        simp [List.getD, List.getElem?_eq_getElem this]
                      · rw [Array.getElem?_append_right (by simp; omega), if_neg hjl]
                        have h9 : j - olds.length = j - cells.length := by omega
                        have : j - cells.length < us.length := by omega
                        simp [h9, List.getD, List.getElem?_eq_getElem this]
                    have hms := mem_seto hm ho ht (cells' := cells ++ news) (by omega) (fun hh => by omega) (push_new hw) (by omega) (nofz0 _) hcl hrow2
                    refine ⟨_, C.seto _ o C.w.heap.size (.arr (cells ++ news) e true), hrun, ⟨rfl, rfl, rfl, hms, ext_seto hm ho ht (by omega) (fun hh => by omega), LExt.refl _⟩, ?_⟩
                    have ho' : (C.seto (C.w.drew.alloc (.cells (olds.toArray ++ us.toArray ++ rest) e)) o C.w.heap.size (.arr (cells ++ news) e true)).st[o]? = some (.arr (cells ++ news) e true) := by
                      simp only [Ctx.seto]; rw [set_get hlt]; simp
                    have hio : (C.seto (C.w.drew.alloc (.cells (olds.toArray ++ us.toArray ++ rest) e)) o C.w.heap.size (.arr (cells ++ news) e true)).io o = C.w.heap.size := by simp [Ctx.seto]
                    have := Rep.sl (off := 0) (n := m + n) (cap := cap') (s := s) (fz := (0, 0)) ho' hlen' hs (by rw [hio]; exact push_new hw) hcap' (by omega) (by omega)
                    rw [hio] at this
                    exact this
              · -- over what is there
                simp only [hfit, cond_true, Option.some.injEq, Prod.mk.injEq] at h
                obtain ⟨rfl, rfl⟩ := h
                have hfit' := Nat.le_of_ble_eq_true hfit
                have hnews : news.length = n * s := hsr.size
                have hin : m + n ≤ cap := by
                  have : (m + n) * s ≤ cap * s := by rw [Nat.add_mul]; omega
                  exact Nat.le_of_mul_le_mul_right this hs0
                obtain ⟨h1, vals', h2, h3⟩ := over (vs := news) (us := us) (off := off + m * s) hul (by omega) hsz' hc hr hur
                have hrs := (row_get cur us (off + m * s) 0 (by omega)).1
                have hst := run_storeCells_row C.E.P (C.io o) (off + m * s) e fz us 0 cur C.w hbb hnf (by omega) hnone
                simp only [Nat.add_zero] at hst
                have hrun := run_append_room' (ty := ty) hd hs hxt hni hsr.len (hf C.w rfl) hin hst
                have ht := turned_row (C := C) (o := o) hbb hrs
                have hms := mem_seto hm ho ht (by omega) (fun _ => rfl) (setRow_heap _ _ _ _ _ _ hbb) (by omega) ⟨fun j hj => hnf.1 j (by omega), hnf.2⟩ h2 h3
                refine ⟨_, C.seto (C.w.setRow (C.io o) _) o (C.io o) (.arr (splice cells (off + m * s) news) e true), hrun, ⟨rfl, rfl, rfl, hms, ext_seto hm ho ht (by omega) (fun _ => rfl), LExt.refl _⟩, ?_⟩
                have ho' : (C.seto (C.w.setRow (C.io o) (cur.toList.take (off + m * s) ++ us ++ cur.toList.drop (off + m * s + us.length)).toArray) o (C.io o) (.arr (splice cells (off + m * s) news) e true)).st[o]? = some (.arr (splice cells (off + m * s) news) e true) := by
                  simp only [Ctx.seto]; rw [set_get hlt]; simp
                have hio : (C.seto (C.w.setRow (C.io o) (cur.toList.take (off + m * s) ++ us ++ cur.toList.drop (off + m * s + us.length)).toArray) o (C.io o) (.arr (splice cells (off + m * s) news) e true)).io o = C.io o := by simp [Ctx.seto]
                have := Rep.sl (off := off) (n := m + n) (cap := cap) (s := s) ho' (by rw [h1, hL]) hs (by rw [hio]; exact setRow_heap _ _ _ _ _ _ hbb) hin (by omega) (by omega)
                rw [hio] at this
                exact this
          · cases h
        · cases h

end
end Go.Proofs.YtcfaajaccbadbaaDoor.Ahm
