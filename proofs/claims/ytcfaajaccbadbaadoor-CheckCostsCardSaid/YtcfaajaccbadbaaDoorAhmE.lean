/- Operations that change no memory, each. -/
import Derived.Test.YtcfaajaccbadbaaDoorAhmD
set_option linter.unusedSimpArgs false
set_option linter.unusedVariables false
namespace Go.Proofs.YtcfaajaccbadbaaDoor.Ahm
open Go

section
variable {C : Ctx}

theorem sIntOf_some {v : AV} {i : Int} (h : sIntOf v = some i) : ∃ k, v = .sc (.int k i) := by
  cases v with
  | sc u => cases u <;> simp [sIntOf] at h; subst h; exact ⟨_, rfl⟩
  | _ => simp [sIntOf] at h

theorem inB_true {i : Int} {n : Nat} (h : inB i n = true) : 0 ≤ i ∧ i < n := by simpa [inB] using h

theorem lies_part {b off : Nat} {l : List AV} {us : List Value} (h : Lies C b off l us) : True := trivial

theorem partA_sound {t : TypeId} {cs : List AV} {off : Nat} {v : AV} {vs : Array Value} (hl : vs.size = cs.length) (hr : ∀ (j : Nat) (x : AV) (u : Value), cs[j]? = some x → vs[j]? = some u → Rep C x u)
    (h : partA C.E t cs off = some v) (w : World) : ∃ u, (part t vs off).run C.E.P w = .ok u w ∧ Rep C v u := by
  unfold partA at h
  cases ha : isAggT C.E t with
  | none => simp [ha] at h
  | some b =>
    cases hs : sizeT C.E t with
    | none => cases b <;> simp [ha, hs] at h
    | some n =>
      cases b with
      | true =>
        simp only [ha, hs] at h
        cases hc : cut cs off n with
        | none => simp [hc] at h
        | some l =>
          simp [hc] at h
          subst h
          obtain ⟨h1, h2, h3, h4⟩ := cut_some hc
          refine ⟨.agg (vs.extract off (off + n)), by simp [part, isAggT_spec ha, run_sizeOf_of hs], .agg (by simp [h3]; omega) fun j x u hx hu => ?_⟩
          have hj : j < n := by
            have := (List.getElem?_eq_some_iff.1 hx).1
            omega
          rw [h4 j hj] at hx
          refine hr _ _ _ hx ?_
          rw [Array.getElem?_extract] at hu
          split at hu
          · exact hu
          · cases hu
      | false =>
        simp only [ha, hs] at h
        have hlt := (List.getElem?_eq_some_iff.1 h).1
        have hv : vs[off]? = some (vs[off]'(by omega)) := Array.getElem?_eq_getElem (by omega)
        exact ⟨vs[off]'(by omega), by simp [part, isAggT_spec ha, hv], hr _ _ _ h hv⟩

theorem fieldA_sound {t : TypeId} {p v : AV} {i : Nat} {c : Value} (hr : Rep C p c) (h : fieldA C.E t p i = some v) (w : World) :
    ∃ u, (Instr.field t c i).run C.E.P w = .ok u w ∧ Rep C v u := by
  unfold fieldA at h
  split at h
  · rename_i fields cs hd
    obtain ⟨vs, rfl, hl, hrr⟩ := rep_agg hr
    cases hf : fields[i]? with
    | none => simp [hf] at h
    | some f =>
      simp only [hf] at h
      obtain ⟨u, hu, hru⟩ := partA_sound hl hrr h w
      exact ⟨u, by simp [Instr.field, run_underlying hd, hf, asAgg, hu], hru⟩
  · cases h

/-- What stands behind a pointer that may be followed. -/
theorem live_rf {o off L : Nat} {c : Value} (hr : Rep C (.rf o off L) c) (hl : liveA C.lb C.st (.rf o off L) = true) :
    (∃ cells e wr, C.st[o]? = some (.arr cells e wr) ∧ cells.length = L) ∧ c = .pointer (some ⟨C.io o, off, none⟩) := by
  simp only [liveA] at hl
  split at hl
  · rename_i cells e wr ho
    have hL := Nat.eq_of_beq_eq_true hl
    exact ⟨⟨cells, e, wr, ho, hL⟩, rep_rf hr ho hL⟩
  · cases hl
theorem live_sl {o off n L : Nat} {c : Value} (hr : Rep C (.sl o off n L) c) (hl : liveA C.lb C.st (.sl o off n L) = true) :
    ∃ (cells : List AV) (e : TypeId) (wr : Bool) (cap s : Nat) (cur : Array Value) (fz : Nat × Nat), C.st[o]? = some (.arr cells e wr) ∧ cells.length = L ∧ c = .slice (some ⟨C.io o, off, none⟩) n cap ∧ sizeT C.E e = some s ∧
      C.w.heap[C.io o]? = some (.cells cur e fz) ∧ n ≤ cap ∧ L ≤ off + cap * s ∧ off + cap * s ≤ cur.size := by
  simp only [liveA] at hl
  split at hl
  · rename_i cells e wr ho
    have hL := Nat.eq_of_beq_eq_true hl
    obtain ⟨cap, s, cur, fz, h1, h2, h3, h4, h5, h6⟩ := rep_sl hr ho hL
    exact ⟨cells, e, wr, cap, s, cur, fz, ho, hL, h1, h2, h3, h4, h5, h6⟩
  · cases hl
theorem live_lp {s g off : Nat} {c : Value} (hr : RepT C (.lp s g off) c) (hl : liveA C.lb C.st (.lp s g off) = true) :
    ∃ b cs, lbGet C.lb s = some (g, cs) ∧ C.il s = some b ∧ c = .pointer (some ⟨b, off, none⟩) := by
  simp only [liveA] at hl
  split at hl
  · rename_i g' cs ho
    have hL := Nat.eq_of_beq_eq_true hl
    subst hL
    obtain ⟨g2, cs2, hl2, _, hr2⟩ := hr
    rw [ho] at hl2; cases hl2
    obtain ⟨b, hb, hc⟩ := hr2 rfl
    exact ⟨b, cs, ho, hb, hc⟩
  · cases hl

theorem getL_some {m : Tm} {lb : Lb} {st : List AObj} {x : Operand} {v : AV} (h : getL m lb st x = some v) : opv m x = some v ∧ liveA lb st v = true := by
  unfold getL at h
  cases ho : opv m x with
  | none => simp [ho] at h
  | some u =>
    simp only [ho] at h
    cases hl : liveA lb st u
    · simp [hl] at h
    · simp [hl] at h; subst h; exact ⟨rfl, hl⟩

theorem ptrAdd_sound {p v : AV} {n : Nat} {c : Value} (hr : RepT C p c) (hl : liveA C.lb C.st p = true) (h : ptrAdd p n = some v) :
    ∃ b off, c = .pointer (some ⟨b, off, none⟩) ∧ RepT C v (.pointer (some ⟨b, off + n, none⟩)) := by
  cases p with
  | fp cells off =>
    simp [ptrAdd] at h; subst h
    have hf := rep_fp (C := C) hr
    cases hf with
    | fp vs hw hc hrr => exact ⟨_, _, rfl, by rw [Nat.add_assoc]; exact Rep.fz (.fp vs hw hc hrr)⟩
  | rf o off L =>
    simp [ptrAdd] at h; subst h
    obtain ⟨⟨cells, e, wr, ho, hL⟩, rfl⟩ := live_rf hr hl
    exact ⟨_, _, rfl, Rep.rf ho hL⟩
  | lp s g off =>
    simp [ptrAdd] at h; subst h
    obtain ⟨b, cs, h1, h2, rfl⟩ := live_lp hr hl
    exact ⟨_, _, rfl, ⟨g, cs, h1, Nat.le_refl _, fun _ => ⟨b, h2, rfl⟩⟩⟩
  | _ => simp [ptrAdd] at h

theorem fieldAddrA_sound {p v : AV} {t : TypeId} {i : Nat} {c : Value} (hr : RepT C p c) (hl : liveA C.lb C.st p = true) (h : fieldAddrA C.E t p i = some v) (w : World) :
    ∃ u, (Instr.fieldAt t c i).run C.E.P w = .ok u w ∧ RepT C v u := by
  unfold fieldAddrA at h
  split at h
  · rename_i fields hd
    cases hf : fields[i]? with
    | none => simp [hf] at h
    | some f =>
      simp only [hf] at h
      split at h
      · rename_i k hs
        obtain ⟨b, off, rfl, hv⟩ := ptrAdd_sound hr hl h
        exact ⟨_, by simp [Instr.fieldAt, run_underlying hd, hf, Instr.sureAddr, fieldPlace, run_sizeOf_of hs, Addr.add_lit], hv⟩
      · cases h
  · cases h

theorem fs_at {F : FC} {cells : List AV} {n k : Nat} {a : Option Addr} {cap : Nat} (hk : k < cells.length) (h : FRep F (.fs cells n) (.slice a n cap)) :
    ∃ b off, a = some ⟨b, off, none⟩ ∧ FRep F (.fp cells k) (.pointer (some ⟨b, off + k, none⟩)) := by
  cases h with
  | fs vs hn hw hc hr => exact ⟨_, _, rfl, .fp vs hw hc hr⟩
  | fs0 => simp at hk

theorem fs_form {F : FC} {cells : List AV} {n : Nat} {c : Value} (h : FRep F (.fs cells n) c) : ∃ a cap, c = .slice (some a) n cap ∧ n ≤ cap := by
  cases h with
  | fs vs hn hw hc hr => exact ⟨_, _, rfl, hn⟩
  | fs0 => exact ⟨_, _, rfl, Nat.zero_le _⟩

theorem indexAddrA_sound {x i v : AV} {t : TypeId} {c ci : Value} (hr : RepT C x c) (hl : liveA C.lb C.st x = true) (hi : RepT C i ci) (h : indexAddrA C.E t x i = some v) (w : World) :
    ∃ u, (Instr.indexAt t c ci).run C.E.P w = .ok u w ∧ RepT C v u := by
  unfold indexAddrA at h
  cases hs : sIntOf i with
  | none => simp [hs] at h
  | some z =>
    obtain ⟨k, rfl⟩ := sIntOf_some hs
    have := repT_sc hi
    subst this
    simp only [hs] at h
    split at h
    · rename_i e hd
      split at h
      · rename_i s cells n he
        cases hb : inB z n
        · simp [hb] at h
        · simp only [hb, cond_true] at h
          obtain ⟨h0, h1⟩ := inB_true hb
          cases hk : Nat.ble cells.length (z.toNat * s)
          · simp only [hk, cond_false, Option.some.injEq] at h
            subst h
            have hlt : z.toNat * s < cells.length := by
              rcases Nat.lt_or_ge (z.toNat * s) cells.length with h2 | h2
              · exact h2
              · rw [Nat.ble_eq_true_of_le h2] at hk; cases hk
            obtain ⟨a, cap, rfl, hcap⟩ := fs_form (rep_fs (C := C) hr)
            obtain ⟨b, off, ha, hp⟩ := fs_at hlt (rep_fs (C := C) hr)
            cases ha
            exact ⟨_, by simp [Instr.indexAt, asIntOf, run_underlying hd, h0, h1, run_sizeOf_of he, Addr.add_lit], Rep.fz hp⟩
          · simp [hk] at h
      · rename_i s o off n L he
        cases hb : inB z n
        · simp [hb] at h
        · simp only [hb, cond_true, Option.some.injEq] at h
          subst h
          obtain ⟨h0, h1⟩ := inB_true hb
          obtain ⟨cells, e', wr, cap, s', cur, fz, ho, hL, rfl, hs', hbb, hn, h2, h3⟩ := live_sl hr hl
          exact ⟨_, by simp [Instr.indexAt, asIntOf, run_underlying hd, h0, h1, run_sizeOf_of he, Addr.add_lit], Rep.rf ho hL⟩
      · cases h
    · rename_i n e hd
      cases he : sizeT C.E e with
      | none => simp [he] at h
      | some s =>
        simp only [he] at h
        cases hb : inB z n
        · simp [hb] at h
        · simp only [hb, cond_true] at h
          obtain ⟨h0, h1⟩ := inB_true hb
          obtain ⟨b, off, rfl, hv⟩ := ptrAdd_sound hr hl h
          refine ⟨.pointer (some ⟨b, off + z.toNat * s, none⟩), ?_, hv⟩
          simp [Instr.indexAt, asIntOf, run_underlying hd, Instr.sureAddr, h0, h1, run_sizeOf_of he, Addr.add_lit]
    · cases h

theorem indexA_sound {x i v : AV} {t : TypeId} {c ci : Value} (hr : RepT C x c) (hi : RepT C i ci) (h : indexA C.E t x i = some v) (w : World) :
    ∃ u, (Instr.index t c ci).run C.E.P w = .ok u w ∧ Rep C v u := by
  unfold indexA at h
  cases hs : sIntOf i with
  | none => simp [hs] at h
  | some z =>
    obtain ⟨k, rfl⟩ := sIntOf_some hs
    have := repT_sc hi
    subst this
    simp only [hs] at h
    split at h
    · rename_i n e cs hd
      cases he : sizeT C.E e with
      | none => simp [he] at h
      | some s =>
        simp only [he] at h
        cases hb : inB z n
        · simp [hb] at h
        · simp only [hb, cond_true] at h
          obtain ⟨h0, h1⟩ := inB_true hb
          obtain ⟨vs, rfl, hl, hrr⟩ := rep_agg (C := C) hr
          obtain ⟨u, hu, hru⟩ := partA_sound hl hrr h w
          exact ⟨u, by simp [Instr.index, asIntOf, run_underlying hd, h0, h1, run_sizeOf_of he, hu], hru⟩
    · rename_i s hd
      have := repT_sc (C := C) hr
      subst this
      split at h
      · rename_i b hb
        simp at h
        subst h
        refine ⟨.int .u8 b.toNat, ?_, .fz (.sc rfl)⟩
        simp [Instr.index, asIntOf, run_underlying hd, hb]
      · cases h
    · cases h

end
end Go.Proofs.YtcfaajaccbadbaaDoor.Ahm
