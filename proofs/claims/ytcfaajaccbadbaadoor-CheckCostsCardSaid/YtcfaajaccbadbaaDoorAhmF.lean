/- Operations that change no memory, each: slices, numbers, equality, parts. -/
import Derived.Test.YtcfaajaccbadbaaDoorAhmE
import Derived.Great.BuildSlice
set_option linter.unusedSimpArgs false
set_option linter.unusedVariables false
namespace Go.Proofs.YtcfaajaccbadbaaDoor.Ahm
open Go

section
variable {C : Ctx}

theorem bound_some {d y r : Nat} {v : AV} (h : bound d y (some v) = some r) : ∃ k i, v = .sc (.int k i) ∧ 0 ≤ i ∧ i ≤ (y : Int) ∧ r = i.toNat := by
  simp only [bound] at h
  cases hs : sIntOf v with
  | none => simp [hs] at h
  | some i =>
    obtain ⟨k, rfl⟩ := sIntOf_some hs
    simp only [hs] at h
    cases hb : (decide (0 ≤ i) && decide (i ≤ (y : Int)))
    · simp [hb] at h
    · simp [hb] at h
      simp at hb
      exact ⟨k, i, rfl, hb.1, hb.2, h.symm⟩

/-- an index that may be left away, against the model's -/
def Idx (C : Ctx) : Option AV → Option Value → Prop
  | none, none => True
  | some v, some c => RepT C v c
  | _, _ => False

theorem bound_run {d y r : Nat} {o : Option AV} {oc : Option Value} (hi : Idx C o oc) (h : bound d y o = some r) (code : BoundsCode) (P : Program) (w : World) :
    (match oc with | some v => (Instr.sliceBound v y code).run P w | none => .ok d w) = .ok r w := by
  cases o with
  | none => cases oc with
    | none => simp [bound] at h; simp [h]
    | some c => exact hi.elim
  | some v => cases oc with
    | none => exact hi.elim
    | some c =>
      obtain ⟨k, i, rfl, h0, h1, rfl⟩ := bound_some h
      have := repT_sc hi
      subst this
      simp [Instr.sliceBound, asIntOf, h0, h1]

theorem bounds_run {d1 y1 h l : Nat} {lo hi : Option AV} {clo chi : Option Value} (isS : Bool) (len cap : Nat) (hlo : Idx C lo clo) (hhi : Idx C hi chi)
    (hh : bound len cap hi = some h) (hl : bound 0 h lo = some l) (P : Program) (w : World) :
    (Instr.sliceBounds isS len cap clo chi none).run P w = .ok (l, h, cap) w := by
  have h1 := bound_run hhi hh (if isS then .sliceAcap else .sliceAlen) P w
  have h2 := bound_run hlo hl .sliceB P w
  cases chi <;> cases clo <;> simp_all [Instr.sliceBounds]

/-- all three indexes -/
theorem bounds3_run {h l m : Nat} {lo hi mx : Option AV} {clo chi cmx : Option Value} (isS : Bool) (cap : Nat) (hlo : Idx C lo clo) (hhi : Idx C hi chi) (hmx : Idx C mx cmx)
    (hb : (mx.isNone || hi.isSome) = true) (hm : bound cap cap mx = some m) (hh : bound 0 m hi = some h) (hl : bound 0 h lo = some l) (h0 : hi = none → cap = 0) (P : Program) (w : World) :
    (Instr.sliceBounds isS 0 cap clo chi cmx).run P w = .ok (l, h, m) w := by
  have h1 := bound_run hmx hm (if isS then .slice3Acap else .slice3Alen) P w
  have h2 := bound_run hhi hh .slice3B P w
  have h2' := bound_run hhi hh (if isS then .sliceAcap else .sliceAlen) P w
  have h3 := bound_run hlo hl .sliceB P w
  have h3' := bound_run hlo hl .slice3C P w
  cases mx with
  | none => cases cmx with
    | some _ => exact hmx.elim
    | none =>
      simp [bound] at hm
      subst hm
      cases chi <;> cases clo <;> simp_all [Instr.sliceBounds]
  | some v => cases cmx with
    | none => exact hmx.elim
    | some cv =>
      cases hi with
      | none => simp at hb
      | some hv => cases chi with
        | none => exact hhi.elim
        | some ch => cases clo <;> simp_all [Instr.sliceBounds]

theorem bound_le {d y r : Nat} {o : Option AV} (hd : d ≤ y) (h : bound d y o = some r) : r ≤ y := by
  cases o with
  | none => simp [bound] at h; omega
  | some v => obtain ⟨k, i, rfl, h0, h1, rfl⟩ := bound_some h; omega

theorem bound_wide {d y y' r : Nat} {o : Option AV} (hy : y ≤ y') (h : bound d y o = some r) : bound d y' o = some r := by
  cases o with
  | none => exact h
  | some v =>
    obtain ⟨k, i, rfl, h0, h1, rfl⟩ := bound_some h
    have : i ≤ (y' : Int) := by omega
    simp [bound, sIntOf, h0, this]

theorem take_drop_get {cells : List AV} {a n : Nat} {j : Nat} {c : AV} (h : ((cells.drop a).take n)[j]? = some c) : cells[a + j]? = some c ∧ j < n := by
  rw [List.getElem?_take] at h
  split at h
  · rw [List.getElem?_drop] at h; exact ⟨h, by assumption⟩
  · cases h

theorem fs_sub {F : FC} {cells : List AV} {n cap l h s : Nat} {a : Addr} (hf : FRep F (.fs cells n) (.slice (some a) n cap)) (hl : l ≤ h) (hh : h ≤ n) (hsz : cells.length = n * s) :
    FRep F (.fs ((cells.drop (l * s)).take ((h - l) * s)) (h - l)) (.slice (some (if cap = l then a else a.add (l * s))) (h - l) (cap - l)) := by
  have hcap : n ≤ cap := by cases hf <;> omega
  by_cases he : h - l = 0
  · rw [he]; simp only [Nat.zero_mul, List.take_zero]; exact .fs0
  · have hne : ¬ cap = l := by omega
    rw [if_neg hne]
    cases hf with
    | fs vs hn hw hc hr =>
      rw [Addr.add_lit]
      refine .fs (fun j => vs (l * s + j)) (by omega) (fun h1 => hw (fun h2 => h1 (by simp [h2]))) (fun j hj => ?_) (fun j c hj => ?_)
      · have : j < cells.length - l * s := by simp at hj; omega
        rw [Nat.add_assoc]
        exact hc _ (by omega)
      · exact hr _ _ (take_drop_get hj).1
    | fs0 => omega

theorem isZero {m : AV} {c : Value} {k : IntKind} (h : m = .sc (.int k 0)) (hr : RepT C m c) : c = .int k 0 := by subst h; exact repT_sc hr

theorem sliceA_sound {x v : AV} {t : TypeId} {lo hi mx : Option AV} {c : Value} {clo chi cmx : Option Value} (hr : RepT C x c) (hl : liveA C.lb C.st x = true)
    (hlo : Idx C lo clo) (hhi : Idx C hi chi) (hmx : Idx C mx cmx) (h : sliceA C.E C.st t x lo hi mx = some v) :
    ∃ u, (Instr.sliceAt t c clo chi cmx).run C.E.P C.w = .ok u C.w ∧ RepT C v u := by
  unfold sliceA at h
  split at h
  · -- strings
    rename_i hd
    split at h
    · rename_i s
      have := repT_sc (C := C) hr
      subst this
      cases cmx with
      | some _ => exact hmx.elim
      | none =>
        split at h
        · rename_i hh hhh
          cases hb : bound 0 hh lo with
          | none => simp [hb] at h
          | some l =>
            simp [hb] at h
            subst h
            exact ⟨.string (s.extract l hh), by simp [Instr.sliceAt, run_underlying hd, Instr.slice, bounds_run false _ _ hlo hhi hhh hb (d1 := 0) (y1 := 0)], Rep.fz (.sc rfl)⟩
        · cases h
    · cases h
  · rename_i e hd
    cases hs : sizeT C.E e with
    | none => simp [hs] at h
    | some s =>
      simp only [hs] at h
      split at h
      · -- frozen
        rename_i cells n
        cases cmx with
        | some _ => exact hmx.elim
        | none =>
          split at h
          · rename_i hh hhh
            split at h
            · rename_i l hb
              cases hsz : Nat.beq cells.length (n * s)
              · simp [hsz] at h
              · simp only [hsz, cond_true, Option.some.injEq] at h
                subst h
                have hsz' := Nat.eq_of_beq_eq_true hsz
                obtain ⟨a, cap, rfl, hcap⟩ := fs_form (rep_fs (C := C) hr)
                have hhn := bound_le (Nat.le_refl _) hhh
                have hlh := bound_le (Nat.zero_le _) hb
                have hb' := bound_wide hcap hhh
                refine ⟨_, ?_, Rep.fz (fs_sub (rep_fs (C := C) hr) hlh hhn hsz')⟩
                simp [Instr.sliceAt, run_underlying hd, Instr.slice, bounds_run true _ _ hlo hhi hb' hb (d1 := 0) (y1 := 0), run_sizeOf_of hs]
                split <;> rfl
            · cases h
          · cases h
      · -- own
        rename_i o off n L
        cases cmx with
        | some _ => exact hmx.elim
        | none =>
          split at h
          · rename_i hh hhh
            split at h
            · rename_i l hb
              obtain ⟨cells, e', wr, cap, s', cur, fz, ho, hL, rfl, hs', hbb, hn, h2, h3⟩ := live_sl hr hl
              have hhn := bound_le (Nat.le_refl _) hhh
              have hlh := bound_le (Nat.zero_le _) hb
              have hb' := bound_wide hn hhh
              cases hc : (Nat.ble 1 l && Nat.beq l hh)
              · simp only [hc, cond_false] at h
                cases he : Nat.beq e e'
                · simp [liveElem, ho, he] at h
                · have := Nat.eq_of_beq_eq_true he
                  subst this
                  rw [hs] at hs'; cases hs'
                  simp [liveElem, ho, he] at h
                  subst h
                  refine ⟨_, by simp [Instr.sliceAt, run_underlying hd, Instr.slice, bounds_run true _ _ hlo hhi hb' hb (d1 := 0) (y1 := 0), run_sizeOf_of hs]; rfl, ?_⟩
                  have hne : ¬ (cap = l ∧ 0 < l) := fun ⟨h4, h5⟩ => by
                    have : Nat.ble 1 l = true := Nat.ble_eq_true_of_le h5
                    have h6 : Nat.beq l hh = false := by simpa [this] using hc
                    have : l ≠ hh := fun h7 => by rw [h7] at h6; simp at h6
                    omega
                  have hadd : (if cap = l then (⟨C.io o, off, none⟩ : Addr) else (⟨C.io o, off, none⟩ : Addr).add (l * s)) = ⟨C.io o, off + l * s, none⟩ := by
                    split
                    · have : l = 0 := by
                        rcases Nat.eq_zero_or_pos l with h4 | h4
                        · exact h4
                        · exact absurd ⟨by assumption, h4⟩ hne
                      subst this; simp
                    · exact Addr.add_lit ..
                  rw [show (if cap = l then some (⟨C.io o, off, none⟩ : Addr) else some ((⟨C.io o, off, none⟩ : Addr).add (l * s))) = some ⟨C.io o, off + l * s, none⟩ by rw [← hadd]; split <;> rfl]
                  have hmul : (cap - l) * s = cap * s - l * s := Nat.sub_mul ..
                  have hle : l * s ≤ cap * s := Nat.mul_le_mul_right _ (by omega)
                  exact Rep.sl ho hL hs hbb (by omega) (by omega) (by omega)
              · simp only [hc, cond_true, Option.some.injEq] at h
                subst h
                simp only [Bool.and_eq_true] at hc
                have h4 := Nat.eq_of_beq_eq_true hc.2
                subst h4
                refine ⟨_, by simp [Instr.sliceAt, run_underlying hd, Instr.slice, bounds_run true _ _ hlo hhi hb' hb (d1 := 0) (y1 := 0), run_sizeOf_of hs]; rfl, ?_⟩
                split <;> exact Rep.fz .fs0
            · cases h
          · cases h
      · -- nil
        have := repT_sc (C := C) hr
        subst this
        split at h
        · rename_i a b m h1 h2 h3
          cases hq : (mx.isNone || hi.isSome)
          · simp [hq] at h
          simp [hq] at h; subst h
          refine ⟨.slice none 0 0, ?_, Rep.fz (.sc rfl)⟩
          have e1 := bound_le (Nat.le_refl _) h1
          have e2 := bound_le (Nat.le_refl _) h2
          have e3 := bound_le (Nat.le_refl _) h3
          obtain rfl : a = 0 := by omega
          obtain rfl : b = 0 := by omega
          obtain rfl : m = 0 := by omega
          have hbb := bounds3_run (C := C) true 0 hlo hhi hmx (by assumption) h3 h1 h2 (fun _ => rfl) C.E.P C.w
          simp [Instr.sliceAt, run_underlying hd, Instr.slice, hbb, run_sizeOf_of hs]
        · cases h
      · -- e0
        split at h
        · rename_i a b m h1 h2 h3
          cases hq : (mx.isNone || hi.isSome)
          · simp [hq] at h
          simp [hq] at h; subst h
          obtain ⟨ad, rfl⟩ := rep_e0 (C := C) hr
          have e1 := bound_le (Nat.le_refl _) h1
          have e2 := bound_le (Nat.le_refl _) h2
          have e3 := bound_le (Nat.le_refl _) h3
          obtain rfl : a = 0 := by omega
          obtain rfl : b = 0 := by omega
          obtain rfl : m = 0 := by omega
          refine ⟨.slice (some ad) 0 0, ?_, Rep.fz .e0⟩
          have hbb := bounds3_run (C := C) true 0 hlo hhi hmx hq h3 h1 h2 (fun _ => rfl) C.E.P C.w
          simp [Instr.sliceAt, run_underlying hd, Instr.slice, hbb, run_sizeOf_of hs]
        · cases h
      · -- three indexes
        rename_i m _ _
        split at h
        · rename_i kx ky
          cases cmx with
          | none => exact hmx.elim
          | some cm =>
            cases chi with
            | none => exact hhi.elim
            | some ch =>
              have e1 := repT_sc (show RepT C (.sc (.int kx 0)) cm from hmx)
              have e2 := repT_sc (show RepT C (.sc (.int ky 0)) ch from hhi)
              subst e1 e2
              cases hnn : isNonNilSlice x
              · simp [hnn] at h
              · simp only [hnn, Bool.true_and] at h
                have hlo0 : (Instr.sliceBounds true 0 0 clo (some (.int ky 0)) (some (.int kx 0))).run C.E.P C.w = .ok (0, 0, 0) C.w ∧
                    ∀ len cap, (Instr.sliceBounds true len cap clo (some (.int ky 0)) (some (.int kx 0))).run C.E.P C.w = .ok (0, 0, 0) C.w := by
                  have key : ∀ len cap, (Instr.sliceBounds true len cap clo (some (.int ky 0)) (some (.int kx 0))).run C.E.P C.w = .ok (0, 0, 0) C.w := by
                    intro len cap
                    cases lo with
                    | none => cases clo with
                      | none => simp [Instr.sliceBounds, Instr.sliceBound, asIntOf]
                      | some _ => exact hlo.elim
                    | some lv => cases clo with
                      | none => exact hlo.elim
                      | some cl =>
                        have : ∃ kl, lv = .sc (.int kl 0) := by
                          split at h
                          · simp_all
                          · simp_all
                          · simp at h
                        obtain ⟨kl, rfl⟩ := this
                        have e3 := repT_sc (show RepT C (.sc (.int kl 0)) cl from hlo)
                        subst e3
                        simp [Instr.sliceBounds, Instr.sliceBound, asIntOf]
                  exact ⟨key 0 0, key⟩
                have hv : v = .e0 := by
                  split at h <;> simp at h <;> exact h.symm
                subst hv
                have hform : ∃ a n cap, c = .slice (some a) n cap := by
                  cases x <;> simp [isNonNilSlice] at hnn
                  · obtain ⟨a, cap, rfl, _⟩ := fs_form (rep_fs (C := C) hr); exact ⟨_, _, _, rfl⟩
                  · obtain ⟨_, _, _, cap, _, _, _, _, _, rfl, _⟩ := live_sl hr hl; exact ⟨_, _, _, rfl⟩
                  · obtain ⟨a, rfl⟩ := rep_e0 (C := C) hr; exact ⟨_, _, _, rfl⟩
                obtain ⟨a, n, cap, rfl⟩ := hform
                refine ⟨.slice (some a) 0 0, ?_, Rep.fz .e0⟩
                simp [Instr.sliceAt, run_underlying hd, Instr.slice, hlo0.2, run_sizeOf_of hs]
        · cases h
      · cases h
  · cases h
end
end Go.Proofs.YtcfaajaccbadbaaDoor.Ahm
