/- Regions that draw their order: what their plan says. -/
import Derived.Test.YtcfaajaccbadbaaDoorAhmR
set_option linter.unusedSimpArgs false
set_option linter.unusedVariables false
namespace Go.Proofs.YtcfaajaccbadbaaDoor.Ahm
open Go

def befF (acc : List Nat) (o : Oper) : Nat :=
  o.after.toList.foldl (fun s e => bif Region.binds .any e && Nat.blt e.on acc.length then Nat.lor (Nat.lor s (2 ^ e.on)) (acc.getD e.on 0) else s) 0

theorem testBit_fold (acc : List Nat) (p : Edge → Bool) (i : Nat) : ∀ (l : List Edge) (s : Nat),
    Nat.testBit (l.foldl (fun s e => bif p e then Nat.lor (Nat.lor s (2 ^ e.on)) (acc.getD e.on 0) else s) s) i = true →
    Nat.testBit s i = true ∨ ∃ e ∈ l, p e = true ∧ (e.on = i ∨ Nat.testBit (acc.getD e.on 0) i = true)
  | [], s, h => .inl h
  | e :: r, s, h => by
    rw [List.foldl_cons] at h
    rcases testBit_fold acc p i r _ h with h | ⟨e', h1, h2, h3⟩
    · cases hp : p e
      · simp [hp] at h; exact .inl h
      · simp only [hp, cond_true] at h
        change Nat.testBit ((s ||| 2 ^ e.on) ||| acc.getD e.on 0) i = true at h
        rw [Nat.testBit_or, Nat.testBit_or, Nat.testBit_two_pow] at h
        simp only [Bool.or_eq_true, decide_eq_true_eq] at h
        rcases h with (h | h) | h
        · exact .inl h
        · exact .inr ⟨e, List.mem_cons_self .., hp, .inl h⟩
        · exact .inr ⟨e, List.mem_cons_self .., hp, .inr h⟩
    · exact .inr ⟨e', List.mem_cons_of_mem _ h1, h2, h3⟩

theorem bef_cons (o : Oper) (r : List Oper) (acc : List Nat) : bef (o :: r) acc = bef r (acc ++ [befF acc o]) := rfl

theorem bef_old : ∀ (r : List Oper) (acc : List Nat) (j : Nat), j < acc.length → (bef r acc).getD j 0 = acc.getD j 0
  | [], acc, j, h => rfl
  | o :: r, acc, j, h => by
    rw [bef_cons, bef_old r _ j (by simp; omega)]
    simp [List.getD, List.getElem?_append_left h]

theorem bef_new : ∀ (r : List Oper) (acc : List Nat) (k : Nat) (o : Oper), r[k]? = some o →
    ∃ acc' : List Nat, (bef r acc).getD (acc.length + k) 0 = befF acc' o ∧ acc'.length = acc.length + k ∧ ∀ j, j < acc'.length → acc'.getD j 0 = (bef r acc).getD j 0
  | [], acc, k, o, h => by simp at h
  | x :: r, acc, 0, o, h => by
    simp at h; subst h
    refine ⟨acc, ?_, rfl, fun j hj => (bef_old (x :: r) acc j hj).symm⟩
    rw [bef_cons, bef_old _ _ _ (by simp)]
    simp [List.getD]
  | x :: r, acc, k + 1, o, h => by
    simp at h
    obtain ⟨acc', h1, h2, h3⟩ := bef_new r (acc ++ [befF acc x]) k o h
    simp at h1 h2
    refine ⟨acc', ?_, by omega, fun j hj => h3 j hj⟩
    rw [bef_cons, ← h1]
    congr 1
    omega

theorem forced_edge {ops : List Oper} {i j : Nat} {o : Oper} (ho : ops[j]? = some o) (h : forced (bef ops []) i j = true) :
    ∃ e ∈ o.after.toList, Region.binds .any e = true ∧ e.on < j ∧ (e.on = i ∨ forced (bef ops []) i e.on = true) := by
  unfold forced at h
  obtain ⟨acc', h1, h2, h3⟩ := bef_new ops [] j o ho
  simp at h1 h2
  rw [List.getD_eq_getElem?_getD, h1] at h
  rcases testBit_fold acc' (fun e => Region.binds .any e && Nat.blt e.on acc'.length) i _ _ h with h | ⟨e, e1, e2, e3⟩
  · simp at h
  · simp only [Bool.and_eq_true] at e2
    have hlt : e.on < acc'.length := Nat.le_of_ble_eq_true e2.2
    refine ⟨e, e1, e2.1, by omega, e3.imp id fun h => ?_⟩
    unfold forced
    rw [← h3 _ hlt]
    exact h

theorem edgesOK_spec : ∀ {r : List Oper} {p k : Nat} {o : Oper}, edgesOK p r = true → r[k]? = some o → ∀ e ∈ o.after.toList, Region.binds .any e = true → e.on < p + k
  | [], p, k, o, _, h => by simp at h
  | x :: r, p, k, o, hk, h => by
    simp only [edgesOK, Bool.and_eq_true] at hk
    cases k with
    | zero =>
      simp at h; subst h
      intro e he hb
      have := (List.all_eq_true.1 hk.1) e he
      simp [hb] at this
      exact this
    | succ k =>
      simp at h
      intro e he hb
      have := edgesOK_spec hk.2 h e he hb
      omega

theorem slotsOK_spec {ops : List Oper} {b : List Nat} (h : slotsOK ops b = true) {i j : Nat} {x y : Oper} {d : Nat} (hi : ops[i]? = some x) (hj : ops[j]? = some y) (hne : i ≠ j) (hd : x.dst = some d) :
    y.dst ≠ some d ∧ (memN (readsOf ops y) d = true → (if i < j then forced b i j else forced b j i) = true) := by
  unfold slotsOK at h
  rw [List.all_eq_true] at h
  have h1 := h i (by simp; exact (List.getElem?_eq_some_iff.1 hi).1)
  rw [List.all_eq_true] at h1
  have h2 := h1 j (by simp; exact (List.getElem?_eq_some_iff.1 hj).1)
  have hb : Nat.beq i j = false := by
    cases hh : Nat.beq i j
    · rfl
    · exact absurd (Nat.eq_of_beq_eq_true hh) hne
  simp only [hb, Bool.false_or, hi, hj, hd, Bool.and_eq_true, Bool.not_eq_true', Bool.or_eq_true] at h2
  refine ⟨fun hh => ?_, fun hh => ?_⟩
  · have := h2.1; rw [hh] at this; simp at this
  · rcases h2.2 with h3 | h3
    · rw [hh] at h3; cases h3
    · exact h3

def cntE : List Rec → Nat
  | [] => 0
  | r :: rs => (bif r.eff then 1 else 0) + cntE rs

theorem effsOf_spec : ∀ (rs : List Rec) (p : Nat) (pre post : List Nat) (i : Nat), effsOf p rs = pre ++ i :: post → p ≤ i ∧ (∃ r, rs[i - p]? = some r ∧ r.eff = true) ∧ pre.length = cntE (rs.take (i - p))
  | [], p, pre, post, i, h => by simp [effsOf] at h
  | r :: rs, p, pre, post, i, h => by
    simp only [effsOf] at h
    have step : ∀ pre', effsOf (p + 1) rs = pre' ++ i :: post → p + 1 ≤ i ∧ (∃ r, rs[i - (p + 1)]? = some r ∧ r.eff = true) ∧ pre'.length = cntE (rs.take (i - (p + 1))) := fun pre' h => effsOf_spec rs (p + 1) pre' post i h
    cases hr : r.eff
    · simp only [hr, cond_false] at h
      obtain ⟨h1, ⟨r', h2, h3⟩, h4⟩ := step pre h
      have e : i - p = (i - (p + 1)) + 1 := by omega
      exact ⟨by omega, ⟨r', by rw [e]; simpa using h2, h3⟩, by rw [e]; simp [cntE, hr, h4]⟩
    · simp only [hr, cond_true] at h
      cases pre with
      | nil =>
        simp at h
        obtain ⟨rfl, _⟩ := h
        exact ⟨Nat.le_refl _, ⟨r, by simp, hr⟩, by simp [cntE]⟩
      | cons q pre' =>
        simp at h
        obtain ⟨h1, ⟨r', h2, h3⟩, h4⟩ := step pre' h.2
        have e : i - p = (i - (p + 1)) + 1 := by omega
        exact ⟨by omega, ⟨r', by rw [e]; simpa using h2, h3⟩, by rw [e]; simp [cntE, hr, h4]; omega⟩

theorem effsOf_mem : ∀ (rs : List Rec) (p k : Nat) (r : Rec), rs[k]? = some r → r.eff = true → p + k ∈ effsOf p rs
  | [], p, k, r, h, _ => by simp at h
  | x :: rs, p, k, r, h, he => by
    simp only [effsOf]
    cases k with
    | zero => simp at h; subst h; simp [he]
    | succ k =>
      simp at h
      have := effsOf_mem rs (p + 1) k r h he
      rw [show p + 1 + k = p + (k + 1) by omega] at this
      cases x.eff
      · simpa using this
      · simp only [cond_true]; exact List.mem_cons_of_mem _ this

theorem effsOf_len : ∀ (rs : List Rec) (p : Nat), (effsOf p rs).length = cntE rs
  | [], p => rfl
  | x :: rs, p => by
    simp only [effsOf, cntE]
    cases x.eff
    · simp [effsOf_len rs (p + 1)]
    · simp [effsOf_len rs (p + 1)]; omega

/-- one behind the other in a chain -/
theorem chainOK_spec : ∀ {b : List Nat} {pre post : List Nat} {i j : Nat}, chainOK b (pre ++ i :: j :: post) = true → forced b i j = true
  | b, [], post, i, j, h => by simp [chainOK] at h; exact h.1
  | b, [x], post, i, j, h => by simp [chainOK] at h; exact h.2.1
  | b, x :: y :: pre, post, i, j, h => by
    simp [chainOK] at h
    exact chainOK_spec (pre := y :: pre) (by simpa using h.2)

theorem checkQ_spec {E : Env} {f : FuncId} {b es : List Nat} {H : List (Lb × List AObj)} : ∀ {os : List Oper} {rs : List Rec} {p k : Nat} {o : Oper} {r : Rec}, checkQ E f b es H p os rs = true → os[k]? = some o → rs[k]? = some r →
    r.ran = true → r.eff = false → stageOK E f r.m o r.v ((H.drop (lowOf b es (p + k))).take (highOf b es (p + k) + 1 - lowOf b es (p + k))) = true
  | [], _, p, k, o, r, _, h, _, _, _ => by simp at h
  | _ :: _, [], p, k, o, r, _, _, h, _, _ => by simp at h
  | x :: os, y :: rs, p, k, o, r, h, ho, hr, h1, h2 => by
    simp only [checkQ, Bool.and_eq_true] at h
    cases k with
    | zero =>
      simp at ho hr; subst ho hr
      have := h.1
      simpa [h1, h2] using this
    | succ k =>
      simp at ho hr
      have := checkQ_spec h.2 ho hr h1 h2
      rw [show p + 1 + k = p + (k + 1) by omega] at this
      exact this

theorem holdsAt_spec {E : Env} {m : Tm} {o : Oper} {v : AV} : ∀ {win : List (Lb × List AObj)}, holdsAt E m o v win = true → ∀ lb st, (lb, st) ∈ win → quiet E m lb st o = some v
  | [], _, _, _, h => by simp at h
  | (lb', st') :: r, hh, lb, st, h => by
    simp only [holdsAt, Bool.and_eq_true] at hh
    rcases List.mem_cons.1 h with h | h
    · obtain ⟨rfl, rfl⟩ := Prod.mk.inj h
      cases hq : quiet E m lb st o with
      | none => simp [hq] at hh
      | some u => simp [hq] at hh; rw [beq_eq _ _ hh.1]
    · exact holdsAt_spec hh.2 lb st h

theorem bornAt_spec {d : Nat} {cells : List AV} : ∀ {win : List (Lb × List AObj)}, bornAt d cells win = true → ∀ lb st, (lb, st) ∈ win → lbGet lb d = some (0, cells)
  | [], _, _, _, h => by simp at h
  | (lb', st') :: r, hh, lb, st, h => by
    simp only [bornAt, Bool.and_eq_true] at hh
    rcases List.mem_cons.1 h with h | h
    · obtain ⟨rfl, rfl⟩ := Prod.mk.inj h
      cases hq : lbGet lb d with
      | none => simp [hq] at hh
      | some u =>
        obtain ⟨g, cs⟩ := u
        simp [hq] at hh
        rw [hh.1.1, beqL_eq _ _ hh.1.2]
    · exact bornAt_spec hh.2 lb st h

theorem mem_window {α : Type} {H : List α} {x : α} {k lo hi : Nat} (h : H[k]? = some x) (h1 : lo ≤ k) (h2 : k ≤ hi) : x ∈ (H.drop lo).take (hi + 1 - lo) := by
  refine List.mem_of_getElem? (i := k - lo) ?_
  rw [List.getElem?_take, if_pos (by omega), List.getElem?_drop, show lo + (k - lo) = k by omega]
  exact h

end Go.Proofs.YtcfaajaccbadbaaDoor.Ahm
