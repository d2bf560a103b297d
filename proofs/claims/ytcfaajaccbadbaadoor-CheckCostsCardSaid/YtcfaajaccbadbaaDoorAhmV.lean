/- Regions that draw their order: whatever the order, what the plan says comes out. -/
import Derived.Test.YtcfaajaccbadbaaDoorAhmU
set_option linter.unusedSimpArgs false
set_option linter.unusedVariables false
namespace Go.Proofs.YtcfaajaccbadbaaDoor.Ahm
open Go

theorem memN_of_mem {t : Nat} : ∀ {l : List Nat}, t ∈ l → memN l t = true
  | [], h => by simp at h
  | x :: r, h => by
    simp only [memN]
    cases hb : Nat.beq x t
    · simp only [cond_false]
      rcases List.mem_cons.1 h with rfl | h
      · simp at hb
      · exact memN_of_mem h
    · rfl

theorem locAlloc_spec {E : Env} {f : FuncId} {o : Oper} {t : TypeId} {d : Nat} (h : locAlloc E f o = some (t, d)) : o.op = .alloc t ∧ o.dst = some d ∧ memN (E.loc f) d = true := by
  unfold locAlloc at h
  split at h
  · rename_i t' d' h1 h2
    cases hb : memN (E.loc f) d'
    · simp [hb] at h
    · simp [hb] at h; obtain ⟨rfl, rfl⟩ := h; exact ⟨h1, h2, hb⟩
  · cases h

theorem wantedA_congr {m m' : Tm} {ops : List Oper} {o : Oper} (h : ∀ t, memN (readsOf ops o) t = true → tmGet m t = tmGet m' t) : wantedA ops m o = wantedA ops m' o := by
  unfold wantedA
  cases hg : o.guard with
  | none => rfl
  | some jw =>
    obtain ⟨j, want⟩ := jw
    simp only
    have : yieldA ops m j = yieldA ops m' j := by
      unfold yieldA
      split
      · rename_i d op ty ps af gd hoj
        rw [h d (memN_of_mem _)]
        unfold readsOf
        rw [List.mem_append]
        right
        simp [hg, hoj]
      · rfl
    rw [this]

theorem opv_reads {m m' : Tm} {ops : List Oper} {o : Oper} (h : ∀ t, memN (readsOf ops o) t = true → tmGet m t = tmGet m' t) : ∀ x ∈ o.op.operands.toList, opv m x = opv m' x := fun x hx => opv_congr fun t ht => h t (memN_of_mem (by
  unfold readsOf
  rw [List.mem_append]
  left
  rw [List.mem_filterMap]
  exact ⟨x, hx, by simp [ht]⟩))

/-- A region's plan. -/
structure Plan (E : Env) (callf : CallF) (f N : Nat) (ops : Array Oper) (s s' : St) (rs : List Rec) (hs : List (Lb × List AObj)) : Prop where
  recs : evRecs E callf f N ops.toList ops.toList s = some (rs, hs, s')
  edges : edgesOK 0 ops.toList = true
  slots : slotsOK ops.toList (bef ops.toList []) = true
  chain : chainOK (bef ops.toList []) (effsOf 0 rs) = true
  check : checkQ E f (bef ops.toList []) (effsOf 0 rs) ((s.lb, s.st) :: hs) 0 ops.toList rs = true ∨ ((∀ o ∈ ops.toList, locAlloc E f o = none) ∧ ∀ x ∈ hs, x = (s.lb, s.st))

abbrev Ls (S : Array Bool) (i : Nat) : Prop := S[i]? = some true

structure Inv (E : Env) (f N : Nat) (ops : Array Oper) (s : St) (rs : List Rec) (hs : List (Lb × List AObj)) (S : Array Bool) (C : Ctx) (a : Act) : Prop where
  env : C.E = E
  size : S.size = ops.size
  closed : ∀ i j, j < ops.size → forced (bef ops.toList []) i j = true → Ls S j → Ls S i
  split : ∃ pre post, effsOf 0 rs = pre ++ post ∧ (∀ j ∈ pre, Ls S j) ∧ (∀ j ∈ post, ¬ Ls S j) ∧ ((s.lb, s.st) :: hs)[pre.length]? = some (C.lb, C.st)
  mem : Mem C
  tm : ∃ m, TmOk C m N a ∧ ∀ t, (∀ (k : Nat) (o : Oper) (rc : Rec), ops.toList[k]? = some o → rs[k]? = some rc → o.dst = some t → Ls S k → tmGet m t = some rc.v) ∧ ((∀ (k : Nat) (o : Oper), ops.toList[k]? = some o → o.dst = some t → ¬ Ls S k) → tmGet m t = tmGet s.tm t)
  born : ∀ (k : Nat) (o : Oper) (t : TypeId) (d : Nat), ops.toList[k]? = some o → locAlloc E f o = some (t, d) → ¬ Ls S k → ∃ g cs, lbGet C.lb d = some (g, cs) ∧ (g = 0 → C.il d = none)

section
variable {E : Env} {callf : CallF} {f N : Nat} {ops : Array Oper} {s s' : St} {rs : List Rec} {hs : List (Lb × List AObj)}

theorem Plan.uniq (P : Plan E callf f N ops s s' rs hs) {i j : Nat} {x y : Oper} {d : Nat} (hi : ops.toList[i]? = some x) (hj : ops.toList[j]? = some y) (hx : x.dst = some d) (hy : y.dst = some d) : i = j :=
  Classical.byContradiction fun hne => (slotsOK_spec P.slots hi hj hne hx).1 hy

theorem ls_set {S : Array Bool} {i j : Nat} (hi : i < S.size) : Ls (S.setIfInBounds i true) j ↔ j = i ∨ Ls S j := by
  unfold Ls
  rw [Array.getElem?_setIfInBounds]
  by_cases h : i = j
  · subst h; simp [hi]
  · simp [h, Ne.symm h]

variable {S : Array Bool} {C : Ctx} {a : Act}

/-- an operation's turn has come -/
structure Now (ops : Array Oper) (S : Array Bool) (i : Nat) (o : Oper) : Prop where
  o : ops.toList[i]? = some o
  un : ¬ Ls S i
  bef : ∀ j, forced (bef ops.toList []) j i = true → Ls S j

theorem now_of (I : Inv E f N ops s rs hs S C a) {i : Nat} (hi : i ∈ Region.ready .any ops S) : ∃ o, Now ops S i o := by
  rw [mem_ready] at hi
  obtain ⟨h0, o, ho, hall⟩ := hi
  have ho' : ops.toList[i]? = some o := by simpa using ho
  have hls : ∀ k, S.getD k false = true → Ls S k := fun k hk => by
    unfold Ls
    rcases Nat.lt_or_ge k S.size with h | h
    · simp [h] at hk ⊢; exact hk
    · simp [Array.getD, Nat.not_lt.2 h] at hk
  refine ⟨o, ho', fun h => ?_, fun j hj => ?_⟩
  · have : S.getD i true = true := by
      unfold Ls at h
      simp [h]
    rw [this] at h0; cases h0
  · obtain ⟨e, e1, e2, e3, e4⟩ := forced_edge ho' hj
    have := hls e.on (hall e (by simpa using e1) e2)
    rcases e4 with rfl | e4
    · exact this
    · refine I.closed j e.on ?_ e4 this
      have : i < ops.size := (Array.getElem?_eq_some_iff.1 ho).1
      omega

theorem all_of_ready (P : Plan E callf f N ops s s' rs hs) (I : Inv E f N ops s rs hs S C a) (h : Region.ready .any ops S = []) : ∀ j, j < ops.size → Ls S j := by
  intro j
  induction j using Nat.strongRecOn with
  | _ j ih =>
    intro hj
    refine Classical.byContradiction fun hun => ?_
    have : j ∈ Region.ready .any ops S := by
      rw [mem_ready]
      have hjS : j < S.size := by rw [I.size]; exact hj
      refine ⟨?_, ops[j], by simp [hj], fun e he hb => ?_⟩
      · unfold Ls at hun
        simp [hjS] at hun ⊢
        exact hun
      · have hlt := edgesOK_spec P.edges (k := j) (o := ops[j]) (by simp [hj]) e (by simpa using he) hb
        have hls := ih e.on (by omega) (by omega)
        unfold Ls at hls
        simp [hls]
    rw [h] at this
    simp at this

/-- what it reads is what it read -/
theorem reads_eq (P : Plan E callf f N ops s s' rs hs) (I : Inv E f N ops s rs hs S C a) {i : Nat} {o : Oper} (n : Now ops S i o) {rc : Rec} (hrc : rs[i]? = some rc) {m : Tm}
    (hm : ∀ t, (∀ (k : Nat) (o : Oper) (rc : Rec), ops.toList[k]? = some o → rs[k]? = some rc → o.dst = some t → Ls S k → tmGet m t = some rc.v) ∧ ((∀ (k : Nat) (o : Oper), ops.toList[k]? = some o → o.dst = some t → ¬ Ls S k) → tmGet m t = tmGet s.tm t)) :
    ∀ t, memN (readsOf ops.toList o) t = true → tmGet m t = tmGet rc.m t := by
  intro t ht
  obtain ⟨hlen, _⟩ := evRecs_turns _ _ _ _ _ P.recs
  obtain ⟨q1, q2⟩ := evRecs_tm _ _ _ _ _ P.recs i rc.m (.inl ⟨rc, hrc, rfl⟩) t
  obtain ⟨p1, p2⟩ := hm t
  have hiL : i < ops.size := by have := (List.getElem?_eq_some_iff.1 n.o).1; simpa using this
  by_cases hw : ∃ (k : Nat) (x : Oper), ops.toList[k]? = some x ∧ x.dst = some t
  · obtain ⟨k, x, hk, hx⟩ := hw
    have hu : ∀ (k' : Nat) (x' : Oper), ops.toList[k']? = some x' → x'.dst = some t → k' = k := fun k' x' h1 h2 => P.uniq h1 hk h2 hx
    have hinit : ¬ Ls S k → i ≤ k → tmGet m t = tmGet rc.m t := fun h1 h2 => by
      rw [p2 fun k' x' h3 h4 => by rw [hu k' x' h3 h4]; exact h1, q2 fun k' x' h3 h4 h5 => by have := hu k' x' h4 h5; omega]
    by_cases hki : k = i
    · subst hki; exact hinit n.un (Nat.le_refl _)
    · have hs := (slotsOK_spec P.slots hk n.o hki hx).2 ht
      by_cases hlt : k < i
      · rw [if_pos hlt] at hs
        have hkl : k < rs.length := by rw [hlen]; exact (List.getElem?_eq_some_iff.1 hk).1
        have hrk : rs[k]? = some rs[k] := by simp [hkl]
        rw [p1 k x _ hk hrk hx (n.bef k hs), q1 k x _ hlt hk hrk hx fun k' x' h1 h2 h3 h4 => by have := hu k' x' h3 h4; omega]
      · rw [if_neg hlt] at hs
        refine hinit (fun hl => n.un (I.closed i k ?_ hs hl)) (by omega)
        have := (List.getElem?_eq_some_iff.1 hk).1
        simpa using this
  · rw [p2 fun k x h1 h2 => absurd ⟨k, x, h1, h2⟩ hw, q2 fun k x _ h1 h2 => absurd ⟨k, x, h1, h2⟩ hw]

/-- The operation has run: what is known then. -/
theorem inv_put (P : Plan E callf f N ops s s' rs hs) (I : Inv E f N ops s rs hs S C a) {i : Nat} {o : Oper} (n : Now ops S i o) {rc : Rec} (hrc : rs[i]? = some rc) {C' : Ctx} {u : Value}
    (hd : ∀ d, o.dst = some d → d < N) (hmem : Mem C') (hext : Ext C C') (hlext : LExtW C C') (hu : RepT C' rc.v u)
    (hsplit : ∃ pre post, effsOf 0 rs = pre ++ post ∧ (∀ j ∈ pre, j = i ∨ Ls S j) ∧ (∀ j ∈ post, j ≠ i ∧ ¬ Ls S j) ∧ ((s.lb, s.st) :: hs)[pre.length]? = some (C'.lb, C'.st))
    (hborn : ∀ (k : Nat) (o : Oper) (t : TypeId) (d : Nat), ops.toList[k]? = some o → locAlloc E f o = some (t, d) → k ≠ i → ¬ Ls S k → ∃ g cs, lbGet C'.lb d = some (g, cs) ∧ (g = 0 → C'.il d = none)) :
    Inv E f N ops s rs hs (S.setIfInBounds i true) C' (a.put o.dst u) := by
  have hiS : i < S.size := by rw [I.size]; have := (List.getElem?_eq_some_iff.1 n.o).1; simpa using this
  have hls := fun j => ls_set (S := S) (j := j) hiS
  obtain ⟨m, t1, t2⟩ := I.tm
  obtain ⟨m', hm'⟩ : ∃ m', putA N m o.dst rc.v = some m' := by
    unfold putA
    cases hdst : o.dst with
    | none => exact ⟨m, rfl⟩
    | some d =>
      have hb : Nat.blt d N = true := Nat.ble_eq_true_of_le (hd d hdst)
      exact ⟨tmSet m d rc.v, by simp [hb]⟩
  refine { env := hext.env.trans I.env, size := by simp [I.size], closed := fun p q hq hf hl => ?_, split := ?_, mem := hmem, tm := ⟨m', t1.put hm' hext hlext hu, fun t => ?_⟩, born := fun k o' t d h1 h2 h3 => ?_ }
  · rw [hls] at hl ⊢
    rcases hl with rfl | hl
    · exact .inr (n.bef p hf)
    · exact .inr (I.closed p q hq hf hl)
  · obtain ⟨pre, post, e1, e2, e3, e4⟩ := hsplit
    exact ⟨pre, post, e1, fun j hj => (hls j).2 (e2 j hj), fun j hj hl => by rcases (hls j).1 hl with h | h; exact (e3 j hj).1 h; exact (e3 j hj).2 h, e4⟩
  · have hg := putA_get hm' t
    refine ⟨fun k o' rc' h1 h2 h3 h4 => ?_, fun h => ?_⟩
    · rw [hg]
      by_cases e : o.dst = some t
      · have := P.uniq h1 n.o h3 e
        subst this
        rw [hrc] at h2; cases h2
        simp [e]
      · rw [if_neg e]
        refine (t2 t).1 k o' rc' h1 h2 h3 ?_
        rcases (hls k).1 h4 with rfl | h
        · rw [n.o] at h1; cases h1; exact absurd h3 e
        · exact h
    · rw [hg]
      by_cases e : o.dst = some t
      · exact absurd ((hls i).2 (.inl rfl)) (h i o n.o e)
      · rw [if_neg e]
        exact (t2 t).2 fun k o' h1 h2 h3 => h k o' h1 h2 ((hls k).2 (.inr h3))
  · have : k ≠ i ∧ ¬ Ls S k := ⟨fun e => h3 ((hls k).2 (.inl e)), fun e => h3 ((hls k).2 (.inr e))⟩
    exact hborn k o' t d h1 h2 this.1 this.2

end
end Go.Proofs.YtcfaajaccbadbaaDoor.Ahm
