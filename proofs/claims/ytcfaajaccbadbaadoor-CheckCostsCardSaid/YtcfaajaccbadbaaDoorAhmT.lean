/- Regions that draw their order: what is known of each operation. -/
import Derived.Test.YtcfaajaccbadbaaDoorAhmS
set_option linter.unusedSimpArgs false
set_option linter.unusedVariables false
namespace Go.Proofs.YtcfaajaccbadbaaDoor.Ahm
open Go

section
variable {E : Env} {callf : CallF} {f N : Nat} {ops : List Oper}

theorem runOp_false {m : Tm} {lb lb' : Lb} {st st' : List AObj} {o : Oper} {v : AV} (h : runOp E callf f m lb st o = some (v, lb', st', false)) : lb' = lb ∧ st' = st ∧ quiet E m lb st o = some v := by
  unfold runOp at h
  split at h
  · rename_i u hq; simp at h; exact ⟨h.2.1.symm, h.2.2.symm, by rw [hq, h.1]⟩
  · split at h
    · simp at h
    · split at h
      · rename_i u s hc
        cases hl : u.isLp <;> simp [hl] at h
      · cases h

theorem runOpD_false {m : Tm} {lb lb' : Lb} {st st' : List AObj} {o : Oper} {v : AV} (h : runOpD E callf f m lb st o = some (v, lb', st', false)) : lb' = lb ∧ st' = st := by
  unfold runOpD at h
  split at h
  · simp at h; exact ⟨h.2.1.symm, h.2.2.symm⟩
  · exact ⟨(runOp_false h).1, (runOp_false h).2.1⟩

theorem evRecs_cons {o : Oper} {r : List Oper} {s s' : St} {rs : List Rec} {hs : List (Lb × List AObj)} (h : evRecs E callf f N ops (o :: r) s = some (rs, hs, s')) :
    ∃ (v : AV) (ran eff : Bool) (m : Tm) (lb : Lb) (st : List AObj) (rs1 : List Rec) (hs1 : List (Lb × List AObj)), putA N s.tm o.dst v = some m ∧ evRecs E callf f N ops r { tm := m, lb, st } = some (rs1, hs1, s') ∧
      rs = ⟨ran, eff, v, s.tm⟩ :: rs1 ∧ hs = (bif eff then (lb, st) :: hs1 else hs1) ∧ wantedA ops s.tm o = some ran ∧ (ran = false → v = .sc undef ∧ eff = false) ∧ (eff = false → lb = s.lb ∧ st = s.st) ∧
      (ran = true → runOpD E callf f s.tm s.lb s.st o = some (v, lb, st, eff)) := by
  simp only [evRecs] at h
  split at h
  · cases h
  · rename_i hw
    split at h
    · cases h
    · rename_i m hp
      split at h
      · rename_i rs1 hs1 s1 h1
        simp at h
        obtain ⟨rfl, rfl, rfl⟩ := h
        exact ⟨_, false, false, m, s.lb, s.st, rs1, _, hp, h1, rfl, rfl, hw, fun _ => ⟨rfl, rfl⟩, fun _ => ⟨rfl, rfl⟩, fun h => by cases h⟩
      · cases h
  · rename_i hw
    split at h
    · cases h
    · rename_i v lb st e hr
      split at h
      · cases h
      · rename_i m hp
        split at h
        · rename_i rs1 hs1 s1 h1
          simp at h
          obtain ⟨rfl, rfl, rfl⟩ := h
          exact ⟨_, true, e, m, lb, st, rs1, hs1, hp, h1, rfl, rfl, hw, (fun h => by cases h), (fun he => by subst he; exact runOpD_false hr), fun _ => hr⟩
        · cases h

/-- What is known of one operation's turn. -/
structure Turn (E : Env) (callf : CallF) (f N : Nat) (ops : List Oper) (s : St) (rs : List Rec) (hs : List (Lb × List AObj)) (j : Nat) (o : Oper) (rc : Rec) : Prop where
  want : wantedA ops rc.m o = some rc.ran
  idle : rc.ran = false → rc.v = .sc undef ∧ rc.eff = false
  dst : ∀ d, o.dst = some d → d < N
  run : rc.ran = true → ∃ lb st lb' st', ((s.lb, s.st) :: hs)[cntE (rs.take j)]? = some (lb, st) ∧ runOpD E callf f rc.m lb st o = some (rc.v, lb', st', rc.eff) ∧ (rc.eff = true → hs[cntE (rs.take j)]? = some (lb', st'))

theorem putA_lt {m m' : Tm} {dst : Option Tmp} {v : AV} (h : putA N m dst v = some m') : ∀ d, dst = some d → d < N := by
  intro d hd
  subst hd
  unfold putA at h
  simp only at h
  cases hb : Nat.blt d N
  · simp [hb] at h
  · exact Nat.le_of_ble_eq_true hb

theorem putA_get {m m' : Tm} {dst : Option Tmp} {v : AV} (h : putA N m dst v = some m') (t : Nat) : tmGet m' t = if dst = some t then some v else tmGet m t := by
  unfold putA at h
  cases dst with
  | none => simp at h; simp [h]
  | some d =>
    simp only at h
    cases hb : Nat.blt d N
    · simp [hb] at h
    · simp [hb] at h
      subst h
      rw [tmGet_set]
      by_cases e : t = d
      · simp [e]
      · simp [e, Ne.symm e]

theorem evRecs_turns : ∀ (r : List Oper) (s s' : St) (rs : List Rec) (hs : List (Lb × List AObj)), evRecs E callf f N ops r s = some (rs, hs, s') →
    rs.length = r.length ∧ hs.length = cntE rs ∧ ((s.lb, s.st) :: hs)[cntE rs]? = some (s'.lb, s'.st) ∧ ∀ j o rc, r[j]? = some o → rs[j]? = some rc → Turn E callf f N ops s rs hs j o rc
  | [], s, s', rs, hs, h => by
    simp [evRecs] at h
    obtain ⟨rfl, rfl, rfl⟩ := h
    exact ⟨rfl, rfl, rfl, fun j o rc h => by simp at h⟩
  | o :: r, s, s', rs, hs, h => by
    obtain ⟨v, ran, eff, m, lb, st, rs1, hs1, hp, h1, rfl, rfl, hw, hi, hq, hr⟩ := evRecs_cons h
    obtain ⟨l1, l2, l3, l4⟩ := evRecs_turns r _ _ _ _ h1
    have shift : ∀ k, ((s.lb, s.st) :: (bif eff then (lb, st) :: hs1 else hs1))[(bif eff then 1 else 0) + k]? = ((lb, st) :: hs1)[k]? := by
      intro k
      cases eff
      · obtain ⟨rfl, rfl⟩ := hq rfl; simp
      · simp [Nat.add_comm 1 k]
    refine ⟨by simp [l1], ?_, ?_, ?_⟩
    · cases eff <;> simp [cntE, l2]; omega
    · simp only [cntE]; rw [shift]; exact l3
    · intro j o' rc hj hrc
      cases j with
      | zero =>
        simp at hj hrc
        subst hj hrc
        refine ⟨hw, hi, putA_lt hp, fun hran => ⟨s.lb, s.st, lb, st, by simp [cntE], hr hran, fun he => ?_⟩⟩
        simp only at he
        subst he
        simp [cntE]
      | succ j =>
        simp at hj hrc
        obtain ⟨t1, t2, t3, t4⟩ := l4 j o' rc hj hrc
        refine ⟨t1, t2, t3, fun hran => ?_⟩
        obtain ⟨lb1, st1, lb2, st2, e1, e2, e3⟩ := t4 hran
        refine ⟨lb1, st1, lb2, st2, ?_, e2, fun he => ?_⟩
        · simp only [List.take_succ_cons, cntE]; rw [shift]; exact e1
        · have := e3 he
          simp only [List.take_succ_cons, cntE]
          cases eff
          · simpa using this
          · simp only [cond_true]; rw [Nat.add_comm]; simpa using this

/-- the temporaries at an operation's turn, or at the end -/
def At (rs : List Rec) (s' : St) (j : Nat) (m : Tm) : Prop := (∃ rc, rs[j]? = some rc ∧ rc.m = m) ∨ (j = rs.length ∧ m = s'.tm)

theorem evRecs_tm : ∀ (r : List Oper) (s s' : St) (rs : List Rec) (hs : List (Lb × List AObj)), evRecs E callf f N ops r s = some (rs, hs, s') → ∀ j m, At rs s' j m → ∀ t,
    (∀ k o rc, k < j → r[k]? = some o → rs[k]? = some rc → o.dst = some t → (∀ k' o', k < k' → k' < j → r[k']? = some o' → o'.dst ≠ some t) → tmGet m t = some rc.v) ∧
    ((∀ k o, k < j → r[k]? = some o → o.dst ≠ some t) → tmGet m t = tmGet s.tm t)
  | [], s, s', rs, hs, h, j, m, hat, t => by
    simp [evRecs] at h
    obtain ⟨rfl, rfl, rfl⟩ := h
    refine ⟨fun k o rc _ h => by simp at h, fun _ => ?_⟩
    rcases hat with ⟨rc, h1, _⟩ | ⟨_, rfl⟩
    · simp at h1
    · rfl
  | o :: r, s, s', rs, hs, h, j, m, hat, t => by
    obtain ⟨v, ran, eff, m1, lb, st, rs1, hs1, hp, h1, rfl, rfl, hw, hi, hq, hr⟩ := evRecs_cons h
    cases j with
    | zero =>
      refine ⟨fun k o rc hk => by omega, fun _ => ?_⟩
      rcases hat with ⟨rc, h2, h3⟩ | ⟨h2, _⟩
      · simp at h2; subst h2; simp at h3; rw [h3]
      · simp at h2
    | succ j =>
      have hat' : At rs1 s' j m := by
        rcases hat with ⟨rc, h2, h3⟩ | ⟨h2, h3⟩
        · exact .inl ⟨rc, by simpa using h2, h3⟩
        · exact .inr ⟨by simpa using h2, h3⟩
      obtain ⟨i1, i2⟩ := evRecs_tm r _ _ _ _ h1 j m hat' t
      have hg := putA_get hp t
      refine ⟨fun k o' rc hk ho hrc hd hlater => ?_, fun hno => ?_⟩
      · cases k with
        | zero =>
          simp at ho hrc
          subst ho hrc
          have := i2 fun k o' hk ho' => hlater (k + 1) o' (by omega) (by omega) (by simpa using ho')
          rw [this, hg, if_pos hd]
        | succ k =>
          simp at ho hrc
          exact i1 k o' rc (by omega) ho hrc hd fun k' o2 h1 h2 h3 => hlater (k' + 1) o2 (by omega) (by omega) (by simpa using h3)
      · have := i2 fun k o' hk ho' => hno (k + 1) o' (by omega) (by simpa using ho')
        rw [this, hg, if_neg (hno 0 o (by omega) (by simp))]

end
end Go.Proofs.YtcfaajaccbadbaaDoor.Ahm
