/- Code against the model's. -/
import Derived.Test.YtcfaajaccbadbaaDoorAhmW
set_option linter.unusedSimpArgs false
set_option linter.unusedVariables false
namespace Go.Proofs.YtcfaajaccbadbaaDoor.Ahm
open Go

def AX.conv : AX → Exit
  | .norm => .normal
  | .exit id => .exit id
  | .ret => .ret

/-- What is known behind a piece of code. -/
structure Fin (C : Ctx) (s' : St) (N : Nat) (C' : Ctx) (a' : Act) : Prop where
  mem : Mem C'
  ext : Ext C C'
  lb : C'.lb = s'.lb
  st : C'.st = s'.st
  tm : TmOk C' s'.tm N a'

theorem Fin.trans {A B C : Ctx} {s1 s2 : St} {N : Nat} {a1 a2 : Act} (h : Fin A s1 N B a1) (k : Fin B s2 N C a2) : Fin A s2 N C a2 :=
  ⟨k.mem, h.ext.trans k.ext, k.lb, k.st, k.tm⟩

theorem ev_wp {E : Env} {callf : CallF} {f N : Nat} (hmix : E.P.follows .mixedOrders = true) (hc : CallOk E callf) : ∀ (n : Nat) (c : Code) (s s' : St) (x : AX) (C : Ctx) (a : Act), C.E = E → C.lb = s.lb → C.st = s.st → Mem C → TmOk C s.tm N a → ev E callf f N n c s = some (x, s') →
    ∀ Q : Exit → Act → World → Prop, (∀ C' a', Fin C s' N C' a' → Q x.conv a' C'.w) →
      c.wp E.P Q a C.w ∧ (∀ c', c = .loop c' → Code.rounds E.P c' Q n a C.w)
  | 0, c, s, s', x, C, a, hE, hlb, hst, hm, ht, h, Q, hQ => by simp [ev] at h
  | n + 1, c, s, s', x, C, a, hE, hlb, hst, hm, ht, h, Q, hQ => by
    have IH := ev_wp (f := f) (N := N) hmix hc n
    cases c with
    | skip =>
      simp [ev] at h
      obtain ⟨rfl, rfl⟩ := h
      exact ⟨wp_skip (hQ C a ⟨hm, Ext.refl C, hlb, hst, ht⟩), fun c' h => by cases h⟩
    | label l =>
      simp [ev] at h
      obtain ⟨rfl, rfl⟩ := h
      exact ⟨wp_label (hQ C a ⟨hm, Ext.refl C, hlb, hst, ht⟩), fun c' h => by cases h⟩
    | region id ops d =>
      refine ⟨?_, fun c' h => by cases h⟩
      simp only [ev] at h
      split at h
      · rename_i s1 h1
        simp at h
        obtain ⟨rfl, rfl⟩ := h
        have fin : ∀ (C' : Ctx) (a' : Act), Mem C' → Ext C C' → C'.lb = s1.lb → C'.st = s1.st → TmOk C' s1.tm N a' → Q .normal a' C'.w := fun C' a' h1 h2 h3 h4 h5 => by
          obtain ⟨t1, t2, t3⟩ := trim_sound (E := E) (f := f) (id := id) h1 h3 h5
          exact hQ (C'.locs (trim E f id s1).lb C'.il) a' ⟨t1, h2.trans t2, rfl, h4, t3⟩
        cases d with
        | true => exact evDraw_wp hmix hc hE hlb hst hm ht h1 fin
        | false =>
          rw [← hE] at h1 hc ⊢
          exact wp_region_list (evOps_wp _ _ _ _ _ hc hlb hst hm ht h1 fun C' a' o1 o2 => fin C' a' o1.mem o1.ext o1.lb o1.st o2)
      · cases h
    | seq c1 c2 =>
      refine ⟨wp_seq ?_, fun c' h => by cases h⟩
      simp only [ev] at h
      split at h
      · rename_i s1 h1
        refine (IH c1 s s1 _ C a hE hlb hst hm ht h1 _ fun C' a' F => ?_).1
        exact (IH c2 s1 s' x C' a' (F.ext.env.trans hE) F.lb F.st F.mem F.tm h Q fun C2 a2 F2 => hQ C2 a2 (F.trans F2)).1
      · rename_i r hr
        refine (IH c1 s s' x C a hE hlb hst hm ht h _ fun C' a' F => ?_).1
        cases x with
        | norm => exact absurd h (hr s')
        | exit id => exact hQ C' a' F
        | ret => exact hQ C' a' F
    | cond c0 c1 c2 =>
      refine ⟨?_, fun c' h => by cases h⟩
      simp only [ev] at h
      split at h
      · rename_i t h1
        have := opv_sound ht h1
        have he : a.eval c0 = .bool t := repT_sc this
        refine wp_cond he ?_
        cases t
        · exact (IH c2 s s' x C a hE hlb hst hm ht h Q hQ).1
        · exact (IH c1 s s' x C a hE hlb hst hm ht h Q hQ).1
      · cases h
    | block id c1 =>
      refine ⟨wp_block ?_, fun c' h => by cases h⟩
      simp only [ev] at h
      split at h
      · rename_i id' s1 h1
        refine (IH c1 s s1 _ C a hE hlb hst hm ht h1 _ fun C' a' F => ?_).1
        cases hb : Nat.beq id' id
        · simp [hb] at h
          obtain ⟨rfl, rfl⟩ := h
          have hne : id' ≠ id := fun e => by subst e; simp at hb
          simp only [AX.conv, Exit.inBlock]
          rw [if_neg hne]
          exact hQ C' a' F
        · simp [hb] at h
          obtain ⟨rfl, rfl⟩ := h
          have hne : id' = id := Nat.eq_of_beq_eq_true hb
          simp only [AX.conv, Exit.inBlock]
          rw [if_pos hne]
          exact hQ C' a' F
      · rename_i r hr
        refine (IH c1 s s' x C a hE hlb hst hm ht h _ fun C' a' F => ?_).1
        cases x with
        | norm => exact hQ C' a' F
        | exit id' => exact absurd h (hr id' s')
        | ret => exact hQ C' a' F
    | loop c1 =>
      have hr : Code.rounds E.P c1 Q (n + 1) a C.w := by
        simp only [ev] at h
        rw [rounds_succ]
        split at h
        · rename_i s1 h1
          refine (IH c1 s s1 _ C a hE hlb hst hm ht h1 _ fun C' a' F => ?_).1
          exact (IH (.loop c1) s1 s' x C' a' (F.ext.env.trans hE) F.lb F.st F.mem F.tm h Q fun C2 a2 F2 => hQ C2 a2 (F.trans F2)).2 c1 rfl
        · rename_i r hr
          refine (IH c1 s s' x C a hE hlb hst hm ht h _ fun C' a' F => ?_).1
          cases x with
          | norm => exact absurd h (hr s')
          | exit id => exact hQ C' a' F
          | ret => exact hQ C' a' F
      exact ⟨wp_loop_rounds (n + 1) hr, fun c' h => by cases h; exact hr⟩
    | scope c1 =>
      refine ⟨wp_scope_straight ?_, fun c' h => by cases h⟩
      simp only [ev] at h
      refine (IH c1 s s' x C a hE hlb hst hm ht h _ fun C' a' F => ?_).1
      cases x <;> exact hQ C' a' F
    | exit id =>
      simp [ev] at h
      obtain ⟨rfl, rfl⟩ := h
      exact ⟨wp_exit (hQ C a ⟨hm, Ext.refl C, hlb, hst, ht⟩), fun c' h => by cases h⟩
    | ret =>
      simp [ev] at h
      obtain ⟨rfl, rfl⟩ := h
      exact ⟨wp_ret (hQ C a ⟨hm, Ext.refl C, hlb, hst, ht⟩), fun c' h => by cases h⟩
    | _ => simp [ev] at h

end Go.Proofs.YtcfaajaccbadbaaDoor.Ahm
