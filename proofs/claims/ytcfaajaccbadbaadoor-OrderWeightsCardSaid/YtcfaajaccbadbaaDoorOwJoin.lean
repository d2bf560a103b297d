/- dev: OrderWeights: the primitives hold; the runs, joined. -/
import Derived.Test.YtcfaajaccbadbaaDoorOwRun
import Derived.Test.YtcfaajaccbadbaaDoorOwPrims
set_option linter.unusedVariables false
namespace Go.Proofs.YtcfaajaccbadbaaDoor
open Go Ahm

theorem prims_ok {k n : Int} {tok : Nat → Value} {W : World} (hh : W.cell? ⟨7, 0, none⟩ = some (.iface 142 (.agg #[.pointer (some ⟨22, 38, none⟩)]))) (h0 : tok 1000 = .int .i64 k) (h1 : tok 1001 = .int .i64 n) :
    PrimOk (envOf (prims (num k 8) (num n 9)) tok fun b o => W.heap[b]? = some o) := by
  intro g p hp args r hr
  have hp : prims (num k 8) (num n 9) g = some p := hp
  unfold prims at hp
  cases e9 : Nat.beq g 9
  · simp only [e9, cond_false] at hp
    cases e36 : Nat.beq g 36
    · simp only [e36, cond_false] at hp
      cases e8 : Nat.beq g 8
      · simp [e8] at hp
      · simp only [e8, cond_true, Option.some.injEq] at hp
        subst hp
        obtain rfl := Nat.eq_of_beq_eq_true e8
        cases args with
        | nil => simp at hr; subst hr; exact first_spec
        | cons x l => simp at hr
    · simp only [e36, cond_true, Option.some.injEq] at hp
      subst hp
      obtain rfl := Nat.eq_of_beq_eq_true e36
      unfold primAround at hr
      split at hr
      · rename_i p j
        cases hj : sentB j
        · simp [hj] at hr
        · simp [hj] at hr; subst hr; exact around_spec hh hj
      · cases hr
  · simp only [e9, cond_true, Option.some.injEq] at hp
    subst hp
    obtain rfl := Nat.eq_of_beq_eq_true e9
    unfold primNumber at hr
    split at hr
    · rename_i j m
      cases c1 : (Nat.beq j 1000 && decide (m = 8))
      · simp only [c1, cond_false] at hr
        cases c2 : (Nat.beq j 1001 && decide (m = 9))
        · simp [c2] at hr
        · simp [c2] at hr
          subst hr
          simp only [Bool.and_eq_true, decide_eq_true_eq] at c2
          obtain ⟨c2, rfl⟩ := c2
          obtain rfl := Nat.eq_of_beq_eq_true c2
          exact spec_tok h1 (number_spec9 n)
      · simp [c1] at hr
        subst hr
        simp only [Bool.and_eq_true, decide_eq_true_eq] at c1
        obtain ⟨c1, rfl⟩ := c1
        obtain rfl := Nat.eq_of_beq_eq_true c1
        exact spec_tok h0 (number_spec8 k)
    · cases hr

def tokOf (W : World) (k n : Int) (g : Nat) : Value := if g = 1000 then .int .i64 k else if g = 1001 then .int .i64 n else sentTok W g

theorem ow_calls (hall : ∀ (tok : Nat → Value) (prot : Nat → Obj → Prop) (a b : Int) (s : Bool), 0 ≤ a → a < 8 → 0 ≤ b → b < 9 → runOk tok prot a b s = true) (k n : Int) (same : Bool) (W : World) (hS : SentMet W)
    (hh : W.cell? ⟨7, 0, none⟩ = some (.iface 142 (.agg #[.pointer (some ⟨22, 38, none⟩)]))) :
    Calls Tryd.prog 3 #[.int .i64 k, .int .i64 n, .bool same] W fun e W' => e = .returned (.bool true) ∧ Ahm.Grown W W' := by
  have r1 := num_range k 8 (by omega) (by omega)
  have r2 := num_range n 9 (by omega) (by omega)
  have hr := hall (tokOf W k n) (fun b o => W.heap[b]? = some o) (num k 8) (num n 9) same r1.1 r1.2 r2.1 r2.2
  unfold runOk at hr
  have hrun : alone (envOf (prims (num k 8) (num n 9)) (tokOf W k n) fun b o => W.heap[b]? = some o) (call (envOf (prims (num k 8) (num n 9)) (tokOf W k n) fun b o => W.heap[b]? = some o) 10000 30) 10000 3 [.sp 1000, .sp 1001, .sc (.bool same)] = some (.sc (.bool true)) := by
    generalize alone _ _ _ _ _ = x at hr
    unfold isTrue at hr
    split at hr
    · rfl
    · cases hr
  have hspec := pure_of_alone (E := envOf (prims (num k 8) (num n 9)) (tokOf W k n) fun b o => W.heap[b]? = some o) mixed (prims_ok hh (by simp [tokOf]) (by simp [tokOf])) hrun
  have hg := glob_start (prim := prims (num k 8) (num n 9)) (tok := tokOf W k n) hS fun g hgs => by
    have hne : g ≠ 1000 ∧ g ≠ 1001 := by
      constructor
      · rintro rfl; exact absurd hgs (by decide)
      · rintro rfl; exact absurd hgs (by decide)
    simp [tokOf, hne.1, hne.2]
  have t0 : FRep (FC.start W (tokOf W k n)) (.sp 1000) (.int .i64 k) := FRep.sp (F := FC.start W (tokOf W k n)) (k := 1000) rfl
  have t1 : FRep (FC.start W (tokOf W k n)) (.sp 1001) (.int .i64 n) := FRep.sp (F := FC.start W (tokOf W k n)) (k := 1001) rfl
  refine (hspec.top (W := W) hg (FArgs.three t0 t1 (.sc rfl))).mono fun e W' he => ?_
  obtain ⟨c, rfl, hgr, hf⟩ := he
  cases hf with
  | sc _ => exact ⟨rfl, hgr⟩
end Go.Proofs.YtcfaajaccbadbaaDoor
