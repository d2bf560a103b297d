/- Whatever the input, lodgelaw18.OrderWeights answers true, and its input reads as it did: the tied card. The listed package-level variables hold what the program's text lays. -/
import Derived.Test.YtcfaajaccbadbaaDoorOwJoin
import Derived.Test.YtcfaajaccbadbaaDoorOwK0
import Derived.Test.YtcfaajaccbadbaaDoorOwK1
import Derived.Test.YtcfaajaccbadbaaDoorOwK2
import Derived.Test.YtcfaajaccbadbaaDoorOwK3
import Derived.Test.YtcfaajaccbadbaaDoorOwK4
import Derived.Test.YtcfaajaccbadbaaDoorOwK5
import Derived.Test.YtcfaajaccbadbaaDoorOwK6
import Derived.Test.YtcfaajaccbadbaaDoorOwK7
import Derived.Test.YtcfaajaccbadbaaDoorCards
import Derived.Test.YtcfaajaccbadbaaDoorTie
import Derived.SevenTiedAt
namespace Go.Proofs.YtcfaajaccbadbaaDoor
open Go Go.ChangeShapes Go.WideShapes Go.RowKit

theorem laidWorld_met (os : Os) (args : Array Value) : laidMetH Tryd.prog Rows.orderWeightsRow.laid ((laidWorld os).forCall (fun _ _ => 0) ⟨#[], args, []⟩).memory :=
  laidMetH_of_parts (laidMet_of_run' 8 (by kernel_rfl) (by kernel_rfl)) (by kernel_rfl)

theorem sent_of_laid {W : World} (h : laidMetH Tryd.prog Rows.orderWeightsRow.laid W) : SentMet W := by
  have h' : laidMet Tryd.prog (Rows.orderWeightsRow.laid.filter fun x => x.2.handleName?.isNone) W ∧ _ := h
  have e : (Rows.orderWeightsRow.laid.filter fun x => x.2.handleName?.isNone) = sents.map fun x => (x.1, .iface "*errors.errorString" (.ptr (.agg [.lit (.string x.2)]))) := by kernel_rfl
  rw [e] at h'
  exact h'.1

theorem handle_of_laid {W : World} (h : laidMetH Tryd.prog Rows.orderWeightsRow.laid W) : W.cell? ⟨7, 0, none⟩ = some (.iface 142 (.agg #[.pointer (some ⟨22, 38, none⟩)])) := by
  have h' : _ ∧ handlesMet Tryd.prog (Rows.orderWeightsRow.laid.filter fun x => x.2.handleName?.isSome) W := h
  have e : (Rows.orderWeightsRow.laid.filter fun x => x.2.handleName?.isSome) = [("errors.errorType", Rows.laid_errors_errorType)] := by kernel_rfl
  rw [e] at h'
  obtain ⟨name, u, ty, e1, e2, e3, e4, e5⟩ := h'.2 _ (List.mem_singleton.2 rfl)
  have en : name = [101, 114, 114, 111, 114] := (Option.some.inj e1).symm
  subst en
  obtain rfl := Option.some.inj ((show (Tryd.prog.cutTypes.find? (·.1 == "internal/reflectlite.rtype")).map (·.2) = some 142 by kernel_rfl).symm.trans e2)
  have hm : ty ∈ (List.range 187).filter fun t => Tryd.prog.rowNamed t [101, 114, 114, 111, 114] := List.mem_filter.2 ⟨List.mem_range.2 (by rw [← As.size]; exact e3), e4⟩
  rw [show ((List.range 187).filter fun t => Tryd.prog.rowNamed t [101, 114, 114, 111, 114]) = [38] by kernel_rfl] at hm
  obtain rfl := List.mem_singleton.1 hm
  have hh : typeHandle Tryd.prog 38 = .pointer (some ⟨22, 38, none⟩) := by kernel_rfl
  rw [hh] at e5
  simpa using World.var?_cell (show Tryd.prog.globalNamed "errors.errorType" = some 7 by kernel_rfl) e5 0

theorem all_runs (tok : Nat → Value) (prot : Nat → Obj → Prop) (a b : Int) (s : Bool) (h0 : 0 ≤ a) (h1 : a < 8) (h2 : 0 ≤ b) (h3 : b < 9) : runOk tok prot a b s = true := by
  have h : a = 0 ∨ a = 1 ∨ a = 2 ∨ a = 3 ∨ a = 4 ∨ a = 5 ∨ a = 6 ∨ a = 7 := by omega
  rcases h with rfl | rfl | rfl | rfl | rfl | rfl | rfl | rfl
  · exact runs_0 tok prot b s h2 h3
  · exact runs_1 tok prot b s h2 h3
  · exact runs_2 tok prot b s h2 h3
  · exact runs_3 tok prot b s h2 h3
  · exact runs_4 tok prot b s h2 h3
  · exact runs_5 tok prot b s h2 h3
  · exact runs_6 tok prot b s h2 h3
  · exact runs_7 tok prot b s h2 h3

theorem orderWeights_runs (k n : Int) (same : Bool) (W : World) (h : laidMetH Tryd.prog Rows.orderWeightsRow.laid W) :
    Calls Tryd.prog 3 #[.int .i64 k, .int .i64 n, .bool same] W fun e W' => e = .returned (.bool true) ∧ Ahm.Grown W W' :=
  ow_calls all_runs k n same W (sent_of_laid h) (handle_of_laid h)

set_option maxRecDepth 100000 in
theorem orderWeights_lifted (os : Os) (started : os.Started) (H : Type) (enc : TypeId × Value → H) :
    ReturnsInHanded {} Tryd.checked os 3 .any (fun w args => (Rows.orderWeightsSpec.pre enc Tryd.prog Tryd.f3 [] false w args ∧ laidMetH Tryd.prog Rows.orderWeightsRow.laid w) ∧ sizedMet enc Tryd.prog Tryd.f3 (OpenSpec.ofChange Rows.orderWeightsSpec) false w args)
      (Rows.orderWeightsSpec.post enc Tryd.prog Tryd.f3 false true false false) := by
  refine returnsInHanded_of_change_and (C := Tryd.checked) (X := fun w _ => laidMetH Tryd.prog Rows.orderWeightsRow.laid w) (fun _ _ _ hh h => h.of_heap hh) own started (by kernel_rfl) Tryd.func3
    (ChangeSpec.witness_at (enc := enc) (C := Tryd.checked) (os := os) (X := fun w _ => laidMetH Tryd.prog Rows.orderWeightsRow.laid w) false (laidWorld os) #[.int .i64 0, .int .i64 0, .bool true] 8 rfl (by kernel_rfl) (by kernel_rfl) (by kernel_rfl) (by kernel_rfl) (by kernel_rfl) (laidWorld_met os _)) ?_
  intro W base args ds gs before hval0 hW _ _ hL _
  have hval : ∀ (j : Nat) t v, Tryd.f3.params[j]? = some t → args[j]? = some v → Value.okWide Tryd.prog W .any base t v := hval0
  have hW' := hW
  obtain ⟨p, q, hA0, hV0, rfl, hfz, hnd⟩ := hW
  have hA : DataW.TrodAll enc Tryd.prog W 0 (fun _ => true) true Tryd.f3.params.toList args.toList ds p := hA0
  have hV : DataW.TrodVars enc Tryd.prog W (fun _ => true) [] gs q := hV0
  rw [Tryd.params3] at hA hval
  obtain ⟨v0, v1, v2, d0, d1, d2, p0, p1, p2, rfl, rfl, rfl, h0, h1, h2⟩ := trodAll_three hA
  obtain ⟨k, rfl, rfl, rfl, wk⟩ := open_int Tryd.underlying3 (hval 0 3 v0 rfl rfl) h0
  obtain ⟨n, rfl, rfl, rfl, wn⟩ := open_int Tryd.underlying3 (hval 1 3 v1 rfl rfl) h1
  obtain ⟨b, rfl, rfl, rfl⟩ := open_bool Tryd.underlying4 (hval 2 4 v2 rfl rfl) h2
  obtain ⟨rfl, rfl⟩ : gs = [] ∧ q = [] := by
    cases gs with
    | nil => exact ⟨rfl, hV⟩
    | cons g r => exact absurd hV (by intro h; cases h)
  have e1 : Rows.orderWeightsSpec.fn H ([.lit (.int .i64 k), .lit (.int .i64 n), .lit (.bool b)] ++ []) = { results := [.lit (.bool true)], args := [.lit (.int .i64 k), .lit (.int .i64 n), .lit (.bool b)] } := by simp [Rows.orderWeightsSpec]
  refine (orderWeights_runs k n b W hL).mono fun e W' ⟨he, hw⟩ => ?_
  subst he
  refine ⟨_, rfl, _, _, _, [], [], [], hW', ?_, ?_, ?_, hw.kept _, fun h => by cases h⟩
  · rw [e1]; exact trodAll_mk1 (shut_bool Tryd.underlying4 true)
  · rw [e1]; exact trodAll_mk3 (shut_int Tryd.underlying3 wk) (shut_int Tryd.underlying3 wn) (shut_bool Tryd.underlying4 b)
  · rw [e1]; rfl

theorem orderWeights_holds : Rows.OrderWeightsSaid :=
  OpenClaim.holds_of_wide 3 Tryd.f3 rfl rfl rfl rfl rfl rfl rfl ⟨rfl, rfl, rfl, rfl, rfl⟩ rfl rfl rfl rfl rfl (by kernel_rfl) Tryd.func3 (by kernel_rfl)
    (of_decide_eq_true (by kernel_rfl)) (by unfold Func.isWrapper; rw [if_neg (of_decide_eq_false (by kernel_rfl))]; exact ⟨rfl, rfl⟩)
    (fun os started H enc _ => orderWeights_lifted os started H enc)

theorem orderWeights_card : Rows.OrderWeightsCardSaid :=
  Claim7.holds_tied_plain_at .later [] [.handle, .sentinel, .sentinel, .sentinel, .sentinel, .sentinel, .sentinel, .sentinel, .sentinel, .sentinel, .sentinel, .sentinel, .sentinel, .sentinel, .sentinel, .sentinel, .sentinel, .sentinel, .sentinel, .sentinel, .sentinel, .sentinel] true (true, "a74a5cac601abc5111c616edfbe1add30818add2b3296bdeb3eb4950253f9565") true
    orderWeights_holds (fun _ h => by cases h) (by kernel_rfl) (fun _ h => by cases h) orderWeights_row_tie rfl ⟨rfl, rfl⟩ (by kernel_rfl) rfl
    (fun f fn hf hfn => by
      obtain rfl : f = 3 := Option.some.inj ((show Tryd.prog.funcNamed "lodge/lodgelaw18.OrderWeights" = some 3 by kernel_rfl).symm.trans hf) |>.symm
      obtain rfl : fn = Tryd.f3 := (Option.some.inj (Tryd.func3.symm.trans hfn)).symm
      exact ⟨by kernel_rfl, fun j t ht => by
        rw [Tryd.params3] at ht
        have h3 : t = 3 ∨ t = 4 := by
          rcases j with _ | _ | _ | j
          · simp at ht; exact .inl ht.symm
          · simp at ht; exact .inl ht.symm
          · simp at ht; exact .inr ht.symm
          · simp at ht
        rcases h3 with rfl | rfl
        · exact (show Tryd.prog.wantsStandIn 3 = false by kernel_rfl)
        · exact (show Tryd.prog.wantsStandIn 4 = false by kernel_rfl)⟩)
    (by kernel_rfl)
#print axioms orderWeights_card
end Go.Proofs.YtcfaajaccbadbaaDoor
