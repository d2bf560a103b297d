/- Whatever the input, lodgelaw15.CheckCosts answers true, and its input reads as it did: the tied card. The listed package-level variables hold what the program's text lays. -/
import Derived.Test.YtcfaajaccbadbaaDoorPrims
import Derived.Test.YtcfaajaccbadbaaDoorPrims
import Derived.Test.YtcfaajaccbadbaaDoorCosts
import Derived.Test.YtcfaajaccbadbaaDoorCards
import Derived.Test.YtcfaajaccbadbaaDoorTie
import Derived.SevenTiedAt
import Derived.OpenShut
set_option linter.unusedVariables false
set_option linter.unusedSimpArgs false
namespace Go.Proofs.YtcfaajaccbadbaaDoor
open Go Go.ChangeShapes Go.WideShapes Go.RowKit Go Ahm

theorem checkCosts_met (os : Os) (args : Array Value) : laidMetH Tryd.prog Rows.checkCostsRow.laid ((laidWorld os).forCall (fun _ _ => 0) ⟨#[], args, []⟩).memory :=
  laidMetH_of_parts (laidMet_of_run' 8 (by kernel_rfl) (by kernel_rfl)) (by kernel_rfl)

theorem checkCosts_sent {W : World} (h : laidMetH Tryd.prog Rows.checkCostsRow.laid W) : SentMet W := by
  have h' : laidMet Tryd.prog (Rows.checkCostsRow.laid.filter fun x => x.2.handleName?.isNone) W ∧ _ := h
  have e : (Rows.checkCostsRow.laid.filter fun x => x.2.handleName?.isNone) = sents.map fun x => (x.1, .iface "*errors.errorString" (.ptr (.agg [.lit (.string x.2)]))) := by kernel_rfl
  rw [e] at h'
  exact h'.1

theorem checkCosts_handle {W : World} (h : laidMetH Tryd.prog Rows.checkCostsRow.laid W) : W.cell? ⟨7, 0, none⟩ = some (.iface 142 (.agg #[.pointer (some ⟨22, 38, none⟩)])) := by
  have h' : _ ∧ handlesMet Tryd.prog (Rows.checkCostsRow.laid.filter fun x => x.2.handleName?.isSome) W := h
  have e : (Rows.checkCostsRow.laid.filter fun x => x.2.handleName?.isSome) = [("errors.errorType", Rows.laid_errors_errorType)] := by kernel_rfl
  rw [e] at h'
  obtain ⟨name, u, ty, e1, e2, e3, e4, e5⟩ := h'.2 _ (List.mem_singleton.2 rfl)
  have en : name = [101, 114, 114, 111, 114] := (Option.some.inj e1).symm
  subst en
  obtain rfl := Option.some.inj ((show (Tryd.prog.cutTypes.find? (·.1 == "internal/reflectlite.rtype")).map (·.2) = some 142 by kernel_rfl).symm.trans e2)
  have hm : ty ∈ (List.range 187).filter fun t => Tryd.prog.rowNamed t [101, 114, 114, 111, 114] := List.mem_filter.2 ⟨List.mem_range.2 (by rw [← As.size]; exact e3), e4⟩
  rw [show ((List.range 187).filter fun t => Tryd.prog.rowNamed t [101, 114, 114, 111, 114]) = [38] by kernel_rfl] at hm
  obtain rfl := List.mem_singleton.1 hm
  have hh : typeHandle Tryd.prog 38 = .pointer (some ⟨22, 38, none⟩) := by kernel_rfl
  rw [hh] at e5
  simpa using World.var?_cell (show Tryd.prog.globalNamed "errors.errorType" = some 7 by kernel_rfl) e5 0

theorem checkCosts_runs (x0 : Int) (x1 : Int) (x2 : Int) (x3 : Int) (W : World) (h : laidMetH Tryd.prog Rows.checkCostsRow.laid W) :
    Calls Tryd.prog 7 #[.int .i64 x0, .int .i64 x1, .int .i64 x2, .int .i64 x3] W fun e W' => e = .returned (.bool true) ∧ Ahm.Grown W W' :=
  law_calls (args := [.sc (.int .i64 x0), .sc (.int .i64 x1), .sc (.int .i64 x2), .sc (.int .i64 x3)]) (checkCosts_sent h) (checkCosts_handle h) (costs_law x0 x1 x2 x3) (FArgs.cons (.sc rfl) (FArgs.cons (.sc rfl) (FArgs.cons (.sc rfl) (FArgs.cons (.sc rfl) FArgs.nil))))

set_option maxRecDepth 100000 in
theorem checkCosts_lifted (os : Os) (started : os.Started) (H : Type) (enc : TypeId × Value → H) :
    ReturnsInHanded {} Tryd.checked os 7 .any (fun w args => (Rows.checkCostsSpec.pre enc Tryd.prog Tryd.f7 [] false w args ∧ laidMetH Tryd.prog Rows.checkCostsRow.laid w) ∧ sizedMet enc Tryd.prog Tryd.f7 (OpenSpec.ofChange Rows.checkCostsSpec) false w args)
      (Rows.checkCostsSpec.post enc Tryd.prog Tryd.f7 false true false false) := by
  refine returnsInHanded_of_change_and (C := Tryd.checked) (X := fun w _ => laidMetH Tryd.prog Rows.checkCostsRow.laid w) (fun _ _ _ hh h => h.of_heap hh) own started (by kernel_rfl) Tryd.func7
    (ChangeSpec.witness_at (enc := enc) (C := Tryd.checked) (os := os) (X := fun w _ => laidMetH Tryd.prog Rows.checkCostsRow.laid w) false (laidWorld os) #[.int .i64 0, .int .i64 0, .int .i64 0, .int .i64 0] 8 rfl (by kernel_rfl) (by kernel_rfl) (by kernel_rfl) (by kernel_rfl) (by kernel_rfl) (checkCosts_met os _)) ?_
  intro W base args ds gs before hval0 hW _ _ hL _
  have hval : ∀ (j : Nat) t v, Tryd.f7.params[j]? = some t → args[j]? = some v → Value.okWide Tryd.prog W .any base t v := hval0
  have hW' := hW
  obtain ⟨p, q, hA0, hV0, rfl, hfz, hnd⟩ := hW
  have hA : DataW.TrodAll enc Tryd.prog W 0 (fun _ => true) true Tryd.f7.params.toList args.toList ds p := hA0
  have hV : DataW.TrodVars enc Tryd.prog W (fun _ => true) [] gs q := hV0
  rw [Tryd.params7] at hA hval
  obtain ⟨v0, vs0, d0, ds0, p0, q0, ha0, hd0, rfl, h0, hr0⟩ := trodAll_cons hA
  obtain ⟨v1, vs1, d1, ds1, p1, q1, ha1, hd1, rfl, h1, hr1⟩ := trodAll_cons hr0
  obtain ⟨v2, vs2, d2, ds2, p2, q2, ha2, hd2, rfl, h2, hr2⟩ := trodAll_cons hr1
  obtain ⟨v3, vs3, d3, ds3, p3, q3, ha3, hd3, rfl, h3, hr3⟩ := trodAll_cons hr2
  obtain ⟨rfl, rfl, rfl⟩ := trodAll_nil hr3
  obtain rfl : args = #[v0, v1, v2, v3] := by cases args; simp_all
  obtain rfl : ds = [d0, d1, d2, d3] := by simp_all
  obtain ⟨x0, rfl, rfl, rfl, w0⟩ := open_int Tryd.underlying3 (hval 0 3 v0 rfl rfl) h0
  obtain ⟨x1, rfl, rfl, rfl, w1⟩ := open_int Tryd.underlying3 (hval 1 3 v1 rfl rfl) h1
  obtain ⟨x2, rfl, rfl, rfl, w2⟩ := open_int Tryd.underlying3 (hval 2 3 v2 rfl rfl) h2
  obtain ⟨x3, rfl, rfl, rfl, w3⟩ := open_int Tryd.underlying3 (hval 3 3 v3 rfl rfl) h3
  obtain ⟨rfl, rfl⟩ : gs = [] ∧ q = [] := by
    cases gs with
    | nil => exact ⟨rfl, hV⟩
    | cons g r => exact absurd hV (by intro h; cases h)
  have e1 : Rows.checkCostsSpec.fn H ([.lit (.int .i64 x0), .lit (.int .i64 x1), .lit (.int .i64 x2), .lit (.int .i64 x3)] ++ []) = { results := [.lit (.bool true)], args := [.lit (.int .i64 x0), .lit (.int .i64 x1), .lit (.int .i64 x2), .lit (.int .i64 x3)] } := by simp [Rows.checkCostsSpec]
  refine (checkCosts_runs x0 x1 x2 x3 W hL).mono fun e W' ⟨he, hw⟩ => ?_
  subst he
  refine ⟨_, rfl, _, _, _, [], [], [], hW', ?_, ?_, ?_, hw.kept _, fun h => by cases h⟩
  · rw [e1]; exact trodAll_mk1 (shut_bool Tryd.underlying4 true)
  · rw [e1]; exact trodAll_cons_mk (shut_int Tryd.underlying3 w0) (trodAll_cons_mk (shut_int Tryd.underlying3 w1) (trodAll_cons_mk (shut_int Tryd.underlying3 w2) (trodAll_mk1 (shut_int Tryd.underlying3 w3))))
  · rw [e1]; rfl

theorem checkCosts_holds : Rows.CheckCostsSaid :=
  OpenClaim.holds_of_wide 7 Tryd.f7 rfl rfl rfl rfl rfl rfl rfl ⟨rfl, rfl, rfl, rfl, rfl⟩ rfl rfl rfl rfl rfl (by kernel_rfl) Tryd.func7 (by kernel_rfl)
    (of_decide_eq_true (by kernel_rfl)) (by unfold Func.isWrapper; rw [if_neg (of_decide_eq_false (by kernel_rfl))]; exact ⟨rfl, rfl⟩)
    (fun os started H enc _ => checkCosts_lifted os started H enc)

theorem checkCosts_card : Rows.CheckCostsCardSaid :=
  Claim7.holds_tied_plain_at .later [] [.handle, .sentinel, .sentinel, .sentinel, .sentinel, .sentinel, .sentinel, .sentinel, .sentinel, .sentinel, .sentinel, .sentinel, .sentinel, .sentinel, .sentinel, .sentinel, .sentinel, .sentinel, .sentinel, .sentinel, .sentinel, .sentinel] true (true, "a74a5cac601abc5111c616edfbe1add30818add2b3296bdeb3eb4950253f9565") true
    checkCosts_holds (fun _ h => by cases h) (by kernel_rfl) (fun _ h => by cases h) checkCosts_row_tie rfl ⟨rfl, rfl⟩ (by kernel_rfl) rfl
    (fun f fn hf hfn => by
      obtain rfl : f = 7 := Option.some.inj ((show Tryd.prog.funcNamed "lodge/lodgelaw15.CheckCosts" = some 7 by kernel_rfl).symm.trans hf) |>.symm
      obtain rfl : fn = Tryd.f7 := (Option.some.inj (Tryd.func7.symm.trans hfn)).symm
      exact ⟨by kernel_rfl, fun j t ht => by
        rw [Tryd.params7] at ht
        have hm : t ∈ [3, 3, 3, 3] := List.mem_of_getElem? (by simpa using ht)
        have h3 : t = 3 := by
          simp only [List.mem_cons, List.not_mem_nil, or_false] at hm
          rcases hm with rfl | rfl | rfl | rfl <;> simp
        rcases h3 with rfl
        · exact (show Tryd.prog.wantsStandIn 3 = false by kernel_rfl)⟩)
    (by kernel_rfl)
#print axioms checkCosts_card
end Go.Proofs.YtcfaajaccbadbaaDoor
