/- OrderWeights: the runs at the weight number 5, each by the kernel. -/
import Derived.Test.YtcfaajaccbadbaaDoorOwRun
namespace Go.Proofs.YtcfaajaccbadbaaDoor
open Go Ahm
theorem run_5_0_true (tok : Nat → Value) (prot : Nat → Obj → Prop) : runOk tok prot 5 0 true = true := by kernel_rfl
theorem run_5_0_false (tok : Nat → Value) (prot : Nat → Obj → Prop) : runOk tok prot 5 0 false = true := by kernel_rfl
theorem run_5_1_true (tok : Nat → Value) (prot : Nat → Obj → Prop) : runOk tok prot 5 1 true = true := by kernel_rfl
theorem run_5_1_false (tok : Nat → Value) (prot : Nat → Obj → Prop) : runOk tok prot 5 1 false = true := by kernel_rfl
theorem run_5_2_true (tok : Nat → Value) (prot : Nat → Obj → Prop) : runOk tok prot 5 2 true = true := by kernel_rfl
theorem run_5_2_false (tok : Nat → Value) (prot : Nat → Obj → Prop) : runOk tok prot 5 2 false = true := by kernel_rfl
theorem run_5_3_true (tok : Nat → Value) (prot : Nat → Obj → Prop) : runOk tok prot 5 3 true = true := by kernel_rfl
theorem run_5_3_false (tok : Nat → Value) (prot : Nat → Obj → Prop) : runOk tok prot 5 3 false = true := by kernel_rfl
theorem run_5_4_true (tok : Nat → Value) (prot : Nat → Obj → Prop) : runOk tok prot 5 4 true = true := by kernel_rfl
theorem run_5_4_false (tok : Nat → Value) (prot : Nat → Obj → Prop) : runOk tok prot 5 4 false = true := by kernel_rfl
theorem run_5_5_true (tok : Nat → Value) (prot : Nat → Obj → Prop) : runOk tok prot 5 5 true = true := by kernel_rfl
theorem run_5_5_false (tok : Nat → Value) (prot : Nat → Obj → Prop) : runOk tok prot 5 5 false = true := by kernel_rfl
theorem run_5_6_true (tok : Nat → Value) (prot : Nat → Obj → Prop) : runOk tok prot 5 6 true = true := by kernel_rfl
theorem run_5_6_false (tok : Nat → Value) (prot : Nat → Obj → Prop) : runOk tok prot 5 6 false = true := by kernel_rfl
theorem run_5_7_true (tok : Nat → Value) (prot : Nat → Obj → Prop) : runOk tok prot 5 7 true = true := by kernel_rfl
theorem run_5_7_false (tok : Nat → Value) (prot : Nat → Obj → Prop) : runOk tok prot 5 7 false = true := by kernel_rfl
theorem run_5_8_true (tok : Nat → Value) (prot : Nat → Obj → Prop) : runOk tok prot 5 8 true = true := by kernel_rfl
theorem run_5_8_false (tok : Nat → Value) (prot : Nat → Obj → Prop) : runOk tok prot 5 8 false = true := by kernel_rfl
theorem runs_5 (tok : Nat → Value) (prot : Nat → Obj → Prop) (b : Int) (s : Bool) (h0 : 0 ≤ b) (h1 : b < 9) : runOk tok prot 5 b s = true := by
  have h : b = 0 ∨ b = 1 ∨ b = 2 ∨ b = 3 ∨ b = 4 ∨ b = 5 ∨ b = 6 ∨ b = 7 ∨ b = 8 := by omega
  rcases h with rfl | rfl | rfl | rfl | rfl | rfl | rfl | rfl | rfl
  · cases s
    · exact run_5_0_false tok prot
    · exact run_5_0_true tok prot
  · cases s
    · exact run_5_1_false tok prot
    · exact run_5_1_true tok prot
  · cases s
    · exact run_5_2_false tok prot
    · exact run_5_2_true tok prot
  · cases s
    · exact run_5_3_false tok prot
    · exact run_5_3_true tok prot
  · cases s
    · exact run_5_4_false tok prot
    · exact run_5_4_true tok prot
  · cases s
    · exact run_5_5_false tok prot
    · exact run_5_5_true tok prot
  · cases s
    · exact run_5_6_false tok prot
    · exact run_5_6_true tok prot
  · cases s
    · exact run_5_7_false tok prot
    · exact run_5_7_true tok prot
  · cases s
    · exact run_5_8_false tok prot
    · exact run_5_8_true tok prot
end Go.Proofs.YtcfaajaccbadbaaDoor
