/- OrderWeights: the runs at the weight number 3, each by the kernel. -/
import Derived.Test.YtcfaajaccbadbaaDoorOwRun
namespace Go.Proofs.YtcfaajaccbadbaaDoor
open Go Ahm
theorem run_3_0_true (tok : Nat → Value) (prot : Nat → Obj → Prop) : runOk tok prot 3 0 true = true := by kernel_rfl
theorem run_3_0_false (tok : Nat → Value) (prot : Nat → Obj → Prop) : runOk tok prot 3 0 false = true := by kernel_rfl
theorem run_3_1_true (tok : Nat → Value) (prot : Nat → Obj → Prop) : runOk tok prot 3 1 true = true := by kernel_rfl
theorem run_3_1_false (tok : Nat → Value) (prot : Nat → Obj → Prop) : runOk tok prot 3 1 false = true := by kernel_rfl
theorem run_3_2_true (tok : Nat → Value) (prot : Nat → Obj → Prop) : runOk tok prot 3 2 true = true := by kernel_rfl
theorem run_3_2_false (tok : Nat → Value) (prot : Nat → Obj → Prop) : runOk tok prot 3 2 false = true := by kernel_rfl
theorem run_3_3_true (tok : Nat → Value) (prot : Nat → Obj → Prop) : runOk tok prot 3 3 true = true := by kernel_rfl
theorem run_3_3_false (tok : Nat → Value) (prot : Nat → Obj → Prop) : runOk tok prot 3 3 false = true := by kernel_rfl
theorem run_3_4_true (tok : Nat → Value) (prot : Nat → Obj → Prop) : runOk tok prot 3 4 true = true := by kernel_rfl
theorem run_3_4_false (tok : Nat → Value) (prot : Nat → Obj → Prop) : runOk tok prot 3 4 false = true := by kernel_rfl
theorem run_3_5_true (tok : Nat → Value) (prot : Nat → Obj → Prop) : runOk tok prot 3 5 true = true := by kernel_rfl
theorem run_3_5_false (tok : Nat → Value) (prot : Nat → Obj → Prop) : runOk tok prot 3 5 false = true := by kernel_rfl
theorem run_3_6_true (tok : Nat → Value) (prot : Nat → Obj → Prop) : runOk tok prot 3 6 true = true := by kernel_rfl
theorem run_3_6_false (tok : Nat → Value) (prot : Nat → Obj → Prop) : runOk tok prot 3 6 false = true := by kernel_rfl
theorem run_3_7_true (tok : Nat → Value) (prot : Nat → Obj → Prop) : runOk tok prot 3 7 true = true := by kernel_rfl
theorem run_3_7_false (tok : Nat → Value) (prot : Nat → Obj → Prop) : runOk tok prot 3 7 false = true := by kernel_rfl
theorem run_3_8_true (tok : Nat → Value) (prot : Nat → Obj → Prop) : runOk tok prot 3 8 true = true := by kernel_rfl
theorem run_3_8_false (tok : Nat → Value) (prot : Nat → Obj → Prop) : runOk tok prot 3 8 false = true := by kernel_rfl
theorem runs_3 (tok : Nat → Value) (prot : Nat → Obj → Prop) (b : Int) (s : Bool) (h0 : 0 ≤ b) (h1 : b < 9) : runOk tok prot 3 b s = true := by
  have h : b = 0 ∨ b = 1 ∨ b = 2 ∨ b = 3 ∨ b = 4 ∨ b = 5 ∨ b = 6 ∨ b = 7 ∨ b = 8 := by omega
  rcases h with rfl | rfl | rfl | rfl | rfl | rfl | rfl | rfl | rfl
  · cases s
    · exact run_3_0_false tok prot
    · exact run_3_0_true tok prot
  · cases s
    · exact run_3_1_false tok prot
    · exact run_3_1_true tok prot
  · cases s
    · exact run_3_2_false tok prot
    · exact run_3_2_true tok prot
  · cases s
    · exact run_3_3_false tok prot
    · exact run_3_3_true tok prot
  · cases s
    · exact run_3_4_false tok prot
    · exact run_3_4_true tok prot
  · cases s
    · exact run_3_5_false tok prot
    · exact run_3_5_true tok prot
  · cases s
    · exact run_3_6_false tok prot
    · exact run_3_6_true tok prot
  · cases s
    · exact run_3_7_false tok prot
    · exact run_3_7_true tok prot
  · cases s
    · exact run_3_8_false tok prot
    · exact run_3_8_true tok prot
end Go.Proofs.YtcfaajaccbadbaaDoor
