/- OrderWeights: the runs at the weight number 7, each by the kernel. -/
import Derived.Test.YtcfaajaccbadbaaDoorOwRun
namespace Go.Proofs.YtcfaajaccbadbaaDoor
open Go Ahm
theorem run_7_0_true (tok : Nat → Value) (prot : Nat → Obj → Prop) : runOk tok prot 7 0 true = true := by kernel_rfl
theorem run_7_0_false (tok : Nat → Value) (prot : Nat → Obj → Prop) : runOk tok prot 7 0 false = true := by kernel_rfl
theorem run_7_1_true (tok : Nat → Value) (prot : Nat → Obj → Prop) : runOk tok prot 7 1 true = true := by kernel_rfl
theorem run_7_1_false (tok : Nat → Value) (prot : Nat → Obj → Prop) : runOk tok prot 7 1 false = true := by kernel_rfl
theorem run_7_2_true (tok : Nat → Value) (prot : Nat → Obj → Prop) : runOk tok prot 7 2 true = true := by kernel_rfl
theorem run_7_2_false (tok : Nat → Value) (prot : Nat → Obj → Prop) : runOk tok prot 7 2 false = true := by kernel_rfl
theorem run_7_3_true (tok : Nat → Value) (prot : Nat → Obj → Prop) : runOk tok prot 7 3 true = true := by kernel_rfl
theorem run_7_3_false (tok : Nat → Value) (prot : Nat → Obj → Prop) : runOk tok prot 7 3 false = true := by kernel_rfl
theorem run_7_4_true (tok : Nat → Value) (prot : Nat → Obj → Prop) : runOk tok prot 7 4 true = true := by kernel_rfl
theorem run_7_4_false (tok : Nat → Value) (prot : Nat → Obj → Prop) : runOk tok prot 7 4 false = true := by kernel_rfl
theorem run_7_5_true (tok : Nat → Value) (prot : Nat → Obj → Prop) : runOk tok prot 7 5 true = true := by kernel_rfl
theorem run_7_5_false (tok : Nat → Value) (prot : Nat → Obj → Prop) : runOk tok prot 7 5 false = true := by kernel_rfl
theorem run_7_6_true (tok : Nat → Value) (prot : Nat → Obj → Prop) : runOk tok prot 7 6 true = true := by kernel_rfl
theorem run_7_6_false (tok : Nat → Value) (prot : Nat → Obj → Prop) : runOk tok prot 7 6 false = true := by kernel_rfl
theorem run_7_7_true (tok : Nat → Value) (prot : Nat → Obj → Prop) : runOk tok prot 7 7 true = true := by kernel_rfl
theorem run_7_7_false (tok : Nat → Value) (prot : Nat → Obj → Prop) : runOk tok prot 7 7 false = true := by kernel_rfl
theorem run_7_8_true (tok : Nat → Value) (prot : Nat → Obj → Prop) : runOk tok prot 7 8 true = true := by kernel_rfl
theorem run_7_8_false (tok : Nat → Value) (prot : Nat → Obj → Prop) : runOk tok prot 7 8 false = true := by kernel_rfl
theorem runs_7 (tok : Nat → Value) (prot : Nat → Obj → Prop) (b : Int) (s : Bool) (h0 : 0 ≤ b) (h1 : b < 9) : runOk tok prot 7 b s = true := by
  have h : b = 0 ∨ b = 1 ∨ b = 2 ∨ b = 3 ∨ b = 4 ∨ b = 5 ∨ b = 6 ∨ b = 7 ∨ b = 8 := by omega
  rcases h with rfl | rfl | rfl | rfl | rfl | rfl | rfl | rfl | rfl
  · cases s
    · exact run_7_0_false tok prot
    · exact run_7_0_true tok prot
  · cases s
    · exact run_7_1_false tok prot
    · exact run_7_1_true tok prot
  · cases s
    · exact run_7_2_false tok prot
    · exact run_7_2_true tok prot
  · cases s
    · exact run_7_3_false tok prot
    · exact run_7_3_true tok prot
  · cases s
    · exact run_7_4_false tok prot
    · exact run_7_4_true tok prot
  · cases s
    · exact run_7_5_false tok prot
    · exact run_7_5_true tok prot
  · cases s
    · exact run_7_6_false tok prot
    · exact run_7_6_true tok prot
  · cases s
    · exact run_7_7_false tok prot
    · exact run_7_7_true tok prot
  · cases s
    · exact run_7_8_false tok prot
    · exact run_7_8_true tok prot
end Go.Proofs.YtcfaajaccbadbaaDoor
