/- lodgelaw15.first answers true: a run by the kernel. -/
import Derived.Test.YtcfaajaccbadbaaDoorBase
set_option linter.unusedVariables false
namespace Go.Proofs.YtcfaajaccbadbaaDoor
open Go Ahm
variable {tok : Nat → Value} {prot : Nat → Obj → Prop}
theorem first_run : alone (EE tok prot) (call (EE tok prot) 1000 1000) 1000 15 [] = some (B true) := by kernel_rfl
theorem first_ans : ansL (EE tok prot) 15 [] = some (B true) := ansL_run rfl 1000 first_run
end Go.Proofs.YtcfaajaccbadbaaDoor
