/- 'append' is mild (it is long: a text of its own). -/
import Derived.Test.YtngmhkhncimknaaStmOps
namespace Go.Proofs.Ytngmhkhncimknaa
open Go
set_option linter.unusedVariables false
set_option linter.unusedSimpArgs false

section
variable {P : Program}
set_option maxHeartbeats 4000000 in
theorem mild_Builtin_append (ts : Array TypeId) (t : TypeId) (as : Array Value) : mild P Tt (Builtin.append_ ts t as) := by
  unfold Builtin.append_
  mild_all
macro_rules | `(tactic| mild_known) => `(tactic| exact mild_Builtin_append ..)
end
end Go.Proofs.Ytngmhkhncimknaa
