/-
  Unit numbers, their sums, powers and roots are as the law says: a decision, some of the numbers of parts of a turn.
-/
import Derived.Test.YtoheddhbcpjmkaaLwP4
import Derived.KernelRfl

namespace Go.Ex
open Go Go.Proofs Go.RowKit
set_option maxRecDepth 1000000
theorem chkJ3 : chkB 30 6 = true := by kernel_rfl
end Go.Ex

