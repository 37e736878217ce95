/-
  The law of unit numbers: its runs, at each number of parts, and at numbers out of range.
-/
import Derived.Test.YtoheddhbcpjmkaaLwP4
import Derived.KernelRfl

namespace Go.Ex
open Go Go.Proofs Go.RowKit
set_option maxRecDepth 1000000
theorem nAllA : nAll 2 20 = true := by kernel_rfl
theorem oA : (oRun [(.pos (pminus (pconst 2) (pvar 1)), true)]).all lawTrue = true := by kernel_rfl
theorem oB : (oRun [(.pos (pminus (pvar 1) (pconst 40)), true)]).all lawTrue = true := by kernel_rfl
theorem oC : (oRun [(.pos (pneg (pvar 0)), true)]).all lawTrue = true := by kernel_rfl
theorem oD : (oRun [(.pos (pminus (pvar 0) (pminus (pvar 1) (pconst 1))), true)]).all lawTrue = true := by kernel_rfl
end Go.Ex

