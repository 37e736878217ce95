/-
  The law of unit numbers: its runs, at each number of parts, and at numbers out of range.
-/
import Derived.Test.YtoheddhbcpjmkaaLwP4
import Derived.KernelRfl

namespace Go.Ex
open Go Go.Proofs Go.RowKit
set_option maxRecDepth 1000000
theorem nAllC : nAll 33 8 = true := by kernel_rfl
end Go.Ex

