/- The run of the law PolarPlates by the executor: true at every leaf. Conditions: none. -/
import Derived.Test.YtcggbkocpahkdaaEx29
import Derived.Test.YtcggbkocpahkdaaPoD
namespace Go.Proofs.Ytcggbkocpahkdaa
open Go Go.Ex Go.RowKit
theorem polarPlatesRun : ((callE (mkC smD) (drawX (mkC smD)) 3000 (FI.of Try.f6 true) (canA 0 0 [(true, [.i, .i, .i]), (true, [.i, .i, .i])]) (stP [])).all lawTrue) = true := by kernel_rfl
end Go.Proofs.Ytcggbkocpahkdaa
