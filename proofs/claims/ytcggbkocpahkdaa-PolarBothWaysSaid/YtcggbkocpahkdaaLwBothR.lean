/- The run of the law PolarBothWays by the executor: true at every leaf. Conditions: none. -/
import Derived.Test.YtcggbkocpahkdaaEx29
import Derived.Test.YtcggbkocpahkdaaPoE
import Derived.Test.YtcggbkocpahkdaaLwBothF
namespace Go.Proofs.Ytcggbkocpahkdaa
open Go Go.Ex Go.RowKit
theorem polarBothWaysRun : ((callE (mkG bothG bothX smE) (drawX (mkG bothG bothX smE)) 3000 (FI.of Try.f16 true) (canA 0 0 [(true, [.i, .i, .i, .i, .i, .i, .i, .i]), (true, [.i, .i, .i, .i, .i, .i, .i, .i]), (true, [.i, .i, .i, .i])]) (stP [])).all lawD) = true := by kernel_rfl
end Go.Proofs.Ytcggbkocpahkdaa
