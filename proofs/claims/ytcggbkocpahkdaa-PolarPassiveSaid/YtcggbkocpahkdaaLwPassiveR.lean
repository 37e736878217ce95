/- The run of the law PolarPassive by the executor: true at every leaf. Conditions: none. -/
import Derived.Test.YtcggbkocpahkdaaEx29
import Derived.Test.YtcggbkocpahkdaaPoE
import Derived.Test.YtcggbkocpahkdaaLwPassiveF
namespace Go.Proofs.Ytcggbkocpahkdaa
open Go Go.Ex Go.RowKit
theorem polarPassiveRun : ((callE (mkC smE) (drawX (mkC smE)) 3000 (FI.of Try.f11 true) (canA 0 0 [(true, [.i, .i, .i, .i, .i, .i, .i, .i, .i, .i, .i, .i, .i, .i, .i, .i]), (false, [.i]), (true, [.i, .i, .i, .i])]) (stP [])).all (lawFin passFin)) = true := by kernel_rfl
end Go.Proofs.Ytcggbkocpahkdaa
