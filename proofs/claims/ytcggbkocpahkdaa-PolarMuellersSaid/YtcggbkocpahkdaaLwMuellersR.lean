/- The run of the law PolarMuellers by the executor: true at every leaf. Conditions: none. -/
import Derived.Test.YtcggbkocpahkdaaEx29
import Derived.Test.YtcggbkocpahkdaaPoE
namespace Go.Proofs.Ytcggbkocpahkdaa
open Go Go.Ex Go.RowKit
theorem polarMuellersRun : ((callE (mkC smE) (drawX (mkC smE)) 3000 (FI.of Try.f13 true) (canA 0 0 [(true, [.f, .f, .f, .f, .f, .f, .f, .f]), (true, [.i, .i, .i, .i, .i, .i, .i, .i, .i, .i, .i, .i, .i, .i, .i, .i, .i, .i, .i, .i, .i, .i, .i, .i, .i, .i, .i, .i, .i, .i, .i, .i]), (true, [.i, .i, .i, .i])]) (stP [])).all lawTrue) = true := by kernel_rfl
end Go.Proofs.Ytcggbkocpahkdaa
