/- The run of the law PolarCoherencies by the executor: true at every leaf. Conditions: none. -/
import Derived.Test.YtcggbkocpahkdaaEx29
import Derived.Test.YtcggbkocpahkdaaPoE
import Derived.Test.YtcggbkocpahkdaaLwCohF
namespace Go.Proofs.Ytcggbkocpahkdaa
open Go Go.Ex Go.RowKit
theorem polarCoherenciesRun : ((callE (mkG cohG cohX smE) (drawX (mkG cohG cohX smE)) 3000 (FI.of Try.f10 true) (canA 0 0 [(true, [.i, .i, .i, .i, .i, .i, .i, .i, .i, .i, .i, .i, .i, .i, .i, .i])]) (stP [])).all lawD) = true := by kernel_rfl
end Go.Proofs.Ytcggbkocpahkdaa
