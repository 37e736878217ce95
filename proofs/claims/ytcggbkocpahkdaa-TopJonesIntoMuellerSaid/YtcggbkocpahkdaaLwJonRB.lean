/- Runs of the law TopJonesIntoMueller by the executor: true at every leaf. Conditions: none. -/
import Derived.Test.YtcggbkocpahkdaaLwJonY
namespace Go.Proofs.Ytcggbkocpahkdaa
open Go Go.Ex Go.RowKit
theorem jr2_1 : ((jGo 2 (jWay 2 1)).all lawTrue) = true := by kernel_rfl
theorem jr2_2 : ((jGo 2 (jWay 2 2)).all lawTrue) = true := by kernel_rfl
theorem jr2_3 : ((jGo 2 (jWay 2 3)).all lawTrue) = true := by kernel_rfl
end Go.Proofs.Ytcggbkocpahkdaa
