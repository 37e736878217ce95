/- Runs of the law TopJonesIntoMueller by the executor: true at every leaf. Conditions: none. -/
import Derived.Test.YtcggbkocpahkdaaLwJonY
namespace Go.Proofs.Ytcggbkocpahkdaa
open Go Go.Ex Go.RowKit
theorem jr3_6 : ((jGo 3 (jWay 3 6)).all lawTrue) = true := by kernel_rfl
theorem jr3_7 : ((jGo 3 (jWay 3 7)).all lawTrue) = true := by kernel_rfl
end Go.Proofs.Ytcggbkocpahkdaa
