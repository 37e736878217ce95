/- Runs of the law TopJonesIntoMueller by the executor: true at every leaf. Conditions: none. -/
import Derived.Test.YtcggbkocpahkdaaLwJonY
namespace Go.Proofs.Ytcggbkocpahkdaa
open Go Go.Ex Go.RowKit
theorem jrNil : (jNil.all lawTrue) = true := by kernel_rfl
theorem jrBig : (jBig.all lawTrue) = true := by kernel_rfl
theorem jr0_0 : ((jGo 0 (jWay 0 0)).all lawTrue) = true := by kernel_rfl
theorem jr1_0 : ((jGo 1 (jWay 1 0)).all lawTrue) = true := by kernel_rfl
theorem jr1_1 : ((jGo 1 (jWay 1 1)).all lawTrue) = true := by kernel_rfl
theorem jr2_0 : ((jGo 2 (jWay 2 0)).all lawTrue) = true := by kernel_rfl
end Go.Proofs.Ytcggbkocpahkdaa
