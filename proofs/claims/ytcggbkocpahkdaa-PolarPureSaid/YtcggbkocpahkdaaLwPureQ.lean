/- The runs of the law PolarPure by the executor, way by way: true at every leaf. Conditions: none. -/
import Derived.Test.YtcggbkocpahkdaaEx29
import Derived.Test.YtcggbkocpahkdaaPoE
import Derived.Test.YtcggbkocpahkdaaLwPureF
namespace Go.Proofs.Ytcggbkocpahkdaa
open Go Go.Ex Go.RowKit
theorem polarPureWay0 : ((callE (mkG (pureG1 ++ pureG2) pureX smE) (drawX (mkG (pureG1 ++ pureG2) pureX smE)) 3000 (FI.of Try.f14 true) (canA 0 0 [(true, [.i, .i, .i, .i, .i, .i, .i, .i])]) (stP (pureWay 0))).all lawD) = true := by kernel_rfl
theorem polarPureWay1 : ((callE (mkG (pureG1 ++ pureG2) pureX smE) (drawX (mkG (pureG1 ++ pureG2) pureX smE)) 3000 (FI.of Try.f14 true) (canA 0 0 [(true, [.i, .i, .i, .i, .i, .i, .i, .i])]) (stP (pureWay 1))).all lawD) = true := by kernel_rfl
theorem polarPureWay2 : ((callE (mkG (pureG1 ++ pureG2) pureX smE) (drawX (mkG (pureG1 ++ pureG2) pureX smE)) 3000 (FI.of Try.f14 true) (canA 0 0 [(true, [.i, .i, .i, .i, .i, .i, .i, .i])]) (stP (pureWay 2))).all lawD) = true := by kernel_rfl
theorem polarPureWay3 : ((callE (mkG (pureG1 ++ pureG2) pureX smE) (drawX (mkG (pureG1 ++ pureG2) pureX smE)) 3000 (FI.of Try.f14 true) (canA 0 0 [(true, [.i, .i, .i, .i, .i, .i, .i, .i])]) (stP (pureWay 3))).all lawD) = true := by kernel_rfl
theorem polarPureWay4 : ((callE (mkG (pureG1 ++ pureG2) pureX smE) (drawX (mkG (pureG1 ++ pureG2) pureX smE)) 3000 (FI.of Try.f14 true) (canA 0 0 [(true, [.i, .i, .i, .i, .i, .i, .i, .i])]) (stP (pureWay 4))).all lawD) = true := by kernel_rfl
end Go.Proofs.Ytcggbkocpahkdaa
