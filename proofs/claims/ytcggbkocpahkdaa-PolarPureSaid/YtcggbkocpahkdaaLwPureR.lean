/- The runs of the law PolarPure by the executor, way by way: true at every leaf. Conditions: none. -/
import Derived.Test.YtcggbkocpahkdaaLwPureQ
namespace Go.Proofs.Ytcggbkocpahkdaa
open Go Go.Ex Go.RowKit
theorem polarPureWay5 : ((callE (mkG (pureG1 ++ pureG2) pureX smE) (drawX (mkG (pureG1 ++ pureG2) pureX smE)) 3000 (FI.of Try.f14 true) (canA 0 0 [(true, [.i, .i, .i, .i, .i, .i, .i, .i])]) (stP (pureWay 5))).all lawD) = true := by kernel_rfl
theorem polarPureWay6 : ((callE (mkG (pureG1 ++ pureG2) pureX smE) (drawX (mkG (pureG1 ++ pureG2) pureX smE)) 3000 (FI.of Try.f14 true) (canA 0 0 [(true, [.i, .i, .i, .i, .i, .i, .i, .i])]) (stP (pureWay 6))).all lawD) = true := by kernel_rfl
theorem polarPureWay7 : ((callE (mkG (pureG1 ++ pureG2) pureX smE) (drawX (mkG (pureG1 ++ pureG2) pureX smE)) 3000 (FI.of Try.f14 true) (canA 0 0 [(true, [.i, .i, .i, .i, .i, .i, .i, .i])]) (stP (pureWay 7))).all lawD) = true := by kernel_rfl
theorem polarPureWay8 : ((callE (mkG (pureG1 ++ pureG2) pureX smE) (drawX (mkG (pureG1 ++ pureG2) pureX smE)) 3000 (FI.of Try.f14 true) (canA 0 0 [(true, [.i, .i, .i, .i, .i, .i, .i, .i])]) (stP (zerosTo 8))).all lawD) = true := by kernel_rfl
theorem polarPureRun : ∀ pc ∈ pureWays, ((callE (mkG (pureG1 ++ pureG2) pureX smE) (drawX (mkG (pureG1 ++ pureG2) pureX smE)) 3000 (FI.of Try.f14 true) (canA 0 0 [(true, [.i, .i, .i, .i, .i, .i, .i, .i])]) (stP pc)).all lawD) = true := by
  intro pc h
  simp only [pureWays, List.mem_cons, List.not_mem_nil, or_false] at h
  rcases h with rfl | rfl | rfl | rfl | rfl | rfl | rfl | rfl | rfl
  · exact polarPureWay0
  · exact polarPureWay1
  · exact polarPureWay2
  · exact polarPureWay3
  · exact polarPureWay4
  · exact polarPureWay5
  · exact polarPureWay6
  · exact polarPureWay7
  · exact polarPureWay8
end Go.Proofs.Ytcggbkocpahkdaa
