/- The runs of the document's JonesOf (53), by which numbers of the diagonal are 0: the second ones. Conditions: none. -/
import Derived.Test.YtcggbkocpahkdaaLwBackF
import Derived.Test.YtcggbkocpahkdaaEx29
namespace Go.Ex
open Go Go.Proofs Go.RowKit
noncomputable section
theorem backB4 : ((callE (mkG backG backX smE) (drawX (mkG backG backX smE)) 3000 (FI.of Try.f53 true) (canA 0 0 backSh) (stP (wayN backAs 4 ++ backNeed))).all (jOk jCore)) = true := by kernel_rfl
theorem backB5 : ((callE (mkG backG backX smE) (drawX (mkG backG backX smE)) 3000 (FI.of Try.f53 true) (canA 0 0 backSh) (stP (wayN backAs 5 ++ backNeed))).all (jOk jCore)) = true := by kernel_rfl
theorem backB6 : ((callE (mkG backG backX smE) (drawX (mkG backG backX smE)) 3000 (FI.of Try.f53 true) (canA 0 0 backSh) (stP (wayN backAs 6 ++ backNeed))).all (jOk jCore)) = true := by kernel_rfl
theorem backB7 : ((callE (mkG backG backX smE) (drawX (mkG backG backX smE)) 3000 (FI.of Try.f53 true) (canA 0 0 backSh) (stP (wayN backAs 7 ++ backNeed))).all (jOk jCore)) = true := by kernel_rfl
theorem backB8 : ((callE (mkG backG backX smE) (drawX (mkG backG backX smE)) 3000 (FI.of Try.f53 true) (canA 0 0 backSh) (stP (wayN backAs 8 ++ backNeed))).all (jOk jCore)) = true := by kernel_rfl
theorem backB9 : ((callE (mkG backG backX smE) (drawX (mkG backG backX smE)) 3000 (FI.of Try.f53 true) (canA 0 0 backSh) (stP (wayN backAs 9 ++ backNeed))).all (jOk jCore)) = true := by kernel_rfl
end
end Go.Ex
