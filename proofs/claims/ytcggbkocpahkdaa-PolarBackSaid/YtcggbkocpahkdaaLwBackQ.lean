/- The runs of the law PolarBack, by which number of the diagonal is the first that is not 0: the first two. Conditions: none. -/
import Derived.Test.YtcggbkocpahkdaaLwBackS
namespace Go.Proofs.Ytcggbkocpahkdaa
open Go Go.Ex Go.RowKit
theorem backRun0 : ((callE (mkG backG backX smBack) (drawX (mkG backG backX smBack)) 3000 (FI.of Try.f8 true) (canA 0 0 backSh) (stP [(.zer (kffP 0), false)])).all lawD) = true := by kernel_rfl
theorem backRun1 : ((callE (mkG backG backX smBack) (drawX (mkG backG backX smBack)) 3000 (FI.of Try.f8 true) (canA 0 0 backSh) (stP [(.zer (kffP 0), true), (.zer (kffP 1), false)])).all lawD) = true := by kernel_rfl
end Go.Proofs.Ytcggbkocpahkdaa
