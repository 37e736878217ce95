/- The runs of the law PolarBack, by which number of the diagonal is the first that is not 0: the others; all. Conditions: none. -/
import Derived.Test.YtcggbkocpahkdaaLwBackS
import Derived.Test.YtcggbkocpahkdaaLwBackQ
namespace Go.Proofs.Ytcggbkocpahkdaa
open Go Go.Ex Go.RowKit
theorem backRun2 : ((callE (mkG backG backX smBack) (drawX (mkG backG backX smBack)) 3000 (FI.of Try.f8 true) (canA 0 0 backSh) (stP [(.zer (kffP 0), true), (.zer (kffP 1), true), (.zer (kffP 2), false)])).all lawD) = true := by kernel_rfl
theorem backRun3 : ((callE (mkG backG backX smBack) (drawX (mkG backG backX smBack)) 3000 (FI.of Try.f8 true) (canA 0 0 backSh) (stP [(.zer (kffP 0), true), (.zer (kffP 1), true), (.zer (kffP 2), true), (.zer (kffP 3), false)])).all lawD) = true := by kernel_rfl
theorem backRun4 : ((callE (mkG backG backX smBack) (drawX (mkG backG backX smBack)) 3000 (FI.of Try.f8 true) (canA 0 0 backSh) (stP [(.zer (kffP 0), true), (.zer (kffP 1), true), (.zer (kffP 2), true), (.zer (kffP 3), true)])).all lawD) = true := by kernel_rfl
theorem polarBackRun : ∀ pc ∈ chainW backAs, ((callE (mkG backG backX smBack) (drawX (mkG backG backX smBack)) 3000 (FI.of Try.f8 true) (canA 0 0 backSh) (stP pc)).all lawD) = true := by
  intro pc hm
  simp only [backAs, chainW, List.map_cons, List.map_nil, List.mem_cons, List.not_mem_nil, or_false] at hm
  rcases hm with rfl | rfl | rfl | rfl | rfl
  · exact backRun0
  · exact backRun1
  · exact backRun2
  · exact backRun3
  · exact backRun4
end Go.Proofs.Ytcggbkocpahkdaa
