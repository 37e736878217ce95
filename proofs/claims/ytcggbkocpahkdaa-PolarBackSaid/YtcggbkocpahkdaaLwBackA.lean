/- The summary of JonesOf (51), at the law's own matrix; the runs of the document's (53), by which numbers of the diagonal are 0: the first ones. Conditions: none. -/
import Derived.Test.YtcggbkocpahkdaaLwBackF
import Derived.Test.YtcggbkocpahkdaaEx29
namespace Go.Ex
open Go Go.Proofs Go.RowKit
noncomputable section
theorem backA : ((callE (mkG backG backX smE) (drawX (mkG backG backX smE)) 3000 (FI.of Try.f51 true) (canA 0 0 backSh) (stP ([] ++ []))).all (jOk jAll)) = true := by kernel_rfl
theorem s_JonesOf {η : Env} (hg : GoodF η) (hG : GOk η backG) (hX : XOk η backX) : SumOk Try.prog η 51 (gJ backSh [] backX jAll) :=
  j_sum (ats := []) hg (mkG_ok hg hG hX (smE_ok hg)) hX Try.fok51 (fun pc hm => by
    rcases List.mem_cons.1 hm with rfl | h
    · exact backA
    · cases h) (by kernel_rfl)
theorem backB0 : ((callE (mkG backG backX smE) (drawX (mkG backG backX smE)) 3000 (FI.of Try.f53 true) (canA 0 0 backSh) (stP (wayN backAs 0 ++ backNeed))).all (jOk jCore)) = true := by kernel_rfl
theorem backB1 : ((callE (mkG backG backX smE) (drawX (mkG backG backX smE)) 3000 (FI.of Try.f53 true) (canA 0 0 backSh) (stP (wayN backAs 1 ++ backNeed))).all (jOk jCore)) = true := by kernel_rfl
theorem backB2 : ((callE (mkG backG backX smE) (drawX (mkG backG backX smE)) 3000 (FI.of Try.f53 true) (canA 0 0 backSh) (stP (wayN backAs 2 ++ backNeed))).all (jOk jCore)) = true := by kernel_rfl
theorem backB3 : ((callE (mkG backG backX smE) (drawX (mkG backG backX smE)) 3000 (FI.of Try.f53 true) (canA 0 0 backSh) (stP (wayN backAs 3 ++ backNeed))).all (jOk jCore)) = true := by kernel_rfl
end
end Go.Ex
