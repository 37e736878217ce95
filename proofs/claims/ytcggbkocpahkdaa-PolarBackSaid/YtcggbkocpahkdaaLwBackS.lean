/- The runs of the document's JonesOf (53): the last ones; its summary, and that of JonesOf (51), at the law's own matrix. Conditions: none. -/
import Derived.Test.YtcggbkocpahkdaaLwBackF
import Derived.Test.YtcggbkocpahkdaaEx29
import Derived.Test.YtcggbkocpahkdaaLwBackA
import Derived.Test.YtcggbkocpahkdaaLwBackB
namespace Go.Ex
open Go Go.Proofs Go.RowKit
noncomputable section
theorem backB10 : ((callE (mkG backG backX smE) (drawX (mkG backG backX smE)) 3000 (FI.of Try.f53 true) (canA 0 0 backSh) (stP (wayN backAs 10 ++ backNeed))).all (jOk jCore)) = true := by kernel_rfl
theorem backB11 : ((callE (mkG backG backX smE) (drawX (mkG backG backX smE)) 3000 (FI.of Try.f53 true) (canA 0 0 backSh) (stP (wayN backAs 11 ++ backNeed))).all (jOk jCore)) = true := by kernel_rfl
theorem backB12 : ((callE (mkG backG backX smE) (drawX (mkG backG backX smE)) 3000 (FI.of Try.f53 true) (canA 0 0 backSh) (stP (wayN backAs 12 ++ backNeed))).all (jOk jCore)) = true := by kernel_rfl
theorem backB13 : ((callE (mkG backG backX smE) (drawX (mkG backG backX smE)) 3000 (FI.of Try.f53 true) (canA 0 0 backSh) (stP (wayN backAs 13 ++ backNeed))).all (jOk jCore)) = true := by kernel_rfl
theorem backB14 : ((callE (mkG backG backX smE) (drawX (mkG backG backX smE)) 3000 (FI.of Try.f53 true) (canA 0 0 backSh) (stP (wayN backAs 14 ++ backNeed))).all (jOk jCore)) = true := by kernel_rfl
theorem backB15 : ((callE (mkG backG backX smE) (drawX (mkG backG backX smE)) 3000 (FI.of Try.f53 true) (canA 0 0 backSh) (stP (wayN backAs 15 ++ backNeed))).all (jOk jCore)) = true := by kernel_rfl
theorem backB : ∀ pc ∈ waysOf backAs, ((callE (mkG backG backX smE) (drawX (mkG backG backX smE)) 3000 (FI.of Try.f53 true) (canA 0 0 backSh) (stP (pc ++ backNeed))).all (jOk jCore)) = true :=
  ways_all (N := 16) (by kernel_rfl) fun k hk => match k, hk with
    | 0, _ => backB0
    | 1, _ => backB1
    | 2, _ => backB2
    | 3, _ => backB3
    | 4, _ => backB4
    | 5, _ => backB5
    | 6, _ => backB6
    | 7, _ => backB7
    | 8, _ => backB8
    | 9, _ => backB9
    | 10, _ => backB10
    | 11, _ => backB11
    | 12, _ => backB12
    | 13, _ => backB13
    | 14, _ => backB14
    | 15, _ => backB15
    | k + 16, h => absurd h (by omega)
theorem s_rJonesOf {η : Env} (hg : GoodF η) (hG : GOk η backG) (hX : XOk η backX) : SumOk Try.prog η 53 (gJ backSh backNeed backX jCore) :=
  j_sum (ats := backAs) hg (mkG_ok hg hG hX (smE_ok hg)) hX Try.fok53 backB (by kernel_rfl)
def smBack : T (List Sv → PC → Tree (Sv × PC)) := (smE.set 51 (some (gJ backSh [] backX jAll))).set 53 (some (gJ backSh backNeed backX jCore))
theorem smBack_ok : ∀ η, GoodF η → GOk η backG → XOk η backX → SumsOk Try.prog η smBack := fun η hg hG hX =>
  ((smE_ok hg).set (by decide) (s_JonesOf hg hG hX)).set (by decide) (s_rJonesOf hg hG hX)
end
end Go.Ex
