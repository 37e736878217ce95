/-
  The direction of any part of a turn, by that of one from 0 to an eighth; the unit number of a part of a turn.
-/
import Derived.Test.YtoheddhbcpjmkaaLwP3

namespace Go.Ex
open Go Go.Proofs Go.RowKit
noncomputable section
/-! ## direction -/
def turnN : Int := 4194304
def geP (p : Poly) : PC := [(.pos (pneg p), false)]
def flT : CTab := [([iS (pvar 0), lS turnN], [], lS 0), ([iS (pminus (pvar 0) (pconst 1048576)), lS turnN], geP (pminus (pvar 0) (pconst 1048576)), lS 0), ([iS (pminus (pvar 0) (pconst 2097152)), lS turnN], geP (pminus (pvar 0) (pconst 2097152)), lS 0), ([iS (pminus (pvar 0) (pconst 3145728)), lS turnN], geP (pminus (pvar 0) (pconst 3145728)), lS 0)]
def dT (mp : Poly) : CTab := [([iS mp], [], cS (pvar 1) (pvar 2))]
def smDi (mp : Poly) : T (List Sv → PC → Tree (Sv × PC)) := (smA.set 45 (some (gTab flT))).set 71 (some (gTab (dT mp)))
def dPc (lo hi : Int) : PC := upTo 0 lo hi ++ (upTo 1 0 67108864 ++ upTo 2 0 67108864)
def dRun (mp : Poly) (lo hi : Int) : Tree (Sv × St) := callE (mkC (smDi mp)) (drawX (mkC (smDi mp))) 3000 (FI.of Try.f62 true) [iS (pvar 0)] (stP (dPc lo hi))
def dOk (rx ry : Poly) (r : Sv × St) : Bool := svEq r.1 (cS rx ry)
def mP (s c : Int) : Poly := pplus (ptimes (pconst s) (pvar 0)) (pconst c)
set_option maxRecDepth 100000
theorem dr0 : (dRun (mP 1 0) 0 524288).all (dOk (pvar 1) (pvar 2)) = true := by kernel_rfl
theorem dr1 : (dRun (mP (-1) 1048576) 524289 1048575).all (dOk (pvar 2) (pvar 1)) = true := by kernel_rfl
theorem dr2 : (dRun (mP 1 (-1048576)) 1048576 1572864).all (dOk (pneg (pvar 2)) (pvar 1)) = true := by kernel_rfl
theorem dr3 : (dRun (mP (-1) 2097152) 1572865 2097151).all (dOk (pneg (pvar 1)) (pvar 2)) = true := by kernel_rfl
theorem dr4 : (dRun (mP 1 (-2097152)) 2097152 2621440).all (dOk (pneg (pvar 1)) (pneg (pvar 2))) = true := by kernel_rfl
theorem dr5 : (dRun (mP (-1) 3145728) 2621441 3145727).all (dOk (pneg (pvar 2)) (pneg (pvar 1))) = true := by kernel_rfl
theorem dr6 : (dRun (mP 1 (-3145728)) 3145728 3670016).all (dOk (pvar 2) (pneg (pvar 1))) = true := by kernel_rfl
theorem dr7 : (dRun (mP (-1) 4194304) 3670017 4194303).all (dOk (pvar 1) (pneg (pvar 2))) = true := by kernel_rfl

/-! ## Unit -/
def uT45 : CTab := [([iS (ptimes (pvar 0) (pconst turnN)), iS (pvar 1)], [], iS (pvar 2)), ([iS (pplus (pvar 2) (pvar 3)), lS 2], [], iS (pvar 4))]
def uT31 : CTab := [([iS (ptimes (pvar 0) (pconst turnN)), iS (pvar 1)], [], iS (pvar 3)), ([iS (ptimes (pconst 11) (pminus (pvar 3) (pvar 4))), lS 7], [], iS (pvar 11))]
def uT62 : CTab := [([iS (pvar 4)], [], cS (pvar 5) (pvar 6))]
def rnS (v z : Nat) : Sv := .tup [(false, [.int .i64 (.poly (pvar v))]), (false, [.bool (.at_ true (.zer (pvar z)))])]
def uT30 : CTab := [([iS (pvar 5), lS 64], [], rnS 7 9), ([iS (pvar 6), lS 64], [], rnS 8 10)]
def uQ : QTab := [(false, .poly (pvar 2), .lit 1048576, .poly (pvar 12))]
def smU : T (List Sv → PC → Tree (Sv × PC)) := (((smA.set 45 (some (gTab uT45))).set 31 (some (gTab uT31))).set 62 (some (gTab uT62))).set 30 (some (gTab uT30))
def uC : Cx := mkQ smU uQ
def uPc : PC := upTo 0 0 80 ++ (upTo 1 1 80 ++ (upTo 2 0 4194304 ++ (upTo 3 0 4194304 ++ (upTo 4 0 4194304 ++ (upTo 5 (-67108864) 67108864 ++ (upTo 6 (-67108864) 67108864 ++ (upTo 7 (-2097152) 2097152 ++ (upTo 8 (-2097152) 2097152 ++ upTo 11 0 16777216))))))))
def uEq : Atom := .zer (pminus (pvar 2) (pvar 3))
def uRun (pc : PC) : Tree (Sv × St) := callE uC (drawX uC) 3000 (FI.of Try.f14 true) [iS (pvar 0), iS (pvar 1)] (stP pc)
def uRes (r : Ix) : Sv := .tup [(true, [.cpx .f64 (.ofI (pvar 7)) (.ofI (pvar 8)), .int .i64 r]), (false, [.int .i64 (.lit 0)])]
def uOk (x : Ix) (r : Sv × St) : Bool := svEq r.1 (uRes x)
def uRad : Poly := pplus (pconst 2) (pvar 11)
theorem ur1 : (uRun ((uEq, false) :: uPc)).all (uOk (.poly uRad)) = true := by kernel_rfl
theorem ur2 : (uRun ((uEq, true) :: (.zer (pvar 12), false) :: uPc)).all (uOk (.poly uRad)) = true := by kernel_rfl
theorem ur3 : (uRun ((uEq, true) :: (.zer (pvar 12), true) :: uPc)).all (uOk (.lit 0)) = true := by kernel_rfl
end
end Go.Ex

