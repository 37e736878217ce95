/-
  The law of the ways that meet: its names, its summaries.
-/
import Derived.Test.YtoheddhbcpjmkaaLwBaT

namespace Go.Ex
open Go Go.Proofs
noncomputable section
def cpol : Fx → Option Poly
  | .ofI p => some p
  | .lit 0 => some []
  | _ => none
def balP : Sv → Option (List Poly)
  | .agg [.cpx .f64 x y, r] => match cpol x, cpol y, polyOf r with
    | some p, some q, some s => some [p, q, s]
    | _, _, _ => none
  | _ => none
def bndsB : List (Int × Int) := [(-maxB, maxB), (-maxB, maxB), (0, maxB), (-maxB, maxB), (-maxB, maxB), (0, maxB)]
def nmS (v : Nat) : Sv := .tup [(true, [.cpx .f64 (.ofI (pvar v)) (.ofI (pvar (v + 1))), .int .i64 (.poly (pvar (v + 2)))]), (false, [.int .i64 (.poly (pvar (v + 3)))])]
/-- An operation on two balls, whose outcome has names: kinds k to k + 3, one behind the other. -/
def gBall (k : Nat) (Z : Nm) : List Sv → PC → Tree (Sv × PC) := fun svs pc => match svs with
  | [x, y] => match balP x, balP y with
    | some ps, some qs => bif bndC pc bndsB (ps ++ qs) then (match dlook k (ps ++ qs) Z.D with
        | some v => bif named4 Z.D v k (ps ++ qs) then .leaf (nmS v, addXv Z.X v pc) else .fail
        | none => .fail) else .fail
    | _, _ => .fail
  | _ => .fail
where
  named4 (D : Dtab) (v k : Nat) (ps : List Poly) : Bool := is D (v + 1) (k + 1) ps && (is D (v + 2) (k + 2) ps && is D (v + 3) (k + 3) ps)
  is (D : Dtab) (v k : Nat) (ps : List Poly) : Bool := match dget D v with
    | some (k', qs) => Nat.beq k' k && psEq qs ps
    | none => false
abbrev MTab := List (List Sv × PC)
def gMeet (MT : MTab) : List Sv → PC → Tree (Sv × PC) := fun svs pc => bif go MT svs pc then .leaf (.one (.bool (.lit true)), pc) else .fail
where
  go : MTab → List Sv → PC → Bool
    | [], _, _ => false
    | (pat, pre) :: M, svs, pc => (svsEq svs pat && allKn pc pre) || go M svs pc

/-! ## The names of the law -/
def b3 (v : Nat) : List Poly := [pvar v, pvar (v + 1), pvar (v + 2)]
def sP : List Poly := [pplus (pvar 0) (pvar 3), pplus (pvar 1) (pvar 4), pplus (pvar 2) (pvar 5)]
def dP : List Poly := [pminus (pvar 0) (pvar 3), pminus (pvar 1) (pvar 4), pplus (pvar 2) (pvar 5)]
def gP (v : Nat) : List Poly := [pvar v, pneg (pvar (v + 1)), pvar (v + 2)]
def nm4 (v k : Nat) (ps : List Poly) : Dtab := [(v, k, ps), (v + 1, k + 1, ps), (v + 2, k + 2, ps), (v + 3, k + 3, ps)]
def lD : Dtab := nm4 100 20 (sP ++ dP) ++ (nm4 104 20 (b3 0 ++ b3 0) ++ (nm4 108 20 (b3 3 ++ b3 3) ++ (nm4 112 20 (sP ++ b3 6) ++ (nm4 116 20 (b3 0 ++ b3 6) ++ (nm4 120 20 (b3 3 ++ b3 6) ++ (nm4 124 20 (b3 0 ++ b3 3)
  ++ (nm4 128 20 (b3 124 ++ b3 6) ++ (nm4 132 20 (b3 0 ++ b3 120) ++ (nm4 136 30 (b3 0 ++ b3 3) ++ (nm4 140 30 (b3 0 ++ b3 120) ++ (nm4 144 30 (b3 136 ++ b3 6) ++ nm4 148 20 (gP 0 ++ gP 3))))))))))))
def smB4 (v : Nat) : PC := upTo v (-4194304) 4194304 ++ (upTo (v + 1) (-4194304) 4194304 ++ upTo (v + 2) 0 1000)
def lIn : PC := smB4 0 ++ (smB4 3 ++ smB4 6)
/-- An outcome within bounds; no error. -/
def okX (v : Nat) : PC := (.zer (pvar (v + 3)), true) :: (upTo v (-33554432) 33554432 ++ (upTo (v + 1) (-33554432) 33554432 ++ upTo (v + 2) 0 33554432))
def anyX (v : Nat) : PC := bndB v
def lX : XTab' := [(104, lIn, okX 104), (108, lIn, okX 108), (116, lIn, okX 116), (120, lIn, okX 120), (124, lIn, okX 124), (136, [], anyX 136)]
def lZ : Nm := ⟨lD, lX, fun _ _ => true⟩
def balS (ps : List Poly) : Sv := match ps with
  | [p, q, r] => .agg [.cpx .f64 (.ofI p) (.ofI q), .int .i64 (.poly r)]
  | _ => .undef
def errV (v : Nat) : Sv := .one (.int .i64 (.poly (pvar v)))
def err0 : Sv := .one (.int .i64 (.lit 0))
def lM : MTab := [
  ([balS (b3 100), balS [pminus (pvar 104) (pvar 108), pminus (pvar 105) (pvar 109), pplus (pvar 106) (pvar 110)], errV 103, err0], lIn),
  ([balS (b3 112), balS [pplus (pvar 116) (pvar 120), pplus (pvar 117) (pvar 121), pplus (pvar 118) (pvar 122)], errV 115, err0], lIn),
  ([balS (b3 128), balS (b3 132), errV 131, errV 135], lIn),
  ([balS (b3 144), balS (b3 140), errV 147, errV 143], (.zer (pvar 139), true) :: lIn),
  ([balS (gP 124), balS (b3 148), err0, errV 151], lIn)]
def smL (Z : Nm) (M : MTab) : T (List Sv → PC → Tree (Sv × PC)) := (((smA.set 5 (some (gLit [] (.one (.bool (.lit true)))))).set 9 (some (gBall 20 Z))).set 11 (some (gBall 30 Z))).set 10 (some (gMeet M))
def lC (Z : Nm) (M : MTab) : Cx := mkC (smL Z M)
def sh9 : Shq := [(true, [.i, .i, .i, .i, .i, .i, .i, .i, .i])]
def lRun : Tree (Sv × St) := callE (lC lZ lM) (drawX (lC lZ lM)) 3000 (FI.of Try.f3 true) (canA 0 0 sh9) (stP [])
end
end Go.Ex

