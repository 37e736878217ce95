/-
  Unit numbers, their sums, powers and roots, as plain numbers; that all is as the law says, from 2 to 40 parts of a turn.
-/
import Derived.Test.YtoheddhbcpjmkaaLwUnF1
import Derived.Test.YtoheddhbcpjmkaaLwUnF2
import Derived.Test.YtoheddhbcpjmkaaLwUnF3
import Derived.Test.YtoheddhbcpjmkaaLwUnF4
import Derived.Test.YtoheddhbcpjmkaaLwUnF5
import Derived.Test.YtoheddhbcpjmkaaLwUnF6

namespace Go.Ex
abbrev Tri := Int × Int × Int
def findF : List FEnt → Int → Option (Int × Int)
  | [], _ => none
  | (m, x, y) :: l, n => bif eqI m n then some (x, y) else findF l n
def FTA : List FEnt := FT1 ++ (FT2 ++ (FT3 ++ (FT4 ++ (FT5 ++ FT6))))
def firF (n : Int) : Option (Int × Int) := findF FTA n
def mapP (f : Int → Int → Int × Int) : Option (Int × Int) → Option (Int × Int)
  | some (x, y) => some (f x y)
  | none => none
def dirF (m : Int) : Option (Int × Int) :=
  bif leI m 524288 then mapP (fun x y => (x, y)) (firF m) else bif leI m 1048575 then mapP (fun x y => (y, x)) (firF (1048576 - m)) else bif leI m 1572864 then mapP (fun x y => (-y, x)) (firF (m - 1048576))
  else bif leI m 2097151 then mapP (fun x y => (-x, y)) (firF (2097152 - m)) else bif leI m 2621440 then mapP (fun x y => (-x, -y)) (firF (m - 2097152)) else bif leI m 3145727 then mapP (fun x y => (-y, -x)) (firF (3145728 - m))
  else bif leI m 3670016 then mapP (fun x y => (y, -x)) (firF (m - 3145728)) else mapP (fun x y => (x, -y)) (firF (4194304 - m))
def uLo (i n : Int) : Int := i * 4194304 / n
def uHi (i n : Int) : Int := ceilI (i * 4194304) n
def uMid (i n : Int) : Int := (uLo i n + uHi i n) / 2
def uRad' (i n : Int) : Int := bif eqI (uLo i n) (uHi i n) && eqI (uLo i n % 1048576) 0 then 0 else 2 + ceilI (11 * (uHi i n - uMid i n)) 7
def unitF (i n : Int) : Option Tri := match dirF (uMid i n) with
  | some (x, y) => some (rndI x 64, rndI y 64, uRad' i n)
  | none => none
def inT (t : Tri) : Bool := (leI (-67108864) t.1 && leI t.1 67108864) && ((leI (-67108864) t.2.1 && leI t.2.1 67108864) && (leI 0 t.2.2 && leI t.2.2 67108864))
def fitT (t : Tri) : Option Tri := bif inT t then some t else none
def plusF (a b : Tri) : Option Tri := fitT (a.1 + b.1, a.2.1 + b.2.1, a.2.2 + b.2.2)
def timF (a b : Tri) : Option Tri := fitT (timR a.1 a.2.1 a.2.2 b.1 b.2.1 b.2.2, timI a.1 a.2.1 a.2.2 b.1 b.2.1 b.2.2, timL a.1 a.2.1 a.2.2 b.1 b.2.1 b.2.2)
def nearT (a b : Tri) (r : Int) : Bool := leI (nrm (a.1 - b.1) (a.2.1 - b.2.1)) (r * r)
def sumF (n : Int) : Nat → Int → Tri → Option Tri
  | 0, _, s => some s
  | t + 1, i, s => match unitF i n with
    | some u => match plusF s u with
      | some s' => sumF n t (i + 1) s'
      | none => none
    | none => none
def oneT : Tri := (1048576, 0, 0)
def powF (u : Tri) : Nat → Tri → Option (List Tri)
  | 0, _ => some []
  | t + 1, p => match timF p u with
    | some q => match powF u t q with
      | some l => some (q :: l)
      | none => none
    | none => none
def rootW (t : Tri) : Int := isq ((isq (nrm t.1 t.2.1) + t.1.natAbs) * 524288)
def rootO (t : Tri) : Int := quoI (bif ltI t.1 0 then t.2.1.natAbs else t.2.1) 1048576 (2 * rootW t)
def rootR (t : Tri) : Int := ceilI (t.2.2 * 1048576) (isq (isq (nrm t.1 t.2.1) * 1048576)) + 3 + ceilI 1048576 (rootW t)
/-- The root of a ball above the real line, or of a positive real part. -/
def rootF (t : Tri) : Option Tri := bif ltI t.2.2 (isq (nrm t.1 t.2.1)) && (leI 0 t.1 || (leI 0 t.2.1 && ltI t.2.2 t.2.1)) then (bif ltI t.1 0 then fitT (rootO t, rootW t, rootR t) else fitT (rootW t, rootO t, rootR t)) else none
def lastT : Tri → List Tri → Tri
  | t, [] => t
  | _, t :: l => lastT t l
def chkS (n : Nat) : Bool := match sumF n n 0 (0, 0, 0) with
  | some s => nearT (0, 0, 0) s s.2.2
  | none => false
def chkP (n : Nat) (k : Int) : Bool := match unitF k n with
  | some u => match powF u n oneT with
    | some l => nearT oneT (lastT oneT l) (lastT oneT l).2.2
    | none => false
  | none => false
def chkR (n : Nat) (k : Int) : Bool := match unitF k n, unitF k (2 * n) with
  | some u, some h => match rootF u with
    | some r => nearT r h (r.2.2 + h.2.2)
    | none => false
  | _, _ => false
def chkK (n : Nat) : Nat → Bool
  | 0 => true
  | k + 1 => chkK n k && (chkP n k && (bif Nat.blt (2 * k + 1) n then chkR n k else true))
def chkN (n : Nat) : Bool := chkS n && chkK n n
def chkA : Nat → Bool
  | 0 => true
  | 1 => true
  | n + 1 => chkA n && chkN (n + 1)
end Go.Ex

