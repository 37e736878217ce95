/-
  Summaries of this seat's functions that part: Stokes vectors, light behind a matrix, products of Mueller matrices.
-/
import Derived.Test.YtcggbkocpahkdaaPoD
namespace Go.Ex
open Go Go.Proofs Go.RowKit
noncomputable section

def pv (v : Nat) : Poly := pvar v
/-- The sum of the products of k variables from a on by steps of s, with k variables from b on by steps of t. -/
def dotP : Nat → Nat → Nat → Nat → Nat → Poly
  | 0, _, _, _, _ => []
  | k + 1, a, s, b, t => pplus (ptimes (pvar a) (pvar b)) (dotP k (a + s) s (b + t) t)
/-- A matrix times a vector: rows from a on, the vector from b on. -/
def mulV : Nat → Nat → Nat → List Poly
  | 0, _, _ => []
  | k + 1, a, b => dotP 4 a 1 b 1 :: mulV k (a + 4) b
def rowP : Nat → Nat → Nat → List Poly
  | 0, _, _ => []
  | k + 1, a, b => dotP 4 a 1 b 4 :: rowP k a (b + 1)
def mulM : Nat → Nat → Nat → List Poly
  | 0, _, _ => []
  | k + 1, a, b => rowP 4 a b ++ mulM k (a + 4) b
def pIs : List Poly → List Sc
  | [] => []
  | p :: l => .int .i64 (.poly p) :: pIs l
/-- The squares of the last three of four variables. -/
def restP (v : Nat) : Poly := dotP 3 (v + 1) 1 (v + 1) 1
def fsStokes (v : Nat) (ok : Prt) (range break_ : Prt) : Prt :=
  .small 1000000000 (idP v 4) (.lt (pvar v) [] break_ (.lt (ptimes (pvar v) (pvar v)) (restP v) break_ ok)) range
def fsCS : Prt := fsStokes 0 (.leaf (lI 0)) (.leaf (lI 2)) (.leaf (lI 24))
def fsThr : Prt := .small 1000000000 (mulV 4 0 16) (.leaf (eI (pIs (mulV 4 0 16)) 0)) (.leaf (eI (zs 4) 8))
def fsThrough : Prt := .small 1000000000 (idP 0 16) (fsStokes 16 fsThr (.leaf (eI (zs 4) 2)) (.leaf (eI (zs 4) 24))) (.leaf (eI (zs 4) 2))
def fsJoi : Prt := .small 1000000000 (mulM 4 0 16) (.leaf (eI (pIs (mulM 4 0 16)) 0)) (.leaf (eI (zs 16) 8))
def fsJoined : Prt := .small 1000000000 (idP 0 16) (.small 1000000000 (idP 16 16) fsJoi (.leaf (eI (zs 16) 2))) (.leaf (eI (zs 16) 2))

theorem f_CheckStokes {η : Env} (hg : GoodF η) : SumOk Try.prog η 58 (gFN [(true, qI 4)] [] fsCS) :=
  fs_sumN (C := mkC smD) (n := 3000) (okC smD_ok) Try.fok58 (by kernel_rfl) (by kernel_rfl) hg
theorem f_CheckStokes' {η : Env} (hg : GoodF η) : SumOk Try.prog η 57 (gFN [(true, qI 4)] [] fsCS) :=
  fs_sumN (C := mkC smD) (n := 3000) (okC smD_ok) Try.fok57 (by kernel_rfl) (by kernel_rfl) hg
def smE0 : T (List Sv → PC → Tree (Sv × PC)) := (smD.set 58 (some (gFN [(true, qI 4)] [] fsCS))).set 57 (some (gFN [(true, qI 4)] [] fsCS))
theorem smE0_ok {η : Env} (hg : GoodF η) : SumsOk Try.prog η smE0 := ((smD_ok hg).set (by decide) (f_CheckStokes hg)).set (by decide) (f_CheckStokes' hg)
theorem f_Through {η : Env} (hg : GoodF η) : SumOk Try.prog η 67 (gFN [(true, qI 16), (true, qI 4)] [] fsThrough) :=
  fs_sumN (C := mkC smE0) (n := 3000) (okC smE0_ok) Try.fok67 (by kernel_rfl) (by kernel_rfl) hg
theorem f_Through' {η : Env} (hg : GoodF η) : SumOk Try.prog η 73 (gFN [(true, qI 16), (true, qI 4)] [(1000000000, idP 0 16), (1000000000, idP 16 4)] fsThr) :=
  fs_sumN (C := mkC smE0) (n := 3000) (okC smE0_ok) Try.fok73 (by kernel_rfl) (by kernel_rfl) hg
theorem f_Joined {η : Env} (hg : GoodF η) : SumOk Try.prog η 70 (gFN [(true, qI 16), (true, qI 16)] [] fsJoined) :=
  fs_sumN (C := mkC smE0) (n := 3000) (okC smE0_ok) Try.fok70 (by kernel_rfl) (by kernel_rfl) hg
theorem f_Joined' {η : Env} (hg : GoodF η) : SumOk Try.prog η 74 (gFN [(true, qI 16), (true, qI 16)] [(1000000000, idP 0 16), (1000000000, idP 16 16)] fsJoi) :=
  fs_sumN (C := mkC smE0) (n := 3000) (okC smE0_ok) Try.fok74 (by kernel_rfl) (by kernel_rfl) hg
def smE : T (List Sv → PC → Tree (Sv × PC)) :=
  (((smE0.set 67 (some (gFN [(true, qI 16), (true, qI 4)] [] fsThrough))).set 73 (some (gFN [(true, qI 16), (true, qI 4)] [(1000000000, idP 0 16), (1000000000, idP 16 4)] fsThr))).set 70 (some (gFN [(true, qI 16), (true, qI 16)] [] fsJoined))).set 74 (some (gFN [(true, qI 16), (true, qI 16)] [(1000000000, idP 0 16), (1000000000, idP 16 16)] fsJoi))
theorem smE_ok {η : Env} (hg : GoodF η) : SumsOk Try.prog η smE :=
  ((((smE0_ok hg).set (by decide) (f_Through hg)).set (by decide) (f_Through' hg)).set (by decide) (f_Joined hg)).set (by decide) (f_Joined' hg)

end
end Go.Ex
