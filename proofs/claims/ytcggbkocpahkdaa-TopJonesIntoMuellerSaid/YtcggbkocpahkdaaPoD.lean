/-
  Summaries of this seat's functions that part: checks of waves and matrices; results that may be too large.
-/
import Derived.Test.YtcggbkocpahkdaaEx28
import Derived.Test.YtcggbkocpahkdaaPoC
namespace Go.Ex
open Go Go.Proofs Go.RowKit
noncomputable section

def cI (n : Int) : Sc := .int .i64 (.lit n)
def vI (v : Nat) : Sc := .int .i64 (.poly (pvar v))
def lI (n : Int) : Sv := .one (cI n)
def vFs : Nat → Nat → List Sc
  | _, 0 => []
  | k, n + 1 => vI (vF k) :: vFs (k + 1) n
def zs : Nat → List Sc
  | 0 => []
  | n + 1 => cI 0 :: zs n
def zcs : Nat → List Sc
  | 0 => []
  | n + 1 => .cpx .f64 (.lit 0) (.lit 0) :: zcs n
def vCs : Nat → Nat → List Sc
  | _, 0 => []
  | v, n + 1 => .cpx .f64 (.ofI (pvar v)) (.ofI (pvar (v + 1))) :: vCs (v + 2) n
def nats : Nat → Nat → List Nat
  | _, 0 => []
  | v, n + 1 => v :: nats (v + 1) n
def eI (l : List Sc) (n : Int) : Sv := .tup [(true, l), (false, [cI n])]
def qI (n : Nat) : List AK := List.replicate n .i

def fsCheck (n : Nat) : Prt := .code 1000 (nats 0 n) (.leaf (lI 0)) (.leaf (lI 27)) (.leaf (lI 2))
def fsRead (n : Nat) : Prt := .code 1000 (nats 0 n) (.leaf (eI (vFs 0 n) 0)) (.leaf (eI (zs n) 27)) (.leaf (eI (zs n) 2))
def fsBack (n : Nat) : Prt := .small 1000 (idP 0 (n + n)) (.leaf (eI (vCs 0 n) 0)) (.leaf (eI (zcs n) 8))
def big : Int := 4611686018427387904
def fsMu : Prt := .small 1000000000 (idP 0 16) (.leaf (lI 0)) (.leaf (lI 2))
def fsLim (m : Int) : Prt := .small 1000000000 (idP 0 16) (.small m (idP 0 16) (.leaf (lI 0)) (.leaf (lI 8))) (.leaf (lI 2))
def fsAll (m : Int) : Prt := .small m (idP 0 16) (.leaf (.one (.bool (.lit true)))) (.leaf (.one (.bool (.lit false))))
def fsBey (m : Int) : Prt := .small m (idP 0 16) (.leaf (.one (.bool (.lit false)))) (.leaf (.one (.bool (.lit true))))

theorem okC {sm : T (List Sv → PC → Tree (Sv × PC))} (h : ∀ {η : Env}, GoodF η → SumsOk Try.prog η sm) : ∀ η, GoodF η → (mkC sm).Ok Try.prog η := fun _ hg => mkC_ok hg (h hg)

theorem f_CheckVector {η : Env} (hg : GoodF η) : SumOk Try.prog η 34 (gFN [(true, [.c, .c])] [] (fsCheck 4)) :=
  fs_sumN (C := mkC sm5) (n := 3000) (okC sm5_ok) Try.fok34 (by kernel_rfl) (by kernel_rfl) hg
theorem f_CheckJones {η : Env} (hg : GoodF η) : SumOk Try.prog η 35 (gFN [(true, [.c, .c, .c, .c])] [] (fsCheck 8)) :=
  fs_sumN (C := mkC sm5) (n := 3000) (okC sm5_ok) Try.fok35 (by kernel_rfl) (by kernel_rfl) hg
theorem f_ReadWave {η : Env} (hg : GoodF η) : SumOk Try.prog η 33 (gFN [(true, [.c, .c])] [] (fsRead 4)) :=
  fs_sumN (C := mkC sm5) (n := 3000) (okC sm5_ok) Try.fok33 (by kernel_rfl) (by kernel_rfl) hg
theorem f_ReadMatrix {η : Env} (hg : GoodF η) : SumOk Try.prog η 26 (gFN [(true, [.c, .c, .c, .c])] [] (fsRead 8)) :=
  fs_sumN (C := mkC sm5) (n := 3000) (okC sm5_ok) Try.fok26 (by kernel_rfl) (by kernel_rfl) hg
theorem f_jones {η : Env} (hg : GoodF η) : SumOk Try.prog η 99 (gFN [(true, qI 8)] [] (fsBack 4)) :=
  fs_sumN (C := mkC sm5) (n := 3000) (okC sm5_ok) Try.fok99 (by kernel_rfl) (by kernel_rfl) hg
theorem f_BackMatrix {η : Env} (hg : GoodF η) : SumOk Try.prog η 27 (gFN [(true, qI 8)] [(big, idP 0 8)] (fsBack 4)) :=
  fs_sumN (C := mkC sm5) (n := 3000) (okC sm5_ok) Try.fok27 (by kernel_rfl) (by kernel_rfl) hg
theorem f_BackWave {η : Env} (hg : GoodF η) : SumOk Try.prog η 37 (gFN [(true, qI 4)] [(big, idP 0 4)] (fsBack 2)) :=
  fs_sumN (C := mkC sm5) (n := 3000) (okC sm5_ok) Try.fok37 (by kernel_rfl) (by kernel_rfl) hg
theorem f_CheckMueller {η : Env} (hg : GoodF η) : SumOk Try.prog η 72 (gFN [(true, qI 16)] [] fsMu) :=
  fs_sumN (C := mkC sm5) (n := 3000) (okC sm5_ok) Try.fok72 (by kernel_rfl) (by kernel_rfl) hg
theorem f_CheckMueller' {η : Env} (hg : GoodF η) : SumOk Try.prog η 52 (gFN [(true, qI 16)] [] fsMu) :=
  fs_sumN (C := mkC sm5) (n := 3000) (okC sm5_ok) Try.fok52 (by kernel_rfl) (by kernel_rfl) hg
theorem f_allSmall {η : Env} (hg : GoodF η) (m : Int) (hm : m = 1000000000 ∨ m = 40) : SumOk Try.prog η 131 (gFN [(true, qI 16), (false, [.k m])] [] (fsAll m)) := by
  rcases hm with rfl | rfl
  · exact fs_sumN (C := mkC sm5) (n := 3000) (okC sm5_ok) Try.fok131 (by kernel_rfl) (by kernel_rfl) hg
  · exact fs_sumN (C := mkC sm5) (n := 3000) (okC sm5_ok) Try.fok131 (by kernel_rfl) (by kernel_rfl) hg

theorem f_allSmall7 {η : Env} (hg : GoodF η) : SumOk Try.prog η 131 (gFN [(true, qI 16), (false, [.k 10000000])] [] (fsAll 10000000)) :=
  fs_sumN (C := mkC sm5) (n := 3000) (okC sm5_ok) Try.fok131 (by kernel_rfl) (by kernel_rfl) hg
theorem f_beyond {η : Env} (hg : GoodF η) : SumOk Try.prog η 96 (gFN [(true, qI 16), (false, [.k 40])] [(1000000000, idP 0 16)] (fsBey 40)) :=
  fs_sumN (C := mkC sm5) (n := 3000) (okC sm5_ok) Try.fok96 (by kernel_rfl) (by kernel_rfl) hg
theorem f_beyond7 {η : Env} (hg : GoodF η) : SumOk Try.prog η 96 (gFN [(true, qI 16), (false, [.k 10000000])] [(1000000000, idP 0 16)] (fsBey 10000000)) :=
  fs_sumN (C := mkC sm5) (n := 3000) (okC sm5_ok) Try.fok96 (by kernel_rfl) (by kernel_rfl) hg

def smD : T (List Sv → PC → Tree (Sv × PC)) :=
  (((((((((((sm5.set 20 (some (gLit [] (.one (.bool (.lit true)))))).set 34 (some (gFN [(true, [.c, .c])] [] (fsCheck 4)))).set 35 (some (gFN [(true, [.c, .c, .c, .c])] [] (fsCheck 8)))).set 33 (some (gFN [(true, [.c, .c])] [] (fsRead 4)))).set 26 (some (gFN [(true, [.c, .c, .c, .c])] [] (fsRead 8)))).set 99 (some (gFN [(true, qI 8)] [] (fsBack 4)))).set 27 (some (gFN [(true, qI 8)] [(big, idP 0 8)] (fsBack 4)))).set 37 (some (gFN [(true, qI 4)] [(big, idP 0 4)] (fsBack 2)))).set 72 (some (gFN [(true, qI 16)] [] fsMu))).set 52 (some (gFN [(true, qI 16)] [] fsMu))).set 131 (some (gOr (gFN [(true, qI 16), (false, [.k 1000000000])] [] (fsAll 1000000000)) (gOr (gFN [(true, qI 16), (false, [.k 40])] [] (fsAll 40)) (gFN [(true, qI 16), (false, [.k 10000000])] [] (fsAll 10000000)))))).set 96 (some (gOr (gFN [(true, qI 16), (false, [.k 40])] [(1000000000, idP 0 16)] (fsBey 40)) (gFN [(true, qI 16), (false, [.k 10000000])] [(1000000000, idP 0 16)] (fsBey 10000000))))
theorem smD_ok {η : Env} (hg : GoodF η) : SumsOk Try.prog η smD :=
  ((((((((((((sm5_ok hg).set (by decide) (s_awake hg)).set (by decide) (f_CheckVector hg)).set (by decide) (f_CheckJones hg)).set (by decide) (f_ReadWave hg)).set (by decide) (f_ReadMatrix hg)).set (by decide) (f_jones hg)).set (by decide) (f_BackMatrix hg)).set (by decide) (f_BackWave hg)).set (by decide) (f_CheckMueller hg)).set (by decide) (f_CheckMueller' hg)).set (by decide) (gOr_ok (f_allSmall hg _ (.inl rfl)) (gOr_ok (f_allSmall hg _ (.inr rfl)) (f_allSmall7 hg)))).set (by decide) (gOr_ok (f_beyond hg) (f_beyond7 hg))

end
end Go.Ex
