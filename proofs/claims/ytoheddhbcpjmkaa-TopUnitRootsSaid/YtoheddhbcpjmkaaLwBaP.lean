/-
  The executor's summaries of the whole-number functions of balls; the names at canonical arguments of Times and Quotient.
-/
import Derived.Test.YtoheddhbcpjmkaaPoAb
import Derived.Test.YtoheddhbcpjmkaaEx33
import Derived.Test.YtoheddhbcpjmkaaLwBaU

/- The runs of Times and Quotient at canonical arguments. -/
/-
  The summaries of the whole-number functions are right; Times and Quotient of balls, by values.
-/

namespace Go.Ex
open Go Go.Proofs
noncomputable section
def big60 : Int := 1152921504606846976
def big62 : Int := 4611686018427387904
def smB (Z : Nm) : T (List Sv → PC → Tree (Sv × PC)) :=
  ((((((smA.set 30 (some (gOp2 2 4 [(-big60, big60), (1, big60)] Z))).set 31 (some (gOp 5 [(-big62, big62), (1, big62)] Z))).set 58 (some (gOp 6 [(0, 9007199254740992)] Z))).set 51 (some (gOp 7 [(0, 9007199254740992)] Z))).set 37 (some (gOp2 8 9 [(-18014398509481984, 18014398509481984), (0, 2097152), (1, 18014398509481984)] Z))).set 39 (some (gOp 10 [(0, big62), (0, 2097152), (1, 18014398509481984)] Z))).set 33 (some (gOne Z))
def mC (Z : Nm) : Cx := mkC (smB Z)
def oneP : Poly := [([], 1048576)]
def ballS (v : Nat) : Sv := .agg [.cpx .f64 (.ofI (pvar v)) (.ofI (pvar (v + 1))), .int .i64 (.poly (pvar (v + 2)))]
def upTo (v : Nat) (lo hi : Int) : PC := [(.pos (pminus (pvar v) (pconst hi)), false), (.pos (pminus (pconst lo) (pvar v)), false)]
def bndB (v : Nat) : PC := upTo v (-maxB) maxB ++ (upTo (v + 1) (-maxB) maxB ++ upTo (v + 2) 0 maxB)
def argB : PC := bndB 0 ++ bndB 3
def nP (x y : Nat) : Poly := pplus (ptimes (pvar x) (pvar x)) (ptimes (pvar y) (pvar y))
def tRe : Poly := pminus (ptimes (pvar 0) (pvar 3)) (ptimes (pvar 1) (pvar 4))
def tIm : Poly := pplus (ptimes (pvar 0) (pvar 4)) (ptimes (pvar 1) (pvar 3))
def tCl : Poly := pplus (pplus (ptimes (pvar 104) (pvar 5)) (ptimes (pvar 105) (pvar 2))) (ptimes (pvar 2) (pvar 5))
def tD : Dtab := [(100, 2, [tRe, oneP]), (101, 4, [tRe, oneP]), (102, 2, [tIm, oneP]), (103, 4, [tIm, oneP]), (104, 6, [nP 0 1]), (105, 6, [nP 3 4]), (106, 5, [tCl, oneP]), (107, 3, [pvar 101, pvar 103])]
def tX : XTab' := [(100, argB, upTo 100 (-34359738368) 34359738368), (102, argB, upTo 102 (-34359738368) 34359738368), (104, argB, upTo 104 0 134217728), (105, argB, upTo 105 0 134217728), (106, argB ++ (upTo 104 0 134217728 ++ upTo 105 0 134217728), upTo 106 0 34359738368), (107, [], upTo 107 0 1)]
def tZ : Nm := ⟨tD, tX, fun _ _ => true⟩
def okS (a b : Nat) (p : Poly) : Sv := .tup [(true, [.cpx .f64 (.ofI (pvar a)) (.ofI (pvar b)), .int .i64 (.poly p)]), (false, [.int .i64 (.lit 0)])]
def erS (n : Int) : Sv := .tup [(true, [.cpx .f64 (.lit 0) (.lit 0), .int .i64 (.lit 0)]), (false, [.int .i64 (.lit n)])]
def tRun : Tree (Sv × St) := callE (mC tZ) (drawX (mC tZ)) 3000 (FI.of Try.f9 true) [ballS 0, ballS 3] (stP argB)
def tOk (r : Sv × St) : Bool := mOk 67108864 [pvar 100, pvar 102, pplus (pvar 106) (pvar 107)] (okS 100 102 (pplus (pvar 106) (pvar 107))) (erS 8) (r.1, r.2.pc) && below 0 r.1
def qRe : Poly := pplus (ptimes (pvar 0) (pvar 3)) (ptimes (pvar 1) (pvar 4))
def qIm : Poly := pminus (ptimes (pvar 1) (pvar 3)) (ptimes (pvar 0) (pvar 4))
def qN : Poly := pplus (ptimes (pvar 2) (pvar 105)) (ptimes (pvar 104) (pvar 5))
def qDn : Poly := ptimes (pminus (pvar 106) (pvar 5)) (pvar 106)
def qD : Dtab := [(100, 8, [qRe, oneP, nP 3 4]), (101, 9, [qRe, oneP, nP 3 4]), (102, 8, [qIm, oneP, nP 3 4]), (103, 9, [qIm, oneP, nP 3 4]), (104, 6, [nP 0 1]), (105, 6, [nP 3 4]), (106, 7, [nP 3 4]), (107, 10, [qN, oneP, qDn]), (108, 3, [pvar 101, pvar 103])]
def qZ : Nm := ⟨qD, [], fun _ _ => true⟩
def qNames : PC := upTo 100 (-2147483648) 2147483648 ++ (upTo 102 (-2147483648) 2147483648 ++ (upTo 104 0 134217728 ++ (upTo 105 0 134217728 ++ (upTo 106 0 134217728 ++ (upTo 107 0 2147483648 ++ upTo 108 0 1)))))
def qLt : Poly := pminus (pvar 106) (pvar 5)
def qPcA : PC := (.pos qLt, false) :: (upTo 106 0 134217728 ++ argB)
def qPcB : PC := (.pos qLt, true) :: (.pos (nP 3 4), true) :: (.pos (pminus (nP 3 4) (pconst 9007199254740992)), false) :: (.pos qDn, true) :: (.pos (pminus qDn (pconst 18014398509481984)), false) :: (qNames ++ argB)
def qRun (pc : PC) : Tree (Sv × St) := callE (mC qZ) (drawX (mC qZ)) 3000 (FI.of Try.f11 true) [ballS 0, ballS 3] (stP pc)
def qOkA (r : Sv × St) : Bool := svEq r.1 (erS 9) && below 0 r.1
def qOkB (r : Sv × St) : Bool := mOk 67108864 [pvar 100, pvar 102, pplus (pvar 107) (pvar 108)] (okS 100 102 (pplus (pvar 107) (pvar 108))) (erS 8) (r.1, r.2.pc) && below 0 r.1
/-- Sums, differences: no names. -/
def zZ : Nm := ⟨[], [], fun _ _ => true⟩
def aRun (f : FI) : Tree (Sv × St) := callE (mC zZ) (drawX (mC zZ)) 3000 f [ballS 0, ballS 3] (stP argB)
def aOk (g : Poly → Poly → Poly) (r : Sv × St) : Bool :=
  let s : Sv := .tup [(true, [.cpx .f64 (.ofI (g (pvar 0) (pvar 3))) (.ofI (g (pvar 1) (pvar 4))), .int .i64 (.poly (pplus (pvar 2) (pvar 5)))]), (false, [.int .i64 (.lit 0)])]
  mOk 67108864 [g (pvar 0) (pvar 3), g (pvar 1) (pvar 4), pplus (pvar 2) (pvar 5)] s (erS 8) (r.1, r.2.pc) && below 0 r.1
end
end Go.Ex


namespace Go.Ex
open Go Go.Proofs
set_option maxRecDepth 100000
theorem tRunOk : tRun.all tOk = true := by kernel_rfl
theorem qRunA : (qRun qPcA).all qOkA = true := by kernel_rfl
theorem qRunB : (qRun qPcB).all qOkB = true := by kernel_rfl
end Go.Ex


namespace Go.Ex
open Go Go.Proofs Go.RowKit
theorem mulLe {x y A B : Int} (h1 : -A ≤ x ∧ x ≤ A) (h2 : -B ≤ y ∧ y ≤ B) : -(A * B) ≤ x * y ∧ x * y ≤ A * B := by
  have hx : (x.natAbs : Int) ≤ A := by omega
  have hy : (y.natAbs : Int) ≤ B := by omega
  have h := Int.mul_le_mul hx hy (by omega) (by omega)
  have e : ((x * y).natAbs : Int) = x.natAbs * y.natAbs := by rw [Int.natAbs_mul, Int.natCast_mul]
  omega
theorem divLe {x d A : Int} (hd : 0 < d) (h : -(A * d) ≤ x ∧ x ≤ A * d) : -A ≤ x / d ∧ x / d ≤ A :=
  ⟨(Int.le_ediv_iff_mul_le hd).2 (by rw [Int.neg_mul]; exact h.1), Int.le_of_lt_add_one ((Int.ediv_lt_iff_lt_mul hd).2 (by rw [Int.add_mul]; omega))⟩
theorem ediv_abs (x d : Int) : -(x.natAbs : Int) ≤ x / d ∧ x / d ≤ x.natAbs := by
  have := Int.natAbs_ediv_le_natAbs x d
  omega
theorem emod_bnd {x d : Int} (hd : 0 < d) : 0 ≤ x % d ∧ x % d < d := ⟨Int.emod_nonneg x (by omega), Int.emod_lt_of_pos x hd⟩
theorem bndL1 {b : Int × Int} {xs : List Int} (h : bndL [b] xs) : ∃ x, xs = [x] ∧ b.1 ≤ x ∧ x ≤ b.2 := by
  match xs, h with
  | [x], h => exact ⟨x, rfl, h.1, h.2.1⟩
theorem bndL2 {b c : Int × Int} {xs : List Int} (h : bndL [b, c] xs) : ∃ x y, xs = [x, y] ∧ (b.1 ≤ x ∧ x ≤ b.2) ∧ c.1 ≤ y ∧ y ≤ c.2 := by
  match xs, h with
  | [x, y], h => exact ⟨x, y, rfl, ⟨h.1, h.2.1⟩, h.2.2.1, h.2.2.2.1⟩
theorem bndL3 {b c d : Int × Int} {xs : List Int} (h : bndL [b, c, d] xs) : ∃ x y z, xs = [x, y, z] ∧ (b.1 ≤ x ∧ x ≤ b.2) ∧ (c.1 ≤ y ∧ y ≤ c.2) ∧ d.1 ≤ z ∧ z ≤ d.2 := by
  match xs, h with
  | [x, y, z], h => exact ⟨x, y, z, rfl, ⟨h.1, h.2.1⟩, ⟨h.2.2.1, h.2.2.2.1⟩, h.2.2.2.2.1, h.2.2.2.2.2.1⟩
theorem gives_of {f : FuncId} {fi : FI} (hf : FI.Ok Try.prog f fi) {args : Array Value} {w : World} {v : Value} (h : Calls Try.prog f args w fun e w' => e = .returned v ∧ Below w.heap.size w w') : Gives Try.prog f args w v := .inr ⟨run_callFunc hf _ w, h⟩
theorem below_eq {f : FuncId} {args : Array Value} {w : World} {v : Value} (h : Calls Try.prog f args w fun e w' => e = .returned v ∧ w = w') : Calls Try.prog f args w fun e w' => e = .returned v ∧ Below w.heap.size w w' :=
  h.mono fun _ _ ⟨a, b⟩ => ⟨a, b ▸ Below.refl _ _⟩
theorem below_ex {f : FuncId} {args : Array Value} {w : World} {v : Value} (h : Calls Try.prog f args w fun e w' => e = .returned v ∧ ∃ m, w' = w.drewN m) : Calls Try.prog f args w fun e w' => e = .returned v ∧ Below w.heap.size w w' :=
  h.mono fun _ _ ⟨a, m, b⟩ => ⟨a, b ▸ below_drw w m⟩
theorem rnd_big {n d : Int} (hn : -1152921504606846976 ≤ n ∧ n ≤ 1152921504606846976) (hd : 0 < d ∧ d ≤ 1152921504606846976) : -4611686018427387904 ≤ rndI n d ∧ rndI n d ≤ 4611686018427387904 := by
  have := ediv_abs (2 * n + d) (2 * d)
  unfold rndI
  omega
theorem ceil_big {n d : Int} (hn : -4611686018427387904 ≤ n ∧ n ≤ 4611686018427387904) : -4611686018427387904 ≤ ceilI n d ∧ ceilI n d ≤ 4611686018427387904 := by
  have := ediv_abs (-n) d
  unfold ceilI
  omega
theorem isq_big {n : Int} (h : 0 ≤ n ∧ n ≤ 9007199254740992) : 0 ≤ isq n ∧ isq n ≤ 134217728 ∧ 0 ≤ isqU n ∧ isqU n ≤ 134217728 :=
  ⟨(isq_spec h.1 (by omega)).1, isq_le h.1 (by omega) (by omega) (by omega), (isqU_spec h.1 (by omega)).1, isqU_le h.1 (by omega) (by omega) (by omega)⟩
theorem quo_big {n m d : Int} (hm : 0 ≤ m) (hd : 0 ≤ d) : -2147483648 ≤ quoI n m d ∧ quoI n m d ≤ 2147483648 := by
  have h0 : 0 ≤ (n.natAbs * m) / d := Int.ediv_nonneg (Int.mul_nonneg (by omega) hm) hd
  unfold quoI
  simp only
  generalize (n.natAbs * m) / d = u at *
  generalize (n.natAbs * m) % d = r at *
  split
  · omega
  · split
    · split <;> omega
    · split <;> omega
theorem flg_big (n m d : Int) : 0 ≤ flgI n m d ∧ flgI n m d ≤ 1 := by
  unfold flgI
  split
  · omega
  · split <;> omega
theorem quu_big {n m d : Int} (h0 : 0 ≤ n * m) (hd : 0 ≤ d) : 0 ≤ quuI n m d ∧ quuI n m d ≤ 2147483648 := by
  have h0 : 0 ≤ (n * m) / d := Int.ediv_nonneg h0 hd
  unfold quuI
  generalize (n * m) / d = u at *
  generalize (n * m) % d = r at *
  split
  · omega
  · split <;> omega
theorem wr_mid {x : Int} (h : -9223372036854775807 ≤ x ∧ x ≤ 9223372036854775807) : wr x = x := wr_in (by omega)
section
variable {η : Env} (hg : GoodF η) {Z : Nm} (hD : DOk η Z.D) (hX : XOk' η Z.X)
include hg hD hX
theorem s_rnd : SumOk Try.prog η 30 (gOp2 2 4 [(-big60, big60), (1, big60)] Z) := gOp2_ok hg hD hX fun xs h w => by
  obtain ⟨n, d, rfl, h1, h2⟩ := bndL2 h
  simp only [big60] at h1 h2
  have hd : 0 < d ∧ d ≤ 1152921504606846976 := by omega
  have := emod_bnd (x := n) hd.1
  have := rnd_big h1 hd
  exact ⟨gives_of Try.fok30 (rounded_any n d w h1 hd), wr_mid (by simp only [semD]; omega), wr_mid (by simp only [semD]; omega)⟩
theorem s_ceil : SumOk Try.prog η 31 (gOp 5 [(-big62, big62), (1, big62)] Z) := gOp_ok hg hD hX fun xs h w => by
  obtain ⟨n, d, rfl, h1, h2⟩ := bndL2 h
  simp only [big62] at h1 h2
  have hd : 0 < d ∧ d ≤ 4611686018427387904 := by omega
  have := ceil_big (d := d) h1
  exact ⟨gives_of Try.fok31 (below_eq (ceil_any n d w h1 hd)), wr_mid (by simp only [semD]; omega)⟩
theorem s_isqU : SumOk Try.prog η 58 (gOp 6 [(0, 9007199254740992)] Z) := gOp_ok hg hD hX fun xs h w => by
  obtain ⟨n, rfl, h1⟩ := bndL1 h
  have := isq_big h1
  exact ⟨gives_of Try.fok58 (below_ex (rootUp_any n w h1.1 h1.2)), wr_mid (by simp only [semD]; omega)⟩
theorem s_isq : SumOk Try.prog η 51 (gOp 7 [(0, 9007199254740992)] Z) := gOp_ok hg hD hX fun xs h w => by
  obtain ⟨n, rfl, h1⟩ := bndL1 h
  have := isq_big h1
  exact ⟨gives_of Try.fok51 (below_ex (root_any n w h1.1 h1.2)), wr_mid (by simp only [semD]; omega)⟩
theorem s_quo : SumOk Try.prog η 37 (gOp2 8 9 [(-18014398509481984, 18014398509481984), (0, 2097152), (1, 18014398509481984)] Z) := gOp2_ok hg hD hX fun xs h w => by
  obtain ⟨n, m, d, rfl, h1, h2, h3⟩ := bndL3 h
  simp only at h1 h2 h3
  have := quo_big (n := n) (m := m) (d := d) (by omega) (by omega)
  have := flg_big n m d
  exact ⟨gives_of Try.fok37 (quot_any n m d _ _ w (by omega) h2 (by omega) ⟨rfl, rfl⟩), wr_mid (by simp only [semD]; omega), wr_mid (by simp only [semD]; omega)⟩
theorem s_quu : SumOk Try.prog η 39 (gOp 10 [(0, big62), (0, 2097152), (1, 18014398509481984)] Z) := gOp_ok hg hD hX fun xs h w => by
  obtain ⟨n, m, d, rfl, h1, h2, h3⟩ := bndL3 h
  simp only [big62] at h1 h2 h3
  have := quu_big (n := n) (m := m) (d := d) (Int.mul_nonneg (by omega) (by omega)) (by omega)
  exact ⟨gives_of Try.fok39 (quotUp_any n m d w h1 h2 (by omega)), wr_mid (by simp only [semD]; omega)⟩
theorem s_one : SumOk Try.prog η 33 (gOne Z) := gOne_ok hg hD hX fun b w => gives_of Try.fok33 (below_eq (one_any b w))
theorem smB_ok : SumsOk Try.prog η (smB Z) :=
  (((((((smA_ok hg).set (by decide) (s_rnd hg hD hX)).set (by decide) (s_ceil hg hD hX)).set (by decide) (s_isqU hg hD hX)).set (by decide) (s_isq hg hD hX)).set (by decide) (s_quo hg hD hX)).set (by decide) (s_quu hg hD hX)).set (by decide) (s_one hg hD hX)
theorem mC_ok : (mC Z).Ok Try.prog η := mkC_ok hg (smB_ok hg hD hX)
end
end Go.Ex


