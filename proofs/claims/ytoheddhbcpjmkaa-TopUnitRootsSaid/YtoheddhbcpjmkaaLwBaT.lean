/-
  Times and Quotient of balls, by values: what they answer for any whole numbers within the bounds of a ball.
-/
import Derived.Test.YtoheddhbcpjmkaaLwBaP

/-
  Quotient of balls, by values.
-/

namespace Go.Ex
open Go Go.Proofs Go.RowKit
def ballV (a b c : Int) : Value := .agg #[.complex .f64 (FloatKind.f64.nearest a) (FloatKind.f64.nearest b), .int .i64 c]
def outV (g : Nat → Int) : Value := .tuple #[ballV (g 0) (g 1) (g 2), .int .i64 (g 3)]
def uuB : Nat → List Int → Bool := fun _ _ => false
/-- The six numbers of two balls, as the arguments of a law. -/
def six (a b c d e f : Int) : List (Bool × List Value) := [(true, [.int .i64 a, .int .i64 b, .int .i64 c]), (true, [.int .i64 d, .int .i64 e, .int .i64 f])]
def BIn (a b c : Int) : Prop := (-67108864 ≤ a ∧ a ≤ 67108864) ∧ (-67108864 ≤ b ∧ b ≤ 67108864) ∧ 0 ≤ c ∧ c ≤ 67108864
theorem six_ok {a b c d e f : Int} (h1 : BIn a b c) (h2 : BIn d e f) : ArgsOk [(true, [.i, .i, .i]), (true, [.i, .i, .i])] (six a b c d e f) := by
  obtain ⟨p1, p2, p3⟩ := h1
  obtain ⟨q1, q2, q3⟩ := h2
  exact ⟨rfl, ⟨⟨a, rfl, by omega, by omega⟩, ⟨b, rfl, by omega, by omega⟩, ⟨c, rfl, by omega, by omega⟩, trivial⟩, (fun h => by cases h), rfl, ⟨⟨d, rfl, by omega, by omega⟩, ⟨e, rfl, by omega, by omega⟩, ⟨f, rfl, by omega, by omega⟩, trivial⟩, (fun h => by cases h), trivial⟩
/-- What is so of the environment of two balls with names. -/
structure SixEnv (η : Env) (a b c d e f : Int) (D : Dtab) : Prop where
  g : GoodF η
  D : DOk η D
  v0 : η.i 0 = a
  v1 : η.i 1 = b
  v2 : η.i 2 = c
  v3 : η.i 3 = d
  v4 : η.i 4 = e
  v5 : η.i 5 = f
theorem six_env {a b c d e f : Int} (h1 : BIn a b c) (h2 : BIn d e f) {D : Dtab} (hD : dtabOk 6 D = true) : ∃ η, SixEnv η a b c d e f D := by
  have hA := six_ok h1 h2
  obtain ⟨iv, hiv⟩ : ∃ iv : Nat → Int, iv = dEnv (six a b c d e f) uuB (fun _ => 0) D := ⟨_, rfl⟩
  have hlen : (intsOf (cellsV (six a b c d e f))).length = 6 := rfl
  have hd := dEnv_ok (l := six a b c d e f) (uu := uuB) (N := 6) (by omega) (fun _ => 0) (Nat.le_refl 6) hD
  rw [← hiv] at hd
  have hi : ∀ (j : Nat) (x : Int), (intsOf (cellsV (six a b c d e f)))[j]? = some x → (-9223372036854775808 ≤ x ∧ x ≤ 9223372036854775807) → j < 10000 → (lawEnv (six a b c d e f) iv uuB).i j = x := fun j x hj hx hjj => by
    rw [lawEnv_i _ _ _ hjj, hj, Option.getD_some]; exact wr_in hx
  obtain ⟨p1, p2, p3⟩ := h1
  obtain ⟨q1, q2, q3⟩ := h2
  exact ⟨lawEnv (six a b c d e f) iv uuB, lawEnv_good hA iv uuB, hd, hi 0 a rfl (by omega) (by decide), hi 1 b rfl (by omega) (by decide), hi 2 c rfl (by omega) (by decide), hi 3 d rfl (by omega) (by decide), hi 4 e rfl (by omega) (by decide), hi 5 f rfl (by omega) (by decide)⟩
theorem upTo_of {η : Env} {v : Nat} {lo hi : Int} (h : lo ≤ η.i v ∧ η.i v ≤ hi) : PC.holds η (upTo v lo hi) := by
  intro x hx
  rcases List.mem_cons.1 hx with rfl | hx
  · simp only [Atom.den, evP_pminus, evP_pvar, evP_pconst]
    exact decide_eq_false (by omega)
  · rcases List.mem_cons.1 hx with rfl | hx
    · simp only [Atom.den, evP_pminus, evP_pvar, evP_pconst]
      exact decide_eq_false (by omega)
    · cases hx
theorem holds_ap {η : Env} {p q : PC} (h : p.holds η) (h' : q.holds η) : PC.holds η (p ++ q) := fun x hx => by
  rcases List.mem_append.1 hx with hx | hx
  · exact h x hx
  · exact h' x hx
theorem holds_cs {η : Env} {a : Atom} {b : Bool} {l : PC} (h : a.den η = b) (hl : PC.holds η l) : PC.holds η ((a, b) :: l) := fun x hx => by
  rcases List.mem_cons.1 hx with rfl | hx
  · exact h
  · exact hl x hx
theorem argB_of {η : Env} {a b c d e f : Int} {D : Dtab} (h : SixEnv η a b c d e f D) (h1 : BIn a b c) (h2 : BIn d e f) : PC.holds η argB := by
  obtain ⟨_, _, v0, v1, v2, v3, v4, v5⟩ := h
  obtain ⟨p1, p2, p3⟩ := h1
  obtain ⟨q1, q2, q3⟩ := h2
  refine holds_ap (holds_ap (upTo_of ?_) (holds_ap (upTo_of ?_) (upTo_of ?_))) (holds_ap (upTo_of ?_) (holds_ap (upTo_of ?_) (upTo_of ?_)))
  all_goals simp only [v0, v1, v2, v3, v4, v5, maxB, Nat.zero_add, show 3 + 1 = 4 from rfl, show 3 + 2 = 5 from rfl]
  all_goals omega
theorem nrm_bnd {a b : Int} (ha : -67108864 ≤ a ∧ a ≤ 67108864) (hb : -67108864 ≤ b ∧ b ≤ 67108864) : 0 ≤ nrm a b ∧ nrm a b ≤ 9007199254740992 := by
  have h1 := mulLe ha ha
  have h2 := mulLe hb hb
  refine ⟨nrm_nonneg a b, ?_⟩
  unfold nrm
  omega
/-- The numbers of a product, within bounds. -/
theorem tim_bnd {a b c d e f : Int} (h1 : BIn a b c) (h2 : BIn d e f) :
    (-9007199254740992 ≤ a * d - b * e ∧ a * d - b * e ≤ 9007199254740992) ∧ (-9007199254740992 ≤ a * e + b * d ∧ a * e + b * d ≤ 9007199254740992) ∧
    (0 ≤ isqU (nrm a b) ∧ isqU (nrm a b) ≤ 134217728) ∧ (0 ≤ isqU (nrm d e) ∧ isqU (nrm d e) ≤ 134217728) ∧ (0 ≤ isqU (nrm a b) * f + isqU (nrm d e) * c + c * f ∧ isqU (nrm a b) * f + isqU (nrm d e) * c + c * f ≤ 22517998136852480) := by
  obtain ⟨p1, p2, p3⟩ := h1
  obtain ⟨q1, q2, q3⟩ := h2
  have m1 := mulLe p1 q1
  have m2 := mulLe p2 q2
  have m3 := mulLe p1 q2
  have m4 := mulLe p2 q1
  have i1 := isq_big (nrm_bnd p1 p2)
  have i2 := isq_big (nrm_bnd q1 q2)
  have m5 := mulLe (x := isqU (nrm a b)) (y := f) (A := 134217728) (B := 67108864) (by omega) (by omega)
  have m6 := mulLe (x := isqU (nrm d e)) (y := c) (A := 134217728) (B := 67108864) (by omega) (by omega)
  have m7 := mulLe (x := c) (y := f) (A := 67108864) (B := 67108864) (by omega) (by omega)
  have n5 : 0 ≤ isqU (nrm a b) * f := Int.mul_nonneg (by omega) q3.1
  have n6 : 0 ≤ isqU (nrm d e) * c := Int.mul_nonneg (by omega) p3.1
  have n7 : 0 ≤ c * f := Int.mul_nonneg p3.1 q3.1
  refine ⟨by omega, by omega, by omega, by omega, by omega, by omega⟩
theorem wvals_two (η : Env) (p q : Poly) : wvals η [p, q] = [wr (evP η.i p), wr (evP η.i q)] := rfl
theorem wvals_one (η : Env) (p : Poly) : wvals η [p] = [wr (evP η.i p)] := rfl
theorem wvals_three (η : Env) (p q r : Poly) : wvals η [p, q, r] = [wr (evP η.i p), wr (evP η.i q), wr (evP η.i r)] := rfl
theorem ev_one (η : Env) : wr (evP η.i oneP) = oneB := by simp only [oneP, evP, evM]; rfl
theorem ev_nP {η : Env} (x y : Nat) : evP η.i (nP x y) = nrm (η.i x) (η.i y) := by simp only [nP, evP_pplus, evP_ptimes, evP_pvar, nrm]
theorem ceilOne {n A : Int} (h0 : 0 ≤ n) (h : n ≤ A * 1048576) : 0 ≤ ceilI n oneB ∧ ceilI n oneB ≤ A := by
  unfold ceilI oneB
  omega
theorem rndOne {n : Int} (h : -9007199254740992 ≤ n ∧ n ≤ 9007199254740992) : -8589934592 ≤ rndI n oneB ∧ rndI n oneB ≤ 8589934592 := by
  unfold rndI oneB
  omega
theorem one_bnd (s t : Int) : 0 ≤ oneI s t ∧ oneI s t ≤ 1 := by
  unfold oneI; split <;> omega
structure TimEnv (η : Env) (a b c d e f : Int) : Prop where
  v100 : η.i 100 = timR a b c d e f
  v102 : η.i 102 = timI a b c d e f
  v104 : η.i 104 = isqU (nrm a b)
  v105 : η.i 105 = isqU (nrm d e)
  v106 : η.i 106 = ceilI (isqU (nrm a b) * f + isqU (nrm d e) * c + c * f) oneB
  v107 : η.i 107 = oneI ((a * d - b * e) % oneB) ((a * e + b * d) % oneB)
theorem tim_env {η : Env} {a b c d e f : Int} (h : SixEnv η a b c d e f tD) (h1 : BIn a b c) (h2 : BIn d e f) : TimEnv η a b c d e f := by
  obtain ⟨t1, t2, t3, t4, t5⟩ := tim_bnd h1 h2
  obtain ⟨hg, hD, v0, v1, v2, v3, v4, v5⟩ := h
  have eRe : wr (evP η.i tRe) = a * d - b * e := by
    simp only [tRe, evP_pminus, evP_ptimes, evP_pvar, v0, v1, v3, v4]
    exact wr_mid (by omega)
  have eIm : wr (evP η.i tIm) = a * e + b * d := by
    simp only [tIm, evP_pplus, evP_ptimes, evP_pvar, v0, v1, v3, v4]
    exact wr_mid (by omega)
  have b1 := nrm_bnd h1.1 h1.2.1
  have b2 := nrm_bnd h2.1 h2.2.1
  have x100 := hD (100, 2, [tRe, oneP]) (by simp only [tD, List.mem_cons, true_or])
  have x101 := hD (101, 4, [tRe, oneP]) (by simp only [tD, List.mem_cons, true_or, or_true])
  have x102 := hD (102, 2, [tIm, oneP]) (by simp only [tD, List.mem_cons, true_or, or_true])
  have x103 := hD (103, 4, [tIm, oneP]) (by simp only [tD, List.mem_cons, true_or, or_true])
  have x104 := hD (104, 6, [nP 0 1]) (by simp only [tD, List.mem_cons, true_or, or_true])
  have x105 := hD (105, 6, [nP 3 4]) (by simp only [tD, List.mem_cons, true_or, or_true])
  have x106 := hD (106, 5, [tCl, oneP]) (by simp only [tD, List.mem_cons, true_or, or_true])
  have x107 := hD (107, 3, [pvar 101, pvar 103]) (by simp only [tD, List.mem_cons, true_or, or_true])
  simp only [wvals_two, wvals_one, ev_one, eRe, eIm, ev_nP, v0, v1, v3, v4, semD] at x100 x101 x102 x103 x104 x105
  have m1 := emod_bnd (x := a * d - b * e) (d := oneB) (by decide)
  have m2 := emod_bnd (x := a * e + b * d) (d := oneB) (by decide)
  have r1 := rndOne t1
  have r2 := rndOne t2
  have r3 := ceilOne (A := 34359738368) t5.1 (by omega)
  have r4 := one_bnd ((a * d - b * e) % oneB) ((a * e + b * d) % oneB)
  simp only [oneB] at m1 m2
  rw [wr_mid (by omega)] at x100 x102
  rw [wr_mid (by simp only [oneB]; omega)] at x101 x103
  rw [wr_mid (x := nrm a b) (by omega), wr_mid (by omega)] at x104
  rw [wr_mid (x := nrm d e) (by omega), wr_mid (by omega)] at x105
  have eCl : wr (evP η.i tCl) = isqU (nrm a b) * f + isqU (nrm d e) * c + c * f := by
    simp only [tCl, evP_pplus, evP_ptimes, evP_pvar, v2, v5, x104, x105]
    exact wr_mid (by omega)
  simp only [wvals_two, ev_one, eCl, semD] at x106
  rw [wr_mid (by omega)] at x106
  simp only [wvals_two, evP_pvar, x101, x103, semD] at x107
  rw [wr_mid (x := (a * d - b * e) % oneB) (by simp only [oneB]; omega), wr_mid (x := (a * e + b * d) % oneB) (by simp only [oneB]; omega), wr_mid (by omega)] at x107
  exact ⟨x100, x102, x104, x105, x106, x107⟩
theorem tX_ok {η : Env} {a b c d e f : Int} (h : SixEnv η a b c d e f tD) (h1 : BIn a b c) (h2 : BIn d e f) : XOk' η tX := by
  obtain ⟨w0, w2, w4, w5, w6, w7⟩ := tim_env h h1 h2
  obtain ⟨t1, t2, t3, t4, t5⟩ := tim_bnd h1 h2
  have r1 := rndOne t1
  have r2 := rndOne t2
  have r3 := ceilOne (A := 34359738368) t5.1 (by omega)
  have r4 := one_bnd ((a * d - b * e) % oneB) ((a * e + b * d) % oneB)
  intro x hx _
  simp only [tX, List.mem_cons, List.not_mem_nil, or_false] at hx
  rcases hx with rfl | rfl | rfl | rfl | rfl | rfl
  · exact upTo_of (by rw [w0]; unfold timR; omega)
  · exact upTo_of (by rw [w2]; unfold timI; omega)
  · exact upTo_of (by rw [w4]; omega)
  · exact upTo_of (by rw [w5]; omega)
  · exact upTo_of (by rw [w6]; omega)
  · exact upTo_of (by rw [w7]; omega)
theorem args_six {η : Env} {a b c d e f : Int} {D : Dtab} (h : SixEnv η a b c d e f D) (h1 : BIn a b c) (h2 : BIn d e f) (E : Emb) : denArgs η E [ballS 0, ballS 3] = some [ballV a b c, ballV d e f] := by
  obtain ⟨_, _, v0, v1, v2, v3, v4, v5⟩ := h
  obtain ⟨p1, p2, p3⟩ := h1
  obtain ⟨q1, q2, q3⟩ := h2
  simp only [ballS, denArgs, Sv.den, denL, Sc.den, Fx.den, Ix.den, evP_pvar, v0, v1, v2, v3, v4, v5, Nat.zero_add, show 3 + 1 = 4 from rfl, show 3 + 2 = 5 from rfl, Option.map_some, wr_mid (x := a) (by omega), wr_mid (x := b) (by omega), wr_mid (x := c) (by omega), wr_mid (x := d) (by omega), wr_mid (x := e) (by omega), wr_mid (x := f) (by omega)]
  rfl
theorem erS_den {η : Env} {E : Emb} {n : Int} : (erS n).den η E = some (outV fun k => match k with | 3 => n | _ => 0) := by
  have h0 : FloatKind.f64.nearest 0 = 0 := by decide
  simp only [erS, Sv.den, denParts, denPart, denL, Sc.den, Fx.den, Ix.den, Option.map_some, outV, ballV, h0]
theorem okS_den {η : Env} {E : Emb} {u v : Nat} {p : Poly} {x y z : Int} (h1 : wr (η.i u) = x) (h2 : wr (η.i v) = y) (h3 : wr (evP η.i p) = z) : (okS u v p).den η E = some (outV fun k => match k with | 0 => x | 1 => y | 2 => z | _ => 0) := by
  simp only [okS, Sv.den, denParts, denPart, denL, Sc.den, Fx.den, Ix.den, evP_pvar, h1, h2, h3, Option.map_some, outV, ballV]
theorem all3 {η : Env} {u v : Nat} {p : Poly} {x y z : Int} (h1 : wr (η.i u) = x) (h2 : wr (η.i v) = y) (h3 : wr (evP η.i p) = z) (hz : 0 ≤ z) : allS η 67108864 [pvar u, pvar v, p] = (inB x && inB y && (decide (0 ≤ z) && decide (z ≤ maxB))) := by
  simp only [allS, evP_pvar, h1, h2, h3, inB, maxB, Bool.and_true, decide_eq_true hz, decide_eq_true (show (-67108864 : Int) ≤ z by omega), Bool.true_and, Bool.and_assoc]
  rfl
theorem mOk_out {η : Env} (hg : GoodF η) {u v : Nat} {p : Poly} {x y z : Int} (h1 : wr (η.i u) = x) (h2 : wr (η.i v) = y) (h3 : wr (evP η.i p) = z) (hz : 0 ≤ z) {r : Sv × PC} (hpc : r.2.holds η) (h : mOk 67108864 [pvar u, pvar v, p] (okS u v p) (erS 8) r = true) (E : Emb) :
    r.1.den η E = some (outV (outB x y z)) := by
  unfold mOk at h
  split at h
  · rename_i hd
    have hs := smallDec_ok hg hpc hd
    rw [all3 h1 h2 h3 hz] at hs
    rw [svEq_iff h, okS_den h1 h2 h3]
    simp only [outV, outB, hs, if_true]
  · rename_i hd
    have hs := smallDec_ok hg hpc hd
    rw [all3 h1 h2 h3 hz] at hs
    rw [svEq_iff h, erS_den]
    simp only [outV, outB, hs, Bool.false_eq_true, if_false]
  · cases h
theorem times_any {a b c d e f : Int} (h1 : BIn a b c) (h2 : BIn d e f) (w : World) :
    Calls Try.prog 9 #[ballV a b c, ballV d e f] w fun x w' => x = .returned (outV (timB a b c d e f)) ∧ Below w.heap.size w w' := by
  obtain ⟨η, h⟩ := six_env h1 h2 (D := tD) (by decide)
  have hX := tX_ok h h1 h2
  have hC : (mC tZ).Ok Try.prog η := mC_ok h.g h.D hX
  obtain ⟨r, hr, hrr⟩ := Tree.all_at (η := η) tRunOk
  simp only [tOk, Bool.and_eq_true] at hrr
  obtain ⟨v, e1, e2, e3⟩ := run_sumP hC Try.fok9 (argB_of h h1 h2) hr hrr.2 w (args_six h h1 h2 E0)
  obtain ⟨w0, w2, w4, w5, w6, w7⟩ := tim_env h h1 h2
  obtain ⟨t1, t2, t3, t4, t5⟩ := tim_bnd h1 h2
  have r1 := rndOne t1
  have r2 := rndOne t2
  have r3 := ceilOne (A := 34359738368) t5.1 (by omega)
  have r4 := one_bnd ((a * d - b * e) % oneB) ((a * e + b * d) % oneB)
  have hv := mOk_out h.g (u := 100) (v := 102) (p := pplus (pvar 106) (pvar 107)) (x := timR a b c d e f) (y := timI a b c d e f) (z := timL a b c d e f) (by rw [w0]; exact wr_mid (by unfold timR; omega)) (by rw [w2]; exact wr_mid (by unfold timI; omega))
    (by rw [evP_pplus, evP_pvar, evP_pvar, w6, w7]; exact wr_mid (by omega)) (by unfold timL; omega) e2 hrr.1 E0
  rw [hv] at e1
  cases e1
  exact e3
end Go.Ex


namespace Go.Ex
open Go Go.Proofs Go.RowKit
theorem quo_bnd {a b c d e f : Int} (h1 : BIn a b c) (h2 : BIn d e f) :
    (-9007199254740992 ≤ a * d + b * e ∧ a * d + b * e ≤ 9007199254740992) ∧ (-9007199254740992 ≤ b * d - a * e ∧ b * d - a * e ≤ 9007199254740992) ∧
    (0 ≤ isqU (nrm a b) ∧ isqU (nrm a b) ≤ 134217728) ∧ (0 ≤ isqU (nrm d e) ∧ isqU (nrm d e) ≤ 134217728) ∧ (0 ≤ isq (nrm d e) ∧ isq (nrm d e) ≤ 134217728) ∧
    (0 ≤ c * isqU (nrm d e) + isqU (nrm a b) * f ∧ c * isqU (nrm d e) + isqU (nrm a b) * f ≤ 18014398509481984) := by
  obtain ⟨p1, p2, p3⟩ := h1
  obtain ⟨q1, q2, q3⟩ := h2
  have m1 := mulLe p1 q1
  have m2 := mulLe p2 q2
  have m3 := mulLe p1 q2
  have m4 := mulLe p2 q1
  have i1 := isq_big (nrm_bnd p1 p2)
  have i2 := isq_big (nrm_bnd q1 q2)
  have m5 := mulLe (x := isqU (nrm a b)) (y := f) (A := 134217728) (B := 67108864) (by omega) (by omega)
  have m6 := mulLe (x := c) (y := isqU (nrm d e)) (A := 67108864) (B := 134217728) (by omega) (by omega)
  have n5 : 0 ≤ isqU (nrm a b) * f := Int.mul_nonneg (by omega) q3.1
  have n6 : 0 ≤ c * isqU (nrm d e) := Int.mul_nonneg p3.1 (by omega)
  refine ⟨by omega, by omega, by omega, by omega, by omega, by omega⟩
structure QuoEnv (η : Env) (a b c d e f : Int) : Prop where
  v100 : η.i 100 = quoI (a * d + b * e) oneB (nrm d e)
  v102 : η.i 102 = quoI (b * d - a * e) oneB (nrm d e)
  v104 : η.i 104 = isqU (nrm a b)
  v105 : η.i 105 = isqU (nrm d e)
  v106 : η.i 106 = isq (nrm d e)
  v107 : f < isq (nrm d e) → η.i 107 = quuI (c * isqU (nrm d e) + isqU (nrm a b) * f) oneB ((isq (nrm d e) - f) * isq (nrm d e))
  v108 : η.i 108 = oneI (flgI (a * d + b * e) oneB (nrm d e)) (flgI (b * d - a * e) oneB (nrm d e))
theorem dn_bnd {dn f : Int} (h1 : 0 ≤ dn ∧ dn ≤ 134217728) (h2 : 0 ≤ f ∧ f ≤ 67108864) (h : f < dn) : 1 ≤ (dn - f) * dn ∧ (dn - f) * dn ≤ 18014398509481984 := by
  have m1 := mulLe (x := dn - f) (y := dn) (A := 134217728) (B := 134217728) (by omega) (by omega)
  have m2 := Int.mul_pos (show 0 < dn - f by omega) (show 0 < dn by omega)
  omega
theorem quo_env {η : Env} {a b c d e f : Int} (h : SixEnv η a b c d e f qD) (h1 : BIn a b c) (h2 : BIn d e f) : QuoEnv η a b c d e f := by
  obtain ⟨t1, t2, t3, t4, t5, t6⟩ := quo_bnd h1 h2
  obtain ⟨hg, hD, v0, v1, v2, v3, v4, v5⟩ := h
  have eRe : wr (evP η.i qRe) = a * d + b * e := by
    simp only [qRe, evP_pplus, evP_ptimes, evP_pvar, v0, v1, v3, v4]
    exact wr_mid (by omega)
  have eIm : wr (evP η.i qIm) = b * d - a * e := by
    simp only [qIm, evP_pminus, evP_ptimes, evP_pvar, v0, v1, v3, v4]
    exact wr_mid (by omega)
  have b1 := nrm_bnd h1.1 h1.2.1
  have b2 := nrm_bnd h2.1 h2.2.1
  have x100 := hD (100, 8, [qRe, oneP, nP 3 4]) (by simp only [qD, List.mem_cons, true_or])
  have x101 := hD (101, 9, [qRe, oneP, nP 3 4]) (by simp only [qD, List.mem_cons, true_or, or_true])
  have x102 := hD (102, 8, [qIm, oneP, nP 3 4]) (by simp only [qD, List.mem_cons, true_or, or_true])
  have x103 := hD (103, 9, [qIm, oneP, nP 3 4]) (by simp only [qD, List.mem_cons, true_or, or_true])
  have x104 := hD (104, 6, [nP 0 1]) (by simp only [qD, List.mem_cons, true_or, or_true])
  have x105 := hD (105, 6, [nP 3 4]) (by simp only [qD, List.mem_cons, true_or, or_true])
  have x106 := hD (106, 7, [nP 3 4]) (by simp only [qD, List.mem_cons, true_or, or_true])
  have x107 := hD (107, 10, [qN, oneP, qDn]) (by simp only [qD, List.mem_cons, true_or, or_true])
  have x108 := hD (108, 3, [pvar 101, pvar 103]) (by simp only [qD, List.mem_cons, true_or, or_true])
  simp only [wvals_three, wvals_one, ev_one, eRe, eIm, ev_nP, v0, v1, v3, v4, semD] at x100 x101 x102 x103 x104 x105 x106
  rw [wr_mid (x := nrm d e) (by omega)] at x100 x101 x102 x103 x105 x106
  rw [wr_mid (x := nrm a b) (by omega), wr_mid (by omega)] at x104
  have k1 := quo_big (n := a * d + b * e) (m := oneB) (d := nrm d e) (by decide) b2.1
  have k2 := quo_big (n := b * d - a * e) (m := oneB) (d := nrm d e) (by decide) b2.1
  have k3 := flg_big (a * d + b * e) oneB (nrm d e)
  have k4 := flg_big (b * d - a * e) oneB (nrm d e)
  have k5 := one_bnd (flgI (a * d + b * e) oneB (nrm d e)) (flgI (b * d - a * e) oneB (nrm d e))
  rw [wr_mid (by omega)] at x100 x101 x102 x103 x105 x106
  simp only [wvals_two, evP_pvar, x101, x103, semD] at x108
  rw [wr_mid (x := flgI (a * d + b * e) oneB (nrm d e)) (by omega), wr_mid (x := flgI (b * d - a * e) oneB (nrm d e)) (by omega), wr_mid (by omega)] at x108
  refine ⟨x100, x102, x104, x105, x106, fun hlt => ?_, x108⟩
  have hdn := dn_bnd t5 h2.2.2 hlt
  have eN : wr (evP η.i qN) = c * isqU (nrm d e) + isqU (nrm a b) * f := by
    simp only [qN, evP_pplus, evP_ptimes, evP_pvar, v2, v5, x104, x105]
    exact wr_mid (by omega)
  have eDn : wr (evP η.i qDn) = (isq (nrm d e) - f) * isq (nrm d e) := by
    simp only [qDn, evP_pminus, evP_ptimes, evP_pvar, v5, x106]
    exact wr_mid (by omega)
  simp only [wvals_three, ev_one, eN, eDn, semD] at x107
  have k6 := quu_big (n := c * isqU (nrm d e) + isqU (nrm a b) * f) (m := oneB) (d := (isq (nrm d e) - f) * isq (nrm d e)) (Int.mul_nonneg t6.1 (by decide)) (by omega)
  rw [x107]
  exact wr_mid (by omega)
theorem pos_ff {η : Env} {p : Poly} {l : PC} (h : evP η.i p ≤ 0) (hl : PC.holds η l) : PC.holds η ((.pos p, false) :: l) := holds_cs (by simp only [Atom.den]; exact decide_eq_false (by omega)) hl
theorem pos_tt {η : Env} {p : Poly} {l : PC} (h : 0 < evP η.i p) (hl : PC.holds η l) : PC.holds η ((.pos p, true) :: l) := holds_cs (by simp only [Atom.den]; exact decide_eq_true h) hl
theorem isq_pos {n : Int} (h0 : 0 ≤ n) (h : n < 18446744073709551616) (hi : 1 ≤ isq n) : 1 ≤ n := by
  have h1 := (isq_spec h0 h).2.1
  have h2 := Int.mul_pos (show 0 < isq n by omega) (show 0 < isq n by omega)
  omega
theorem quot_ball {a b c d e f : Int} (h1 : BIn a b c) (h2 : BIn d e f) (w : World) :
    Calls Try.prog 11 #[ballV a b c, ballV d e f] w fun x w' => x = .returned (outV (quoB a b c d e f)) ∧ Below w.heap.size w w' := by
  obtain ⟨η, h⟩ := six_env h1 h2 (D := qD) (by decide)
  have hX : XOk' η qZ.X := fun x hx => by cases hx
  have hC : (mC qZ).Ok Try.prog η := mC_ok h.g h.D hX
  obtain ⟨w0, w2, w4, w5, w6, w7, w8⟩ := quo_env h h1 h2
  obtain ⟨t1, t2, t3, t4, t5, t6⟩ := quo_bnd h1 h2
  have hv5 := h.v5
  have b2 := nrm_bnd h2.1 h2.2.1
  by_cases hlt : f < isq (nrm d e)
  · have hdn := dn_bnd t5 h2.2.2 hlt
    have w7 := w7 hlt
    have k1 := quo_big (n := a * d + b * e) (m := oneB) (d := nrm d e) (by decide) b2.1
    have k2 := quo_big (n := b * d - a * e) (m := oneB) (d := nrm d e) (by decide) b2.1
    have k5 := one_bnd (flgI (a * d + b * e) oneB (nrm d e)) (flgI (b * d - a * e) oneB (nrm d e))
    have k6 := quu_big (n := c * isqU (nrm d e) + isqU (nrm a b) * f) (m := oneB) (d := (isq (nrm d e) - f) * isq (nrm d e)) (Int.mul_nonneg t6.1 (by decide)) (by omega)
    have k7 := isq_pos b2.1 (by omega) (show 1 ≤ isq (nrm d e) by have := h2.2.2.1; omega)
    have hpc : PC.holds η qPcB := by
      refine pos_tt ?_ (pos_tt ?_ (pos_ff ?_ (pos_tt ?_ (pos_ff ?_ (holds_ap (holds_ap (upTo_of ?_) (holds_ap (upTo_of ?_) (holds_ap (upTo_of ?_) (holds_ap (upTo_of ?_) (holds_ap (upTo_of ?_) (holds_ap (upTo_of ?_) (upTo_of ?_))))))) (argB_of h h1 h2))))))
      · simp only [qLt, evP_pminus, evP_pvar, w6, hv5]; omega
      · rw [ev_nP, h.v3, h.v4]; omega
      · rw [evP_pminus, ev_nP, h.v3, h.v4, evP_pconst]; omega
      · simp only [qDn, evP_pminus, evP_ptimes, evP_pvar, w6, hv5]; omega
      · simp only [qDn, evP_pminus, evP_ptimes, evP_pvar, evP_pconst, w6, hv5]; omega
      · rw [w0]; omega
      · rw [w2]; omega
      · rw [w4]; omega
      · rw [w5]; omega
      · rw [w6]; omega
      · rw [w7]; omega
      · rw [w8]; omega
    obtain ⟨r, hr, hrr⟩ := Tree.all_at (η := η) qRunB
    simp only [qOkB, Bool.and_eq_true] at hrr
    obtain ⟨v, e1, e2, e3⟩ := run_sumP hC Try.fok11 hpc hr hrr.2 w (args_six h h1 h2 E0)
    have hv := mOk_out h.g (u := 100) (v := 102) (p := pplus (pvar 107) (pvar 108)) (x := quoI (a * d + b * e) oneB (nrm d e)) (y := quoI (b * d - a * e) oneB (nrm d e)) (z := quuI (c * isqU (nrm d e) + isqU (nrm a b) * f) oneB ((isq (nrm d e) - f) * isq (nrm d e)) + oneI (flgI (a * d + b * e) oneB (nrm d e)) (flgI (b * d - a * e) oneB (nrm d e))) (by rw [w0]; exact wr_mid (by omega)) (by rw [w2]; exact wr_mid (by omega))
      (by rw [evP_pplus, evP_pvar, evP_pvar, w7, w8]; exact wr_mid (by omega)) (by omega) e2 hrr.1 E0
    rw [hv] at e1
    cases e1
    have e : quoB a b c d e f = outB (quoI (a * d + b * e) oneB (nrm d e)) (quoI (b * d - a * e) oneB (nrm d e)) (quuI (c * isqU (nrm d e) + isqU (nrm a b) * f) oneB ((isq (nrm d e) - f) * isq (nrm d e)) + oneI (flgI (a * d + b * e) oneB (nrm d e)) (flgI (b * d - a * e) oneB (nrm d e))) := by
      funext k
      unfold quoB
      simp only [if_neg (show ¬ isq (nrm d e) ≤ f by omega)]
    rw [e]
    exact e3
  · have hpc : PC.holds η qPcA := by
      refine pos_ff ?_ (holds_ap (upTo_of ?_) (argB_of h h1 h2))
      · simp only [qLt, evP_pminus, evP_pvar, w6, hv5]; omega
      · rw [w6]; omega
    obtain ⟨r, hr, hrr⟩ := Tree.all_at (η := η) qRunA
    simp only [qOkA, Bool.and_eq_true] at hrr
    obtain ⟨v, e1, e2, e3⟩ := run_sumP hC Try.fok11 hpc hr hrr.2 w (args_six h h1 h2 E0)
    rw [svEq_iff hrr.1, erS_den] at e1
    cases e1
    have e : outV (quoB a b c d e f) = outV fun k => match k with | 3 => 9 | _ => 0 := by
      simp only [outV, quoB, if_pos (show isq (nrm d e) ≤ f by omega)]
    rw [e]
    exact e3
end Go.Ex


