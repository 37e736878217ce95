/-
  The plain law of PassiveWithin: light of a right Stokes vector gains no more than the scale allows. No program in sight.
-/
import Derived.Test.YtcggbkocpahkdaaEx30
namespace Go.Ex
open Go
noncomputable section

theorem sq_le {x y : Int} (hy : 0 ≤ y) (h : x * x ≤ y * y) : x ≤ y := by
  rcases Int.lt_or_le y x with hc | hc
  · have h1 : (y + 1) * (y + 1) ≤ x * x := Int.mul_le_mul (by omega) (by omega) (by omega) (by omega)
    have h2 : (y + 1) * (y + 1) = y * y + 2 * y + 1 := by grind
    omega
  · exact hc
theorem sq_nonneg (x : Int) : 0 ≤ x * x := by
  rcases Int.le_total 0 x with h | h
  · exact Int.mul_nonneg h h
  · exact Int.mul_nonneg_of_nonpos_of_nonpos h h
theorem passive_le {m0 m1 m2 m3 sc s0 s1 s2 s3 : Int} (h1 : m0 ≤ sc) (h2 : m1 * m1 + m2 * m2 + m3 * m3 ≤ (sc - m0) * (sc - m0)) (h3 : 0 ≤ s0) (h4 : s1 * s1 + s2 * s2 + s3 * s3 ≤ s0 * s0) :
    m1 * s1 + m2 * s2 + m3 * s3 ≤ (sc - m0) * s0 := by
  refine sq_le (Int.mul_nonneg (by omega) h3) ?_
  have a : (m1 * m1 + m2 * m2 + m3 * m3) * (s1 * s1 + s2 * s2 + s3 * s3) ≤ ((sc - m0) * (sc - m0)) * (s0 * s0) :=
    Int.mul_le_mul h2 h4 (by have := sq_nonneg s1; have := sq_nonneg s2; have := sq_nonneg s3; omega) (sq_nonneg _)
  have b : (m1 * s1 + m2 * s2 + m3 * s3) * (m1 * s1 + m2 * s2 + m3 * s3) + ((m1 * s2 - m2 * s1) * (m1 * s2 - m2 * s1) + (m1 * s3 - m3 * s1) * (m1 * s3 - m3 * s1) + (m2 * s3 - m3 * s2) * (m2 * s3 - m3 * s2)) = (m1 * m1 + m2 * m2 + m3 * m3) * (s1 * s1 + s2 * s2 + s3 * s3) := by grind
  have c : ((sc - m0) * s0) * ((sc - m0) * s0) = ((sc - m0) * (sc - m0)) * (s0 * s0) := by grind
  have d1 := sq_nonneg (m1 * s2 - m2 * s1)
  have d2 := sq_nonneg (m1 * s3 - m3 * s1)
  have d3 := sq_nonneg (m2 * s3 - m3 * s2)
  rw [c]
  omega

def passQ : Poly := [([0, 17], 1), ([1, 18], 1), ([2, 19], 1), ([3, 20], 1), ([16, 17], (-1))]
def passA1 : Poly := [([0], 1), ([16], (-1))]
def passA2 : Poly := [([0, 0], (-1)), ([0, 16], 2), ([1, 1], 1), ([2, 2], 1), ([3, 3], 1), ([16, 16], (-1))]
def passA3 : Poly := [([17], (-1))]
def passA4 : Poly := [([17, 17], (-1)), ([18, 18], 1), ([19, 19], 1), ([20, 20], 1)]
def passFin (r : Sv × St) : Bool :=
  match r.1 with
  | .one (.bool (.at_ true (.pos q))) => polyEq q passQ && (known r.2.pc (.pos passA1) false && (known r.2.pc (.pos passA2) false && (known r.2.pc (.pos passA3) false && known r.2.pc (.pos passA4) false)))
  | _ => false
theorem passFin_ok (η : Env) (r : Sv × St) (_ : GoodF η) (h : passFin r = true) (hpc : r.2.pc.holds η) : r.1.den η E0 = some (.bool true) := by
  unfold passFin at h
  split at h
  · rename_i q hq
    simp only [Bool.and_eq_true] at h
    obtain ⟨h0, h1, h2, h3, h4⟩ := h
    have a1 := known_le hpc h1
    have a2 := known_le hpc h2
    have a3 := known_le hpc h3
    have a4 := known_le hpc h4
    rw [hq, polyEq_iff h0]
    simp only [passA1, passA2, passA3, passA4, evP, evM] at a1 a2 a3 a4
    have key := passive_le (m0 := η.i 0) (m1 := η.i 1) (m2 := η.i 2) (m3 := η.i 3) (sc := η.i 16) (s0 := η.i 17) (s1 := η.i 18) (s2 := η.i 19) (s3 := η.i 20) (by omega) (by grind) (by omega) (by grind)
    simp only [Sv.den, Sc.den, Bx.den, Atom.den, passQ, evP, evM]
    have : ¬ 0 < 1 * (η.i 0 * (η.i 17 * 1)) + (1 * (η.i 1 * (η.i 18 * 1)) + (1 * (η.i 2 * (η.i 19 * 1)) + (1 * (η.i 3 * (η.i 20 * 1)) + (-1 * (η.i 16 * (η.i 17 * 1)) + 0)))) := by grind
    simp only [decide_eq_false this, Bool.false_xor]
  · cases h

end
end Go.Ex
