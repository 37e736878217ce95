/-
  All ways of calculating meet: the plain law.
-/
import Derived.Test.YtoheddhbcpjmkaaLwBaT

namespace Go.Ex
open Go
theorem cont_self {a b c : Int} (h : 0 ≤ c) : Cont a b c a b 1 := ⟨by omega, h, by
  rw [show a - 1 * a = 0 by omega, show b - 1 * b = 0 by omega, Int.one_mul]
  exact sqz c⟩
theorem inB_iff {x : Int} : inB x = true ↔ -67108864 ≤ x ∧ x ≤ 67108864 := by
  simp only [inB, Bool.and_eq_true, decide_eq_true_eq]
  exact Iff.rfl
theorem zB_iff {z : Int} : (decide (0 ≤ z) && decide (z ≤ maxB)) = true ↔ 0 ≤ z ∧ z ≤ 67108864 := by
  simp only [Bool.and_eq_true, decide_eq_true_eq]
  exact Iff.rfl
theorem outB_3 {x y z : Int} (h : outB x y z 3 = 0) : (inB x && inB y && (decide (0 ≤ z) && decide (z ≤ maxB))) = true := by
  cases hc : (inB x && inB y && (decide (0 ≤ z) && decide (z ≤ maxB))) with
  | true => rfl
  | false => simp only [outB, hc, Bool.false_eq_true, if_false] at h; cases h
theorem outB_ok {x y z : Int} (h : outB x y z 3 = 0) : outB x y z 0 = x ∧ outB x y z 1 = y ∧ outB x y z 2 = z ∧ BIn x y z := by
  have hc := outB_3 h
  refine ⟨by simp only [outB, hc, if_true], by simp only [outB, hc, if_true], by simp only [outB, hc, if_true], ?_⟩
  rw [Bool.and_eq_true, Bool.and_eq_true, inB_iff, inB_iff, zB_iff] at hc
  exact ⟨hc.1.1, hc.1.2, hc.2⟩
theorem outB_in (x y z : Int) : BIn (outB x y z 0) (outB x y z 1) (outB x y z 2) ∧ (outB x y z 3 = 0 ∨ outB x y z 3 = 8) := by
  cases hc : (inB x && inB y && (decide (0 ≤ z) && decide (z ≤ maxB))) with
  | true =>
    simp only [outB, hc, if_true]
    rw [Bool.and_eq_true, Bool.and_eq_true, inB_iff, inB_iff, zB_iff] at hc
    exact ⟨⟨hc.1.1, hc.1.2, hc.2⟩, .inl trivial⟩
  | false =>
    simp only [outB, hc, Bool.false_eq_true, if_false]
    exact ⟨⟨by omega, by omega, by omega⟩, .inr trivial⟩
theorem outB_of {x y z : Int} (h : BIn x y z) : outB x y z 3 = 0 := by
  obtain ⟨h1, h2, h3⟩ := h
  have hc : (inB x && inB y && (decide (0 ≤ z) && decide (z ≤ maxB))) = true := by
    rw [Bool.and_eq_true, Bool.and_eq_true, inB_iff, inB_iff, zB_iff]
    exact ⟨⟨h1, h2⟩, h3⟩
  simp only [outB, hc, if_true]
theorem quoB_in (a b c d e f : Int) : BIn (quoB a b c d e f 0) (quoB a b c d e f 1) (quoB a b c d e f 2) ∧ (quoB a b c d e f 3 = 0 ∨ quoB a b c d e f 3 = 8 ∨ quoB a b c d e f 3 = 9) := by
  unfold quoB
  simp only
  split
  · exact ⟨⟨by omega, by omega, by omega⟩, .inr (.inr rfl)⟩
  · obtain ⟨h1, h2⟩ := outB_in (quoI (a * d + b * e) oneB (nrm d e)) (quoI (b * d - a * e) oneB (nrm d e)) (quuI (c * isqU (nrm d e) + isqU (nrm a b) * f) oneB ((isq (nrm d e) - f) * isq (nrm d e)) + oneI (flgI (a * d + b * e) oneB (nrm d e)) (flgI (b * d - a * e) oneB (nrm d e)))
    refine ⟨h1, ?_⟩
    rcases h2 with h2 | h2
    · exact .inl h2
    · exact .inr (.inl h2)
theorem nrm_64 {a b c : Int} (h : BIn a b c) : 0 ≤ nrm a b ∧ nrm a b < 18446744073709551616 := by
  have := nrm_bnd h.1 h.2.1
  omega
theorem timB_cont {a b c d e f x y q x' y' q' : Int} (h1 : BIn a b c) (h2 : BIn d e f) (h : timB a b c d e f 3 = 0) (hc : Cont a b c x y q) (hc' : Cont d e f x' y' q') :
    Cont (timB a b c d e f 0) (timB a b c d e f 1) (timB a b c d e f 2) (x * x' - y * y') (x * y' + y * x') (q * q' * oneB) := by
  obtain ⟨e0, e1, e2, _⟩ := outB_ok h
  have e0 : timB a b c d e f 0 = timR a b c d e f := e0
  have e1 : timB a b c d e f 1 = timI a b c d e f := e1
  have e2 : timB a b c d e f 2 = timL a b c d e f := e2
  rw [e0, e1, e2]
  obtain ⟨n0, n1⟩ := nrm_64 h1
  obtain ⟨m0, m1⟩ := nrm_64 h2
  have r1 := rnd_spec (n := a * d - b * e) (d := oneB) (by decide)
  have r2 := rnd_spec (n := a * e + b * d) (d := oneB) (by decide)
  have ho := one_bnd ((a * d - b * e) % oneB) ((a * e + b * d) % oneB)
  unfold timL
  refine cont_times hc hc' (u := isqU (nrm a b)) (u' := isqU (nrm d e)) (by decide) (isqU_spec n0 n1) (isqU_spec m0 m1) ho.1 ?_ (ceil_spec (by decide))
  refine nrm_err ⟨r1.1, r1.2.1⟩ ⟨r2.1, r2.2.1⟩ ?_
  unfold oneI
  split
  · rename_i hz
    exact .inl ⟨rfl, r1.2.2 hz.1, r2.2.2 hz.2⟩
  · exact .inr rfl
theorem quoB_cont {a b c d e f x y q x' y' q' : Int} (h1 : BIn a b c) (h2 : BIn d e f) (h : quoB a b c d e f 3 = 0) (hc : Cont a b c x y q) (hc' : Cont d e f x' y' q') :
    Cont (quoB a b c d e f 0) (quoB a b c d e f 1) (quoB a b c d e f 2) (oneB * q' * (x * x' + y * y')) (oneB * q' * (y * x' - x * y')) (q * nrm x' y') := by
  obtain ⟨n0, n1⟩ := nrm_64 h1
  obtain ⟨m0, m1⟩ := nrm_64 h2
  have hdn := isq_spec m0 m1
  unfold quoB at h ⊢
  simp only at h ⊢
  by_cases hlt : isq (nrm d e) ≤ f
  · rw [if_pos hlt] at h; cases h
  · simp only [if_neg hlt] at h ⊢
    obtain ⟨e0, e1, e2, b1, b2, b3⟩ := outB_ok h
    rw [e0, e1, e2]
    have hi := isq_pos m0 m1 (show 1 ≤ isq (nrm d e) by have := h2.2.2.1; omega)
    have r1 := quo_spec (n := a * d + b * e) (m := oneB) (d := nrm d e) (by omega) (by omega)
    have r2 := quo_spec (n := b * d - a * e) (m := oneB) (d := nrm d e) (by omega) (by omega)
    have ho := one_bnd (flgI (a * d + b * e) oneB (nrm d e)) (flgI (b * d - a * e) oneB (nrm d e))
    have hu1 := isqU_spec n0 n1
    have hu2 := isqU_spec m0 m1
    have hdp : 0 < (isq (nrm d e) - f) * isq (nrm d e) := Int.mul_pos (by omega) (by have := h2.2.2.1; omega)
    have r3 := quu_spec (n := c * isqU (nrm d e) + isqU (nrm a b) * f) (m := oneB) (d := (isq (nrm d e) - f) * isq (nrm d e)) hdp
      (Int.mul_nonneg (Int.add_nonneg (Int.mul_nonneg h1.2.2.1 hu2.1) (Int.mul_nonneg hu1.1 h2.2.2.1)) (by decide)) (by omega)
    refine cont_quot hc hc' (u := isqU (nrm a b)) (u' := isqU (nrm d e)) (dn := isq (nrm d e)) (by decide) hu1 hu2 ho.1 ⟨hdn.1, hdn.2.1⟩ (by omega) r3.1 ?_ ?_
    · rw [Int.mul_comm oneB, Int.mul_comm (quuI _ _ _)]
      exact r3.2
    · rw [Int.mul_comm oneB (a * d + b * e), Int.mul_comm oneB (b * d - a * e)]
      refine nrm_err ⟨r1.1, r1.2.1⟩ ⟨r2.1, r2.2.1⟩ ?_
      unfold oneI
      split
      · rename_i hz
        exact .inl ⟨rfl, r1.2.2 hz.1, r2.2.2 hz.2⟩
      · exact .inr rfl
/-- The balls of the law: parts of at most four, radii of at most 1000. -/
def SIn (a b c : Int) : Prop := (-4194304 ≤ a ∧ a ≤ 4194304) ∧ (-4194304 ≤ b ∧ b ≤ 4194304) ∧ 0 ≤ c ∧ c ≤ 1000
theorem SIn.big {a b c : Int} (h : SIn a b c) : BIn a b c := ⟨by have := h.1; omega, by have := h.2.1; omega, by have := h.2.2; omega⟩
theorem tim_small {a b c d e f : Int} (h1 : SIn a b c) (h2 : SIn d e f) : timB a b c d e f 3 = 0 ∧ (-33554432 ≤ timB a b c d e f 0 ∧ timB a b c d e f 0 ≤ 33554432) ∧ (-33554432 ≤ timB a b c d e f 1 ∧ timB a b c d e f 1 ≤ 33554432) ∧ 0 ≤ timB a b c d e f 2 ∧ timB a b c d e f 2 ≤ 33554432 := by
  obtain ⟨p1, p2, p3⟩ := id h1
  obtain ⟨q1, q2, q3⟩ := id h2
  have m1 := mulLe p1 q1
  have m2 := mulLe p2 q2
  have m3 := mulLe p1 q2
  have m4 := mulLe p2 q1
  have i1 := isq_big (nrm_bnd h1.big.1 h1.big.2.1)
  have i2 := isq_big (nrm_bnd h2.big.1 h2.big.2.1)
  have m5 := mulLe (x := isqU (nrm a b)) (y := f) (A := 134217728) (B := 1000) (by omega) (by omega)
  have m6 := mulLe (x := isqU (nrm d e)) (y := c) (A := 134217728) (B := 1000) (by omega) (by omega)
  have m7 := mulLe (x := c) (y := f) (A := 1000) (B := 1000) (by omega) (by omega)
  have n5 : 0 ≤ isqU (nrm a b) * f := Int.mul_nonneg (by omega) q3.1
  have n6 : 0 ≤ isqU (nrm d e) * c := Int.mul_nonneg (by omega) p3.1
  have n7 : 0 ≤ c * f := Int.mul_nonneg p3.1 q3.1
  have ho := one_bnd ((a * d - b * e) % oneB) ((a * e + b * d) % oneB)
  have k1 : -33554432 ≤ timR a b c d e f ∧ timR a b c d e f ≤ 33554432 := by unfold timR rndI oneB; omega
  have k2 : -33554432 ≤ timI a b c d e f ∧ timI a b c d e f ≤ 33554432 := by unfold timI rndI oneB; omega
  have k3 := ceilOne (n := isqU (nrm a b) * f + isqU (nrm d e) * c + c * f) (A := 1000000) (by omega) (by omega)
  have k4 : 0 ≤ timL a b c d e f ∧ timL a b c d e f ≤ 33554432 := by unfold timL; omega
  have h3 : timB a b c d e f 3 = 0 := outB_of ⟨by omega, by omega, by omega⟩
  obtain ⟨e0, e1, e2, _⟩ := outB_ok h3
  have e0 : timB a b c d e f 0 = timR a b c d e f := e0
  have e1 : timB a b c d e f 1 = timI a b c d e f := e1
  have e2 : timB a b c d e f 2 = timL a b c d e f := e2
  rw [e0, e1, e2]
  exact ⟨h3, k1, k2, k4⟩
theorem tim_big {a b c d e f : Int} (h1 : SIn a b c) (h2 : SIn d e f) : BIn (timB a b c d e f 0) (timB a b c d e f 1) (timB a b c d e f 2) := by
  obtain ⟨_, k1, k2, k3⟩ := tim_small h1 h2
  exact ⟨by omega, by omega, by omega⟩
theorem tim_in (a b c d e f : Int) : BIn (timB a b c d e f 0) (timB a b c d e f 1) (timB a b c d e f 2) ∧ (timB a b c d e f 3 = 0 ∨ timB a b c d e f 3 = 8) := outB_in _ _ _
section
variable {a b c d e f g h r : Int} (ha : SIn a b c) (hb : SIn d e f) (hc : SIn g h r)
include ha hb
theorem sum_in : BIn (a + d) (b + e) (c + f) ∧ BIn (a - d) (b - e) (c + f) := by
  obtain ⟨p1, p2, p3⟩ := ha
  obtain ⟨q1, q2, q3⟩ := hb
  exact ⟨⟨by omega, by omega, by omega⟩, by omega, by omega, by omega⟩
theorem meet1 (h0 : timB (a + d) (b + e) (c + f) (a - d) (b - e) (c + f) 3 = 0) :
    nrm (timB (a + d) (b + e) (c + f) (a - d) (b - e) (c + f) 0 - (timB a b c a b c 0 - timB d e f d e f 0)) (timB (a + d) (b + e) (c + f) (a - d) (b - e) (c + f) 1 - (timB a b c a b c 1 - timB d e f d e f 1))
      ≤ (timB (a + d) (b + e) (c + f) (a - d) (b - e) (c + f) 2 + (timB a b c a b c 2 + timB d e f d e f 2)) * (timB (a + d) (b + e) (c + f) (a - d) (b - e) (c + f) 2 + (timB a b c a b c 2 + timB d e f d e f 2)) := by
  obtain ⟨s1, s2⟩ := sum_in ha hb
  have c1 := timB_cont s1 s2 h0 (cont_self s1.2.2.1) (cont_self s2.2.2.1)
  have c2 := timB_cont ha.big ha.big (tim_small ha ha).1 (cont_self ha.2.2.1) (cont_self ha.2.2.1)
  have c3 := timB_cont hb.big hb.big (tim_small hb hb).1 (cont_self hb.2.2.1) (cont_self hb.2.2.1)
  refine cont_meets c1 (cont_minus c2 c3) ?_ ?_
  · have e1 : (a + d) * (a - d) - (b + e) * (b - e) = (a * a - b * b) - (d * d - e * e) := by
      simp only [Int.mul_sub, Int.add_mul]
      simp only [Int.mul_comm]
      omega
    rw [e1, ← Int.sub_mul]
    simp only [Int.mul_assoc]
  · have e1 : (a + d) * (b - e) + (b + e) * (a - d) = (a * b + b * a) - (d * e + e * d) := by
      simp only [Int.mul_sub, Int.add_mul]
      simp only [Int.mul_comm]
      omega
    rw [e1, ← Int.sub_mul]
    simp only [Int.mul_assoc]
theorem meet5 (h0 : timB a (-b) c d (-e) f 3 = 0) :
    nrm (timB a b c d e f 0 - timB a (-b) c d (-e) f 0) (-timB a b c d e f 1 - timB a (-b) c d (-e) f 1) ≤ (timB a b c d e f 2 + timB a (-b) c d (-e) f 2) * (timB a b c d e f 2 + timB a (-b) c d (-e) f 2) := by
  have c1 := timB_cont ha.big hb.big (tim_small ha hb).1 (cont_self ha.2.2.1) (cont_self hb.2.2.1)
  have ha' : BIn a (-b) c := ⟨by have := ha.1; omega, by have := ha.2.1; omega, by have := ha.2.2; omega⟩
  have hb' : BIn d (-e) f := ⟨by have := hb.1; omega, by have := hb.2.1; omega, by have := hb.2.2; omega⟩
  have c2 := timB_cont ha' hb' h0 (cont_self ha.2.2.1) (cont_self hb.2.2.1)
  refine cont_meets (cont_conj c1) c2 ?_ ?_
  · rw [Int.neg_mul_neg]
  · congr 1
    rw [Int.mul_neg, Int.neg_mul]; omega
include hc
theorem meet2 (h0 : timB (a + d) (b + e) (c + f) g h r 3 = 0) :
    nrm (timB (a + d) (b + e) (c + f) g h r 0 - (timB a b c g h r 0 + timB d e f g h r 0)) (timB (a + d) (b + e) (c + f) g h r 1 - (timB a b c g h r 1 + timB d e f g h r 1))
      ≤ (timB (a + d) (b + e) (c + f) g h r 2 + (timB a b c g h r 2 + timB d e f g h r 2)) * (timB (a + d) (b + e) (c + f) g h r 2 + (timB a b c g h r 2 + timB d e f g h r 2)) := by
  obtain ⟨s1, s2⟩ := sum_in ha hb
  have c1 := timB_cont s1 hc.big h0 (cont_self s1.2.2.1) (cont_self hc.2.2.1)
  have c2 := timB_cont ha.big hc.big (tim_small ha hc).1 (cont_self ha.2.2.1) (cont_self hc.2.2.1)
  have c3 := timB_cont hb.big hc.big (tim_small hb hc).1 (cont_self hb.2.2.1) (cont_self hc.2.2.1)
  refine cont_meets c1 (cont_plus c2 c3) ?_ ?_
  · have e1 : (a + d) * g - (b + e) * h = (a * g - b * h) + (d * g - e * h) := by
      simp only [Int.add_mul]; omega
    rw [e1, ← Int.add_mul]
    simp only [Int.mul_assoc]
  · have e1 : (a + d) * h + (b + e) * g = (a * h + b * g) + (d * h + e * g) := by
      simp only [Int.add_mul]; omega
    rw [e1, ← Int.add_mul]
    simp only [Int.mul_assoc]
theorem meet3 (h0 : timB (timB a b c d e f 0) (timB a b c d e f 1) (timB a b c d e f 2) g h r 3 = 0) (h1 : timB a b c (timB d e f g h r 0) (timB d e f g h r 1) (timB d e f g h r 2) 3 = 0) :
    nrm (timB (timB a b c d e f 0) (timB a b c d e f 1) (timB a b c d e f 2) g h r 0 - timB a b c (timB d e f g h r 0) (timB d e f g h r 1) (timB d e f g h r 2) 0)
      (timB (timB a b c d e f 0) (timB a b c d e f 1) (timB a b c d e f 2) g h r 1 - timB a b c (timB d e f g h r 0) (timB d e f g h r 1) (timB d e f g h r 2) 1)
      ≤ (timB (timB a b c d e f 0) (timB a b c d e f 1) (timB a b c d e f 2) g h r 2 + timB a b c (timB d e f g h r 0) (timB d e f g h r 1) (timB d e f g h r 2) 2)
        * (timB (timB a b c d e f 0) (timB a b c d e f 1) (timB a b c d e f 2) g h r 2 + timB a b c (timB d e f g h r 0) (timB d e f g h r 1) (timB d e f g h r 2) 2) := by
  have c1 := timB_cont ha.big hb.big (tim_small ha hb).1 (cont_self ha.2.2.1) (cont_self hb.2.2.1)
  have c2 := timB_cont hb.big hc.big (tim_small hb hc).1 (cont_self hb.2.2.1) (cont_self hc.2.2.1)
  have c3 := timB_cont (tim_big ha hb) hc.big h0 c1 (cont_self hc.2.2.1)
  have c4 := timB_cont ha.big (tim_big hb hc) h1 (cont_self ha.2.2.1) c2
  refine cont_meets c3 c4 ?_ ?_
  · have e1 : (a * d - b * e) * g - (a * e + b * d) * h = a * (d * g - e * h) - b * (d * h + e * g) := by
      simp only [Int.sub_mul, Int.add_mul, Int.mul_sub, Int.mul_add, Int.mul_assoc]; omega
    rw [e1]
    simp only [Int.mul_one, Int.one_mul]
  · have e1 : (a * d - b * e) * h + (a * e + b * d) * g = a * (d * h + e * g) + b * (d * g - e * h) := by
      simp only [Int.sub_mul, Int.add_mul, Int.mul_sub, Int.mul_add, Int.mul_assoc]; omega
    rw [e1]
    simp only [Int.mul_one, Int.one_mul]
theorem meet4 (h0 : quoB a b c d e f 3 = 0) (h1 : quoB (quoB a b c d e f 0) (quoB a b c d e f 1) (quoB a b c d e f 2) g h r 3 = 0) (h2 : quoB a b c (timB d e f g h r 0) (timB d e f g h r 1) (timB d e f g h r 2) 3 = 0) :
    nrm (quoB (quoB a b c d e f 0) (quoB a b c d e f 1) (quoB a b c d e f 2) g h r 0 - quoB a b c (timB d e f g h r 0) (timB d e f g h r 1) (timB d e f g h r 2) 0)
      (quoB (quoB a b c d e f 0) (quoB a b c d e f 1) (quoB a b c d e f 2) g h r 1 - quoB a b c (timB d e f g h r 0) (timB d e f g h r 1) (timB d e f g h r 2) 1)
      ≤ (quoB (quoB a b c d e f 0) (quoB a b c d e f 1) (quoB a b c d e f 2) g h r 2 + quoB a b c (timB d e f g h r 0) (timB d e f g h r 1) (timB d e f g h r 2) 2)
        * (quoB (quoB a b c d e f 0) (quoB a b c d e f 1) (quoB a b c d e f 2) g h r 2 + quoB a b c (timB d e f g h r 0) (timB d e f g h r 1) (timB d e f g h r 2) 2) := by
  have c1 := quoB_cont ha.big hb.big h0 (cont_self ha.2.2.1) (cont_self hb.2.2.1)
  have c2 := timB_cont hb.big hc.big (tim_small hb hc).1 (cont_self hb.2.2.1) (cont_self hc.2.2.1)
  have c3 := quoB_cont (quoB_in a b c d e f).1 hc.big h1 c1 (cont_self hc.2.2.1)
  have c4 := quoB_cont ha.big (tim_big hb hc) h2 (cont_self ha.2.2.1) c2
  have en := nrm_mul d e g h
  refine cont_meets c3 c4 ?_ ?_
  · have e1 : (a * d + b * e) * g + (b * d - a * e) * h = a * (d * g - e * h) + b * (d * h + e * g) := by
      simp only [Int.sub_mul, Int.add_mul, Int.mul_sub, Int.mul_add, Int.mul_assoc]; omega
    rw [en, ← e1]
    simp only [Int.mul_one, Int.one_mul]
    rw [Int.mul_assoc oneB (a * d + b * e) g, Int.mul_assoc oneB (b * d - a * e) h, ← Int.mul_add oneB]
    generalize (a * d + b * e) * g + (b * d - a * e) * h = X
    simp only [Int.mul_assoc]
  · have e1 : (b * d - a * e) * g - (a * d + b * e) * h = b * (d * g - e * h) - a * (d * h + e * g) := by
      simp only [Int.sub_mul, Int.add_mul, Int.mul_sub, Int.mul_add, Int.mul_assoc]; omega
    rw [en, ← e1]
    simp only [Int.mul_one, Int.one_mul]
    rw [Int.mul_assoc oneB (a * d + b * e) h, Int.mul_assoc oneB (b * d - a * e) g, ← Int.mul_sub oneB]
    generalize (b * d - a * e) * g - (a * d + b * e) * h = X
    simp only [Int.mul_assoc]
end
end Go.Ex

