/-
  Plain facts of balls: discs of the plane with whole centres and radii, and the numbers (fractions) that they contain.
-/
/-
  What the whole-number functions of balls calculate, and what is so of it.
-/
import Derived.Test.YtoheddhbcpjmkaaExP1
import Ieee.Arith

namespace Go.Ex
open Go
def nrm (x y : Int) : Int := x * x + y * y
theorem sqz (x : Int) : 0 ≤ x * x := by
  rcases Int.le_total 0 x with h | h
  · exact Int.mul_nonneg h h
  · exact Int.mul_nonneg_of_nonpos_of_nonpos h h
theorem nrm_nonneg (x y : Int) : 0 ≤ nrm x y := by
  have := sqz x; have := sqz y; unfold nrm; omega
theorem nrm_mul (a b c d : Int) : nrm (a * c - b * d) (a * d + b * c) = nrm a b * nrm c d := by
  unfold nrm
  simp only [Int.mul_add, Int.add_mul, Int.mul_sub, Int.sub_mul]
  simp only [Int.mul_left_comm, Int.mul_comm]
  omega
theorem nrm_cs (a b c d : Int) : (a * c + b * d) * (a * c + b * d) ≤ nrm a b * nrm c d := by
  have h := nrm_mul a b c (-d)
  have e : nrm c (-d) = nrm c d := by unfold nrm; rw [Int.neg_mul_neg]
  rw [e] at h
  have h0 := sqz (a * -d + b * c)
  have e1 : a * c - b * -d = a * c + b * d := by rw [Int.mul_neg]; omega
  rw [e1] at h
  unfold nrm at h ⊢
  omega
theorem nrm_scale (k x y : Int) : nrm (k * x) (k * y) = k * k * nrm x y := by
  unfold nrm
  simp only [Int.mul_add]
  simp only [Int.mul_assoc, Int.mul_left_comm]
theorem mul_self_le {a b : Int} (ha : 0 ≤ a) (h : a ≤ b) : a * a ≤ b * b := Int.mul_le_mul h h ha (by omega)
theorem mul_self_lt {a b : Int} (ha : 0 ≤ a) (h : a < b) : a * a < b * b := by
  have h1 : (a + 1) * (a + 1) ≤ b * b := mul_self_le (by omega) (by omega)
  simp only [Int.mul_add, Int.add_mul, Int.mul_one, Int.one_mul] at h1
  omega
theorem le_of_sq {a b : Int} (hb : 0 ≤ b) (h : a * a ≤ b * b) : a ≤ b := by
  by_cases hc : a ≤ b
  · exact hc
  · have := mul_self_lt hb (show b < a by omega); omega
theorem dot_le {a b c d A B : Int} (hA : 0 ≤ A) (hB : 0 ≤ B) (h1 : nrm a b ≤ A * A) (h2 : nrm c d ≤ B * B) : a * c + b * d ≤ A * B := by
  refine le_of_sq (Int.mul_nonneg hA hB) ?_
  have h3 := nrm_cs a b c d
  have h4 := Int.mul_le_mul h1 h2 (nrm_nonneg c d) (Int.mul_nonneg hA hA)
  have e : A * A * (B * B) = A * B * (A * B) := by simp only [Int.mul_assoc, Int.mul_left_comm]
  omega
theorem nrm_add (a b c d : Int) : nrm (a + c) (b + d) = nrm a b + nrm c d + 2 * (a * c + b * d) := by
  unfold nrm
  simp only [Int.mul_add, Int.add_mul]
  rw [Int.mul_comm c a, Int.mul_comm d b]
  omega
theorem add_sq (A B : Int) : (A + B) * (A + B) = A * A + B * B + 2 * (A * B) := by
  simp only [Int.mul_add, Int.add_mul]
  rw [Int.mul_comm B A]
  omega
theorem tri {a b c d A B : Int} (hA : 0 ≤ A) (hB : 0 ≤ B) (h1 : nrm a b ≤ A * A) (h2 : nrm c d ≤ B * B) : nrm (a + c) (b + d) ≤ (A + B) * (A + B) := by
  rw [nrm_add, add_sq]
  have := dot_le hA hB h1 h2
  omega
theorem tri_lt {a b c d A B : Int} (hA : 0 ≤ A) (hB : 0 ≤ B) (h1 : nrm a b < A * A) (h2 : nrm c d ≤ B * B) : nrm (a + c) (b + d) < (A + B) * (A + B) := by
  rw [nrm_add, add_sq]
  have := dot_le hA hB (Int.le_of_lt h1) h2
  omega
theorem nrm_neg (a b : Int) : nrm (-a) (-b) = nrm a b := by unfold nrm; rw [Int.neg_mul_neg, Int.neg_mul_neg]
theorem nrm_sc_le {k a b A : Int} (h : nrm a b ≤ A * A) : nrm (k * a) (k * b) ≤ (k * A) * (k * A) := by
  rw [nrm_scale]
  have h1 := Int.mul_le_mul_of_nonneg_left h (sqz k)
  have e : k * k * (A * A) = k * A * (k * A) := by simp only [Int.mul_assoc, Int.mul_left_comm]
  omega

/-- The disc with this centre and radius contains the number (x + y i) / q. -/
def Cont (re im r x y q : Int) : Prop := 0 < q ∧ 0 ≤ r ∧ nrm (x - q * re) (y - q * im) ≤ (q * r) * (q * r)
theorem cont_plus {re im r x y q re' im' r' x' y' q' : Int} (h : Cont re im r x y q) (h' : Cont re' im' r' x' y' q') : Cont (re + re') (im + im') (r + r') (x * q' + x' * q) (y * q' + y' * q) (q * q') := by
  obtain ⟨a1, a2, a3⟩ := h
  obtain ⟨b1, b2, b3⟩ := h'
  refine ⟨Int.mul_pos a1 b1, by omega, ?_⟩
  have e1 : x * q' + x' * q - q * q' * (re + re') = q' * (x - q * re) + q * (x' - q' * re') := by
    simp only [Int.mul_add, Int.mul_sub]
    simp only [Int.mul_left_comm, Int.mul_comm]
    omega
  have e2 : y * q' + y' * q - q * q' * (im + im') = q' * (y - q * im) + q * (y' - q' * im') := by
    simp only [Int.mul_add, Int.mul_sub]
    simp only [Int.mul_left_comm, Int.mul_comm]
    omega
  have e3 : q * q' * (r + r') = q' * (q * r) + q * (q' * r') := by
    simp only [Int.mul_add]
    simp only [Int.mul_assoc, Int.mul_left_comm]
  rw [e1, e2, e3]
  exact tri (Int.mul_nonneg (by omega) (Int.mul_nonneg (by omega) a2)) (Int.mul_nonneg (by omega) (Int.mul_nonneg (by omega) b2)) (nrm_sc_le a3) (nrm_sc_le b3)
theorem cont_neg {re im r x y q : Int} (h : Cont re im r x y q) : Cont (-re) (-im) r (-x) (-y) q := by
  obtain ⟨a1, a2, a3⟩ := h
  refine ⟨a1, a2, ?_⟩
  have e1 : -x - q * -re = -(x - q * re) := by rw [Int.mul_neg]; omega
  have e2 : -y - q * -im = -(y - q * im) := by rw [Int.mul_neg]; omega
  rw [e1, e2, nrm_neg]
  exact a3
theorem cont_minus {re im r x y q re' im' r' x' y' q' : Int} (h : Cont re im r x y q) (h' : Cont re' im' r' x' y' q') : Cont (re - re') (im - im') (r + r') (x * q' - x' * q) (y * q' - y' * q) (q * q') := by
  have := cont_plus h (cont_neg h')
  rw [Int.neg_mul, Int.neg_mul] at this
  exact this
theorem cont_conj {re im r x y q : Int} (h : Cont re im r x y q) : Cont re (-im) r x (-y) q := by
  obtain ⟨a1, a2, a3⟩ := h
  refine ⟨a1, a2, ?_⟩
  have e2 : -y - q * -im = -(y - q * im) := by rw [Int.mul_neg]; omega
  rw [e2]
  have : nrm (x - q * re) (-(y - q * im)) = nrm (x - q * re) (y - q * im) := by unfold nrm; rw [Int.neg_mul_neg]
  rw [this]
  exact a3
theorem sq_le_mul {n A k B : Int} (hn : n ≤ A * A) (hk : 0 ≤ k) (hkB : k ≤ B * B) : n * k ≤ A * B * (A * B) := by
  have h1 := Int.mul_le_mul_of_nonneg_right hn hk
  have h2 := Int.mul_le_mul_of_nonneg_left hkB (sqz A)
  have e : A * A * (B * B) = A * B * (A * B) := by simp only [Int.mul_assoc, Int.mul_left_comm]
  omega
theorem cont_times {re im r x y q re' im' r' x' y' q' u u' cr ci cl e one : Int} (h : Cont re im r x y q) (h' : Cont re' im' r' x' y' q') (hone : 0 < one) (hu : 0 ≤ u ∧ nrm re im ≤ u * u) (hu' : 0 ≤ u' ∧ nrm re' im' ≤ u' * u') (he : 0 ≤ e)
    (hc : nrm (re * re' - im * im' - one * cr) (re * im' + im * re' - one * ci) ≤ (one * e) * (one * e)) (hcl : u * r' + u' * r + r * r' ≤ one * cl) :
    Cont cr ci (cl + e) (x * x' - y * y') (x * y' + y * x') (q * q' * one) := by
  obtain ⟨a1, a2, a3⟩ := h
  obtain ⟨b1, b2, b3⟩ := h'
  have hq := Int.mul_pos a1 b1
  have hcl0 : 0 ≤ cl := by
    have h1 := Int.mul_nonneg hu.1 b2
    have h2 := Int.mul_nonneg hu'.1 a2
    have h3 := Int.mul_nonneg a2 b2
    by_cases hc : 0 ≤ cl
    · exact hc
    · have := Int.mul_pos hone (show 0 < -cl by omega)
      rw [Int.mul_neg] at this
      omega
  refine ⟨Int.mul_pos hq hone, by omega, ?_⟩
  obtain ⟨p, hp⟩ : ∃ p, p = x - q * re := ⟨_, rfl⟩
  obtain ⟨s, hs⟩ : ∃ s, s = y - q * im := ⟨_, rfl⟩
  obtain ⟨p', hp'⟩ : ∃ p, p = x' - q' * re' := ⟨_, rfl⟩
  obtain ⟨s', hs'⟩ : ∃ s, s = y' - q' * im' := ⟨_, rfl⟩
  rw [← hp, ← hs] at a3
  rw [← hp', ← hs'] at b3
  have ex : x = q * re + p := by omega
  have ey : y = q * im + s := by omega
  have ex' : x' = q' * re' + p' := by omega
  have ey' : y' = q' * im' + s' := by omega
  -- the four parts
  have t1 := nrm_sc_le (k := q * q') hc
  have t2 : nrm (q * re * p' - q * im * s') (q * re * s' + q * im * p') ≤ (q * u * (q' * r')) * (q * u * (q' * r')) := by
    rw [nrm_mul]
    exact sq_le_mul (nrm_sc_le hu.2) (nrm_nonneg _ _) b3
  have t3 : nrm (p * (q' * re') - s * (q' * im')) (p * (q' * im') + s * (q' * re')) ≤ (q * r * (q' * u')) * (q * r * (q' * u')) := by
    rw [nrm_mul]
    exact sq_le_mul a3 (nrm_nonneg _ _) (nrm_sc_le hu'.2)
  have t4 : nrm (p * p' - s * s') (p * s' + s * p') ≤ (q * r * (q' * r')) * (q * r * (q' * r')) := by
    rw [nrm_mul]
    exact sq_le_mul a3 (nrm_nonneg _ _) b3
  have n1 : 0 ≤ q * q' * (one * e) := Int.mul_nonneg (by omega) (Int.mul_nonneg (by omega) he)
  have n2 : 0 ≤ q * u * (q' * r') := Int.mul_nonneg (Int.mul_nonneg (by omega) hu.1) (Int.mul_nonneg (by omega) b2)
  have n3 : 0 ≤ q * r * (q' * u') := Int.mul_nonneg (Int.mul_nonneg (by omega) a2) (Int.mul_nonneg (by omega) hu'.1)
  have n4 : 0 ≤ q * r * (q' * r') := Int.mul_nonneg (Int.mul_nonneg (by omega) a2) (Int.mul_nonneg (by omega) b2)
  have t := tri (by omega) (by omega) (tri n1 n2 t1 t2) (tri n3 n4 t3 t4)
  have f1 : x * x' - y * y' - q * q' * one * cr = q * q' * (re * re' - im * im' - one * cr) + (q * re * p' - q * im * s') + (p * (q' * re') - s * (q' * im') + (p * p' - s * s')) := by
    rw [ex, ey, ex', ey']
    simp only [Int.mul_add, Int.add_mul, Int.mul_sub]
    simp only [Int.mul_left_comm, Int.mul_comm]
    omega
  have f2 : x * y' + y * x' - q * q' * one * ci = q * q' * (re * im' + im * re' - one * ci) + (q * re * s' + q * im * p') + (p * (q' * im') + s * (q' * re') + (p * s' + s * p')) := by
    rw [ex, ey, ex', ey']
    simp only [Int.mul_add, Int.add_mul, Int.mul_sub]
    simp only [Int.mul_left_comm, Int.mul_comm]
    omega
  rw [f1, f2]
  refine Int.le_trans t (mul_self_le (by omega) ?_)
  have g1 : q * q' * (one * e) + q * u * (q' * r') + (q * r * (q' * u') + q * r * (q' * r')) = q * q' * (u * r' + u' * r + r * r') + q * q' * one * e := by
    simp only [Int.mul_add]
    simp only [Int.mul_left_comm, Int.mul_comm]
    omega
  have g2 : q * q' * one * (cl + e) = q * q' * (one * cl) + q * q' * one * e := by
    rw [Int.mul_add]; simp only [Int.mul_assoc]
  rw [g1, g2]
  have := Int.mul_le_mul_of_nonneg_left hcl (Int.le_of_lt hq)
  omega
theorem cont_meets {re im r x y q re' im' r' x' y' q' : Int} (h : Cont re im r x y q) (h' : Cont re' im' r' x' y' q') (ex : x * q' = x' * q) (ey : y * q' = y' * q) : nrm (re - re') (im - im') ≤ (r + r') * (r + r') := by
  obtain ⟨a1, a2, a3⟩ := h
  obtain ⟨b1, b2, b3⟩ := h'
  have hq := Int.mul_pos a1 b1
  have t := tri (Int.mul_nonneg (by omega) (Int.mul_nonneg (by omega) b2)) (Int.mul_nonneg (by omega) (Int.mul_nonneg (by omega) a2)) (nrm_sc_le (k := q) b3) (nrm_sc_le (k := q') (A := q * r) (a := -(x - q * re)) (b := -(y - q * im)) (by rw [nrm_neg]; exact a3))
  have e1 : q * (x' - q' * re') + q' * -(x - q * re) = q * q' * (re - re') := by
    have : q * x' = q' * x := by rw [Int.mul_comm q x', ← ex, Int.mul_comm]
    simp only [Int.mul_sub, Int.mul_neg, this]
    simp only [Int.mul_left_comm, Int.mul_comm]
    omega
  have e2 : q * (y' - q' * im') + q' * -(y - q * im) = q * q' * (im - im') := by
    have : q * y' = q' * y := by rw [Int.mul_comm q y', ← ey, Int.mul_comm]
    simp only [Int.mul_sub, Int.mul_neg, this]
    simp only [Int.mul_left_comm, Int.mul_comm]
    omega
  have e3 : q * (q' * r') + q' * (q * r) = q * q' * (r + r') := by
    simp only [Int.mul_add]
    simp only [Int.mul_assoc, Int.mul_left_comm]
    omega
  rw [e1, e2, e3, nrm_scale] at t
  have e4 : q * q' * (r + r') * (q * q' * (r + r')) = q * q' * (q * q') * ((r + r') * (r + r')) := by
    simp only [Int.mul_assoc, Int.mul_left_comm]
  rw [e4] at t
  exact Int.le_of_mul_le_mul_left t (Int.mul_pos hq hq)
theorem cont_quot {re im r x y q re' im' r' x' y' q' u u' dn cr ci R0 e one : Int} (h : Cont re im r x y q) (h' : Cont re' im' r' x' y' q') (hone : 0 < one) (hu : 0 ≤ u ∧ nrm re im ≤ u * u) (hu' : 0 ≤ u' ∧ nrm re' im' ≤ u' * u') (he : 0 ≤ e)
    (hdn : 0 ≤ dn ∧ dn * dn ≤ nrm re' im') (hlt : r' < dn) (hR : 0 ≤ R0) (hR0 : one * (r * u' + u * r') ≤ R0 * ((dn - r') * dn))
    (hc : nrm (one * (re * re' + im * im') - nrm re' im' * cr) (one * (im * re' - re * im') - nrm re' im' * ci) ≤ (nrm re' im' * e) * (nrm re' im' * e)) :
    Cont cr ci (R0 + e) (one * q' * (x * x' + y * y')) (one * q' * (y * x' - x * y')) (q * nrm x' y') := by
  obtain ⟨a1, a2, a3⟩ := h
  obtain ⟨b1, b2, b3⟩ := h'
  obtain ⟨M, hM⟩ : ∃ M, M = nrm re' im' := ⟨_, rfl⟩
  obtain ⟨N, hN⟩ : ∃ N, N = nrm x' y' := ⟨_, rfl⟩
  rw [← hM] at hc hdn
  rw [← hN]
  have hdp : 0 < dn - r' := by omega
  have hMp : 0 < M := by
    have := Int.mul_le_mul (show (1 : Int) ≤ dn by omega) (show (1 : Int) ≤ dn by omega) (by omega) (by omega)
    omega
  -- the number is not too small
  have hNl : (q' * (dn - r')) * (q' * (dn - r')) ≤ N := by
    by_cases hc : (q' * (dn - r')) * (q' * (dn - r')) ≤ N
    · exact hc
    · exfalso
      have hlt' : nrm x' y' < (q' * (dn - r')) * (q' * (dn - r')) := by rw [← hN]; omega
      have t := tri_lt (A := q' * (dn - r')) (B := q' * r') (Int.mul_nonneg (by omega) (by omega)) (Int.mul_nonneg (by omega) b2) hlt' (c := -(x' - q' * re')) (d := -(y' - q' * im')) (by rw [nrm_neg]; exact b3)
      have e1 : x' + -(x' - q' * re') = q' * re' := by omega
      have e2 : y' + -(y' - q' * im') = q' * im' := by omega
      have e3 : q' * (dn - r') + q' * r' = q' * dn := by rw [← Int.mul_add]; congr 1; omega
      rw [e1, e2, e3, nrm_scale, ← hM] at t
      have h1 := Int.mul_le_mul_of_nonneg_left hdn.2 (sqz q')
      have e4 : q' * dn * (q' * dn) = q' * q' * (dn * dn) := by simp only [Int.mul_assoc, Int.mul_left_comm]
      omega
  have hNp : 0 < N := by
    have h1 := Int.mul_pos b1 hdp
    have := Int.mul_pos h1 h1
    omega
  have hQ := Int.mul_pos a1 hNp
  refine ⟨hQ, by omega, ?_⟩
  obtain ⟨p, hp⟩ : ∃ p, p = x - q * re := ⟨_, rfl⟩
  obtain ⟨s, hs⟩ : ∃ s, s = y - q * im := ⟨_, rfl⟩
  obtain ⟨p', hp'⟩ : ∃ p, p = x' - q' * re' := ⟨_, rfl⟩
  obtain ⟨s', hs'⟩ : ∃ s, s = y' - q' * im' := ⟨_, rfl⟩
  rw [← hp, ← hs] at a3
  rw [← hp', ← hs'] at b3
  -- t = q' c2 u - q c1 v
  obtain ⟨tx, htx⟩ : ∃ t, t = q' * (re' * p - im' * s) - q * (re * p' - im * s') := ⟨_, rfl⟩
  obtain ⟨ty, hty⟩ : ∃ t, t = q' * (re' * s + im' * p) - q * (re * s' + im * p') := ⟨_, rfl⟩
  have ht : nrm tx ty ≤ (q * q' * (r * u' + u * r')) * (q * q' * (r * u' + u * r')) := by
    have t1 : nrm (q' * (re' * p - im' * s)) (q' * (re' * s + im' * p)) ≤ (q' * (u' * (q * r))) * (q' * (u' * (q * r))) := nrm_sc_le (by rw [nrm_mul]; exact sq_le_mul hu'.2 (nrm_nonneg _ _) a3)
    have t2 : nrm (q * (re * p' - im * s')) (q * (re * s' + im * p')) ≤ (q * (u * (q' * r'))) * (q * (u * (q' * r'))) := nrm_sc_le (by rw [nrm_mul]; exact sq_le_mul hu.2 (nrm_nonneg _ _) b3)
    have n1 : 0 ≤ q' * (u' * (q * r)) := Int.mul_nonneg (by omega) (Int.mul_nonneg hu'.1 (Int.mul_nonneg (by omega) a2))
    have n2 : 0 ≤ q * (u * (q' * r')) := Int.mul_nonneg (by omega) (Int.mul_nonneg hu.1 (Int.mul_nonneg (by omega) b2))
    have t := tri n1 n2 t1 (by rw [← nrm_neg] at t2; exact t2)
    have e1 : q' * (u' * (q * r)) + q * (u * (q' * r')) = q * q' * (r * u' + u * r') := by
      simp only [Int.mul_add]
      simp only [Int.mul_left_comm, Int.mul_comm]
    rw [e1] at t
    rw [htx, hty]
    exact t
  -- M (P - Q c) = one conj(P2) conj(c2) t + Q w
  have f1 : M * (one * q' * (x * x' + y * y') - q * N * cr) = one * ((x' * re' - y' * im') * tx + (x' * im' + y' * re') * ty) + q * N * (one * (re * re' + im * im') - M * cr) := by
    rw [htx, hty, hp, hs, hp', hs', hM, hN]
    unfold nrm
    simp only [Int.mul_add, Int.add_mul, Int.mul_sub, Int.sub_mul]
    simp only [Int.mul_left_comm, Int.mul_comm]
    omega
  have f2 : M * (one * q' * (y * x' - x * y') - q * N * ci) = one * ((x' * re' - y' * im') * ty - (x' * im' + y' * re') * tx) + q * N * (one * (im * re' - re * im') - M * ci) := by
    rw [htx, hty, hp, hs, hp', hs', hM, hN]
    unfold nrm
    simp only [Int.mul_add, Int.add_mul, Int.mul_sub, Int.sub_mul]
    simp only [Int.mul_left_comm, Int.mul_comm]
    omega
  have g1 : nrm (one * ((x' * re' - y' * im') * tx + (x' * im' + y' * re') * ty)) (one * ((x' * re' - y' * im') * ty - (x' * im' + y' * re') * tx)) ≤ (q * N * M * R0) * (q * N * M * R0) := by
    rw [nrm_scale]
    have e1 : nrm ((x' * re' - y' * im') * tx + (x' * im' + y' * re') * ty) ((x' * re' - y' * im') * ty - (x' * im' + y' * re') * tx) = N * M * nrm tx ty := by
      have h1 := nrm_mul (x' * re' - y' * im') (-(x' * im' + y' * re')) tx ty
      have h2 := nrm_mul x' y' re' im'
      have e2 : nrm (x' * re' - y' * im') (-(x' * im' + y' * re')) = nrm (x' * re' - y' * im') (x' * im' + y' * re') := by unfold nrm; rw [Int.neg_mul_neg]
      rw [e2, h2, ← hN, ← hM] at h1
      rw [← h1]
      congr 1
      · rw [Int.neg_mul]; omega
      · rw [Int.neg_mul]; omega
    rw [e1]
    -- one^2 (q q' L)^2 ≤ q^2 N M R0^2
    have k1 : (one * (r * u' + u * r')) * (one * (r * u' + u * r')) ≤ (R0 * ((dn - r') * dn)) * (R0 * ((dn - r') * dn)) :=
      mul_self_le (Int.mul_nonneg (by omega) (Int.add_nonneg (Int.mul_nonneg a2 hu'.1) (Int.mul_nonneg hu.1 b2))) hR0
    have k2 : (q' * (dn - r')) * (q' * (dn - r')) * (dn * dn) ≤ N * M := Int.mul_le_mul hNl hdn.2 (sqz dn) (by omega)
    have k3 := Int.mul_le_mul_of_nonneg_left k2 (sqz R0)
    have k4 := Int.mul_le_mul_of_nonneg_left k1 (sqz q')
    have k5 : q' * q' * (R0 * ((dn - r') * dn) * (R0 * ((dn - r') * dn))) = R0 * R0 * (q' * (dn - r') * (q' * (dn - r')) * (dn * dn)) := by
      ac_rfl
    have k6 : q' * q' * (one * (r * u' + u * r') * (one * (r * u' + u * r'))) ≤ R0 * R0 * (N * M) := by omega
    have k7 := Int.mul_le_mul_of_nonneg_left ht (Int.mul_nonneg (sqz one) (Int.mul_nonneg (Int.le_of_lt hNp) (Int.le_of_lt hMp)))
    have k8 := Int.mul_le_mul_of_nonneg_left k6 (Int.mul_nonneg (sqz q) (Int.mul_nonneg (Int.le_of_lt hNp) (Int.le_of_lt hMp)))
    have e3 : one * one * (N * M) * (q * q' * (r * u' + u * r') * (q * q' * (r * u' + u * r'))) = q * q * (N * M) * (q' * q' * (one * (r * u' + u * r') * (one * (r * u' + u * r')))) := by
      ac_rfl
    have e4 : q * q * (N * M) * (R0 * R0 * (N * M)) = q * N * M * R0 * (q * N * M * R0) := by
      ac_rfl
    have e5 : one * one * (N * M * nrm tx ty) = one * one * (N * M) * nrm tx ty := by simp only [Int.mul_assoc]
    omega
  have g2 := nrm_sc_le (k := q * N) hc
  have n1 : 0 ≤ q * N * M * R0 := Int.mul_nonneg (Int.mul_nonneg (Int.le_of_lt hQ) (Int.le_of_lt hMp)) hR
  have n2 : 0 ≤ q * N * (M * e) := Int.mul_nonneg (Int.le_of_lt hQ) (Int.mul_nonneg (Int.le_of_lt hMp) he)
  have t := tri n1 n2 g1 g2
  rw [← f1, ← f2, nrm_scale] at t
  have e6 : (q * N * M * R0 + q * N * (M * e)) * (q * N * M * R0 + q * N * (M * e)) = M * M * (q * N * (R0 + e) * (q * N * (R0 + e))) := by
    have : q * N * M * R0 + q * N * (M * e) = M * (q * N * (R0 + e)) := by
      simp only [Int.mul_add]
      simp only [Int.mul_left_comm, Int.mul_comm]
    rw [this]
    simp only [Int.mul_left_comm, Int.mul_comm]
  rw [e6] at t
  exact Int.le_of_mul_le_mul_left t (Int.mul_pos hMp hMp)
end Go.Ex


namespace Go.Ex
open Go Ieee

theorem rootFrom_spec (n : Nat) : ∀ (todo root : Nat), root * root ≤ n → n < (root + 2 ^ todo) * (root + 2 ^ todo) → Datum.rootFrom n todo root * Datum.rootFrom n todo root ≤ n ∧ n < (Datum.rootFrom n todo root + 1) * (Datum.rootFrom n todo root + 1)
  | 0, root, h1, h2 => ⟨h1, h2⟩
  | todo + 1, root, h1, h2 => by
    have e : 2 ^ (todo + 1) = 2 ^ todo + 2 ^ todo := by rw [Nat.pow_succ]; omega
    have es : 1 <<< todo = 2 ^ todo := by rw [Nat.shiftLeft_eq, Nat.one_mul]
    simp only [Datum.rootFrom, es]
    split
    · rename_i h
      refine rootFrom_spec n todo (root + 2 ^ todo) h ?_
      rw [e, ← Nat.add_assoc] at h2
      exact h2
    · rename_i h
      exact rootFrom_spec n todo root h1 (by omega)
/-- The root, rounded down. -/
def isq (n : Int) : Int := (Datum.rootFrom n.toNat 32 0 : Nat)
theorem isq_spec {n : Int} (h0 : 0 ≤ n) (h : n < 18446744073709551616) : 0 ≤ isq n ∧ isq n * isq n ≤ n ∧ n < (isq n + 1) * (isq n + 1) := by
  have hs := rootFrom_spec n.toNat 32 0 (Nat.zero_le _) (by
    have : (0 + 2 ^ 32) * (0 + 2 ^ 32) = 18446744073709551616 := by decide
    omega)
  unfold isq
  obtain ⟨a, b⟩ := hs
  generalize Datum.rootFrom n.toNat 32 0 = r at a b
  refine ⟨by omega, ?_, ?_⟩
  · have : ((r * r : Nat) : Int) ≤ (n.toNat : Int) := by omega
    rw [Int.natCast_mul] at this
    omega
  · have : (n.toNat : Int) < (((r + 1) * (r + 1) : Nat) : Int) := by omega
    rw [Int.natCast_mul, Int.natCast_add] at this
    have e1 : ((1 : Nat) : Int) = 1 := rfl
    rw [e1] at this
    omega
/-- The root, rounded up. -/
def isqU (n : Int) : Int := if isq n * isq n < n then isq n + 1 else isq n
theorem isqU_spec {n : Int} (h0 : 0 ≤ n) (h : n < 18446744073709551616) : 0 ≤ isqU n ∧ n ≤ isqU n * isqU n := by
  obtain ⟨a, b, c⟩ := isq_spec h0 h
  unfold isqU
  split
  · exact ⟨by omega, by omega⟩
  · exact ⟨a, by omega⟩
theorem isq_le {n k : Int} (h0 : 0 ≤ n) (h : n < 18446744073709551616) (hk : 0 ≤ k) (hn : n ≤ k * k) : isq n ≤ k := by
  obtain ⟨a, b, c⟩ := isq_spec h0 h
  exact le_of_sq hk (by omega)
theorem isqU_le {n k : Int} (h0 : 0 ≤ n) (h : n < 18446744073709551616) (hk : 0 ≤ k) (hn : n ≤ k * k) : isqU n ≤ k := by
  obtain ⟨a, b, c⟩ := isq_spec h0 h
  have hle := isq_le h0 h hk hn
  unfold isqU
  split
  · rename_i hlt
    by_cases e : isq n = k
    · subst e; omega
    · omega
  · exact hle

def rndI (n d : Int) : Int := (2 * n + d) / (2 * d)
def ceilI (n d : Int) : Int := -((-n) / d)
/-- 1 if something was rounded. -/
def oneI (s t : Int) : Int := if s = 0 ∧ t = 0 then 0 else 1
theorem rnd_spec {n d : Int} (hd : 0 < d) : -d ≤ 2 * (n - d * rndI n d) ∧ 2 * (n - d * rndI n d) ≤ d ∧ (n % d = 0 → n - d * rndI n d = 0) := by
  refine ⟨?_, ?_, fun hz => ?_⟩
  · unfold rndI
    have h1 := Int.mul_ediv_add_emod (2 * n + d) (2 * d)
    have h2 := Int.emod_nonneg (2 * n + d) (show 2 * d ≠ 0 by omega)
    rw [Int.mul_assoc] at h1
    omega
  · unfold rndI
    have h1 := Int.mul_ediv_add_emod (2 * n + d) (2 * d)
    have h3 := Int.emod_lt_of_pos (2 * n + d) (show 0 < 2 * d by omega)
    rw [Int.mul_assoc] at h1
    omega
  · obtain ⟨k, rfl⟩ := Int.dvd_of_emod_eq_zero hz
    have e : rndI (d * k) d = k := by
      unfold rndI
      rw [show 2 * (d * k) + d = d + 2 * d * k by rw [Int.mul_assoc]; omega, Int.add_mul_ediv_left _ _ (by omega), Int.ediv_eq_zero_of_lt (by omega) (by omega), Int.zero_add]
    rw [e, Int.sub_self]
theorem ceil_spec {n d : Int} (hd : 0 < d) : n ≤ d * ceilI n d := by
  unfold ceilI
  have h1 := Int.mul_ediv_add_emod (-n) d
  have h2 := Int.emod_nonneg (-n) (show d ≠ 0 by omega)
  rw [Int.mul_neg]
  omega
/-- A quotient of a product, to the nearest whole number; what is too great is told as such. -/
def quoI (n m d : Int) : Int :=
  let u := (n.natAbs * m) / d
  let rest := (n.natAbs * m) % d
  if 2147483647 < u then 2147483647 else
    let q := if d < 2 * rest ∨ (0 ≤ n ∧ 2 * rest = d) then u + 1 else u
    if n < 0 then -q else q
def flgI (n m d : Int) : Int := if 2147483647 < (n.natAbs * m) / d then 0 else if (n.natAbs * m) % d = 0 then 0 else 1
def quuI (n m d : Int) : Int := if 2147483647 ≤ (n * m) / d then 2147483647 else if (n * m) % d = 0 then (n * m) / d else (n * m) / d + 1
theorem quo_spec {n m d : Int} (hd : 0 < d) (hq : quoI n m d ≠ 2147483647) : -d ≤ 2 * (n * m - d * quoI n m d) ∧ 2 * (n * m - d * quoI n m d) ≤ d ∧ (flgI n m d = 0 → n * m - d * quoI n m d = 0) := by
  have h1 := Int.mul_ediv_add_emod (n.natAbs * m) d
  have h2 := Int.emod_nonneg (n.natAbs * m) (show d ≠ 0 by omega)
  have h3 := Int.emod_lt_of_pos (n.natAbs * m) hd
  unfold quoI at hq ⊢
  unfold flgI
  simp only at hq ⊢
  generalize (n.natAbs * m) / d = u at *
  generalize hr : (n.natAbs * m) % d = r at *
  by_cases hbig : 2147483647 < u
  · rw [if_pos hbig] at hq; exact absurd rfl hq
  · simp only [if_neg hbig] at hq ⊢
    have hs : (n < 0 ∧ n * m = -(n.natAbs * m)) ∨ (0 ≤ n ∧ n * m = n.natAbs * m) := by
      by_cases hn : n < 0
      · left
        refine ⟨hn, ?_⟩
        rw [← Int.neg_mul]; congr 1; omega
      · right
        refine ⟨by omega, ?_⟩
        congr 1; omega
    generalize (n.natAbs : Int) * m = s at *
    rcases hs with ⟨hn, e⟩ | ⟨hn, e⟩
    · rw [if_pos hn, e, Int.mul_neg]
      by_cases hc : d < 2 * r ∨ 0 ≤ n ∧ 2 * r = d
      · rw [if_pos hc, Int.mul_add, Int.mul_one]
        refine ⟨by omega, by omega, fun hz => ?_⟩
        split at hz <;> omega
      · rw [if_neg hc]
        refine ⟨by omega, by omega, fun hz => ?_⟩
        split at hz <;> omega
    · rw [if_neg (by omega), e]
      by_cases hc : d < 2 * r ∨ 0 ≤ n ∧ 2 * r = d
      · rw [if_pos hc, Int.mul_add, Int.mul_one]
        refine ⟨by omega, by omega, fun hz => ?_⟩
        split at hz <;> omega
      · rw [if_neg hc]
        refine ⟨by omega, by omega, fun hz => ?_⟩
        split at hz <;> omega
theorem quu_spec {n m d : Int} (hd : 0 < d) (h0 : 0 ≤ n * m) (hq : quuI n m d ≠ 2147483647) : 0 ≤ quuI n m d ∧ n * m ≤ d * quuI n m d := by
  have h1 := Int.mul_ediv_add_emod (n * m) d
  have h2 := Int.emod_nonneg (n * m) (show d ≠ 0 by omega)
  have h3 := Int.emod_lt_of_pos (n * m) hd
  have h4 := Int.ediv_nonneg h0 (Int.le_of_lt hd)
  unfold quuI at hq ⊢
  generalize (n * m) / d = u at *
  generalize (n * m) % d = r at *
  by_cases hbig : 2147483647 ≤ u
  · rw [if_pos hbig] at hq; exact absurd rfl hq
  · rw [if_neg hbig] at hq ⊢
    split
    · exact ⟨h4, by omega⟩
    · exact ⟨by omega, by rw [Int.mul_add, Int.mul_one]; omega⟩
/-- The error of both parts of a centre, rounded. -/
theorem nrm_err {a b d e : Int} (h1 : -d ≤ 2 * a ∧ 2 * a ≤ d) (h2 : -d ≤ 2 * b ∧ 2 * b ≤ d) (he : (e = 0 ∧ a = 0 ∧ b = 0) ∨ e = 1) : nrm a b ≤ (d * e) * (d * e) := by
  rcases he with ⟨rfl, rfl, rfl⟩ | rfl
  · simp [nrm]
  · have ha : a * a ≤ d * d := by
      rcases Int.le_total 0 a with h | h
      · have := mul_self_le (a := 2 * a) (b := d) (by omega) (by omega)
        have e1 : 2 * a * (2 * a) = 4 * (a * a) := by rw [Int.mul_assoc, Int.mul_left_comm a 2 a]; omega
        have := sqz a
        omega
      · have := mul_self_le (a := 2 * -a) (b := d) (by omega) (by omega)
        have e1 : 2 * -a * (2 * -a) = 4 * (a * a) := by rw [Int.mul_assoc, Int.mul_left_comm (-a) 2 (-a), Int.neg_mul_neg]; omega
        have := sqz a
        omega
    have hb : 4 * (b * b) ≤ d * d ∧ 4 * (a * a) ≤ d * d := by
      constructor
      · rcases Int.le_total 0 b with h | h
        · have := mul_self_le (a := 2 * b) (b := d) (by omega) (by omega)
          have e1 : 2 * b * (2 * b) = 4 * (b * b) := by rw [Int.mul_assoc, Int.mul_left_comm b 2 b]; omega
          omega
        · have := mul_self_le (a := 2 * -b) (b := d) (by omega) (by omega)
          have e1 : 2 * -b * (2 * -b) = 4 * (b * b) := by rw [Int.mul_assoc, Int.mul_left_comm (-b) 2 (-b), Int.neg_mul_neg]; omega
          omega
      · rcases Int.le_total 0 a with h | h
        · have := mul_self_le (a := 2 * a) (b := d) (by omega) (by omega)
          have e1 : 2 * a * (2 * a) = 4 * (a * a) := by rw [Int.mul_assoc, Int.mul_left_comm a 2 a]; omega
          omega
        · have := mul_self_le (a := 2 * -a) (b := d) (by omega) (by omega)
          have e1 : 2 * -a * (2 * -a) = 4 * (a * a) := by rw [Int.mul_assoc, Int.mul_left_comm (-a) 2 (-a), Int.neg_mul_neg]; omega
          omega
    unfold nrm
    rw [Int.mul_one]
    have := sqz a
    have := sqz b
    omega

/-! ## Division of two words by one: a digit of 32 bits -/
section
variable {y1 y0 u u1 : Nat}
theorem dg_lt (hu : u < y1 * 4294967296 + y0) (hu1 : u1 < 4294967296) : (u * 4294967296 + u1) / (y1 * 4294967296 + y0) < 4294967296 := by
  have hp : 0 < y1 * 4294967296 + y0 := by omega
  refine (Nat.div_lt_iff_lt_mul hp).2 ?_
  have h := Nat.mul_le_mul_left 4294967296 (Nat.succ_le_of_lt hu)
  rw [Nat.succ_eq_add_one, Nat.mul_add] at h
  rw [Nat.mul_comm u]
  omega
theorem dg_le (hu1 : u1 < 4294967296) : (u * 4294967296 + u1) / (y1 * 4294967296 + y0) * y1 ≤ u := by
  have h := Nat.div_mul_le_self (u * 4294967296 + u1) (y1 * 4294967296 + y0)
  generalize (u * 4294967296 + u1) / (y1 * 4294967296 + y0) = q at *
  rw [Nat.mul_add, ← Nat.mul_assoc] at h
  omega
theorem dg_test {q r : Nat} (h : q * y1 + r = u) (hy : 0 < y1) : (4294967296 * r + u1 < q * y0) ↔ (u * 4294967296 + u1) / (y1 * 4294967296 + y0) < q := by
  rw [Nat.div_lt_iff_lt_mul (by omega), Nat.mul_add, ← Nat.mul_assoc]
  subst h
  generalize q * y1 = a
  generalize q * y0 = b
  omega
theorem dg_stop {q r : Nat} (h : q * y1 + r = u) (hy : 0 < y1) (hle : (u * 4294967296 + u1) / (y1 * 4294967296 + y0) ≤ q) (hn : q * y0 ≤ 4294967296 * r + u1) : q = (u * 4294967296 + u1) / (y1 * 4294967296 + y0) := by
  rcases Nat.lt_or_ge ((u * 4294967296 + u1) / (y1 * 4294967296 + y0)) q with hlt | hge
  · have := (dg_test (y0 := y0) h hy).2 hlt
    omega
  · omega
theorem dg_break {q r : Nat} (h : q * y1 + r = u) (hy : 0 < y1) (hle : (u * 4294967296 + u1) / (y1 * 4294967296 + y0) ≤ q) (hq : q ≤ 4294967296) (h0 : y0 < 4294967296) (hr : 4294967296 ≤ r) : q = (u * 4294967296 + u1) / (y1 * 4294967296 + y0) := by
  refine dg_stop h hy hle ?_
  have a := Nat.mul_le_mul hq (show y0 ≤ 4294967295 by omega)
  omega
theorem dg_first (hu : u < y1 * 4294967296 + y0) (hy : 2147483648 ≤ y1) (h0 : y0 < 4294967296) : u / y1 ≤ 4294967297 := by
  have : u / y1 < 4294967298 := by
    refine (Nat.div_lt_iff_lt_mul (by omega)).2 ?_
    omega
  omega
end
end Go.Ex

