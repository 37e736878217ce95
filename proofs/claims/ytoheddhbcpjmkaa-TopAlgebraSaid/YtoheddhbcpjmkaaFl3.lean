/-
  Products, sums and differences of floats that are whole numbers: exact, as long as they are less than 2^53 in size.
-/
import Derived.Test.YtoheddhbcpjmkaaFl2
import Derived.Laws.ComplexArith
namespace Go.Ex
open Go Ieee

theorem cut_mul (s : Bool) (x d : Nat) (hx : x ≠ 0) : Toward.even.cut s (x * 2 ^ d) d = x := by
  have hlog : d ≤ (x * 2 ^ d).log2 := by
    refine (Nat.le_log2 (Nat.mul_ne_zero hx (by have := Nat.two_pow_pos d; omega))).2 ?_
    exact Nat.le_mul_of_pos_left _ (Nat.pos_of_ne_zero hx)
  have hp := Nat.two_pow_pos d
  unfold Toward.cut
  rw [Nat.min_eq_left (by omega), shl_eq, Nat.one_mul]
  simp only [Nat.mul_div_cancel _ hp, Nat.mul_mod_left]
  have h1 : ¬ (2 ^ d < 2 * 0) := by omega
  have h2 : (2 ^ d == 2 * 0) = false := by simp
  simp [h2]

theorem log2_mul_pow (x k : Nat) (hx : x ≠ 0) : (x * 2 ^ k).log2 = x.log2 + k := by
  have hne : x * 2 ^ k ≠ 0 := Nat.mul_ne_zero hx (by have := Nat.two_pow_pos k; omega)
  have h1 : 2 ^ x.log2 ≤ x := (Nat.le_log2 hx).1 (Nat.le_refl _)
  have h2 : x < 2 ^ (x.log2 + 1) := (Nat.log2_lt hx).1 (Nat.lt_succ_self _)
  have a : x.log2 + k ≤ (x * 2 ^ k).log2 := (Nat.le_log2 hne).2 (by rw [Nat.pow_add]; exact Nat.mul_le_mul_right _ h1)
  have b : (x * 2 ^ k).log2 < x.log2 + k + 1 := (Nat.log2_lt hne).2 (by
    rw [show x.log2 + k + 1 = x.log2 + 1 + k by omega, Nat.pow_add]
    exact Nat.mul_lt_mul_of_pos_right h2 (Nat.two_pow_pos _))
  omega

/-- How a number is written does not matter. -/
theorem nearest_shift (s : Bool) (x k : Nat) (p : Int) (hx : x ≠ 0) (hl : (x.log2 : Int) + (p + k) - 52 ≤ p + k) (hq : -1074 ≤ p + k) : Ieee.double.nearest s (x * 2 ^ k) p = Ieee.double.nearest s x (p + k) := by
  have hne : x * 2 ^ k ≠ 0 := Nat.mul_ne_zero hx (by have := Nat.two_pow_pos k; omega)
  have hfb : (Ieee.double.fractionBits : Int) = 52 := rfl
  unfold Ieee.Format.nearest
  rw [if_neg hne, if_neg hx]
  simp only [log2_mul_pow x k hx, hfb, dbl_least]
  have e0 : p + ((x.log2 + k : Nat) : Int) - 52 = p + k + (x.log2 : Int) - 52 := by omega
  rw [e0]
  obtain ⟨L, hL⟩ : ∃ L : Int, L = max (p + k + (x.log2 : Int) - 52) (-1074) := ⟨_, rfl⟩
  rw [← hL]
  have hLk : L ≤ p + k := by omega
  have key : Toward.even.cut s ((x * 2 ^ k) <<< (p - L).toNat) (L - p).toNat = Toward.even.cut s (x <<< (p + k - L).toNat) (L - (p + k)).toNat := by
    have r0 : (L - (p + k)).toNat = 0 := by omega
    rw [r0, cut_zero_drop, shl_eq, shl_eq]
    by_cases hp : L ≤ p
    · have r1 : (L - p).toNat = 0 := by omega
      rw [r1, cut_zero_drop, Nat.mul_assoc, ← Nat.pow_add, show k + (p - L).toNat = (p + k - L).toNat by omega]
    · have r1 : (p - L).toNat = 0 := by omega
      rw [r1, Nat.pow_zero, Nat.mul_one]
      have r2 : x * 2 ^ k = x * 2 ^ (p + k - L).toNat * 2 ^ (L - p).toNat := by
        rw [Nat.mul_assoc, ← Nat.pow_add, show (p + k - L).toNat + (L - p).toNat = k by omega]
      rw [r2, cut_mul _ _ _ (Nat.mul_ne_zero hx (by have := Nat.two_pow_pos (p + k - L).toNat; omega))]
  rw [key]

theorem wI_sign {s : Bool} {N : Nat} (hN : N < 9007199254740992) (h0 : N ≠ 0) : wI (Ieee.double.nearest s N 0) = some (if s then -(N : Int) else (N : Int)) := by
  have h := wI_nearest (n := if s then -(N : Int) else (N : Int)) (by cases s <;> simp <;> omega)
  have e : FloatKind.f64.nearest (if s then -(N : Int) else (N : Int)) = Ieee.double.nearest s N 0 := by
    have e0 : ∀ n : Int, FloatKind.f64.nearest n = Ieee.double.nearest (decide (n < 0)) n.natAbs 0 := fun n => rfl
    rw [e0]
    cases s
    · simp only [Bool.false_eq_true, if_false, Int.natAbs_natCast]
      rw [decide_eq_false (by omega)]
    · simp only [if_true, Int.natAbs_neg, Int.natAbs_natCast]
      rw [decide_eq_true (by omega)]
  rw [← e]; exact h

theorem wI_write {s : Bool} {M N : Nat} {P : Int} {B : Nat} (hB : B = 2148) (hP : -(B : Int) ≤ P) (h : M * 2 ^ (P + B).toNat = N * 2 ^ B) (hN : N < 9007199254740992) : wI (Ieee.double.nearest s M P) = some (if s then -(N : Int) else (N : Int)) := by
  by_cases h0 : M = 0
  · subst h0
    have hz : N = 0 := by
      rw [Nat.zero_mul] at h
      rcases Nat.mul_eq_zero.1 h.symm with h | h
      · exact h
      · have := Nat.two_pow_pos B; omega
    subst hz
    unfold wI
    rw [read_nearest_zero]
    simp only
    rw [if_neg (by decide), Nat.zero_mod, if_pos rfl, Nat.zero_div]
    cases s <;> rfl
  · have hN0 : N ≠ 0 := by
      intro hz
      subst hz
      rw [Nat.zero_mul] at h
      rcases Nat.mul_eq_zero.1 h with h | h
      · exact h0 h
      · have := Nat.two_pow_pos (P + B).toNat; omega
    have hlog : N.log2 ≤ 52 := by
      have : N.log2 < 53 := (Nat.log2_lt hN0).2 (by simpa using hN)
      omega
    by_cases hs : 0 ≤ P
    · have e : N = M * 2 ^ P.toNat := by
        have : (P + B).toNat = P.toNat + B := by omega
        rw [this, Nat.pow_add, ← Nat.mul_assoc] at h
        exact (Nat.eq_of_mul_eq_mul_right (Nat.two_pow_pos B) h).symm
      have hl2 : M.log2 + P.toNat = N.log2 := by rw [e, log2_mul_pow _ _ h0]
      have e2 := nearest_shift s M P.toNat 0 h0 (by omega) (by omega)
      rw [← e, show (0 : Int) + (P.toNat : Int) = P by omega] at e2
      rw [← e2]
      exact wI_sign hN hN0
    · obtain ⟨k, hk⟩ : ∃ k : Nat, P = -(k : Int) := ⟨(-P).toNat, by omega⟩
      have e : M = N * 2 ^ k := by
        have h1 : (P + B).toNat + k = B := by omega
        have h2 : N * 2 ^ B = N * 2 ^ k * 2 ^ (P + B).toNat := by rw [Nat.mul_assoc, ← Nat.pow_add, show k + (P + B).toNat = B by omega]
        rw [h2] at h
        exact Nat.eq_of_mul_eq_mul_right (Nat.two_pow_pos _) h
      have e2 := nearest_shift s N k P hN0 (by omega) (by omega)
      rw [← e, show P + (k : Int) = 0 by omega] at e2
      rw [e2]
      exact wI_sign hN hN0

theorem natAbs_signed (s : Bool) (m j : Nat) : (signed s m j).natAbs = m * 2 ^ j := by
  unfold signed; rw [shl_eq]
  cases s
  · exact Int.natAbs_natCast (m * 2 ^ j)
  · exact (Int.natAbs_neg _).trans (Int.natAbs_natCast (m * 2 ^ j))
theorem signed_val (s : Bool) (m j : Nat) : signed s m j = if s then -((m * 2 ^ j : Nat) : Int) else ((m * 2 ^ j : Nat) : Int) := by
  unfold signed; rw [shl_eq]

theorem wI_mul {a b : Nat} {u v : Int} (ha : wI a = some u) (hb : wI b = some v) (h : (u * v).natAbs < 9007199254740992) : ∃ r, Ieee.double.mul a b = some r ∧ wI r = some (u * v) := by
  obtain ⟨s, m, i, h1, h2, h3, _, h4⟩ := wI_scaled ha
  obtain ⟨t, n, j, g1, g2, g3, _, g4⟩ := wI_scaled hb
  obtain ⟨B, hB⟩ : ∃ B : Nat, B = 1074 := ⟨_, rfl⟩
  have h4 := h4 B hB
  have g4 := g4 B hB
  refine ⟨Ieee.double.nearest (s ^^ t) (m * n) (i + j), ?_, ?_⟩
  · simp only [Ieee.Format.mul, h1, g1, Datum.product, Option.map_some, Ieee.Format.write]
  · have k1 : m * 2 ^ (i - -1074).toNat = u.natAbs * 2 ^ B := by have := congrArg Int.natAbs h4; rwa [natAbs_signed, Int.natAbs_mul, Int.natAbs_natCast] at this
    have k2 : n * 2 ^ (j - -1074).toNat = v.natAbs * 2 ^ B := by have := congrArg Int.natAbs g4; rwa [natAbs_signed, Int.natAbs_mul, Int.natAbs_natCast] at this
    have hw := wI_write (s := s ^^ t) (M := m * n) (N := (u * v).natAbs) (P := i + j) (B := B + B) (by omega) (by omega) (by
      have e : (i + j + ((B + B : Nat) : Int)).toNat = (i - -1074).toNat + (j - -1074).toNat := by omega
      rw [e, Nat.pow_add, Nat.pow_add, Int.natAbs_mul]
      have : m * n * (2 ^ (i - -1074).toNat * 2 ^ (j - -1074).toNat) = m * 2 ^ (i - -1074).toNat * (n * 2 ^ (j - -1074).toNat) := by
        simp only [Nat.mul_assoc, Nat.mul_left_comm]
      rw [this, k1, k2]
      simp only [Nat.mul_assoc, Nat.mul_left_comm]) h
    rw [hw]
    congr 1
    -- the sign
    have hp : (0 : Int) < (2 ^ B : Nat) := by have := Nat.two_pow_pos B; omega
    have su : (s = true → u ≤ 0) ∧ (s = false → 0 ≤ u) := by
      rw [signed_val] at h4
      refine ⟨fun e => ?_, fun e => ?_⟩
      · subst e
        simp only [if_true] at h4
        by_cases hu : u ≤ 0
        · exact hu
        · have := Int.mul_pos (show 0 < u by omega) hp; omega
      · subst e
        simp only [Bool.false_eq_true, if_false] at h4
        by_cases hu : 0 ≤ u
        · exact hu
        · have := Int.mul_pos (show 0 < -u by omega) hp; rw [Int.neg_mul] at this; omega
    have sv : (t = true → v ≤ 0) ∧ (t = false → 0 ≤ v) := by
      rw [signed_val] at g4
      refine ⟨fun e => ?_, fun e => ?_⟩
      · subst e
        simp only [if_true] at g4
        by_cases hu : v ≤ 0
        · exact hu
        · have := Int.mul_pos (show 0 < v by omega) hp; omega
      · subst e
        simp only [Bool.false_eq_true, if_false] at g4
        by_cases hu : 0 ≤ v
        · exact hu
        · have := Int.mul_pos (show 0 < -v by omega) hp; rw [Int.neg_mul] at this; omega
    cases s <;> cases t <;> simp only [Bool.xor_false, Bool.xor_true, Bool.not_false, Bool.not_true, Bool.false_eq_true, if_true, if_false]
    · have := Int.mul_nonneg (su.2 rfl) (sv.2 rfl); omega
    · have := Int.mul_nonpos_of_nonneg_of_nonpos (su.2 rfl) (sv.1 rfl); omega
    · have := Int.mul_nonpos_of_nonpos_of_nonneg (su.1 rfl) (sv.2 rfl); omega
    · have := Int.mul_nonneg_of_nonpos_of_nonpos (su.1 rfl) (sv.1 rfl); omega

/-- Sums: of one datum and of another one, that are written so. -/
theorem wI_sum {s t : Bool} {m n : Nat} {i j : Int} {u v : Int} {B : Nat} (hB : B = 1074) (hi : -1074 ≤ i) (hj : -1074 ≤ j) (h4 : signed s m (i - -1074).toNat = u * (2 ^ B : Nat)) (g4 : signed t n (j - -1074).toNat = v * (2 ^ B : Nat)) (h : (u + v).natAbs < 9007199254740992) :
    ∃ d, Datum.sum (.number s m i) (.number t n j) = some d ∧ wI (Ieee.double.write d) = some (u + v) := by
  refine ⟨_, rfl, ?_⟩
  simp only [Ieee.Format.write]
  obtain ⟨C, hC⟩ : ∃ C : Int, C = min i j := ⟨_, rfl⟩
  obtain ⟨T, hT⟩ : ∃ T : Int, T = signed s m (i - C).toNat + signed t n (j - C).toNat := ⟨_, rfl⟩
  rw [← hC, ← hT]
  have e1 : (i - -1074).toNat = (i - C).toNat + (C - -1074).toNat := by omega
  have e2 : (j - -1074).toNat = (j - C).toNat + (C - -1074).toNat := by omega
  rw [e1, signed_mul] at h4
  rw [e2, signed_mul] at g4
  have hs : T * (2 ^ (C - -1074).toNat : Nat) = (u + v) * (2 ^ B : Nat) := by rw [hT, Int.add_mul, h4, g4, Int.add_mul]
  have k1 : T.natAbs * 2 ^ (C - -1074).toNat = (u + v).natAbs * 2 ^ B := by have := congrArg Int.natAbs hs; rwa [Int.natAbs_mul, Int.natAbs_mul, Int.natAbs_natCast, Int.natAbs_natCast] at this
  have hw := fun s' => wI_write (s := s') (M := T.natAbs) (N := (u + v).natAbs) (P := C) (B := B + B) (by omega) (by omega) (by
    have e : (C + ((B + B : Nat) : Int)).toNat = (C - -1074).toNat + B := by omega
    rw [e, Nat.pow_add, ← Nat.mul_assoc, k1, Nat.pow_add, Nat.mul_assoc]) h
  rw [hw]
  congr 1
  have hp : (0 : Int) < (2 ^ B : Nat) := by have := Nat.two_pow_pos B; omega
  have hq : (0 : Int) < (2 ^ (C - -1074).toNat : Nat) := by have := Nat.two_pow_pos (C - -1074).toNat; omega
  by_cases hz : T = 0
  · have : u + v = 0 := by
      rw [hz, Int.zero_mul] at hs
      rcases Int.mul_eq_zero.1 hs.symm with h | h
      · exact h
      · omega
    rw [this]; cases (if T = 0 then s && t else decide (T < 0)) <;> rfl
  · rw [if_neg hz]
    by_cases hn : T < 0
    · rw [decide_eq_true hn]
      simp only [if_true]
      have : u + v < 0 := by
        by_cases hc : 0 ≤ u + v
        · have a := Int.mul_nonneg hc (Int.le_of_lt hp)
          have b := Int.mul_pos (show 0 < -T by omega) hq
          rw [Int.neg_mul] at b
          omega
        · omega
      omega
    · rw [decide_eq_false hn]
      simp only [Bool.false_eq_true, if_false]
      have : 0 ≤ u + v := by
        by_cases hc : 0 ≤ u + v
        · exact hc
        · have a := Int.mul_pos (show 0 < -(u + v) by omega) hp
          rw [Int.neg_mul] at a
          have b := Int.mul_nonneg (show 0 ≤ T by omega) (Int.le_of_lt hq)
          omega
      omega

theorem wI_add {a b : Nat} {u v : Int} (ha : wI a = some u) (hb : wI b = some v) (h : (u + v).natAbs < 9007199254740992) : ∃ r, Ieee.double.add a b = some r ∧ wI r = some (u + v) := by
  obtain ⟨s, m, i, h1, h2, _, _, h4⟩ := wI_scaled ha
  obtain ⟨t, n, j, g1, g2, _, _, g4⟩ := wI_scaled hb
  obtain ⟨B, hB⟩ : ∃ B : Nat, B = 1074 := ⟨_, rfl⟩
  obtain ⟨d, d1, d2⟩ := wI_sum hB h2 g2 (h4 B hB) (g4 B hB) h
  exact ⟨_, by simp only [Ieee.Format.add, h1, g1, d1, Option.map_some], d2⟩
theorem wI_sub {a b : Nat} {u v : Int} (ha : wI a = some u) (hb : wI b = some v) (h : (u - v).natAbs < 9007199254740992) : ∃ r, Ieee.double.sub a b = some r ∧ wI r = some (u - v) := by
  obtain ⟨s, m, i, h1, h2, _, _, h4⟩ := wI_scaled ha
  obtain ⟨t, n, j, g1, g2, _, _, g4⟩ := wI_scaled hb
  obtain ⟨B, hB⟩ : ∃ B : Nat, B = 1074 := ⟨_, rfl⟩
  have g4' : signed (!t) n (j - -1074).toNat = -v * (2 ^ B : Nat) := by
    have := g4 B hB
    rw [Int.neg_mul, ← this]; unfold signed; cases t <;> simp
  obtain ⟨d, d1, d2⟩ := wI_sum hB h2 g2 (h4 B hB) g4' (by rw [← Int.sub_eq_add_neg]; exact h)
  rw [← Int.sub_eq_add_neg] at d2
  exact ⟨_, by simp only [Ieee.Format.sub, h1, g1, Datum.opposite, d1, Option.map_some], d2⟩

end Go.Ex
