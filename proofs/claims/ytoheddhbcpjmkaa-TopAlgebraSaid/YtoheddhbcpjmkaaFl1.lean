/-
  Floats that are whole numbers: what a word reads as, when a number is written exactly.
-/
import Derived.Laws.FloatArith
namespace Go.Ex
open Go Ieee

theorem shl_eq (a n : Nat) : a <<< n = a * 2 ^ n := Nat.shiftLeft_eq a n

/-! ## Doubles -/
theorem dbl_binade : Ieee.double.binade = 4503599627370496 := by decide
theorem dbl_inf : Ieee.double.infRung = 9218868437227405312 := by decide
theorem dbl_sign : Ieee.double.signWeight = 9223372036854775808 := by decide
theorem dbl_least : Ieee.double.leastPlace = -1074 := by decide

theorem dbl_read (b : Nat) : Ieee.double.read b =
    (if b % 9223372036854775808 < 4503599627370496 then .number (b / 9223372036854775808 % 2 == 1) (b % 9223372036854775808) (-1074)
    else if b % 9223372036854775808 < 9218868437227405312 then .number (b / 9223372036854775808 % 2 == 1) (4503599627370496 + b % 9223372036854775808 % 4503599627370496) (-1074 + (b % 9223372036854775808 / 4503599627370496 - 1 : Nat))
    else if b % 9223372036854775808 = 9218868437227405312 then .infinity (b / 9223372036854775808 % 2 == 1)
    else .nan (b / 9223372036854775808 % 2 == 1) (b % 9223372036854775808 - 9218868437227405312)) := by
  simp only [Ieee.Format.read, dbl_binade, dbl_inf, dbl_sign, dbl_least]

theorem dbl_word (s : Bool) (r : Nat) (h : r < 9223372036854775808) : Ieee.double.word s r / 9223372036854775808 % 2 = (if s then 1 else 0) ∧ Ieee.double.word s r % 9223372036854775808 = r := by
  simp only [Ieee.Format.word, dbl_sign]
  cases s
  · simp; omega
  · simp; omega

/-- A word of exponent and fraction read back. -/
theorem read_word (s : Bool) (k : Nat) (x : Nat) (hx : x ≤ 2045) (hk : k < 9007199254740992) (hn : 4503599627370496 ≤ k ∨ x = 0) :
    Ieee.double.read (Ieee.double.word s (x * 4503599627370496 + k)) = .number s k (-1074 + x) := by
  have hlt : x * 4503599627370496 + k < 9218868437227405312 := by omega
  obtain ⟨h1, h2⟩ := dbl_word s (x * 4503599627370496 + k) (by omega)
  rw [dbl_read, h2]
  have hs : (Ieee.double.word s (x * 4503599627370496 + k) / 9223372036854775808 % 2 == 1) = s := by rw [h1]; cases s <;> rfl
  rw [hs]
  by_cases hsub : x * 4503599627370496 + k < 4503599627370496
  · rw [if_pos hsub]
    have hx0 : x = 0 := by omega
    subst hx0; simp
  · rw [if_neg hsub, if_pos hlt]
    have e1 : 4503599627370496 + (x * 4503599627370496 + k) % 4503599627370496 = k := by
      rcases hn with hn | hn
      · omega
      · subst hn; omega
    have e2 : (x * 4503599627370496 + k) / 4503599627370496 - 1 = x := by
      rcases hn with hn | hn
      · omega
      · subst hn; omega
    rw [e1, e2]

theorem cut_zero_drop (way : Toward) (s : Bool) (n : Nat) : way.cut s n 0 = n := by
  unfold Toward.cut
  simp
  cases way <;> simp [Nat.mod_one]

/-- A number that a double has is written as itself: m digits at place p. -/
theorem read_nearest (s : Bool) (mag : Nat) (h0 : mag ≠ 0) (h53 : mag < 9007199254740992) : ∃ k : Nat, ∃ e : Int, Ieee.double.read (Ieee.double.nearest s mag 0) = .number s k e ∧ -1074 ≤ e ∧ e ≤ 0 ∧ k = mag * 2 ^ (-e).toNat := by
  have hlog : mag.log2 ≤ 52 := by
    have : mag.log2 < 53 := (Nat.log2_lt h0).2 (by simpa using h53)
    omega
  have hlo : 2 ^ mag.log2 ≤ mag := (Nat.le_log2 h0).1 (Nat.le_refl _)
  have hhi : mag < 2 ^ (mag.log2 + 1) := (Nat.log2_lt h0).1 (Nat.lt_succ_self _)
  generalize hL : mag.log2 = L at hlog hlo hhi
  have hlast : max ((0 : Int) + (L : Int) - 52) (-1074) = (L : Int) - 52 := by omega
  have hfb : (Ieee.double.fractionBits : Int) = 52 := rfl
  refine ⟨mag * 2 ^ (52 - L), (L : Int) - 52, ?_, by omega, by omega, ?_⟩
  · unfold Ieee.Format.nearest
    rw [if_neg h0]
    simp only [hL, hfb, dbl_least, hlast, dbl_binade, dbl_inf]
    have e1 : ((L : Int) - 52 - 0).toNat = 0 := by omega
    have e2 : ((0 : Int) - ((L : Int) - 52)).toNat = 52 - L := by omega
    have e3 : ((L : Int) - 52 - -1074).toNat = L + 1022 := by omega
    rw [e1, e2, e3, cut_zero_drop, shl_eq]
    have p1 : 2 ^ L * 2 ^ (52 - L) = 4503599627370496 := by rw [← Nat.pow_add, show L + (52 - L) = 52 by omega]
    have p2 : 2 ^ (L + 1) * 2 ^ (52 - L) = 9007199254740992 := by rw [← Nat.pow_add, show L + 1 + (52 - L) = 53 by omega]
    have k1 : 4503599627370496 ≤ mag * 2 ^ (52 - L) := by rw [← p1]; exact Nat.mul_le_mul_right _ hlo
    have k2 : mag * 2 ^ (52 - L) < 9007199254740992 := by rw [← p2]; exact Nat.mul_lt_mul_of_pos_right hhi (Nat.two_pow_pos _)
    generalize hK : mag * 2 ^ (52 - L) = K at k1 k2 ⊢
    have hmin : min ((L + 1022) * 4503599627370496 + K) 9218868437227405312 = (L + 1022) * 4503599627370496 + K := Nat.min_eq_left (by omega)
    rw [hmin, read_word s K (L + 1022) (by omega) k2 (.inl k1)]
    have e4 : (-1074 : Int) + ((L + 1022 : Nat) : Int) = (L : Int) - 52 := by omega
    rw [e4]
  · have e5 : (-((L : Int) - 52)).toNat = 52 - L := by omega
    rw [e5]

theorem read_nearest_zero (s : Bool) (p : Int) : Ieee.double.read (Ieee.double.nearest s 0 p) = .number s 0 (-1074) := by
  have := read_word s 0 0 (by omega) (by omega) (.inr rfl)
  simpa [Ieee.Format.nearest] using this

/-! ## Order does not look at how a number is written -/
theorem signed_shift (s : Bool) (m a b : Nat) : signed s (m * 2 ^ a) b = signed s m (a + b) := by
  unfold signed
  simp only [shl_eq, Nat.pow_add, Nat.mul_assoc]
theorem signed_mul (s : Bool) (m a b : Nat) : signed s m (a + b) = signed s m a * (2 ^ b : Nat) := by
  unfold signed
  simp only [shl_eq, Nat.pow_add, ← Nat.mul_assoc]
  cases s <;> simp [Int.neg_mul, Int.natCast_mul]

theorem compare_scale (x y : Int) (b : Nat) : compare (x * (2 ^ b : Nat)) (y * (2 ^ b : Nat)) = compare x y := by
  have hp : (0 : Int) < (2 ^ b : Nat) := by have := Nat.two_pow_pos b; omega
  show compareOfLessAndEq _ _ = compareOfLessAndEq _ _
  unfold compareOfLessAndEq
  rcases Int.lt_trichotomy x y with h | h | h
  · rw [if_pos h, if_pos (Int.mul_lt_mul_of_pos_right h hp)]
  · subst h; simp
  · have h' := Int.mul_lt_mul_of_pos_right h hp
    rw [if_neg (by omega), if_neg (by omega), if_neg (by omega), if_neg (by omega)]

/-- The order of two numbers, at any place below both. -/
theorem order_at (s t : Bool) (m n : Nat) (i j B : Int) (hi : B ≤ i) (hj : B ≤ j) :
    Datum.order (.number s m i) (.number t n j) = some (compare (signed s m (i - B).toNat) (signed t n (j - B).toNat)) := by
  simp only [Datum.order]
  have e1 : (i - B).toNat = (i - min i j).toNat + (min i j - B).toNat := by omega
  have e2 : (j - B).toNat = (j - min i j).toNat + (min i j - B).toNat := by omega
  rw [e1, e2, signed_mul, signed_mul, compare_scale]

end Go.Ex
