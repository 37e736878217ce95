/-
  The square root of a double from 2^53 to 2^55: it is a number, and cut to a whole number it is not too great.
-/
import Derived.Test.YtoheddhbcpjmkaaFl4

namespace Go.Ex
open Go Ieee

theorem read_nearest_two (mag : Nat) (h0 : mag ≠ 0) (hu : mag.log2 ≤ 900) : ∃ k : Nat, ∃ e : Int, Ieee.double.read (Ieee.double.nearest false mag 0) = .number false k e ∧ 4503599627370496 ≤ k ∧ k < 9007199254740992 ∧ mag.log2 - 52 ≤ e ∧ e ≤ mag.log2 - 51 := by
  have hfb : (Ieee.double.fractionBits : Int) = 52 := rfl
  have hkept : 4503599627370496 ≤ Toward.even.cut false (mag <<< ((0 : Int) - ((0 : Int) + mag.log2 - 52)).toNat) (((0 : Int) + mag.log2 - 52) - 0).toNat ∧ Toward.even.cut false (mag <<< ((0 : Int) - ((0 : Int) + mag.log2 - 52)).toNat) (((0 : Int) + mag.log2 - 52) - 0).toNat ≤ 9007199254740992 := by
    by_cases hm : mag.log2 ≤ 52
    · rw [show (((0 : Int) + mag.log2 - 52) - 0).toNat = 0 by omega, cut_zero_drop, shl_eq, show ((0 : Int) - ((0 : Int) + mag.log2 - 52)).toNat = 52 - mag.log2 by omega]
      have hl2 := log2_mul_pow mag (52 - mag.log2) h0
      have hne : mag * 2 ^ (52 - mag.log2) ≠ 0 := Nat.mul_ne_zero h0 (by have := Nat.two_pow_pos (52 - mag.log2); omega)
      have e : (mag * 2 ^ (52 - mag.log2)).log2 = 52 := by rw [hl2]; omega
      have a := Nat.log2_self_le hne
      have b : mag * 2 ^ (52 - mag.log2) < 2 ^ ((mag * 2 ^ (52 - mag.log2)).log2 + 1) := Nat.lt_log2_self
      rw [e] at a b
      omega
    · rw [show ((0 : Int) - ((0 : Int) + mag.log2 - 52)).toNat = 0 by omega, shl_eq, Nat.pow_zero, Nat.mul_one]
      exact cut_even_bnd false mag _ h0 (by omega)
  unfold Ieee.Format.nearest
  rw [if_neg h0]
  simp only [hfb, dbl_least, dbl_binade, dbl_inf]
  rw [Int.max_eq_left (by omega)]
  generalize Toward.even.cut false (mag <<< ((0 : Int) - ((0 : Int) + mag.log2 - 52)).toNat) (((0 : Int) + mag.log2 - 52) - 0).toNat = kept at hkept
  obtain ⟨x, hx⟩ : ∃ x : Nat, x = ((0 : Int) + mag.log2 - 52 - -1074).toNat := ⟨_, rfl⟩
  rw [← hx]
  have hmin : min (x * 4503599627370496 + kept) 9218868437227405312 = x * 4503599627370496 + kept := Nat.min_eq_left (by omega)
  rw [hmin]
  by_cases hk : kept < 9007199254740992
  · exact ⟨kept, -1074 + x, read_word false kept x (by omega) hk (.inl hkept.1), hkept.1, hk, by omega, by omega⟩
  · have e : x * 4503599627370496 + kept = (x + 1) * 4503599627370496 + 4503599627370496 := by omega
    rw [e]
    exact ⟨4503599627370496, -1074 + (x + 1 : Nat), read_word false _ (x + 1) (by omega) (by decide) (.inl (by decide)), by decide, by decide, by omega, by omega⟩

theorem sqrt_mid {f m : Nat} {e : Int} (hr : Ieee.double.read f = .number false m e) (hm1 : 4503599627370496 ≤ m) (hm : m < 9007199254740992) (he : 0 ≤ e ∧ e ≤ 4) : ∃ s r, Ieee.double.sqrt f = some s ∧ (FloatKind.f64.decode s).toInt .zero = some r ∧ 0 ≤ r ∧ r ≤ 536870912 := by
  have hm0 : m ≠ 0 := by omega
  have hml : m.log2 = 52 := by
    have a : m.log2 < 53 := (Nat.log2_lt hm0).2 (by simpa using hm)
    have b : 52 ≤ m.log2 := (Nat.le_log2 hm0).2 (by simpa using hm1)
    omega
  have hfb : Ieee.double.fractionBits + 2 = 54 := rfl
  obtain ⟨p, hp⟩ : ∃ p : Nat, p = ((e - (2 * 54 - m.log2 : Nat)) % 2).toNat := ⟨_, rfl⟩
  have hp1 : p ≤ 1 := by omega
  obtain ⟨more, hmore⟩ : ∃ k : Nat, k = 2 * 54 - m.log2 + p := ⟨_, rfl⟩
  obtain ⟨N, hN⟩ : ∃ N : Nat, N = m <<< more := ⟨_, rfl⟩
  have hN0 : N ≠ 0 := by rw [hN, shl_eq]; exact Nat.mul_ne_zero hm0 (by have := Nat.two_pow_pos more; omega)
  have hNl : N.log2 = 108 + p := by rw [hN, shl_eq, log2_mul_pow _ _ hm0]; omega
  obtain ⟨whole, hw⟩ : ∃ w, w = Datum.rootFrom N (N.log2 / 2 + 1) 0 := ⟨_, rfl⟩
  have hwl : whole < 2 ^ 55 := by
    have := rootFrom_lt N (N.log2 / 2 + 1) 0
    rw [hNl, show (108 + p) / 2 + 1 = 55 by omega] at this
    rw [hw, hNl, show (108 + p) / 2 + 1 = 55 by omega]
    omega
  obtain ⟨mag, hmag⟩ : ∃ k : Nat, k = 2 * whole + (whole * whole != N).toNat := ⟨_, rfl⟩
  have hroot : Datum.root 54 (.number false m e) = some (.number false mag ((e - more) / 2 - 1)) := by
    simp only [Datum.root, if_neg hm0, Bool.false_eq_true, if_false, ← hp, ← hmore, ← hN, ← hw, ← hmag]
  have hmag0 : mag ≠ 0 := by
    intro hz
    have hw0 : whole = 0 := by omega
    have : (whole * whole != N) = true := by
      rw [hw0, Nat.zero_mul]
      cases N with
      | zero => exact absurd rfl hN0
      | succ n => rfl
    rw [this] at hmag
    simp only [Bool.toNat_true] at hmag
    omega
  have hmagl : mag.log2 ≤ 55 := by
    have : mag.log2 < 56 := (Nat.log2_lt hmag0).2 (by
      have hb : (whole * whole != N).toNat ≤ 1 := by cases (whole * whole != N) <;> decide
      have : mag ≤ 2 * whole + 1 := by omega
      have e56 : (2 : Nat) ^ 56 = 2 * 2 ^ 55 := by rw [Nat.pow_succ]
      omega)
    omega
  obtain ⟨P, hP⟩ : ∃ P : Int, P = (e - more) / 2 - 1 := ⟨_, rfl⟩
  have hP1 : P ≤ -27 := by omega
  have hP2 : -60 ≤ P := by omega
  obtain ⟨k, e', hk1, hk2, hk3, hk4⟩ := read_nearest_any false mag hmag0 P (by omega) (by omega)
  refine ⟨Ieee.double.nearest false mag P, _, ?_, toInt_form hk1, ?_, ?_⟩
  · simp only [Ieee.Format.sqrt, hfb, hr, hroot, Option.map_some, Ieee.Format.write, ← hP]
  · rw [signed_val]; simp only [Bool.false_eq_true, if_false]; omega
  · rw [signed_val]
    simp only [Bool.false_eq_true, if_false, Nat.pow_zero, Nat.mul_one]
    have he0 : e'.toNat = 0 := by omega
    rw [he0, Nat.pow_zero, Nat.mul_one]
    have hd : 24 ≤ (-e').toNat ∨ (k = 4503599627370496 ∧ 23 ≤ (-e').toNat) := by
      rcases hk4 with h | h
      · exact .inr ⟨h, by omega⟩
      · left; omega
    have hle : k / 2 ^ (-e').toNat ≤ 536870912 := by
      rcases hd with h | ⟨h, h'⟩
      · have : 2 ^ 24 ≤ 2 ^ (-e').toNat := Nat.pow_le_pow_right (by omega) h
        exact Nat.le_trans (Nat.div_le_div hk2 this (by decide)) (by decide)
      · have : 2 ^ 23 ≤ 2 ^ (-e').toNat := Nat.pow_le_pow_right (by omega) h'
        rw [h]
        exact Nat.le_trans (Nat.div_le_div (Nat.le_refl _) this (by decide)) (by decide)
    omega
/-- The root of what is nearest to a whole number up to 2^55. -/
theorem sqrt_big {n : Int} (h0 : 9007199254740992 ≤ n) (h1 : n ≤ 36028797018963968) : ∃ s r, Ieee.double.sqrt (FloatKind.f64.nearest n) = some s ∧ (FloatKind.f64.decode s).toInt .zero = some r ∧ 0 ≤ r ∧ r ≤ 536870912 := by
  have e0 : FloatKind.f64.nearest n = Ieee.double.nearest (decide (n < 0)) n.natAbs 0 := rfl
  rw [decide_eq_false (by omega)] at e0
  have hn0 : n.natAbs ≠ 0 := by omega
  have hl : n.natAbs.log2 < 56 := (Nat.log2_lt hn0).2 (by
    have e : (2 : Nat) ^ 56 = 72057594037927936 := rfl
    omega)
  have hg : 53 ≤ n.natAbs.log2 := (Nat.le_log2 hn0).2 (by
    have e : (2 : Nat) ^ 53 = 9007199254740992 := rfl
    omega)
  obtain ⟨k, e, g1, g2, g3, g4, g5⟩ := read_nearest_two n.natAbs hn0 (by omega)
  rw [e0]
  exact sqrt_mid g1 g2 g3 (by omega)
end Go.Ex

