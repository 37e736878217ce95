/-
  The square root of a double that is a whole number up to 2^53: it is a number, and cut to a whole number it is not great.
-/
import Derived.Test.YtoheddhbcpjmkaaFlP1

namespace Go.Ex
open Go Ieee

theorem rootFrom_lt (n : Nat) : ∀ (todo root : Nat), Datum.rootFrom n todo root < root + 2 ^ todo
  | 0, root => by simp [Datum.rootFrom]
  | todo + 1, root => by
    have e : 2 ^ (todo + 1) = 2 ^ todo + 2 ^ todo := by rw [Nat.pow_succ]; omega
    have hp := Nat.two_pow_pos todo
    simp only [Datum.rootFrom]
    split
    · have := rootFrom_lt n todo (root + 1 <<< todo)
      rw [shl_eq, Nat.one_mul] at this ⊢
      omega
    · have := rootFrom_lt n todo root
      omega

theorem cut_even_bnd (s : Bool) (n d : Nat) (hn : n ≠ 0) (h52 : n.log2 = 52 + d) : 4503599627370496 ≤ Toward.even.cut s n d ∧ Toward.even.cut s n d ≤ 9007199254740992 := by
  have hp := Nat.two_pow_pos d
  have h1 : 2 ^ (52 + d) ≤ n := by rw [← h52]; exact Nat.log2_self_le hn
  have h2 : n < 2 ^ (52 + d + 1) := by rw [← h52]; exact Nat.lt_log2_self
  have l1 : 4503599627370496 ≤ n / 2 ^ d := by
    refine (Nat.le_div_iff_mul_le hp).2 ?_
    rw [Nat.pow_add] at h1
    exact h1
  have l2 : n / 2 ^ d < 9007199254740992 := by
    refine (Nat.div_lt_iff_lt_mul hp).2 ?_
    rw [show 52 + d + 1 = 53 + d by omega, Nat.pow_add] at h2
    exact h2
  unfold Toward.cut
  rw [Nat.min_eq_left (by omega), shl_eq, Nat.one_mul]
  simp only
  generalize (decide (2 ^ d < 2 * (n % 2 ^ d)) || (2 ^ d == 2 * (n % 2 ^ d) && n / 2 ^ d % 2 == 1)) = b
  cases b <;> simp only [Bool.toNat_false, Bool.toNat_true] <;> omega

/-- What is written of a number, not too small, nor too great. -/
theorem read_nearest_any (s : Bool) (mag : Nat) (h0 : mag ≠ 0) (place : Int) (hl : -1074 ≤ place + mag.log2 - 52) (hu : place + mag.log2 - 52 ≤ 900) :
    ∃ k : Nat, ∃ e : Int, Ieee.double.read (Ieee.double.nearest s mag place) = .number s k e ∧ k ≤ 9007199254740992 ∧ e ≤ place + mag.log2 - 51 ∧ (k = 4503599627370496 ∨ e = place + mag.log2 - 52) := by
  have hfb : (Ieee.double.fractionBits : Int) = 52 := rfl
  have hkept : 4503599627370496 ≤ Toward.even.cut s (mag <<< (place - (place + mag.log2 - 52)).toNat) ((place + mag.log2 - 52) - place).toNat ∧ Toward.even.cut s (mag <<< (place - (place + mag.log2 - 52)).toNat) ((place + mag.log2 - 52) - place).toNat ≤ 9007199254740992 := by
    by_cases hm : mag.log2 ≤ 52
    · rw [show ((place + mag.log2 - 52) - place).toNat = 0 by omega, cut_zero_drop, shl_eq, show (place - (place + mag.log2 - 52)).toNat = 52 - mag.log2 by omega]
      have hl2 := log2_mul_pow mag (52 - mag.log2) h0
      have hne : mag * 2 ^ (52 - mag.log2) ≠ 0 := Nat.mul_ne_zero h0 (by have := Nat.two_pow_pos (52 - mag.log2); omega)
      have e : (mag * 2 ^ (52 - mag.log2)).log2 = 52 := by rw [hl2]; omega
      have a := Nat.log2_self_le hne
      have b : mag * 2 ^ (52 - mag.log2) < 2 ^ ((mag * 2 ^ (52 - mag.log2)).log2 + 1) := Nat.lt_log2_self
      rw [e] at a b
      omega
    · rw [show (place - (place + mag.log2 - 52)).toNat = 0 by omega, shl_eq, Nat.pow_zero, Nat.mul_one]
      exact cut_even_bnd s mag _ h0 (by omega)
  unfold Ieee.Format.nearest
  rw [if_neg h0]
  simp only [hfb, dbl_least, dbl_binade, dbl_inf]
  rw [Int.max_eq_left (by omega)]
  generalize Toward.even.cut s (mag <<< (place - (place + mag.log2 - 52)).toNat) ((place + mag.log2 - 52) - place).toNat = kept at hkept
  obtain ⟨x, hx⟩ : ∃ x : Nat, x = (place + mag.log2 - 52 - -1074).toNat := ⟨_, rfl⟩
  rw [← hx]
  have hmin : min (x * 4503599627370496 + kept) 9218868437227405312 = x * 4503599627370496 + kept := Nat.min_eq_left (by omega)
  rw [hmin]
  by_cases hk : kept < 9007199254740992
  · refine ⟨kept, -1074 + x, read_word s kept x (by omega) hk (.inl hkept.1), by omega, by omega, .inr (by omega)⟩
  · have e : x * 4503599627370496 + kept = (x + 1) * 4503599627370496 + 4503599627370496 := by omega
    rw [e]
    refine ⟨4503599627370496, -1074 + (x + 1 : Nat), read_word s _ (x + 1) (by omega) (by decide) (.inl (by decide)), by decide, by omega, .inl rfl⟩

theorem sqrt_small {f : Nat} {n : Int} (hf : wI f = some n) (h0 : 0 ≤ n) (h1 : n ≤ 9007199254740992) : ∃ s r, Ieee.double.sqrt f = some s ∧ (FloatKind.f64.decode s).toInt .zero = some r ∧ 0 ≤ r ∧ r ≤ 134217728 := by
  obtain ⟨sg, m, e, hr, he1, he2, hm, hsc⟩ := wI_scaled hf
  have hsc := hsc 1074 rfl
  by_cases hm0 : m = 0
  · subst hm0
    refine ⟨Ieee.double.nearest sg 0 e, 0, ?_, ?_, by decide, by decide⟩
    · simp only [Ieee.Format.sqrt, hr, Datum.root, if_true, Option.map_some, Ieee.Format.write]
    · rw [toInt_form (read_nearest_zero sg e), Nat.zero_mul, Nat.zero_div]
      cases sg <;> rfl
  · have hp74 : (0 : Int) < (2 ^ 1074 : Nat) := by have := Nat.two_pow_pos 1074; omega
    have hna : m * 2 ^ (e - -1074).toNat = n.natAbs * 2 ^ 1074 := by
      have := congrArg Int.natAbs hsc
      rwa [natAbs_signed, Int.natAbs_mul, Int.natAbs_natCast] at this
    have hn0 : n.natAbs ≠ 0 := by
      intro hz
      generalize (2 ^ 1074 : Nat) = T at hna
      rw [hz, Nat.zero_mul] at hna
      rcases Nat.mul_eq_zero.1 hna with h | h
      · exact hm0 h
      · have := Nat.two_pow_pos (e - -1074).toNat; omega
    have hs : sg = false := by
      cases sg with
      | false => rfl
      | true =>
        exfalso
        rw [signed_val] at hsc
        simp only [if_true] at hsc
        have := Int.mul_pos (show 0 < n by omega) hp74
        omega
    subst hs
    have hlog : m.log2 + (e - -1074).toNat = n.natAbs.log2 + 1074 := (log2_mul_pow m _ hm0).symm.trans ((congrArg Nat.log2 hna).trans (log2_mul_pow n.natAbs 1074 hn0))
    have hnl : n.natAbs.log2 ≤ 53 := by
      have : n.natAbs.log2 < 54 := (Nat.log2_lt hn0).2 (by
        have : n.natAbs ≤ 9007199254740992 := by omega
        exact Nat.lt_of_le_of_lt this (by decide))
      omega
    have hml : m.log2 ≤ 52 := by
      have : m.log2 < 53 := (Nat.log2_lt hm0).2 (by simpa using hm)
      omega
    -- the root's digits
    have hfb : Ieee.double.fractionBits + 2 = 54 := rfl
    obtain ⟨p, hp⟩ : ∃ p : Nat, p = ((e - (2 * 54 - m.log2 : Nat)) % 2).toNat := ⟨_, rfl⟩
    have hp1 : p ≤ 1 := by omega
    obtain ⟨more, hmore⟩ : ∃ k : Nat, k = 2 * 54 - m.log2 + p := ⟨_, rfl⟩
    obtain ⟨N, hN⟩ : ∃ N : Nat, N = m <<< more := ⟨_, rfl⟩
    have hN0 : N ≠ 0 := by rw [hN, shl_eq]; exact Nat.mul_ne_zero hm0 (by have := Nat.two_pow_pos more; omega)
    have hNl : N.log2 = 108 + p := by rw [hN, shl_eq, log2_mul_pow _ _ hm0]; omega
    obtain ⟨whole, hw⟩ : ∃ w, w = Datum.rootFrom N (N.log2 / 2 + 1) 0 := ⟨_, rfl⟩
    have hwl : whole < 2 ^ 55 := by
      have := rootFrom_lt N (N.log2 / 2 + 1) 0
      rw [hNl, show (108 + p) / 2 + 1 = 55 by omega] at this
      rw [hw, hNl, show (108 + p) / 2 + 1 = 55 by omega]
      omega
    obtain ⟨mag, hmag⟩ : ∃ k : Nat, k = 2 * whole + (whole * whole != N).toNat := ⟨_, rfl⟩
    have hroot : Datum.root 54 (.number false m e) = some (.number false mag ((e - more) / 2 - 1)) := by
      simp only [Datum.root, if_neg hm0, Bool.false_eq_true, if_false, ← hp, ← hmore, ← hN, ← hw, ← hmag]
    have hmag0 : mag ≠ 0 := by
      intro hz
      have hw0 : whole = 0 := by omega
      have : (whole * whole != N) = true := by
        rw [hw0, Nat.zero_mul]
        cases N with
        | zero => exact absurd rfl hN0
        | succ n => rfl
      rw [this] at hmag
      simp only [Bool.toNat_true] at hmag
      omega
    have hmagl : mag.log2 ≤ 55 := by
      have : mag.log2 < 56 := (Nat.log2_lt hmag0).2 (by
        have hb : (whole * whole != N).toNat ≤ 1 := by cases (whole * whole != N) <;> decide
        have : mag ≤ 2 * whole + 1 := by omega
        have e56 : (2 : Nat) ^ 56 = 2 * 2 ^ 55 := by rw [Nat.pow_succ]
        omega)
      omega
    obtain ⟨P, hP⟩ : ∃ P : Int, P = (e - more) / 2 - 1 := ⟨_, rfl⟩
    have hP1 : P ≤ -28 := by omega
    have hP2 : -60 ≤ P := by omega
    obtain ⟨k, e', hk1, hk2, hk3, hk4⟩ := read_nearest_any false mag hmag0 P (by omega) (by omega)
    refine ⟨Ieee.double.nearest false mag P, _, ?_, toInt_form hk1, ?_, ?_⟩
    · simp only [Ieee.Format.sqrt, hfb, hr, hroot, Option.map_some, Ieee.Format.write, ← hP]
    · rw [signed_val]; simp only [Bool.false_eq_true, if_false]; omega
    · rw [signed_val]
      simp only [Bool.false_eq_true, if_false, Nat.pow_zero, Nat.mul_one]
      have he0 : e'.toNat = 0 := by omega
      rw [he0, Nat.pow_zero, Nat.mul_one]
      have hd : 26 ≤ (-e').toNat ∨ (k = 4503599627370496 ∧ 25 ≤ (-e').toNat) := by
        rcases hk4 with h | h
        · exact .inr ⟨h, by omega⟩
        · left; omega
      have hle : k / 2 ^ (-e').toNat ≤ 134217728 := by
        rcases hd with h | ⟨h, h'⟩
        · have : 2 ^ 26 ≤ 2 ^ (-e').toNat := Nat.pow_le_pow_right (by omega) h
          refine Nat.le_trans (Nat.div_le_div hk2 this (by decide)) (by decide)
        · have : 2 ^ 25 ≤ 2 ^ (-e').toNat := Nat.pow_le_pow_right (by omega) h'
          rw [h]
          refine Nat.le_trans (Nat.div_le_div (Nat.le_refl _) this (by decide)) (by decide)
      omega
end Go.Ex

