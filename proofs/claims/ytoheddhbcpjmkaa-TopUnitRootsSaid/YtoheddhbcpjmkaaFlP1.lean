/-
  Floats that are whole numbers: what a word reads as, when a number is written exactly.
-/
/-
  Floats that are whole numbers: the number that a word is, and how tests, cuts and conversions see it.
-/
/-
  Products, sums and differences of floats that are whole numbers: exact, as long as they are less than 2^53 in size.
-/
import Derived.Laws.FloatArith
import Derived.Laws.ComplexArith

namespace Go.Ex
open Go Ieee

theorem shl_eq (a n : Nat) : a <<< n = a * 2 ^ n := Nat.shiftLeft_eq a n

/-! ## Doubles -/
theorem dbl_binade : Ieee.double.binade = 4503599627370496 := by decide
theorem dbl_inf : Ieee.double.infRung = 9218868437227405312 := by decide
theorem dbl_sign : Ieee.double.signWeight = 9223372036854775808 := by decide
theorem dbl_least : Ieee.double.leastPlace = -1074 := by decide

theorem dbl_read (b : Nat) : Ieee.double.read b =
    (if b % 9223372036854775808 < 4503599627370496 then .number (b / 9223372036854775808 % 2 == 1) (b % 9223372036854775808) (-1074)
    else if b % 9223372036854775808 < 9218868437227405312 then .number (b / 9223372036854775808 % 2 == 1) (4503599627370496 + b % 9223372036854775808 % 4503599627370496) (-1074 + (b % 9223372036854775808 / 4503599627370496 - 1 : Nat))
    else if b % 9223372036854775808 = 9218868437227405312 then .infinity (b / 9223372036854775808 % 2 == 1)
    else .nan (b / 9223372036854775808 % 2 == 1) (b % 9223372036854775808 - 9218868437227405312)) := by
  simp only [Ieee.Format.read, dbl_binade, dbl_inf, dbl_sign, dbl_least]

theorem dbl_word (s : Bool) (r : Nat) (h : r < 9223372036854775808) : Ieee.double.word s r / 9223372036854775808 % 2 = (if s then 1 else 0) ∧ Ieee.double.word s r % 9223372036854775808 = r := by
  simp only [Ieee.Format.word, dbl_sign]
  cases s
  · simp; omega
  · simp; omega

/-- A word of exponent and fraction read back. -/
theorem read_word (s : Bool) (k : Nat) (x : Nat) (hx : x ≤ 2045) (hk : k < 9007199254740992) (hn : 4503599627370496 ≤ k ∨ x = 0) :
    Ieee.double.read (Ieee.double.word s (x * 4503599627370496 + k)) = .number s k (-1074 + x) := by
  have hlt : x * 4503599627370496 + k < 9218868437227405312 := by omega
  obtain ⟨h1, h2⟩ := dbl_word s (x * 4503599627370496 + k) (by omega)
  rw [dbl_read, h2]
  have hs : (Ieee.double.word s (x * 4503599627370496 + k) / 9223372036854775808 % 2 == 1) = s := by rw [h1]; cases s <;> rfl
  rw [hs]
  by_cases hsub : x * 4503599627370496 + k < 4503599627370496
  · rw [if_pos hsub]
    have hx0 : x = 0 := by omega
    subst hx0; simp
  · rw [if_neg hsub, if_pos hlt]
    have e1 : 4503599627370496 + (x * 4503599627370496 + k) % 4503599627370496 = k := by
      rcases hn with hn | hn
      · omega
      · subst hn; omega
    have e2 : (x * 4503599627370496 + k) / 4503599627370496 - 1 = x := by
      rcases hn with hn | hn
      · omega
      · subst hn; omega
    rw [e1, e2]

theorem cut_zero_drop (way : Toward) (s : Bool) (n : Nat) : way.cut s n 0 = n := by
  unfold Toward.cut
  simp
  cases way <;> simp [Nat.mod_one]

/-- A number that a double has is written as itself: m digits at place p. -/
theorem read_nearest (s : Bool) (mag : Nat) (h0 : mag ≠ 0) (h53 : mag < 9007199254740992) : ∃ k : Nat, ∃ e : Int, Ieee.double.read (Ieee.double.nearest s mag 0) = .number s k e ∧ -1074 ≤ e ∧ e ≤ 0 ∧ k = mag * 2 ^ (-e).toNat := by
  have hlog : mag.log2 ≤ 52 := by
    have : mag.log2 < 53 := (Nat.log2_lt h0).2 (by simpa using h53)
    omega
  have hlo : 2 ^ mag.log2 ≤ mag := (Nat.le_log2 h0).1 (Nat.le_refl _)
  have hhi : mag < 2 ^ (mag.log2 + 1) := (Nat.log2_lt h0).1 (Nat.lt_succ_self _)
  generalize hL : mag.log2 = L at hlog hlo hhi
  have hlast : max ((0 : Int) + (L : Int) - 52) (-1074) = (L : Int) - 52 := by omega
  have hfb : (Ieee.double.fractionBits : Int) = 52 := rfl
  refine ⟨mag * 2 ^ (52 - L), (L : Int) - 52, ?_, by omega, by omega, ?_⟩
  · unfold Ieee.Format.nearest
    rw [if_neg h0]
    simp only [hL, hfb, dbl_least, hlast, dbl_binade, dbl_inf]
    have e1 : ((L : Int) - 52 - 0).toNat = 0 := by omega
    have e2 : ((0 : Int) - ((L : Int) - 52)).toNat = 52 - L := by omega
    have e3 : ((L : Int) - 52 - -1074).toNat = L + 1022 := by omega
    rw [e1, e2, e3, cut_zero_drop, shl_eq]
    have p1 : 2 ^ L * 2 ^ (52 - L) = 4503599627370496 := by rw [← Nat.pow_add, show L + (52 - L) = 52 by omega]
    have p2 : 2 ^ (L + 1) * 2 ^ (52 - L) = 9007199254740992 := by rw [← Nat.pow_add, show L + 1 + (52 - L) = 53 by omega]
    have k1 : 4503599627370496 ≤ mag * 2 ^ (52 - L) := by rw [← p1]; exact Nat.mul_le_mul_right _ hlo
    have k2 : mag * 2 ^ (52 - L) < 9007199254740992 := by rw [← p2]; exact Nat.mul_lt_mul_of_pos_right hhi (Nat.two_pow_pos _)
    generalize hK : mag * 2 ^ (52 - L) = K at k1 k2 ⊢
    have hmin : min ((L + 1022) * 4503599627370496 + K) 9218868437227405312 = (L + 1022) * 4503599627370496 + K := Nat.min_eq_left (by omega)
    rw [hmin, read_word s K (L + 1022) (by omega) k2 (.inl k1)]
    have e4 : (-1074 : Int) + ((L + 1022 : Nat) : Int) = (L : Int) - 52 := by omega
    rw [e4]
  · have e5 : (-((L : Int) - 52)).toNat = 52 - L := by omega
    rw [e5]

theorem read_nearest_zero (s : Bool) (p : Int) : Ieee.double.read (Ieee.double.nearest s 0 p) = .number s 0 (-1074) := by
  have := read_word s 0 0 (by omega) (by omega) (.inr rfl)
  simpa [Ieee.Format.nearest] using this

/-! ## Order does not look at how a number is written -/
theorem signed_shift (s : Bool) (m a b : Nat) : signed s (m * 2 ^ a) b = signed s m (a + b) := by
  unfold signed
  simp only [shl_eq, Nat.pow_add, Nat.mul_assoc]
theorem signed_mul (s : Bool) (m a b : Nat) : signed s m (a + b) = signed s m a * (2 ^ b : Nat) := by
  unfold signed
  simp only [shl_eq, Nat.pow_add, ← Nat.mul_assoc]
  cases s <;> simp [Int.neg_mul, Int.natCast_mul]

theorem compare_scale (x y : Int) (b : Nat) : compare (x * (2 ^ b : Nat)) (y * (2 ^ b : Nat)) = compare x y := by
  have hp : (0 : Int) < (2 ^ b : Nat) := by have := Nat.two_pow_pos b; omega
  show compareOfLessAndEq _ _ = compareOfLessAndEq _ _
  unfold compareOfLessAndEq
  rcases Int.lt_trichotomy x y with h | h | h
  · rw [if_pos h, if_pos (Int.mul_lt_mul_of_pos_right h hp)]
  · subst h; simp
  · have h' := Int.mul_lt_mul_of_pos_right h hp
    rw [if_neg (by omega), if_neg (by omega), if_neg (by omega), if_neg (by omega)]

/-- The order of two numbers, at any place below both. -/
theorem order_at (s t : Bool) (m n : Nat) (i j B : Int) (hi : B ≤ i) (hj : B ≤ j) :
    Datum.order (.number s m i) (.number t n j) = some (compare (signed s m (i - B).toNat) (signed t n (j - B).toNat)) := by
  simp only [Datum.order]
  have e1 : (i - B).toNat = (i - min i j).toNat + (min i j - B).toNat := by omega
  have e2 : (j - B).toNat = (j - min i j).toNat + (min i j - B).toNat := by omega
  rw [e1, e2, signed_mul, signed_mul, compare_scale]

end Go.Ex


namespace Go.Ex
open Go Ieee

theorem read_form {b : Nat} {s : Bool} {m : Nat} {e : Int} (h : Ieee.double.read b = .number s m e) : -1074 ≤ e ∧ e ≤ 971 ∧ m < 9007199254740992 ∧ (4503599627370496 ≤ m ∨ e = -1074) := by
  rw [dbl_read] at h
  split at h
  · cases h; omega
  · split at h
    · cases h; omega
    · split at h <;> cases h

/-- The whole number that a double is. -/
def wI (b : Nat) : Option Int :=
  match Ieee.double.read b with
  | .number s m e => if 0 ≤ e then some (signed s m e.toNat) else if m % 2 ^ (-e).toNat = 0 then some (signed s (m / 2 ^ (-e).toNat) 0) else none
  | _ => none

theorem wI_scaled {b : Nat} {v : Int} (h : wI b = some v) : ∃ s m e, Ieee.double.read b = .number s m e ∧ -1074 ≤ e ∧ e ≤ 971 ∧ m < 9007199254740992 ∧ ∀ k, k = 1074 → signed s m (e - -1074).toNat = v * (2 ^ k : Nat) := by
  unfold wI at h
  split at h
  · rename_i s m e hr
    obtain ⟨h1, h2, h3, _⟩ := read_form hr
    refine ⟨s, m, e, hr, h1, h2, h3, fun k0 hk0 => ?_⟩
    split at h
    · rename_i h0
      cases h
      rw [← signed_mul, show (e - -1074).toNat = e.toNat + k0 by omega]
    · rename_i h0
      split at h
      · rename_i hm
        cases h
        have hk : m = m / 2 ^ (-e).toNat * 2 ^ (-e).toNat := by
          have := Nat.div_add_mod m (2 ^ (-e).toNat)
          rw [hm, Nat.add_zero, Nat.mul_comm] at this
          exact this.symm
        rw [← signed_mul]
        conv => lhs; rw [hk]
        rw [signed_shift, show (-e).toNat + (e - -1074).toNat = 0 + k0 by omega]
      · cases h
  · cases h

theorem order_wI {a b : Nat} {u v : Int} (ha : wI a = some u) (hb : wI b = some v) : Ieee.double.order a b = some (compare u v) := by
  obtain ⟨s, m, e, h1, h2, _, _, h3⟩ := wI_scaled ha
  obtain ⟨t, n, f, g1, g2, _, _, g3⟩ := wI_scaled hb
  obtain ⟨k, hk⟩ : ∃ k, k = 1074 := ⟨_, rfl⟩
  unfold Ieee.Format.order
  rw [h1, g1, order_at s t m n e f (-1074) h2 g2, h3 k hk, g3 k hk, compare_scale]

theorem signed_natAbs (n : Int) : signed (decide (n < 0)) n.natAbs 0 = n := by
  unfold signed
  by_cases h : n < 0
  · simp [h]; omega
  · simp [h]; omega

theorem wI_nearest {n : Int} (h : n.natAbs < 9007199254740992) : wI (FloatKind.f64.nearest n) = some n := by
  have e0 : FloatKind.f64.nearest n = Ieee.double.nearest (decide (n < 0)) n.natAbs 0 := rfl
  rw [e0]
  by_cases h0 : n.natAbs = 0
  · have hn : n = 0 := by omega
    subst hn
    unfold wI
    rw [show Int.natAbs 0 = 0 from rfl, read_nearest_zero]
    simp only
    rw [if_neg (by decide), Nat.zero_mod, if_pos rfl, Nat.zero_div]
    rfl
  · obtain ⟨k, e, h1, h2, h3, h4⟩ := read_nearest (decide (n < 0)) n.natAbs h0 h
    unfold wI
    rw [h1]
    simp only
    split
    · rename_i he
      have : e = 0 := by omega
      subst this
      simp at h4
      subst h4
      simp [signed_natAbs]
    · rw [h4, Nat.mul_mod_left, if_pos rfl, Nat.mul_div_cancel _ (Nat.two_pow_pos _), signed_natAbs]

/-! ## The cut towards zero -/
theorem cut_zero (s : Bool) (m k : Nat) : Toward.zero.cut s m k = m / 2 ^ k := by
  unfold Toward.cut
  simp only [shl_eq, Nat.one_mul, Bool.toNat_false, Nat.add_zero]
  rcases Nat.le_total k (m.log2 + 2) with h | h
  · rw [Nat.min_eq_left h]
  · rw [Nat.min_eq_right h]
    by_cases h0 : m = 0
    · subst h0; simp
    · have h1 : m < 2 ^ (m.log2 + 2) := (Nat.log2_lt h0).1 (by omega)
      have h2 : m < 2 ^ k := Nat.lt_of_lt_of_le h1 (Nat.pow_le_pow_right (by omega) h)
      rw [Nat.div_eq_of_lt h1, Nat.div_eq_of_lt h2]

/-- A great whole number of a double is written as itself. -/
theorem read_nearest_big (s : Bool) (m e : Nat) (h1 : 4503599627370496 ≤ m) (h2 : m < 9007199254740992) (he : e ≤ 971) : Ieee.double.read (Ieee.double.nearest s (m * 2 ^ e) 0) = .number s m e := by
  have hm0 : m * 2 ^ e ≠ 0 := by have := Nat.two_pow_pos e; have := Nat.mul_pos (show 0 < m by omega) this; omega
  have hlog : (m * 2 ^ e).log2 = 52 + e := by
    have a1 : (m * 2 ^ e).log2 < 53 + e := by
      refine (Nat.log2_lt hm0).2 ?_
      rw [Nat.pow_add]
      exact Nat.mul_lt_mul_of_pos_right (by simpa using h2) (Nat.two_pow_pos _)
    have a2 : 52 + e ≤ (m * 2 ^ e).log2 := by
      refine (Nat.le_log2 hm0).2 ?_
      rw [Nat.pow_add]
      exact Nat.mul_le_mul_right _ (by simpa using h1)
    omega
  have hfb : (Ieee.double.fractionBits : Int) = 52 := rfl
  have hlast : max ((0 : Int) + ((52 + e : Nat) : Int) - 52) (-1074) = (e : Int) := by omega
  unfold Ieee.Format.nearest
  rw [if_neg hm0]
  simp only [hlog, hfb, dbl_least, hlast, dbl_binade, dbl_inf]
  have e1 : ((e : Int) - 0).toNat = e := by omega
  have e2 : ((0 : Int) - (e : Int)).toNat = 0 := by omega
  have e3 : ((e : Int) - -1074).toNat = e + 1074 := by omega
  rw [e1, e2, e3, shl_eq, Nat.pow_zero, Nat.mul_one]
  have hcut : Toward.even.cut s (m * 2 ^ e) e = m := by
    unfold Toward.cut
    have hmin : min e ((m * 2 ^ e).log2 + 2) = e := by rw [hlog]; omega
    simp only [hmin, shl_eq, Nat.one_mul, Nat.mul_div_cancel _ (Nat.two_pow_pos e), Nat.mul_mod_left]
    have hp := Nat.two_pow_pos e
    have : (2 ^ e == 0) = false := by simp
    simp [this]
  rw [hcut]
  have hmin : min ((e + 1074) * 4503599627370496 + m) 9218868437227405312 = (e + 1074) * 4503599627370496 + m := Nat.min_eq_left (by omega)
  rw [hmin, read_word s m (e + 1074) (by omega) h2 (.inl h1)]
  have : (-1074 : Int) + ((e + 1074 : Nat) : Int) = (e : Int) := by omega
  rw [this]

/-- What Trunc gives of a number. -/
def truncB (b : Nat) : Nat := FloatKind.f64.encode ((FloatKind.f64.decode b).integral .zero)

theorem integral_zero (s : Bool) (m : Nat) (e : Int) : Datum.integral .zero (.number s m e) = .number s (m * 2 ^ e.toNat / 2 ^ (-e).toNat) 0 := by
  simp only [Datum.integral, cut_zero, shl_eq]

theorem read_truncB {b : Nat} {s : Bool} {m : Nat} {e : Int} (h : Ieee.double.read b = .number s m e) (h0 : 0 ≤ e) : Ieee.double.read (truncB b) = .number s m e := by
  obtain ⟨h1, h2, h3, h4⟩ := read_form h
  have e1 : truncB b = Ieee.double.nearest s (m * 2 ^ e.toNat) 0 := by
    show Ieee.double.write ((Ieee.double.read b).integral .zero) = _
    rw [h, integral_zero, show (-e).toNat = 0 by omega]
    simp [Ieee.Format.write]
  rw [e1, read_nearest_big s m e.toNat (h4.resolve_right (by omega)) h3 (by omega)]
  congr 1; omega

theorem signed_inj {s : Bool} {a b j : Nat} : signed s a j = signed s b j ↔ a = b := by
  unfold signed
  simp only [shl_eq]
  have hp := Nat.two_pow_pos j
  refine ⟨fun h => ?_, fun h => by rw [h]⟩
  refine Nat.eq_of_mul_eq_mul_right hp ?_
  generalize a * 2 ^ j = x at h ⊢
  generalize b * 2 ^ j = y at h ⊢
  cases s <;> simp at h <;> omega

theorem compare_eq_iff (x y : Int) : compare x y = .eq ↔ x = y := by
  show compareOfLessAndEq x y = .eq ↔ _
  unfold compareOfLessAndEq
  by_cases h : x < y
  · simp [h]; omega
  · by_cases h' : x = y
    · simp [h']
    · simp [h, h']

/-- The cut of a small number, at the common place. -/
theorem order_trunc_small {b : Nat} {s : Bool} {m : Nat} {e : Int} (h : Ieee.double.read b = .number s m e) (h0 : e < 0) (s' : Bool) (hs : s' = s ∨ m / 2 ^ (-e).toNat = 0) :
    Ieee.double.order (Ieee.double.nearest s' (m / 2 ^ (-e).toNat) 0) b = some .eq ↔ m % 2 ^ (-e).toNat = 0 := by
  obtain ⟨h1, h2, h3, h4⟩ := read_form h
  have hj : 1074 = (-e).toNat + (e - -1074).toNat := by omega
  generalize hk : (-e).toNat = k at *
  generalize (e - -1074).toNat = j at hj
  have hdm := Nat.div_add_mod m (2 ^ k)
  have hp := Nat.two_pow_pos k
  have hM : m / 2 ^ k < 9007199254740992 := Nat.lt_of_le_of_lt (Nat.div_le_self _ _) h3
  have fin : ∀ (t : Bool) (q : Nat) (f : Int), Ieee.double.read (Ieee.double.nearest s' (m / 2 ^ k) 0) = .number t q f → -1074 ≤ f → signed t q (f - -1074).toNat = signed s (m / 2 ^ k) 1074 →
      (Ieee.double.order (Ieee.double.nearest s' (m / 2 ^ k) 0) b = some .eq ↔ m % 2 ^ k = 0) := by
    intro t q f hr hf hsg
    unfold Ieee.Format.order
    rw [hr, h, order_at t s q m f e (-1074) hf h1, hsg, Option.some.injEq, compare_eq_iff]
    rw [hj, ← signed_shift, show (e - -1074).toNat = j by omega, signed_inj]
    constructor
    · intro hh; rw [Nat.mul_comm] at hh; omega
    · intro hh; rw [hh] at hdm; rw [Nat.mul_comm]; omega
  by_cases hz : m / 2 ^ k = 0
  · refine fin s' 0 (-1074) (by rw [hz]; exact read_nearest_zero s' 0) (by omega) ?_
    rw [hz]; simp [signed]
  · have hss := hs.resolve_right hz
    subst hss
    obtain ⟨q, f, g1, g2, g3, g4⟩ := read_nearest s' (m / 2 ^ k) hz hM
    refine fin s' q f g1 g2 ?_
    rw [g4, signed_shift, show (-f).toNat + (f - -1074).toNat = 1074 by omega]

theorem order_self {b : Nat} {s : Bool} {m : Nat} {e : Int} (h : Ieee.double.read b = .number s m e) {a : Nat} (ha : Ieee.double.read a = .number s m e) : Ieee.double.order a b = some .eq := by
  unfold Ieee.Format.order
  rw [h, ha]
  simp only [Datum.order]
  rw [Option.some.injEq, compare_eq_iff]

/-- A number is whole just if it is what is left of it behind the cut. -/
theorem trunc_eq {b : Nat} {s : Bool} {m : Nat} {e : Int} (h : Ieee.double.read b = .number s m e) : (Ieee.double.order (truncB b) b == some .eq) = (wI b).isSome := by
  by_cases h0 : 0 ≤ e
  · rw [order_self h (read_truncB h h0)]
    unfold wI; rw [h]; simp [h0]
  · have e1 : truncB b = Ieee.double.nearest s (m / 2 ^ (-e).toNat) 0 := by
      show Ieee.double.write ((Ieee.double.read b).integral .zero) = _
      rw [h, integral_zero, show e.toNat = 0 by omega]
      simp [Ieee.Format.write]
    rw [e1]
    have := order_trunc_small h (by omega) s (.inl rfl)
    unfold wI; rw [h]
    simp only [h0, if_false]
    by_cases hm : m % 2 ^ (-e).toNat = 0
    · rw [this.2 hm]; simp [hm]
    · have hne : ¬ Ieee.double.order (Ieee.double.nearest s (m / 2 ^ (-e).toNat) 0) b = some .eq := fun hh => hm (this.1 hh)
      simp [hm]
      intro hh; exact hne hh

theorem toInt_form {b : Nat} {s : Bool} {m : Nat} {e : Int} (h : Ieee.double.read b = .number s m e) : (FloatKind.f64.decode b).toInt .zero = some (signed s (m * 2 ^ e.toNat / 2 ^ (-e).toNat) 0) := by
  show (Ieee.double.read b).toInt .zero = _
  rw [h]
  simp only [Datum.toInt, integral_zero]

theorem toInt_wI {b : Nat} {v : Int} (h : wI b = some v) : (FloatKind.f64.decode b).toInt .zero = some v := by
  unfold wI at h
  split at h
  · rename_i s m e hr
    rw [toInt_form hr]
    split at h
    · rename_i h0
      cases h
      rw [show (-e).toNat = 0 by omega]
      simp only [Nat.pow_zero, Nat.div_one]
      rw [signed_shift]; simp
    · split at h
      · cases h
        rw [show e.toNat = 0 by omega]; simp
      · cases h
  · cases h

/-- float64(int(f)) == f: just the whole numbers. -/
theorem back_eq {b : Nat} {s : Bool} {m : Nat} {e : Int} (h : Ieee.double.read b = .number s m e) {n : Int} (hn : (FloatKind.f64.decode b).toInt .zero = some n) :
    (Ieee.double.order (FloatKind.f64.nearest n) b == some .eq) = (wI b).isSome := by
  rw [toInt_form h] at hn
  obtain ⟨h1, h2, h3, h4⟩ := read_form h
  have hn := (Option.some.inj hn).symm
  have en : FloatKind.f64.nearest n = Ieee.double.nearest (decide (n < 0)) n.natAbs 0 := rfl
  have hsg : ∀ M : Nat, n = signed s M 0 → n.natAbs = M ∧ (decide (n < 0) = s ∨ M = 0) := by
    intro M hM
    unfold signed at hM
    simp at hM
    cases s
    · simp at hM
      exact ⟨by omega, .inl (by simp; omega)⟩
    · simp at hM
      refine ⟨by omega, ?_⟩
      by_cases hz : M = 0
      · exact .inr hz
      · exact .inl (by simp; omega)
  by_cases h0 : 0 ≤ e
  · rw [show (-e).toNat = 0 by omega] at hn
    simp only [Nat.pow_zero, Nat.div_one] at hn
    obtain ⟨g1, g2⟩ := hsg _ hn
    have hne : m * 2 ^ e.toNat ≠ 0 := by
      have hp := Nat.two_pow_pos e.toNat
      have := Nat.mul_pos (show 0 < m by have := h4.resolve_right (by omega); omega) hp
      omega
    rw [en, g1, g2.resolve_right hne]
    rw [order_self h (by rw [read_nearest_big s m e.toNat (h4.resolve_right (by omega)) h3 (by omega)]; congr 1; omega)]
    unfold wI; rw [h]; simp [h0]
  · rw [show e.toNat = 0 by omega] at hn
    simp only [Nat.pow_zero, Nat.mul_one] at hn
    obtain ⟨g1, g2⟩ := hsg _ hn
    rw [en, g1]
    have := order_trunc_small h (by omega) (decide (n < 0)) g2
    unfold wI; rw [h]
    simp only [h0, if_false]
    by_cases hm : m % 2 ^ (-e).toNat = 0
    · rw [this.2 hm]; simp [hm]
    · simp [hm]
      intro hh; exact hm (this.1 hh)

/-- The size. -/
theorem wI_abs {b : Nat} {v : Int} (h : wI b = some v) : wI (b % 9223372036854775808) = some (v.natAbs : Int) := by
  unfold wI at h
  split at h
  · rename_i s m e hr
    have hr' : Ieee.double.read (b % 9223372036854775808) = .number false m e := by
      rw [dbl_read] at hr ⊢
      have a1 : b % 9223372036854775808 / 9223372036854775808 % 2 = 0 := by omega
      rw [a1, Nat.mod_mod]
      split at hr
      · rename_i hc; rw [if_pos hc]; cases hr; rfl
      · rename_i hc; rw [if_neg hc]
        split at hr
        · rename_i hc'; rw [if_pos hc']; cases hr; rfl
        · split at hr <;> cases hr
    have habs : ∀ M j : Nat, signed false M j = ((signed s M j).natAbs : Int) := by
      intro M j; unfold signed; generalize M <<< j = q; cases s <;> simp
    unfold wI; rw [hr']
    simp only
    split at h
    · rename_i h0; cases h; rw [if_pos h0, habs]
    · rename_i h0; rw [if_neg h0]
      split at h
      · rename_i hm; cases h; rw [if_pos hm, habs]
      · cases h
  · cases h

def signed0 (m j : Nat) : Nat := m * 2 ^ j
theorem signed0_le {m n j k : Nat} (h : m ≤ n) (h' : j ≤ k) : signed0 m j ≤ signed0 n k := Nat.mul_le_mul h (Nat.pow_le_pow_right (by omega) h')
theorem signed_false (m j : Nat) : signed false m j = (signed0 m j : Int) := by
  unfold signed signed0; simp [shl_eq]

end Go.Ex


namespace Go.Ex
open Go Ieee

theorem cut_mul (s : Bool) (x d : Nat) (hx : x ≠ 0) : Toward.even.cut s (x * 2 ^ d) d = x := by
  have hlog : d ≤ (x * 2 ^ d).log2 := by
    refine (Nat.le_log2 (Nat.mul_ne_zero hx (by have := Nat.two_pow_pos d; omega))).2 ?_
    exact Nat.le_mul_of_pos_left _ (Nat.pos_of_ne_zero hx)
  have hp := Nat.two_pow_pos d
  unfold Toward.cut
  rw [Nat.min_eq_left (by omega), shl_eq, Nat.one_mul]
  simp only [Nat.mul_div_cancel _ hp, Nat.mul_mod_left]
  have h1 : ¬ (2 ^ d < 2 * 0) := by omega
  have h2 : (2 ^ d == 2 * 0) = false := by simp
  simp [h2]

theorem log2_mul_pow (x k : Nat) (hx : x ≠ 0) : (x * 2 ^ k).log2 = x.log2 + k := by
  have hne : x * 2 ^ k ≠ 0 := Nat.mul_ne_zero hx (by have := Nat.two_pow_pos k; omega)
  have h1 : 2 ^ x.log2 ≤ x := (Nat.le_log2 hx).1 (Nat.le_refl _)
  have h2 : x < 2 ^ (x.log2 + 1) := (Nat.log2_lt hx).1 (Nat.lt_succ_self _)
  have a : x.log2 + k ≤ (x * 2 ^ k).log2 := (Nat.le_log2 hne).2 (by rw [Nat.pow_add]; exact Nat.mul_le_mul_right _ h1)
  have b : (x * 2 ^ k).log2 < x.log2 + k + 1 := (Nat.log2_lt hne).2 (by
    rw [show x.log2 + k + 1 = x.log2 + 1 + k by omega, Nat.pow_add]
    exact Nat.mul_lt_mul_of_pos_right h2 (Nat.two_pow_pos _))
  omega

/-- How a number is written does not matter. -/
theorem nearest_shift (s : Bool) (x k : Nat) (p : Int) (hx : x ≠ 0) (hl : (x.log2 : Int) + (p + k) - 52 ≤ p + k) (hq : -1074 ≤ p + k) : Ieee.double.nearest s (x * 2 ^ k) p = Ieee.double.nearest s x (p + k) := by
  have hne : x * 2 ^ k ≠ 0 := Nat.mul_ne_zero hx (by have := Nat.two_pow_pos k; omega)
  have hfb : (Ieee.double.fractionBits : Int) = 52 := rfl
  unfold Ieee.Format.nearest
  rw [if_neg hne, if_neg hx]
  simp only [log2_mul_pow x k hx, hfb, dbl_least]
  have e0 : p + ((x.log2 + k : Nat) : Int) - 52 = p + k + (x.log2 : Int) - 52 := by omega
  rw [e0]
  obtain ⟨L, hL⟩ : ∃ L : Int, L = max (p + k + (x.log2 : Int) - 52) (-1074) := ⟨_, rfl⟩
  rw [← hL]
  have hLk : L ≤ p + k := by omega
  have key : Toward.even.cut s ((x * 2 ^ k) <<< (p - L).toNat) (L - p).toNat = Toward.even.cut s (x <<< (p + k - L).toNat) (L - (p + k)).toNat := by
    have r0 : (L - (p + k)).toNat = 0 := by omega
    rw [r0, cut_zero_drop, shl_eq, shl_eq]
    by_cases hp : L ≤ p
    · have r1 : (L - p).toNat = 0 := by omega
      rw [r1, cut_zero_drop, Nat.mul_assoc, ← Nat.pow_add, show k + (p - L).toNat = (p + k - L).toNat by omega]
    · have r1 : (p - L).toNat = 0 := by omega
      rw [r1, Nat.pow_zero, Nat.mul_one]
      have r2 : x * 2 ^ k = x * 2 ^ (p + k - L).toNat * 2 ^ (L - p).toNat := by
        rw [Nat.mul_assoc, ← Nat.pow_add, show (p + k - L).toNat + (L - p).toNat = k by omega]
      rw [r2, cut_mul _ _ _ (Nat.mul_ne_zero hx (by have := Nat.two_pow_pos (p + k - L).toNat; omega))]
  rw [key]

theorem wI_sign {s : Bool} {N : Nat} (hN : N < 9007199254740992) (h0 : N ≠ 0) : wI (Ieee.double.nearest s N 0) = some (if s then -(N : Int) else (N : Int)) := by
  have h := wI_nearest (n := if s then -(N : Int) else (N : Int)) (by cases s <;> simp <;> omega)
  have e : FloatKind.f64.nearest (if s then -(N : Int) else (N : Int)) = Ieee.double.nearest s N 0 := by
    have e0 : ∀ n : Int, FloatKind.f64.nearest n = Ieee.double.nearest (decide (n < 0)) n.natAbs 0 := fun n => rfl
    rw [e0]
    cases s
    · simp only [Bool.false_eq_true, if_false, Int.natAbs_natCast]
      rw [decide_eq_false (by omega)]
    · simp only [if_true, Int.natAbs_neg, Int.natAbs_natCast]
      rw [decide_eq_true (by omega)]
  rw [← e]; exact h

theorem wI_write {s : Bool} {M N : Nat} {P : Int} {B : Nat} (hB : B = 2148) (hP : -(B : Int) ≤ P) (h : M * 2 ^ (P + B).toNat = N * 2 ^ B) (hN : N < 9007199254740992) : wI (Ieee.double.nearest s M P) = some (if s then -(N : Int) else (N : Int)) := by
  by_cases h0 : M = 0
  · subst h0
    have hz : N = 0 := by
      rw [Nat.zero_mul] at h
      rcases Nat.mul_eq_zero.1 h.symm with h | h
      · exact h
      · have := Nat.two_pow_pos B; omega
    subst hz
    unfold wI
    rw [read_nearest_zero]
    simp only
    rw [if_neg (by decide), Nat.zero_mod, if_pos rfl, Nat.zero_div]
    cases s <;> rfl
  · have hN0 : N ≠ 0 := by
      intro hz
      subst hz
      rw [Nat.zero_mul] at h
      rcases Nat.mul_eq_zero.1 h with h | h
      · exact h0 h
      · have := Nat.two_pow_pos (P + B).toNat; omega
    have hlog : N.log2 ≤ 52 := by
      have : N.log2 < 53 := (Nat.log2_lt hN0).2 (by simpa using hN)
      omega
    by_cases hs : 0 ≤ P
    · have e : N = M * 2 ^ P.toNat := by
        have : (P + B).toNat = P.toNat + B := by omega
        rw [this, Nat.pow_add, ← Nat.mul_assoc] at h
        exact (Nat.eq_of_mul_eq_mul_right (Nat.two_pow_pos B) h).symm
      have hl2 : M.log2 + P.toNat = N.log2 := by rw [e, log2_mul_pow _ _ h0]
      have e2 := nearest_shift s M P.toNat 0 h0 (by omega) (by omega)
      rw [← e, show (0 : Int) + (P.toNat : Int) = P by omega] at e2
      rw [← e2]
      exact wI_sign hN hN0
    · obtain ⟨k, hk⟩ : ∃ k : Nat, P = -(k : Int) := ⟨(-P).toNat, by omega⟩
      have e : M = N * 2 ^ k := by
        have h1 : (P + B).toNat + k = B := by omega
        have h2 : N * 2 ^ B = N * 2 ^ k * 2 ^ (P + B).toNat := by rw [Nat.mul_assoc, ← Nat.pow_add, show k + (P + B).toNat = B by omega]
        rw [h2] at h
        exact Nat.eq_of_mul_eq_mul_right (Nat.two_pow_pos _) h
      have e2 := nearest_shift s N k P hN0 (by omega) (by omega)
      rw [← e, show P + (k : Int) = 0 by omega] at e2
      rw [e2]
      exact wI_sign hN hN0

theorem natAbs_signed (s : Bool) (m j : Nat) : (signed s m j).natAbs = m * 2 ^ j := by
  unfold signed; rw [shl_eq]
  cases s
  · exact Int.natAbs_natCast (m * 2 ^ j)
  · exact (Int.natAbs_neg _).trans (Int.natAbs_natCast (m * 2 ^ j))
theorem signed_val (s : Bool) (m j : Nat) : signed s m j = if s then -((m * 2 ^ j : Nat) : Int) else ((m * 2 ^ j : Nat) : Int) := by
  unfold signed; rw [shl_eq]

theorem wI_mul {a b : Nat} {u v : Int} (ha : wI a = some u) (hb : wI b = some v) (h : (u * v).natAbs < 9007199254740992) : ∃ r, Ieee.double.mul a b = some r ∧ wI r = some (u * v) := by
  obtain ⟨s, m, i, h1, h2, h3, _, h4⟩ := wI_scaled ha
  obtain ⟨t, n, j, g1, g2, g3, _, g4⟩ := wI_scaled hb
  obtain ⟨B, hB⟩ : ∃ B : Nat, B = 1074 := ⟨_, rfl⟩
  have h4 := h4 B hB
  have g4 := g4 B hB
  refine ⟨Ieee.double.nearest (s ^^ t) (m * n) (i + j), ?_, ?_⟩
  · simp only [Ieee.Format.mul, h1, g1, Datum.product, Option.map_some, Ieee.Format.write]
  · have k1 : m * 2 ^ (i - -1074).toNat = u.natAbs * 2 ^ B := by have := congrArg Int.natAbs h4; rwa [natAbs_signed, Int.natAbs_mul, Int.natAbs_natCast] at this
    have k2 : n * 2 ^ (j - -1074).toNat = v.natAbs * 2 ^ B := by have := congrArg Int.natAbs g4; rwa [natAbs_signed, Int.natAbs_mul, Int.natAbs_natCast] at this
    have hw := wI_write (s := s ^^ t) (M := m * n) (N := (u * v).natAbs) (P := i + j) (B := B + B) (by omega) (by omega) (by
      have e : (i + j + ((B + B : Nat) : Int)).toNat = (i - -1074).toNat + (j - -1074).toNat := by omega
      rw [e, Nat.pow_add, Nat.pow_add, Int.natAbs_mul]
      have : m * n * (2 ^ (i - -1074).toNat * 2 ^ (j - -1074).toNat) = m * 2 ^ (i - -1074).toNat * (n * 2 ^ (j - -1074).toNat) := by
        simp only [Nat.mul_assoc, Nat.mul_left_comm]
      rw [this, k1, k2]
      simp only [Nat.mul_assoc, Nat.mul_left_comm]) h
    rw [hw]
    congr 1
    -- the sign
    have hp : (0 : Int) < (2 ^ B : Nat) := by have := Nat.two_pow_pos B; omega
    have su : (s = true → u ≤ 0) ∧ (s = false → 0 ≤ u) := by
      rw [signed_val] at h4
      refine ⟨fun e => ?_, fun e => ?_⟩
      · subst e
        simp only [if_true] at h4
        by_cases hu : u ≤ 0
        · exact hu
        · have := Int.mul_pos (show 0 < u by omega) hp; omega
      · subst e
        simp only [Bool.false_eq_true, if_false] at h4
        by_cases hu : 0 ≤ u
        · exact hu
        · have := Int.mul_pos (show 0 < -u by omega) hp; rw [Int.neg_mul] at this; omega
    have sv : (t = true → v ≤ 0) ∧ (t = false → 0 ≤ v) := by
      rw [signed_val] at g4
      refine ⟨fun e => ?_, fun e => ?_⟩
      · subst e
        simp only [if_true] at g4
        by_cases hu : v ≤ 0
        · exact hu
        · have := Int.mul_pos (show 0 < v by omega) hp; omega
      · subst e
        simp only [Bool.false_eq_true, if_false] at g4
        by_cases hu : 0 ≤ v
        · exact hu
        · have := Int.mul_pos (show 0 < -v by omega) hp; rw [Int.neg_mul] at this; omega
    cases s <;> cases t <;> simp only [Bool.xor_false, Bool.xor_true, Bool.not_false, Bool.not_true, Bool.false_eq_true, if_true, if_false]
    · have := Int.mul_nonneg (su.2 rfl) (sv.2 rfl); omega
    · have := Int.mul_nonpos_of_nonneg_of_nonpos (su.2 rfl) (sv.1 rfl); omega
    · have := Int.mul_nonpos_of_nonpos_of_nonneg (su.1 rfl) (sv.2 rfl); omega
    · have := Int.mul_nonneg_of_nonpos_of_nonpos (su.1 rfl) (sv.1 rfl); omega

/-- Sums: of one datum and of another one, that are written so. -/
theorem wI_sum {s t : Bool} {m n : Nat} {i j : Int} {u v : Int} {B : Nat} (hB : B = 1074) (hi : -1074 ≤ i) (hj : -1074 ≤ j) (h4 : signed s m (i - -1074).toNat = u * (2 ^ B : Nat)) (g4 : signed t n (j - -1074).toNat = v * (2 ^ B : Nat)) (h : (u + v).natAbs < 9007199254740992) :
    ∃ d, Datum.sum (.number s m i) (.number t n j) = some d ∧ wI (Ieee.double.write d) = some (u + v) := by
  refine ⟨_, rfl, ?_⟩
  simp only [Ieee.Format.write]
  obtain ⟨C, hC⟩ : ∃ C : Int, C = min i j := ⟨_, rfl⟩
  obtain ⟨T, hT⟩ : ∃ T : Int, T = signed s m (i - C).toNat + signed t n (j - C).toNat := ⟨_, rfl⟩
  rw [← hC, ← hT]
  have e1 : (i - -1074).toNat = (i - C).toNat + (C - -1074).toNat := by omega
  have e2 : (j - -1074).toNat = (j - C).toNat + (C - -1074).toNat := by omega
  rw [e1, signed_mul] at h4
  rw [e2, signed_mul] at g4
  have hs : T * (2 ^ (C - -1074).toNat : Nat) = (u + v) * (2 ^ B : Nat) := by rw [hT, Int.add_mul, h4, g4, Int.add_mul]
  have k1 : T.natAbs * 2 ^ (C - -1074).toNat = (u + v).natAbs * 2 ^ B := by have := congrArg Int.natAbs hs; rwa [Int.natAbs_mul, Int.natAbs_mul, Int.natAbs_natCast, Int.natAbs_natCast] at this
  have hw := fun s' => wI_write (s := s') (M := T.natAbs) (N := (u + v).natAbs) (P := C) (B := B + B) (by omega) (by omega) (by
    have e : (C + ((B + B : Nat) : Int)).toNat = (C - -1074).toNat + B := by omega
    rw [e, Nat.pow_add, ← Nat.mul_assoc, k1, Nat.pow_add, Nat.mul_assoc]) h
  rw [hw]
  congr 1
  have hp : (0 : Int) < (2 ^ B : Nat) := by have := Nat.two_pow_pos B; omega
  have hq : (0 : Int) < (2 ^ (C - -1074).toNat : Nat) := by have := Nat.two_pow_pos (C - -1074).toNat; omega
  by_cases hz : T = 0
  · have : u + v = 0 := by
      rw [hz, Int.zero_mul] at hs
      rcases Int.mul_eq_zero.1 hs.symm with h | h
      · exact h
      · omega
    rw [this]; cases (if T = 0 then s && t else decide (T < 0)) <;> rfl
  · rw [if_neg hz]
    by_cases hn : T < 0
    · rw [decide_eq_true hn]
      simp only [if_true]
      have : u + v < 0 := by
        by_cases hc : 0 ≤ u + v
        · have a := Int.mul_nonneg hc (Int.le_of_lt hp)
          have b := Int.mul_pos (show 0 < -T by omega) hq
          rw [Int.neg_mul] at b
          omega
        · omega
      omega
    · rw [decide_eq_false hn]
      simp only [Bool.false_eq_true, if_false]
      have : 0 ≤ u + v := by
        by_cases hc : 0 ≤ u + v
        · exact hc
        · have a := Int.mul_pos (show 0 < -(u + v) by omega) hp
          rw [Int.neg_mul] at a
          have b := Int.mul_nonneg (show 0 ≤ T by omega) (Int.le_of_lt hq)
          omega
      omega

theorem wI_add {a b : Nat} {u v : Int} (ha : wI a = some u) (hb : wI b = some v) (h : (u + v).natAbs < 9007199254740992) : ∃ r, Ieee.double.add a b = some r ∧ wI r = some (u + v) := by
  obtain ⟨s, m, i, h1, h2, _, _, h4⟩ := wI_scaled ha
  obtain ⟨t, n, j, g1, g2, _, _, g4⟩ := wI_scaled hb
  obtain ⟨B, hB⟩ : ∃ B : Nat, B = 1074 := ⟨_, rfl⟩
  obtain ⟨d, d1, d2⟩ := wI_sum hB h2 g2 (h4 B hB) (g4 B hB) h
  exact ⟨_, by simp only [Ieee.Format.add, h1, g1, d1, Option.map_some], d2⟩
theorem wI_sub {a b : Nat} {u v : Int} (ha : wI a = some u) (hb : wI b = some v) (h : (u - v).natAbs < 9007199254740992) : ∃ r, Ieee.double.sub a b = some r ∧ wI r = some (u - v) := by
  obtain ⟨s, m, i, h1, h2, _, _, h4⟩ := wI_scaled ha
  obtain ⟨t, n, j, g1, g2, _, _, g4⟩ := wI_scaled hb
  obtain ⟨B, hB⟩ : ∃ B : Nat, B = 1074 := ⟨_, rfl⟩
  have g4' : signed (!t) n (j - -1074).toNat = -v * (2 ^ B : Nat) := by
    have := g4 B hB
    rw [Int.neg_mul, ← this]; unfold signed; cases t <;> simp
  obtain ⟨d, d1, d2⟩ := wI_sum hB h2 g2 (h4 B hB) g4' (by rw [← Int.sub_eq_add_neg]; exact h)
  rw [← Int.sub_eq_add_neg] at d2
  exact ⟨_, by simp only [Ieee.Format.sub, h1, g1, Datum.opposite, d1, Option.map_some], d2⟩

end Go.Ex

