/-
  Floats that are whole numbers: the number that a word is, and how tests, cuts and conversions see it.
-/
import Derived.Test.YtoheddhbcpjmkaaFl1
namespace Go.Ex
open Go Ieee

theorem read_form {b : Nat} {s : Bool} {m : Nat} {e : Int} (h : Ieee.double.read b = .number s m e) : -1074 ≤ e ∧ e ≤ 971 ∧ m < 9007199254740992 ∧ (4503599627370496 ≤ m ∨ e = -1074) := by
  rw [dbl_read] at h
  split at h
  · cases h; omega
  · split at h
    · cases h; omega
    · split at h <;> cases h

/-- The whole number that a double is. -/
def wI (b : Nat) : Option Int :=
  match Ieee.double.read b with
  | .number s m e => if 0 ≤ e then some (signed s m e.toNat) else if m % 2 ^ (-e).toNat = 0 then some (signed s (m / 2 ^ (-e).toNat) 0) else none
  | _ => none

theorem wI_scaled {b : Nat} {v : Int} (h : wI b = some v) : ∃ s m e, Ieee.double.read b = .number s m e ∧ -1074 ≤ e ∧ e ≤ 971 ∧ m < 9007199254740992 ∧ ∀ k, k = 1074 → signed s m (e - -1074).toNat = v * (2 ^ k : Nat) := by
  unfold wI at h
  split at h
  · rename_i s m e hr
    obtain ⟨h1, h2, h3, _⟩ := read_form hr
    refine ⟨s, m, e, hr, h1, h2, h3, fun k0 hk0 => ?_⟩
    split at h
    · rename_i h0
      cases h
      rw [← signed_mul, show (e - -1074).toNat = e.toNat + k0 by omega]
    · rename_i h0
      split at h
      · rename_i hm
        cases h
        have hk : m = m / 2 ^ (-e).toNat * 2 ^ (-e).toNat := by
          have := Nat.div_add_mod m (2 ^ (-e).toNat)
          rw [hm, Nat.add_zero, Nat.mul_comm] at this
          exact this.symm
        rw [← signed_mul]
        conv => lhs; rw [hk]
        rw [signed_shift, show (-e).toNat + (e - -1074).toNat = 0 + k0 by omega]
      · cases h
  · cases h

theorem order_wI {a b : Nat} {u v : Int} (ha : wI a = some u) (hb : wI b = some v) : Ieee.double.order a b = some (compare u v) := by
  obtain ⟨s, m, e, h1, h2, _, _, h3⟩ := wI_scaled ha
  obtain ⟨t, n, f, g1, g2, _, _, g3⟩ := wI_scaled hb
  obtain ⟨k, hk⟩ : ∃ k, k = 1074 := ⟨_, rfl⟩
  unfold Ieee.Format.order
  rw [h1, g1, order_at s t m n e f (-1074) h2 g2, h3 k hk, g3 k hk, compare_scale]

theorem signed_natAbs (n : Int) : signed (decide (n < 0)) n.natAbs 0 = n := by
  unfold signed
  by_cases h : n < 0
  · simp [h]; omega
  · simp [h]; omega

theorem wI_nearest {n : Int} (h : n.natAbs < 9007199254740992) : wI (FloatKind.f64.nearest n) = some n := by
  have e0 : FloatKind.f64.nearest n = Ieee.double.nearest (decide (n < 0)) n.natAbs 0 := rfl
  rw [e0]
  by_cases h0 : n.natAbs = 0
  · have hn : n = 0 := by omega
    subst hn
    unfold wI
    rw [show Int.natAbs 0 = 0 from rfl, read_nearest_zero]
    simp only
    rw [if_neg (by decide), Nat.zero_mod, if_pos rfl, Nat.zero_div]
    rfl
  · obtain ⟨k, e, h1, h2, h3, h4⟩ := read_nearest (decide (n < 0)) n.natAbs h0 h
    unfold wI
    rw [h1]
    simp only
    split
    · rename_i he
      have : e = 0 := by omega
      subst this
      simp at h4
      subst h4
      simp [signed_natAbs]
    · rw [h4, Nat.mul_mod_left, if_pos rfl, Nat.mul_div_cancel _ (Nat.two_pow_pos _), signed_natAbs]

/-! ## The cut towards zero -/
theorem cut_zero (s : Bool) (m k : Nat) : Toward.zero.cut s m k = m / 2 ^ k := by
  unfold Toward.cut
  simp only [shl_eq, Nat.one_mul, Bool.toNat_false, Nat.add_zero]
  rcases Nat.le_total k (m.log2 + 2) with h | h
  · rw [Nat.min_eq_left h]
  · rw [Nat.min_eq_right h]
    by_cases h0 : m = 0
    · subst h0; simp
    · have h1 : m < 2 ^ (m.log2 + 2) := (Nat.log2_lt h0).1 (by omega)
      have h2 : m < 2 ^ k := Nat.lt_of_lt_of_le h1 (Nat.pow_le_pow_right (by omega) h)
      rw [Nat.div_eq_of_lt h1, Nat.div_eq_of_lt h2]

/-- A great whole number of a double is written as itself. -/
theorem read_nearest_big (s : Bool) (m e : Nat) (h1 : 4503599627370496 ≤ m) (h2 : m < 9007199254740992) (he : e ≤ 971) : Ieee.double.read (Ieee.double.nearest s (m * 2 ^ e) 0) = .number s m e := by
  have hm0 : m * 2 ^ e ≠ 0 := by have := Nat.two_pow_pos e; have := Nat.mul_pos (show 0 < m by omega) this; omega
  have hlog : (m * 2 ^ e).log2 = 52 + e := by
    have a1 : (m * 2 ^ e).log2 < 53 + e := by
      refine (Nat.log2_lt hm0).2 ?_
      rw [Nat.pow_add]
      exact Nat.mul_lt_mul_of_pos_right (by simpa using h2) (Nat.two_pow_pos _)
    have a2 : 52 + e ≤ (m * 2 ^ e).log2 := by
      refine (Nat.le_log2 hm0).2 ?_
      rw [Nat.pow_add]
      exact Nat.mul_le_mul_right _ (by simpa using h1)
    omega
  have hfb : (Ieee.double.fractionBits : Int) = 52 := rfl
  have hlast : max ((0 : Int) + ((52 + e : Nat) : Int) - 52) (-1074) = (e : Int) := by omega
  unfold Ieee.Format.nearest
  rw [if_neg hm0]
  simp only [hlog, hfb, dbl_least, hlast, dbl_binade, dbl_inf]
  have e1 : ((e : Int) - 0).toNat = e := by omega
  have e2 : ((0 : Int) - (e : Int)).toNat = 0 := by omega
  have e3 : ((e : Int) - -1074).toNat = e + 1074 := by omega
  rw [e1, e2, e3, shl_eq, Nat.pow_zero, Nat.mul_one]
  have hcut : Toward.even.cut s (m * 2 ^ e) e = m := by
    unfold Toward.cut
    have hmin : min e ((m * 2 ^ e).log2 + 2) = e := by rw [hlog]; omega
    simp only [hmin, shl_eq, Nat.one_mul, Nat.mul_div_cancel _ (Nat.two_pow_pos e), Nat.mul_mod_left]
    have hp := Nat.two_pow_pos e
    have : (2 ^ e == 0) = false := by simp
    simp [this]
  rw [hcut]
  have hmin : min ((e + 1074) * 4503599627370496 + m) 9218868437227405312 = (e + 1074) * 4503599627370496 + m := Nat.min_eq_left (by omega)
  rw [hmin, read_word s m (e + 1074) (by omega) h2 (.inl h1)]
  have : (-1074 : Int) + ((e + 1074 : Nat) : Int) = (e : Int) := by omega
  rw [this]

/-- What Trunc gives of a number. -/
def truncB (b : Nat) : Nat := FloatKind.f64.encode ((FloatKind.f64.decode b).integral .zero)

theorem integral_zero (s : Bool) (m : Nat) (e : Int) : Datum.integral .zero (.number s m e) = .number s (m * 2 ^ e.toNat / 2 ^ (-e).toNat) 0 := by
  simp only [Datum.integral, cut_zero, shl_eq]

theorem read_truncB {b : Nat} {s : Bool} {m : Nat} {e : Int} (h : Ieee.double.read b = .number s m e) (h0 : 0 ≤ e) : Ieee.double.read (truncB b) = .number s m e := by
  obtain ⟨h1, h2, h3, h4⟩ := read_form h
  have e1 : truncB b = Ieee.double.nearest s (m * 2 ^ e.toNat) 0 := by
    show Ieee.double.write ((Ieee.double.read b).integral .zero) = _
    rw [h, integral_zero, show (-e).toNat = 0 by omega]
    simp [Ieee.Format.write]
  rw [e1, read_nearest_big s m e.toNat (h4.resolve_right (by omega)) h3 (by omega)]
  congr 1; omega

theorem signed_inj {s : Bool} {a b j : Nat} : signed s a j = signed s b j ↔ a = b := by
  unfold signed
  simp only [shl_eq]
  have hp := Nat.two_pow_pos j
  refine ⟨fun h => ?_, fun h => by rw [h]⟩
  refine Nat.eq_of_mul_eq_mul_right hp ?_
  generalize a * 2 ^ j = x at h ⊢
  generalize b * 2 ^ j = y at h ⊢
  cases s <;> simp at h <;> omega

theorem compare_eq_iff (x y : Int) : compare x y = .eq ↔ x = y := by
  show compareOfLessAndEq x y = .eq ↔ _
  unfold compareOfLessAndEq
  by_cases h : x < y
  · simp [h]; omega
  · by_cases h' : x = y
    · simp [h']
    · simp [h, h']

/-- The cut of a small number, at the common place. -/
theorem order_trunc_small {b : Nat} {s : Bool} {m : Nat} {e : Int} (h : Ieee.double.read b = .number s m e) (h0 : e < 0) (s' : Bool) (hs : s' = s ∨ m / 2 ^ (-e).toNat = 0) :
    Ieee.double.order (Ieee.double.nearest s' (m / 2 ^ (-e).toNat) 0) b = some .eq ↔ m % 2 ^ (-e).toNat = 0 := by
  obtain ⟨h1, h2, h3, h4⟩ := read_form h
  have hj : 1074 = (-e).toNat + (e - -1074).toNat := by omega
  generalize hk : (-e).toNat = k at *
  generalize (e - -1074).toNat = j at hj
  have hdm := Nat.div_add_mod m (2 ^ k)
  have hp := Nat.two_pow_pos k
  have hM : m / 2 ^ k < 9007199254740992 := Nat.lt_of_le_of_lt (Nat.div_le_self _ _) h3
  have fin : ∀ (t : Bool) (q : Nat) (f : Int), Ieee.double.read (Ieee.double.nearest s' (m / 2 ^ k) 0) = .number t q f → -1074 ≤ f → signed t q (f - -1074).toNat = signed s (m / 2 ^ k) 1074 →
      (Ieee.double.order (Ieee.double.nearest s' (m / 2 ^ k) 0) b = some .eq ↔ m % 2 ^ k = 0) := by
    intro t q f hr hf hsg
    unfold Ieee.Format.order
    rw [hr, h, order_at t s q m f e (-1074) hf h1, hsg, Option.some.injEq, compare_eq_iff]
    rw [hj, ← signed_shift, show (e - -1074).toNat = j by omega, signed_inj]
    constructor
    · intro hh; rw [Nat.mul_comm] at hh; omega
    · intro hh; rw [hh] at hdm; rw [Nat.mul_comm]; omega
  by_cases hz : m / 2 ^ k = 0
  · refine fin s' 0 (-1074) (by rw [hz]; exact read_nearest_zero s' 0) (by omega) ?_
    rw [hz]; simp [signed]
  · have hss := hs.resolve_right hz
    subst hss
    obtain ⟨q, f, g1, g2, g3, g4⟩ := read_nearest s' (m / 2 ^ k) hz hM
    refine fin s' q f g1 g2 ?_
    rw [g4, signed_shift, show (-f).toNat + (f - -1074).toNat = 1074 by omega]

theorem order_self {b : Nat} {s : Bool} {m : Nat} {e : Int} (h : Ieee.double.read b = .number s m e) {a : Nat} (ha : Ieee.double.read a = .number s m e) : Ieee.double.order a b = some .eq := by
  unfold Ieee.Format.order
  rw [h, ha]
  simp only [Datum.order]
  rw [Option.some.injEq, compare_eq_iff]

/-- A number is whole just if it is what is left of it behind the cut. -/
theorem trunc_eq {b : Nat} {s : Bool} {m : Nat} {e : Int} (h : Ieee.double.read b = .number s m e) : (Ieee.double.order (truncB b) b == some .eq) = (wI b).isSome := by
  by_cases h0 : 0 ≤ e
  · rw [order_self h (read_truncB h h0)]
    unfold wI; rw [h]; simp [h0]
  · have e1 : truncB b = Ieee.double.nearest s (m / 2 ^ (-e).toNat) 0 := by
      show Ieee.double.write ((Ieee.double.read b).integral .zero) = _
      rw [h, integral_zero, show e.toNat = 0 by omega]
      simp [Ieee.Format.write]
    rw [e1]
    have := order_trunc_small h (by omega) s (.inl rfl)
    unfold wI; rw [h]
    simp only [h0, if_false]
    by_cases hm : m % 2 ^ (-e).toNat = 0
    · rw [this.2 hm]; simp [hm]
    · have hne : ¬ Ieee.double.order (Ieee.double.nearest s (m / 2 ^ (-e).toNat) 0) b = some .eq := fun hh => hm (this.1 hh)
      simp [hm]
      intro hh; exact hne hh

theorem toInt_form {b : Nat} {s : Bool} {m : Nat} {e : Int} (h : Ieee.double.read b = .number s m e) : (FloatKind.f64.decode b).toInt .zero = some (signed s (m * 2 ^ e.toNat / 2 ^ (-e).toNat) 0) := by
  show (Ieee.double.read b).toInt .zero = _
  rw [h]
  simp only [Datum.toInt, integral_zero]

theorem toInt_wI {b : Nat} {v : Int} (h : wI b = some v) : (FloatKind.f64.decode b).toInt .zero = some v := by
  unfold wI at h
  split at h
  · rename_i s m e hr
    rw [toInt_form hr]
    split at h
    · rename_i h0
      cases h
      rw [show (-e).toNat = 0 by omega]
      simp only [Nat.pow_zero, Nat.div_one]
      rw [signed_shift]; simp
    · split at h
      · cases h
        rw [show e.toNat = 0 by omega]; simp
      · cases h
  · cases h

/-- float64(int(f)) == f: just the whole numbers. -/
theorem back_eq {b : Nat} {s : Bool} {m : Nat} {e : Int} (h : Ieee.double.read b = .number s m e) {n : Int} (hn : (FloatKind.f64.decode b).toInt .zero = some n) :
    (Ieee.double.order (FloatKind.f64.nearest n) b == some .eq) = (wI b).isSome := by
  rw [toInt_form h] at hn
  obtain ⟨h1, h2, h3, h4⟩ := read_form h
  have hn := (Option.some.inj hn).symm
  have en : FloatKind.f64.nearest n = Ieee.double.nearest (decide (n < 0)) n.natAbs 0 := rfl
  have hsg : ∀ M : Nat, n = signed s M 0 → n.natAbs = M ∧ (decide (n < 0) = s ∨ M = 0) := by
    intro M hM
    unfold signed at hM
    simp at hM
    cases s
    · simp at hM
      exact ⟨by omega, .inl (by simp; omega)⟩
    · simp at hM
      refine ⟨by omega, ?_⟩
      by_cases hz : M = 0
      · exact .inr hz
      · exact .inl (by simp; omega)
  by_cases h0 : 0 ≤ e
  · rw [show (-e).toNat = 0 by omega] at hn
    simp only [Nat.pow_zero, Nat.div_one] at hn
    obtain ⟨g1, g2⟩ := hsg _ hn
    have hne : m * 2 ^ e.toNat ≠ 0 := by
      have hp := Nat.two_pow_pos e.toNat
      have := Nat.mul_pos (show 0 < m by have := h4.resolve_right (by omega); omega) hp
      omega
    rw [en, g1, g2.resolve_right hne]
    rw [order_self h (by rw [read_nearest_big s m e.toNat (h4.resolve_right (by omega)) h3 (by omega)]; congr 1; omega)]
    unfold wI; rw [h]; simp [h0]
  · rw [show e.toNat = 0 by omega] at hn
    simp only [Nat.pow_zero, Nat.mul_one] at hn
    obtain ⟨g1, g2⟩ := hsg _ hn
    rw [en, g1]
    have := order_trunc_small h (by omega) (decide (n < 0)) g2
    unfold wI; rw [h]
    simp only [h0, if_false]
    by_cases hm : m % 2 ^ (-e).toNat = 0
    · rw [this.2 hm]; simp [hm]
    · simp [hm]
      intro hh; exact hm (this.1 hh)

/-- The size. -/
theorem wI_abs {b : Nat} {v : Int} (h : wI b = some v) : wI (b % 9223372036854775808) = some (v.natAbs : Int) := by
  unfold wI at h
  split at h
  · rename_i s m e hr
    have hr' : Ieee.double.read (b % 9223372036854775808) = .number false m e := by
      rw [dbl_read] at hr ⊢
      have a1 : b % 9223372036854775808 / 9223372036854775808 % 2 = 0 := by omega
      rw [a1, Nat.mod_mod]
      split at hr
      · rename_i hc; rw [if_pos hc]; cases hr; rfl
      · rename_i hc; rw [if_neg hc]
        split at hr
        · rename_i hc'; rw [if_pos hc']; cases hr; rfl
        · split at hr <;> cases hr
    have habs : ∀ M j : Nat, signed false M j = ((signed s M j).natAbs : Int) := by
      intro M j; unfold signed; generalize M <<< j = q; cases s <;> simp
    unfold wI; rw [hr']
    simp only
    split at h
    · rename_i h0; cases h; rw [if_pos h0, habs]
    · rename_i h0; rw [if_neg h0]
      split at h
      · rename_i hm; cases h; rw [if_pos hm, habs]
      · cases h
  · cases h

def signed0 (m j : Nat) : Nat := m * 2 ^ j
theorem signed0_le {m n j k : Nat} (h : m ≤ n) (h' : j ≤ k) : signed0 m j ≤ signed0 n k := Nat.mul_le_mul h (Nat.pow_le_pow_right (by omega) h')
theorem signed_false (m j : Nat) : signed false m j = (signed0 m j : Int) := by
  unfold signed signed0; simp [shl_eq]

end Go.Ex
