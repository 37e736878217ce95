/-
  What the whole-number functions of balls calculate, and what is so of it.
-/
import Derived.Test.YtoheddhbcpjmkaaLwBaLaw
import Ieee.Arith
namespace Go.Ex
open Go Ieee

theorem rootFrom_spec (n : Nat) : ∀ (todo root : Nat), root * root ≤ n → n < (root + 2 ^ todo) * (root + 2 ^ todo) → Datum.rootFrom n todo root * Datum.rootFrom n todo root ≤ n ∧ n < (Datum.rootFrom n todo root + 1) * (Datum.rootFrom n todo root + 1)
  | 0, root, h1, h2 => ⟨h1, h2⟩
  | todo + 1, root, h1, h2 => by
    have e : 2 ^ (todo + 1) = 2 ^ todo + 2 ^ todo := by rw [Nat.pow_succ]; omega
    have es : 1 <<< todo = 2 ^ todo := by rw [Nat.shiftLeft_eq, Nat.one_mul]
    simp only [Datum.rootFrom, es]
    split
    · rename_i h
      refine rootFrom_spec n todo (root + 2 ^ todo) h ?_
      rw [e, ← Nat.add_assoc] at h2
      exact h2
    · rename_i h
      exact rootFrom_spec n todo root h1 (by omega)
/-- The root, rounded down. -/
def isq (n : Int) : Int := (Datum.rootFrom n.toNat 32 0 : Nat)
theorem isq_spec {n : Int} (h0 : 0 ≤ n) (h : n < 18446744073709551616) : 0 ≤ isq n ∧ isq n * isq n ≤ n ∧ n < (isq n + 1) * (isq n + 1) := by
  have hs := rootFrom_spec n.toNat 32 0 (Nat.zero_le _) (by
    have : (0 + 2 ^ 32) * (0 + 2 ^ 32) = 18446744073709551616 := by decide
    omega)
  unfold isq
  obtain ⟨a, b⟩ := hs
  generalize Datum.rootFrom n.toNat 32 0 = r at a b
  refine ⟨by omega, ?_, ?_⟩
  · have : ((r * r : Nat) : Int) ≤ (n.toNat : Int) := by omega
    rw [Int.natCast_mul] at this
    omega
  · have : (n.toNat : Int) < (((r + 1) * (r + 1) : Nat) : Int) := by omega
    rw [Int.natCast_mul, Int.natCast_add] at this
    have e1 : ((1 : Nat) : Int) = 1 := rfl
    rw [e1] at this
    omega
/-- The root, rounded up. -/
def isqU (n : Int) : Int := if isq n * isq n < n then isq n + 1 else isq n
theorem isqU_spec {n : Int} (h0 : 0 ≤ n) (h : n < 18446744073709551616) : 0 ≤ isqU n ∧ n ≤ isqU n * isqU n := by
  obtain ⟨a, b, c⟩ := isq_spec h0 h
  unfold isqU
  split
  · exact ⟨by omega, by omega⟩
  · exact ⟨a, by omega⟩
theorem isq_le {n k : Int} (h0 : 0 ≤ n) (h : n < 18446744073709551616) (hk : 0 ≤ k) (hn : n ≤ k * k) : isq n ≤ k := by
  obtain ⟨a, b, c⟩ := isq_spec h0 h
  exact le_of_sq hk (by omega)
theorem isqU_le {n k : Int} (h0 : 0 ≤ n) (h : n < 18446744073709551616) (hk : 0 ≤ k) (hn : n ≤ k * k) : isqU n ≤ k := by
  obtain ⟨a, b, c⟩ := isq_spec h0 h
  have hle := isq_le h0 h hk hn
  unfold isqU
  split
  · rename_i hlt
    by_cases e : isq n = k
    · subst e; omega
    · omega
  · exact hle

def rndI (n d : Int) : Int := (2 * n + d) / (2 * d)
def ceilI (n d : Int) : Int := -((-n) / d)
/-- 1 if something was rounded. -/
def oneI (s t : Int) : Int := if s = 0 ∧ t = 0 then 0 else 1
theorem rnd_spec {n d : Int} (hd : 0 < d) : -d ≤ 2 * (n - d * rndI n d) ∧ 2 * (n - d * rndI n d) ≤ d ∧ (n % d = 0 → n - d * rndI n d = 0) := by
  refine ⟨?_, ?_, fun hz => ?_⟩
  · unfold rndI
    have h1 := Int.mul_ediv_add_emod (2 * n + d) (2 * d)
    have h2 := Int.emod_nonneg (2 * n + d) (show 2 * d ≠ 0 by omega)
    rw [Int.mul_assoc] at h1
    omega
  · unfold rndI
    have h1 := Int.mul_ediv_add_emod (2 * n + d) (2 * d)
    have h3 := Int.emod_lt_of_pos (2 * n + d) (show 0 < 2 * d by omega)
    rw [Int.mul_assoc] at h1
    omega
  · obtain ⟨k, rfl⟩ := Int.dvd_of_emod_eq_zero hz
    have e : rndI (d * k) d = k := by
      unfold rndI
      rw [show 2 * (d * k) + d = d + 2 * d * k by rw [Int.mul_assoc]; omega, Int.add_mul_ediv_left _ _ (by omega), Int.ediv_eq_zero_of_lt (by omega) (by omega), Int.zero_add]
    rw [e, Int.sub_self]
theorem ceil_spec {n d : Int} (hd : 0 < d) : n ≤ d * ceilI n d := by
  unfold ceilI
  have h1 := Int.mul_ediv_add_emod (-n) d
  have h2 := Int.emod_nonneg (-n) (show d ≠ 0 by omega)
  rw [Int.mul_neg]
  omega
/-- A quotient of a product, to the nearest whole number; what is too great is told as such. -/
def quoI (n m d : Int) : Int :=
  let u := (n.natAbs * m) / d
  let rest := (n.natAbs * m) % d
  if 2147483647 < u then 2147483647 else
    let q := if d < 2 * rest ∨ (0 ≤ n ∧ 2 * rest = d) then u + 1 else u
    if n < 0 then -q else q
def flgI (n m d : Int) : Int := if 2147483647 < (n.natAbs * m) / d then 0 else if (n.natAbs * m) % d = 0 then 0 else 1
def quuI (n m d : Int) : Int := if 2147483647 ≤ (n * m) / d then 2147483647 else if (n * m) % d = 0 then (n * m) / d else (n * m) / d + 1
theorem quo_spec {n m d : Int} (hd : 0 < d) (hq : quoI n m d ≠ 2147483647) : -d ≤ 2 * (n * m - d * quoI n m d) ∧ 2 * (n * m - d * quoI n m d) ≤ d ∧ (flgI n m d = 0 → n * m - d * quoI n m d = 0) := by
  have h1 := Int.mul_ediv_add_emod (n.natAbs * m) d
  have h2 := Int.emod_nonneg (n.natAbs * m) (show d ≠ 0 by omega)
  have h3 := Int.emod_lt_of_pos (n.natAbs * m) hd
  unfold quoI at hq ⊢
  unfold flgI
  simp only at hq ⊢
  generalize (n.natAbs * m) / d = u at *
  generalize hr : (n.natAbs * m) % d = r at *
  by_cases hbig : 2147483647 < u
  · rw [if_pos hbig] at hq; exact absurd rfl hq
  · simp only [if_neg hbig] at hq ⊢
    have hs : (n < 0 ∧ n * m = -(n.natAbs * m)) ∨ (0 ≤ n ∧ n * m = n.natAbs * m) := by
      by_cases hn : n < 0
      · left
        refine ⟨hn, ?_⟩
        rw [← Int.neg_mul]; congr 1; omega
      · right
        refine ⟨by omega, ?_⟩
        congr 1; omega
    generalize (n.natAbs : Int) * m = s at *
    rcases hs with ⟨hn, e⟩ | ⟨hn, e⟩
    · rw [if_pos hn, e, Int.mul_neg]
      by_cases hc : d < 2 * r ∨ 0 ≤ n ∧ 2 * r = d
      · rw [if_pos hc, Int.mul_add, Int.mul_one]
        refine ⟨by omega, by omega, fun hz => ?_⟩
        split at hz <;> omega
      · rw [if_neg hc]
        refine ⟨by omega, by omega, fun hz => ?_⟩
        split at hz <;> omega
    · rw [if_neg (by omega), e]
      by_cases hc : d < 2 * r ∨ 0 ≤ n ∧ 2 * r = d
      · rw [if_pos hc, Int.mul_add, Int.mul_one]
        refine ⟨by omega, by omega, fun hz => ?_⟩
        split at hz <;> omega
      · rw [if_neg hc]
        refine ⟨by omega, by omega, fun hz => ?_⟩
        split at hz <;> omega
theorem quu_spec {n m d : Int} (hd : 0 < d) (h0 : 0 ≤ n * m) (hq : quuI n m d ≠ 2147483647) : 0 ≤ quuI n m d ∧ n * m ≤ d * quuI n m d := by
  have h1 := Int.mul_ediv_add_emod (n * m) d
  have h2 := Int.emod_nonneg (n * m) (show d ≠ 0 by omega)
  have h3 := Int.emod_lt_of_pos (n * m) hd
  have h4 := Int.ediv_nonneg h0 (Int.le_of_lt hd)
  unfold quuI at hq ⊢
  generalize (n * m) / d = u at *
  generalize (n * m) % d = r at *
  by_cases hbig : 2147483647 ≤ u
  · rw [if_pos hbig] at hq; exact absurd rfl hq
  · rw [if_neg hbig] at hq ⊢
    split
    · exact ⟨h4, by omega⟩
    · exact ⟨by omega, by rw [Int.mul_add, Int.mul_one]; omega⟩
/-- The error of both parts of a centre, rounded. -/
theorem nrm_err {a b d e : Int} (h1 : -d ≤ 2 * a ∧ 2 * a ≤ d) (h2 : -d ≤ 2 * b ∧ 2 * b ≤ d) (he : (e = 0 ∧ a = 0 ∧ b = 0) ∨ e = 1) : nrm a b ≤ (d * e) * (d * e) := by
  rcases he with ⟨rfl, rfl, rfl⟩ | rfl
  · simp [nrm]
  · have ha : a * a ≤ d * d := by
      rcases Int.le_total 0 a with h | h
      · have := mul_self_le (a := 2 * a) (b := d) (by omega) (by omega)
        have e1 : 2 * a * (2 * a) = 4 * (a * a) := by rw [Int.mul_assoc, Int.mul_left_comm a 2 a]; omega
        have := sqz a
        omega
      · have := mul_self_le (a := 2 * -a) (b := d) (by omega) (by omega)
        have e1 : 2 * -a * (2 * -a) = 4 * (a * a) := by rw [Int.mul_assoc, Int.mul_left_comm (-a) 2 (-a), Int.neg_mul_neg]; omega
        have := sqz a
        omega
    have hb : 4 * (b * b) ≤ d * d ∧ 4 * (a * a) ≤ d * d := by
      constructor
      · rcases Int.le_total 0 b with h | h
        · have := mul_self_le (a := 2 * b) (b := d) (by omega) (by omega)
          have e1 : 2 * b * (2 * b) = 4 * (b * b) := by rw [Int.mul_assoc, Int.mul_left_comm b 2 b]; omega
          omega
        · have := mul_self_le (a := 2 * -b) (b := d) (by omega) (by omega)
          have e1 : 2 * -b * (2 * -b) = 4 * (b * b) := by rw [Int.mul_assoc, Int.mul_left_comm (-b) 2 (-b), Int.neg_mul_neg]; omega
          omega
      · rcases Int.le_total 0 a with h | h
        · have := mul_self_le (a := 2 * a) (b := d) (by omega) (by omega)
          have e1 : 2 * a * (2 * a) = 4 * (a * a) := by rw [Int.mul_assoc, Int.mul_left_comm a 2 a]; omega
          omega
        · have := mul_self_le (a := 2 * -a) (b := d) (by omega) (by omega)
          have e1 : 2 * -a * (2 * -a) = 4 * (a * a) := by rw [Int.mul_assoc, Int.mul_left_comm (-a) 2 (-a), Int.neg_mul_neg]; omega
          omega
    unfold nrm
    rw [Int.mul_one]
    have := sqz a
    have := sqz b
    omega

/-! ## Division of two words by one: a digit of 32 bits -/
section
variable {y1 y0 u u1 : Nat}
theorem dg_lt (hu : u < y1 * 4294967296 + y0) (hu1 : u1 < 4294967296) : (u * 4294967296 + u1) / (y1 * 4294967296 + y0) < 4294967296 := by
  have hp : 0 < y1 * 4294967296 + y0 := by omega
  refine (Nat.div_lt_iff_lt_mul hp).2 ?_
  have h := Nat.mul_le_mul_left 4294967296 (Nat.succ_le_of_lt hu)
  rw [Nat.succ_eq_add_one, Nat.mul_add] at h
  rw [Nat.mul_comm u]
  omega
theorem dg_le (hu1 : u1 < 4294967296) : (u * 4294967296 + u1) / (y1 * 4294967296 + y0) * y1 ≤ u := by
  have h := Nat.div_mul_le_self (u * 4294967296 + u1) (y1 * 4294967296 + y0)
  generalize (u * 4294967296 + u1) / (y1 * 4294967296 + y0) = q at *
  rw [Nat.mul_add, ← Nat.mul_assoc] at h
  omega
theorem dg_test {q r : Nat} (h : q * y1 + r = u) (hy : 0 < y1) : (4294967296 * r + u1 < q * y0) ↔ (u * 4294967296 + u1) / (y1 * 4294967296 + y0) < q := by
  rw [Nat.div_lt_iff_lt_mul (by omega), Nat.mul_add, ← Nat.mul_assoc]
  subst h
  generalize q * y1 = a
  generalize q * y0 = b
  omega
theorem dg_stop {q r : Nat} (h : q * y1 + r = u) (hy : 0 < y1) (hle : (u * 4294967296 + u1) / (y1 * 4294967296 + y0) ≤ q) (hn : q * y0 ≤ 4294967296 * r + u1) : q = (u * 4294967296 + u1) / (y1 * 4294967296 + y0) := by
  rcases Nat.lt_or_ge ((u * 4294967296 + u1) / (y1 * 4294967296 + y0)) q with hlt | hge
  · have := (dg_test (y0 := y0) h hy).2 hlt
    omega
  · omega
theorem dg_break {q r : Nat} (h : q * y1 + r = u) (hy : 0 < y1) (hle : (u * 4294967296 + u1) / (y1 * 4294967296 + y0) ≤ q) (hq : q ≤ 4294967296) (h0 : y0 < 4294967296) (hr : 4294967296 ≤ r) : q = (u * 4294967296 + u1) / (y1 * 4294967296 + y0) := by
  refine dg_stop h hy hle ?_
  have a := Nat.mul_le_mul hq (show y0 ≤ 4294967295 by omega)
  omega
theorem dg_first (hu : u < y1 * 4294967296 + y0) (hy : 2147483648 ≤ y1) (h0 : y0 < 4294967296) : u / y1 ≤ 4294967297 := by
  have : u / y1 < 4294967298 := by
    refine (Nat.div_lt_iff_lt_mul (by omega)).2 ?_
    omega
  omega
end
end Go.Ex
