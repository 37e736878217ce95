/-
  The greatest common divisor that PolarCoherencies meets: that of the sum of the squares of all numbers but the first, and of three times the square of the first.
-/
import Derived.Test.YtcggbkocpahkdaaPoG
namespace Go.Ex
open Go Go.Proofs
noncomputable section
def cohN : Poly := [([1, 1], 1), ([2, 2], 1), ([3, 3], 1), ([4, 4], 1), ([5, 5], 1), ([6, 6], 1), ([7, 7], 1), ([8, 8], 1), ([9, 9], 1), ([10, 10], 1), ([11, 11], 1), ([12, 12], 1), ([13, 13], 1), ([14, 14], 1), ([15, 15], 1)]
def cohD : Poly := [([0, 0], 3)]
def cohG : GTab := [([cohN, cohD], 5000)]
def cohLe : Nat → Nat → PC
  | _, 0 => []
  | v, n + 1 => (.pos [([v], 1), ([], -10000000)], false) :: (.pos [([v], -1), ([], -10000000)], false) :: cohLe (v + 1) n
def cohPre : PC := (.zer (pvar 0), false) :: cohLe 0 16
def cohPost : PC := [(.pos (pvar 5000), true), (.pos (pvar 5002), true), (.pos [([5001], -1)], false)]
def cohX : XTab := [(5000, cohPre, cohPost)]
theorem sq_le7 {x : Int} (h1 : x ≤ 10000000) (h2 : -10000000 ≤ x) : 0 ≤ x * x ∧ x * x ≤ 100000000000000 := by
  rcases Int.le_total 0 x with h | h
  · exact ⟨Int.mul_nonneg h h, by have := Int.mul_le_mul h1 h1 h (by omega); omega⟩
  · refine ⟨Int.mul_nonneg_of_nonpos_of_nonpos h h, ?_⟩
    have := Int.mul_le_mul (show -x ≤ 10000000 by omega) (show -x ≤ 10000000 by omega) (by omega) (by omega)
    simp only [Int.neg_mul_neg] at this
    omega
theorem cohLe_ok {η : Env} : ∀ (n v : Nat), PC.holds η (cohLe v n) → ∀ k, k < n → η.i (v + k) ≤ 10000000 ∧ -10000000 ≤ η.i (v + k)
  | 0, _, _, _, hk => by omega
  | n + 1, v, h, k, hk => by
    cases k with
    | zero =>
      have a := h _ (List.mem_cons_self ..)
      have b := h _ (List.mem_cons_of_mem _ (List.mem_cons_self ..))
      simp only [Atom.den] at a b
      have a := of_decide_eq_false a
      have b := of_decide_eq_false b
      simp only [evP, evM, Int.mul_one, Int.one_mul, Int.add_zero] at a b
      simp only [Nat.add_zero]
      omega
    | succ k =>
      have := cohLe_ok n (v + 1) (fun x hx => h x (List.mem_cons_of_mem _ (List.mem_cons_of_mem _ hx))) k (by omega)
      rwa [show v + 1 + k = v + (k + 1) by omega] at this
theorem cohX_ok (η : Env) (_ : GoodF η) (hG : GOk η cohG) : XOk η cohX := by
  intro x hx hp
  rcases List.mem_cons.1 hx with rfl | hx
  · simp only [cohPre] at hp
    have p0 := hp _ (List.mem_cons_self ..)
    have hb := cohLe_ok 16 0 (fun x hx => hp x (List.mem_cons_of_mem _ hx))
    have hne : η.i 0 ≠ 0 := by
      simp only [Atom.den, evP_pvar] at p0
      exact of_decide_eq_false p0
    have sq : ∀ k, k < 16 → 0 ≤ η.i k * η.i k ∧ η.i k * η.i k ≤ 100000000000000 := fun k hk => by
      have := hb k hk
      rw [Nat.zero_add] at this
      exact sq_le7 this.1 this.2
    have s0 : 1 ≤ η.i 0 * η.i 0 := by
      rcases Int.lt_or_gt_of_ne hne with h | h
      · have := Int.mul_le_mul (show 1 ≤ -η.i 0 by omega) (show 1 ≤ -η.i 0 by omega) (by omega) (by omega)
        simp only [Int.neg_mul_neg] at this; omega
      · have := Int.mul_le_mul (show 1 ≤ η.i 0 by omega) (show 1 ≤ η.i 0 by omega) (by omega) (by omega)
        omega
    have hN : evP η.i cohN = η.i 1 * η.i 1 + (η.i 2 * η.i 2 + (η.i 3 * η.i 3 + (η.i 4 * η.i 4 + (η.i 5 * η.i 5 + (η.i 6 * η.i 6 + (η.i 7 * η.i 7 + (η.i 8 * η.i 8 + (η.i 9 * η.i 9 + (η.i 10 * η.i 10 + (η.i 11 * η.i 11 + (η.i 12 * η.i 12 + (η.i 13 * η.i 13 + (η.i 14 * η.i 14 + η.i 15 * η.i 15))))))))))))) := by simp [cohN, evP, evM]
    have hD : evP η.i cohD = 3 * (η.i 0 * η.i 0) := by simp [cohD, evP, evM]
    have n0 : 0 ≤ evP η.i cohN ∧ evP η.i cohN ≤ 1500000000000000 := by
      rw [hN]
      have a1 := sq 1 (by omega); have a2 := sq 2 (by omega); have a3 := sq 3 (by omega); have a4 := sq 4 (by omega); have a5 := sq 5 (by omega)
      have a6 := sq 6 (by omega); have a7 := sq 7 (by omega); have a8 := sq 8 (by omega); have a9 := sq 9 (by omega); have a10 := sq 10 (by omega)
      have a11 := sq 11 (by omega); have a12 := sq 12 (by omega); have a13 := sq 13 (by omega); have a14 := sq 14 (by omega); have a15 := sq 15 (by omega)
      generalize η.i 1 * η.i 1 = z1 at *; generalize η.i 2 * η.i 2 = z2 at *; generalize η.i 3 * η.i 3 = z3 at *; generalize η.i 4 * η.i 4 = z4 at *; generalize η.i 5 * η.i 5 = z5 at *
      generalize η.i 6 * η.i 6 = z6 at *; generalize η.i 7 * η.i 7 = z7 at *; generalize η.i 8 * η.i 8 = z8 at *; generalize η.i 9 * η.i 9 = z9 at *; generalize η.i 10 * η.i 10 = z10 at *
      generalize η.i 11 * η.i 11 = z11 at *; generalize η.i 12 * η.i 12 = z12 at *; generalize η.i 13 * η.i 13 = z13 at *; generalize η.i 14 * η.i 14 = z14 at *; generalize η.i 15 * η.i 15 = z15 at *
      omega
    have d0 : 3 ≤ evP η.i cohD ∧ evP η.i cohD ≤ 300000000000000 := by
      rw [hD]; have := sq 0 (by omega)
      generalize η.i 0 * η.i 0 = z at *; omega
    have wN : wr (evP η.i cohN) = evP η.i cohN := wr_in (by omega)
    have wD : wr (evP η.i cohD) = evP η.i cohD := wr_in (by omega)
    have hgm : wr (evP η.i cohD) ∈ gvals η [cohN, cohD] := by simp [gvals]
    have g0 : 0 < gcdL (gvals η [cohN, cohD]) := gcdL_pos hgm (by omega)
    have gd : gcdL (gvals η [cohN, cohD]) ∣ (evP η.i cohD).natAbs := by have := gcdL_dvd hgm; rwa [wD] at this
    have gle := Nat.le_of_dvd (by omega) gd
    have e1 := hG.g _ (List.mem_cons_self ..)
    have e2 := hG.q _ (List.mem_cons_self ..) 0 cohN rfl
    have e3 := hG.q _ (List.mem_cons_self ..) 1 cohD rfl
    simp only at e1 e2 e3
    rw [wN] at e2
    rw [wD] at e3
    rw [wr_in (by omega)] at e1
    have q2 : 0 ≤ (evP η.i cohN).tdiv (gcdL (gvals η [cohN, cohD]) : Int) := Int.tdiv_nonneg n0.1 (by omega)
    have q3 : 0 < (evP η.i cohD).tdiv (gcdL (gvals η [cohN, cohD]) : Int) := by
      obtain ⟨c, hc⟩ := gd
      have hc' : evP η.i cohD = (gcdL (gvals η [cohN, cohD]) : Int) * c := by
        have : ((evP η.i cohD).natAbs : Int) = (gcdL (gvals η [cohN, cohD]) : Int) * c := by rw [hc]; exact Int.natCast_mul _ _
        omega
      rw [hc', Int.mul_tdiv_cancel_left _ (by omega)]
      rcases Nat.eq_zero_or_pos c with h | h
      · subst h; omega
      · omega
    have b2 : wr ((evP η.i cohN).tdiv (gcdL (gvals η [cohN, cohD]) : Int)) = (evP η.i cohN).tdiv (gcdL (gvals η [cohN, cohD]) : Int) := by
      have := wr_tdiv (evP η.i cohN) (gcdL (gvals η [cohN, cohD])); rwa [wN] at this
    have b3 : wr ((evP η.i cohD).tdiv (gcdL (gvals η [cohN, cohD]) : Int)) = (evP η.i cohD).tdiv (gcdL (gvals η [cohN, cohD]) : Int) := by
      have := wr_tdiv (evP η.i cohD) (gcdL (gvals η [cohN, cohD])); rwa [wD] at this
    rw [b2] at e2
    rw [b3] at e3
    refine holds_cons ?_ (holds_cons ?_ (holds_cons ?_ fun x hx => by cases hx))
    · simp only [Atom.den, evP_pvar]; exact decide_eq_true (by omega)
    · simp only [Atom.den, evP_pvar]; exact decide_eq_true (by rw [show (5002 : Nat) = 5000 + 1 + 1 from rfl, e3]; exact q3)
    · simp only [Atom.den, evP, evM, Int.mul_one, Int.add_zero]
      have e2 : η.i 5001 = (evP η.i cohN).tdiv (gcdL (gvals η [cohN, cohD]) : Int) := e2
      exact decide_eq_false (by omega)
  · cases hx
end
end Go.Ex
