/-
  The greatest common divisor that PolarBothWays meets: that of a square and of itself.
-/
import Derived.Test.YtcggbkocpahkdaaPoG
namespace Go.Ex
open Go Go.Proofs
noncomputable section
def bothS : Poly := [([16, 16], 1), ([17, 17], 1), ([18, 18], 1), ([19, 19], 1)]
def bothD : Poly := ptimes bothS bothS
def bothG : GTab := [([bothD, bothD], 5000)]
def bothPre : PC := [(.zer bothS, false), (.pos [([16], 1), ([], -10)], false), (.pos [([16], -1), ([], -10)], false), (.pos [([17], 1), ([], -10)], false), (.pos [([17], -1), ([], -10)], false),
  (.pos [([18], 1), ([], -10)], false), (.pos [([18], -1), ([], -10)], false), (.pos [([19], 1), ([], -10)], false), (.pos [([19], -1), ([], -10)], false)]
def bothPost : PC := [(.pos (pvar 5000), true), (.zer [([5001], 1), ([], -1)], true)]
def bothX : XTab := [(5000, bothPre, bothPost)]
theorem sq_le100 {x : Int} (h1 : x ≤ 10) (h2 : -10 ≤ x) : 0 ≤ x * x ∧ x * x ≤ 100 := by
  rcases Int.le_total 0 x with h | h
  · exact ⟨Int.mul_nonneg h h, by have := Int.mul_le_mul h1 h1 h (by omega); omega⟩
  · refine ⟨Int.mul_nonneg_of_nonpos_of_nonpos h h, ?_⟩
    have := Int.mul_le_mul (show -x ≤ 10 by omega) (show -x ≤ 10 by omega) (by omega) (by omega)
    simp only [Int.neg_mul_neg] at this
    omega
theorem bothX_ok (η : Env) (_ : GoodF η) (hG : GOk η bothG) : XOk η bothX := by
  intro x hx hp
  rcases List.mem_cons.1 hx with rfl | hx
  · simp only [bothPre] at hp
    have p0 := hp _ (List.mem_cons_self ..)
    have g : ∀ (p : Poly), (Atom.pos p, false) ∈ bothPre → evP η.i p ≤ 0 := fun p hm => by
      have := hp _ hm
      simp only [Atom.den] at this
      have := of_decide_eq_false this
      omega
    have a1 := g [([16], 1), ([], -10)] (by simp [bothPre])
    have a2 := g [([16], -1), ([], -10)] (by simp [bothPre])
    have a3 := g [([17], 1), ([], -10)] (by simp [bothPre])
    have a4 := g [([17], -1), ([], -10)] (by simp [bothPre])
    have a5 := g [([18], 1), ([], -10)] (by simp [bothPre])
    have a6 := g [([18], -1), ([], -10)] (by simp [bothPre])
    have a7 := g [([19], 1), ([], -10)] (by simp [bothPre])
    have a8 := g [([19], -1), ([], -10)] (by simp [bothPre])
    simp only [evP, evM, Int.mul_one, Int.one_mul, Int.add_zero] at a1 a2 a3 a4 a5 a6 a7 a8
    have b1 := sq_le100 (x := η.i 16) (by omega) (by omega)
    have b2 := sq_le100 (x := η.i 17) (by omega) (by omega)
    have b3 := sq_le100 (x := η.i 18) (by omega) (by omega)
    have b4 := sq_le100 (x := η.i 19) (by omega) (by omega)
    have hS : evP η.i bothS = η.i 16 * η.i 16 + (η.i 17 * η.i 17 + (η.i 18 * η.i 18 + η.i 19 * η.i 19)) := by simp [bothS, evP, evM]
    have hne : evP η.i bothS ≠ 0 := by
      simp only [Atom.den] at p0
      exact of_decide_eq_false p0
    have s1 : 1 ≤ evP η.i bothS := by omega
    have s2 : evP η.i bothS ≤ 400 := by omega
    have hD : evP η.i bothD = evP η.i bothS * evP η.i bothS := evP_ptimes _ _ _
    have d1 : 1 ≤ evP η.i bothD := by
      rw [hD]; have := Int.mul_le_mul s1 s1 (by omega) (by omega); omega
    have d2 : evP η.i bothD ≤ 160000 := by
      rw [hD]; have := Int.mul_le_mul s2 s2 (by omega) (by omega); omega
    have hw : wr (evP η.i bothD) = evP η.i bothD := wr_in (by omega)
    have hgc : (gcdL (gvals η [bothD, bothD]) : Int) = evP η.i bothD := by
      have : gcdL (gvals η [bothD, bothD]) = (evP η.i bothD).natAbs := by simp [gcdL, gvals, hw]
      rw [this]; omega
    have e1 := hG.g _ (List.mem_cons_self ..)
    have e2 := hG.q _ (List.mem_cons_self ..) 0 bothD rfl
    simp only at e1 e2
    rw [hgc, hw] at e1
    rw [hgc, hw, Int.tdiv_self (by omega)] at e2
    have e2 : η.i 5001 = 1 := by rw [show (5001 : Nat) = 5000 + 1 + 0 from rfl, e2]; exact wr_in (by omega)
    refine holds_cons ?_ (holds_cons ?_ fun x hx => by cases hx)
    · simp only [Atom.den, evP_pvar]; exact decide_eq_true (by omega)
    · simp only [Atom.den, evP, evM, Int.mul_one, Int.one_mul, Int.add_zero]; exact decide_eq_true (by omega)
  · cases hx
end
end Go.Ex
