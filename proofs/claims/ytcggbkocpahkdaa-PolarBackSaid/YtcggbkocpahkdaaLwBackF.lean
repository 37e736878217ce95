/-
  What the law PolarBack knows besides: of a pure matrix, the column that is divided by its greatest common divisor has a Mueller matrix in proportion to the given one. (mkback.py prints the tables.)
-/
import Derived.Test.YtcggbkocpahkdaaLwCohF
namespace Go.Ex
open Go Go.Proofs
noncomputable section
def backLam : List (List (Nat × Int)) := [[(0, (-1)), (10, (-1)), (20, (-1)), (30, (-1))], [(0, (-1)), (10, 1), (20, (-1)), (30, 1)], [(2, (-2)), (22, (-2))], [(3, (-2)), (23, (-2))], [(0, (-1)), (10, (-1)), (20, 1), (30, 1)], [(0, (-1)), (10, 1), (20, 1), (30, (-1))], [(2, (-2)), (22, 2)], [(3, (-2)), (23, 2)], [(4, (-2)), (14, (-2))], [(4, (-2)), (14, 2)], [(6, (-2)), (12, (-2))], [(7, (-2)), (13, 2)], [(5, 2), (15, 2)], [(5, 2), (15, (-2))], [(7, 2), (13, 2)], [(6, (-2)), (12, 2)]]
def backSqA : List (List Poly) := [[], [[([2], 1)], [([2], 1)], [([3], 1)], [([3], 1)], [([6], 1)], [([6], 1)], [([7], 1)], [([7], 1)]], [[([0], 1), ([2], (-1))], [([1], 1), ([3], (-1))], [([4], 1), ([6], (-1))], [([5], 1), ([7], (-1))]], [[([0], 1), ([3], 1)], [([1], 1), ([2], (-1))], [([4], 1), ([7], 1)], [([5], 1), ([6], (-1))]], [[([4], 1)], [([4], 1)], [([5], 1)], [([5], 1)], [([6], 1)], [([6], 1)], [([7], 1)], [([7], 1)]], [[([2], 1)], [([2], 1)], [([3], 1)], [([3], 1)], [([4], 1)], [([4], 1)], [([5], 1)], [([5], 1)]], [[([0], 1), ([2], (-1))], [([1], 1), ([3], (-1))], [([4], 1), ([6], 1)], [([5], 1), ([7], 1)]], [[([0], 1), ([3], 1)], [([1], 1), ([2], (-1))], [([4], 1), ([7], (-1))], [([5], 1), ([6], 1)]], [[([0], 1), ([4], (-1))], [([1], 1), ([5], (-1))], [([2], 1), ([6], (-1))], [([3], 1), ([7], (-1))]], [[([0], 1), ([4], (-1))], [([1], 1), ([5], (-1))], [([2], 1), ([6], 1)], [([3], 1), ([7], 1)]], [[([0], 1), ([6], (-1))], [([1], 1), ([7], (-1))], [([2], 1), ([4], (-1))], [([3], 1), ([5], (-1))]], [[([0], 1), ([7], 1)], [([1], 1), ([6], (-1))], [([2], 1), ([5], (-1))], [([3], 1), ([4], 1)]], [[([0], 1), ([5], (-1))], [([1], 1), ([4], 1)], [([2], 1), ([7], (-1))], [([3], 1), ([6], 1)]], [[([0], 1), ([5], (-1))], [([1], 1), ([4], 1)], [([2], 1), ([7], 1)], [([3], 1), ([6], (-1))]], [[([0], 1), ([7], (-1))], [([1], 1), ([6], 1)], [([2], 1), ([5], (-1))], [([3], 1), ([4], 1)]], [[([0], 1), ([6], (-1))], [([1], 1), ([7], (-1))], [([2], 1), ([4], 1)], [([3], 1), ([5], 1)]]]
def backSqB : List (List Poly) := [[[([0], 1)], [([0], 1)], [([1], 1)], [([1], 1)], [([2], 1)], [([2], 1)], [([3], 1)], [([3], 1)], [([4], 1)], [([4], 1)], [([5], 1)], [([5], 1)], [([6], 1)], [([6], 1)], [([7], 1)], [([7], 1)]], [[([0], 1)], [([0], 1)], [([1], 1)], [([1], 1)], [([4], 1)], [([4], 1)], [([5], 1)], [([5], 1)]], [[([0], 1), ([2], 1)], [([1], 1), ([3], 1)], [([4], 1), ([6], 1)], [([5], 1), ([7], 1)]], [[([0], 1), ([3], (-1))], [([1], 1), ([2], 1)], [([4], 1), ([7], (-1))], [([5], 1), ([6], 1)]], [[([0], 1)], [([0], 1)], [([1], 1)], [([1], 1)], [([2], 1)], [([2], 1)], [([3], 1)], [([3], 1)]], [[([0], 1)], [([0], 1)], [([1], 1)], [([1], 1)], [([6], 1)], [([6], 1)], [([7], 1)], [([7], 1)]], [[([0], 1), ([2], 1)], [([1], 1), ([3], 1)], [([4], 1), ([6], (-1))], [([5], 1), ([7], (-1))]], [[([0], 1), ([3], (-1))], [([1], 1), ([2], 1)], [([4], 1), ([7], 1)], [([5], 1), ([6], (-1))]], [[([0], 1), ([4], 1)], [([1], 1), ([5], 1)], [([2], 1), ([6], 1)], [([3], 1), ([7], 1)]], [[([0], 1), ([4], 1)], [([1], 1), ([5], 1)], [([2], 1), ([6], (-1))], [([3], 1), ([7], (-1))]], [[([0], 1), ([6], 1)], [([1], 1), ([7], 1)], [([2], 1), ([4], 1)], [([3], 1), ([5], 1)]], [[([0], 1), ([7], (-1))], [([1], 1), ([6], 1)], [([2], 1), ([5], 1)], [([3], 1), ([4], (-1))]], [[([0], 1), ([5], 1)], [([1], 1), ([4], (-1))], [([2], 1), ([7], 1)], [([3], 1), ([6], (-1))]], [[([0], 1), ([5], 1)], [([1], 1), ([4], (-1))], [([2], 1), ([7], (-1))], [([3], 1), ([6], 1)]], [[([0], 1), ([7], 1)], [([1], 1), ([6], (-1))], [([2], 1), ([5], 1)], [([3], 1), ([4], (-1))]], [[([0], 1), ([6], 1)], [([1], 1), ([7], 1)], [([2], 1), ([4], (-1))], [([3], 1), ([5], (-1))]]]
def polS (c : Sc) : Poly := match polyOf c with
  | some p => p
  | none => []
def polsOf : Sv → List Poly
  | .agg l => l.map polS
  | _ => []
def nthP (l : List Poly) (k : Nat) : Poly := match nth l k with
  | some p => p
  | none => []
def backK : List Poly := polsOf r_rcoherency
def backN : List Poly := polsOf r_rmueller
def colP (f : Nat) : List Poly := [nthP backK (2 * f), nthP backK (2 * f + 1), nthP backK (2 * f + 8), nthP backK (2 * f + 9), nthP backK (2 * f + 16), nthP backK (2 * f + 17), nthP backK (2 * f + 24), nthP backK (2 * f + 25)]
def kffP (f : Nat) : Poly := nthP backK (10 * f)
def zPair (f i j : Nat) : List Poly :=
  let c := colP f
  let a := nthP c (2 * i); let b := nthP c (2 * i + 1); let d := nthP c (2 * j); let e := nthP c (2 * j + 1)
  [pminus (ptimes (nthP backK (8 * i + 2 * j)) (kffP f)) (pplus (ptimes a d) (ptimes b e)), pminus (ptimes (nthP backK (8 * i + 2 * j + 1)) (kffP f)) (pminus (ptimes b d) (ptimes a e))]
def zRow (f i : Nat) : List Poly := zPair f i 0 ++ (zPair f i 1 ++ (zPair f i 2 ++ zPair f i 3))
def zP (f : Nat) : List Poly := zRow f 0 ++ (zRow f 1 ++ (zRow f 2 ++ zRow f 3))
def plin : List (Nat × Int) → List Poly → Poly
  | [], _ => []
  | (k, c) :: l, zs => pplus (pmulT [] c (nthP zs k)) (plin l zs)
def psqs : List Poly → Poly
  | [] => []
  | l :: ls => pplus (ptimes l l) (psqs ls)
def nthL {α : Type} (l : List (List α)) (k : Nat) : List α := match nth l k with
  | some p => p
  | none => []
def upto : Nat → List Nat
  | 0 => []
  | n + 1 => upto n ++ [n]
def hom2 : Poly → Bool
  | [] => true
  | ([_, _], _) :: p => hom2 p
  | _ => false
def backBnd (v : Nat) : Nat → PC
  | 0 => []
  | n + 1 => (.pos [([v], 1), ([], -40000000)], false) :: (.pos [([v], -1), ([], -40000000)], false) :: backBnd (v + 1) n
/-- What the test of a polynomial against 0 leaves, where it is so. -/
def zFact (z : Poly) : PC := match zerB z with
  | .at_ false a => [(a, true)]
  | _ => []
def zGood (z : Poly) : Bool := match zerB z with
  | .at_ false _ => true
  | .lit b => b
  | _ => false
theorem zFact_ok {η : Env} {z : Poly} (h : zGood z = true) (hp : PC.holds η (zFact z)) : evP η.i z = 0 := by
  have e := zerB_den η z
  unfold zGood at h
  unfold zFact at hp
  split at h
  · rename_i a ha
    rw [ha] at hp e
    have := hp _ (List.mem_cons_self ..)
    simp only [Bx.den, Bool.xor_false] at e
    simp only at this
    rw [this] at e
    exact of_decide_eq_true e.symm
  · rename_i b hb
    subst h
    rw [hb] at e
    exact of_decide_eq_true e.symm
  · cases h
def zFacts : List Poly → PC
  | [] => []
  | z :: l => zFact z ++ zFacts l
theorem zFacts_mem {z : Poly} : ∀ {l : List Poly}, z ∈ l → ∀ x ∈ zFact z, x ∈ zFacts l
  | y :: l, h, x, hx => by
    rcases List.mem_cons.1 h with rfl | h
    · exact List.mem_append_left _ hx
    · exact List.mem_append_right _ (zFacts_mem h x hx)
def backPre (f : Nat) : PC := (.zer (kffP f), false) :: (.pos (pneg (kffP f)), false) :: (zFacts (zP f) ++ cohLe 0 16)
def qP (v : Nat) : List Poly := [pvar (v + 1), pvar (v + 2), pvar (v + 3), pvar (v + 4), pvar (v + 5), pvar (v + 6), pvar (v + 7), pvar (v + 8)]
def nQ (v a : Nat) : Poly := subP (qP v) (nthP backN a)
def backRow (v a : Nat) : PC := [(.pos (pminus (nQ v a) (nQ v 0)), false), (.pos (pminus (pneg (nQ v 0)) (nQ v a)), false), (.zer (pminus (ptimes (nQ v a) (pvar 0)) (ptimes (pvar a) (nQ v 0))), true)]
def backRows (v : Nat) : Nat → PC
  | 0 => []
  | n + 1 => backRow v n ++ backRows v n
def backPost (v : Nat) : PC := (.pos (nQ v 0), true) :: (.pos (pvar 0), true) :: (backRows v 16 ++ backBnd (v + 1) 8)
def pre7 (v : Nat) : Nat → List Poly → GTab
  | 0, _ => []
  | n + 1, c => (c.take (n + 1), v) :: pre7 (v + n + 2) n c
def backTab (f : Nat) : GTab := (colP f, 5000 + 200 * f) :: pre7 (5000 + 200 * f + 9) 7 (colP f)
def backG : GTab := backTab 0 ++ (backTab 1 ++ (backTab 2 ++ backTab 3))
def backXof (f : Nat) : Nat × PC × PC := (5000 + 200 * f, backPre f, backPost (5000 + 200 * f))
def backX : XTab := [backXof 0, backXof 1, backXof 2, backXof 3]

/-! ## What is checked by calculation -/
def chkLam (f a : Nat) : Bool := polyEq (pminus (subP (colP f) (nthP backN a)) (pmulT [] 4 (ptimes (kffP f) (pvar a)))) (plin (nthL backLam a) (zP f))
def chkSq (a : Nat) : Bool := polyEq (pminus (nthP backN 0) (nthP backN a)) (psqs (nthL backSqA a)) && (polyEq (pplus (nthP backN 0) (nthP backN a)) (psqs (nthL backSqB a)) && hom2 (nthP backN a))
def chkPos (f : Nat) : Bool := polyEq (pminus (nthP backN 0) (ptimes (pvar (2 * f)) (pvar (2 * f)))) (psqs (((upto 8).filter fun k => !Nat.beq k (2 * f)).map pvar)) && polyEq (nthP (colP f) (2 * f)) (kffP f)
def chkBnd (f k : Nat) : Bool := let r := rng (backPre f) (nthP (colP f) k)
  leI (-40000000) r.1 && leI r.2 40000000
def chkAll (f : Nat) : Bool := (upto 16).all (chkLam f) && ((upto 16).all chkSq && (chkPos f && ((upto 8).all (chkBnd f) && (zP f).all zGood)))
theorem chk0 : chkAll 0 = true := by kernel_rfl
theorem chk1 : chkAll 1 = true := by kernel_rfl
theorem chk2 : chkAll 2 = true := by kernel_rfl
theorem chk3 : chkAll 3 = true := by kernel_rfl
theorem mem_upto {n k : Nat} (h : k < n) : k ∈ upto n := by
  induction n with
  | zero => omega
  | succ n ih =>
    simp only [upto, List.mem_append, List.mem_singleton]
    by_cases hk : k = n
    · exact .inr hk
    · exact .inl (ih (by omega))

/-! ## Plain facts -/
theorem nthP_mem {l : List Poly} {k : Nat} : nthP l k = [] ∨ nthP l k ∈ l := by
  unfold nthP
  split
  · rename_i p hp; rw [nth_eq] at hp; exact .inr (List.mem_of_getElem? hp)
  · exact .inl rfl
theorem plin_zero {f : Nat → Int} {zs : List Poly} (hz : ∀ z ∈ zs, evP f z = 0) : ∀ l, evP f (plin l zs) = 0
  | [] => rfl
  | (k, c) :: l => by
    simp only [plin, evP_pplus, evP_pmulT, plin_zero hz l]
    rcases nthP_mem (l := zs) (k := k) with h | h
    · rw [h]; simp [evP]
    · rw [hz _ h]; simp
theorem sq_nonneg (x : Int) : 0 ≤ x * x := by
  rcases Int.le_total 0 x with h | h
  · exact Int.mul_nonneg h h
  · exact Int.mul_nonneg_of_nonpos_of_nonpos h h
theorem psqs_nonneg (f : Nat → Int) : ∀ l, 0 ≤ evP f (psqs l)
  | [] => by simp [psqs, evP]
  | p :: l => by
    simp only [psqs, evP_pplus, evP_ptimes]
    have := psqs_nonneg f l
    have := sq_nonneg (evP f p)
    omega
theorem hom2_ev {f : Nat → Int} {g : Int} : ∀ {p : Poly}, hom2 p = true → evP (fun v => g * f v) p = g * g * evP f p
  | [], _ => by simp [evP]
  | ([u, v], c) :: p, h => by
    have ih := hom2_ev (f := f) (g := g) (p := p) h
    simp only [evP, evM, ih, Int.mul_one, Int.mul_add]
    congr 1
    simp only [Int.mul_comm, Int.mul_left_comm]
theorem evP_ext {f g : Nat → Int} (h : ∀ v, f v = g v) (p : Poly) : evP f p = evP g p := by rw [show f = g from funext h]

theorem backRows_ok {η : Env} {v : Nat} (h : ∀ a, a < 16 → PC.holds η (backRow v a)) : ∀ n, n ≤ 16 → PC.holds η (backRows v n)
  | 0, _ => fun x hx => by cases hx
  | n + 1, hn => fun x hx => by
    rcases List.mem_append.1 hx with hx | hx
    · exact h n (by omega) x hx
    · exact backRows_ok h n (by omega) x hx
theorem backBnd_ok {η : Env} : ∀ (n v : Nat), (∀ k, k < n → -40000000 ≤ η.i (v + k) ∧ η.i (v + k) ≤ 40000000) → PC.holds η (backBnd v n)
  | 0, _, _ => fun x hx => by cases hx
  | n + 1, v, h => by
    have h0 := h 0 (by omega)
    rw [Nat.add_zero] at h0
    refine holds_cons ?_ (holds_cons ?_ (backBnd_ok n (v + 1) fun k hk => by rw [show v + 1 + k = v + (k + 1) by omega]; exact h (k + 1) (by omega)))
    · simp only [Atom.den, evP, evM, Int.mul_one, Int.one_mul, Int.add_zero]; exact decide_eq_false (by omega)
    · simp only [Atom.den, evP, evM, Int.mul_one, Int.add_zero]; exact decide_eq_false (by omega)
theorem nthQ (v k : Nat) (hk : k < 8) : nth (qP v) k = some (pvar (v + 1 + k)) := by
  rcases k with _ | _ | _ | _ | _ | _ | _ | _ | k <;> first | rfl | omega
theorem nthQ_none (v k : Nat) (hk : 8 ≤ k) : nth (qP v) k = none := by
  rw [nth_eq]; exact List.getElem?_eq_none (by simpa [qP] using hk)
theorem nthC (f k : Nat) (hk : k < 8) : nth (colP f) k = some (nthP (colP f) k) := by
  unfold nthP
  rw [nth_eq, List.getElem?_eq_getElem (by simpa [colP] using hk)]
theorem nthC_none (f k : Nat) (hk : 8 ≤ k) : nth (colP f) k = none := by
  rw [nth_eq]; exact List.getElem?_eq_none (by simpa [colP] using hk)

theorem back_fact {η : Env} (hg : GoodF η) {f v : Nat} (hf : f < 4) (hc : chkAll f = true) {G : GTab} (hG : GOk η G) (hm : (colP f, v) ∈ G) (hp : PC.holds η (backPre f)) : PC.holds η (backPost v) := by
  simp only [chkAll, Bool.and_eq_true, List.all_eq_true] at hc
  obtain ⟨cLam, cSq, cPos, cBnd, cZ⟩ := hc
  -- the numbers of the column
  have hb : ∀ k, k < 8 → -40000000 ≤ evP η.i (nthP (colP f) k) ∧ evP η.i (nthP (colP f) k) ≤ 40000000 := fun k hk => by
    have h := cBnd k (mem_upto hk)
    simp only [chkBnd, Bool.and_eq_true, leI_iff] at h
    obtain ⟨a, b⟩ := rng_has hg.toGood hp (nthP (colP f) k)
    omega
  have hw : ∀ k, k < 8 → wr (evP η.i (nthP (colP f) k)) = evP η.i (nthP (colP f) k) := fun k hk => wr_in (by have := hb k hk; omega)
  have hmem : ∀ k, k < 8 → evP η.i (nthP (colP f) k) ∈ gvals η (colP f) := fun k hk => by
    refine List.mem_map.2 ⟨nthP (colP f) k, ?_, hw k hk⟩
    have := nthC f k hk
    rw [nth_eq] at this
    exact List.mem_of_getElem? this
  simp only [chkPos, Bool.and_eq_true] at cPos
  have hk0 := hp _ (List.mem_cons_self ..)
  have hk1 := hp _ (List.mem_cons_of_mem _ (List.mem_cons_self ..))
  simp only [Atom.den] at hk0 hk1
  have hk0 := of_decide_eq_false hk0
  have hk1 := of_decide_eq_false hk1
  rw [evP_pneg] at hk1
  have hkp : 0 < evP η.i (kffP f) := by omega
  have ekf : evP η.i (nthP (colP f) (2 * f)) = evP η.i (kffP f) := by rw [polyEq_iff cPos.2]
  -- the divisor
  obtain ⟨g, hgd⟩ : ∃ g : Nat, g = gcdL (gvals η (colP f)) := ⟨_, rfl⟩
  have g0 : 0 < g := by rw [hgd]; exact gcdL_pos (hmem (2 * f) (by omega)) (by rw [ekf]; omega)
  have gq : ∀ k, k < 8 → (g : Int) * η.i (v + 1 + k) = evP η.i (nthP (colP f) k) ∧ -40000000 ≤ η.i (v + 1 + k) ∧ η.i (v + 1 + k) ≤ 40000000 := fun k hk => by
    have e := hG.q _ hm k _ (nthC f k hk)
    simp only at e
    rw [wr_tdiv, hw k hk, ← hgd] at e
    have hd : (g : Int) ∣ evP η.i (nthP (colP f) k) := by rw [Int.ofNat_dvd_left, hgd]; exact gcdL_dvd (hmem k hk)
    rw [e]
    refine ⟨Int.mul_tdiv_cancel' hd, ?_⟩
    have := hb k hk
    have e2 : ((evP η.i (nthP (colP f) k)).tdiv g).natAbs ≤ (evP η.i (nthP (colP f) k)).natAbs := by rw [Int.natAbs_tdiv]; exact Nat.div_le_self _ _
    omega
  have hval : ∀ u, valOf η (colP f) u = g * valOf η (qP v) u := fun u => by
    unfold valOf
    by_cases hu : u < 8
    · rw [nthC f u hu, nthQ v u hu]
      simp only [evP_pvar]
      exact (gq u hu).1.symm
    · rw [nthC_none f u (by omega), nthQ_none v u (by omega)]; simp
  -- the Mueller matrix of the divided column
  have hz : ∀ z ∈ zP f, evP η.i z = 0 := fun z hz => by
    exact zFact_ok (cZ z hz) fun x hx => hp x (List.mem_cons_of_mem _ (List.mem_cons_of_mem _ (List.mem_append_left _ (zFacts_mem hz x hx))))
  have hN : ∀ a, a < 16 → (g : Int) * g * evP η.i (nQ v a) = 4 * (evP η.i (kffP f) * η.i a) := fun a ha => by
    have h1 := polyEq_iff (cLam a (mem_upto ha))
    have h2 := cSq a (mem_upto ha)
    simp only [chkSq, Bool.and_eq_true] at h2
    have h3 : evP η.i (pminus (subP (colP f) (nthP backN a)) (pmulT [] 4 (ptimes (kffP f) (pvar a)))) = 0 := by rw [h1]; exact plin_zero hz _
    rw [evP_pminus, evP_pmulT, evP_ptimes, evP_pvar, subP_ev, evP_ext hval, hom2_ev h2.2.2] at h3
    rw [nQ, subP_ev]
    simp only [evM, Int.mul_one] at h3
    omega
  have hS : ∀ a, a < 16 → evP η.i (nQ v a) ≤ evP η.i (nQ v 0) ∧ -evP η.i (nQ v 0) ≤ evP η.i (nQ v a) := fun a ha => by
    have h2 := cSq a (mem_upto ha)
    simp only [chkSq, Bool.and_eq_true] at h2
    have a1 := psqs_nonneg (valOf η (qP v)) (nthL backSqA a)
    have a2 := psqs_nonneg (valOf η (qP v)) (nthL backSqB a)
    rw [← polyEq_iff h2.1, evP_pminus] at a1
    rw [← polyEq_iff h2.2.1, evP_pplus] at a2
    simp only [nQ, subP_ev]
    omega
  have hgi : (0 : Int) < g := by omega
  have hq0 : 1 ≤ η.i (v + 1 + 2 * f) := by
    have e := (gq (2 * f) (by omega)).1
    rw [ekf] at e
    have : 0 < (g : Int) * η.i (v + 1 + 2 * f) := by omega
    have := Int.pos_of_mul_pos_right this hgi
    omega
  have hN0 : 0 < evP η.i (nQ v 0) := by
    have a1 := psqs_nonneg (valOf η (qP v)) (((upto 8).filter fun k => !Nat.beq k (2 * f)).map pvar)
    rw [← polyEq_iff cPos.1, evP_pminus, evP_ptimes, evP_pvar] at a1
    have e : valOf η (qP v) (2 * f) = η.i (v + 1 + 2 * f) := by unfold valOf; rw [nthQ v (2 * f) (by omega)]; simp only [evP_pvar]
    rw [e] at a1
    have := Int.mul_le_mul hq0 hq0 (by omega) (by omega)
    rw [nQ, subP_ev]
    omega
  have hgg : (0 : Int) < (g : Int) * g := Int.mul_pos hgi hgi
  have hm0 : 0 < η.i 0 := by
    have e := hN 0 (by omega)
    have : 0 < (g : Int) * g * evP η.i (nQ v 0) := Int.mul_pos hgg hN0
    have h2 : 0 < evP η.i (kffP f) * η.i 0 := by omega
    exact Int.pos_of_mul_pos_right h2 hkp
  have hpr : ∀ a, a < 16 → evP η.i (nQ v a) * η.i 0 = η.i a * evP η.i (nQ v 0) := fun a ha => by
    have e1 := hN a ha
    have e2 := hN 0 (by omega)
    have e3 : (g : Int) * g * (evP η.i (nQ v a) * η.i 0) = (g : Int) * g * (η.i a * evP η.i (nQ v 0)) := by
      have l : (g : Int) * g * (evP η.i (nQ v a) * η.i 0) = (g : Int) * g * evP η.i (nQ v a) * η.i 0 := (Int.mul_assoc _ _ _).symm
      have r : (g : Int) * g * (η.i a * evP η.i (nQ v 0)) = η.i a * ((g : Int) * g * evP η.i (nQ v 0)) := Int.mul_left_comm _ _ _
      rw [l, r, e1, e2, Int.mul_assoc, Int.mul_assoc, Int.mul_left_comm (η.i a) 4, Int.mul_left_comm (η.i a) (evP η.i (kffP f))]
    exact Int.eq_of_mul_eq_mul_left (by omega) e3
  refine holds_cons ?_ (holds_cons ?_ ?_)
  · simp only [Atom.den]; exact decide_eq_true hN0
  · simp only [Atom.den, evP_pvar]; exact decide_eq_true hm0
  · intro x hx
    rcases List.mem_append.1 hx with hx | hx
    · refine backRows_ok (fun a ha => ?_) 16 (Nat.le_refl _) x hx
      have s := hS a ha
      refine holds_cons ?_ (holds_cons ?_ (holds_cons ?_ fun x hx => by cases hx))
      · simp only [Atom.den, evP_pminus]; exact decide_eq_false (by omega)
      · simp only [Atom.den, evP_pminus, evP_pneg]; exact decide_eq_false (by omega)
      · simp only [Atom.den, evP_pminus, evP_ptimes, evP_pvar]; rw [hpr a ha]; exact decide_eq_true (by omega)
    · exact backBnd_ok 8 (v + 1) (fun k hk => (gq k hk).2) x hx

theorem backX_ok (η : Env) (hg : GoodF η) (hG : GOk η backG) : XOk η backX := by
  intro x hx hp
  have m0 : (colP 0, 5000 + 200 * 0) ∈ backG := List.mem_append_left _ (List.mem_cons_self ..)
  have m1 : (colP 1, 5000 + 200 * 1) ∈ backG := List.mem_append_right _ (List.mem_append_left _ (List.mem_cons_self ..))
  have m2 : (colP 2, 5000 + 200 * 2) ∈ backG := List.mem_append_right _ (List.mem_append_right _ (List.mem_append_left _ (List.mem_cons_self ..)))
  have m3 : (colP 3, 5000 + 200 * 3) ∈ backG := List.mem_append_right _ (List.mem_append_right _ (List.mem_append_right _ (List.mem_cons_self ..)))
  simp only [backX, List.mem_cons, List.not_mem_nil, or_false] at hx
  rcases hx with rfl | rfl | rfl | rfl
  · exact back_fact hg (by omega) chk0 hG m0 hp
  · exact back_fact hg (by omega) chk1 hG m1 hp
  · exact back_fact hg (by omega) chk2 hG m2 hp
  · exact back_fact hg (by omega) chk3 hG m3 hp
def backAs : List Atom := [.zer (kffP 0), .zer (kffP 1), .zer (kffP 2), .zer (kffP 3)]
/-! ## What JonesOf, and that of the document, come to -/
def zCx : List Sc := [.cpx .f64 (.lit 0) (.lit 0), .cpx .f64 (.lit 0) (.lit 0), .cpx .f64 (.lit 0) (.lit 0), .cpx .f64 (.lit 0) (.lit 0)]
def jErr (e : Int) : Jt := .leaf (.tup [(true, zCx), (false, [.int .i64 (.lit e)])])
def jFl (v : Nat) : Fx := .ofI (pvar v)
def jGood (v : Nat) : Jt := .facts v (.small 1000 (qP v) (.leaf (.tup [(true, [.cpx .f64 (jFl (v + 1)) (jFl (v + 2)), .cpx .f64 (jFl (v + 3)) (jFl (v + 4)), .cpx .f64 (jFl (v + 5)) (jFl (v + 6)), .cpx .f64 (jFl (v + 7)) (jFl (v + 8))]), (false, [.int .i64 (.lit 0)])])) (jErr 8))
def jPure (t : Jt) : List Poly → Jt
  | [] => t
  | z :: l => .fork (zerB z) (jPure t l) (jErr 17)
def jPiv (f : Nat) (rest : Jt) : Jt := .fork (zerB (kffP f)) rest (.fork (posB (pneg (kffP f))) (jErr 17) (jPure (jGood (5000 + 200 * f)) (zP f)))
def jCore : Jt := .small 10000000 (idP 0 16) (jPiv 0 (jPiv 1 (jPiv 2 (jPiv 3 (jErr 17))))) (jErr 8)
def jAll : Jt := .small 1000000000 (idP 0 16) jCore (jErr 2)
def backNeed : PC := needPc [(1000000000, idP 0 16)] []
def backSh : Shq := [(true, [.i, .i, .i, .i, .i, .i, .i, .i, .i, .i, .i, .i, .i, .i, .i, .i])]

end
end Go.Ex
