/-
  What the law PolarPure knows besides: the columns of the coherency matrix of a Jones matrix x are 4 x_i conj(x_f); their greatest common divisors, and those of these and of the quotients.
-/
import Derived.Test.YtcggbkocpahkdaaPoG
namespace Go.Ex
open Go Go.Proofs
noncomputable section
def pfNth (l : List Poly) (k : Nat) : Poly := match nth l k with
  | some p => p
  | none => []
def pureRe (i f : Nat) : Poly := pmulT [] 4 (pplus (ptimes (pvar (2 * i)) (pvar (2 * f))) (ptimes (pvar (2 * i + 1)) (pvar (2 * f + 1))))
def pureIm (i f : Nat) : Poly := pmulT [] 4 (pminus (ptimes (pvar (2 * i + 1)) (pvar (2 * f))) (ptimes (pvar (2 * i)) (pvar (2 * f + 1))))
def pureC (f : Nat) : List Poly := [pureRe 0 f, pureIm 0 f, pureRe 1 f, pureIm 1 f, pureRe 2 f, pureIm 2 f, pureRe 3 f, pureIm 3 f]
def pureK (f : Nat) : Poly := pureRe f f
def sqTo : Nat → Poly
  | 0 => []
  | n + 1 => pplus (sqTo n) (ptimes (pvar n) (pvar n))
def pureS : Poly := sqTo 8
def pureD : Poly := pmulT [] 3 (ptimes pureS pureS)
def pureG1 : GTab := [(pureC 0, 5000), (pureC 1, 5020), (pureC 2, 5040), (pureC 3, 5060), ([pureD, pureD], 5080)]
def pureG2 : GTab := [([pvar 5000, pvar 5001], 7000), ([pvar 5020, pvar 5023], 7010), ([pvar 5040, pvar 5045], 7020), ([pvar 5060, pvar 5067], 7030)]
/-- What a test leaves, where it answers so. -/
def bFact (b : Bx) (v : Bool) : PC := match b with
  | .at_ n a => [(a, v ^^ n)]
  | .lit _ => []
def bGood : Bx → Bool
  | .at_ _ _ => true
  | .lit _ => false
theorem bFact_ok {η : Env} {b : Bx} {v : Bool} (h : b.den η = v) : PC.holds η (bFact b v) := by
  cases b with
  | lit b => intro x hx; cases hx
  | at_ n a =>
    refine holds_cons ?_ fun x hx => by cases hx
    simp only [Bx.den] at h
    subst h
    cases a.den η <;> cases n <;> rfl
theorem bFact_den {η : Env} {b : Bx} {v : Bool} (hb : bGood b = true) (h : PC.holds η (bFact b v)) : b.den η = v := by
  cases b with
  | lit b => cases hb
  | at_ n a =>
    have := h _ (List.mem_cons_self ..)
    simp only at this
    simp only [Bx.den, this]
    cases v <;> cases n <;> rfl
theorem holds_append {η : Env} {l m : PC} (h1 : PC.holds η l) (h2 : PC.holds η m) : PC.holds η (l ++ m) := fun x hx => (List.mem_append.1 hx).elim (h1 x) (h2 x)
/-- Numbers at most m in size. -/
def inBnd (m : Int) (v : Nat) : Nat → PC
  | 0 => []
  | n + 1 => (.pos [([v], 1), ([], -m)], false) :: (.pos [([v], -1), ([], -m)], false) :: inBnd m (v + 1) n
theorem inBnd_ok {η : Env} {m : Int} : ∀ (n v : Nat), (∀ k, k < n → -m ≤ η.i (v + k) ∧ η.i (v + k) ≤ m) → PC.holds η (inBnd m v n)
  | 0, _, _ => fun x hx => by cases hx
  | n + 1, v, h => by
    have h0 := h 0 (by omega)
    rw [Nat.add_zero] at h0
    refine holds_cons ?_ (holds_cons ?_ (inBnd_ok n (v + 1) fun k hk => by rw [show v + 1 + k = v + (k + 1) by omega]; exact h (k + 1) (by omega)))
    · simp only [Atom.den, evP, evM, Int.mul_one, Int.one_mul, Int.add_zero]; exact decide_eq_false (by omega)
    · simp only [Atom.den, evP, evM, Int.mul_one, Int.add_zero]; exact decide_eq_false (by omega)
theorem inBnd_has {η : Env} {m : Int} : ∀ (n v : Nat), PC.holds η (inBnd m v n) → ∀ k, k < n → -m ≤ η.i (v + k) ∧ η.i (v + k) ≤ m
  | 0, _, _, _, hk => by omega
  | n + 1, v, h, k, hk => by
    cases k with
    | zero =>
      have a := h _ (List.mem_cons_self ..)
      have b := h _ (List.mem_cons_of_mem _ (List.mem_cons_self ..))
      simp only [Atom.den] at a b
      have a := of_decide_eq_false a
      have b := of_decide_eq_false b
      simp only [evP, evM, Int.mul_one, Int.one_mul, Int.add_zero] at a b
      simp only [Nat.add_zero]
      omega
    | succ k =>
      have := inBnd_has n (v + 1) (fun x hx => h x (List.mem_cons_of_mem _ (List.mem_cons_of_mem _ hx))) k (by omega)
      rwa [show v + 1 + k = v + (k + 1) by omega] at this
def crossRe (i k : Nat) (c : Nat → Poly) : Poly := pminus (pminus (ptimes (pvar (2 * i)) (c (2 * k))) (ptimes (pvar (2 * i + 1)) (c (2 * k + 1)))) (pminus (ptimes (pvar (2 * k)) (c (2 * i))) (ptimes (pvar (2 * k + 1)) (c (2 * i + 1))))
def crossIm (i k : Nat) (c : Nat → Poly) : Poly := pminus (pplus (ptimes (pvar (2 * i)) (c (2 * k + 1))) (ptimes (pvar (2 * i + 1)) (c (2 * k)))) (pplus (ptimes (pvar (2 * k)) (c (2 * i + 1))) (ptimes (pvar (2 * k + 1)) (c (2 * i))))
def crossF (c : Nat → Poly) (i k : Nat) : PC := bFact (zerB (crossRe i k c)) true ++ bFact (zerB (crossIm i k c)) true
def crossAll (c : Nat → Poly) : PC :=
  (crossF c 0 1 ++ (crossF c 0 2 ++ (crossF c 0 3 ++ (crossF c 1 0 ++ (crossF c 1 2 ++ crossF c 1 3))))) ++ (crossF c 2 0 ++ (crossF c 2 1 ++ (crossF c 2 3 ++ (crossF c 3 0 ++ (crossF c 3 1 ++ crossF c 3 2)))))
def pureQ (v k : Nat) : Poly := pvar (v + 1 + k)
def purePre (f : Nat) : PC := bFact (zerB (pureK f)) false ++ inBnd 2 0 8
def purePost (v : Nat) : PC := (.pos (pvar v), true) :: (inBnd 64 v 9 ++ crossAll (pureQ v))
def pureX1 (f : Nat) : Nat × PC × PC := (5000 + 20 * f, purePre f, purePost (5000 + 20 * f))
def pureX2 (f : Nat) : Nat × PC × PC := (7000 + 10 * f, (.pos (pvar (5000 + 20 * f)), true) :: inBnd 64 (5000 + 20 * f) 9, [(.pos (pvar (7000 + 10 * f)), true)])
def pureXD : Nat × PC × PC := (5080, bFact (zerB pureS) false ++ inBnd 2 0 8, [(.pos (pvar 5080), true), (.zer [([5081], 1), ([], -1)], true)])
def pureX : XTab := [pureX1 0, pureX1 1, pureX1 2, pureX1 3, pureX2 0, pureX2 1, pureX2 2, pureX2 3, pureXD]

/-! ## What is checked by calculation -/
def pchk (f : Nat) : Bool :=
  bGood (zerB (pureK f)) && ([0, 1, 2, 3].all fun i => [0, 1, 2, 3].all fun k => polyEq (crossRe i k (pfNth (pureC f))) [] && polyEq (crossIm i k (pfNth (pureC f))) []) &&
  [0, 1, 2, 3, 4, 5, 6, 7].all fun k => let r := rng (inBnd 2 0 8) (pfNth (pureC f) k)
    leI (-64) r.1 && leI r.2 64
theorem pchk0 : pchk 0 = true := by kernel_rfl
theorem pchk1 : pchk 1 = true := by kernel_rfl
theorem pchk2 : pchk 2 = true := by kernel_rfl
theorem pchk3 : pchk 3 = true := by kernel_rfl
theorem pchkS : bGood (zerB pureS) = true := by kernel_rfl

/-! ## Plain facts -/
theorem pf_mem8 {k : Nat} (h : k < 8) : k ∈ [0, 1, 2, 3, 4, 5, 6, 7] := by
  rcases k with _ | _ | _ | _ | _ | _ | _ | _ | k <;> first | omega | simp
theorem pf_sq (x : Int) : 0 ≤ x * x := by
  rcases Int.le_total 0 x with h | h
  · exact Int.mul_nonneg h h
  · exact Int.mul_nonneg_of_nonpos_of_nonpos h h
theorem pf_sq4 {x : Int} (h1 : -2 ≤ x) (h2 : x ≤ 2) : x * x ≤ 4 := by
  have : x = -2 ∨ x = -1 ∨ x = 0 ∨ x = 1 ∨ x = 2 := by omega
  rcases this with rfl | rfl | rfl | rfl | rfl <;> decide
theorem pf_sq_pos {x : Int} (h : x ≠ 0) : 0 < x * x := by
  have := pf_sq x
  have : x * x ≠ 0 := fun e => (Int.mul_eq_zero.1 e).elim h h
  omega
theorem sqTo_nonneg (f : Nat → Int) : ∀ n, 0 ≤ evP f (sqTo n)
  | 0 => by simp [sqTo, evP]
  | n + 1 => by
    simp only [sqTo, evP_pplus, evP_ptimes, evP_pvar]
    have := sqTo_nonneg f n
    have := pf_sq (f n)
    omega
theorem sqTo_pos {f : Nat → Int} {k : Nat} (hk : f k ≠ 0) : ∀ n, k < n → 0 < evP f (sqTo n)
  | 0, h => by omega
  | n + 1, h => by
    simp only [sqTo, evP_pplus, evP_ptimes, evP_pvar]
    have := sqTo_nonneg f n
    have := pf_sq (f n)
    by_cases e : k = n
    · subst e; have := pf_sq_pos hk; omega
    · have := sqTo_pos hk n (by omega); omega
theorem sqTo_le {f : Nat → Int} : ∀ n, (∀ k, k < n → -2 ≤ f k ∧ f k ≤ 2) → evP f (sqTo n) ≤ 4 * n
  | 0, _ => by simp [sqTo, evP]
  | n + 1, h => by
    simp only [sqTo, evP_pplus, evP_ptimes, evP_pvar]
    have := sqTo_le n fun k hk => h k (by omega)
    have := pf_sq4 (h n (by omega)).1 (h n (by omega)).2
    omega
theorem cross_re {f : Nat → Int} {g : Int} {c c' : Nat → Poly} {i k : Nat} (h : ∀ j, j < 8 → g * evP f (c j) = evP f (c' j)) (hi : i < 4) (hk : k < 4) : g * evP f (crossRe i k c) = evP f (crossRe i k c') := by
  simp only [crossRe, evP_pminus, evP_ptimes, ← h (2 * k) (by omega), ← h (2 * k + 1) (by omega), ← h (2 * i) (by omega), ← h (2 * i + 1) (by omega), Int.mul_sub, Int.mul_left_comm]
theorem cross_im {f : Nat → Int} {g : Int} {c c' : Nat → Poly} {i k : Nat} (h : ∀ j, j < 8 → g * evP f (c j) = evP f (c' j)) (hi : i < 4) (hk : k < 4) : g * evP f (crossIm i k c) = evP f (crossIm i k c') := by
  simp only [crossIm, evP_pminus, evP_pplus, evP_ptimes, ← h (2 * k) (by omega), ← h (2 * k + 1) (by omega), ← h (2 * i) (by omega), ← h (2 * i + 1) (by omega), Int.mul_sub, Int.mul_add, Int.mul_left_comm]
theorem pfNthC (f k : Nat) (hk : k < 8) : nth (pureC f) k = some (pfNth (pureC f) k) := by
  unfold pfNth
  rw [nth_eq, List.getElem?_eq_getElem (by simpa [pureC] using hk)]

theorem pure1 {η : Env} (hg : GoodF η) {f v : Nat} (hf : f < 4) (hc : pchk f = true) {G : GTab} (hG : GOk η G) (hm : (pureC f, v) ∈ G) (hp : PC.holds η (purePre f)) : PC.holds η (purePost v) := by
  simp only [pchk, Bool.and_eq_true, List.all_eq_true] at hc
  obtain ⟨⟨c1, c2⟩, c3⟩ := hc
  have hp1 : PC.holds η (bFact (zerB (pureK f)) false) := fun x hx => hp x (List.mem_append_left _ hx)
  have hp2 : PC.holds η (inBnd 2 0 8) := fun x hx => hp x (List.mem_append_right _ hx)
  have hK := bFact_den c1 hp1
  rw [zerB_den] at hK
  have hK := of_decide_eq_false hK
  have hb : ∀ k, k < 8 → -64 ≤ evP η.i (pfNth (pureC f) k) ∧ evP η.i (pfNth (pureC f) k) ≤ 64 := fun k hk => by
    have h := c3 k (pf_mem8 hk)
    simp only [leI_iff] at h
    obtain ⟨a, b⟩ := rng_has hg.toGood hp2 (pfNth (pureC f) k)
    omega
  have hw : ∀ k, k < 8 → wr (evP η.i (pfNth (pureC f) k)) = evP η.i (pfNth (pureC f) k) := fun k hk => wr_in (by have := hb k hk; omega)
  have hmem : ∀ k, k < 8 → evP η.i (pfNth (pureC f) k) ∈ gvals η (pureC f) := fun k hk => by
    refine List.mem_map.2 ⟨pfNth (pureC f) k, ?_, hw k hk⟩
    have := pfNthC f k hk
    rw [nth_eq] at this
    exact List.mem_of_getElem? this
  have eK : pfNth (pureC f) (2 * f) = pureK f := by
    rcases f with _ | _ | _ | _ | f <;> first | rfl | omega
  obtain ⟨g, hgd⟩ : ∃ g : Nat, g = gcdL (gvals η (pureC f)) := ⟨_, rfl⟩
  have hm2 := hmem (2 * f) (by omega)
  have hb2 := hb (2 * f) (by omega)
  rw [eK] at hm2 hb2
  have g0 : 0 < g := by rw [hgd]; exact gcdL_pos hm2 hK
  have g1 : g ≤ 64 := by
    have := Nat.le_of_dvd (by omega) (gcdL_dvd hm2)
    rw [← hgd] at this; omega
  have gq : ∀ k, k < 8 → (g : Int) * η.i (v + 1 + k) = evP η.i (pfNth (pureC f) k) ∧ -64 ≤ η.i (v + 1 + k) ∧ η.i (v + 1 + k) ≤ 64 := fun k hk => by
    have e := hG.q _ hm k _ (pfNthC f k hk)
    simp only at e
    rw [wr_tdiv, hw k hk, ← hgd] at e
    have hd : (g : Int) ∣ evP η.i (pfNth (pureC f) k) := by rw [Int.ofNat_dvd_left, hgd]; exact gcdL_dvd (hmem k hk)
    rw [e]
    refine ⟨Int.mul_tdiv_cancel' hd, ?_⟩
    have := hb k hk
    have e2 : ((evP η.i (pfNth (pureC f) k)).tdiv g).natAbs ≤ (evP η.i (pfNth (pureC f) k)).natAbs := by rw [Int.natAbs_tdiv]; exact Nat.div_le_self _ _
    omega
  have gv : η.i v = g := by
    have e := hG.g _ hm
    simp only at e
    rw [e, ← hgd]
    exact wr_in (by omega)
  have hrel : ∀ j, j < 8 → (g : Int) * evP η.i (pureQ v j) = evP η.i (pfNth (pureC f) j) := fun j hj => by
    simp only [pureQ, evP_pvar]; exact (gq j hj).1
  have mem4 : ∀ i, i < 4 → i ∈ [0, 1, 2, 3] := fun i hi => by
    rcases i with _ | _ | _ | _ | i <;> first | omega | simp
  have hcr : ∀ i k, i < 4 → k < 4 → PC.holds η (crossF (pureQ v) i k) := fun i k hi hk => by
    have c := c2 i (mem4 i hi) k (mem4 k hk)
    have r1 := cross_re hrel hi hk
    have r2 := cross_im hrel hi hk
    rw [polyEq_iff c.1] at r1
    rw [polyEq_iff c.2] at r2
    have hne : (g : Int) ≠ 0 := by omega
    have r1 := (Int.mul_eq_zero.1 r1).resolve_left hne
    have r2 := (Int.mul_eq_zero.1 r2).resolve_left hne
    exact holds_append (bFact_ok (by rw [zerB_den]; exact decide_eq_true r1)) (bFact_ok (by rw [zerB_den]; exact decide_eq_true r2))
  refine holds_cons ?_ (holds_append (inBnd_ok 9 v fun k hk => ?_) ?_)
  · simp only [Atom.den, evP_pvar, gv]; exact decide_eq_true (by omega)
  · rcases k with _ | k
    · rw [Nat.add_zero, gv]; omega
    · rw [show v + (k + 1) = v + 1 + k by omega]; exact (gq k (by omega)).2
  · exact holds_append (holds_append (hcr 0 1 (by decide) (by decide)) (holds_append (hcr 0 2 (by decide) (by decide)) (holds_append (hcr 0 3 (by decide) (by decide)) (holds_append (hcr 1 0 (by decide) (by decide)) (holds_append (hcr 1 2 (by decide) (by decide)) (hcr 1 3 (by decide) (by decide))))))) (holds_append (hcr 2 0 (by decide) (by decide)) (holds_append (hcr 2 1 (by decide) (by decide)) (holds_append (hcr 2 3 (by decide) (by decide)) (holds_append (hcr 3 0 (by decide) (by decide)) (holds_append (hcr 3 1 (by decide) (by decide)) (hcr 3 2 (by decide) (by decide)))))))
theorem pure2 {η : Env} {a b v : Nat} {G : GTab} (hG : GOk η G) (hm : ([pvar a, pvar b], v) ∈ G) (ha : 0 < η.i a ∧ η.i a ≤ 64) : PC.holds η [(.pos (pvar v), true)] := by
  refine holds_cons ?_ fun x hx => by cases hx
  have e := hG.g _ hm
  simp only at e
  have hwa : wr (evP η.i (pvar a)) = η.i a := by rw [evP_pvar]; exact wr_in (by omega)
  have hma : η.i a ∈ gvals η [pvar a, pvar b] := by
    refine List.mem_map.2 ⟨pvar a, List.mem_cons_self .., hwa⟩
  have h0 := gcdL_pos hma (by omega)
  have h1 := Nat.le_of_dvd (by omega) (gcdL_dvd hma)
  rw [wr_in (by omega)] at e
  simp only [Atom.den, evP_pvar, e]
  exact decide_eq_true (by omega)
theorem pureD_fact {η : Env} {G : GTab} (hG : GOk η G) (hm : ([pureD, pureD], 5080) ∈ G) (hp : PC.holds η pureXD.2.1) : PC.holds η pureXD.2.2 := by
  simp only [pureXD] at hp ⊢
  have hp1 : PC.holds η (bFact (zerB pureS) false) := fun x hx => hp x (List.mem_append_left _ hx)
  have hb := inBnd_has 8 0 fun x hx => hp x (List.mem_append_right _ hx)
  have hS := bFact_den pchkS hp1
  rw [zerB_den] at hS
  have hS := of_decide_eq_false hS
  have s1 : 0 ≤ evP η.i pureS := sqTo_nonneg _ 8
  have s2 : evP η.i pureS ≤ 32 := sqTo_le 8 fun k hk => by have := hb k hk; rwa [Nat.zero_add] at this
  have hD : evP η.i pureD = 3 * (evP η.i pureS * evP η.i pureS) := by
    simp only [pureD, evP_pmulT, evP_ptimes, evM, Int.mul_one]
  have d1 : 1 ≤ evP η.i pureS * evP η.i pureS := by
    have := Int.mul_le_mul (show 1 ≤ evP η.i pureS by omega) (show 1 ≤ evP η.i pureS by omega) (by omega) (by omega); omega
  have d2 : evP η.i pureS * evP η.i pureS ≤ 1024 := by
    have := Int.mul_le_mul s2 s2 (by omega) (by omega); omega
  have hw : wr (evP η.i pureD) = evP η.i pureD := wr_in (by omega)
  have hgc : (gcdL (gvals η [pureD, pureD]) : Int) = evP η.i pureD := by
    have : gcdL (gvals η [pureD, pureD]) = (evP η.i pureD).natAbs := by simp [gcdL, gvals, hw]
    rw [this]; omega
  have e1 := hG.g _ hm
  have e2 := hG.q _ hm 0 pureD rfl
  simp only at e1 e2
  rw [hgc, hw] at e1
  rw [hgc, hw, Int.tdiv_self (by omega)] at e2
  have e2 : η.i 5081 = 1 := by rw [show (5081 : Nat) = 5080 + 1 + 0 from rfl, e2]; exact wr_in (by omega)
  refine holds_cons ?_ (holds_cons ?_ fun x hx => by cases hx)
  · simp only [Atom.den, evP_pvar]; exact decide_eq_true (by omega)
  · simp only [Atom.den, evP, evM, Int.mul_one, Int.one_mul, Int.add_zero]; exact decide_eq_true (by omega)
theorem pureX_ok (η : Env) (hg : GoodF η) (hG : GOk η (pureG1 ++ pureG2)) : XOk η pureX := by
  have two : ∀ f, f < 4 → ([pvar (5000 + 20 * f), pvar (5001 + 22 * f)], 7000 + 10 * f) ∈ pureG1 ++ pureG2 → PC.holds η (pureX2 f).2.1 → PC.holds η (pureX2 f).2.2 := fun f hf hm hp => by
    simp only [pureX2] at hp ⊢
    have h0 := hp _ (List.mem_cons_self ..)
    simp only [Atom.den, evP_pvar] at h0
    have h0 := of_decide_eq_true h0
    have h1 := inBnd_has 9 (5000 + 20 * f) (fun x hx => hp x (List.mem_cons_of_mem _ hx)) 0 (by omega)
    rw [Nat.add_zero] at h1
    exact pure2 hG hm ⟨h0, h1.2⟩
  intro x hx hp
  simp only [pureX, List.mem_cons, List.not_mem_nil, or_false] at hx
  rcases hx with rfl | rfl | rfl | rfl | rfl | rfl | rfl | rfl | rfl
  · exact pure1 hg (f := 0) (by decide) pchk0 hG (by simp [pureG1]) hp
  · exact pure1 hg (f := 1) (by decide) pchk1 hG (by simp [pureG1]) hp
  · exact pure1 hg (f := 2) (by decide) pchk2 hG (by simp [pureG1]) hp
  · exact pure1 hg (f := 3) (by decide) pchk3 hG (by simp [pureG1]) hp
  · exact two 0 (by decide) (by simp [pureG2]) hp
  · exact two 1 (by decide) (by simp [pureG2]) hp
  · exact two 2 (by decide) (by simp [pureG2]) hp
  · exact two 3 (by decide) (by simp [pureG2]) hp
  · exact pureD_fact hG (by simp [pureG1]) hp

/-! ## The ways: by the first part of x that is not 0 -/
def zerosTo : Nat → PC
  | 0 => []
  | n + 1 => (.zer (pvar n), true) :: zerosTo n
def zeroPs : List Poly → PC
  | [] => []
  | p :: l => bFact (zerB p) true ++ zeroPs l
def colZero : Nat → PC
  | 0 => []
  | n + 1 => zeroPs (pureC n) ++ colZero n
def pureWay (k : Nat) : PC := (.zer (pvar k), false) :: (bFact (zerB (pureK (k / 2))) false ++ (bFact (posB (pureK (k / 2))) true ++ (bFact (posB (pneg (pureK (k / 2)))) false ++ (bFact (zerB pureS) false ++ (zerosTo k ++ colZero (k / 2))))))
def pureWays : List PC := [pureWay 0, pureWay 1, pureWay 2, pureWay 3, pureWay 4, pureWay 5, pureWay 6, pureWay 7, zerosTo 8]
theorem zerosTo_ok {η : Env} : ∀ n, (∀ k, k < n → η.i k = 0) → PC.holds η (zerosTo n)
  | 0, _ => fun x hx => by cases hx
  | n + 1, h => holds_cons (by simp only [Atom.den, evP_pvar]; exact decide_eq_true (h n (by omega))) (zerosTo_ok n fun k hk => h k (by omega))
theorem zeroPs_ok {η : Env} : ∀ l : List Poly, (∀ p ∈ l, evP η.i p = 0) → PC.holds η (zeroPs l)
  | [], _ => fun x hx => by cases hx
  | p :: l, h => holds_append (bFact_ok (by rw [zerB_den]; exact decide_eq_true (h p (List.mem_cons_self ..)))) (zeroPs_ok l fun q hq => h q (List.mem_cons_of_mem _ hq))
theorem colZero_ok {η : Env} : ∀ n, (∀ k, k < 2 * n → η.i k = 0) → PC.holds η (colZero n)
  | 0, _ => fun x hx => by cases hx
  | n + 1, h => by
    refine holds_append (zeroPs_ok _ fun p hp => ?_) (colZero_ok n fun k hk => h k (by omega))
    have e1 := h (2 * n) (by omega)
    have e2 := h (2 * n + 1) (by omega)
    simp only [pureC, List.mem_cons, List.not_mem_nil, or_false] at hp
    rcases hp with rfl | rfl | rfl | rfl | rfl | rfl | rfl | rfl <;>
      simp only [pureRe, pureIm, evP_pmulT, evP_pplus, evP_pminus, evP_ptimes, evP_pvar, e1, e2, Int.mul_zero, Int.add_zero, Int.sub_self]
theorem pureWay_ok {η : Env} {k : Nat} (hk : k < 8) (h0 : ∀ j, j < k → η.i j = 0) (h1 : η.i k ≠ 0) : PC.holds η (pureWay k) := by
  have hK : 0 < evP η.i (pureK (k / 2)) := by
    simp only [pureK, pureRe, evP_pmulT, evP_pplus, evP_ptimes, evP_pvar, evM, Int.mul_one]
    have a := pf_sq (η.i (2 * (k / 2)))
    have b := pf_sq (η.i (2 * (k / 2) + 1))
    have hs := pf_sq_pos h1
    rcases Nat.mod_two_eq_zero_or_one k with e | e
    · rw [show 2 * (k / 2) = k by omega] at a b ⊢; omega
    · rw [show 2 * (k / 2) + 1 = k by omega] at b ⊢; omega
  have hS : 0 < evP η.i pureS := sqTo_pos h1 8 hk
  refine holds_cons (by simp only [Atom.den, evP_pvar]; exact decide_eq_false h1) (holds_append (bFact_ok (by rw [zerB_den]; exact decide_eq_false (by omega))) (holds_append (bFact_ok (by rw [posB_den]; exact decide_eq_true hK)) (holds_append (bFact_ok (by rw [posB_den, evP_pneg]; exact decide_eq_false (by omega))) (holds_append (bFact_ok (by rw [zerB_den]; exact decide_eq_false (by omega))) (holds_append (zerosTo_ok k h0) (colZero_ok _ fun j hj => h0 j (by omega)))))))
theorem pureWays_some (η : Env) : ∃ pc ∈ pureWays, PC.holds η pc := by
  have key : ∀ n, n ≤ 8 → (∀ k, k < n → η.i k = 0) ∨ ∃ k, k < n ∧ (∀ j, j < k → η.i j = 0) ∧ η.i k ≠ 0 := by
    intro n
    induction n with
    | zero => intro _; exact .inl fun k hk => by omega
    | succ n ih =>
      intro hn
      rcases ih (by omega) with h | ⟨k, h1, h2, h3⟩
      · by_cases e : η.i n = 0
        · refine .inl fun k hk => ?_
          by_cases hkn : k = n
          · rw [hkn]; exact e
          · exact h k (by omega)
        · exact .inr ⟨n, by omega, h, e⟩
      · exact .inr ⟨k, by omega, h2, h3⟩
  rcases key 8 (by omega) with h | ⟨k, h1, h2, h3⟩
  · exact ⟨zerosTo 8, by simp [pureWays], zerosTo_ok 8 h⟩
  · refine ⟨pureWay k, ?_, pureWay_ok h1 h2 h3⟩
    rcases k with _ | _ | _ | _ | _ | _ | _ | _ | k <;> first | omega | simp [pureWays]
end
end Go.Ex
