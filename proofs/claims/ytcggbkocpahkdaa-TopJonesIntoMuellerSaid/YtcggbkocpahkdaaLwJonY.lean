/-
  Plain facts of Jones and Mueller matrices: of polarisers and plates, and of the Stokes vector behind a matrix.
-/
import Derived.Test.YtcggbkocpahkdaaLwJonF
namespace Go.Ex
open Go Go.Proofs
noncomputable section
/-! ## Polynomials at values -/
theorem joNth_zero (x : Poly) (l : List Poly) : joNth (x :: l) 0 = x := rfl
theorem joNth_succ (x : Poly) (l : List Poly) (k : Nat) : joNth (x :: l) (k + 1) = joNth l k := rfl
def muV (J : Nat → Int) (k : Nat) : Int := evP J (joNth joMu k)
def stV (a b c d : Int) : Nat → Int
  | 0 => (a * a + b * b) + (c * c + d * d)
  | 1 => (a * a + b * b) - (c * c + d * d)
  | 2 => 2 * (a * c + b * d)
  | _ => 2 * (a * d - b * c)
def stQ (l : List Poly) (r : Nat) : Poly :=
  let a := joNth l 0; let b := joNth l 1; let c := joNth l 2; let d := joNth l 3
  match r with
  | 0 => pplus (pplus (sq a) (sq b)) (pplus (sq c) (sq d))
  | 1 => pminus (pplus (sq a) (sq b)) (pplus (sq c) (sq d))
  | 2 => pmulT [] 2 (pplus (ptimes a c) (ptimes b d))
  | _ => pmulT [] 2 (pminus (ptimes a d) (ptimes b c))
theorem sq_ev (f : Nat → Int) (p : Poly) : evP f (sq p) = evP f p * evP f p := evP_ptimes ..
theorem stP_ev (f : Nat → Int) (l : List Poly) (r : Nat) : evP f (stQ l r) = stV (evP f (joNth l 0)) (evP f (joNth l 1)) (evP f (joNth l 2)) (evP f (joNth l 3)) r := by
  rcases r with _ | _ | _ | r <;> simp only [stQ, stV, evP_pplus, evP_pminus, evP_pmulT, sq_ev, evP_ptimes, evM, Int.mul_one]
theorem joSt_ev (f : Nat → Int) (w r : Nat) : evP f (joSt w r) = stV (f w) (f (w + 1)) (f (w + 2)) (f (w + 3)) r := by
  rcases r with _ | _ | _ | r <;> simp only [joSt, stV, evP_pplus, evP_pminus, evP_pmulT, sq_ev, evP_ptimes, evP_pvar, evM, Int.mul_one]
def psV (J : Nat → Int) (a b c d : Int) : Nat → Int
  | 0 => (J 0 * a - J 1 * b) + (J 2 * c - J 3 * d)
  | 1 => (J 0 * b + J 1 * a) + (J 2 * d + J 3 * c)
  | 2 => (J 4 * a - J 5 * b) + (J 6 * c - J 7 * d)
  | _ => (J 4 * b + J 5 * a) + (J 6 * d + J 7 * c)
theorem jPass_ev (f : Nat → Int) (j w k : Nat) (hk : k < 4) : evP f (joNth (jPass j w) k) = psV (fun u => f (j + u)) (f w) (f (w + 1)) (f (w + 2)) (f (w + 3)) k := by
  rcases k with _ | _ | _ | _ | k <;> first | omega | simp only [jPass, joNth_zero, joNth_succ, psV, evP_pplus, evP_pminus, evP_ptimes, evP_pvar, Nat.mul_zero, Nat.add_zero, Nat.mul_one, Nat.add_assoc, Nat.reduceAdd, Nat.reduceMul]
def chkSt (r : Nat) : Bool := polyEq (pplus (pplus (ptimes (joNth joMu (4 * r)) (joSt 8 0)) (ptimes (joNth joMu (4 * r + 1)) (joSt 8 1))) (pplus (ptimes (joNth joMu (4 * r + 2)) (joSt 8 2)) (ptimes (joNth joMu (4 * r + 3)) (joSt 8 3)))) (pmulT [] 2 (stQ (jPass 0 8) r))
def chkLt : Bool := [0, 1, 2, 3, 4, 5, 6, 7, 8, 9, 10, 11, 12, 13, 14, 15].all fun k => polLt 8 (joNth joMu k)
theorem chkSt0 : chkSt 0 = true := by kernel_rfl
theorem chkSt1 : chkSt 1 = true := by kernel_rfl
theorem chkSt2 : chkSt 2 = true := by kernel_rfl
theorem chkSt3 : chkSt 3 = true := by kernel_rfl
theorem chkSt_all : ∀ r, r < 4 → chkSt r = true
  | 0, _ => chkSt0
  | 1, _ => chkSt1
  | 2, _ => chkSt2
  | 3, _ => chkSt3
  | n + 4, h => by omega
theorem chkLt_ok : chkLt = true := by kernel_rfl
theorem mem16 {k : Nat} (h : k < 16) : k ∈ [0, 1, 2, 3, 4, 5, 6, 7, 8, 9, 10, 11, 12, 13, 14, 15] := by
  rcases k with _ | _ | _ | _ | _ | _ | _ | _ | _ | _ | _ | _ | _ | _ | _ | _ | k <;> first | omega | simp
theorem mu_lt {k : Nat} (h : k < 16) : polLt 8 (joNth joMu k) = true := by
  have := chkLt_ok
  simp only [chkLt, List.all_eq_true] at this
  exact this k (mem16 h)
/-- The Stokes vector behind a matrix is half of its Mueller matrix times that before it. -/
theorem stokes_pass (J : Nat → Int) (a b c d : Int) {r : Nat} (hr : r < 4) :
    (muV J (4 * r) * stV a b c d 0 + muV J (4 * r + 1) * stV a b c d 1) + (muV J (4 * r + 2) * stV a b c d 2 + muV J (4 * r + 3) * stV a b c d 3) = 2 * stV (psV J a b c d 0) (psV J a b c d 1) (psV J a b c d 2) (psV J a b c d 3) r := by
  obtain ⟨g, hg⟩ : ∃ g : Nat → Int, g = fun u => if u < 8 then J u else if u = 8 then a else if u = 9 then b else if u = 10 then c else d := ⟨_, rfl⟩
  have g0 : ∀ u, u < 8 → g u = J u := fun u hu => by rw [hg]; simp only [if_pos hu]
  have g8 : g 8 = a := by rw [hg]; rfl
  have g9 : g 9 = b := by rw [hg]; rfl
  have g10 : g 10 = c := by rw [hg]; rfl
  have g11 : g 11 = d := by rw [hg]; rfl
  have hmu : ∀ k, k < 16 → muV J k = evP g (joNth joMu k) := fun k hk => polLt_ev (fun v hv => (g0 v hv).symm) (mu_lt hk)
  have hst : ∀ k, stV a b c d k = evP g (joSt 8 k) := fun k => by rw [joSt_ev, g8, g9, g10, g11]
  have hps : ∀ k, k < 4 → psV J a b c d k = evP g (joNth (jPass 0 8) k) := fun k hk => by
    rw [jPass_ev g 0 8 k hk, g8, g9, g10, g11]
    rcases k with _ | _ | _ | _ | k <;> first | omega | simp only [psV, Nat.zero_add, g0 0 (by omega), g0 1 (by omega), g0 2 (by omega), g0 3 (by omega), g0 4 (by omega), g0 5 (by omega), g0 6 (by omega), g0 7 (by omega)]
  have hc := chkSt_all r hr
  have e := congrArg (evP g) (polyEq_iff hc)
  simp only [evP_pplus, evP_ptimes, evP_pmulT, evM, Int.mul_one, stP_ev, ← hst, ← hps 0 (by omega), ← hps 1 (by omega), ← hps 2 (by omega), ← hps 3 (by omega)] at e
  rw [hmu (4 * r) (by omega), hmu (4 * r + 1) (by omega), hmu (4 * r + 2) (by omega), hmu (4 * r + 3) (by omega)]
  exact e

/-! ## Polarisers, plates -/
def plV (P Q : Int) : Nat → Int
  | 0 => P * P
  | 2 => P * Q
  | 4 => P * Q
  | 6 => Q * Q
  | _ => 0
def paV (C D R P Q : Int) : Nat → Int
  | 0 => P * P * R + Q * Q * C
  | 1 => Q * Q * D
  | 2 => P * Q * (R - C)
  | 3 => -(P * Q * D)
  | 4 => P * Q * (R - C)
  | 5 => -(P * Q * D)
  | 6 => Q * Q * R + P * P * C
  | 7 => P * P * D
  | _ => 0
theorem jPol_ev (f : Nat → Int) (a k : Nat) (hk : k < 8) : evP f (joNth (jPol a) k) = plV (f a) (f (a + 1)) k := by
  rcases k with _ | _ | _ | _ | _ | _ | _ | _ | k <;> first | omega | simp only [jPol, joNth_zero, joNth_succ, plV, sq_ev, evP_ptimes, evP_pvar, evP]
theorem jPla_ev (f : Nat → Int) (p a k : Nat) (hk : k < 8) : evP f (joNth (jPla p a) k) = paV (f p) (f (p + 1)) (f (p + 2)) (f a) (f (a + 1)) k := by
  rcases k with _ | _ | _ | _ | _ | _ | _ | _ | k <;> first | omega | simp only [jPla, joNth_zero, joNth_succ, paV, sq_ev, evP_pplus, evP_pminus, evP_pneg, evP_ptimes, evP_pvar]
def sumSq3 (l : List Poly) : Poly := pplus (sq (joNth l 1)) (pplus (sq (joNth l 2)) (sq (joNth l 3)))
def tP (a : Nat) : Poly := pplus (sq (pvar a)) (sq (pvar (a + 1)))
def polM : List Poly := joMu.map (subP (jPol 0))
def plaM : List Poly := joMu.map (subP (jPla 0 3))
def chkPol : Bool := polyEq (joNth polM 0) (sq (tP 0)) && polyEq (sumSq3 polM) (sq (sq (tP 0)))
def plaV : Poly := pminus (sq (pvar 2)) (tP 0)
def chkPla : Bool := polyEq (joNth plaM 0) (ptimes (sq (tP 3)) (pplus (sq (pvar 2)) (tP 0))) &&
  (polyEq (joNth plaM 1) (ptimes (ptimes (tP 3) (pminus (sq (pvar 3)) (sq (pvar 4)))) plaV) && (polyEq (joNth plaM 2) (ptimes (ptimes (tP 3) (pmulT [] 2 (ptimes (pvar 3) (pvar 4)))) plaV) && polyEq (joNth plaM 3) []))
theorem chkPol_ok : chkPol = true := by kernel_rfl
theorem chkPla_ok : chkPla = true := by kernel_rfl
theorem joNth_map (g : Poly → Poly) (hg : g [] = []) (l : List Poly) (k : Nat) : joNth (l.map g) k = g (joNth l k) := by
  unfold joNth
  rw [nth_eq, nth_eq, List.getElem?_map]
  cases l[k]? with
  | none => exact hg.symm
  | some p => rfl
theorem mu_of {J : Nat → Int} {f : Nat → Int} {l : List Poly} (h : ∀ u, u < 8 → J u = evP f (joNth l u)) (hn : l.length = 8) {k : Nat} (hk : k < 16) : muV J k = evP f (joNth (joMu.map (subP l)) k) := by
  obtain ⟨η, hη⟩ : ∃ η : Env, η.i = f := ⟨⟨f, fun _ => 0, fun _ _ => false⟩, rfl⟩
  rw [joNth_map _ rfl, ← hη, subP_ev]
  refine polLt_ev (n := 8) (fun u hu => ?_) (mu_lt hk)
  rw [h u hu, hη.symm]
  unfold valOf joNth
  rw [nth_eq, List.getElem?_eq_getElem (by omega)]
theorem pol_mu {J : Nat → Int} {P Q : Int} (h : ∀ u, u < 8 → J u = plV P Q u) : muV J 0 = (P * P + Q * Q) * (P * P + Q * Q) ∧ muV J 1 * muV J 1 + (muV J 2 * muV J 2 + muV J 3 * muV J 3) = (P * P + Q * Q) * (P * P + Q * Q) * ((P * P + Q * Q) * (P * P + Q * Q)) := by
  obtain ⟨f, f0, f1⟩ : ∃ f : Nat → Int, f 0 = P ∧ f 1 = Q := ⟨fun u => if u = 0 then P else Q, rfl, rfl⟩
  have e := fun k hk => mu_of (J := J) (f := f) (l := jPol 0) (fun u hu => by rw [h u hu, jPol_ev f 0 u hu, f0, f1]) rfl (k := k) hk
  have c := chkPol_ok
  simp only [chkPol, Bool.and_eq_true] at c
  have c1 := congrArg (evP f) (polyEq_iff c.1)
  have c2 := congrArg (evP f) (polyEq_iff c.2)
  simp only [polM, sumSq3, tP, sq_ev, evP_pplus, evP_pvar, f0, f1, Nat.zero_add] at c1 c2
  rw [e 0 (by omega), e 1 (by omega), e 2 (by omega), e 3 (by omega)]
  exact ⟨c1, c2⟩
theorem pla_mu {J : Nat → Int} {C D R P Q : Int} (h : ∀ u, u < 8 → J u = paV C D R P Q u) (hv : C * C + D * D = R * R) : muV J 0 = (P * P + Q * Q) * (P * P + Q * Q) * (R * R + R * R) ∧ muV J 1 = 0 ∧ muV J 2 = 0 ∧ muV J 3 = 0 := by
  obtain ⟨f, f0, f1, f2, f3, f4⟩ : ∃ f : Nat → Int, f 0 = C ∧ f 1 = D ∧ f 2 = R ∧ f 3 = P ∧ f 4 = Q := ⟨fun u => if u = 0 then C else if u = 1 then D else if u = 2 then R else if u = 3 then P else Q, rfl, rfl, rfl, rfl, rfl⟩
  have e := fun k hk => mu_of (J := J) (f := f) (l := jPla 0 3) (fun u hu => by rw [h u hu, jPla_ev f 0 3 u hu, f0, f1, f2, f3, f4]) rfl (k := k) hk
  have c := chkPla_ok
  simp only [chkPla, Bool.and_eq_true] at c
  obtain ⟨c1, c2, c3, c4⟩ := c
  have c1 := congrArg (evP f) (polyEq_iff c1)
  have c2 := congrArg (evP f) (polyEq_iff c2)
  have c3 := congrArg (evP f) (polyEq_iff c3)
  have c4 := congrArg (evP f) (polyEq_iff c4)
  have hz : R * R - (C * C + D * D) = 0 := by omega
  simp only [plaM, plaV, tP, sq_ev, evP_pplus, evP_pminus, evP_ptimes, evP_pvar, f0, f1, f2, f3, f4, Nat.zero_add, hz, Int.mul_zero] at c1 c2 c3 c4
  rw [e 0 (by omega), e 1 (by omega), e 2 (by omega), e 3 (by omega)]
  refine ⟨?_, c2, c3, ?_⟩
  · rw [hv] at c1; exact c1
  · simpa [plaM, evP] using c4
end
end Go.Ex

/-
  The facts that the law TopJonesIntoMueller adds behind its names, shown.
-/
namespace Go.Ex
open Go Go.Proofs
noncomputable section
/-! ## The names' values -/
theorem idD_mem : ∀ {ps : List Poly} {v k : Nat} {p : Poly}, nth ps k = some p → (v + k, 0, [p]) ∈ idD v ps
  | [], v, k, p, h => by simp [nth_eq] at h
  | q :: ps, v, 0, p, h => by cases h; exact List.mem_cons_self ..
  | q :: ps, v, k + 1, p, h => by
    have := idD_mem (v := v + 1) (k := k) (ps := ps) (p := p) (by rw [nth_eq] at h ⊢; simpa using h)
    rw [show v + 1 + k = v + (k + 1) by omega] at this
    exact List.mem_cons_of_mem _ this
theorem zipD_mem {r : Poly} : ∀ {ps qs : List Poly} {v k : Nat} {p q : Poly}, nth ps k = some p → nth qs k = some q → (v + k, 1, [r, p, q]) ∈ zipD r v ps qs
  | [], _, v, k, p, q, h, _ => by simp [nth_eq] at h
  | _ :: _, [], v, k, p, q, _, h => by simp [nth_eq] at h
  | x :: ps, y :: qs, v, 0, p, q, h, h' => by cases h; cases h'; exact List.mem_cons_self ..
  | x :: ps, y :: qs, v, k + 1, p, q, h, h' => by
    have := zipD_mem (r := r) (v := v + 1) (k := k) (ps := ps) (qs := qs) (p := p) (q := q) (by rw [nth_eq] at h ⊢; simpa using h) (by rw [nth_eq] at h' ⊢; simpa using h')
    rw [show v + 1 + k = v + (k + 1) by omega] at this
    exact List.mem_cons_of_mem _ this
theorem jD_mem {n : Nat} : ∀ {m i : Nat} {x : Nat × Nat × List Poly}, i < m → x ∈ jDi n i → x ∈ jD n m
  | 0, i, x, h, _ => by omega
  | m + 1, i, x, h, hx => by
    by_cases e : i = m
    · subst e; exact List.mem_append_right _ hx
    · exact List.mem_append_left _ (jD_mem (by omega) hx)
theorem joNth_some {l : List Poly} {k : Nat} (h : k < l.length) : nth l k = some (joNth l k) := by
  unfold joNth
  rw [nth_eq, List.getElem?_eq_getElem h]
structure EF (η : Env) (n i : Nat) : Prop where
  J : ∀ k, k < 8 → η.i (jb i + k) = wr (if η.i (6 * i + 2) = 0 then wr (evP η.i (joNth (jPol (6 * i + 3)) k)) else wr (evP η.i (joNth (jPla (6 * i) (6 * i + 3)) k)))
  S : η.i (jb i + 8) = wr (if η.i (6 * i + 2) = 0 then wr (η.i (6 * i + 5) * η.i (6 * i + 5)) else wr (η.i (6 * i + 2) * (η.i (6 * i + 5) * η.i (6 * i + 5))))
  M : ∀ k, k < 16 → η.i (jb i + 10 + k) = wr (evP η.i (joNth (jMul i) k))
  W : ∀ k, k < 4 → η.i (jb i + 30 + k) = wr (evP η.i (joNth (jPass (jb i) (jWave n i)) k))
  A : ∀ k, k < 16 → η.i (jb i + 40 + k) = wr (evP η.i (joNth (jAll i) k))
theorem joMu_len : joMu.length = 16 := rfl
theorem jAll_len (i : Nat) : (jAll i).length = 16 := by unfold jAll; split <;> rfl
theorem ef_of {η : Env} (hg : GoodF η) {n i : Nat} (hD : DOk η (jD n n)) (hi : i < n) : EF η n i := by
  have hm := fun x hx => hD x (jD_mem hi hx)
  have hR : wr (evP η.i (pvar (6 * i + 2))) = η.i (6 * i + 2) := by rw [evP_pvar]; exact hg.inr _
  refine ⟨fun k hk => ?_, ?_, fun k hk => ?_, fun k hk => ?_, fun k hk => ?_⟩
  · have h := hm _ (List.mem_append_left _ (zipD_mem (r := pvar (6 * i + 2)) (v := jb i) (joNth_some (l := jPol (6 * i + 3)) (k := k) hk) (joNth_some (l := jPla (6 * i) (6 * i + 3)) (k := k) hk)))
    simp only [semD, wvals, List.map_cons, List.map_nil, hR] at h
    exact h
  · have h := hm _ (List.mem_append_right _ (List.mem_cons_self ..))
    simp only [semD, wvals, List.map_cons, List.map_nil, sq_ev, evP_ptimes, evP_pvar, hg.inr] at h
    exact h
  · have h := hm _ (List.mem_append_right _ (List.mem_cons_of_mem _ (List.mem_append_left _ (idD_mem (v := jb i + 10) (joNth_some (l := jMul i) (k := k) (by unfold jMul; rw [List.length_map, joMu_len]; exact hk))))))
    simp only [semD, wvals, List.map_cons, List.map_nil, wr_wr] at h
    exact h
  · have h := hm _ (List.mem_append_right _ (List.mem_cons_of_mem _ (List.mem_append_right _ (List.mem_append_left _ (idD_mem (v := jb i + 30) (joNth_some (l := jPass (jb i) (jWave n i)) (k := k) hk))))))
    simp only [semD, wvals, List.map_cons, List.map_nil, wr_wr] at h
    exact h
  · have h := hm _ (List.mem_append_right _ (List.mem_cons_of_mem _ (List.mem_append_right _ (List.mem_append_right _ (idD_mem (v := jb i + 40) (joNth_some (l := jAll i) (k := k) (by rw [jAll_len]; exact hk)))))))
    simp only [semD, wvals, List.map_cons, List.map_nil, wr_wr] at h
    exact h

/-! ## Bounds -/
theorem holds_cn {η : Env} {a : Atom} {b : Bool} {l : PC} (h : a.den η = b) (hl : PC.holds η l) : PC.holds η ((a, b) :: l) := fun x hx => by
  rcases List.mem_cons.1 hx with rfl | hx
  · exact h
  · exact hl x hx
theorem mb {a b A B : Int} (h1 : -A ≤ a ∧ a ≤ A) (h3 : -B ≤ b ∧ b ≤ B) : -(A * B) ≤ a * b ∧ a * b ≤ A * B := by
  have e1 := Int.mul_nonneg (show 0 ≤ A - a by omega) (show 0 ≤ B + b by omega)
  have e2 := Int.mul_nonneg (show 0 ≤ A + a by omega) (show 0 ≤ B - b by omega)
  have e3 := Int.mul_nonneg (show 0 ≤ A - a by omega) (show 0 ≤ B - b by omega)
  have e4 := Int.mul_nonneg (show 0 ≤ A + a by omega) (show 0 ≤ B + b by omega)
  simp only [Int.mul_add, Int.mul_sub, Int.add_mul, Int.sub_mul] at e1 e2 e3 e4
  omega
theorem bndJ_ok {η : Env} {m : Int} : ∀ (n v : Nat), (∀ k, k < n → -m ≤ η.i (v + k) ∧ η.i (v + k) ≤ m) → PC.holds η (bndJ m v n)
  | 0, _, _ => fun x hx => by cases hx
  | n + 1, v, h => by
    have h0 := h 0 (by omega)
    rw [Nat.add_zero] at h0
    refine holds_cn ?_ (holds_cn ?_ (bndJ_ok n (v + 1) fun k hk => by rw [show v + 1 + k = v + (k + 1) by omega]; exact h (k + 1) (by omega)))
    · simp only [Atom.den, evP, evM, Int.mul_one, Int.one_mul, Int.add_zero]; exact decide_eq_false (by omega)
    · simp only [Atom.den, evP, evM, Int.mul_one, Int.add_zero]; exact decide_eq_false (by omega)
theorem bndJ_has {η : Env} {m : Int} : ∀ (n v : Nat), PC.holds η (bndJ m v n) → ∀ k, k < n → -m ≤ η.i (v + k) ∧ η.i (v + k) ≤ m
  | 0, _, _, _, hk => by omega
  | n + 1, v, h, k, hk => by
    cases k with
    | zero =>
      have a := h _ (List.mem_cons_self ..)
      have b := h _ (List.mem_cons_of_mem _ (List.mem_cons_self ..))
      simp only [Atom.den] at a b
      have a := of_decide_eq_false a
      have b := of_decide_eq_false b
      simp only [evP, evM, Int.mul_one, Int.one_mul, Int.add_zero] at a b
      simp only [Nat.add_zero]
      omega
    | succ k =>
      have := bndJ_has n (v + 1) (fun x hx => h x (List.mem_cons_of_mem _ (List.mem_cons_of_mem _ hx))) k (by omega)
      rwa [show v + 1 + k = v + (k + 1) by omega] at this
theorem holds_app {η : Env} {l m : PC} (h1 : PC.holds η l) (h2 : PC.holds η m) : PC.holds η (l ++ m) := fun x hx => (List.mem_append.1 hx).elim (h1 x) (h2 x)
theorem holds_l {η : Env} {l m : PC} (h : PC.holds η (l ++ m)) : PC.holds η l := fun x hx => h x (List.mem_append_left _ hx)
theorem holds_r {η : Env} {l m : PC} (h : PC.holds η (l ++ m)) : PC.holds η m := fun x hx => h x (List.mem_append_right _ hx)
theorem small_get {η : Env} {m : Int} : ∀ {ps : List Poly} {k : Nat}, allS η m ps = true → k < ps.length → -m ≤ wr (evP η.i (joNth ps k)) ∧ wr (evP η.i (joNth ps k)) ≤ m
  | [], _, _, hk => by simp at hk
  | p :: ps, 0, h, _ => by
    simp only [allS, Bool.and_eq_true, decide_eq_true_eq] at h
    rw [joNth_zero]; exact h.1
  | p :: ps, k + 1, h, hk => by
    simp only [allS, Bool.and_eq_true, decide_eq_true_eq] at h
    rw [joNth_succ]; exact small_get h.2 (by simpa using hk)

/-! ## Turns -/
theorem turn_get {η : Env} {a : Nat} (h : PC.holds η (turnPre a)) : (-(η.i (a + 2)) ≤ η.i a ∧ η.i a ≤ η.i (a + 2)) ∧ (-(η.i (a + 2)) ≤ η.i (a + 1) ∧ η.i (a + 1) ≤ η.i (a + 2)) ∧ η.i a * η.i a + η.i (a + 1) * η.i (a + 1) = η.i (a + 2) * η.i (a + 2) := by
  unfold turnPre at h
  have h1 := h _ (List.mem_cons_self ..)
  have h2 := h _ (List.mem_cons_of_mem _ (List.mem_cons_self ..))
  have h3 := h _ (List.mem_cons_of_mem _ (List.mem_cons_of_mem _ (List.mem_cons_self ..)))
  have h4 := h _ (List.mem_cons_of_mem _ (List.mem_cons_of_mem _ (List.mem_cons_of_mem _ (List.mem_cons_self ..))))
  have h5 := h _ (List.mem_cons_of_mem _ (List.mem_cons_of_mem _ (List.mem_cons_of_mem _ (List.mem_cons_of_mem _ (List.mem_cons_self ..)))))
  simp only [Atom.den] at h1 h2 h3 h4 h5
  have h1 := of_decide_eq_false h1
  have h2 := of_decide_eq_false h2
  have h3 := of_decide_eq_false h3
  have h4 := of_decide_eq_false h4
  have h5 := of_decide_eq_true h5
  simp only [evP, evM, Int.mul_one, Int.one_mul, Int.add_zero] at h1 h2 h3 h4 h5
  omega
theorem el_get {η : Env} {e : Nat} (h : PC.holds η (elPre e)) : (1 ≤ η.i (e + 5) ∧ η.i (e + 5) ≤ 5) ∧ (0 ≤ η.i (e + 2) ∧ η.i (e + 2) ≤ 5) ∧ PC.holds η (turnPre (e + 3)) := by
  unfold elPre at h
  have h1 := h _ (List.mem_cons_self ..)
  have h2 := h _ (List.mem_cons_of_mem _ (List.mem_cons_self ..))
  have h3 := h _ (List.mem_cons_of_mem _ (List.mem_cons_of_mem _ (List.mem_cons_self ..)))
  have h4 := h _ (List.mem_cons_of_mem _ (List.mem_cons_of_mem _ (List.mem_cons_of_mem _ (List.mem_cons_self ..))))
  simp only [Atom.den] at h1 h2 h3 h4
  have h1 := of_decide_eq_false h1
  have h2 := of_decide_eq_false h2
  have h3 := of_decide_eq_false h3
  have h4 := of_decide_eq_false h4
  simp only [evP, evM, Int.mul_one, Int.one_mul, Int.add_zero] at h1 h2 h3 h4
  exact ⟨by omega, by omega, fun x hx => h x (List.mem_cons_of_mem _ (List.mem_cons_of_mem _ (List.mem_cons_of_mem _ (List.mem_cons_of_mem _ hx))))⟩
theorem zer_get {η : Env} {v : Nat} {b : Bool} {l : PC} (h : PC.holds η ((.zer [([v], 1)], b) :: l)) : decide (η.i v = 0) = b := by
  have := h _ (List.mem_cons_self ..)
  simpa [Atom.den, evP, evM] using this
theorem sq5 {t : Int} (h : 1 ≤ t ∧ t ≤ 5) : 1 ≤ t * t ∧ t * t ≤ 25 := by
  have : t = 1 ∨ t = 2 ∨ t = 3 ∨ t = 4 ∨ t = 5 := by omega
  rcases this with rfl | rfl | rfl | rfl | rfl <;> decide
theorem plV_bnd {P Q : Int} (hP : -5 ≤ P ∧ P ≤ 5) (hQ : -5 ≤ Q ∧ Q ≤ 5) (k : Nat) (hk : k < 8) : -250 ≤ plV P Q k ∧ plV P Q k ≤ 250 := by
  have a := mb hP hP
  have b := mb hP hQ
  have c := mb hQ hQ
  rcases k with _ | _ | _ | _ | _ | _ | _ | _ | k <;> first | omega | (simp only [plV]; omega)
theorem paV_bnd {C D R P Q : Int} (hC : -5 ≤ C ∧ C ≤ 5) (hD : -5 ≤ D ∧ D ≤ 5) (hR : -5 ≤ R ∧ R ≤ 5) (hP : -5 ≤ P ∧ P ≤ 5) (hQ : -5 ≤ Q ∧ Q ≤ 5) (k : Nat) (hk : k < 8) : -250 ≤ paV C D R P Q k ∧ paV C D R P Q k ≤ 250 := by
  have a := mb hP hP
  have b := mb hP hQ
  have c := mb hQ hQ
  have a1 := mb (A := 25) (B := 5) (by omega) hR (a := P * P)
  have a2 := mb (A := 25) (B := 5) (by omega) hC (a := P * P)
  have a3 := mb (A := 25) (B := 5) (by omega) hD (a := P * P)
  have c1 := mb (A := 25) (B := 5) (by omega) hR (a := Q * Q)
  have c2 := mb (A := 25) (B := 5) (by omega) hC (a := Q * Q)
  have c3 := mb (A := 25) (B := 5) (by omega) hD (a := Q * Q)
  have b1 := mb (A := 25) (B := 10) (by omega) (show -10 ≤ R - C ∧ R - C ≤ 10 by omega) (a := P * Q)
  have b2 := mb (A := 25) (B := 5) (by omega) hD (a := P * Q)
  rcases k with _ | _ | _ | _ | _ | _ | _ | _ | k <;> first | omega | (simp only [paV]; omega)

/-! ## Elements -/
theorem val0 {η : Env} {n i : Nat} (hE : EF η n i) (h : PC.holds η (pre0 (6 * i))) : (∀ k, k < 8 → η.i (jb i + k) = plV (η.i (6 * i + 3)) (η.i (6 * i + 4)) k) ∧ η.i (jb i + 8) = η.i (6 * i + 5) * η.i (6 * i + 5) ∧ (1 ≤ η.i (6 * i + 5) ∧ η.i (6 * i + 5) ≤ 5) ∧ (-5 ≤ η.i (6 * i + 3) ∧ η.i (6 * i + 3) ≤ 5) ∧ (-5 ≤ η.i (6 * i + 4) ∧ η.i (6 * i + 4) ≤ 5) ∧ η.i (6 * i + 3) * η.i (6 * i + 3) + η.i (6 * i + 4) * η.i (6 * i + 4) = η.i (6 * i + 5) * η.i (6 * i + 5) := by
  have hz := of_decide_eq_true (zer_get h)
  obtain ⟨h5, _, ht⟩ := el_get fun x hx => h x (List.mem_cons_of_mem _ hx)
  obtain ⟨hP, hQ, hr⟩ := turn_get ht
  rw [show 6 * i + 3 + 1 = 6 * i + 4 by omega, show 6 * i + 3 + 2 = 6 * i + 5 by omega] at hQ hr
  rw [show 6 * i + 3 + 2 = 6 * i + 5 by omega] at hP
  have hP' : -5 ≤ η.i (6 * i + 3) ∧ η.i (6 * i + 3) ≤ 5 := by omega
  have hQ' : -5 ≤ η.i (6 * i + 4) ∧ η.i (6 * i + 4) ≤ 5 := by omega
  refine ⟨fun k hk => ?_, ?_, h5, hP', hQ', hr⟩
  · rw [hE.J k hk, if_pos hz, wr_wr, jPol_ev _ _ k hk, show 6 * i + 3 + 1 = 6 * i + 4 by omega]
    have := plV_bnd hP' hQ' k hk
    exact wr_in (by omega)
  · rw [hE.S, if_pos hz, wr_wr]
    have := sq5 h5
    exact wr_in (by omega)
theorem val1 {η : Env} {n i : Nat} (hE : EF η n i) (h : PC.holds η (pre1 (6 * i))) : (∀ k, k < 8 → η.i (jb i + k) = paV (η.i (6 * i)) (η.i (6 * i + 1)) (η.i (6 * i + 2)) (η.i (6 * i + 3)) (η.i (6 * i + 4)) k) ∧ η.i (jb i + 8) = η.i (6 * i + 2) * (η.i (6 * i + 5) * η.i (6 * i + 5)) ∧ (1 ≤ η.i (6 * i + 5) ∧ η.i (6 * i + 5) ≤ 5) ∧ (1 ≤ η.i (6 * i + 2) ∧ η.i (6 * i + 2) ≤ 5) ∧
    (∀ k, k < 8 → -250 ≤ η.i (jb i + k) ∧ η.i (jb i + k) ≤ 250) ∧ η.i (6 * i) * η.i (6 * i) + η.i (6 * i + 1) * η.i (6 * i + 1) = η.i (6 * i + 2) * η.i (6 * i + 2) ∧ η.i (6 * i + 3) * η.i (6 * i + 3) + η.i (6 * i + 4) * η.i (6 * i + 4) = η.i (6 * i + 5) * η.i (6 * i + 5) := by
  have hz := of_decide_eq_false (zer_get h)
  have h' : PC.holds η (turnPre (6 * i) ++ elPre (6 * i)) := fun x hx => h x (List.mem_cons_of_mem _ hx)
  obtain ⟨h5, h2, ht⟩ := el_get (holds_r h')
  obtain ⟨hC, hD, hv⟩ := turn_get (holds_l h')
  obtain ⟨hP, hQ, hr⟩ := turn_get ht
  rw [show 6 * i + 3 + 1 = 6 * i + 4 by omega, show 6 * i + 3 + 2 = 6 * i + 5 by omega] at hQ hr
  rw [show 6 * i + 3 + 2 = 6 * i + 5 by omega] at hP
  have hb := paV_bnd (C := η.i (6 * i)) (D := η.i (6 * i + 1)) (R := η.i (6 * i + 2)) (P := η.i (6 * i + 3)) (Q := η.i (6 * i + 4)) (by omega) (by omega) (by omega) (by omega) (by omega)
  have hJ : ∀ k, k < 8 → η.i (jb i + k) = paV (η.i (6 * i)) (η.i (6 * i + 1)) (η.i (6 * i + 2)) (η.i (6 * i + 3)) (η.i (6 * i + 4)) k := fun k hk => by
    rw [hE.J k hk, if_neg hz, wr_wr, jPla_ev _ _ _ k hk, show 6 * i + 3 + 1 = 6 * i + 4 by omega]
    have := hb k hk
    exact wr_in (by omega)
  refine ⟨hJ, ?_, h5, by omega, fun k hk => by rw [hJ k hk]; exact hb k hk, hv, hr⟩
  rw [hE.S, if_neg hz, wr_wr]
  have a := sq5 h5
  have b := mb (A := 5) (B := 25) (show -5 ≤ η.i (6 * i + 2) ∧ η.i (6 * i + 2) ≤ 5 by omega) (show -25 ≤ η.i (6 * i + 5) * η.i (6 * i + 5) ∧ η.i (6 * i + 5) * η.i (6 * i + 5) ≤ 25 by omega)
  exact wr_in (by omega)
theorem pos_f {η : Env} {p : Poly} {l : PC} (h : evP η.i p ≤ 0) (hl : PC.holds η l) : PC.holds η ((.pos p, false) :: l) := holds_cn (by simp only [Atom.den]; exact decide_eq_false (by omega)) hl
theorem pos_t {η : Env} {p : Poly} {l : PC} (h : 0 < evP η.i p) (hl : PC.holds η l) : PC.holds η ((.pos p, true) :: l) := holds_cn (by simp only [Atom.den]; exact decide_eq_true h) hl
theorem scale_facts {η : Env} {i : Nat} (h : 1 ≤ η.i (jb i + 8) ∧ η.i (jb i + 8) ≤ 125) (hJ : ∀ k, k < 8 → -250 ≤ η.i (jb i + k) ∧ η.i (jb i + k) ≤ 250) : PC.holds η (postJ i) := by
  refine pos_f ?_ (pos_f ?_ (bndJ_ok 8 (jb i) hJ))
  · simp only [evP, evM, Int.mul_one, Int.add_zero]; omega
  · simp only [evP, evM, Int.mul_one, Int.one_mul, Int.add_zero]; omega
theorem scale1 {r t : Int} (hr : 1 ≤ r ∧ r ≤ 5) (ht : 1 ≤ t * t ∧ t * t ≤ 25) : 1 ≤ r * (t * t) ∧ r * (t * t) ≤ 125 := by
  have a := Int.mul_le_mul hr.1 ht.1 (by omega) (by omega)
  have b := Int.mul_le_mul hr.2 ht.2 (by omega) (by omega)
  omega
theorem postJ0_ok {η : Env} {n i : Nat} (hE : EF η n i) (h : PC.holds η (pre0 (6 * i))) : PC.holds η (postJ i) := by
  obtain ⟨a1, a2, a3, a4, a5, _⟩ := val0 hE h
  refine scale_facts ?_ fun k hk => by rw [a1 k hk]; exact plV_bnd a4 a5 k hk
  rw [a2]; have := sq5 a3; omega
theorem postJ1_ok {η : Env} {n i : Nat} (hE : EF η n i) (h : PC.holds η (pre1 (6 * i))) : PC.holds η (postJ i) := by
  obtain ⟨a1, a2, a3, a4, a5, _⟩ := val1 hE h
  refine scale_facts ?_ a5
  rw [a2]; exact scale1 a4 (sq5 a3)

/-! ## Mueller matrices -/
def chkMu (i : Nat) : Bool := [0, 1, 2, 3, 4, 5, 6, 7, 8, 9, 10, 11, 12, 13, 14, 15].all fun k => let r := rng (bndJ 250 (jb i) 8) (joNth (jMul i) k)
  leI (-1000000) r.1 && leI r.2 1000000
theorem chkMu0 : chkMu 0 = true := by kernel_rfl
theorem chkMu1 : chkMu 1 = true := by kernel_rfl
theorem chkMu2 : chkMu 2 = true := by kernel_rfl
theorem chkMu_all : ∀ i, i < 3 → chkMu i = true
  | 0, _ => chkMu0
  | 1, _ => chkMu1
  | 2, _ => chkMu2
  | n + 3, h => by omega
def shiftJ (η : Env) (i : Nat) (u : Nat) : Int := η.i (jb i + u)
theorem vars_nth (f : Nat → Int) : ∀ (n a u : Nat), u < n → evP f (joNth (vars a n) u) = f (a + u)
  | 0, _, _, h => by omega
  | n + 1, a, 0, _ => by simp only [vars, joNth_zero, evP_pvar, Nat.add_zero]
  | n + 1, a, u + 1, h => by
    simp only [vars, joNth_succ]
    rw [vars_nth f n (a + 1) u (by omega), show a + 1 + u = a + (u + 1) by omega]
theorem mul_val {η : Env} (hg : GoodF η) {n i : Nat} (hi : i < 3) (hE : EF η n i) (hJ : PC.holds η (bndJ 250 (jb i) 8)) {k : Nat} (hk : k < 16) : η.i (jb i + 10 + k) = muV (shiftJ η i) k ∧ -1000000 ≤ η.i (jb i + 10 + k) ∧ η.i (jb i + 10 + k) ≤ 1000000 := by
  have e : muV (shiftJ η i) k = evP η.i (joNth (jMul i) k) := mu_of (J := shiftJ η i) (f := η.i) (l := vars (jb i) 8) (fun u hu => (vars_nth η.i 8 (jb i) u hu).symm) rfl hk
  have c := chkMu_all i hi
  simp only [chkMu, List.all_eq_true] at c
  have c := c k (mem16 hk)
  simp only [Bool.and_eq_true, leI_iff] at c
  obtain ⟨a, b⟩ := rng_has hg.toGood hJ (joNth (jMul i) k)
  rw [hE.M k hk, e, wr_in (by omega)]
  exact ⟨rfl, by omega, by omega⟩
theorem room_ev (η : Env) (i : Nat) (k : Int) : evP η.i (joRoom i k) = 2 * (η.i (jb i + 8) * η.i (jb i + 8)) - k - η.i (jb i + 10) := by
  simp only [joRoom, evP_pminus, evP_pmulT, sq_ev, evP_pvar, evP_pconst, evM, Int.mul_one]
theorem rest_ev (η : Env) (i : Nat) : evP η.i (joRest i) = η.i (jb i + 11) * η.i (jb i + 11) + (η.i (jb i + 12) * η.i (jb i + 12) + η.i (jb i + 13) * η.i (jb i + 13)) := by
  simp only [joRest, evP_pplus, sq_ev, evP_pvar]
theorem over_ev (η : Env) (i : Nat) (k : Int) : evP η.i (joOver i k) = evP η.i (joRest i) - evP η.i (joRoom i k) * evP η.i (joRoom i k) := by
  simp only [joOver, evP_pminus, sq_ev]
theorem postM0_ok {η : Env} (hg : GoodF η) {n i : Nat} (hi : i < 3) (hE : EF η n i) (h : PC.holds η (pre0 (6 * i))) : PC.holds η (postM0 i) := by
  obtain ⟨a1, a2, a3, a4, a5, a6⟩ := val0 hE h
  have hJ : PC.holds η (bndJ 250 (jb i) 8) := bndJ_ok 8 (jb i) fun k hk => by rw [a1 k hk]; exact plV_bnd a4 a5 k hk
  have hm := fun k hk => mul_val hg hi hE hJ (k := k) hk
  obtain ⟨m1, m2⟩ := pol_mu (J := shiftJ η i) a1
  rw [a6, ← a2] at m1 m2
  rw [← (hm 0 (by omega)).1] at m1
  rw [← (hm 1 (by omega)).1, ← (hm 2 (by omega)).1, ← (hm 3 (by omega)).1] at m2
  simp only [Nat.add_zero, Nat.add_assoc, Nat.reduceAdd] at m1 m2
  have hs := sq5 a3
  rw [← a2] at hs
  have hS : 1 ≤ η.i (jb i + 8) * η.i (jb i + 8) := by
    have := Int.mul_le_mul hs.1 hs.1 (by omega) (by omega); omega
  generalize hT : η.i (jb i + 8) * η.i (jb i + 8) = T at m1 m2 hS
  have r0 : evP η.i (joRoom i 0) = T := by rw [room_ev, hT, m1]; omega
  have r1 : evP η.i (joRoom i 1) = T - 1 := by rw [room_ev, hT, m1]; omega
  have rr : evP η.i (joRest i) = T * T := by rw [rest_ev]; exact m2
  refine pos_f (by rw [evP_pneg, r0]; omega) (pos_f (by rw [over_ev, rr, r0]; omega) (pos_f (by rw [evP_pneg, r1]; omega) (pos_t ?_ (bndJ_ok 16 (jb i + 10) fun k hk => (hm k hk).2))))
  rw [over_ev, rr, r1]
  have : (T - 1) * (T - 1) = T * T - 2 * T + 1 := by
    simp only [Int.mul_sub, Int.sub_mul, Int.mul_one, Int.one_mul]; omega
  omega
theorem postM1_ok {η : Env} (hg : GoodF η) {n i : Nat} (hi : i < 3) (hE : EF η n i) (h : PC.holds η (pre1 (6 * i))) : PC.holds η (postM1 i) := by
  obtain ⟨a1, a2, a3, a4, a5, a6, a7⟩ := val1 hE h
  have hJ : PC.holds η (bndJ 250 (jb i) 8) := bndJ_ok 8 (jb i) a5
  have hm := fun k hk => mul_val hg hi hE hJ (k := k) hk
  obtain ⟨m1, m2, m3, m4⟩ := pla_mu (J := shiftJ η i) a1 a6
  rw [a7] at m1
  rw [← (hm 0 (by omega)).1] at m1
  rw [← (hm 1 (by omega)).1] at m2
  rw [← (hm 2 (by omega)).1] at m3
  rw [← (hm 3 (by omega)).1] at m4
  simp only [Nat.add_zero, Nat.add_assoc, Nat.reduceAdd] at m1 m2 m3 m4
  have hT : η.i (jb i + 10) = 2 * (η.i (jb i + 8) * η.i (jb i + 8)) := by
    rw [m1, a2]
    generalize η.i (6 * i + 5) * η.i (6 * i + 5) = t
    generalize η.i (6 * i + 2) = r
    have : r * t * (r * t) = t * t * (r * r) := by simp only [Int.mul_left_comm, Int.mul_comm]
    rw [this, Int.mul_add]; omega
  have r0 : evP η.i (joRoom i 0) = 0 := by rw [room_ev, hT]; omega
  have r1 : evP η.i (joRoom i 1) = -1 := by rw [room_ev, hT]; omega
  have rr : evP η.i (joRest i) = 0 := by rw [rest_ev, m2, m3, m4]; decide
  exact pos_f (by rw [evP_pneg, r0]; omega) (pos_f (by rw [over_ev, rr, r0]; decide) (pos_t (by rw [evP_pneg, r1]; omega) (bndJ_ok 16 (jb i + 10) fun k hk => (hm k hk).2)))

/-! ## Waves -/
theorem postW_ok {η : Env} {n i : Nat} (hE : EF η n i) (h : PC.holds η (preW n i)) : PC.holds η (bndJ 1000 (jb i + 30) 4) := by
  have hs := h _ (List.mem_cons_self ..)
  simp only [Atom.den] at hs
  exact bndJ_ok 4 (jb i + 30) fun k hk => by rw [hE.W k hk]; exact small_get hs hk
end
end Go.Ex

/-
  The fact of the law TopJonesIntoMueller that goes from element to element: the product of the Mueller matrices times the first Stokes vector is 2 ^ (i + 1) times the Stokes vector behind.
-/
namespace Go.Ex
open Go Go.Proofs
noncomputable section
def zGd (p : Poly) : Bool := match zerB p with
  | .at_ _ _ => true
  | .lit b => b
theorem zF_get {η : Env} {p : Poly} (hz : zGd p = true) (h : PC.holds η (zF p)) : evP η.i p = 0 := by
  have e := zerB_den η p
  unfold zGd at hz
  unfold zF at h
  split at hz
  · rename_i n a ha
    rw [ha] at h e
    have h0 := h _ (List.mem_cons_self ..)
    simp only [Bx.den] at e h0
    rw [h0] at e
    have : decide (evP η.i p = 0) = true := by rw [← e]; cases n <;> rfl
    exact of_decide_eq_true this
  · rename_i b hb
    subst hz
    rw [hb] at e
    exact of_decide_eq_true e.symm
theorem zF_ok {η : Env} {p : Poly} (h : evP η.i p = 0) : PC.holds η (zF p) := by
  have e := zerB_den η p
  rw [decide_eq_true h] at e
  unfold zF
  split
  · rename_i n a ha
    rw [ha] at e
    simp only [Bx.den] at e
    refine holds_cn ?_ fun x hx => by cases hx
    revert e
    cases a.den η <;> cases n <;> simp
  · intro x hx; cases hx
def chkZ (n i : Nat) : Bool := [0, 1, 2, 3].all fun r => zGd (joZ n i r)
theorem chkZ20 : chkZ 2 0 = true := by kernel_rfl
theorem chkZ30 : chkZ 3 0 = true := by kernel_rfl
theorem chkZ31 : chkZ 3 1 = true := by kernel_rfl
theorem chkZ_all {n i : Nat} (hn : n ≤ 3) (hi : i + 1 < n) : chkZ n i = true := by
  have : (n = 2 ∧ i = 0) ∨ (n = 3 ∧ i = 0) ∨ (n = 3 ∧ i = 1) := by omega
  rcases this with ⟨rfl, rfl⟩ | ⟨rfl, rfl⟩ | ⟨rfl, rfl⟩
  · exact chkZ20
  · exact chkZ30
  · exact chkZ31
/-- The wave's numbers before an element. -/
theorem joZ_ev (η : Env) (n i r : Nat) : evP η.i (joZ n i r) = ((η.i (jb i + 40 + 4 * r) * stV (η.i (6 * n)) (η.i (6 * n + 1)) (η.i (6 * n + 2)) (η.i (6 * n + 3)) 0 + η.i (jb i + 40 + 4 * r + 1) * stV (η.i (6 * n)) (η.i (6 * n + 1)) (η.i (6 * n + 2)) (η.i (6 * n + 3)) 1) + (η.i (jb i + 40 + 4 * r + 2) * stV (η.i (6 * n)) (η.i (6 * n + 1)) (η.i (6 * n + 2)) (η.i (6 * n + 3)) 2 + η.i (jb i + 40 + 4 * r + 3) * stV (η.i (6 * n)) (η.i (6 * n + 1)) (η.i (6 * n + 2)) (η.i (6 * n + 3)) 3)) - 2 ^ (i + 1) * stV (η.i (jb i + 30)) (η.i (jb i + 31)) (η.i (jb i + 32)) (η.i (jb i + 33)) r := by
  simp only [joZ, joLight, evP_pminus, evP_pplus, evP_pmulT, evP_ptimes, evP_pvar, joSt_ev, evM, Int.mul_one, Nat.add_zero, Nat.add_assoc, Nat.reduceAdd]
theorem ps_bnd {J : Nat → Int} {a b c d : Int} (hJ : ∀ u, u < 8 → -250 ≤ J u ∧ J u ≤ 250) (ha : -1000 ≤ a ∧ a ≤ 1000) (hb : -1000 ≤ b ∧ b ≤ 1000) (hc : -1000 ≤ c ∧ c ≤ 1000) (hd : -1000 ≤ d ∧ d ≤ 1000) (k : Nat) (hk : k < 4) : -1000000 ≤ psV J a b c d k ∧ psV J a b c d k ≤ 1000000 := by
  have m := fun u hu => mb (hJ u hu) ha
  have m' := fun u hu => mb (hJ u hu) hb
  have n := fun u hu => mb (hJ u hu) hc
  have n' := fun u hu => mb (hJ u hu) hd
  rcases k with _ | _ | _ | _ | k
  · have := m 0 (by omega); have := m' 1 (by omega); have := n 2 (by omega); have := n' 3 (by omega)
    simp only [psV]; omega
  · have := m' 0 (by omega); have := m 1 (by omega); have := n' 2 (by omega); have := n 3 (by omega)
    simp only [psV]; omega
  · have := m 4 (by omega); have := m' 5 (by omega); have := n 6 (by omega); have := n' 7 (by omega)
    simp only [psV]; omega
  · have := m' 4 (by omega); have := m 5 (by omega); have := n' 6 (by omega); have := n 7 (by omega)
    simp only [psV]; omega
  · omega
theorem jAll_nth (i : Nat) (h : i ≠ 0) : ∀ k, k < 16 → joNth (jAll i) k = jJoin (jb i + 10) (jb (i - 1) + 40) k := by
  intro k hk
  unfold jAll
  rw [if_neg h]
  rcases k with _ | _ | _ | _ | _ | _ | _ | _ | _ | _ | _ | _ | _ | _ | _ | _ | k <;> first | omega | rfl
theorem jJoin_ev (f : Nat → Int) (m a r c : Nat) (hc : c < 4) : evP f (jJoin m a (4 * r + c)) = (f (m + 4 * r) * f (a + c) + f (m + 4 * r + 1) * f (a + 4 + c)) + (f (m + 4 * r + 2) * f (a + 8 + c) + f (m + 4 * r + 3) * f (a + 12 + c)) := by
  have e1 : (4 * r + c) / 4 * 4 = 4 * r := by omega
  have e2 : (4 * r + c) % 4 = c := by omega
  simp only [jJoin, e1, e2, evP_pplus, evP_ptimes, evP_pvar]
theorem sum_swap (m0 m1 m2 m3 a0 a1 a2 a3 b0 b1 b2 b3 c0 c1 c2 c3 d0 d1 d2 d3 s0 s1 s2 s3 X t0 t1 t2 t3 y : Int)
    (h0 : (a0 * s0 + a1 * s1) + (a2 * s2 + a3 * s3) = X * t0) (h1 : (b0 * s0 + b1 * s1) + (b2 * s2 + b3 * s3) = X * t1) (h2 : (c0 * s0 + c1 * s1) + (c2 * s2 + c3 * s3) = X * t2) (h3 : (d0 * s0 + d1 * s1) + (d2 * s2 + d3 * s3) = X * t3)
    (hy : (m0 * t0 + m1 * t1) + (m2 * t2 + m3 * t3) = 2 * y) :
    ((((m0 * a0 + m1 * b0) + (m2 * c0 + m3 * d0)) * s0 + ((m0 * a1 + m1 * b1) + (m2 * c1 + m3 * d1)) * s1) + (((m0 * a2 + m1 * b2) + (m2 * c2 + m3 * d2)) * s2 + ((m0 * a3 + m1 * b3) + (m2 * c3 + m3 * d3)) * s3)) = X * 2 * y := by
  have e : ((((m0 * a0 + m1 * b0) + (m2 * c0 + m3 * d0)) * s0 + ((m0 * a1 + m1 * b1) + (m2 * c1 + m3 * d1)) * s1) + (((m0 * a2 + m1 * b2) + (m2 * c2 + m3 * d2)) * s2 + ((m0 * a3 + m1 * b3) + (m2 * c3 + m3 * d3)) * s3)) =
      (m0 * ((a0 * s0 + a1 * s1) + (a2 * s2 + a3 * s3)) + m1 * ((b0 * s0 + b1 * s1) + (b2 * s2 + b3 * s3))) + (m2 * ((c0 * s0 + c1 * s1) + (c2 * s2 + c3 * s3)) + m3 * ((d0 * s0 + d1 * s1) + (d2 * s2 + d3 * s3))) := by
    simp only [Int.add_mul, Int.mul_add, Int.mul_assoc]; omega
  rw [e, h0, h1, h2, h3]
  have e2 : (m0 * (X * t0) + m1 * (X * t1)) + (m2 * (X * t2) + m3 * (X * t3)) = X * ((m0 * t0 + m1 * t1) + (m2 * t2 + m3 * t3)) := by
    simp only [Int.mul_add, Int.mul_left_comm]
  rw [e2, hy, Int.mul_assoc]
theorem postA_ok {η : Env} (hg : GoodF η) {n i : Nat} (hn : n ≤ 3) (hi : i < n) (hE : EF η n i) (h : PC.holds η (preS i ++ preZ n i)) : PC.holds η (bndJ 1000000000 (jb i + 40) 16 ++ postZ n i) := by
  have hS := holds_l h
  have hZ := holds_r h
  have hJ : PC.holds η (bndJ 250 (jb i) 8) := holds_l hZ
  have hJb := bndJ_has 8 (jb i) hJ
  have hWb := bndJ_has 4 (jWave n i) (holds_l (holds_r hZ))
  have hR := holds_r (holds_r hZ)
  have hm := fun k hk => mul_val hg (by omega) hE hJ (k := k) hk
  -- the numbers of the product
  have hA : ∀ k, k < 16 → -1000000000 ≤ η.i (jb i + 40 + k) ∧ η.i (jb i + 40 + k) ≤ 1000000000 := by
    intro k hk
    rw [hE.A k hk]
    by_cases h0 : i = 0
    · subst h0
      have e : evP η.i (joNth (jAll 0) k) = η.i (jb 0 + 10 + k) := vars_nth η.i 16 (jb 0 + 10) k hk
      rw [e, hg.inr]
      have := (hm k hk).2
      omega
    · simp only [preS, if_neg h0] at hS
      have hs := hS _ (List.mem_cons_self ..)
      simp only [Atom.den] at hs
      exact small_get hs (by rw [jAll_len]; exact hk)
  refine holds_app (bndJ_ok 16 (jb i + 40) hA) ?_
  -- the wave behind
  have hw0 := hWb 0 (by omega)
  have hw1 := hWb 1 (by omega)
  have hw2 := hWb 2 (by omega)
  have hw3 := hWb 3 (by omega)
  rw [Nat.add_zero] at hw0
  have hps := ps_bnd (J := shiftJ η i) (fun u hu => hJb u hu) hw0 hw1 hw2 hw3
  have hW : ∀ k, k < 4 → η.i (jb i + 30 + k) = psV (shiftJ η i) (η.i (jWave n i)) (η.i (jWave n i + 1)) (η.i (jWave n i + 2)) (η.i (jWave n i + 3)) k := fun k hk => by
    rw [hE.W k hk, jPass_ev _ _ _ k hk]
    have := hps k hk
    show wr (psV (shiftJ η i) _ _ _ _ k) = _
    exact wr_in ⟨by omega, by omega⟩
  have hst := fun r hr => stokes_pass (shiftJ η i) (η.i (jWave n i)) (η.i (jWave n i + 1)) (η.i (jWave n i + 2)) (η.i (jWave n i + 3)) (r := r) hr
  have key : ∀ r, r < 4 → evP η.i (joZ n i r) = 0 := by
    intro r hr
    have w0 := hW 0 (by omega)
    have w1 := hW 1 (by omega)
    have w2 := hW 2 (by omega)
    have w3 := hW 3 (by omega)
    simp only [Nat.add_zero, Nat.add_assoc, Nat.reduceAdd] at w0 w1 w2 w3
    have hs := hst r hr
    have q0 := (hm (4 * r) (by omega)).1
    have q1 := (hm (4 * r + 1) (by omega)).1
    have q2 := (hm (4 * r + 2) (by omega)).1
    have q3 := (hm (4 * r + 3) (by omega)).1
    rw [← q0, ← q1, ← q2, ← q3, ← w0, ← w1, ← w2, ← w3] at hs
    rw [joZ_ev]
    by_cases h0 : i = 0
    · subst h0
      have ha : ∀ k, k < 16 → η.i (jb 0 + 40 + k) = η.i (jb 0 + 10 + k) := fun k hk => by
        rw [hE.A k hk]
        have e : evP η.i (joNth (jAll 0) k) = η.i (jb 0 + 10 + k) := vars_nth η.i 16 (jb 0 + 10) k hk
        rw [e, hg.inr]
      have b0 := ha (4 * r) (by omega)
      have b1 := ha (4 * r + 1) (by omega)
      have b2 := ha (4 * r + 2) (by omega)
      have b3 := ha (4 * r + 3) (by omega)
      simp only [Nat.add_assoc] at b0 b1 b2 b3 hs ⊢
      rw [b0, b1, b2, b3]
      simp only [jWave, if_true] at hs
      rw [hs]
      simp
    · simp only [if_neg h0] at hR
      have hAb := bndJ_has 16 (jb (i - 1) + 40) (holds_l hR)
      have hP : ∀ j, j < 4 → evP η.i (joZ n (i - 1) j) = 0 := fun j hj => by
        have c := chkZ_all (n := n) (i := i - 1) hn (by omega)
        simp only [chkZ, List.all_eq_true] at c
        have hz := holds_r hR
        unfold postZ at hz
        rcases j with _ | _ | _ | _ | j
        · exact zF_get (c 0 (by simp)) (holds_l hz)
        · exact zF_get (c 1 (by simp)) (holds_l (holds_r hz))
        · exact zF_get (c 2 (by simp)) (holds_l (holds_r (holds_r hz)))
        · exact zF_get (c 3 (by simp)) (holds_r (holds_r (holds_r hz)))
        · omega
      have hja : ∀ c, c < 4 → η.i (jb i + 40 + (4 * r + c)) = (η.i (jb i + 10 + 4 * r) * η.i (jb (i - 1) + 40 + c) + η.i (jb i + 10 + 4 * r + 1) * η.i (jb (i - 1) + 40 + 4 + c)) + (η.i (jb i + 10 + 4 * r + 2) * η.i (jb (i - 1) + 40 + 8 + c) + η.i (jb i + 10 + 4 * r + 3) * η.i (jb (i - 1) + 40 + 12 + c)) := fun c hc => by
        rw [hE.A _ (by omega), jAll_nth i h0 _ (by omega), jJoin_ev _ _ _ _ _ hc]
        have x0 := mb (hm (4 * r) (by omega)).2 (hAb c (by omega))
        have x1 := mb (hm (4 * r + 1) (by omega)).2 (hAb (4 + c) (by omega))
        have x2 := mb (hm (4 * r + 2) (by omega)).2 (hAb (8 + c) (by omega))
        have x3 := mb (hm (4 * r + 3) (by omega)).2 (hAb (12 + c) (by omega))
        simp only [Nat.add_assoc] at x0 x1 x2 x3 ⊢
        exact wr_in (by omega)
      have p0 := hP 0 (by omega)
      have p1 := hP 1 (by omega)
      have p2 := hP 2 (by omega)
      have p3 := hP 3 (by omega)
      rw [joZ_ev] at p0 p1 p2 p3
      have c0 := hja 0 (by omega)
      have c1 := hja 1 (by omega)
      have c2 := hja 2 (by omega)
      have c3 := hja 3 (by omega)
      have ew : jWave n i = jb (i - 1) + 30 := by unfold jWave; rw [if_neg h0]
      rw [ew] at hs
      simp only [Nat.mul_zero, Nat.add_zero, Nat.mul_one, Nat.add_assoc, Nat.reduceAdd, Nat.reduceMul] at p0 p1 p2 p3 c0 c1 c2 c3 hs ⊢
      rw [c0, c1, c2, c3]
      have := sum_swap (η.i (jb i + (10 + 4 * r))) (η.i (jb i + (10 + (4 * r + 1)))) (η.i (jb i + (10 + (4 * r + 2)))) (η.i (jb i + (10 + (4 * r + 3)))) _ _ _ _ _ _ _ _ _ _ _ _ _ _ _ _ _ _ _ _ (2 ^ (i - 1 + 1)) _ _ _ _ _ (Int.sub_eq_zero.1 p0) (Int.sub_eq_zero.1 p1) (Int.sub_eq_zero.1 p2) (Int.sub_eq_zero.1 p3) hs
      rw [this, show (2 : Int) ^ (i + 1) = 2 ^ (i - 1 + 1) * 2 by rw [show i - 1 + 1 = i by omega, Int.pow_succ]]
      omega
  exact holds_app (zF_ok (key 0 (by omega))) (holds_app (zF_ok (key 1 (by omega))) (holds_app (zF_ok (key 2 (by omega))) (zF_ok (key 3 (by omega)))))
theorem jX_mem {n : Nat} : ∀ {m : Nat} {x : Nat × PC × PC}, x ∈ jX n m → ∃ i, i < m ∧ x ∈ jXi n i
  | 0, x, h => by cases h
  | m + 1, x, h => by
    rcases List.mem_append.1 h with h | h
    · obtain ⟨i, h1, h2⟩ := jX_mem h; exact ⟨i, by omega, h2⟩
    · exact ⟨m, by omega, h⟩
theorem jX_ok {η : Env} (hg : GoodF η) {n : Nat} (hn : n ≤ 3) (hD : DOk η (jD n n)) : XOk' η (jX n n) := by
  intro x hx hp
  obtain ⟨i, hi, hx⟩ := jX_mem hx
  have hE := ef_of hg hD hi
  simp only [jXi, List.mem_cons, List.not_mem_nil, or_false] at hx
  rcases hx with rfl | rfl | rfl | rfl | rfl | rfl
  · exact postJ0_ok hE hp
  · exact postJ1_ok hE hp
  · exact postM0_ok hg (by omega) hE hp
  · exact postM1_ok hg (by omega) hE hp
  · exact postW_ok hE hp
  · exact postA_ok hg hn hi hE hp
end
end Go.Ex

/-
  The summaries of the law TopJonesIntoMueller are right.
-/
namespace Go.Ex
open Go Go.Proofs
noncomputable section
theorem jRun_ok {η : Env} (hg : GoodF η) {f : FuncId} {fi : FI} (hf : FI.Ok Try.prog f fi) : SumOk Try.prog η f (jRun fi) :=
  gRun_ok hg (mkC_ok hg (smE_ok hg)) hf (Z := ⟨[], [], fun _ _ => true⟩) (fun x hx => by cases hx) (fun x hx => by cases hx)
theorem smJ_ok {η : Env} (hg : GoodF η) {Z : Nm} (hD : DOk η Z.D) (hX : XOk' η Z.X) : SumsOk Try.prog η (smJ Z) :=
  ((((((((smE_ok hg).set (by decide) (f_polarReady hg)).set (by decide) (gName_ok hg (jRun_ok hg Try.fok69) hD hX)).set (by decide) (gName_ok hg (gPr_ok (jRun_ok hg Try.fok54)) hD hX)).set (by decide) (gPr_ok (jRun_ok hg Try.fok65))).set (by decide) (gName_ok hg (gPr_ok (gMerge_ok hg (jRun_ok hg Try.fok32))) hD hX)).set (by decide) (gName_ok hg (gPr_ok (f_Joined hg)) hD hX)).set (by decide) (gPr_ok (f_Through hg))).set (by decide) (gPr_ok (jRun_ok hg Try.fok30))
def Cj (n : Nat) : Cx := mkC (smJ (jZ n))
def sh4 : Shq := [(true, [.i, .i, .i, .i])]
def jGo (n : Nat) (pc : PC) : Tree (Sv × St) := callE (Cj n) (drawX (Cj n)) 3000 (FI.of Try.f12 true) (.one (.asl 0 (.lit (.ofNat n)) 9000) :: canA (6 * n) 0 sh4) (stM (canL 0 0 (List.replicate (6 * n) .i)) pc)
def jNil : Tree (Sv × St) := callE (Cj 0) (drawX (Cj 0)) 3000 (FI.of Try.f12 true) (.one (.slice none 0 (.known 0)) :: canA 0 0 sh4) (stP [])
def bigPc : PC := [(.pos [([4], 1), ([], -3)], true)]
def jBig : Tree (Sv × St) := callE (Cj 0) (drawX (Cj 0)) 3000 (FI.of Try.f12 true) (.one (.asl 0 (.poly (pvar 4)) 9000) :: canA 0 0 sh4) (stM [] bigPc)
end
end Go.Ex
