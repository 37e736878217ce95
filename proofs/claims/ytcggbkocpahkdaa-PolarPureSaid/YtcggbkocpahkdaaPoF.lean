/-
  Greatest common divisors in a law: variables of the law's own for them, and for the quotients by them.
-/
import Derived.Test.YtcggbkocpahkdaaPoE
import Derived.Test.YtcggbkocpahkdaaFlD
namespace Go.Ex
open Go Go.Proofs Go.RowKit
noncomputable section

/-- Polynomials whose greatest common divisor is a variable; the variables behind it: their quotients by it. -/
abbrev GTab := List (List Poly × Nat)
def gvals (η : Env) (ps : List Poly) : List Int := ps.map fun p => wr (evP η.i p)
structure GOk (η : Env) (G : GTab) : Prop where
  g : ∀ x ∈ G, η.i x.2 = wr (gcdL (gvals η x.1) : Int)
  q : ∀ x ∈ G, ∀ i p, nth x.1 i = some p → η.i (x.2 + 1 + i) = wr ((wr (evP η.i p)).tdiv (gcdL (gvals η x.1)))
theorem neg_tdiv_nat (a d : Nat) : (-(a : Int)).tdiv d ≤ 0 := by
  rw [Int.neg_tdiv]
  have := Int.tdiv_nonneg (a := (a : Int)) (b := (d : Int)) (by omega) (by omega)
  omega
theorem wr_tdiv (x : Int) (d : Nat) : wr ((wr x).tdiv d) = (wr x).tdiv d := by
  have h := wr_range x
  have e : ((wr x).tdiv d).natAbs ≤ (wr x).natAbs := by rw [Int.natAbs_tdiv]; exact Nat.div_le_self _ _
  rcases Nat.lt_or_ge ((wr x).tdiv d).natAbs 9223372036854775808 with hc | hc
  · exact wr_in (by omega)
  · have e1 : (wr x).natAbs = 9223372036854775808 := by omega
    have e2 : wr x = -9223372036854775808 := by omega
    have : (wr x).tdiv d ≤ 0 := by rw [e2]; exact neg_tdiv_nat 9223372036854775808 d
    exact wr_in (by omega)
def gfind : GTab → List Poly → Option Nat
  | [], _ => none
  | (qs, v) :: G, ps => bif polysEq qs ps then some v else gfind G ps
theorem gfind_mem : ∀ {G : GTab} {ps : List Poly} {v : Nat}, gfind G ps = some v → (ps, v) ∈ G
  | [], _, _, h => by cases h
  | (qs, u) :: G, ps, v, h => by
    simp only [gfind] at h
    cases hb : polysEq qs ps with
    | true => rw [hb] at h; cases h; rw [polysEq_iff hb]; exact List.mem_cons_self ..
    | false => rw [hb] at h; exact List.mem_cons_of_mem _ (gfind_mem h)

/-- What is known of the quotients: 'i' counts them; 'po': is the divisor known to be above 0. -/
def known0 (pc : PC) (p : Poly) : Bool := DB.fits pc p && leI 0 (rng pc p).1
def known1 (pc : PC) (p : Poly) : Bool := DB.fits pc p && ltI 0 (rng pc p).1
def anyPos (pc : PC) : List Poly → Bool
  | [] => false
  | p :: l => known1 pc p || anyPos pc l
def allRng (pc : PC) : List Poly → Bool
  | [] => true
  | p :: l => sIn pc 9223372036854775807 p && allRng pc l
def leB (pc : PC) (p q : Poly) : Bool := DB.fits pc p && (DB.fits pc q && (match decB pc (.pos (pminus p q)) with
  | some b => !b
  | none => nilP (pminus p q)))
def factsQ (pc : PC) (v : Nat) : Nat → List Poly → PC → PC
  | _, [], acc => acc
  | i, p :: l, acc => bif known1 pc p then (.pos (pvar (v + 1 + i)), true) :: factsQ pc v (i + 1) l acc else bif known0 pc p then (.pos (pneg (pvar (v + 1 + i))), false) :: factsQ pc v (i + 1) l acc else factsQ pc v (i + 1) l acc
def factsLe (pc : PC) (v : Nat) (ps : List Poly) (acc : PC) : PC :=
  match ps with
  | [p, q] => bif known0 pc p && leB pc p q then (.pos (pminus (pvar (v + 1)) (pvar (v + 2))), false) :: acc else acc
  | _ => acc
def gFacts (pc : PC) (ps : List Poly) (v : Nat) : PC := bif anyPos pc ps then (.pos (pvar v), true) :: factsQ pc v 0 ps (factsLe pc v ps pc) else pc

theorem gcdL_pos : ∀ {xs : List Int} {x : Int}, x ∈ xs → x ≠ 0 → 0 < gcdL xs := by
  intro xs x hx h0
  have key : ∀ (l : List Int) (g : Nat), 0 < g → 0 < l.foldl (fun g x => Nat.gcd g x.natAbs) g := by
    intro l
    induction l with
    | nil => intro g h; exact h
    | cons y l ih => intro g h; exact ih _ (Nat.gcd_pos_of_pos_left _ h)
  have key2 : ∀ (l : List Int) (g : Nat), x ∈ l → 0 < l.foldl (fun g x => Nat.gcd g x.natAbs) g := by
    intro l
    induction l with
    | nil => intro g h; cases h
    | cons y l ih =>
      intro g h
      rcases List.mem_cons.1 h with rfl | h
      · exact key l _ (Nat.gcd_pos_of_pos_right _ (Int.natAbs_pos.2 h0))
      · exact ih _ h
  exact key2 xs 0 hx
theorem gcdL_dvd : ∀ {xs : List Int} {x : Int}, x ∈ xs → gcdL xs ∣ x.natAbs := by
  intro xs x hx
  have key : ∀ (l : List Int) (g : Nat), l.foldl (fun g x => Nat.gcd g x.natAbs) g ∣ g ∧ ∀ y ∈ l, l.foldl (fun g x => Nat.gcd g x.natAbs) g ∣ y.natAbs := by
    intro l
    induction l with
    | nil => intro g; exact ⟨Nat.dvd_refl _, fun y hy => by cases hy⟩
    | cons z l ih =>
      intro g
      obtain ⟨a, b⟩ := ih (Nat.gcd g z.natAbs)
      refine ⟨Nat.dvd_trans a (Nat.gcd_dvd_left _ _), fun y hy => ?_⟩
      rcases List.mem_cons.1 hy with rfl | hy
      · exact Nat.dvd_trans a (Nat.gcd_dvd_right _ _)
      · exact b y hy
  exact (key xs 0).2 x hx

theorem known0_ok {η : Env} (hg : GoodF η) {pc : PC} (hpc : pc.holds η) {p : Poly} (h : known0 pc p = true) : wr (evP η.i p) = evP η.i p ∧ 0 ≤ evP η.i p := by
  simp only [known0, Bool.and_eq_true, leI_iff] at h
  obtain ⟨a, _⟩ := rng_has hg.toGood hpc p
  exact ⟨(DB_ok hg.toGood).fits pc p h.1 hpc, by omega⟩
theorem known1_ok {η : Env} (hg : GoodF η) {pc : PC} (hpc : pc.holds η) {p : Poly} (h : known1 pc p = true) : wr (evP η.i p) = evP η.i p ∧ 0 < evP η.i p := by
  simp only [known1, Bool.and_eq_true, ltI_iff] at h
  obtain ⟨a, _⟩ := rng_has hg.toGood hpc p
  exact ⟨(DB_ok hg.toGood).fits pc p h.1 hpc, by omega⟩
theorem leB_ok {η : Env} (hg : GoodF η) {pc : PC} (hpc : pc.holds η) {p q : Poly} (h : leB pc p q = true) : evP η.i p ≤ evP η.i q := by
  simp only [leB, Bool.and_eq_true] at h
  have h3 := h.2.2
  split at h3
  · rename_i b hb
    have := (DB_ok hg.toGood).dec pc _ b hb hpc
    simp only [Bool.not_eq_true'] at h3
    subst h3
    simp only [Atom.den, evP_pminus] at this
    have := of_decide_eq_false this
    omega
  · have e := evP_pminus η.i p q
    cases hq : pminus p q with
    | nil => rw [hq] at e; simp only [evP] at e; omega
    | cons x l => rw [hq] at h3; cases h3
theorem anyPos_ok {η : Env} (hg : GoodF η) {pc : PC} (hpc : pc.holds η) : ∀ {ps : List Poly}, anyPos pc ps = true → ∃ p ∈ ps, 0 < wr (evP η.i p)
  | [], h => by cases h
  | p :: l, h => by
    simp only [anyPos, Bool.or_eq_true] at h
    rcases h with h | h
    · obtain ⟨a, b⟩ := known1_ok hg hpc h
      exact ⟨p, List.mem_cons_self .., by omega⟩
    · obtain ⟨q, h1, h2⟩ := anyPos_ok hg hpc h
      exact ⟨q, List.mem_cons_of_mem _ h1, h2⟩
theorem holds_cons {η : Env} {a : Atom} {b : Bool} {pc : PC} (h : a.den η = b) (hp : pc.holds η) : PC.holds η ((a, b) :: pc) := by
  intro y hy
  cases hy with
  | head => exact h
  | tail _ hy => exact hp y hy
theorem factsQ_ok {η : Env} (hg : GoodF η) {pc : PC} (hpc : pc.holds η) {v d : Nat} (hd : 0 < d) {all : List Poly} (hdv : ∀ p ∈ all, d ∣ (wr (evP η.i p)).natAbs) (hq : ∀ i p, nth all i = some p → η.i (v + 1 + i) = (wr (evP η.i p)).tdiv d) {acc : PC} (ha : acc.holds η) :
    ∀ (l : List Poly) (i : Nat), (∀ j p, nth l j = some p → nth all (i + j) = some p) → (factsQ pc v i l acc).holds η
  | [], _, _ => ha
  | p :: l, i, hl => by
    have ih := factsQ_ok hg hpc hd hdv hq ha l (i + 1) (fun j q hj => by have := hl (j + 1) q (by rw [nth_eq] at hj ⊢; simpa using hj); rwa [show i + (j + 1) = i + 1 + j by omega] at this)
    have h0 := hl 0 p rfl
    have e := hq i p (by simpa using h0)
    have hm : p ∈ all := by rw [nth_eq] at h0; exact List.mem_of_getElem? h0
    unfold factsQ
    cases h1 : known1 pc p with
    | true =>
      obtain ⟨a, b⟩ := known1_ok hg hpc h1
      refine holds_cons ?_ ih
      simp only [Atom.den, evP_pvar]
      refine decide_eq_true ?_
      rw [e, a]
      have hdv' := hdv p hm
      rw [a] at hdv'
      obtain ⟨k, hk⟩ := hdv'
      have hx : evP η.i p = (d : Int) * k := by
        have : ((evP η.i p).natAbs : Int) = evP η.i p := by omega
        rw [← this, hk]; simp
      rw [hx, Int.mul_tdiv_cancel_left _ (by omega)]
      have : 0 < (d : Int) * k := by rw [← hx]; exact b
      rcases Nat.eq_zero_or_pos k with hz | hz
      · rw [hz] at this; simp at this
      · omega
    | false =>
      simp only [cond_false]
      cases h2 : known0 pc p with
      | true =>
        obtain ⟨a, b⟩ := known0_ok hg hpc h2
        refine holds_cons ?_ ih
        simp only [Atom.den, evP_pneg, evP_pvar]
        refine decide_eq_false ?_
        rw [e, a]
        have := Int.tdiv_nonneg (b := (d : Int)) b (by omega)
        omega
      | false => exact ih
theorem factsLe_ok {η : Env} (hg : GoodF η) {pc : PC} (hpc : pc.holds η) {v d : Nat} {ps : List Poly} (hd : 0 < d) (hq : ∀ i p, nth ps i = some p → η.i (v + 1 + i) = (wr (evP η.i p)).tdiv d) {acc : PC} (ha : acc.holds η) : (factsLe pc v ps acc).holds η := by
  unfold factsLe
  split
  · rename_i p q
    cases hb : (known0 pc p && leB pc p q) with
    | false => exact ha
    | true =>
      simp only [Bool.and_eq_true] at hb
      obtain ⟨a, b⟩ := known0_ok hg hpc hb.1
      have hle := leB_ok hg hpc hb.2
      have e1 := hq 0 p rfl
      have e2 := hq 1 q rfl
      have hfq : wr (evP η.i q) = evP η.i q := by
        have := hb.2
        simp only [leB, Bool.and_eq_true] at this
        exact (DB_ok hg.toGood).fits pc q this.2.1 hpc
      refine holds_cons ?_ ha
      simp only [Atom.den, evP_pminus, evP_pvar]
      refine decide_eq_false ?_
      have e1 : η.i (v + 1) = (evP η.i p).tdiv d := by rw [← a]; exact e1
      have e2 : η.i (v + 2) = (evP η.i q).tdiv d := by rw [← hfq]; exact e2
      rw [e1, e2, Int.tdiv_eq_ediv_of_nonneg b, Int.tdiv_eq_ediv_of_nonneg (by omega)]
      have := Int.ediv_le_ediv (c := (d : Int)) (by omega) hle
      omega
  · exact ha
theorem gFacts_ok {η : Env} {G : GTab} (hg : GoodF η) (hG : GOk η G) {pc : PC} (hpc : pc.holds η) {ps : List Poly} {v : Nat} (hm : (ps, v) ∈ G) : (gFacts pc ps v).holds η := by
  unfold gFacts
  cases hp : anyPos pc ps with
  | false => exact hpc
  | true =>
    obtain ⟨p, h1, h2⟩ := anyPos_ok hg hpc hp
    have hin : ∀ p ∈ ps, wr (evP η.i p) ∈ gvals η ps := fun p hp => List.mem_map.2 ⟨p, hp, rfl⟩
    have hd : 0 < gcdL (gvals η ps) := gcdL_pos (hin p h1) (by omega)
    have hle : gcdL (gvals η ps) ≤ (wr (evP η.i p)).natAbs := Nat.le_of_dvd (by omega) (gcdL_dvd (hin p h1))
    have hr := wr_range (evP η.i p)
    have e := hG.g _ hm
    rw [wr_in (n := (gcdL (gvals η (ps, v).1) : Int)) (by simp only; omega)] at e
    refine holds_cons ?_ (factsQ_ok hg hpc (d := gcdL (gvals η ps)) hd (all := ps) (fun p hp => gcdL_dvd (hin p hp)) (fun i p hi => (hG.q _ hm i p hi).trans (wr_tdiv _ _)) (factsLe_ok hg hpc hd (fun i p hi => (hG.q _ hm i p hi).trans (wr_tdiv _ _)) hpc) ps 0 (fun j p hj => by rwa [Nat.zero_add]))
    simp only [Atom.den, evP_pvar]
    refine decide_eq_true ?_
    rw [e]
    simp only
    omega

end
end Go.Ex
