/-
  The law of unit numbers at any number of parts: its summaries, its run.
-/
/-
  Unit numbers, their sums, powers and roots: a quicker way to the same numbers.
-/
/-
  The law of unit numbers: its summaries are right; values by a list.
-/
/-
  The law of unit numbers at one number of parts and one part.
-/
import Derived.Test.YtoheddhbcpjmkaaLwUnG
import Derived.Test.YtoheddhbcpjmkaaLwBaZ

namespace Go.Ex
open Go Go.Proofs Go.RowKit
noncomputable section
def cst : Poly → Option Int
  | [] => some 0
  | [([], c)] => some c
  | _ => none
def balLit (s : Sv) : Option Tri := match balP s with
  | some [p, q, r] => match cst p, cst q, cst r with
    | some a, some b, some c => bif inT (a, b, c) then some (a, b, c) else none
    | _, _, _ => none
  | _ => none
def litB (t : Tri) : Sv := .tup [(true, [.cpx .f64 (.ofI (pconst t.1)) (.ofI (pconst t.2.1)), .int .i64 (.lit t.2.2)]), (false, [.int .i64 (.lit 0)])]
def gPlusL : List Sv → PC → Tree (Sv × PC) := fun svs pc => match svs with
  | [x, y] => match balLit x, balLit y with
    | some t, some u => match plusF t u with
      | some s => .leaf (litB s, pc)
      | none => .fail
    | _, _ => .fail
  | _ => .fail
def gContL : List Sv → PC → Tree (Sv × PC) := fun svs pc => match svs with
  | [x, .one (.cpx .f64 (.lit 0) (.lit 0))] => match balLit x with
    | some t => .leaf (.tup [(false, [.bool (.lit (nearT (0, 0, 0) t t.2.2))]), (false, [.int .i64 (.lit 0)])], pc)
    | none => .fail
  | _ => .fail
def gUnitL : List Sv → PC → Tree (Sv × PC) := fun svs pc => match svs with
  | [.one (.int .i64 (.lit i)), .one (.int .i64 (.lit n))] => bif leI 0 i && (ltI i n && leI n 80) then (match unitF i n with
    | some t => bif inT t then .leaf (litB t, pc) else .fail
    | none => .fail) else .fail
  | _ => .fail
def gAlt (f g : List Sv → PC → Tree (Sv × PC)) : List Sv → PC → Tree (Sv × PC) := fun svs pc => match f svs pc with
  | .leaf r => .leaf r
  | _ => g svs pc
def yesS : Sv := .tup [(false, [.bool (.lit true)]), (false, [.int .i64 (.lit 0)])]
def oneS : Sv := .agg [.cpx .f64 (.lit 4697254411347427328) (.lit 0), .int .i64 (.lit 0)]
def pS (j : Nat) : Sv := bif Nat.beq j 0 then oneS else ballS (3 * j + 1)
def t9 (j : Nat) : Nat → CTab
  | 0 => []
  | k + 1 => ([pS j, ballS 1], [], resS (3 * j + 4)) :: t9 (j + 1) k
def preU (n : Nat) : PC := [(.pos (pminus (pconst (n - 1)) (ptimes (pconst 2) (pvar 0))), true)]
def t14 (n : Nat) : CTab := [([iS (pvar 0), lS n], [], resS 1), ([iS (pvar 0), lS (2 * n)], preU n, resS (3 * n + 7))]
def t15 (n : Nat) : CTab := [([ballS (3 * n + 1), .one (.cpx .f64 (.lit 4697254411347427328) (.lit 0))], [], yesS)]
def t18 (n : Nat) : CTab := [([ballS (3 * n + 1)], [], .one (.int .i64 (.lit 0)))]
def t19 (n : Nat) : CTab := [([ballS 1], preU n, resS (3 * n + 4))]
def t20 (n : Nat) : CTab := [([ballS (3 * n + 4), ballS (3 * n + 7)], preU n, yesS)]
def smN (n : Nat) : T (List Sv → PC → Tree (Sv × PC)) := (((((((smA.set 5 (some (gLit [] (.one (.bool (.lit true)))))).set 14 (some (gAlt gUnitL (gTab (t14 n))))).set 7 (some gPlusL)).set 9 (some (gTab (t9 0 n)))).set 15 (some (gAlt gContL (gTab (t15 n))))).set 18 (some (gTab (t18 n)))).set 19 (some (gTab (t19 n)))).set 20 (some (gTab (t20 n)))
def nRun (n : Nat) : Tree (Sv × St) := callE (mkC (smN n)) (drawX (mkC (smN n))) 3000 (FI.of Try.f4 true) [lS n, iS (pvar 0)] (stP (upTo 0 0 (n - 1)))
def nAll : Nat → Nat → Bool
  | _, 0 => true
  | n, k + 1 => (nRun n).all lawTrue && nAll (n + 1) k
/-- Outside: too few or too many parts, or no part. -/
def oRun (pc : PC) : Tree (Sv × St) := callE (mkC (smA.set 5 (some (gLit [] (.one (.bool (.lit true))))))) (drawX (mkC (smA.set 5 (some (gLit [] (.one (.bool (.lit true)))))))) 3000 (FI.of Try.f4 true) [iS (pvar 1), iS (pvar 0)] (stP pc)
end
end Go.Ex


namespace Go.Ex
def nwt (n r : Int) : Int := (r + n / r) / 2
def isqC (n r : Int) : Int := bif leI 0 r && (leI (r * r) n && ltI n ((r + 1) * (r + 1))) then r else isq n
def adj (n r : Int) : Int := bif leI (r * r) n then r else r - 1
def isqN (n : Int) : Int := isqC n (adj n (nwt n (nwt n 1048576)))
theorem isqC_eq {n r : Int} (h0 : 0 ≤ n) (h : n < 18446744073709551616) : isqC n r = isq n := by
  unfold isqC
  cases hb : (leI 0 r && (leI (r * r) n && ltI n ((r + 1) * (r + 1)))) with
  | false => rfl
  | true =>
    simp only [Bool.and_eq_true, leI_iff, ltI_iff] at hb
    obtain ⟨a, b, c⟩ := isq_spec h0 h
    obtain ⟨d, e, f⟩ := hb
    rw [cond_true]
    have h1 : isq n < r + 1 := by
      rcases Int.lt_or_le (isq n) (r + 1) with hl | hl
      · exact hl
      · have := Int.mul_le_mul hl hl (by omega) a
        omega
    have h2 : r < isq n + 1 := by
      rcases Int.lt_or_le r (isq n + 1) with hl | hl
      · exact hl
      · have := Int.mul_le_mul hl hl (by omega) d
        omega
    omega
def isqV (n : Int) : Int := up n (isqN n)
where
  up (n r : Int) : Int := bif ltI (r * r) n then r + 1 else r
theorem isqV_eq {n : Int} (h0 : 0 ≤ n) (h : n < 18446744073709551616) : isqV n = isqU n := by
  unfold isqV isqV.up isqU isqN
  rw [isqC_eq h0 h]
  cases hb : ltI (isq n * isq n) n with
  | true => rw [if_pos (ltI_iff.1 hb)]; rfl
  | false => rw [if_neg (by have := ltI_ff.1 hb; omega)]; rfl
def timLN (v a b c d e f : Int) : Int := ceilI (isqV (nrm a b) * f + v * c + c * f) oneB + oneI ((a * d - b * e) % oneB) ((a * e + b * d) % oneB)
def timFN (v : Int) (a b : Tri) : Option Tri := fitT (timR a.1 a.2.1 a.2.2 b.1 b.2.1 b.2.2, timI a.1 a.2.1 a.2.2 b.1 b.2.1 b.2.2, timLN v a.1 a.2.1 a.2.2 b.1 b.2.1 b.2.2)
theorem timFN_eq {a b : Tri} (ha : TIn a) (hb : TIn b) : timFN (isqV (nrm b.1 b.2.1)) a b = timF a b := by
  have h1 := nrm_64 ha
  have h2 := nrm_64 hb
  unfold timFN timF timLN timL
  rw [isqV_eq h1.1 h1.2, isqV_eq h2.1 h2.2]
def powFN (v : Int) (u : Tri) : Nat → Tri → Option Tri
  | 0, p => some p
  | t + 1, p => match timFN v p u with
    | some q => powFN v u t q
    | none => none
theorem powFN_eq {u : Tri} (hu : TIn u) : ∀ (n : Nat) {p : Tri} {r : Tri}, TIn p → powFN (isqV (nrm u.1 u.2.1)) u n p = some r → ∃ l, powF u n p = some l ∧ lastT p l = r
  | 0, p, r, hp, h => by cases h; exact ⟨[], rfl, rfl⟩
  | n + 1, p, r, hp, h => by
    simp only [powFN, timFN_eq hp hu] at h
    cases ht : timF p u with
    | none => rw [ht] at h; cases h
    | some q =>
      rw [ht] at h
      obtain ⟨e, hq⟩ := fitT_some ht
      rw [e] at hq
      obtain ⟨l, h1, h2⟩ := powFN_eq hu n hq h
      exact ⟨q :: l, by simp only [powF, ht, h1], h2⟩
def chkQ (n : Nat) (k : Int) : Bool := match unitF k n with
  | some u => bif inT u then (match powFN (isqV (nrm u.1 u.2.1)) u n oneT with
    | some p => nearT oneT p p.2.2
    | none => false) else false
  | none => false
def chkL (n : Nat) : Nat → Bool
  | 0 => true
  | k + 1 => chkL n k && (chkQ n k && (bif Nat.blt (2 * k + 1) n then chkR n k else true))
def chkM (n : Nat) : Bool := chkS n && chkL n n
def chkB (n : Nat) : Nat → Bool
  | 0 => true
  | k + 1 => chkM n && chkB (n + 1) k
end Go.Ex


namespace Go.Ex
open Go Go.Proofs Go.RowKit
theorem cst_ev {η : Env} : ∀ {p : Poly} {a : Int}, cst p = some a → evP η.i p = a
  | [], a, h => by cases h; rfl
  | [([], c)], a, h => by
    cases h
    have : evP η.i (pconst c) = c := evP_pconst ..
    simpa [evP] using (by simp [evP, evM] : evP η.i [([], c)] = c)
theorem balLit_ok {η : Env} {s : Sv} {t : Tri} (h : balLit s = some t) : TIn t ∧ ∀ E, s.den η E = some (balT t) := by
  unfold balLit at h
  split at h
  · rename_i p q r hb
    split at h
    · rename_i a b c ha hb' hc
      cases hi : inT (a, b, c) with
      | false => rw [hi] at h; cases h
      | true =>
        rw [hi] at h
        cases h
        have ht := inT_iff hi
        obtain ⟨t1, t2, t3⟩ := id ht
        refine ⟨ht, fun E => ?_⟩
        obtain ⟨p', q', r', e, hd⟩ := balP_den (η := η) (E := E) hb
        cases e
        rw [hd, cst_ev ha, cst_ev hb', cst_ev hc, wr_mid (x := a) (by simp only at t1; omega), wr_mid (x := b) (by simp only at t2; omega), wr_mid (x := c) (by simp only at t3; omega)]
        rfl
    · cases h
  · cases h
theorem litB_den {η : Env} {E : Emb} {t : Tri} (ht : TIn t) : (litB t).den η E = some (outT t) := by
  obtain ⟨t1, t2, t3⟩ := ht
  simp only [litB, Sv.den, denParts, denPart, denL, Sc.den, Fx.den, Ix.den, evP_pconst, wr_mid (x := t.1) (by omega), wr_mid (x := t.2.1) (by omega), Option.map_some, outT, outV, ballV]
theorem den_two {η : Env} {E : Emb} {x y : Sv} {a b : Value} {args : List Value} (hx : x.den η E = some a) (hy : y.den η E = some b) (h : denArgs η E [x, y] = some args) : args = [a, b] := by
  simp only [denArgs, hx, hy] at h
  cases h; rfl
theorem den_one {η : Env} {E : Emb} {x : Sv} {a : Value} {args : List Value} (hx : x.den η E = some a) (h : denArgs η E [x] = some args) : args = [a] := by
  simp only [denArgs, hx] at h
  cases h; rfl
theorem gPlusL_ok {η : Env} : SumOk Try.prog η 7 gPlusL := by
  intro svs pc r pc' h hpc
  unfold gPlusL at h
  split at h
  · rename_i x y
    split at h
    · rename_i t u ht hu
      split at h
      · rename_i s hs
        cases h
        obtain ⟨t1, t2⟩ := balLit_ok (η := η) ht
        obtain ⟨u1, u2⟩ := balLit_ok (η := η) hu
        refine ⟨hpc, fun E args w ha => ?_⟩
        rw [den_two (t2 E) (u2 E) ha]
        obtain ⟨rfl, hi⟩ := fitT_some hs
        exact ⟨_, litB_den hi, gives_of Try.fok7 (plus_at t1 u1 hs w)⟩
      · cases h
    · cases h
  · cases h
theorem near0 : FloatKind.f64.nearest 0 = 0 := by decide +kernel
theorem near1 : FloatKind.f64.nearest 1048576 = 4697254411347427328 := by decide +kernel
theorem gContL_ok {η : Env} : SumOk Try.prog η 15 gContL := by
  intro svs pc r pc' h hpc
  unfold gContL at h
  split at h
  · rename_i x
    split at h
    · rename_i t ht
      cases h
      obtain ⟨t1, t2⟩ := balLit_ok (η := η) ht
      refine ⟨hpc, fun E args w ha => ?_⟩
      rw [den_two (t2 E) (b := .complex .f64 0 0) rfl ha]
      have hc := cont_at (x := 0) (y := 0) t1 (by decide) (by decide) w
      rw [near0] at hc
      exact ⟨_, rfl, gives_of Try.fok15 hc⟩
    · cases h
  · cases h
theorem gUnitL_ok {η : Env} : SumOk Try.prog η 14 gUnitL := by
  intro svs pc r pc' h hpc
  unfold gUnitL at h
  split at h
  · rename_i i n
    cases hc : (leI 0 i && (ltI i n && leI n 80)) with
    | false => rw [hc] at h; cases h
    | true =>
      rw [hc, cond_true] at h
      simp only [Bool.and_eq_true, leI_iff, ltI_iff] at hc
      split at h
      · rename_i t ht
        cases hi : inT t with
        | false => rw [hi] at h; cases h
        | true =>
          rw [hi] at h
          cases h
          refine ⟨hpc, fun E args w ha => ?_⟩
          rw [den_two (a := .int .i64 i) (b := .int .i64 n) rfl rfl ha]
          exact ⟨_, litB_den (inT_iff hi), gives_of Try.fok14 (unit_any hc.1 hc.2.1 hc.2.2 ht w)⟩
      · cases h
  · cases h
theorem gAlt_ok {η : Env} {F : FuncId} {f g : List Sv → PC → Tree (Sv × PC)} (hf : SumOk Try.prog η F f) (hg : SumOk Try.prog η F g) : SumOk Try.prog η F (gAlt f g) := by
  intro svs pc r pc' h hpc
  unfold gAlt at h
  split at h
  · rename_i x hx
    exact hf svs pc r pc' (by rw [hx]; exact h) hpc
  · exact hg svs pc r pc' h hpc

/-! ## Values -/
def flat3 : List Tri → List Int
  | [] => []
  | t :: l => t.1 :: t.2.1 :: t.2.2 :: flat3 l
theorem flat3_get : ∀ {L : List Tri} {j : Nat} {t : Tri}, L[j]? = some t → (flat3 L)[3 * j]? = some t.1 ∧ (flat3 L)[3 * j + 1]? = some t.2.1 ∧ (flat3 L)[3 * j + 2]? = some t.2.2
  | [], j, t, h => by simp at h
  | a :: l, 0, t, h => by
    simp only [List.getElem?_cons_zero, Option.some.injEq] at h
    subst h
    simp [flat3]
  | a :: l, j + 1, t, h => by
    rw [List.getElem?_cons_succ] at h
    have := flat3_get h
    rw [show 3 * (j + 1) = 3 * j + 3 by omega]
    simpa [flat3] using this
theorem tri_v {k : Int} {L : List Tri} {j : Nat} {t : Tri} (h : L[j]? = some t) (hj : j < 3000) (ht : TIn t) : (vEnv (k :: flat3 L)).i (3 * j + 1) = t.1 ∧ (vEnv (k :: flat3 L)).i (3 * j + 2) = t.2.1 ∧ (vEnv (k :: flat3 L)).i (3 * j + 3) = t.2.2 := by
  obtain ⟨h1, h2, h3⟩ := flat3_get h
  obtain ⟨t1, t2, t3⟩ := ht
  exact ⟨vEnv_i (by rw [List.getElem?_cons_succ]; exact h1) (by omega) (by omega), vEnv_i (by rw [List.getElem?_cons_succ]; exact h2) (by omega) (by omega), vEnv_i (by rw [List.getElem?_cons_succ]; exact h3) (by omega) (by omega)⟩
theorem pow_step {u : Tri} (hu : TIn u) : ∀ {n : Nat} {p : Tri} {l : List Tri}, TIn p → powF u n p = some l → l.length = n ∧ (∀ i a, i < n → (p :: l)[i]? = some a → TIn a ∧ ∃ b, l[i]? = some b ∧ timF a u = some b) ∧ (p :: l)[n]? = some (lastT p l)
  | 0, p, l, hp, h => by
    cases h
    exact ⟨rfl, fun i a hi => absurd hi (by omega), rfl⟩
  | n + 1, p, l, hp, h => by
    simp only [powF] at h
    split at h
    · rename_i q hq
      split at h
      · rename_i l' hl
        cases h
        obtain ⟨e, hq'⟩ := fitT_some hq
        rw [e] at hq'
        obtain ⟨a1, a2, a3⟩ := pow_step hu hq' hl
        refine ⟨by simp [a1], fun i a hi ha => ?_, by rw [List.getElem?_cons_succ]; exact a3⟩
        cases i with
        | zero =>
          simp only [List.getElem?_cons_zero, Option.some.injEq] at ha
          subst ha
          exact ⟨hp, q, rfl, hq⟩
        | succ i =>
          rw [List.getElem?_cons_succ] at ha
          rw [List.getElem?_cons_succ]
          exact a2 i a (by omega) ha
      · cases h
    · cases h
theorem up_at {f : Nat → Bool} {A : Nat → Bool} (hA : ∀ k, A (k + 1) = (A k && f k)) : ∀ {m k : Nat}, A m = true → k < m → f k = true
  | 0, k, _, hk => by omega
  | m + 1, k, h, hk => by
    rw [hA, Bool.and_eq_true] at h
    rcases Nat.lt_or_ge k m with hl | hl
    · exact up_at hA h.1 hl
    · have : k = m := by omega
      rw [this]; exact h.2
theorem down_at {f : Nat → Bool} {A : Nat → Nat → Bool} (hA : ∀ n k, A n (k + 1) = (f n && A (n + 1) k)) : ∀ {m n j : Nat}, A n m = true → n ≤ j → j < n + m → f j = true
  | 0, n, j, _, h1, h2 => by omega
  | m + 1, n, j, h, h1, h2 => by
    rw [hA, Bool.and_eq_true] at h
    rcases Nat.lt_or_ge n j with hl | hl
    · exact down_at hA h.2 hl (by omega)
    · have : j = n := by omega
      rw [this]; exact h.1
def chkE (n k : Nat) : Bool := chkQ n k && (bif Nat.blt (2 * k + 1) n then chkR n k else true)
theorem chkL_succ (n k : Nat) : chkL n (k + 1) = (chkL n k && chkE n k) := by rw [chkL, chkE]
theorem chkB_succ (n k : Nat) : chkB n (k + 1) = (chkM n && chkB (n + 1) k) := by rw [chkB]
theorem nAll_succ (n k : Nat) : nAll n (k + 1) = ((nRun n).all lawTrue && nAll (n + 1) k) := by rw [nAll]
theorem chkE_at {n k : Nat} (h : chkE n k = true) : chkQ n k = true ∧ (2 * k + 1 < n → chkR n k = true) := by
  unfold chkE at h
  rw [Bool.and_eq_true] at h
  refine ⟨h.1, fun hh => ?_⟩
  have h2 := h.2
  have hb : Nat.blt (2 * k + 1) n = true := Nat.ble_eq_true_of_le hh
  rw [hb, cond_true] at h2
  exact h2
theorem chk_at {m n j k : Nat} (h : chkB n m = true) (h1 : n ≤ j) (h2 : j < n + m) (hk : k < j) : chkQ j k = true ∧ (2 * k + 1 < j → chkR j k = true) := by
  have := down_at (f := chkM) chkB_succ h h1 h2
  rw [chkM, Bool.and_eq_true] at this
  exact chkE_at (up_at (f := chkE j) (chkL_succ j) this.2 hk)
theorem run_at {m n j : Nat} (h : nAll n m = true) (h1 : n ≤ j) (h2 : j < n + m) : (nRun j).all lawTrue = true := down_at (f := fun n => (nRun n).all lawTrue) nAll_succ h h1 h2

/-! ## The law at one number of parts -/
theorem oneT_in : TIn oneT := ⟨by decide, by decide, by decide, by decide⟩
theorem oneS_den {η : Env} {E : Emb} : oneS.den η E = some (balT oneT) := by
  have : balT oneT = ballV 1048576 0 0 := rfl
  rw [this]
  simp only [oneS, Sv.den, denL, Sc.den, Fx.den, Ix.den, Option.map_some, ballV, near1, near0]
theorem t9_ok {η : Env} {u : Tri} (hu : TIn u) (hb : ∀ E, (ballS 1).den η E = some (balT u)) : ∀ {m j : Nat}, (∀ i, j ≤ i → i < j + m → ∃ a b, TIn a ∧ TIn b ∧ timF a u = some b ∧ (∀ E, (pS i).den η E = some (balT a)) ∧ (∀ E, (resS (3 * i + 4)).den η E = some (outT b))) → TabOk η 9 (t9 j m)
  | 0, j, _ => TabOk.nil
  | m + 1, j, h => TabOk.cons (fun _ E args w ha => by
      obtain ⟨a, b, h1, h2, h3, h4, h5⟩ := h j (Nat.le_refl _) (by omega)
      rw [den_two (h4 E) (hb E) ha]
      exact ⟨_, h5 E, gives_of Try.fok9 (times_at h1 hu h3 w)⟩) (t9_ok hu hb fun i hi hi' => h i (by omega) (by omega))
theorem unitF_in {i n : Int} {u : Tri} (hi : 0 ≤ i) (hn : i < n) (hn' : n ≤ 80) (h : unitF i n = some u) : TIn u := by
  obtain ⟨⟨b1, b2⟩, ⟨b3, b4, b5⟩, ⟨b6, b7, b8⟩, b9⟩ := unit_bnd hi hn hn'
  unfold unitF at h
  cases hd : dirF (uMid i n) with
  | none => rw [hd] at h; cases h
  | some p =>
  obtain ⟨x, y⟩ := p
  rw [hd] at h
  have hu : u = (rndI x 64, rndI y 64, uRad' i n) := by cases h; rfl
  have hxy : (-67108864 ≤ x ∧ x ≤ 67108864) ∧ (-67108864 ≤ y ∧ y ≤ 67108864) := by
    unfold dirF at hd
    have fin : ∀ {a b q : Int}, firF q = some (a, b) → (-67108864 ≤ a ∧ a ≤ 67108864) ∧ (-67108864 ≤ b ∧ b ≤ 67108864) := fun h => by
      have := firF_in h
      unfold I26 at this
      omega
    have go : ∀ {f : Int → Int → Int × Int} {q : Int}, (∀ a b, (-67108864 ≤ a ∧ a ≤ 67108864) ∧ (-67108864 ≤ b ∧ b ≤ 67108864) → (-67108864 ≤ (f a b).1 ∧ (f a b).1 ≤ 67108864) ∧ (-67108864 ≤ (f a b).2 ∧ (f a b).2 ≤ 67108864)) → mapP f (firF q) = some (x, y) → (-67108864 ≤ x ∧ x ≤ 67108864) ∧ (-67108864 ≤ y ∧ y ≤ 67108864) := by
      intro f q hf h
      obtain ⟨a, b, e1, e2⟩ := mapP_some h
      have := hf a b (fin e1)
      rw [e2] at this
      exact this
    have bc : ∀ {c : Bool} {A B : Option (Int × Int)}, (bif c then A else B) = some (x, y) → A = some (x, y) ∨ B = some (x, y) := by
      intro c A B h
      cases c
      · exact .inr h
      · exact .inl h
    rcases bc hd with h | hd
    · exact go (fun a b h => by simp only; omega) h
    rcases bc hd with h | hd
    · exact go (fun a b h => by simp only; omega) h
    rcases bc hd with h | hd
    · exact go (fun a b h => by simp only; omega) h
    rcases bc hd with h | hd
    · exact go (fun a b h => by simp only; omega) h
    rcases bc hd with h | hd
    · exact go (fun a b h => by simp only; omega) h
    rcases bc hd with h | hd
    · exact go (fun a b h => by simp only; omega) h
    rcases bc hd with h | hd
    · exact go (fun a b h => by simp only; omega) h
    · exact go (fun a b h => by simp only; omega) hd
  have r1 : -2097152 ≤ rndI x 64 ∧ rndI x 64 ≤ 2097152 := by unfold rndI; omega
  have r2 : -2097152 ≤ rndI y 64 ∧ rndI y 64 ≤ 2097152 := by unfold rndI; omega
  have r3 : 0 ≤ ceilI (11 * (uHi i n - uMid i n)) 7 ∧ ceilI (11 * (uHi i n - uMid i n)) 7 ≤ 2 := by unfold ceilI; omega
  have r4 : 0 ≤ uRad' i n ∧ uRad' i n ≤ 4 := by
    unfold uRad'
    cases eqI (uLo i n) (uHi i n) && eqI (uLo i n % 1048576) 0
    · rw [cond_false]; omega
    · rw [cond_true]; omega
  subst hu
  exact ⟨by simp only; omega, by simp only; omega, by simp only; omega, by simp only; omega⟩
end Go.Ex


namespace Go.Ex
open Go Go.Proofs Go.RowKit
theorem chkQ_some {n : Nat} {k : Int} (h : chkQ n k = true) : ∃ u l, unitF k n = some u ∧ TIn u ∧ powF u n oneT = some l ∧ nearT oneT (lastT oneT l) (lastT oneT l).2.2 = true := by
  unfold chkQ at h
  split at h
  · rename_i u hun
    cases hui : inT u with
    | false => rw [hui] at h; cases h
    | true =>
      rw [hui, cond_true] at h
      have hu := inT_iff hui
      split at h
      · rename_i p hp
        obtain ⟨l, hl, hlast⟩ := powFN_eq hu n oneT_in hp
        exact ⟨u, l, hun, hu, hl, by rw [hlast]; exact h⟩
      · cases h
  · cases h
theorem chkR_some {n : Nat} {k : Int} {u : Tri} (hun : unitF k n = some u) (h : chkR n k = true) : ∃ r h, rootF u = some r ∧ unitF k ((2 * n : Nat) : Int) = some h ∧ nearT r h (r.2.2 + h.2.2) = true := by
  unfold chkR at h
  rw [hun] at h
  split at h
  · rename_i u' h' e1 e2
    cases e1
    split at h
    · rename_i r hr
      exact ⟨r, h', hr, e2, h⟩
    · cases h
  · cases h
set_option maxHeartbeats 1000000 in
theorem law4_in {n k : Nat} (hrun : (nRun n).all lawTrue = true) (hn : 2 ≤ n ∧ n ≤ 40) (hk : k < n) (hQ : chkQ n k = true) (hR : 2 * k + 1 < n → chkR n k = true) (w : World) :
    Calls Try.prog 4 #[.int .i64 n, .int .i64 k] w fun e w' => e = .returned (.bool true) ∧ Below w.heap.size w w' := by
  obtain ⟨u, l, hun, hu, hl, hQ⟩ := chkQ_some hQ
  obtain ⟨pn, hpn⟩ : ∃ p, p = lastT oneT l := ⟨_, rfl⟩
  obtain ⟨len, hstep, hlst⟩ := pow_step hu oneT_in hl
  rw [← hpn] at hlst hQ
  have hrh : ∃ r h : Tri, TIn r ∧ TIn h ∧ (2 * k + 1 < n → rootF u = some r ∧ unitF k ((2 * n : Nat) : Int) = some h ∧ nearT r h (r.2.2 + h.2.2) = true) := by
    by_cases h : 2 * k + 1 < n
    · obtain ⟨r, h', e1, e2, e3⟩ := chkR_some hun (hR h)
      exact ⟨r, h', (rootF_some e1).2.2.2, unitF_in (by omega) (by omega) (by omega) e2, fun _ => ⟨e1, e2, e3⟩⟩
    · exact ⟨oneT, oneT, oneT_in, oneT_in, fun h' => absurd h' h⟩
  obtain ⟨r, h, hri, hhi, hrh⟩ := hrh
  -- the environment
  obtain ⟨L, hL⟩ : ∃ L, L = u :: (l ++ [r, h]) := ⟨_, rfl⟩
  have L0 : L[0]? = some u := by rw [hL]; rfl
  have Lp : ∀ i, i < n → L[i + 1]? = l[i]? := fun i hi => by rw [hL, List.getElem?_cons_succ, List.getElem?_append_left (by omega)]
  have Lr : L[n + 1]? = some r := by rw [hL, List.getElem?_cons_succ, List.getElem?_append_right (by omega), len, Nat.sub_self]; rfl
  have Lh : L[n + 2]? = some h := by rw [hL, List.getElem?_cons_succ, List.getElem?_append_right (by omega), len, show n + 1 - n = 1 by omega]; rfl
  clear hL
  have hg := vEnv_good ((k : Int) :: flat3 L)
  have v0 : (vEnv ((k : Int) :: flat3 L)).i 0 = k := vEnv_i rfl (by decide) (by omega)
  have tv : ∀ j t, L[j]? = some t → j < 3000 → TIn t → (vEnv ((k : Int) :: flat3 L)).i (3 * j + 1) = t.1 ∧ (vEnv ((k : Int) :: flat3 L)).i (3 * j + 2) = t.2.1 ∧ (vEnv ((k : Int) :: flat3 L)).i (3 * j + 3) = t.2.2 := fun j t a b c => tri_v a b c
  generalize vEnv ((k : Int) :: flat3 L) = η at *
  have hbl : ∀ j t, L[j]? = some t → j < 3000 → TIn t → (∀ E, (ballS (3 * j + 1)).den η E = some (balT t)) ∧ (∀ E, (resS (3 * j + 1)).den η E = some (outT t)) := fun j t a b c => by
    obtain ⟨x, y, z⟩ := tv j t a b c
    exact ⟨fun E => ballS_den x y z c, fun E => resS_den x y z c⟩
  obtain ⟨ub, ur⟩ := hbl 0 u L0 (by omega) hu
  obtain ⟨rb, rr⟩ := hbl (n + 1) r Lr (by omega) hri
  obtain ⟨hb, hr⟩ := hbl (n + 2) h Lh (by omega) hhi
  rw [show 3 * 0 + 1 = 1 from rfl] at ub ur
  rw [show 3 * (n + 1) + 1 = 3 * n + 4 by omega] at rb rr
  rw [show 3 * (n + 2) + 1 = 3 * n + 7 by omega] at hb hr
  have lastIn : TIn pn ∧ L[n]? = some pn := by
    obtain ⟨m, rfl⟩ : ∃ m, n = m + 1 := ⟨n - 1, by omega⟩
    rw [List.getElem?_cons_succ] at hlst
    refine ⟨?_, by rw [Lp m (by omega)]; exact hlst⟩
    have : ∃ a, (oneT :: l)[m]? = some a := ⟨(oneT :: l)[m]'(by simp; omega), List.getElem?_eq_getElem _⟩
    obtain ⟨a, ha⟩ := this
    obtain ⟨_, b, hb1, hb2⟩ := hstep m a (by omega) ha
    rw [hlst] at hb1
    cases hb1
    obtain ⟨e, hi⟩ := fitT_some hb2
    rw [e] at hi; exact hi
  obtain ⟨pni, Ln⟩ := lastIn
  obtain ⟨pb, _⟩ := hbl n pn Ln (by omega) pni
  have w0 : wr (evP η.i (pvar 0)) = k := by rw [evP_pvar, v0]; exact wr_mid (by omega)
  have hpre : PC.holds η (preU n) → 2 * k + 1 < n := fun hp => by
    have := hp (.pos (pminus (pconst (n - 1)) (ptimes (pconst 2) (pvar 0))), true) (List.mem_cons_self ..)
    simp only [Atom.den, evP_pminus, evP_ptimes, evP_pconst, evP_pvar, v0] at this
    have := of_decide_eq_true this
    omega
  have hT9 : TabOk η 9 (t9 0 n) := t9_ok hu ub fun i _ hi => by
    have : ∃ a, (oneT :: l)[i]? = some a := ⟨(oneT :: l)[i]'(by simp; omega), List.getElem?_eq_getElem _⟩
    obtain ⟨a, ha⟩ := this
    obtain ⟨ai, b, hb1, hb2⟩ := hstep i a (by omega) ha
    obtain ⟨e, hbi⟩ := fitT_some hb2
    rw [e] at hbi
    refine ⟨a, b, ai, hbi, hb2, ?_, ?_⟩
    · cases i with
      | zero =>
        simp only [List.getElem?_cons_zero, Option.some.injEq] at ha
        subst ha
        exact fun E => oneS_den
      | succ i =>
        rw [List.getElem?_cons_succ] at ha
        exact (hbl (i + 1) a (by rw [Lp i (by omega)]; exact ha) (by omega) ai).1
    · have := (hbl (i + 1) b (by rw [Lp i (by omega)]; exact hb1) (by omega) hbi).2
      rw [show 3 * (i + 1) + 1 = 3 * i + 4 by omega] at this
      exact this
  have hT14 : TabOk η 14 (t14 n) := TabOk.cons (fun _ E args w ha => by
      rw [gives_two ha w0]
      exact ⟨_, ur E, gives_of Try.fok14 (unit_any (by omega) (by omega) (by omega) hun w)⟩) (TabOk.cons (fun hp E args w ha => by
      rw [gives_two ha w0]
      exact ⟨_, hr E, gives_of Try.fok14 (unit_any (by omega) (by omega) (by omega) (hrh (hpre hp)).2.1 w)⟩) TabOk.nil)
  have hT15 : TabOk η 15 (t15 n) := TabOk.cons (fun _ E args w ha => by
      rw [den_two (pb E) (b := .complex .f64 4697254411347427328 0) rfl ha]
      have hc := cont_at (x := 1048576) (y := 0) pni (by decide) (by decide) w
      rw [near1, near0] at hc
      have hq : nearT (1048576, 0, 0) pn pn.2.2 = true := hQ
      rw [hq] at hc
      exact ⟨_, rfl, gives_of Try.fok15 hc⟩) TabOk.nil
  have hT18 : TabOk η 18 (t18 n) := TabOk.cons (fun _ E args w ha => by
      rw [den_one (pb E) ha]
      exact ⟨_, rfl, gives_of Try.fok18 (check_at pni w)⟩) TabOk.nil
  have hT19 : TabOk η 19 (t19 n) := TabOk.cons (fun hp E args w ha => by
      rw [den_one (ub E) ha]
      exact ⟨_, rr E, gives_of Try.fok19 (root_at hu (hrh (hpre hp)).1 w)⟩) TabOk.nil
  have hT20 : TabOk η 20 (t20 n) := TabOk.cons (fun hp E args w ha => by
      rw [den_two (rb E) (hb E) ha]
      have hc := meet_at hri hhi w
      rw [(hrh (hpre hp)).2.2] at hc
      exact ⟨_, rfl, gives_of Try.fok20 hc⟩) TabOk.nil
  have hC : (mkC (smN n)).Ok Try.prog η := mkC_ok hg (((((((((smA_ok hg).set (by decide) (balledOk hg)).set (by decide) (gAlt_ok gUnitL_ok (gTab_ok hg hT14))).set (by decide) gPlusL_ok).set (by decide) (gTab_ok hg hT9)).set (by decide) (gAlt_ok gContL_ok (gTab_ok hg hT15))).set (by decide) (gTab_ok hg hT18)).set (by decide) (gTab_ok hg hT19)).set (by decide) (gTab_ok hg hT20))
  have hpc : PC.holds η (upTo 0 0 (n - 1)) := upTo_of (by omega)
  obtain ⟨x, hx, hxr⟩ := Tree.all_at (η := η) hrun
  have hxr := svEq_iff hxr
  have hargs : denArgs η E0 [lS n, iS (pvar 0)] = some [.int .i64 n, .int .i64 k] := by
    show some [Value.int .i64 n, .int .i64 (wr (evP η.i (pvar 0)))] = _
    rw [w0]
  obtain ⟨v, e1, e2, e3⟩ := run_sumP hC Try.fok4 hpc hx (by rw [hxr]; rfl) w hargs
  rw [hxr] at e1
  cases e1
  exact e3
end Go.Ex

