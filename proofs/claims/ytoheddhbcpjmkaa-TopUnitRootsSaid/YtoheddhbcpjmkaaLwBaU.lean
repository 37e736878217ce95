/-
  Walks of bits.Mul64 (59), quotient (37), quotientUp (39).
-/
import Derived.Test.YtoheddhbcpjmkaaLwBaV

namespace Go.Proofs
open Go Go.RowKit Go.Ex
theorem divU (a : Nat) : (a : Int) / 4294967296 = ((a / 4294967296 : Nat) : Int) := by omega
theorem mulU (a b : Nat) : (a : Int) * (b : Int) = ((a * b : Nat) : Int) := (Int.natCast_mul a b).symm
theorem addU (a b : Nat) : (a : Int) + (b : Int) = ((a + b : Nat) : Int) := (Int.natCast_add a b).symm
theorem wrapM (a : Nat) : IntKind.u64.wrap (a : Int) = ((a % 18446744073709551616 : Nat) : Int) := by rw [IntKind.wrap_u64]; omega
set_option maxHeartbeats 1000000 in
theorem mul64_any (x y : Nat) (hx : x < 18446744073709551616) (hy : y < 18446744073709551616) (w : World) :
    Calls Try.prog 59 #[.int .u64 x, .int .u64 y] w fun e w' => e = .returned (.tuple #[.int .u64 ((x * y / 18446744073709551616 : Nat) : Int), .int .u64 ((x * y % 18446744073709551616 : Nat) : Int)]) ∧ w = w' := by
  obtain ⟨bd, bt, bw, hhi⟩ := Lib.mul64_hi x y hx hy
  have ba := Lib.half_mul_le (a := x / 4294967296) (b := y / 4294967296) (by omega) (by omega)
  have bb := Lib.half_mul_le (a := x / 4294967296) (b := y % 4294967296) (by omega) (by omega)
  have bc := Lib.half_mul_le (a := x % 4294967296) (b := y / 4294967296) (by omega) (by omega)
  have ba' : x / 4294967296 * (y / 4294967296) < 18446744073709551616 := by omega
  have bb' : x / 4294967296 * (y % 4294967296) < 18446744073709551616 := by omega
  have bc' : x % 4294967296 * (y / 4294967296) < 18446744073709551616 := by omega
  have bh1 : x / 4294967296 * (y / 4294967296) + (x / 4294967296 * (y % 4294967296) + x % 4294967296 * (y % 4294967296) / 4294967296) / 4294967296 < 18446744073709551616 := by omega
  have bh : x / 4294967296 * (y / 4294967296) + (x / 4294967296 * (y % 4294967296) + x % 4294967296 * (y % 4294967296) / 4294967296) / 4294967296 + ((x / 4294967296 * (y % 4294967296) + x % 4294967296 * (y % 4294967296) / 4294967296) % 4294967296 + x % 4294967296 * (y / 4294967296)) / 4294967296 < 18446744073709551616 := by omega
  go_enter Try.func59, Try.ntmps59
  go_wp2
  simp only [maskV x hx, maskV y hy, divU, mulU, addU, wrapV _ bd, wrapV _ bb', wrapV _ bt, maskV _ bt, wrapV _ bc', wrapV _ bw, wrapV _ ba', wrapV _ bh1, wrapV _ bh, wrapM (x * y)]
  rw [hhi]
  go_ret2
  exact ⟨rfl, rfl⟩
/-- Both: of numbers whose product is not too great. -/
theorem div64_all (P y hi lo F1 F2 : Nat) (hP : hi = P / 18446744073709551616 ∧ lo = P % 18446744073709551616) (hh : hi < y) (hy0 : 0 < y) (hy : y < 9223372036854775808) (hF : F1 = P / y ∧ F2 = P % y) (w : World) :
    Calls Try.prog 60 #[.int .u64 (hi : Int), .int .u64 (lo : Int), .int .u64 (y : Int)] w fun e w' => e = .returned (.tuple #[.int .u64 (F1 : Int), .int .u64 (F2 : Int)]) ∧ Below w.heap.size w w' := by
  have hl : lo < 18446744073709551616 := by rw [hP.2]; exact Nat.mod_lt _ (by decide)
  have e : hi * 18446744073709551616 + lo = P := by rw [hP.1, hP.2, Nat.mul_comm]; exact Nat.div_add_mod _ _
  by_cases h0 : hi = 0
  · subst h0
    rw [Nat.zero_mul, Nat.zero_add] at e
    rw [hF.1, hF.2, ← e]
    exact div64_zero lo y hl hy0 (by omega) w
  · exact div64_any hi lo y hh (by omega) hl hy F1 F2 (by rw [e]; exact hF) w
/-- The numbers of both quotients. -/
theorem mulI {x y hI lI : Int} (hx : 0 ≤ x ∧ x < 18446744073709551616) (hy : 0 ≤ y ∧ y < 18446744073709551616) (h1 : hI = (x * y) / 18446744073709551616) (h2 : lI = (x * y) % 18446744073709551616) (w : World) : Calls Try.prog 59 #[.int .u64 x, .int .u64 y] w fun e w' => e = .returned (.tuple #[.int .u64 hI, .int .u64 lI]) ∧ w = w' := by
  obtain ⟨a, rfl⟩ : ∃ a : Nat, x = a := ⟨x.toNat, by omega⟩
  obtain ⟨b, rfl⟩ : ∃ b : Nat, y = b := ⟨y.toNat, by omega⟩
  have h := mul64_any a b (by omega) (by omega) w
  have e1 : ((a * b / 18446744073709551616 : Nat) : Int) = hI := by rw [h1, ← Int.natCast_mul]; exact Int.natCast_ediv _ _
  have e2 : ((a * b % 18446744073709551616 : Nat) : Int) = lI := by rw [h2, ← Int.natCast_mul]; exact Int.natCast_emod _ _
  rw [e1, e2] at h
  exact h
theorem divI {P y hI lI u r : Int} (hP : 0 ≤ P) (h1 : hI = P / 18446744073709551616) (h2 : lI = P % 18446744073709551616) (hh : hI < y) (hy0 : 0 < y) (hy : y < 9223372036854775808) (hu : u = P / y) (hr : r = P % y) (w : World) :
    Calls Try.prog 60 #[.int .u64 hI, .int .u64 lI, .int .u64 y] w fun e w' => e = .returned (.tuple #[.int .u64 u, .int .u64 r]) ∧ Below w.heap.size w w' := by
  obtain ⟨p, rfl⟩ : ∃ a : Nat, P = a := ⟨P.toNat, by omega⟩
  obtain ⟨b, rfl⟩ : ∃ b : Nat, y = b := ⟨y.toNat, by omega⟩
  have e1 : hI = ((p / 18446744073709551616 : Nat) : Int) := by rw [h1]; exact (Int.natCast_ediv _ _).symm
  have e2 : lI = ((p % 18446744073709551616 : Nat) : Int) := by rw [h2]; exact (Int.natCast_emod _ _).symm
  have e3 : u = ((p / b : Nat) : Int) := by rw [hu]; exact (Int.natCast_ediv _ _).symm
  have e4 : r = ((p % b : Nat) : Int) := by rw [hr]; exact (Int.natCast_emod _ _).symm
  rw [e1, e2, e3, e4]
  exact div64_all p b _ _ _ _ ⟨rfl, rfl⟩ (by omega) (by omega) (by omega) ⟨rfl, rfl⟩ w
set_option maxHeartbeats 1000000 in
theorem quot_any (n m d q0 : Int) (b0 : Bool) (w : World) (hn : n.natAbs ≤ 18014398509481984) (hm : 0 ≤ m ∧ m ≤ 2097152) (hd : 0 < d ∧ d ≤ 18014398509481984) (hqb : q0 = quoI n m d ∧ b0 = decide (flgI n m d ≠ 0)) : Calls Try.prog 37 #[.int .i64 n, .int .i64 m, .int .i64 d] w fun e w' => e = .returned (.tuple #[.int .i64 q0, .bool b0]) ∧ Below w.heap.size w w' := by
  have HQ := Lib.hid hqb
  clear hqb
  obtain ⟨sI, es⟩ : ∃ s : Int, s = n.natAbs := ⟨_, rfl⟩
  obtain ⟨P, eP⟩ : ∃ P, P = sI * m := ⟨_, rfl⟩
  obtain ⟨hI, eh⟩ : ∃ h, h = P / 18446744073709551616 := ⟨_, rfl⟩
  obtain ⟨lI, el⟩ : ∃ l, l = P % 18446744073709551616 := ⟨_, rfl⟩
  obtain ⟨u, eu⟩ : ∃ u, u = P / d := ⟨_, rfl⟩
  obtain ⟨r, er⟩ : ∃ r, r = P % d := ⟨_, rfl⟩
  have hP0 : 0 ≤ P := by rw [eP]; exact Int.mul_nonneg (by omega) hm.1
  have hsz : ∀ w, Calls Try.prog 52 #[.int .i64 n] w fun e w' => e = .returned (.int .i64 sI) ∧ w = w' := fun w => by rw [es]; exact size_any n w (by omega)
  have hmu : ∀ w, Calls Try.prog 59 #[.int .u64 sI, .int .u64 m] w fun e w' => e = .returned (.tuple #[.int .u64 hI, .int .u64 lI]) ∧ w = w' := fun w => mulI (by omega) (by omega) (by rw [eh, eP]) (by rw [el, eP]) w
  have hdv : hI < d → ∀ w, Calls Try.prog 60 #[.int .u64 hI, .int .u64 lI, .int .u64 d] w fun e w' => e = .returned (.tuple #[.int .u64 u, .int .u64 r]) ∧ Below w.heap.size w w' := fun h w => divI hP0 eh el h hd.1 (by omega) eu er w
  have c1 : IntKind.u64.wrap sI = sI := by rw [IntKind.wrap_u64]; omega
  have c2 : IntKind.u64.wrap m = m := by rw [IntKind.wrap_u64]; omega
  have c3 : IntKind.u64.wrap d = d := by rw [IntKind.wrap_u64]; omega
  have hr0 : 0 ≤ r ∧ r < d := by rw [er]; exact ⟨Int.emod_nonneg _ (by omega), Int.emod_lt_of_pos _ hd.1⟩
  have hu0 : 0 ≤ u := by rw [eu]; exact Int.ediv_nonneg hP0 (by omega)
  have c4 : IntKind.u64.wrap (2 * r) = 2 * r := by rw [IntKind.wrap_u64]; omega
  have hbig : d ≤ hI → 2147483647 < u := by
    intro h
    have h1 : hI * 18446744073709551616 ≤ P := by rw [eh]; omega
    have h2 : d * 18446744073709551616 ≤ P := by omega
    have h3 := Int.mul_ediv_add_emod P d
    rw [← eu, ← er] at h3
    by_cases hc : 2147483647 < u
    · exact hc
    · have := Int.mul_le_mul_of_nonneg_left (show u ≤ 2147483647 by omega) (Int.le_of_lt hd.1)
      omega
  have e1 : (n.natAbs * m) / d = u := by rw [eu, eP, es]
  have e2 : (n.natAbs * m) % d = r := by rw [er, eP, es]
  have HE := Lib.hid (And.intro e1 (And.intro e2 (And.intro hn (And.intro hm (And.intro hd (And.intro hr0 hu0))))))
  clear e1 e2 eP eh el eu er es hn hm hP0 hr0
  by_cases hb : d ≤ hI
  · have hb2 := hbig hb
    go_enter Try.func37, Try.ntmps37
    clear hdv hbig hu0 hd
    go_wp2_with (first
      | (go_at_call 52; refine (hsz _).mono ?_; rintro e w' ⟨rfl, rfl⟩)
      | (go_at_call 59; refine (hmu _).mono ?_; rintro e w' ⟨rfl, rfl⟩))
    all_goals go_ret2
    all_goals (
      refine ⟨?_, Below.refl _ _⟩
      obtain ⟨e1, e2, _⟩ := HE.out
      have q1 : quoI n m d = 2147483647 := by unfold quoI; simp only [e1, e2]; rw [if_pos hb2]
      have q2 : flgI n m d = 0 := by unfold flgI; rw [e1, if_pos hb2]
      rw [HQ.out.1, HQ.out.2, q1, q2]
      rfl)
  · have hdv' := hdv (by omega)
    clear hdv hbig
    by_cases h2 : 2147483647 < u
    · go_enter Try.func37, Try.ntmps37
      clear hu0 hd
      go_wp2_with (first
        | (go_at_call 52; refine (hsz _).mono ?_; rintro e w' ⟨rfl, rfl⟩)
        | (go_at_call 59; refine (hmu _).mono ?_; rintro e w' ⟨rfl, rfl⟩)
        | (go_at_call 60; refine (hdv' _).mono ?_; rintro e w' ⟨rfl, hbl⟩))
      all_goals go_ret2
      all_goals (
        refine ⟨?_, hbl⟩
        obtain ⟨e1, e2, _⟩ := HE.out
        have q1 : quoI n m d = 2147483647 := by unfold quoI; simp only [e1, e2]; rw [if_pos h2]
        have q2 : flgI n m d = 0 := by unfold flgI; rw [e1, if_pos h2]
        rw [HQ.out.1, HQ.out.2, q1, q2]
        rfl)
    · have c5 : IntKind.i64.wrap u = u := IntWalk.i64_in _ (by omega)
      have c6 : IntKind.i64.wrap (u + 1) = u + 1 := IntWalk.i64_in _ (by omega)
      have c7 : IntKind.i64.wrap (-u) = -u := IntWalk.i64_in _ (by omega)
      have c8 : IntKind.i64.wrap (-(u + 1)) = -(u + 1) := IntWalk.i64_in _ (by omega)
      have fl : decide (flgI n m d ≠ 0) = (r != 0) := by
        obtain ⟨e1, e2, _⟩ := HE.out
        unfold flgI
        rw [e1, e2, if_neg h2]
        by_cases hz : r = 0
        · simp [hz]
        · simp [hz]
      obtain ⟨e1, e2, _⟩ := HE.out
      have h2' : ¬ 2147483647 < u := h2
      have HF := Lib.hid h2
      by_cases hn0 : n < 0
      · by_cases hc1 : d < 2 * r
        · have hX : quoI n m d = -(u + 1) := by
            unfold quoI; simp only [e1, e2]; rw [if_neg h2, if_pos hn0, if_pos (Or.inl hc1)]
          clear hu0 hd e1 e2 HF h2'
          go_enter Try.func37, Try.ntmps37
          go_wp2_with (first
            | (go_at_call 52; refine (hsz _).mono ?_; rintro e w' ⟨rfl, rfl⟩)
            | (go_at_call 59; refine (hmu _).mono ?_; rintro e w' ⟨rfl, rfl⟩)
            | (go_at_call 60; refine (hdv' _).mono ?_; rintro e w' ⟨rfl, hbl⟩))
          all_goals first | omega | skip
          all_goals go_ret2
          all_goals (
            refine ⟨?_, hbl⟩
            rw [HQ.out.1, HQ.out.2, fl, hX]
            rfl)
        · have hX : quoI n m d = -u := by
            unfold quoI; simp only [e1, e2]; rw [if_neg h2, if_pos hn0, if_neg (show ¬ (d < 2 * r ∨ (0 ≤ n ∧ 2 * r = d)) by omega)]
          clear hu0 hd e1 e2 HF h2'
          go_enter Try.func37, Try.ntmps37
          go_wp2_with (first
            | (go_at_call 52; refine (hsz _).mono ?_; rintro e w' ⟨rfl, rfl⟩)
            | (go_at_call 59; refine (hmu _).mono ?_; rintro e w' ⟨rfl, rfl⟩)
            | (go_at_call 60; refine (hdv' _).mono ?_; rintro e w' ⟨rfl, hbl⟩))
          all_goals first | omega | skip
          all_goals go_ret2
          all_goals (
            refine ⟨?_, hbl⟩
            rw [HQ.out.1, HQ.out.2, fl, hX]
            rfl)
      · by_cases hc1 : d < 2 * r
        · have hX : quoI n m d = u + 1 := by
            unfold quoI; simp only [e1, e2]; rw [if_neg h2, if_neg hn0, if_pos (Or.inl hc1)]
          clear hu0 hd e1 e2 HF h2'
          go_enter Try.func37, Try.ntmps37
          go_wp2_with (first
            | (go_at_call 52; refine (hsz _).mono ?_; rintro e w' ⟨rfl, rfl⟩)
            | (go_at_call 59; refine (hmu _).mono ?_; rintro e w' ⟨rfl, rfl⟩)
            | (go_at_call 60; refine (hdv' _).mono ?_; rintro e w' ⟨rfl, hbl⟩))
          all_goals first | omega | skip
          all_goals go_ret2
          all_goals (
            refine ⟨?_, hbl⟩
            rw [HQ.out.1, HQ.out.2, fl, hX]
            rfl)
        · by_cases hc2 : 2 * r = d
          · have hX : quoI n m d = u + 1 := by
              unfold quoI; simp only [e1, e2]; rw [if_neg h2, if_neg hn0, if_pos (Or.inr ⟨by omega, hc2⟩)]
            have hcb : (2 * r == d) = true := by simpa using hc2
            clear hu0 hd e1 e2 HF h2'
            go_enter Try.func37, Try.ntmps37
            go_wp2_with (first
              | (go_at_call 52; refine (hsz _).mono ?_; rintro e w' ⟨rfl, rfl⟩)
              | (go_at_call 59; refine (hmu _).mono ?_; rintro e w' ⟨rfl, rfl⟩)
              | (go_at_call 60; refine (hdv' _).mono ?_; rintro e w' ⟨rfl, hbl⟩))
            all_goals first | omega | skip
            all_goals go_ret2
            all_goals (
              refine ⟨?_, hbl⟩
              rw [HQ.out.1, HQ.out.2, fl, hX]
              rfl)
          · have hX : quoI n m d = u := by
              unfold quoI; simp only [e1, e2]; rw [if_neg h2, if_neg hn0, if_neg (show ¬ (d < 2 * r ∨ (0 ≤ n ∧ 2 * r = d)) by omega)]
            have hcb : (2 * r == d) = false := by simpa using hc2
            clear hu0 hd e1 e2 HF h2'
            go_enter Try.func37, Try.ntmps37
            go_wp2_with (first
              | (go_at_call 52; refine (hsz _).mono ?_; rintro e w' ⟨rfl, rfl⟩)
              | (go_at_call 59; refine (hmu _).mono ?_; rintro e w' ⟨rfl, rfl⟩)
              | (go_at_call 60; refine (hdv' _).mono ?_; rintro e w' ⟨rfl, hbl⟩))
            all_goals first | omega | skip
            all_goals go_ret2
            all_goals (
              refine ⟨?_, hbl⟩
              rw [HQ.out.1, HQ.out.2, fl, hX]
              rfl)
set_option maxHeartbeats 1000000 in
theorem quotUp_any (n m d : Int) (w : World) (hn : 0 ≤ n ∧ n ≤ 4611686018427387904) (hm : 0 ≤ m ∧ m ≤ 2097152) (hd : 0 < d ∧ d ≤ 18014398509481984) : Calls Try.prog 39 #[.int .i64 n, .int .i64 m, .int .i64 d] w fun e w' => e = .returned (.int .i64 (quuI n m d)) ∧ Below w.heap.size w w' := by
  obtain ⟨P, eP⟩ : ∃ P, P = n * m := ⟨_, rfl⟩
  obtain ⟨hI, eh⟩ : ∃ h, h = P / 18446744073709551616 := ⟨_, rfl⟩
  obtain ⟨lI, el⟩ : ∃ l, l = P % 18446744073709551616 := ⟨_, rfl⟩
  obtain ⟨u, eu⟩ : ∃ u, u = P / d := ⟨_, rfl⟩
  obtain ⟨r, er⟩ : ∃ r, r = P % d := ⟨_, rfl⟩
  have hP0 : 0 ≤ P := by rw [eP]; exact Int.mul_nonneg hn.1 hm.1
  have hmu : ∀ w, Calls Try.prog 59 #[.int .u64 n, .int .u64 m] w fun e w' => e = .returned (.tuple #[.int .u64 hI, .int .u64 lI]) ∧ w = w' := fun w => mulI (by omega) (by omega) (by rw [eh, eP]) (by rw [el, eP]) w
  have hdv : hI < d → ∀ w, Calls Try.prog 60 #[.int .u64 hI, .int .u64 lI, .int .u64 d] w fun e w' => e = .returned (.tuple #[.int .u64 u, .int .u64 r]) ∧ Below w.heap.size w w' := fun h w => divI hP0 eh el h hd.1 (by omega) eu er w
  have c1 : IntKind.u64.wrap n = n := by rw [IntKind.wrap_u64]; omega
  have c2 : IntKind.u64.wrap m = m := by rw [IntKind.wrap_u64]; omega
  have c3 : IntKind.u64.wrap d = d := by rw [IntKind.wrap_u64]; omega
  have hr0 : 0 ≤ r ∧ r < d := by rw [er]; exact ⟨Int.emod_nonneg _ (by omega), Int.emod_lt_of_pos _ hd.1⟩
  have hu0 : 0 ≤ u := by rw [eu]; exact Int.ediv_nonneg hP0 (by omega)
  have hbig : d ≤ hI → 2147483647 ≤ u := by
    intro h
    have h1 : hI * 18446744073709551616 ≤ P := by rw [eh]; omega
    have h2 : d * 18446744073709551616 ≤ P := by omega
    have h3 := Int.mul_ediv_add_emod P d
    rw [← eu, ← er] at h3
    by_cases hc : 2147483647 ≤ u
    · exact hc
    · have := Int.mul_le_mul_of_nonneg_left (show u ≤ 2147483647 by omega) (Int.le_of_lt hd.1)
      omega
  have e1 : (n * m) / d = u := by rw [eu, eP]
  have e2 : (n * m) % d = r := by rw [er, eP]
  have HE := Lib.hid (And.intro e1 (And.intro e2 (And.intro hn (And.intro hm (And.intro hd (And.intro hr0 hu0))))))
  clear e1 e2 eP eh el eu er hn hm hP0 hr0
  by_cases hb : d ≤ hI
  · have hb2 := hbig hb
    go_enter Try.func39, Try.ntmps39
    clear hdv hbig hu0 hd
    go_wp2_with (go_at_call 59; refine (hmu _).mono ?_; rintro e w' ⟨rfl, rfl⟩)
    all_goals go_ret
    all_goals (
      refine ⟨?_, Below.refl _ _⟩
      obtain ⟨e1, e2, _⟩ := HE.out
      have q1 : quuI n m d = 2147483647 := by unfold quuI; rw [e1, if_pos hb2]
      rw [q1]
      rfl)
  · have hdv' := hdv (by omega)
    clear hdv hbig
    by_cases h2 : 2147483647 ≤ u
    · go_enter Try.func39, Try.ntmps39
      clear hu0 hd
      go_wp2_with (first
        | (go_at_call 59; refine (hmu _).mono ?_; rintro e w' ⟨rfl, rfl⟩)
        | (go_at_call 60; refine (hdv' _).mono ?_; rintro e w' ⟨rfl, hbl⟩))
      all_goals go_ret
      all_goals (
        refine ⟨?_, hbl⟩
        obtain ⟨e1, e2, _⟩ := HE.out
        have q1 : quuI n m d = 2147483647 := by unfold quuI; rw [e1, if_pos h2]
        rw [q1]
        rfl)
    · have c5 : IntKind.i64.wrap u = u := IntWalk.i64_in _ (by omega)
      have c6 : IntKind.i64.wrap (u + 1) = u + 1 := IntWalk.i64_in _ (by omega)
      have c7 : IntKind.u64.wrap (u + 1) = u + 1 := by rw [IntKind.wrap_u64]; omega
      obtain ⟨e1, e2, _⟩ := HE.out
      by_cases hz : r = 0
      · have hX : quuI n m d = u := by unfold quuI; rw [e1, e2, if_neg h2, if_pos hz]
        have hzb : (r != 0) = false := by simpa using hz
        clear hu0 hd e1 e2
        go_enter Try.func39, Try.ntmps39
        go_wp2_with (first
          | (go_at_call 59; refine (hmu _).mono ?_; rintro e w' ⟨rfl, rfl⟩)
          | (go_at_call 60; refine (hdv' _).mono ?_; rintro e w' ⟨rfl, hbl⟩))
        all_goals go_ret
        all_goals (
          refine ⟨?_, hbl⟩
          rw [hX]
          rfl)
      · have hX : quuI n m d = u + 1 := by unfold quuI; rw [e1, e2, if_neg h2, if_neg hz]
        have hzb : (r != 0) = true := by simpa using hz
        clear hu0 hd e1 e2
        go_enter Try.func39, Try.ntmps39
        go_wp2_with (first
          | (go_at_call 59; refine (hmu _).mono ?_; rintro e w' ⟨rfl, rfl⟩)
          | (go_at_call 60; refine (hdv' _).mono ?_; rintro e w' ⟨rfl, hbl⟩))
        all_goals go_ret
        all_goals (
          refine ⟨?_, hbl⟩
          rw [hX]
          rfl)
end Go.Proofs

