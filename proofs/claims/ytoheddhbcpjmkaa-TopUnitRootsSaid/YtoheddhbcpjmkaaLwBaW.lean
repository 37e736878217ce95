/-
  Walks of the whole-number functions of balls: floor (45), ceil (31), rounded (30), size (52), root (51), rootUp (58), one (33).
-/
import Derived.Test.YtoheddhbcpjmkaaFl4
import Derived.Test.YtoheddhbcpjmkaaLwP1
import Derived.Test.YtoheddhbcpjmkaaProg
import Derived.WalkKit
import Derived.Deep.QuietTactic
import Derived.BigQuiet
import Derived.Lib.Hide
import Derived.ProofKit
import Derived.Handy
import Derived.Laws.Externs

namespace Go.Proofs
open Go Go.RowKit Go.Ex

theorem below_drw (w : World) (n : Nat) : Below w.heap.size w (w.drewN n) := ⟨(Below.refl w.heap.size w).os, (Below.refl w.heap.size w).tape, (Below.refl w.heap.size w).output, (Below.refl w.heap.size w).size, (Below.refl w.heap.size w).block⟩
theorem mul_zero_of {d x : Int} (hd : 0 < d) (h : -d < d * x) (h' : d * x < d) : x = 0 := by
  by_cases h1 : 1 ≤ x
  · have := Int.mul_le_mul_of_nonneg_left h1 (Int.le_of_lt hd)
    rw [Int.mul_one] at this
    omega
  · by_cases h2 : x ≤ -1
    · have := Int.mul_le_mul_of_nonneg_left h2 (Int.le_of_lt hd)
      rw [Int.mul_neg, Int.mul_one] at this
      omega
    · omega
theorem tmod_bnd (n d : Int) (hd : 0 < d) : -d < n.tmod d ∧ n.tmod d < d := by
  have h : (n.tmod d).natAbs < d.natAbs := by
    rw [Int.natAbs_tmod]; exact Nat.mod_lt _ (Int.natAbs_pos.2 (by omega))
  omega
theorem fdiv_of (n d : Int) (hd : 0 < d) : n / d = if n.tmod d < 0 then n.tdiv d - 1 else n.tdiv d := by
  have h1 := Int.mul_tdiv_add_tmod n d
  have h2 := Int.mul_ediv_add_emod n d
  have h3 := Int.emod_nonneg n (show d ≠ 0 by omega)
  have h4 := Int.emod_lt_of_pos n hd
  have h5 := tmod_bnd n d hd
  split
  · have e : d * (n / d - (n.tdiv d - 1)) = d * (n / d) - d * n.tdiv d + d := by
      rw [Int.mul_sub, Int.mul_sub, Int.mul_one]; omega
    have := mul_zero_of hd (x := n / d - (n.tdiv d - 1)) (by omega) (by omega)
    omega
  · have e : d * (n / d - n.tdiv d) = d * (n / d) - d * n.tdiv d := by rw [Int.mul_sub]
    have := mul_zero_of hd (x := n / d - n.tdiv d) (by omega) (by omega)
    omega
theorem tdiv_bnd (n d : Int) : (n.tdiv d).natAbs ≤ n.natAbs := by rw [Int.natAbs_tdiv]; exact Nat.div_le_self _ _
theorem tmod_zero_iff (n d : Int) : (n.tmod d = 0) ↔ (n % d = 0) := by
  constructor
  · intro h
    exact Int.emod_eq_zero_of_dvd (Int.dvd_of_tmod_eq_zero h)
  · intro h
    exact Int.tmod_eq_zero_of_dvd (Int.dvd_of_emod_eq_zero h)

theorem floor_any (n d : Int) (w : World) (hn : -4611686018427387904 ≤ n ∧ n ≤ 4611686018427387904) (hd : 0 < d ∧ d ≤ 4611686018427387904) : Calls Try.prog 45 #[.int .i64 n, .int .i64 d] w fun e w' => e = .returned (.int .i64 (n / d)) ∧ w = w' := by
  have hd0 : d ≠ 0 := by omega
  have hne : (d != 0) = true := by simpa using hd0
  have b1 := tdiv_bnd n d
  have b2 := tmod_bnd n d hd.1
  have hw1 : IntKind.i64.wrap (n.tdiv d) = n.tdiv d := IntWalk.i64_in _ (by omega)
  have hw2 : IntKind.i64.wrap (n.tmod d) = n.tmod d := IntWalk.i64_in _ (by omega)
  have hw3 : IntKind.i64.wrap (n.tdiv d - 1) = n.tdiv d - 1 := IntWalk.i64_in _ (by omega)
  have hf := fdiv_of n d hd.1
  go_enter Try.func45, Try.ntmps45
  go_wp2
  · have h : n.tmod d < 0 := by assumption
    go_ret
    rw [hf, if_pos h]
    exact ⟨rfl, rfl⟩
  · have h : ¬ n.tmod d < 0 := by omega
    go_ret
    rw [hf, if_neg h]
    exact ⟨rfl, rfl⟩
theorem size_any (n : Int) (w : World) (hn : n.natAbs < 9223372036854775808) : Calls Try.prog 52 #[.int .i64 n] w fun e w' => e = .returned (.int .i64 (n.natAbs : Int)) ∧ w = w' := by
  have hlo : -9223372036854775807 ≤ n := by omega
  have hhi : n ≤ 9223372036854775807 := by omega
  go_enter Try.func52, Try.ntmps52
  go_wp2
  · have h : n < -n := by assumption
    go_ret
    refine ⟨?_, rfl⟩
    have e : (n.natAbs : Int) = -n := by omega
    rw [e]
    rfl
  · have h : -n ≤ n := by assumption
    go_ret
    refine ⟨?_, rfl⟩
    have e : (n.natAbs : Int) = n := by omega
    rw [e]
    rfl
theorem ceil_any (n d : Int) (w : World) (hn : -4611686018427387904 ≤ n ∧ n ≤ 4611686018427387904) (hd : 0 < d ∧ d ≤ 4611686018427387904) : Calls Try.prog 31 #[.int .i64 n, .int .i64 d] w fun e w' => e = .returned (.int .i64 (ceilI n d)) ∧ w = w' := by
  have hb : (-n / d).natAbs ≤ 4611686018427387904 + 1 := by
    have h := fdiv_of (-n) d hd.1
    have b := tdiv_bnd (-n) d
    split at h <;> omega
  have hw1 : IntKind.i64.wrap (-n) = -n := IntWalk.i64_in _ (by omega)
  have hw2 : IntKind.i64.wrap (-(-n / d)) = -(-n / d) := IntWalk.i64_in _ (by omega)
  go_enter Try.func31, Try.ntmps31
  go_wp2_with (go_at_call 45; refine (floor_any _ _ _ (by omega) hd).mono ?_; rintro e w' ⟨rfl, rfl⟩)
  go_ret
  exact ⟨rfl, rfl⟩
theorem rounded_any (n d : Int) (w : World) (hn : -1152921504606846976 ≤ n ∧ n ≤ 1152921504606846976) (hd : 0 < d ∧ d ≤ 1152921504606846976) : Calls Try.prog 30 #[.int .i64 n, .int .i64 d] w fun e w' => e = .returned (.tuple #[.int .i64 (rndI n d), .bool (decide (n % d ≠ 0))]) ∧ Below w.heap.size w w' := by
  have hd0 : d ≠ 0 := by omega
  have hne : (d != 0) = true := by simpa using hd0
  have b2 := tmod_bnd n d hd.1
  have hw1 : IntKind.i64.wrap (2 * n) = 2 * n := IntWalk.i64_in _ (by omega)
  have hw2 : IntKind.i64.wrap (2 * n + d) = 2 * n + d := IntWalk.i64_in _ (by omega)
  have hw3 : IntKind.i64.wrap (2 * d) = 2 * d := IntWalk.i64_in _ (by omega)
  have hw4 : IntKind.i64.wrap (n.tmod d) = n.tmod d := IntWalk.i64_in _ (by omega)
  have hz := tmod_zero_iff n d
  go_enter Try.func30, Try.ntmps30
  go_wp2_with (go_at_call 45; refine (floor_any _ _ _ (by omega) (by omega)).mono ?_; rintro e w' ⟨rfl, rfl⟩)
  go_quiet ((go_at_call 45; exact Calls.quiet_of_same ((floor_any _ _ _ (by omega) (by omega)).mono fun _ _ h => ⟨h.1, h.2.symm⟩)))
  go_wp2
  go_ret2
  refine ⟨?_, below_drw w _⟩
  have e : (n.tmod d != 0) = decide (n % d ≠ 0) := by
    by_cases h : n % d = 0
    · have h2 := (tmod_zero_iff n d).2 h
      simp [h, h2]
    · have h2 : n.tmod d ≠ 0 := fun h3 => h ((tmod_zero_iff n d).1 h3)
      simp [h, h2]
  rw [e]
  rfl

theorem run_sqrt {x s : Nat} (h : Ieee.double.sqrt x = some s) (w : World) : (callFunc 75 #[.float .f64 x]).run Try.prog w = .ok (.value (.float .f64 s)) w := by
  have h' : FloatKind.f64.format.sqrt x = some s := h
  have e : Extern.MathSqrt.sqrt #[.float .f64 x] = pure (.float .f64 s) := by
    show (match FloatKind.f64.format.sqrt x with
      | some r => (pure (Value.float .f64 r) : Sem Value)
      | none => do pure (.float .f64 (← choose (.nanBits .f64 x x)))) = _
    rw [h']
  rw [run_callFunc_extern Try.func75 (by kernel_rfl) (by kernel_rfl) (by kernel_rfl) (e := Extern.MathSqrt.sqrt) (by kernel_rfl), e]
  rfl
theorem sqrt_calls {x s : Nat} (h : Ieee.double.sqrt x = some s) (w : World) : Calls Try.prog 66 #[.float .f64 x] w fun e w' => e = .returned (.float .f64 s) ∧ w = w' := by
  have h1 := fun w => run_sqrt h w
  go_enter Try.func66, Try.ntmps66
  go_wp2
  go_ret
  exact ⟨rfl, rfl⟩
theorem wI_near53 {n : Int} (h0 : 0 ≤ n) (h1 : n ≤ 9007199254740992) : wI (FloatKind.f64.nearest n) = some n := by
  by_cases h : n = 9007199254740992
  · subst h; decide +kernel
  · exact wI_nearest (by omega)
theorem sq_bnd {r : Int} (h0 : 0 ≤ r) (h1 : r ≤ 134217729) : r * r ≤ 18014398777917441 := by
  have := mul_self_le h0 h1
  omega
theorem isq_unique {n r : Int} (h0 : 0 ≤ n) (h : n < 18446744073709551616) (hr : 0 ≤ r) (h1 : r * r ≤ n) (h2 : n < (r + 1) * (r + 1)) : r = isq n := by
  obtain ⟨a, b, c⟩ := isq_spec h0 h
  have e1 : r ≤ isq n := by
    by_cases hc : r ≤ isq n
    · exact hc
    · have := mul_self_le (a := isq n + 1) (b := r) (by omega) (by omega); omega
  have e2 : isq n ≤ r := by
    by_cases hc : isq n ≤ r
    · exact hc
    · have := mul_self_le (a := r + 1) (b := isq n) (by omega) (by omega); omega
  omega
def inI : Value → Int
  | .int _ n => n
  | _ => 0
theorem root_any (n : Int) (w : World) (h0 : 0 ≤ n) (h1 : n ≤ 9007199254740992) : Calls Try.prog 51 #[.int .i64 n] w fun e w' => e = .returned (.int .i64 (isq n)) ∧ ∃ m, w' = w.drewN m := by
  obtain ⟨s, r0, hs, hr, hr0, hr1⟩ := sqrt_small (wI_near53 h0 h1) h0 h1
  have hsc := fun w => sqrt_calls hs w
  have hmin : IntKind.i64.min = -9223372036854775808 := by decide
  have hmax : IntKind.i64.max = 9223372036854775807 := by decide
  have hcv : ∀ w, (convert 72 3 (.float .f64 s)).run Try.prog w = .ok (.int .i64 r0) w := by
    intro w
    have hc : (-9223372036854775808 ≤ r0 ∧ r0 ≤ 9223372036854775807) := by omega
    simp only [convert, Sem.run_bind, run_underlying Try.underlying72, run_underlying Try.underlying3, Result.andThen_ok, Conv.floatToInt, hr, hmin, hmax, hc, and_self, if_true, Sem.run_pure]
  have hcf : ∀ w, (convert 3 72 (.int .i64 n)).run Try.prog w = .ok (.float .f64 (FloatKind.f64.nearest n)) w := by
    intro w
    simp [convert, run_underlying Try.underlying72, run_underlying Try.underlying3, Conv.intToFloat]
  go_enter Try.func51, Try.ntmps51
  go_wp2_with (go_at_call 66; refine (hsc _).mono ?_; rintro e w' ⟨rfl, rfl⟩)
  go_loopw [3] (fun r wr => ∃ rv : Int, r = .int .i64 rv ∧ 0 ≤ rv ∧ rv ≤ 134217728 ∧ ∃ m, wr = w.drewN m) (fun r _ => (inI r).toNat)
  case atStart => exact ⟨r0, rfl, hr0, hr1, 0, rfl⟩
  case round =>
    obtain ⟨rv, rfl, hv0, hv1, m, rfl⟩ := hrel
    have hb := sq_bnd hv0 (by omega)
    have hb0 := sqz rv
    have hw1 : IntKind.i64.wrap (rv * rv) = rv * rv := IntWalk.i64_in _ (by omega)
    have hw2 : IntKind.i64.wrap (rv - 1) = rv - 1 := IntWalk.i64_in _ (by omega)
    go_wp2
    · have hlt : n < rv * rv := by assumption
      have hv : 1 ≤ rv := by
        by_cases hz : rv = 0
        · subst hz; omega
        · omega
      exact ⟨⟨rv - 1, rfl, by omega, by omega, m, rfl⟩, by simp only [inI]; omega⟩
    · have hle : rv * rv ≤ n := by assumption
      clear hw1 hw2
      go_loopw [3] (fun r wr => ∃ rv : Int, r = .int .i64 rv ∧ 0 ≤ rv ∧ rv * rv ≤ n ∧ ∃ m, wr = w.drewN m) (fun r _ => (n - inI r * inI r).toNat)
      case atStart => exact ⟨rv, rfl, hv0, hle, m, rfl⟩
      case round =>
        obtain ⟨r1, rfl, hr0, hr1, m1, rfl⟩ := hrel
        have hb1 : r1 ≤ 134217728 := le_of_sq (by omega) (by omega)
        have hb2 := sq_bnd (r := r1 + 1) (by omega) (by omega)
        have hb3 := sqz (r1 + 1)
        have hw1 : IntKind.i64.wrap (r1 + 1) = r1 + 1 := IntWalk.i64_in _ (by omega)
        have hw2 : IntKind.i64.wrap ((r1 + 1) * (r1 + 1)) = (r1 + 1) * (r1 + 1) := IntWalk.i64_in _ (by omega)
        go_wp2
        · have hlt : (r1 + 1) * (r1 + 1) ≤ n := by assumption
          have e : (r1 + 1) * (r1 + 1) = r1 * r1 + 2 * r1 + 1 := by
            simp only [Int.mul_add, Int.add_mul, Int.mul_one, Int.one_mul]; omega
          exact ⟨⟨r1 + 1, rfl, by omega, hlt, m1, rfl⟩, by simp only [inI]; omega⟩
        · have hlt : n < (r1 + 1) * (r1 + 1) := by assumption
          go_ret
          exact ⟨by rw [← isq_unique h0 (by omega) hr0 hr1 hlt]; rfl, m1, rfl⟩
theorem rootUp_any (n : Int) (w : World) (h0 : 0 ≤ n) (h1 : n ≤ 9007199254740992) : Calls Try.prog 58 #[.int .i64 n] w fun e w' => e = .returned (.int .i64 (isqU n)) ∧ ∃ m, w' = w.drewN m := by
  have hle := isq_le (k := 134217728) h0 (by omega) (by omega) (by omega)
  obtain ⟨i0, i1, i2⟩ := isq_spec h0 (show n < 18446744073709551616 by omega)
  have hb := sq_bnd i0 (by omega)
  have hw1 : IntKind.i64.wrap (isq n * isq n) = isq n * isq n := IntWalk.i64_in _ (by have := sqz (isq n); omega)
  have hw2 : IntKind.i64.wrap (isq n + 1) = isq n + 1 := IntWalk.i64_in _ (by omega)
  go_enter Try.func58, Try.ntmps58
  go_wp2_with (go_at_call 51; refine (root_any _ _ h0 h1).mono ?_; rintro e w' ⟨rfl, m, rfl⟩)
  · have h : isq n * isq n < n := by assumption
    go_ret
    refine ⟨?_, _, rfl⟩
    unfold isqU; rw [if_pos h]; rfl
  · have h : n ≤ isq n * isq n := by assumption
    go_ret
    refine ⟨?_, _, rfl⟩
    unfold isqU; rw [if_neg (by omega)]; rfl
theorem one_any (b : Bool) (w : World) : Calls Try.prog 33 #[.bool b] w fun e w' => e = .returned (.int .i64 (if b then 1 else 0)) ∧ w = w' := by
  cases b
  · go_enter Try.func33, Try.ntmps33
    go_wp2
    go_ret
    exact ⟨rfl, rfl⟩
  · go_enter Try.func33, Try.ntmps33
    go_wp2
    go_ret
    exact ⟨rfl, rfl⟩
end Go.Proofs

