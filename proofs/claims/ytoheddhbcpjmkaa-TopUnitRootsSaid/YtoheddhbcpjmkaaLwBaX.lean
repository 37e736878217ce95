/-
  The root of a number up to 2^55, rounded down.
-/
import Derived.Test.YtoheddhbcpjmkaaFl5
import Derived.Test.YtoheddhbcpjmkaaLwBaW

namespace Go.Proofs
open Go Go.RowKit Go.Ex
theorem sq_bnd2 {r : Int} (h0 : 0 ≤ r) (h1 : r ≤ 536870913) : r * r ≤ 288230377225453569 := by
  have := mul_self_le h0 h1
  omega
theorem sqrt_all {n : Int} (h0 : 0 ≤ n) (h1 : n ≤ 36028797018963968) : ∃ s r, Ieee.double.sqrt (FloatKind.f64.nearest n) = some s ∧ (FloatKind.f64.decode s).toInt .zero = some r ∧ 0 ≤ r ∧ r ≤ 536870912 := by
  by_cases h : n ≤ 9007199254740992
  · obtain ⟨s, r, a, b, c, d⟩ := sqrt_small (wI_near53 h0 h) h0 h
    exact ⟨s, r, a, b, c, by omega⟩
  · exact sqrt_big (by omega) h1
theorem root_big (n : Int) (w : World) (h0 : 0 ≤ n) (h1 : n ≤ 36028797018963968) : Calls Try.prog 51 #[.int .i64 n] w fun e w' => e = .returned (.int .i64 (isq n)) ∧ ∃ m, w' = w.drewN m := by
  obtain ⟨s, r0, hs, hr, hr0, hr1⟩ := sqrt_all h0 h1
  have hsc := fun w => sqrt_calls hs w
  have hmin : IntKind.i64.min = -9223372036854775808 := by decide
  have hmax : IntKind.i64.max = 9223372036854775807 := by decide
  have hcv : ∀ w, (convert 72 3 (.float .f64 s)).run Try.prog w = .ok (.int .i64 r0) w := by
    intro w
    have hc : (-9223372036854775808 ≤ r0 ∧ r0 ≤ 9223372036854775807) := by omega
    simp only [convert, Sem.run_bind, run_underlying Try.underlying72, run_underlying Try.underlying3, Result.andThen_ok, Conv.floatToInt, hr, hmin, hmax, hc, and_self, if_true, Sem.run_pure]
  have hcf : ∀ w, (convert 3 72 (.int .i64 n)).run Try.prog w = .ok (.float .f64 (FloatKind.f64.nearest n)) w := by
    intro w
    simp [convert, run_underlying Try.underlying72, run_underlying Try.underlying3, Conv.intToFloat]
  go_enter Try.func51, Try.ntmps51
  go_wp2_with (go_at_call 66; refine (hsc _).mono ?_; rintro e w' ⟨rfl, rfl⟩)
  go_loopw [3] (fun r wr => ∃ rv : Int, r = .int .i64 rv ∧ 0 ≤ rv ∧ rv ≤ 536870912 ∧ ∃ m, wr = w.drewN m) (fun r _ => (inI r).toNat)
  case atStart => exact ⟨r0, rfl, hr0, hr1, 0, rfl⟩
  case round =>
    obtain ⟨rv, rfl, hv0, hv1, m, rfl⟩ := hrel
    have hb := sq_bnd2 hv0 (by omega)
    have hb0 := sqz rv
    have hw1 : IntKind.i64.wrap (rv * rv) = rv * rv := IntWalk.i64_in _ (by omega)
    have hw2 : IntKind.i64.wrap (rv - 1) = rv - 1 := IntWalk.i64_in _ (by omega)
    go_wp2
    · have hlt : n < rv * rv := by assumption
      have hv : 1 ≤ rv := by
        by_cases hz : rv = 0
        · subst hz; omega
        · omega
      exact ⟨⟨rv - 1, rfl, by omega, by omega, m, rfl⟩, by simp only [inI]; omega⟩
    · have hle : rv * rv ≤ n := by assumption
      clear hw1 hw2
      go_loopw [3] (fun r wr => ∃ rv : Int, r = .int .i64 rv ∧ 0 ≤ rv ∧ rv * rv ≤ n ∧ ∃ m, wr = w.drewN m) (fun r _ => (n - inI r * inI r).toNat)
      case atStart => exact ⟨rv, rfl, hv0, hle, m, rfl⟩
      case round =>
        obtain ⟨r1, rfl, hr0, hr1, m1, rfl⟩ := hrel
        have hb1 : r1 ≤ 268435456 := le_of_sq (by omega) (by omega)
        have hb2 := sq_bnd2 (r := r1 + 1) (by omega) (by omega)
        have hb3 := sqz (r1 + 1)
        have hw1 : IntKind.i64.wrap (r1 + 1) = r1 + 1 := IntWalk.i64_in _ (by omega)
        have hw2 : IntKind.i64.wrap ((r1 + 1) * (r1 + 1)) = (r1 + 1) * (r1 + 1) := IntWalk.i64_in _ (by omega)
        go_wp2
        · have hlt : (r1 + 1) * (r1 + 1) ≤ n := by assumption
          have e : (r1 + 1) * (r1 + 1) = r1 * r1 + 2 * r1 + 1 := by
            simp only [Int.mul_add, Int.add_mul, Int.mul_one, Int.one_mul]; omega
          exact ⟨⟨r1 + 1, rfl, by omega, hlt, m1, rfl⟩, by simp only [inI]; omega⟩
        · have hlt : n < (r1 + 1) * (r1 + 1) := by assumption
          go_ret
          exact ⟨by rw [← isq_unique h0 (by omega) hr0 hr1 hlt]; rfl, m1, rfl⟩
end Go.Proofs

