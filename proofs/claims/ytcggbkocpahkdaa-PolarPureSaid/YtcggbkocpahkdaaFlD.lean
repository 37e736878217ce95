/-
  The walk of divisor (137): the greatest common divisor of the numbers of a slice.
-/
import Derived.Test.YtcggbkocpahkdaaProg
import Derived.WalkKit
import Derived.Deep.QuietTactic
import Derived.BigQuiet
import Derived.Lib.Hide
namespace Go.Proofs
open Go Go.RowKit

def gcdL (xs : List Int) : Nat := xs.foldl (fun g x => Nat.gcd g x.natAbs) 0
theorem gcdL_snoc (xs : List Int) (x : Int) : gcdL (xs ++ [x]) = Nat.gcd (gcdL xs) x.natAbs := by
  simp [gcdL]
theorem gcd_step (g n : Int) : Nat.gcd n.natAbs (g.tmod n).natAbs = Nat.gcd g.natAbs n.natAbs := by
  rw [Int.natAbs_tmod, Nat.gcd_comm g.natAbs, Nat.gcd_rec n.natAbs g.natAbs, Nat.gcd_comm]
theorem tmod_lt (g n : Int) (hn : n ≠ 0) : (g.tmod n).natAbs < n.natAbs := by
  rw [Int.natAbs_tmod]
  exact Nat.mod_lt _ (Int.natAbs_pos.2 hn)
theorem tmod_le (g n : Int) : (g.tmod n).natAbs ≤ g.natAbs := by
  rw [Int.natAbs_tmod]
  exact Nat.mod_le _ _

set_option maxHeartbeats 1000000 in
theorem divisor_any (b off len cap : Nat) (xs : List Int) (w : World) (hz : len = xs.length) (hbig : len ≤ 9223372036854775807) (hc : ∀ j, j < xs.length → w.cell? ⟨b, off + j, none⟩ = some (.int .i64 (xs.getD j 0)))
    (hr : ∀ x ∈ xs, x.natAbs < 9223372036854775808) :
    Calls Try.prog 137 #[.slice (some ⟨b, off, none⟩) len cap] w fun e w' => e = .returned (.int .i64 (gcdL xs)) ∧ ∃ n, w' = w.drewN n := by
  go_enter Try.func137, Try.ntmps137
  go_wp2
  go_loopw [3, 8] (fun g i wr => ∃ (k : Nat) (gv : Int), k ≤ len ∧ i = .int .i64 k ∧ g = .int .i64 gv ∧ gv.natAbs = gcdL (xs.take k) ∧ gv.natAbs < 9223372036854775808 ∧ ∃ n, wr = w.drewN n) (fun _ i _ => len - (intOf i).toNat)
  case atStart => exact ⟨0, 0, Nat.zero_le _, rfl, rfl, rfl, by decide, 0, rfl⟩
  case round =>
    obtain ⟨k, gv, hk, rfl, rfl, hg, hgl, m, rfl⟩ := hrel
    go_wp2
    · obtain ⟨wo, hwo⟩ : ∃ wo : World, wo = w.drewN m := ⟨_, rfl⟩
      have hlt : k < xs.length := by assumption
      have HG : Hid (gv.natAbs = gcdL (xs.take k)) := Lib.hid hg
      clear hg
      have hx := hr xs[k] (List.getElem_mem hlt)
      go_loopw [3, 5] (fun g n wr => ∃ (a c : Int), g = .int .i64 a ∧ n = .int .i64 c ∧ Nat.gcd a.natAbs c.natAbs = Nat.gcd gv.natAbs xs[k].natAbs ∧ a.natAbs < 9223372036854775808 ∧ c.natAbs < 9223372036854775808 ∧ ∃ n, wr = w.drewN n) (fun _ n _ => (intOf n).natAbs)
      case atStart => exact ⟨gv, xs[k], rfl, rfl, rfl, hgl, hx, m, rfl⟩
      case round =>
        obtain ⟨a, c, rfl, rfl, hgc, ha, hcc, m2, rfl⟩ := hrel
        by_cases hc0 : c = 0
        · subst hc0
          go_wp2
          go_round
          case rel => exact ⟨k + 1, a, by omega, by go_num, rfl, by
            rw [List.take_succ_eq_append_getElem hlt, gcdL_snoc, ← HG.out, ← hgc]; simp, ha, m2, rfl⟩
          case measure => simp [intOf]; omega
        · have hne : (c != 0) = true := by simpa using hc0
          have hw1 : IntKind.i64.wrap (a.tmod c) = a.tmod c := by
            have := tmod_le a c
            exact IntWalk.i64_in _ (by omega)
          go_wp2
          go_quiet (fail)
          go_round
          case rel =>
            (repeat apply Exists.intro)
            exact ⟨⟨c, a.tmod c, rfl, rfl, by rw [gcd_step a c]; exact hgc, hcc, by have := tmod_le a c; omega, _, World.drewN_drewN _ _ _⟩, rfl⟩
          case measure => simp only [intOf]; exact tmod_lt a c hc0
    · have hlt : gv < -gv := by assumption
      have hke : k = xs.length := by omega
      go_ret
      refine ⟨?_, m, rfl⟩
      have e : xs.take k = xs := by rw [hke, List.take_length]
      rw [e] at hg
      show Ending.returned (.int .i64 (-gv)) = _
      rw [← hg, show -gv = (gv.natAbs : Int) by omega]
    · have hle : -gv ≤ gv := by assumption
      have hke : k = xs.length := by omega
      go_ret
      refine ⟨?_, m, rfl⟩
      have e : xs.take k = xs := by rw [hke, List.take_length]
      rw [e] at hg
      have e2 : (gcdL xs : Int) = gv := by omega
      rw [e2]
      rfl

theorem size_any (x : Int) (w : World) (hx : x.natAbs < 9223372036854775808) : Calls Try.prog 148 #[.int .i64 x] w fun e w' => e = .returned (.int .i64 (x.natAbs : Int)) ∧ w = w' := by
  have hlo : -9223372036854775807 ≤ x := by omega
  have hhi : x ≤ 9223372036854775807 := by omega
  go_enter Try.func148, Try.ntmps148
  go_wp2
  · have h : x < -x := by assumption
    go_ret
    refine ⟨?_, rfl⟩
    have e : (x.natAbs : Int) = -x := by omega
    rw [e]
    rfl
  · have h : -x ≤ x := by assumption
    go_ret
    refine ⟨?_, rfl⟩
    have e : (x.natAbs : Int) = x := by omega
    rw [e]
    rfl

/-- The walk of Gcd (141), of numbers of which none is the least one. -/
theorem gcd_any (x y : Int) (w : World) (hx : x.natAbs < 9223372036854775808) (hy : y.natAbs < 9223372036854775808) :
    Calls Try.prog 141 #[.int .i64 x, .int .i64 y] w fun e w' => e = .returned (.int .i64 (Nat.gcd x.natAbs y.natAbs)) ∧ ∃ n, w' = w.drewN n := by
  go_enter Try.func141, Try.ntmps141
  go_wp2
  go_loopw [0, 1] (fun g n wr => ∃ (a c : Int), g = .int .i64 a ∧ n = .int .i64 c ∧ Nat.gcd a.natAbs c.natAbs = Nat.gcd x.natAbs y.natAbs ∧ a.natAbs < 9223372036854775808 ∧ c.natAbs < 9223372036854775808 ∧ ∃ n, wr = w.drewN n) (fun _ n _ => (intOf n).natAbs)
  case atStart => exact ⟨x, y, rfl, rfl, rfl, hx, hy, 0, rfl⟩
  case round =>
    obtain ⟨a, c, rfl, rfl, hgc, ha, hcc, m2, rfl⟩ := hrel
    by_cases hc0 : c = 0
    · subst hc0
      have HG : Hid (Nat.gcd a.natAbs (Int.natAbs 0) = Nat.gcd x.natAbs y.natAbs) := Lib.hid hgc
      clear hgc
      go_wp2_with (go_at_call 148; refine (size_any _ _ ha).mono ?_; rintro e w' ⟨rfl, rfl⟩)
      go_ret
      refine ⟨?_, m2, rfl⟩
      have e := HG.out
      rw [Int.natAbs_zero, Nat.gcd_zero_right] at e
      rw [← e]
      rfl
    · have hne : (c != 0) = true := by simpa using hc0
      have hw1 : IntKind.i64.wrap (a.tmod c) = a.tmod c := by
        have := tmod_le a c
        exact IntWalk.i64_in _ (by omega)
      go_wp2
      go_quiet (fail)
      go_round
      case rel =>
        (repeat apply Exists.intro)
        exact ⟨⟨c, a.tmod c, rfl, rfl, by rw [gcd_step a c]; exact hgc, hcc, by have := tmod_le a c; omega, _, World.drewN_drewN _ _ _⟩, rfl⟩
      case measure => simp only [intOf]; exact tmod_lt a c hc0

end Go.Proofs
