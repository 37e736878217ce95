/-
  What the reference's test of whole floats hands back, at this seat.
-/
import Derived.Test.YtoheddhbcpjmkaaFlB
import Derived.KernelRfl

namespace Go.Ex
open Go Go.Proofs Go.RowKit
theorem sub_self {b : Nat} {s : Bool} {m : Nat} {e : Int} (h : Ieee.double.read b = .number s m e) : Ieee.double.sub b b = some 0 := by
  unfold Ieee.Format.sub
  rw [h]
  have e1 : (e - min e e).toNat = 0 := by omega
  simp only [Ieee.Datum.opposite, Ieee.Datum.sum, Option.map, e1]
  have e2 : Ieee.signed s m 0 + Ieee.signed (!s) m 0 = 0 := by unfold Ieee.signed; cases s <;> simp <;> omega
  rw [e2]
  cases s <;> rfl

/-- The two tests of the range. -/
def RA (b : Nat) : Prop := FloatKind.f64.format.order b 14069741636278059008 = some .gt ∨ FloatKind.f64.format.order b 14069741636278059008 = some .eq
def RB (b : Nat) : Prop := FloatKind.f64.format.order b 4846369599423283200 = some .lt ∨ FloatKind.f64.format.order b 4846369599423283200 = some .eq

set_option maxRecDepth 100000 in
theorem isWhole2_walk (b : Nat) (N : World → Int) (f : World → World) (hf : ∀ w, Below w.heap.size w (f w)) (ho : FloatKind.f64.format.order b b = some .eq) (hsub : ∀ w, (binOp .sub 72 (.float .f64 b) (.float .f64 b)).run Try.prog w = .ok (.float .f64 0) w)
    (hc : ∀ w, (convert 72 3 (.float .f64 b)).run Try.prog w = .ok (.int .i64 (N w)) (f w)) (hd : ∀ n w, (convert 3 72 (.int .i64 n)).run Try.prog w = .ok (.float .f64 (FloatKind.f64.nearest n)) w)
    (w : World) : Calls Try.prog 49 #[.float .f64 b] w fun x w' => ∃ r, x = .returned (.bool r) ∧ Below w.heap.size w w' ∧
      ((r = true ∧ ¬ (RA b ∧ RB b)) ∨ (r = (FloatKind.f64.format.order (FloatKind.f64.nearest (N w)) b == some .eq) ∧ RA b ∧ RB b)) := by
  have h0 : FloatKind.f64.format.order 0 0 = some .eq := by decide +kernel
  unfold RA RB
  go_enter Try.func49, Try.ntmps49
  go_wp2
  all_goals go_ret
  all_goals refine ⟨_, rfl, by first | exact Below.refl _ _ | exact hf _, ?_⟩
  all_goals (generalize FloatKind.f64.format.order b 14069741636278059008 = A at *; generalize FloatKind.f64.format.order b 4846369599423283200 = B at *; generalize (FloatKind.f64.format.order (FloatKind.f64.nearest (N w)) b == some Ordering.eq) = c at *)
  · rename_i _ h
    rcases A with _ | (_ | _ | _) <;> rcases B with _ | (_ | _ | _) <;> simp_all
  · rename_i _ h
    rcases A with _ | (_ | _ | _) <;> rcases B with _ | (_ | _ | _) <;> simp_all
  · rename_i h
    exact .inl ⟨rfl, fun hh => h hh.1⟩

theorem read_L1 : Ieee.double.read 14069741636278059008 = .number true 5000000000000000 1 :=
  read_word true 5000000000000000 1075 (by omega) (by omega) (.inl (by omega))
theorem read_L2 : Ieee.double.read 4846369599423283200 = .number false 5000000000000000 1 :=
  read_word false 5000000000000000 1075 (by omega) (by omega) (.inl (by omega))

theorem compare_lt_of {x y : Int} (h : x < y) : compare x y = .lt := by
  show compareOfLessAndEq x y = .lt
  unfold compareOfLessAndEq; rw [if_pos h]
theorem compare_gt_of {x y : Int} (h : y < x) : compare x y = .gt := by
  show compareOfLessAndEq x y = .gt
  unfold compareOfLessAndEq; rw [if_neg (by omega), if_neg (by omega)]
theorem compare_gt_or {x y : Int} (h : compare x y = .gt ∨ compare x y = .eq) : y ≤ x := by
  rcases Int.lt_or_le x y with hl | hl
  · rw [compare_lt_of hl] at h; rcases h with h | h <;> cases h
  · exact hl
theorem compare_lt_or {x y : Int} (h : compare x y = .lt ∨ compare x y = .eq) : x ≤ y := by
  rcases Int.lt_or_le y x with hl | hl
  · rw [compare_gt_of hl] at h; rcases h with h | h <;> cases h
  · exact hl

theorem signed_bound (s : Bool) (m : Nat) : -(m : Int) ≤ Ieee.signed s m 0 ∧ Ieee.signed s m 0 ≤ m := by
  unfold Ieee.signed; cases s <;> simp <;> omega

theorem range_small {b : Nat} {s : Bool} {m : Nat} {e : Int} (h : Ieee.double.read b = .number s m e) (h0 : e < 0) : RA b ∧ RB b := by
  obtain ⟨_, _, h3, _⟩ := read_form h
  obtain ⟨k, hk⟩ : ∃ k : Nat, (1 - e).toNat = k + 2 := ⟨(1 - e).toNat - 2, by omega⟩
  have hp := Nat.two_pow_pos k
  obtain ⟨b1, b2⟩ := signed_bound s m
  have hbig : 20000000000000000 ≤ 5000000000000000 * 2 ^ (k + 2) := by rw [Nat.pow_add]; have := Nat.mul_le_mul_left 20000000000000000 hp; omega
  refine ⟨.inl ?_, .inl ?_⟩
  · show Ieee.double.order b 14069741636278059008 = _
    unfold Ieee.Format.order
    rw [h, read_L1, order_at s true m 5000000000000000 e 1 e (Int.le_refl _) (by omega), hk, show (e - e).toNat = 0 by omega]
    rw [compare_gt_of]
    have : Ieee.signed true 5000000000000000 (k + 2) = -((5000000000000000 * 2 ^ (k + 2) : Nat) : Int) := by unfold Ieee.signed; simp only [shl_eq, if_true]
    rw [this]; omega
  · show Ieee.double.order b 4846369599423283200 = _
    unfold Ieee.Format.order
    rw [h, read_L2, order_at s false m 5000000000000000 e 1 e (Int.le_refl _) (by omega), hk, show (e - e).toNat = 0 by omega]
    rw [compare_lt_of]
    have : Ieee.signed false 5000000000000000 (k + 2) = ((5000000000000000 * 2 ^ (k + 2) : Nat) : Int) := by unfold Ieee.signed; simp only [shl_eq, Bool.false_eq_true, if_false]
    rw [this]; omega

theorem range_big {b : Nat} {s : Bool} {m : Nat} {e : Int} (h : Ieee.double.read b = .number s m e) (h0 : 0 ≤ e) (hr : RA b ∧ RB b) : -10000000000000000 ≤ Ieee.signed s m e.toNat ∧ Ieee.signed s m e.toNat ≤ 10000000000000000 := by
  obtain ⟨r1, r2⟩ := hr
  have e1 : Ieee.signed true 5000000000000000 ((1 : Int) - 0).toNat = -10000000000000000 := by decide
  have e2 : Ieee.signed false 5000000000000000 ((1 : Int) - 0).toNat = 10000000000000000 := by decide
  have e3 : (e - 0).toNat = e.toNat := by omega
  unfold RA at r1; unfold RB at r2
  have o1 : FloatKind.f64.format.order b 14069741636278059008 = some (compare (Ieee.signed s m e.toNat) (-10000000000000000)) := by
    show Ieee.double.order b 14069741636278059008 = _
    unfold Ieee.Format.order
    rw [h, read_L1, order_at s true m 5000000000000000 e 1 0 h0 (by omega), e1, e3]
  have o2 : FloatKind.f64.format.order b 4846369599423283200 = some (compare (Ieee.signed s m e.toNat) 10000000000000000) := by
    show Ieee.double.order b 4846369599423283200 = _
    unfold Ieee.Format.order
    rw [h, read_L2, order_at s false m 5000000000000000 e 1 0 h0 (by omega), e2, e3]
  rw [o1] at r1; rw [o2] at r2
  exact ⟨compare_gt_or (by simpa using r1), compare_lt_or (by simpa using r2)⟩

theorem floatToInt_run (b : Nat) (n : Int) (hn : (FloatKind.f64.decode b).toInt .zero = some n) (w : World) : ∃ m w', (convert 72 3 (.float .f64 b)).run Try.prog w = .ok (.int .i64 m) w' ∧ Below w.heap.size w w' ∧ (-9223372036854775808 ≤ n ∧ n ≤ 9223372036854775807 → m = n) := by
  have hmin : IntKind.i64.min = -9223372036854775808 := by decide
  have hmax : IntKind.i64.max = 9223372036854775807 := by decide
  have e : (convert 72 3 (.float .f64 b)).run Try.prog w = (Conv.floatToInt .f64 b .i64).run Try.prog w := by
    simp [convert, run_underlying Try.underlying72, run_underlying Try.underlying3]
  rw [e]
  simp only [Conv.floatToInt, hn, hmin, hmax]
  split
  · exact ⟨n, w, by simp, Below.refl _ _, fun _ => rfl⟩
  · rename_i hr
    simp only [Sem.run_bind, run_choose_drew]
    split
    · exact ⟨_, w, by simp; rfl, Below.refl _ _, fun h => absurd h hr⟩
    · exact ⟨_, w.drew, by simp; rfl, (Below.refl _ _).drew, fun h => absurd h hr⟩

theorem intToFloat_run (n : Int) (w : World) : (convert 3 72 (.int .i64 n)).run Try.prog w = .ok (.float .f64 (FloatKind.f64.nearest n)) w := by
  simp [convert, run_underlying Try.underlying72, run_underlying Try.underlying3, Conv.intToFloat]

theorem nan_word (u q : Nat) (hq : q < 4503599627370495) : ∃ s f, Ieee.double.read (u * 9223372036854775808 + 9218868437227405312 + 1 + q) = .nan s f := by
  rw [dbl_read, if_neg (by omega), if_neg (by omega), if_neg (by omega)]
  exact ⟨_, _, rfl⟩

set_option maxRecDepth 100000 in
theorem isWhole2_calls (b : Nat) (w : World) : Calls Try.prog 49 #[.float .f64 b] w fun e w' => e = .returned (.bool (wI b).isSome) ∧ Below w.heap.size w w' := by
  cases hd : Ieee.double.read b with
  | nan s f =>
    have hw : (wI b).isSome = false := by unfold wI; rw [hd]; rfl
    have ho : FloatKind.f64.format.order b b = none := order_nan b hd
    rw [hw]
    go_enter Try.func49, Try.ntmps49
    go_wp2
    all_goals go_ret
    all_goals exact ⟨rfl, Below.refl _ _⟩
  | infinity s =>
    have hw : (wI b).isSome = false := by unfold wI; rw [hd]; rfl
    rw [hw]
    have ho : FloatKind.f64.format.order b b = some .eq := by
      show Ieee.double.order b b = _
      unfold Ieee.Format.order
      rw [hd]
      cases s <;> rfl
    have hnan : Ieee.double.sub b b = none := by
      unfold Ieee.Format.sub
      rw [hd]
      cases s <;> rfl
    have hsub : ∀ w, (binOp .sub 72 (.float .f64 b) (.float .f64 b)).run Try.prog w = .ok (.float .f64 (Question.cut (.nanBits .f64 b b) (w.tape w.drawn (.nanBits .f64 b b)))) w.drew := by
      intro w
      have hnan' : FloatKind.f64.format.sub b b = none := hnan
      simp [binOp, Op.floatArith, hnan', Question.forced]
    have hT : ∀ t, FloatKind.f64.format.order (Question.cut (.nanBits .f64 b b) t) 0 = none := by
      intro t
      have hr : ∃ s f, Ieee.double.read (Question.cut (.nanBits .f64 b b) t) = .nan s f := nan_word (t % 2) ((t / 2) % (2 ^ 52 - 1)) (Nat.mod_lt _ (by decide))
      obtain ⟨s, f, hr⟩ := hr
      show Ieee.double.order _ 0 = none
      unfold Ieee.Format.order
      rw [hr]; rfl
    go_enter Try.func49, Try.ntmps49
    go_wp2
    all_goals go_ret
    all_goals exact ⟨rfl, (Below.refl _ _).drew⟩
  | number s m e =>
    have ho : FloatKind.f64.format.order b b = some .eq := order_self hd hd
    have hsub : ∀ w, (binOp .sub 72 (.float .f64 b) (.float .f64 b)).run Try.prog w = .ok (.float .f64 0) w := fun w => run_float_arith w .sub 72 .f64 b b 0 (sub_self hd)
    have hn := toInt_form hd
    generalize hnn : Ieee.signed s (m * 2 ^ e.toNat / 2 ^ (-e).toNat) 0 = n at hn
    have hc := floatToInt_run b n hn
    refine (isWhole2_walk b (fun w => (hc w).choose) (fun w => (hc w).choose_spec.choose) (fun w => (hc w).choose_spec.choose_spec.2.1) ho hsub (fun w => (hc w).choose_spec.choose_spec.1) intToFloat_run w).mono ?_
    rintro x w' ⟨r, rfl, hb, hr⟩
    refine ⟨?_, hb⟩
    have hN := (hc w).choose_spec.choose_spec.2.2
    generalize (hc w).choose = N at hN hr
    by_cases h0 : 0 ≤ e
    · have hw : (wI b).isSome = true := by unfold wI; rw [hd]; simp [h0]
      rw [hw]
      rcases hr with ⟨rfl, _⟩ | ⟨rfl, hrr⟩
      · rfl
      · have hbnd := range_big hd h0 hrr
        have hnv : n = Ieee.signed s m e.toNat := by
          rw [← hnn, show (-e).toNat = 0 by omega, Nat.pow_zero, Nat.div_one, signed_shift]; simp
        have : N = n := hN (by omega)
        subst this
        have := back_eq hd hn
        rw [hw] at this
        rw [show (FloatKind.f64.format.order (FloatKind.f64.nearest N) b == some .eq) = (Ieee.double.order (FloatKind.f64.nearest N) b == some .eq) from rfl, this]
    · have hrr := range_small hd (by omega)
      rcases hr with ⟨_, hr⟩ | ⟨rfl, _⟩
      · exact absurd hrr hr
      · obtain ⟨_, _, h3, _⟩ := read_form hd
        have hbnd := signed_bound s (m * 2 ^ e.toNat / 2 ^ (-e).toNat)
        rw [hnn] at hbnd
        have hle : m * 2 ^ e.toNat / 2 ^ (-e).toNat ≤ m := by
          rw [show e.toNat = 0 by omega, Nat.pow_zero, Nat.mul_one]; exact Nat.div_le_self _ _
        have : N = n := hN (by omega)
        subst this
        rw [← back_eq hd hn]
        rfl
end Go.Ex

