/-
  What the functions on floats of this seat hand back.
-/
import Derived.Test.YtoheddhbcpjmkaaFlP1
import Derived.Test.YtoheddhbcpjmkaaProg
import Derived.WalkKit
import Derived.ProofKit
import Derived.Handy
import Derived.Laws.Externs

namespace Go.Ex
open Go Go.Proofs Go.RowKit

theorem run_archTrunc (args : Array Value) (w : World) : (callFunc 78 args).run Try.prog w = ((Extern.MathFloor.toIntegral "math.archTrunc" .zero args).run Try.prog w).andThen fun v w' => .ok (.value v) w' :=
  run_callFunc_extern Try.func78 (by kernel_rfl) (by kernel_rfl) (by kernel_rfl) (by kernel_rfl) args w
theorem run_bits (b : Nat) (w : World) : (callFunc 67 #[.float .f64 b]).run Try.prog w = .ok (.value (.int .u64 b)) w := by
  rw [run_callFunc_extern Try.func67 (by kernel_rfl) (by kernel_rfl) (by kernel_rfl) (e := Extern.MathFloatBits.float64bits) (by kernel_rfl)]; rfl
theorem run_frombits (n : Int) (w : World) : (callFunc 74 #[.int .u64 n]).run Try.prog w = .ok (.value (.float .f64 n.toNat)) w := by
  rw [run_callFunc_extern Try.func74 (by kernel_rfl) (by kernel_rfl) (by kernel_rfl) (e := Extern.MathFloatBits.float64frombits) (by kernel_rfl)]; rfl

theorem andNot_sign (b : Nat) (hb : b < 18446744073709551616) : (bits BinOp.andNot IntKind.u64 (b : Int) 9223372036854775808).toNat = b % 9223372036854775808 := by
  have h := u64_andNot_nat b 9223372036854775808 hb (by omega)
  have e : (9223372036854775808 : Int) = ((9223372036854775808 : Nat) : Int) := rfl
  rw [e, h, Int.toNat_natCast]
  exact Nat.and_two_pow_sub_one_eq_mod b 63

theorem abs_calls (b : Nat) (hb : b < 18446744073709551616) (w : World) : Calls Try.prog 64 #[.float .f64 b] w fun e w' => e = .returned (.float .f64 (b % 9223372036854775808)) ∧ Below w.heap.size w w' := by
  have h1 := run_bits
  have h2 := run_frombits
  go_enter Try.func64, Try.ntmps64
  go_wp2
  all_goals go_ret
  all_goals refine ⟨?_, Below.refl _ _⟩
  rw [andNot_sign b hb]
  rfl



theorem trunc_calls (b : Nat) (t : World → Nat) (f : World → World) (hf : ∀ w, Below w.heap.size w (f w)) (h1 : ∀ w, (callFunc 78 #[.float .f64 b]).run Try.prog w = .ok (.value (.float .f64 (t w))) (f w)) (w : World) :
    Calls Try.prog 72 #[.float .f64 b] w fun e w' => e = .returned (.float .f64 (t w)) ∧ Below w.heap.size w w' := by
  go_enter Try.func72, Try.ntmps72
  go_wp2
  all_goals go_ret
  all_goals exact ⟨rfl, hf w⟩

theorem isInf_calls (b : Nat) (hb : b < 18446744073709551616) (w : World) : Calls Try.prog 73 #[.float .f64 b, .int .i64 0] w fun e w' => e = .returned (.bool (Ieee.double.order (b % 9223372036854775808) 9218868437227405311 == some .gt)) ∧ Below w.heap.size w w' := by
  have h2 := abs_calls b hb
  go_enter Try.func73, Try.ntmps73
  go_wp2_with fail
  refine (h2 _).mono ?_
  rintro e w' ⟨rfl, hbl⟩
  go_wp2
  all_goals go_ret
  all_goals exact ⟨rfl, hbl⟩

theorem order_max {b : Nat} {s : Bool} {m : Nat} {e : Int} (h : Ieee.double.read b = .number s m e) : (Ieee.double.order (b % 9223372036854775808) 9218868437227405311 == some .gt) = false := by
  have hr : Ieee.double.read (b % 9223372036854775808) = .number false m e := by
    rw [dbl_read] at h ⊢
    have a1 : b % 9223372036854775808 / 9223372036854775808 % 2 = 0 := by omega
    rw [a1, Nat.mod_mod]
    split at h
    · rename_i hc; rw [if_pos hc]; cases h; rfl
    · rename_i hc; rw [if_neg hc]
      split at h
      · rename_i hc'; rw [if_pos hc']; cases h; rfl
      · split at h <;> cases h
  obtain ⟨h1, h2, h3, _⟩ := read_form h
  have hmax : Ieee.double.read 9218868437227405311 = .number false 9007199254740991 971 := by
    have := read_word false 9007199254740991 2045 (by omega) (by omega) (.inl (by omega))
    exact this
  have hle : signed0 m (e - -1074).toNat ≤ signed0 9007199254740991 2045 := signed0_le (by omega) (by omega)
  unfold Ieee.Format.order
  rw [hr, hmax, order_at false false m 9007199254740991 e 971 (-1074) h1 (by omega)]
  have e2 : ((971 : Int) - -1074).toNat = 2045 := by omega
  rw [e2, signed_false, signed_false]
  generalize signed0 m (e - -1074).toNat = x at hle ⊢
  generalize signed0 9007199254740991 2045 = y at hle ⊢
  have : compare (x : Int) (y : Int) ≠ .gt := by
    intro hh
    have hh : compareOfLessAndEq (x : Int) (y : Int) = .gt := hh
    unfold compareOfLessAndEq at hh
    split at hh
    · cases hh
    · split at hh
      · cases hh
      · omega
  cases hc : compare (x : Int) (y : Int) with
  | lt => rfl
  | eq => rfl
  | gt => exact absurd hc this

theorem order_nan (a : Nat) {b : Nat} {s : Bool} {f : Nat} (h : Ieee.double.read b = .nan s f) : Ieee.double.order a b = none := by
  unfold Ieee.Format.order
  rw [h]
  cases Ieee.double.read a <;> rfl

theorem toIntegral_eq (b : Nat) : ∃ q : Question, Extern.MathFloor.toIntegral "math.archTrunc" .zero #[.float .f64 b] = (match FloatKind.f64.decode b with
    | .nan s t =>
      if FloatKind.f64.format.quiet t = t then pure (.float .f64 b) else do
      let kept ← choose q
      pure (.float .f64 (if kept == 1 then b else FloatKind.f64.encode (.nan s (FloatKind.f64.format.quiet t))))
    | d => pure (.float .f64 (FloatKind.f64.encode (d.integral .zero)))) := ⟨_, rfl⟩

theorem archTrunc_run (b : Nat) (w : World) : ∃ t w', (callFunc 78 #[.float .f64 b]).run Try.prog w = .ok (.value (.float .f64 t)) w' ∧ Below w.heap.size w w' ∧ ((∃ s f, Ieee.double.read b = .nan s f) ∨ t = truncB b) := by
  obtain ⟨q, hq⟩ := toIntegral_eq b
  rw [run_archTrunc, hq]
  cases hd : Ieee.double.read b with
  | nan s f =>
    have hd' : FloatKind.f64.decode b = .nan s f := hd
    rw [hd']
    simp only
    split
    · exact ⟨b, w, by simp, Below.refl _ _, .inl ⟨s, f, rfl⟩⟩
    · simp only [Sem.run_bind, run_choose_drew]
      split
      · exact ⟨_, w, by simp; rfl, Below.refl _ _, .inl ⟨s, f, rfl⟩⟩
      · exact ⟨_, w.drew, by simp; rfl, (Below.refl _ _).drew, .inl ⟨s, f, rfl⟩⟩
  | number s m e =>
    have hd' : FloatKind.f64.decode b = .number s m e := hd
    exact ⟨truncB b, w, by simp [hd', truncB], Below.refl _ _, .inr rfl⟩
  | infinity s =>
    have hd' : FloatKind.f64.decode b = .infinity s := hd
    exact ⟨truncB b, w, by simp [hd', truncB], Below.refl _ _, .inr rfl⟩

theorem whole_val (b t : Nat) (ht : (∃ s f, Ieee.double.read b = .nan s f) ∨ t = truncB b) :
    (Op.floatEq .f64 t b = true → (!(Ieee.double.order (b % 9223372036854775808) 9218868437227405311 == some .gt)) = (wI b).isSome) ∧ (Op.floatEq .f64 t b = false → (wI b).isSome = false) := by
  have ef : Op.floatEq .f64 t b = (Ieee.double.order t b == some .eq) := rfl
  cases hd : Ieee.double.read b with
  | nan s f => rw [ef, order_nan t hd]; exact ⟨fun h => by simp at h, fun _ => by unfold wI; rw [hd]; rfl⟩
  | number s m e =>
    have ht := ht.resolve_left (fun ⟨s, f, h⟩ => by rw [hd] at h; cases h)
    subst ht
    rw [ef, trunc_eq hd, order_max hd]
    cases (wI b).isSome <;> simp
  | infinity s =>
    have hw : (wI b).isSome = false := by unfold wI; rw [hd]; rfl
    have hr : Ieee.double.read (b % 9223372036854775808) = .infinity false := by
      rw [dbl_read] at hd ⊢
      have a1 : b % 9223372036854775808 / 9223372036854775808 % 2 = 0 := by omega
      rw [a1, Nat.mod_mod]
      split at hd
      · cases hd
      · rename_i hc; rw [if_neg hc]
        split at hd
        · cases hd
        · rename_i hc'; rw [if_neg hc']
          split at hd
          · rename_i hc''; rw [if_pos hc'']; rfl
          · cases hd
    have hmax : Ieee.double.read 9218868437227405311 = .number false 9007199254740991 971 :=
      read_word false 9007199254740991 2045 (by omega) (by omega) (.inl (by omega))
    have ho : Ieee.double.order (b % 9223372036854775808) 9218868437227405311 = some .gt := by
      unfold Ieee.Format.order; rw [hr, hmax]; rfl
    rw [hw, ho]
    exact ⟨fun _ => rfl, fun _ => rfl⟩

theorem isWhole_calls (b : Nat) (hb : b < 18446744073709551616) (w : World) : Calls Try.prog 63 #[.float .f64 b] w fun e w' => e = .returned (.bool (wI b).isSome) ∧ Below w.heap.size w w' := by
  have hT : ∀ w, ∃ t, Calls Try.prog 72 #[.float .f64 b] w (fun e w' => e = .returned (.float .f64 t) ∧ Below w.heap.size w w') ∧ ((∃ s f, Ieee.double.read b = .nan s f) ∨ t = truncB b) := by
    intro w
    have ha := archTrunc_run b
    have hc := fun w => trunc_calls b (fun w => (ha w).choose) (fun w => (ha w).choose_spec.choose) (fun w => (ha w).choose_spec.choose_spec.2.1) (fun w => (ha w).choose_spec.choose_spec.1) w
    exact ⟨_, hc w, (ha w).choose_spec.choose_spec.2.2⟩
  have hI := isInf_calls b hb
  go_enter Try.func63, Try.ntmps63
  go_wp2_with fail
  obtain ⟨t, h1, h2⟩ := hT w
  obtain ⟨v1, v2⟩ := whole_val b t h2
  refine h1.mono ?_
  rintro e w' ⟨rfl, hbl⟩
  go_wp2_with fail
  · rename_i hq _ _
    refine (hI _).mono ?_
    rintro e w'' ⟨rfl, hbl'⟩
    go_wp2
    all_goals go_ret
    all_goals refine ⟨?_, hbl.trans (hbl'.mono hbl.size)⟩
    have hq' : Op.floatEq .f64 t b = true := by
      show (FloatKind.f64.format.order t b == some .eq) = true
      rw [hq]; rfl
    rw [← v1 hq']
    rfl
  · rename_i hq
    go_ret
    refine ⟨?_, hbl⟩
    have hq' : Op.floatEq .f64 t b = false := by
      show (FloatKind.f64.format.order t b == some .eq) = false
      simpa using hq
    rw [v2 hq']
    rfl

end Go.Ex

