/-
  Walks of bits.Mul64 (59), bits.Div64 (60), quotient (37), quotientUp (39).
-/
import Derived.Test.YtoheddhbcpjmkaaLwBaW
import Derived.Test.YtoheddhbcpjmkaaLwBaL
import Derived.Lib.Mul64
import Derived.Laws.Bits64b

namespace Go.Proofs
open Go Go.RowKit Go.Ex

theorem bitLen_log {y : Nat} (h0 : y ≠ 0) (h : y < 18446744073709551616) : Lib.bitLen y = y.log2 + 1 := by
  have h1 := Nat.log2_self_le h0
  have h2 : y < 2 ^ (y.log2 + 1) := Nat.lt_log2_self
  rw [Lib.bitLen_shift y.log2 y h1 h]
  have e : y / 2 ^ y.log2 = 1 := by
    have a : 1 ≤ y / 2 ^ y.log2 := (Nat.le_div_iff_mul_le (Nat.two_pow_pos _)).2 (by omega)
    have b : y / 2 ^ y.log2 < 2 := (Nat.div_lt_iff_lt_mul (Nat.two_pow_pos _)).2 (by rw [Nat.pow_succ] at h2; omega)
    omega
  rw [e]
  have : Lib.bitLen 1 = 1 := by decide
  rw [this]
theorem div64_zero (lo y : Nat) (hl : lo < 18446744073709551616) (hy0 : 0 < y) (hy : y < 18446744073709551616) (w : World) :
    Calls Try.prog 60 #[.int .u64 ((0 : Nat) : Int), .int .u64 (lo : Int), .int .u64 (y : Int)] w fun e w' => e = .returned (.tuple #[.int .u64 ((lo / y : Nat) : Int), .int .u64 ((lo % y : Nat) : Int)]) ∧ Below w.heap.size w w' := by
  have hne : ((y : Int) != 0) = true := by simp; omega
  have hne2 : ((y : Int) == 0) = false := by simp; omega
  go_enter Try.func60, Try.ntmps60
  go_wp2
  have hw1 : IntKind.u64.wrap ((lo : Int) / (y : Int)) = ((lo / y : Nat) : Int) := by
    have e : (lo : Int) / (y : Int) = ((lo / y : Nat) : Int) := (Int.natCast_ediv lo y).symm
    have : lo / y ≤ lo := Nat.div_le_self _ _
    rw [e, IntKind.wrap_u64]
    generalize lo / y = k at *
    omega
  go_quiet (fail)
  go_wp2
  go_ret2
  refine ⟨?_, below_drw w _⟩
  simp only [hw1, ← Int.natCast_emod]
  rfl
theorem lz_any {y s : Nat} (hy0 : y ≠ 0) (hy : y < 18446744073709551616) (hs : s = 63 - y.log2) (w : World) : Calls Try.prog 68 #[.int .u64 (y : Int)] w fun e w' => e = .returned (.int .i64 (s : Int)) ∧ w = w' := by
  refine (Try.bits_LeadingZeros64 (y : Int) w (by omega) (by omega)).mono ?_
  rintro e w' ⟨rfl, rfl⟩
  refine ⟨?_, rfl⟩
  rw [Int.toNat_natCast, bitLen_log hy0 hy]
  have : y.log2 < 64 := (Nat.log2_lt hy0).2 (by simpa using hy)
  congr 2
  omega
/-- The numbers of the division, put up. -/
structure Dv (hi lo y s Y Y1 Y0 U L L1 L0 : Nat) : Prop where
  hY : Y = y * 2 ^ s
  hYb : 9223372036854775808 ≤ Y ∧ Y < 18446744073709551616
  hYs : Y = Y1 * 4294967296 + Y0 ∧ Y0 < 4294967296 ∧ 2147483648 ≤ Y1 ∧ Y1 < 4294967296
  hU : U < Y
  hL : L = L1 * 4294967296 + L0 ∧ L1 < 4294967296 ∧ L0 < 4294967296
  hT : (hi * 18446744073709551616 + lo) * 2 ^ s = U * 18446744073709551616 + L
  hs : s ≤ 63
theorem lin_two (U L1 V a : Nat) (h : U * 4294967296 + L1 = a + V) : U * 18446744073709551616 + L1 * 4294967296 = a * 4294967296 + V * 4294967296 := by
  have := congrArg (· * 4294967296) h
  simp only [Nat.add_mul, Nat.mul_assoc, Nat.reduceMul] at this
  exact this
theorem dv_end {hi lo y s Y Y1 Y0 U L L1 L0 : Nat} (h : Dv hi lo y s Y Y1 Y0 U L L1 L0) (hy : 0 < y) {q V q0 V2 : Nat} (h1 : U * 4294967296 + L1 = q * Y + V) (h2 : V < Y) (h3 : V * 4294967296 + L0 = q0 * Y + V2) (h4 : V2 < Y) :
    (hi * 18446744073709551616 + lo) / y = q * 4294967296 + q0 ∧ (hi * 18446744073709551616 + lo) % y = V2 / 2 ^ s := by
  have hp := Nat.two_pow_pos s
  obtain ⟨T, hT⟩ : ∃ T, T = hi * 18446744073709551616 + lo := ⟨_, rfl⟩
  have e0 := h.hT
  rw [← hT] at e0 ⊢
  have e1 : T * 2 ^ s = (q * 4294967296 + q0) * Y + V2 := by
    have e2 : (q * 4294967296 + q0) * Y = q * Y * 4294967296 + q0 * Y := by rw [Nat.add_mul, Nat.mul_right_comm]
    have e3 := h.hL.1
    rw [e0, e2]
    clear e2 e0 h
    have e4 := lin_two U L1 V (q * Y) h1
    have e5 : V * 4294967296 + L0 = q0 * Y + V2 := h3
    rw [e3, ← Nat.add_assoc, e4, Nat.add_assoc, e5, ← Nat.add_assoc]
  have hYp : 0 < Y := by have := h.hYb; omega
  have d1 : T * 2 ^ s / Y = q * 4294967296 + q0 := by
    rw [e1, Nat.mul_comm, Nat.mul_add_div hYp, Nat.div_eq_of_lt h4, Nat.add_zero]
  have m1 : T * 2 ^ s % Y = V2 := by
    rw [e1, Nat.mul_comm, Nat.mul_add_mod, Nat.mod_eq_of_lt h4]
  rw [h.hY, Nat.mul_div_mul_right _ _ hp] at d1
  rw [h.hY, Nat.mul_mod_mul_right] at m1
  refine ⟨d1, ?_⟩
  rw [← m1, Nat.mul_div_cancel _ hp]
theorem dv_any {hi lo y s : Nat} (hh : hi < y) (hl : lo < 18446744073709551616) (hy : y < 9223372036854775808) (hs : s = 63 - y.log2) : ∃ Y Y1 Y0 U L L1 L0, Dv hi lo y s Y Y1 Y0 U L L1 L0 ∧ Y < 18446744073709551616 ∧ hi * 2 ^ s < 18446744073709551616 ∧ Y1 = Y / 4294967296 ∧ Y0 = Y % 4294967296 ∧ U = hi * 2 ^ s + lo / 2 ^ (64 - s) ∧ lo / 2 ^ (64 - s) < 2 ^ s ∧ L = lo * 2 ^ s % 18446744073709551616 ∧ L1 = L / 4294967296 ∧ L0 = L % 4294967296 := by
  have hy0 : y ≠ 0 := by omega
  have hlog : y.log2 ≤ 62 := by
    have : y.log2 < 63 := (Nat.log2_lt hy0).2 (by simpa using hy)
    omega
  have hp := Nat.two_pow_pos s
  have hp2 := Nat.two_pow_pos (64 - s)
  have e64 : 2 ^ s * 2 ^ (64 - s) = 18446744073709551616 := by
    rw [← Nat.pow_add, show s + (64 - s) = 64 by omega]
  have y1 : y * 2 ^ s < 18446744073709551616 := by
    have h2 : y < 2 ^ (y.log2 + 1) := Nat.lt_log2_self
    have h3 := Nat.mul_lt_mul_of_pos_right h2 hp
    rw [← Nat.pow_add, show y.log2 + 1 + s = 64 by omega] at h3
    exact h3
  have y2 : 9223372036854775808 ≤ y * 2 ^ s := by
    have h2 := Nat.log2_self_le hy0
    have h3 := Nat.mul_le_mul_right (2 ^ s) h2
    rw [← Nat.pow_add, show y.log2 + s = 63 by omega] at h3
    exact h3
  have hG : lo / 2 ^ (64 - s) < 2 ^ s := (Nat.div_lt_iff_lt_mul hp2).2 (by omega)
  have hH : hi * 2 ^ s + 2 ^ s ≤ y * 2 ^ s := by
    have := Nat.mul_le_mul_right (2 ^ s) (show hi + 1 ≤ y by omega)
    rw [Nat.add_mul, Nat.one_mul] at this
    exact this
  have hsl : lo * 2 ^ s = lo / 2 ^ (64 - s) * 18446744073709551616 + lo * 2 ^ s % 18446744073709551616 := by
    have h1 := Nat.div_add_mod (lo * 2 ^ s) 18446744073709551616
    have h2 : lo * 2 ^ s / 18446744073709551616 = lo / 2 ^ (64 - s) := by
      rw [← e64, Nat.mul_comm (2 ^ s) (2 ^ (64 - s)), Nat.mul_div_mul_right _ _ hp]
    rw [h2] at h1
    omega
  refine ⟨y * 2 ^ s, _, _, _, _, _, _, ⟨rfl, ⟨y2, y1⟩, ⟨?_, ?_, ?_, ?_⟩, ?_, ⟨?_, ?_, ?_⟩, ?_, by omega⟩, y1, by omega, rfl, rfl, rfl, hG, rfl, rfl, rfl⟩
  · omega
  · omega
  · omega
  · omega
  · omega
  · omega
  · omega
  · omega
  · rw [Nat.add_mul, Nat.add_mul, hsl]
    rw [Nat.mul_right_comm]
    omega
theorem maskV (a : Nat) (ha : a < 18446744073709551616) : bits .and .u64 (a : Int) 4294967295 = ((a % 4294967296 : Nat) : Int) := by
  have h := bits_and_u64_nat a 4294967295 ha (by omega)
  have e : a &&& 4294967295 = a % 4294967296 := Nat.and_two_pow_sub_one_eq_mod a 32
  rw [e] at h
  exact h
theorem wrapV (a : Nat) (ha : a < 18446744073709551616) : IntKind.u64.wrap (a : Int) = (a : Int) := by rw [IntKind.wrap_u64]; omega
theorem pow_cast (a s : Nat) : (a : Int) * 2 ^ s = ((a * 2 ^ s : Nat) : Int) := by
  rw [Int.natCast_mul, Int.natCast_pow]; rfl
theorem orG (hi s G : Nat) (h1 : hi * 2 ^ s < 18446744073709551616) (h2 : G < 2 ^ s) (h3 : G < 18446744073709551616) : bits .or .u64 ((hi * 2 ^ s : Nat) : Int) (G : Int) = ((hi * 2 ^ s + G : Nat) : Int) := by
  rw [bits_or_u64_nat _ _ h1 h3, Nat.mul_comm, ← Nat.two_pow_add_eq_or_of_lt h2]
theorem subV (a b : Nat) (h : b ≤ a) (ha : a < 18446744073709551616) : IntKind.u64.wrap ((a : Int) - (b : Int)) = ((a - b : Nat) : Int) := by
  rw [IntKind.wrap_u64]; omega
/-- A digit less the true part: the remainder, whatever has wrapped. -/
theorem remV (U L P V : Nat) (h : U * 4294967296 + L = P + V) (hV : V < 18446744073709551616) : IntKind.u64.wrap (IntKind.u64.wrap (IntKind.u64.wrap ((U : Int) * 4294967296) + (L : Int)) - IntKind.u64.wrap (P : Int)) = (V : Int) := by
  simp only [IntKind.wrap_u64]
  have h' : (U : Int) * 4294967296 + (L : Int) = (P : Int) + (V : Int) := by
    have := congrArg (fun n : Nat => (n : Int)) h
    simp only [Int.natCast_add, Int.natCast_mul] at this
    exact this
  generalize (U : Int) * 4294967296 = A at *
  omega
theorem quoV (a b : Nat) (ha : a < 4294967296) (hb : b < 4294967296) : IntKind.u64.wrap (IntKind.u64.wrap ((a : Int) * 4294967296) + (b : Int)) = ((a * 4294967296 + b : Nat) : Int) := by
  have e : ((a * 4294967296 + b : Nat) : Int) = (a : Int) * 4294967296 + (b : Int) := by
    rw [Int.natCast_add, Int.natCast_mul]; rfl
  rw [e]
  simp only [IntKind.wrap_u64]
  omega
theorem quoW (a b : Nat) (ha : a < 4294967296) (hb : b < 4294967296) : IntKind.u64.wrap ((a : Int) * 4294967296 + (b : Int)) = ((a * 4294967296 + b : Nat) : Int) ∧ (a : Int) * 4294967296 + (b : Int) = ((a * 4294967296 + b : Nat) : Int) := by
  have e : ((a * 4294967296 + b : Nat) : Int) = (a : Int) * 4294967296 + (b : Int) := by
    rw [Int.natCast_add, Int.natCast_mul]; rfl
  rw [e]
  simp only [IntKind.wrap_u64]
  refine ⟨?_, trivial⟩
  omega
set_option maxHeartbeats 2000000 in
set_option maxRecDepth 20000 in
theorem div64_any (hi lo y : Nat) (hh : hi < y) (hh0 : 0 < hi) (hl : lo < 18446744073709551616) (hy : y < 9223372036854775808) (F1 F2 : Nat) (hF : F1 = (hi * 18446744073709551616 + lo) / y ∧ F2 = (hi * 18446744073709551616 + lo) % y) (w : World) :
    Calls Try.prog 60 #[.int .u64 (hi : Int), .int .u64 (lo : Int), .int .u64 (y : Int)] w fun e w' => e = .returned (.tuple #[.int .u64 (F1 : Int), .int .u64 (F2 : Int)]) ∧ Below w.heap.size w w' := by
  have HF := Lib.hid hF
  clear hF
  have hne : ((y : Int) != 0) = true := by simp; omega
  have hne2 : ((y : Int) == 0) = false := by simp; omega
  have hne3 : ((hi : Int) == 0) = false := by simp; omega
  obtain ⟨s, hs⟩ : ∃ s, s = 63 - y.log2 := ⟨_, rfl⟩
  have hlz := fun w => lz_any (by omega) (by omega) hs w
  have hs63 : s ≤ 63 := by omega
  have hws : IntKind.u64.wrap (s : Int) = (s : Int) := by rw [IntKind.wrap_u64]; omega
  obtain ⟨Y, Y1, Y0, U, L, L1, L0, D, hYlt, hHlt, eY1, eY0, eU, hG, eL, eL1, eL0⟩ := dv_any hh hl hy hs
  clear hs
  obtain ⟨G, eG⟩ : ∃ G, G = lo / 2 ^ (64 - s) := ⟨_, rfl⟩
  obtain ⟨H, eH⟩ : ∃ H, H = hi * 2 ^ s := ⟨_, rfl⟩
  rw [← eG] at hG eU
  have hG64 : G < 18446744073709551616 := by
    have : G ≤ lo := by rw [eG]; exact Nat.div_le_self _ _
    omega
  have f1 : IntKind.u64.wrap ((y : Int) * 2 ^ s) = (Y : Int) := by rw [pow_cast, ← D.hY]; exact wrapV _ hYlt
  have f2 : (Y : Int) / 4294967296 = (Y1 : Int) := by rw [eY1]; omega
  have f3 : bits .and .u64 (Y : Int) 4294967295 = (Y0 : Int) := by rw [maskV _ hYlt, eY0]
  have f4 : IntKind.u64.wrap ((hi : Int) * 2 ^ s) = (H : Int) := by rw [pow_cast, ← eH]; exact wrapV _ (by omega)
  have f5 : (lo : Int) / 2 ^ (64 - s) = (G : Int) := by
    rw [eG, Int.natCast_ediv, Int.natCast_pow]; rfl
  have f6 : bits .or .u64 (H : Int) (G : Int) = (U : Int) := by rw [eH, eU]; exact orG hi s G hHlt hG hG64
  have f7 : IntKind.u64.wrap ((lo : Int) * 2 ^ s) = (L : Int) := by
    rw [pow_cast, eL, IntKind.wrap_u64]; exact (Int.natCast_emod _ _).symm
  have hL64 : L < 18446744073709551616 := by rw [eL]; exact Nat.mod_lt _ (by decide)
  have f8 : (L : Int) / 4294967296 = (L1 : Int) := by rw [eL1]; omega
  have f9 : bits .and .u64 (L : Int) 4294967295 = (L0 : Int) := by rw [maskV _ hL64, eL0]
  have hU := D.hU
  obtain ⟨y1, y2, y3, y4⟩ := D.hYs
  obtain ⟨l1, l2, l3⟩ := D.hL
  have hdn : ∀ A : Nat, A < Y → IntKind.u64.wrap ((A : Int) / (Y1 : Int)) = ((A / Y1 : Nat) : Int) ∧ IntKind.u64.wrap (((A / Y1 : Nat) : Int) * (Y1 : Int)) = ((A / Y1 * Y1 : Nat) : Int) ∧ IntKind.u64.wrap ((A : Int) - ((A / Y1 * Y1 : Nat) : Int)) = ((A - A / Y1 * Y1 : Nat) : Int) := by
    intro A hA
    have h1 : A / Y1 ≤ A := Nat.div_le_self _ _
    have h2 : A / Y1 * Y1 ≤ A := Nat.div_mul_le_self _ _
    refine ⟨?_, ?_, subV _ _ h2 (by omega)⟩
    · rw [← Int.natCast_ediv]; exact wrapV _ (by omega)
    · rw [← Int.natCast_mul]; exact wrapV _ (by omega)
  obtain ⟨g1, g2, g3⟩ := hdn U hU
  obtain ⟨Q, eQ⟩ : ∃ Q, Q = U / Y1 := ⟨_, rfl⟩
  obtain ⟨R, eR⟩ : ∃ R, R = U - U / Y1 * Y1 := ⟨_, rfl⟩
  obtain ⟨M, eM⟩ : ∃ M, M = U / Y1 * Y1 := ⟨_, rfl⟩
  rw [← eQ] at g1
  rw [← eM, ← eQ] at g2
  rw [← eR, ← eM] at g3
  have hY1ne : ((Y1 : Int) == 0) = false := by simp; omega
  have hY1ne2 : ((Y1 : Int) != 0) = true := by simp; omega
  have hY1ne3 : ¬ (Y1 = 0) := by omega
  have HD := Lib.hid (And.intro D (And.intro eQ (And.intro eR (And.intro eM (And.intro hL64 (And.intro hYlt (And.intro hl (And.intro hh hy))))))))
  have HN := Lib.hid hdn
  have hyle : ¬ (y ≤ hi) := by omega
  clear D eQ eR eM hL64 hYlt hl hh hy hdn y1 y2 y3 y4 l1 l2 l3 hU eY1 eY0 eU hG eL eL1 eL0 eG eH hG64 hHlt hh0
  go_enter Try.func60, Try.ntmps60
  go_wp2_with (go_at_call 68; refine (hlz _).mono ?_; rintro e w' ⟨rfl, rfl⟩)
  go_loopw [15, 16] (fun q r wr => ∃ (z1 z2 : Int) (q1 r1 : Nat), q = .int .u64 z1 ∧ r = .int .u64 z2 ∧ z1 = q1 ∧ z2 = r1 ∧ q1 * Y1 + r1 = U ∧ (U * 4294967296 + L1) / (Y1 * 4294967296 + Y0) ≤ q1 ∧ q1 ≤ 4294967297 ∧ r1 < 4294967296 ∧ ∃ m, wr = w.drewN m) (fun q _ _ => (inI q).toNat)
  case atStart =>
    obtain ⟨D, eQ, eR, eM, hL64, hYlt, hl, hh, hy⟩ := HD.out
    obtain ⟨y1, y2, y3, y4⟩ := D.hYs
    obtain ⟨l1, l2, l3⟩ := D.hL
    refine ⟨_, _, Q, R, rfl, rfl, rfl, rfl, ?_, ?_, ?_, ?_, 0, rfl⟩
    · rw [eQ, eR]
      have := Nat.div_mul_le_self U Y1
      omega
    · rw [eQ]
      exact (Nat.le_div_iff_mul_le (by omega)).2 (dg_le (by omega))
    · rw [eQ]
      exact dg_first (y0 := Y0) (by rw [← y1]; exact D.hU) y3 y2
    · rw [eR]
      have h1 := Nat.div_add_mod U Y1
      have h2 := Nat.mod_lt U (show 0 < Y1 by omega)
      rw [Nat.mul_comm] at h1
      omega
  case round =>
    obtain ⟨z1, z2, q1, r1, rfl, rfl, ez1, ez2, i1, i2, i3, i4, m, rfl⟩ := hrel
    obtain ⟨A, eA⟩ : ∃ A : Int, A = (q1 * Y0 : Nat) := ⟨_, rfl⟩
    obtain ⟨B, eB⟩ : ∃ B : Int, B = 4294967296 * z2 := ⟨_, rfl⟩
    obtain ⟨C, eC⟩ : ∃ C : Int, C = B + L1 := ⟨_, rfl⟩
    obtain ⟨S, eS⟩ : ∃ S : Int, S = z2 + Y1 := ⟨_, rfl⟩
    obtain ⟨D, eQ, eR, eM, hL64, hYlt, hl, hh, hy⟩ := HD.out
    obtain ⟨y1, y2, y3, y4⟩ := D.hYs
    obtain ⟨l1, l2, l3⟩ := D.hL
    have hU := D.hU
    have k1 : IntKind.u64.wrap (z1 * (Y0 : Int)) = A := by
      rw [ez1, ← Int.natCast_mul, eA]; exact wrapV _ (by
        have := Nat.mul_le_mul i3 (show Y0 ≤ 4294967295 by omega)
        omega)
    have k2 : IntKind.u64.wrap (4294967296 * z2) = B := by
      rw [eB, IntKind.wrap_u64]; omega
    have k3 : IntKind.u64.wrap (B + (L1 : Int)) = C := by
      rw [eC, IntKind.wrap_u64]; omega
    have k4 : IntKind.u64.wrap (z2 + (Y1 : Int)) = S := by
      rw [eS, IntKind.wrap_u64]; omega
    have k5 : 0 < z1 → IntKind.u64.wrap (z1 - 1) = z1 - 1 := fun h => by
      rw [IntKind.wrap_u64]; omega
    have hlt := dg_lt (y1 := Y1) (y0 := Y0) (u := U) (u1 := L1) (by rw [← y1]; exact hU) (by omega)
    have hst := dg_stop (y1 := Y1) (y0 := Y0) (u := U) (u1 := L1) i1 (by omega) i2
    have hts := dg_test (y1 := Y1) (y0 := Y0) (u := U) (u1 := L1) i1 (by omega)
    have hbk : 0 < q1 → (U * 4294967296 + L1) / (Y1 * 4294967296 + Y0) < q1 → 4294967296 ≤ r1 + Y1 → q1 - 1 = (U * 4294967296 + L1) / (Y1 * 4294967296 + Y0) := fun h0 hd hr =>
      dg_break (y0 := Y0) (q := q1 - 1) (r := r1 + Y1) (by
        obtain ⟨k, hk⟩ : ∃ k, q1 = k + 1 := ⟨q1 - 1, by omega⟩
        rw [hk, Nat.add_mul, Nat.one_mul] at i1
        rw [hk, Nat.add_sub_cancel]
        omega) (by omega) (by omega) (by omega) y2 hr
    obtain ⟨qd, eqd⟩ : ∃ k, k = (U * 4294967296 + L1) / (Y1 * 4294967296 + Y0) := ⟨_, rfl⟩
    rw [← eqd] at i2 hlt hst hts hbk
    have HI := Lib.hid (And.intro ez1 (And.intro ez2 (And.intro i1 (And.intro i2 (And.intro i3 (And.intro i4 (And.intro hlt (And.intro hst (And.intro hts (And.intro hbk (And.intro eA (And.intro eB (And.intro eC (And.intro eS eqd))))))))))))))
    clear i1 i2 i3 i4 hlt hst hts hbk eqd eA eB eC eS D eQ eR eM hL64 hYlt hl hh hy y1 y2 y3 y4 l1 l2 l3 ez1 ez2 hU
    by_cases hc : 4294967296 ≤ z1 ∨ C < A
    · have hmore : qd < q1 ∧ 0 < q1 := by
        obtain ⟨ez1, ez2, i1, i2, i3, i4, hlt, hst, hts, hbk, eA, eB, eC, eS, eqd⟩ := HI.out
        rcases hc with h | h
        · exact ⟨by omega, by omega⟩
        · have hcb : 4294967296 * r1 + L1 < q1 * Y0 := by
            generalize q1 * Y0 = k at eA ⊢
            omega
          have := hts.1 hcb
          exact ⟨this, by omega⟩
      have hq0 : 0 < z1 := by
        obtain ⟨ez1, ez2, i1, i2, i3, i4, hlt, hst, hts, hbk, eA, eB, eC, eS, eqd⟩ := HI.out
        have := hmore.2
        omega
      have k6 := k5 hq0
      clear k5
      have HC := Lib.hid (And.intro hc hmore)
      have hcb : (decide (4294967296 ≤ z1) || decide (C < A)) = true := by simpa using hc
      clear hc hmore
      by_cases hS : 4294967296 ≤ S
      · have fq : z1 - 1 = (((U * 4294967296 + L1) / Y : Nat) : Int) := by
          obtain ⟨ez1, ez2, i1, i2, i3, i4, hlt, hst, hts, hbk, eA, eB, eC, eS, eqd⟩ := HI.out
          obtain ⟨D, _⟩ := HD.out
          have h := hbk HC.out.2.2 HC.out.2.1 (by omega)
          rw [D.hYs.1, ← eqd, ← h]
          omega
        obtain ⟨V, eV⟩ : ∃ V, V = (U * 4294967296 + L1) % Y := ⟨_, rfl⟩
        have hV : V < Y ∧ Y < 18446744073709551616 := by
          obtain ⟨D, eQ, eR, eM, hL64, hYlt, hl, hh, hy⟩ := HD.out
          exact ⟨by rw [eV]; exact Nat.mod_lt _ (by have := D.hYb; omega), hYlt⟩
        have hdiv : U * 4294967296 + L1 = (U * 4294967296 + L1) / Y * Y + V := by
          rw [eV, Nat.mul_comm ((U * 4294967296 + L1) / Y) Y]; exact (Nat.div_add_mod _ _).symm
        have fV : IntKind.u64.wrap (IntKind.u64.wrap (IntKind.u64.wrap ((U : Int) * 4294967296) + (L1 : Int)) - IntKind.u64.wrap ((z1 - 1) * (Y : Int))) = (V : Int) := by
          rw [fq, ← Int.natCast_mul]; exact remV U L1 _ V hdiv (by omega)
        obtain ⟨p1, p2, p3⟩ := HN.out V hV.1
        obtain ⟨Q2, eQ2⟩ : ∃ Q, Q = V / Y1 := ⟨_, rfl⟩
        obtain ⟨R2, eR2⟩ : ∃ R, R = V - V / Y1 * Y1 := ⟨_, rfl⟩
        obtain ⟨M2, eM2⟩ : ∃ M, M = V / Y1 * Y1 := ⟨_, rfl⟩
        rw [← eQ2] at p1
        rw [← eM2, ← eQ2] at p2
        rw [← eR2, ← eM2] at p3
        have HV := Lib.hid (And.intro eV (And.intro hV (And.intro hdiv (And.intro fq (And.intro eQ2 (And.intro eR2 eM2))))))
        clear eV hV hdiv fq eQ2 eR2 eM2
        go_wp2
        all_goals (
          go_loopw [18, 16] (fun q r wr => ∃ (t1 t2 : Int) (q2 r2 : Nat), q = .int .u64 t1 ∧ r = .int .u64 t2 ∧ t1 = q2 ∧ t2 = r2 ∧ q2 * Y1 + r2 = V ∧ (V * 4294967296 + L0) / (Y1 * 4294967296 + Y0) ≤ q2 ∧ q2 ≤ 4294967297 ∧ r2 < 4294967296 ∧ ∃ m, wr = w.drewN m) (fun q _ _ => (inI q).toNat)
          case atStart =>
            obtain ⟨eV, hV, hdiv, fq, eQ2, eR2, eM2⟩ := HV.out
            obtain ⟨D, eQ, eR, eM, hL64, hYlt, hl, hh, hy⟩ := HD.out
            obtain ⟨y1, y2, y3, y4⟩ := D.hYs
            obtain ⟨l1, l2, l3⟩ := D.hL
            refine ⟨_, _, Q2, R2, rfl, rfl, rfl, rfl, ?_, ?_, ?_, ?_, m, rfl⟩
            · rw [eQ2, eR2]
              have := Nat.div_mul_le_self V Y1
              omega
            · rw [eQ2]
              exact (Nat.le_div_iff_mul_le (by omega)).2 (dg_le (by omega))
            · rw [eQ2]
              exact dg_first (y0 := Y0) (by rw [← y1]; exact hV.1) y3 y2
            · rw [eR2]
              have h1 := Nat.div_add_mod V Y1
              have h2 := Nat.mod_lt V (show 0 < Y1 by omega)
              rw [Nat.mul_comm] at h1
              omega
          case round =>
            clear HI k1 k2 k3 k4
            obtain ⟨t1, t2, q2, r2, rfl, rfl, ez1, ez2, i1, i2, i3, i4, m2, rfl⟩ := hrel
            obtain ⟨eV, hV, hdiv, fq, _⟩ := HV.out
            obtain ⟨A, eA⟩ : ∃ A : Int, A = (q2 * Y0 : Nat) := ⟨_, rfl⟩
            obtain ⟨B, eB⟩ : ∃ B : Int, B = 4294967296 * t2 := ⟨_, rfl⟩
            obtain ⟨C, eC⟩ : ∃ C : Int, C = B + L0 := ⟨_, rfl⟩
            obtain ⟨S, eS⟩ : ∃ S : Int, S = t2 + Y1 := ⟨_, rfl⟩
            obtain ⟨D, eQ, eR, eM, hL64, hYlt, hl, hh, hy⟩ := HD.out
            obtain ⟨y1, y2, y3, y4⟩ := D.hYs
            obtain ⟨l1, l2, l3⟩ := D.hL
            have hU := D.hU
            have k1 : IntKind.u64.wrap (t1 * (Y0 : Int)) = A := by
              rw [ez1, ← Int.natCast_mul, eA]; exact wrapV _ (by
                have := Nat.mul_le_mul i3 (show Y0 ≤ 4294967295 by omega)
                omega)
            have k2 : IntKind.u64.wrap (4294967296 * t2) = B := by
              rw [eB, IntKind.wrap_u64]; omega
            have k3 : IntKind.u64.wrap (B + (L0 : Int)) = C := by
              rw [eC, IntKind.wrap_u64]; omega
            have k4 : IntKind.u64.wrap (t2 + (Y1 : Int)) = S := by
              rw [eS, IntKind.wrap_u64]; omega
            have k5 : 0 < t1 → IntKind.u64.wrap (t1 - 1) = t1 - 1 := fun h => by
              rw [IntKind.wrap_u64]; omega
            have hlt := dg_lt (y1 := Y1) (y0 := Y0) (u := V) (u1 := L0) (by rw [← y1]; exact hV.1) (by omega)
            have hst := dg_stop (y1 := Y1) (y0 := Y0) (u := V) (u1 := L0) i1 (by omega) i2
            have hts := dg_test (y1 := Y1) (y0 := Y0) (u := V) (u1 := L0) i1 (by omega)
            have hbk : 0 < q2 → (V * 4294967296 + L0) / (Y1 * 4294967296 + Y0) < q2 → 4294967296 ≤ r2 + Y1 → q2 - 1 = (V * 4294967296 + L0) / (Y1 * 4294967296 + Y0) := fun h0 hd hr =>
              dg_break (y0 := Y0) (q := q2 - 1) (r := r2 + Y1) (by
                obtain ⟨k, hk⟩ : ∃ k, q2 = k + 1 := ⟨q2 - 1, by omega⟩
                rw [hk, Nat.add_mul, Nat.one_mul] at i1
                rw [hk, Nat.add_sub_cancel]
                omega) (by omega) (by omega) (by omega) y2 hr
            obtain ⟨qd, eqd⟩ : ∃ k, k = (V * 4294967296 + L0) / (Y1 * 4294967296 + Y0) := ⟨_, rfl⟩
            rw [← eqd] at i2 hlt hst hts hbk
            have HI := Lib.hid (And.intro ez1 (And.intro ez2 (And.intro i1 (And.intro i2 (And.intro i3 (And.intro i4 (And.intro hlt (And.intro hst (And.intro hts (And.intro hbk (And.intro eA (And.intro eB (And.intro eC (And.intro eS eqd))))))))))))))
            clear i1 i2 i3 i4 hlt hst hts hbk eqd eA eB eC eS D eQ eR eM hL64 hYlt hl hh hy y1 y2 y3 y4 l1 l2 l3 ez1 ez2 hU
            clear eV hV hdiv fq
            by_cases hc : 4294967296 ≤ t1 ∨ C < A
            · have hmore : qd < q2 ∧ 0 < q2 := by
                obtain ⟨ez1, ez2, i1, i2, i3, i4, hlt, hst, hts, hbk, eA, eB, eC, eS, eqd⟩ := HI.out
                rcases hc with h | h
                · exact ⟨by omega, by omega⟩
                · have hcb : 4294967296 * r2 + L0 < q2 * Y0 := by
                    generalize q2 * Y0 = k at eA ⊢
                    omega
                  have := hts.1 hcb
                  exact ⟨this, by omega⟩
              have hq0 : 0 < t1 := by
                obtain ⟨ez1, ez2, i1, i2, i3, i4, hlt, hst, hts, hbk, eA, eB, eC, eS, eqd⟩ := HI.out
                have := hmore.2
                omega
              have k6 := k5 hq0
              clear k5
              have HC := Lib.hid (And.intro hc hmore)
              have hcb : (decide (4294967296 ≤ t1) || decide (C < A)) = true := by simpa using hc
              clear hc hmore
              by_cases hS : 4294967296 ≤ S
              · have fq2 : t1 - 1 = (((V * 4294967296 + L0) / Y : Nat) : Int) := by
                  obtain ⟨ez1, ez2, i1, i2, i3, i4, hlt, hst, hts, hbk, eA, eB, eC, eS, eqd⟩ := HI.out
                  obtain ⟨D, _⟩ := HD.out
                  have h := hbk HC.out.2.2 HC.out.2.1 (by omega)
                  rw [D.hYs.1, ← eqd, ← h]
                  omega
                obtain ⟨W, eW⟩ : ∃ W, W = (V * 4294967296 + L0) % Y := ⟨_, rfl⟩
                have hfin : IntKind.u64.wrap (IntKind.u64.wrap ((z1 - 1) * 4294967296) + (t1 - 1)) = (F1 : Int) ∧ IntKind.u64.wrap ((z1 - 1) * 4294967296 + (t1 - 1)) = (F1 : Int) ∧ (z1 - 1) * 4294967296 + (t1 - 1) = (F1 : Int) ∧ IntKind.u64.wrap (F1 : Int) = (F1 : Int) ∧ (W : Int) / 2 ^ s = (F2 : Int) ∧ IntKind.u64.wrap (IntKind.u64.wrap (IntKind.u64.wrap ((V : Int) * 4294967296) + (L0 : Int)) - IntKind.u64.wrap ((t1 - 1) * (Y : Int))) = (W : Int) := by
                  obtain ⟨eV, hV, hdiv, fq, _⟩ := HV.out
                  obtain ⟨D, eQ, eR, eM, hL64, hYlt, hl, hh, hy⟩ := HD.out
                  have hdiv2 : V * 4294967296 + L0 = (V * 4294967296 + L0) / Y * Y + W := by
                    rw [eW, Nat.mul_comm ((V * 4294967296 + L0) / Y) Y]; exact (Nat.div_add_mod _ _).symm
                  have hW : W < Y := by rw [eW]; exact Nat.mod_lt _ (by have := D.hYb; omega)
                  rw [HF.out.1, HF.out.2]
                  obtain ⟨e1, e2⟩ := dv_end D (by omega) hdiv hV.1 hdiv2 hW
                  have d1 : (U * 4294967296 + L1) / Y < 4294967296 := by
                    rw [D.hYs.1]; exact dg_lt (by rw [← D.hYs.1]; exact D.hU) D.hL.2.1
                  have d2 : (V * 4294967296 + L0) / Y < 4294967296 := by
                    rw [D.hYs.1]; exact dg_lt (by rw [← D.hYs.1]; exact hV.1) D.hL.2.2
                  have hq := quoV _ _ d1 d2
                  have hq2 := quoW _ _ d1 d2
                  refine ⟨?_, ?_, ?_, ?_, ?_, ?_⟩
                  · rw [e1, fq, fq2]; exact hq
                  · rw [e1, fq, fq2]; exact hq2.1
                  · rw [e1, fq, fq2]; exact hq2.2
                  · rw [e1, ← hq2.2]; exact hq2.1.trans hq2.2.symm
                  · rw [e2, Int.natCast_ediv, Int.natCast_pow]; rfl
                  · rw [fq2, ← Int.natCast_mul]; exact remV V L0 _ W hdiv2 (by omega)
                obtain ⟨h1, h1b, h1c, h1d, h2, h3⟩ := hfin
                clear fq2
                have HW := Lib.hid eW
                clear eW
                go_wp2
                all_goals (
                  go_ret2
                  refine ⟨?_, below_drw w _⟩
                  try simp only [h1, h1b, h1c, h1d, h2, h3]
                  rfl)
              · have hS' : ¬ 4294967296 ≤ S := hS
                go_wp2
                all_goals (
                  obtain ⟨ez1, ez2, i1, i2, i3, i4, hlt, hst, hts, hbk, eA, eB, eC, eS, eqd⟩ := HI.out
                  obtain ⟨_, hm1, hm2⟩ := HC.out
                  have e1 : t1 - 1 = ((q2 - 1 : Nat) : Int) := by omega
                  have e2 : S = ((r2 + Y1 : Nat) : Int) := by omega
                  have e3 : (q2 - 1) * Y1 + (r2 + Y1) = V := by
                    obtain ⟨k, hk⟩ : ∃ k, q2 = k + 1 := ⟨q2 - 1, by omega⟩
                    rw [hk, Nat.add_mul, Nat.one_mul] at i1
                    rw [hk, Nat.add_sub_cancel]
                    omega
                  have e4 : (V * 4294967296 + L0) / (Y1 * 4294967296 + Y0) ≤ q2 - 1 := by rw [← eqd]; omega
                  have e5 : q2 - 1 ≤ 4294967297 := by omega
                  have e6 : r2 + Y1 < 4294967296 := by omega
                  refine ⟨?_, by simp only [inI]; omega⟩
                  first
                    | exact ⟨t1 - 1, S, q2 - 1, r2 + Y1, rfl, rfl, e1, e2, e3, e4, e5, e6, m2, rfl⟩
                    | exact ⟨q2 - 1, e1, r2 + Y1, e2, e3, e4, e5, e6, m2, rfl⟩)
            · have hc1 : ¬ 4294967296 ≤ t1 := fun h => hc (.inl h)
              have hc2 : ¬ C < A := fun h => hc (.inr h)
              have fq2 : t1 = (((V * 4294967296 + L0) / Y : Nat) : Int) := by
                obtain ⟨ez1, ez2, i1, i2, i3, i4, hlt, hst, hts, hbk, eA, eB, eC, eS, eqd⟩ := HI.out
                obtain ⟨D, _⟩ := HD.out
                have h := hst (by
                    generalize q2 * Y0 = k at eA ⊢
                    omega)
                rw [D.hYs.1, ← eqd, ← h]
                omega
              clear hc k5
              obtain ⟨W, eW⟩ : ∃ W, W = (V * 4294967296 + L0) % Y := ⟨_, rfl⟩
              have hfin : IntKind.u64.wrap (IntKind.u64.wrap ((z1 - 1) * 4294967296) + t1) = (F1 : Int) ∧ IntKind.u64.wrap ((z1 - 1) * 4294967296 + t1) = (F1 : Int) ∧ (z1 - 1) * 4294967296 + t1 = (F1 : Int) ∧ IntKind.u64.wrap (F1 : Int) = (F1 : Int) ∧ (W : Int) / 2 ^ s = (F2 : Int) ∧ IntKind.u64.wrap (IntKind.u64.wrap (IntKind.u64.wrap ((V : Int) * 4294967296) + (L0 : Int)) - IntKind.u64.wrap (t1 * (Y : Int))) = (W : Int) := by
                obtain ⟨eV, hV, hdiv, fq, _⟩ := HV.out
                obtain ⟨D, eQ, eR, eM, hL64, hYlt, hl, hh, hy⟩ := HD.out
                have hdiv2 : V * 4294967296 + L0 = (V * 4294967296 + L0) / Y * Y + W := by
                  rw [eW, Nat.mul_comm ((V * 4294967296 + L0) / Y) Y]; exact (Nat.div_add_mod _ _).symm
                have hW : W < Y := by rw [eW]; exact Nat.mod_lt _ (by have := D.hYb; omega)
                rw [HF.out.1, HF.out.2]
                obtain ⟨e1, e2⟩ := dv_end D (by omega) hdiv hV.1 hdiv2 hW
                have d1 : (U * 4294967296 + L1) / Y < 4294967296 := by
                  rw [D.hYs.1]; exact dg_lt (by rw [← D.hYs.1]; exact D.hU) D.hL.2.1
                have d2 : (V * 4294967296 + L0) / Y < 4294967296 := by
                  rw [D.hYs.1]; exact dg_lt (by rw [← D.hYs.1]; exact hV.1) D.hL.2.2
                have hq := quoV _ _ d1 d2
                have hq2 := quoW _ _ d1 d2
                refine ⟨?_, ?_, ?_, ?_, ?_, ?_⟩
                · rw [e1, fq, fq2]; exact hq
                · rw [e1, fq, fq2]; exact hq2.1
                · rw [e1, fq, fq2]; exact hq2.2
                · rw [e1, ← hq2.2]; exact hq2.1.trans hq2.2.symm
                · rw [e2, Int.natCast_ediv, Int.natCast_pow]; rfl
                · rw [fq2, ← Int.natCast_mul]; exact remV V L0 _ W hdiv2 (by omega)
              obtain ⟨h1, h1b, h1c, h1d, h2, h3⟩ := hfin
              clear fq2
              have HW := Lib.hid eW
              clear eW
              go_wp2
              all_goals (
                go_ret2
                refine ⟨?_, below_drw w _⟩
                try simp only [h1, h1b, h1c, h1d, h2, h3]
                rfl))
      · have hS' : ¬ 4294967296 ≤ S := hS
        go_wp2
        all_goals (
          obtain ⟨ez1, ez2, i1, i2, i3, i4, hlt, hst, hts, hbk, eA, eB, eC, eS, eqd⟩ := HI.out
          obtain ⟨_, hm1, hm2⟩ := HC.out
          have e1 : z1 - 1 = ((q1 - 1 : Nat) : Int) := by omega
          have e2 : S = ((r1 + Y1 : Nat) : Int) := by omega
          have e3 : (q1 - 1) * Y1 + (r1 + Y1) = U := by
            obtain ⟨k, hk⟩ : ∃ k, q1 = k + 1 := ⟨q1 - 1, by omega⟩
            rw [hk, Nat.add_mul, Nat.one_mul] at i1
            rw [hk, Nat.add_sub_cancel]
            omega
          have e4 : (U * 4294967296 + L1) / (Y1 * 4294967296 + Y0) ≤ q1 - 1 := by rw [← eqd]; omega
          have e5 : q1 - 1 ≤ 4294967297 := by omega
          have e6 : r1 + Y1 < 4294967296 := by omega
          refine ⟨?_, by simp only [inI]; omega⟩
          first
            | exact ⟨z1 - 1, S, q1 - 1, r1 + Y1, rfl, rfl, e1, e2, e3, e4, e5, e6, m, rfl⟩
            | exact ⟨q1 - 1, e1, r1 + Y1, e2, e3, e4, e5, e6, m, rfl⟩)
    · have hc1 : ¬ 4294967296 ≤ z1 := fun h => hc (.inl h)
      have hc2 : ¬ C < A := fun h => hc (.inr h)
      have fq : z1 = (((U * 4294967296 + L1) / Y : Nat) : Int) := by
        obtain ⟨ez1, ez2, i1, i2, i3, i4, hlt, hst, hts, hbk, eA, eB, eC, eS, eqd⟩ := HI.out
        obtain ⟨D, _⟩ := HD.out
        have h := hst (by
          generalize q1 * Y0 = k at eA ⊢
          omega)
        rw [D.hYs.1, ← eqd, ← h]
        omega
      clear hc k5
      obtain ⟨V, eV⟩ : ∃ V, V = (U * 4294967296 + L1) % Y := ⟨_, rfl⟩
      have hV : V < Y ∧ Y < 18446744073709551616 := by
        obtain ⟨D, eQ, eR, eM, hL64, hYlt, hl, hh, hy⟩ := HD.out
        exact ⟨by rw [eV]; exact Nat.mod_lt _ (by have := D.hYb; omega), hYlt⟩
      have hdiv : U * 4294967296 + L1 = (U * 4294967296 + L1) / Y * Y + V := by
        rw [eV, Nat.mul_comm ((U * 4294967296 + L1) / Y) Y]; exact (Nat.div_add_mod _ _).symm
      have fV : IntKind.u64.wrap (IntKind.u64.wrap (IntKind.u64.wrap ((U : Int) * 4294967296) + (L1 : Int)) - IntKind.u64.wrap (z1 * (Y : Int))) = (V : Int) := by
        rw [fq, ← Int.natCast_mul]; exact remV U L1 _ V hdiv (by omega)
      obtain ⟨p1, p2, p3⟩ := HN.out V hV.1
      obtain ⟨Q2, eQ2⟩ : ∃ Q, Q = V / Y1 := ⟨_, rfl⟩
      obtain ⟨R2, eR2⟩ : ∃ R, R = V - V / Y1 * Y1 := ⟨_, rfl⟩
      obtain ⟨M2, eM2⟩ : ∃ M, M = V / Y1 * Y1 := ⟨_, rfl⟩
      rw [← eQ2] at p1
      rw [← eM2, ← eQ2] at p2
      rw [← eR2, ← eM2] at p3
      have HV := Lib.hid (And.intro eV (And.intro hV (And.intro hdiv (And.intro fq (And.intro eQ2 (And.intro eR2 eM2))))))
      clear eV hV hdiv fq eQ2 eR2 eM2
      go_wp2
      all_goals (
        go_loopw [18, 16] (fun q r wr => ∃ (t1 t2 : Int) (q2 r2 : Nat), q = .int .u64 t1 ∧ r = .int .u64 t2 ∧ t1 = q2 ∧ t2 = r2 ∧ q2 * Y1 + r2 = V ∧ (V * 4294967296 + L0) / (Y1 * 4294967296 + Y0) ≤ q2 ∧ q2 ≤ 4294967297 ∧ r2 < 4294967296 ∧ ∃ m, wr = w.drewN m) (fun q _ _ => (inI q).toNat)
        case atStart =>
          obtain ⟨eV, hV, hdiv, fq, eQ2, eR2, eM2⟩ := HV.out
          obtain ⟨D, eQ, eR, eM, hL64, hYlt, hl, hh, hy⟩ := HD.out
          obtain ⟨y1, y2, y3, y4⟩ := D.hYs
          obtain ⟨l1, l2, l3⟩ := D.hL
          refine ⟨_, _, Q2, R2, rfl, rfl, rfl, rfl, ?_, ?_, ?_, ?_, m, rfl⟩
          · rw [eQ2, eR2]
            have := Nat.div_mul_le_self V Y1
            omega
          · rw [eQ2]
            exact (Nat.le_div_iff_mul_le (by omega)).2 (dg_le (by omega))
          · rw [eQ2]
            exact dg_first (y0 := Y0) (by rw [← y1]; exact hV.1) y3 y2
          · rw [eR2]
            have h1 := Nat.div_add_mod V Y1
            have h2 := Nat.mod_lt V (show 0 < Y1 by omega)
            rw [Nat.mul_comm] at h1
            omega
        case round =>
          clear HI k1 k2 k3 k4
          obtain ⟨t1, t2, q2, r2, rfl, rfl, ez1, ez2, i1, i2, i3, i4, m2, rfl⟩ := hrel
          obtain ⟨eV, hV, hdiv, fq, _⟩ := HV.out
          obtain ⟨A, eA⟩ : ∃ A : Int, A = (q2 * Y0 : Nat) := ⟨_, rfl⟩
          obtain ⟨B, eB⟩ : ∃ B : Int, B = 4294967296 * t2 := ⟨_, rfl⟩
          obtain ⟨C, eC⟩ : ∃ C : Int, C = B + L0 := ⟨_, rfl⟩
          obtain ⟨S, eS⟩ : ∃ S : Int, S = t2 + Y1 := ⟨_, rfl⟩
          obtain ⟨D, eQ, eR, eM, hL64, hYlt, hl, hh, hy⟩ := HD.out
          obtain ⟨y1, y2, y3, y4⟩ := D.hYs
          obtain ⟨l1, l2, l3⟩ := D.hL
          have hU := D.hU
          have k1 : IntKind.u64.wrap (t1 * (Y0 : Int)) = A := by
            rw [ez1, ← Int.natCast_mul, eA]; exact wrapV _ (by
              have := Nat.mul_le_mul i3 (show Y0 ≤ 4294967295 by omega)
              omega)
          have k2 : IntKind.u64.wrap (4294967296 * t2) = B := by
            rw [eB, IntKind.wrap_u64]; omega
          have k3 : IntKind.u64.wrap (B + (L0 : Int)) = C := by
            rw [eC, IntKind.wrap_u64]; omega
          have k4 : IntKind.u64.wrap (t2 + (Y1 : Int)) = S := by
            rw [eS, IntKind.wrap_u64]; omega
          have k5 : 0 < t1 → IntKind.u64.wrap (t1 - 1) = t1 - 1 := fun h => by
            rw [IntKind.wrap_u64]; omega
          have hlt := dg_lt (y1 := Y1) (y0 := Y0) (u := V) (u1 := L0) (by rw [← y1]; exact hV.1) (by omega)
          have hst := dg_stop (y1 := Y1) (y0 := Y0) (u := V) (u1 := L0) i1 (by omega) i2
          have hts := dg_test (y1 := Y1) (y0 := Y0) (u := V) (u1 := L0) i1 (by omega)
          have hbk : 0 < q2 → (V * 4294967296 + L0) / (Y1 * 4294967296 + Y0) < q2 → 4294967296 ≤ r2 + Y1 → q2 - 1 = (V * 4294967296 + L0) / (Y1 * 4294967296 + Y0) := fun h0 hd hr =>
            dg_break (y0 := Y0) (q := q2 - 1) (r := r2 + Y1) (by
              obtain ⟨k, hk⟩ : ∃ k, q2 = k + 1 := ⟨q2 - 1, by omega⟩
              rw [hk, Nat.add_mul, Nat.one_mul] at i1
              rw [hk, Nat.add_sub_cancel]
              omega) (by omega) (by omega) (by omega) y2 hr
          obtain ⟨qd, eqd⟩ : ∃ k, k = (V * 4294967296 + L0) / (Y1 * 4294967296 + Y0) := ⟨_, rfl⟩
          rw [← eqd] at i2 hlt hst hts hbk
          have HI := Lib.hid (And.intro ez1 (And.intro ez2 (And.intro i1 (And.intro i2 (And.intro i3 (And.intro i4 (And.intro hlt (And.intro hst (And.intro hts (And.intro hbk (And.intro eA (And.intro eB (And.intro eC (And.intro eS eqd))))))))))))))
          clear i1 i2 i3 i4 hlt hst hts hbk eqd eA eB eC eS D eQ eR eM hL64 hYlt hl hh hy y1 y2 y3 y4 l1 l2 l3 ez1 ez2 hU
          clear eV hV hdiv fq
          by_cases hc : 4294967296 ≤ t1 ∨ C < A
          · have hmore : qd < q2 ∧ 0 < q2 := by
              obtain ⟨ez1, ez2, i1, i2, i3, i4, hlt, hst, hts, hbk, eA, eB, eC, eS, eqd⟩ := HI.out
              rcases hc with h | h
              · exact ⟨by omega, by omega⟩
              · have hcb : 4294967296 * r2 + L0 < q2 * Y0 := by
                  generalize q2 * Y0 = k at eA ⊢
                  omega
                have := hts.1 hcb
                exact ⟨this, by omega⟩
            have hq0 : 0 < t1 := by
              obtain ⟨ez1, ez2, i1, i2, i3, i4, hlt, hst, hts, hbk, eA, eB, eC, eS, eqd⟩ := HI.out
              have := hmore.2
              omega
            have k6 := k5 hq0
            clear k5
            have HC := Lib.hid (And.intro hc hmore)
            have hcb : (decide (4294967296 ≤ t1) || decide (C < A)) = true := by simpa using hc
            clear hc hmore
            by_cases hS : 4294967296 ≤ S
            · have fq2 : t1 - 1 = (((V * 4294967296 + L0) / Y : Nat) : Int) := by
                obtain ⟨ez1, ez2, i1, i2, i3, i4, hlt, hst, hts, hbk, eA, eB, eC, eS, eqd⟩ := HI.out
                obtain ⟨D, _⟩ := HD.out
                have h := hbk HC.out.2.2 HC.out.2.1 (by omega)
                rw [D.hYs.1, ← eqd, ← h]
                omega
              obtain ⟨W, eW⟩ : ∃ W, W = (V * 4294967296 + L0) % Y := ⟨_, rfl⟩
              have hfin : IntKind.u64.wrap (IntKind.u64.wrap (z1 * 4294967296) + (t1 - 1)) = (F1 : Int) ∧ IntKind.u64.wrap (z1 * 4294967296 + (t1 - 1)) = (F1 : Int) ∧ z1 * 4294967296 + (t1 - 1) = (F1 : Int) ∧ IntKind.u64.wrap (F1 : Int) = (F1 : Int) ∧ (W : Int) / 2 ^ s = (F2 : Int) ∧ IntKind.u64.wrap (IntKind.u64.wrap (IntKind.u64.wrap ((V : Int) * 4294967296) + (L0 : Int)) - IntKind.u64.wrap ((t1 - 1) * (Y : Int))) = (W : Int) := by
                obtain ⟨eV, hV, hdiv, fq, _⟩ := HV.out
                obtain ⟨D, eQ, eR, eM, hL64, hYlt, hl, hh, hy⟩ := HD.out
                have hdiv2 : V * 4294967296 + L0 = (V * 4294967296 + L0) / Y * Y + W := by
                  rw [eW, Nat.mul_comm ((V * 4294967296 + L0) / Y) Y]; exact (Nat.div_add_mod _ _).symm
                have hW : W < Y := by rw [eW]; exact Nat.mod_lt _ (by have := D.hYb; omega)
                rw [HF.out.1, HF.out.2]
                obtain ⟨e1, e2⟩ := dv_end D (by omega) hdiv hV.1 hdiv2 hW
                have d1 : (U * 4294967296 + L1) / Y < 4294967296 := by
                  rw [D.hYs.1]; exact dg_lt (by rw [← D.hYs.1]; exact D.hU) D.hL.2.1
                have d2 : (V * 4294967296 + L0) / Y < 4294967296 := by
                  rw [D.hYs.1]; exact dg_lt (by rw [← D.hYs.1]; exact hV.1) D.hL.2.2
                have hq := quoV _ _ d1 d2
                have hq2 := quoW _ _ d1 d2
                refine ⟨?_, ?_, ?_, ?_, ?_, ?_⟩
                · rw [e1, fq, fq2]; exact hq
                · rw [e1, fq, fq2]; exact hq2.1
                · rw [e1, fq, fq2]; exact hq2.2
                · rw [e1, ← hq2.2]; exact hq2.1.trans hq2.2.symm
                · rw [e2, Int.natCast_ediv, Int.natCast_pow]; rfl
                · rw [fq2, ← Int.natCast_mul]; exact remV V L0 _ W hdiv2 (by omega)
              obtain ⟨h1, h1b, h1c, h1d, h2, h3⟩ := hfin
              clear fq2
              have HW := Lib.hid eW
              clear eW
              go_wp2
              all_goals (
                go_ret2
                refine ⟨?_, below_drw w _⟩
                try simp only [h1, h1b, h1c, h1d, h2, h3]
                rfl)
            · have hS' : ¬ 4294967296 ≤ S := hS
              go_wp2
              all_goals (
                obtain ⟨ez1, ez2, i1, i2, i3, i4, hlt, hst, hts, hbk, eA, eB, eC, eS, eqd⟩ := HI.out
                obtain ⟨_, hm1, hm2⟩ := HC.out
                have e1 : t1 - 1 = ((q2 - 1 : Nat) : Int) := by omega
                have e2 : S = ((r2 + Y1 : Nat) : Int) := by omega
                have e3 : (q2 - 1) * Y1 + (r2 + Y1) = V := by
                  obtain ⟨k, hk⟩ : ∃ k, q2 = k + 1 := ⟨q2 - 1, by omega⟩
                  rw [hk, Nat.add_mul, Nat.one_mul] at i1
                  rw [hk, Nat.add_sub_cancel]
                  omega
                have e4 : (V * 4294967296 + L0) / (Y1 * 4294967296 + Y0) ≤ q2 - 1 := by rw [← eqd]; omega
                have e5 : q2 - 1 ≤ 4294967297 := by omega
                have e6 : r2 + Y1 < 4294967296 := by omega
                refine ⟨?_, by simp only [inI]; omega⟩
                first
                  | exact ⟨t1 - 1, S, q2 - 1, r2 + Y1, rfl, rfl, e1, e2, e3, e4, e5, e6, m2, rfl⟩
                  | exact ⟨q2 - 1, e1, r2 + Y1, e2, e3, e4, e5, e6, m2, rfl⟩)
          · have hc1 : ¬ 4294967296 ≤ t1 := fun h => hc (.inl h)
            have hc2 : ¬ C < A := fun h => hc (.inr h)
            have fq2 : t1 = (((V * 4294967296 + L0) / Y : Nat) : Int) := by
              obtain ⟨ez1, ez2, i1, i2, i3, i4, hlt, hst, hts, hbk, eA, eB, eC, eS, eqd⟩ := HI.out
              obtain ⟨D, _⟩ := HD.out
              have h := hst (by
                  generalize q2 * Y0 = k at eA ⊢
                  omega)
              rw [D.hYs.1, ← eqd, ← h]
              omega
            clear hc k5
            obtain ⟨W, eW⟩ : ∃ W, W = (V * 4294967296 + L0) % Y := ⟨_, rfl⟩
            have hfin : IntKind.u64.wrap (IntKind.u64.wrap (z1 * 4294967296) + t1) = (F1 : Int) ∧ IntKind.u64.wrap (z1 * 4294967296 + t1) = (F1 : Int) ∧ z1 * 4294967296 + t1 = (F1 : Int) ∧ IntKind.u64.wrap (F1 : Int) = (F1 : Int) ∧ (W : Int) / 2 ^ s = (F2 : Int) ∧ IntKind.u64.wrap (IntKind.u64.wrap (IntKind.u64.wrap ((V : Int) * 4294967296) + (L0 : Int)) - IntKind.u64.wrap (t1 * (Y : Int))) = (W : Int) := by
              obtain ⟨eV, hV, hdiv, fq, _⟩ := HV.out
              obtain ⟨D, eQ, eR, eM, hL64, hYlt, hl, hh, hy⟩ := HD.out
              have hdiv2 : V * 4294967296 + L0 = (V * 4294967296 + L0) / Y * Y + W := by
                rw [eW, Nat.mul_comm ((V * 4294967296 + L0) / Y) Y]; exact (Nat.div_add_mod _ _).symm
              have hW : W < Y := by rw [eW]; exact Nat.mod_lt _ (by have := D.hYb; omega)
              rw [HF.out.1, HF.out.2]
              obtain ⟨e1, e2⟩ := dv_end D (by omega) hdiv hV.1 hdiv2 hW
              have d1 : (U * 4294967296 + L1) / Y < 4294967296 := by
                rw [D.hYs.1]; exact dg_lt (by rw [← D.hYs.1]; exact D.hU) D.hL.2.1
              have d2 : (V * 4294967296 + L0) / Y < 4294967296 := by
                rw [D.hYs.1]; exact dg_lt (by rw [← D.hYs.1]; exact hV.1) D.hL.2.2
              have hq := quoV _ _ d1 d2
              have hq2 := quoW _ _ d1 d2
              refine ⟨?_, ?_, ?_, ?_, ?_, ?_⟩
              · rw [e1, fq, fq2]; exact hq
              · rw [e1, fq, fq2]; exact hq2.1
              · rw [e1, fq, fq2]; exact hq2.2
              · rw [e1, ← hq2.2]; exact hq2.1.trans hq2.2.symm
              · rw [e2, Int.natCast_ediv, Int.natCast_pow]; rfl
              · rw [fq2, ← Int.natCast_mul]; exact remV V L0 _ W hdiv2 (by omega)
            obtain ⟨h1, h1b, h1c, h1d, h2, h3⟩ := hfin
            clear fq2
            have HW := Lib.hid eW
            clear eW
            go_wp2
            all_goals (
              go_ret2
              refine ⟨?_, below_drw w _⟩
              try simp only [h1, h1b, h1c, h1d, h2, h3]
              rfl))
end Go.Proofs

