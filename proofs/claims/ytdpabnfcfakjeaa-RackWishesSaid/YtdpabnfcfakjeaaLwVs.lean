/-
  How often a part is at a place: the document's way to count.
-/
/-
  Contracts: how often a part is at each place, the document's count.
-/
/-
  The visits of a part together are the steps.
-/
/-
  Contracts: the document's error of steps.
-/
/-
  Contracts: the document's error of steps.
-/
import Derived.Test.YtdpabnfcfakjeaaLwTb

namespace Go.Ex
open Go Go.RowKit

/-- How often a part is at a place within so many steps. -/
def cntV (S P H G Q K : Nat) : Nat → Nat → Nat → Int
  | 0, _, _ => 0
  | n + 1, i, k => if i = (n + Q * (S / P)) % S ∧ k = (K + G * n) % H then cntV S P H G Q K n i k + 1 else cntV S P H G Q K n i k
/-- The document's count: the steps t, t + p, t + 2 p .. at once. -/
def refV (S P H G Q K N p : Nat) : Nat → Nat → Nat → Int
  | 0, _, _ => 0
  | t + 1, i, k => if t < N ∧ i = (t + Q * (S / P)) % S ∧ k = (K + G * t) % H then refV S P H G Q K N p t i k + (((N - t + p - 1) / p : Nat) : Int) else refV S P H G Q K N p t i k

theorem divU {x p c r : Nat} (h : x = p * c + r) (hr : r < p) : x / p = c := by
  subst h
  rw [Nat.mul_add_div (by omega), Nat.div_eq_of_lt hr, Nat.add_zero]
theorem ceil_succ {N p t : Nat} (hp : 1 ≤ p) (ht : t < p) : (N + 1 - t + p - 1) / p = (N - t + p - 1) / p + if N % p = t then 1 else 0 := by
  have hN := Nat.div_add_mod N p
  have hb : N % p < p := Nat.mod_lt _ hp
  generalize N / p = a at *
  generalize N % p = b at *
  subst hN
  by_cases h1 : t ≤ b
  · have e1 : (p * a + b + 1 - t + p - 1) / p = a + 1 := divU (r := b - t) (by rw [Nat.mul_succ]; omega) (by omega)
    by_cases h2 : b = t
    · subst h2
      rw [if_pos rfl, e1, show (p * a + b - b + p - 1) / p = a from divU (r := p - 1) (by omega) (by omega)]
    · rw [if_neg h2, e1, show (p * a + b - t + p - 1) / p = a + 1 from divU (r := b - t - 1) (by rw [Nat.mul_succ]; omega) (by omega)]
  · rw [if_neg (by omega)]
    cases a with
    | zero =>
      rw [show p * 0 + b + 1 - t + p - 1 = p - 1 by omega, show p * 0 + b - t + p - 1 = p - 1 by omega, Nat.add_zero]
    | succ a =>
      rw [show (p * (a + 1) + b + 1 - t + p - 1) / p = a + 1 from divU (r := p + b - t) (by rw [Nat.mul_succ]; omega) (by omega),
        show (p * (a + 1) + b - t + p - 1) / p = a + 1 from divU (r := p + b - t - 1) (by rw [Nat.mul_succ]; omega) (by omega)]

theorem refV_zero (S P H G Q K p : Nat) (t i k : Nat) : refV S P H G Q K 0 p t i k = 0 := by
  induction t with
  | zero => rfl
  | succ t ih => simp [refV, ih]
theorem refV_succ {S P H G Q K N p : Nat} (hp : 1 ≤ p) (i k : Nat) : ∀ {t : Nat}, t ≤ p → refV S P H G Q K (N + 1) p t i k = refV S P H G Q K N p t i k + if N % p < t ∧ i = (N % p + Q * (S / P)) % S ∧ k = (K + G * (N % p)) % H then 1 else 0
  | 0, _ => by simp [refV]
  | t + 1, ht => by
    have ih := refV_succ (S := S) (P := P) (H := H) (G := G) (Q := Q) (K := K) (N := N) (p := p) hp i k (t := t) (by omega)
    have hc := ceil_succ (N := N) hp (show t < p by omega)
    have hle : N % p ≤ N := Nat.mod_le _ _
    simp only [refV, ih]
    by_cases hpl : i = (t + Q * (S / P)) % S ∧ k = (K + G * t) % H
    · have hX := eq_true hpl
      by_cases hN : N % p = t
      · rw [hN] at hle hc ⊢
        rw [if_pos rfl] at hc
        simp only [hX, and_true]
        rw [if_pos (show t < N + 1 by omega), if_neg (show ¬ t < t by omega), if_pos (show t < t + 1 by omega), hc]
        by_cases hlt : t < N
        · rw [if_pos hlt]; omega
        · rw [if_neg hlt, show (N - t + p - 1) / p = 0 from Nat.div_eq_of_lt (by omega)]; omega
      · rw [if_neg hN, Nat.add_zero] at hc
        simp only [hX, and_true, show (N % p < t + 1) = (N % p < t) from propext (by omega)]
        rw [hc]
        by_cases hlt : t < N
        · rw [if_pos (show t < N + 1 by omega), if_pos hlt]; omega
        · have : t ≠ N := fun e => by
            subst e
            exact hN (Nat.mod_eq_of_lt (by omega))
          rw [if_neg (show ¬ t < N + 1 by omega), if_neg hlt]
    · have hX := eq_false hpl
      by_cases hN : N % p = t
      · rw [hN]
        simp only [hX, and_false, if_false]
      · simp only [hX, and_false, if_false, show (N % p < t + 1) = (N % p < t) from propext (by omega)]

theorem place_per {S P H G Q K : Nat} (hS : 1 ≤ S) (hH : 1 ≤ H) (N : Nat) : (N % perN S H G + Q * (S / P)) % S = (N + Q * (S / P)) % S ∧ (K + G * (N % perN S H G)) % H = (K + G * N) % H := by
  have hN := Nat.div_add_mod N (perN S H G)
  obtain ⟨k, hk⟩ := per_mul S H G
  have ht := per_turn (S := S) (G := G) hH
  obtain ⟨u, hu⟩ := Nat.dvd_of_mod_eq_zero ht
  generalize N / perN S H G = a at *
  generalize N % perN S H G = b at *
  subst hN
  refine ⟨?_, ?_⟩
  · rw [hk, show S * k * a + b + Q * (S / P) = b + Q * (S / P) + S * (k * a) by rw [Nat.mul_assoc]; omega, Nat.add_mul_mod_self_left]
  · rw [show K + G * (perN S H G * a + b) = K + G * b + H * (u * a) by
      rw [Nat.mul_add, ← Nat.mul_assoc G, hu, Nat.mul_assoc]; omega, Nat.add_mul_mod_self_left]
theorem refV_eq {S P H G Q K : Nat} (hS : 1 ≤ S) (hH : 1 ≤ H) (N i k : Nat) : refV S P H G Q K N (perN S H G) (perN S H G) i k = cntV S P H G Q K N i k := by
  have hp := perN_pos G hS hH
  induction N with
  | zero => simp [refV_zero, cntV]
  | succ N ih =>
    obtain ⟨e1, e2⟩ := place_per (S := S) (P := P) (H := H) (G := G) (Q := Q) (K := K) hS hH N
    rw [refV_succ hp i k (Nat.le_refl _), ih, cntV, e1, e2]
    have hb : N % perN S H G < perN S H G := Nat.mod_lt _ hp
    by_cases h : i = (N + Q * (S / P)) % S ∧ k = (K + G * N) % H
    · rw [if_pos ⟨hb, h⟩, if_pos h]
    · rw [if_neg (fun x => h x.2), if_neg h]; omega
end Go.Ex


namespace Go.Ex
open Go Go.Proofs Go.RowKit
noncomputable section
set_option maxRecDepth 1000000

def CeilS : List PT := [.one (.int .i64), .one (.int .i64)]
def CeilC : List FD → Bool
  | [.int _ n, .int _ b] => decide (0 < n) && (decide (n ≤ 1000000000) && (decide (0 < b) && decide (b ≤ 1000000000)))
  | _ => false
def CeilR : List FD → List FD
  | [.int _ n, .int _ b] => [.int .i64 ((n + b - 1) / b)]
  | _ => []
def CeilI (_n : Int) (_b : Int) : Nat → AFam := alts (fun _ => [])
theorem Ceil_ok : FnOk (mkR smK gs5) Try.prog η0 117 (FI.of Try.f117 true) CeilS (.one (.int .i64)) CeilC CeilR := by
  refine fnOk_of0 smK_ok gs5_ok Try.fok117 (fun fds => match fds with | [.int _ n, .int _ b] => CeilI n b | _ => alts fun _ => []) ?_
  intro fds hf hc
  obtain ⟨n, ds0, rfl, hf1⟩ := hf.int
  obtain ⟨b, ds1, rfl, hf2⟩ := hf1.int
  obtain rfl := hf2.nil
  have hc : (decide (0 < n) && (decide (n ≤ 1000000000) && (decide (0 < b) && decide (b ≤ 1000000000)))) = true := hc
  have hvc : (vcF smK gs5 (FI.of Try.f117 true) CeilS (.one (.int .i64)) (CeilI n b) noR [.int .i64 n, .int .i64 b] (CeilR [.int .i64 n, .int .i64 b])) =
    ((true = true) ∧ ((((!decide (b = (0 : Int))) = (true)) → ((((!decide (b = (0 : Int))) = (true)) → ((((decide (Int.tmod (IntKind.wrap IntKind.i64 ((0 : Int) - n)) b < (0 : Int))) = (true)) → (((IntKind.i64) = (IntKind.i64)) ∧ (((n + b - (1 : Int)) / b) = (IntKind.wrap IntKind.i64 ((0 : Int) - IntKind.wrap IntKind.i64 (IntKind.wrap IntKind.i64 (Int.tdiv (IntKind.wrap IntKind.i64 ((0 : Int) - n)) b) - (1 : Int))))))) ∧ (((decide (Int.tmod (IntKind.wrap IntKind.i64 ((0 : Int) - n)) b < (0 : Int))) = (false)) → (((IntKind.i64) = (IntKind.i64)) ∧ (((n + b - (1 : Int)) / b) = (IntKind.wrap IntKind.i64 ((0 : Int) - IntKind.wrap IntKind.i64 (Int.tdiv (IntKind.wrap IntKind.i64 ((0 : Int) - n)) b)))))))) ∧ (((!decide (b = (0 : Int))) = (false)) → False))) ∧ (((!decide (b = (0 : Int))) = (false)) → False))) := by kernel_rfl
  refine hvc.mpr ?_
  clear hvc
  simp only [Bool.and_eq_true, decide_eq_true_eq] at hc
  obtain ⟨N, rfl⟩ := Int.eq_ofNat_of_zero_le (show 0 ≤ n by omega)
  obtain ⟨B, rfl⟩ := Int.eq_ofNat_of_zero_le (show 0 ≤ b by omega)
  have e1 : IntKind.i64.wrap ((0 : Int) - N) = -(N : Int) := by rw [wrap_id (by omega) (by omega)]; omega
  have e2 : (-(N : Int)).tmod B = -((N % B : Nat) : Int) := by rw [Int.neg_tmod, Int.tmod_eq_emod_of_nonneg (by omega), Int.natCast_emod]
  have e3 : (-(N : Int)).tdiv B = -((N / B : Nat) : Int) := by rw [Int.neg_tdiv, Int.tdiv_eq_ediv_of_nonneg (by omega), Int.natCast_ediv]
  have hb : ¬ (B : Int) = 0 := by omega
  have hle : N / B ≤ N := Nat.div_le_self _ _
  have hN := Nat.div_add_mod N B
  have hm : N % B < B := Nat.mod_lt _ (by omega)
  have e4 : ((N : Int) + B - 1) / B = ((N / B : Nat) : Int) + if N % B = 0 then 0 else 1 := by
    have hB1 : (N : Int) + B - 1 = ((N + B - 1 : Nat) : Int) := by omega
    rw [hB1, ← Int.natCast_ediv]
    generalize N / B = a at *
    generalize N % B = b at *
    subst hN
    by_cases h0 : b = 0
    · subst h0
      rw [if_pos rfl, show (B * a + 0 + B - 1) / B = a from divU (r := B - 1) (by omega) (by omega)]; omega
    · rw [if_neg h0, show (B * a + b + B - 1) / B = a + 1 from divU (r := b - 1) (by rw [Nat.mul_succ]; omega) (by omega)]; omega
  rw [e1, e2, e3, e4]
  generalize N / B = a at *
  generalize N % B = b at *
  have e5 : IntKind.i64.wrap (-(a : Int)) = -(a : Int) := wrap_id (by omega) (by omega)
  rw [e5]
  have e6 : IntKind.i64.wrap (-(a : Int) - 1) = -(a : Int) - 1 := wrap_id (by omega) (by omega)
  rw [e6]
  have e7 : IntKind.i64.wrap (0 - (-(a : Int) - 1)) = (a : Int) + 1 := by rw [wrap_id (by omega) (by omega)]; omega
  have e8 : IntKind.i64.wrap (0 - (-(a : Int))) = (a : Int) := by rw [wrap_id (by omega) (by omega)]; omega
  rw [e7, e8]
  by_cases h0 : b = 0
  · subst h0; simp; omega
  · have : (-(b : Int) < 0) = True := eq_true (by omega)
    simp [h0, this]; omega
def smV : T Smf := (T.set smK 117 (some (gFd CeilS (.one (.int .i64)) CeilC CeilR)))
theorem smV_ok : Tab SmOk smV := (Tab.set smK_ok (by kernel_rfl) (smOk_of smK_ok gs5_ok Ceil_ok rfl))
theorem refV_bound (S P H G Q K N p : Nat) (i k : Nat) : ∀ t : Nat, 0 ≤ refV S P H G Q K N p t i k ∧ refV S P H G Q K N p t i k ≤ (t : Int) * ((N : Int) + p)
  | 0 => by simp [refV]
  | t + 1 => by
    obtain ⟨h1, h2⟩ := refV_bound S P H G Q K N p i k t
    have h3 := Nat.div_le_self (N - t + p - 1) p
    have e : ((t + 1 : Nat) : Int) * ((N : Int) + p) = (t : Int) * ((N : Int) + p) + ((N : Int) + p) := by rw [Int.natCast_succ, Int.add_mul, Int.one_mul]
    rw [e]
    simp only [refV]
    generalize (t : Int) * ((N : Int) + p) = z at *
    generalize (N - t + p - 1) / p = c at *
    generalize refV S P H G Q K N p t i k = u at *
    split <;> omega
def refVisitsS : List PT := [.agg [.int .i64, .int .i64, .int .i64, .int .i64], .agg [.int .i64, .int .i64], .one (.int .i64)]
def refVisitsC : List FD → Bool
  | [.int _ st, .int _ pl, .int _ ho, .int _ ge, .int _ p, .int _ h, .int _ n] => (rackB st pl ho ge && partB pl ho p h) && (decide (0 ≤ n) && decide (n ≤ 1000000000))
  | _ => false
def refVisitsR : List FD → List FD
  | [.int _ st, .int _ pl, .int _ ho, .int _ ge, .int _ p, .int _ h, .int _ n] => [.list [.list [.int .i64]] st.toNat (fun i _ => .list [.int .i64] ho.toNat (fun k _ => .int .i64 (refV st.toNat pl.toNat ho.toNat ge.toNat p.toNat h.toNat n.toNat (perI st ho ge).toNat (perI st ho ge).toNat i k)))]
  | _ => []
def refVisitsI (st : Int) (pl : Int) (ho : Int) (ge : Int) (p : Int) (h : Int) (n : Int) : Nat → AFam := fun i => match i with | 3 => ⟨Nat, fun _ => [{ι := Nat, G := fun x => x = 0, μ := fun x => st.toNat - x, tl := fun x => [(0, .agg [.int IntKind.i64 (.tm st), .int IntKind.i64 (.tm pl), .int IntKind.i64 (.tm ho), .int IntKind.i64 (.tm ge)]), (1, .agg [.int IntKind.i64 (.tm p), .int IntKind.i64 (.tm h)]), (2, .one (.int IntKind.i64 (.tm n))), (3, .one (.ptr (some (1, 0)))), (4, .one (.ptr (some (2, 0)))), (6, .one (.slice none 0 (.known 0))), (7, .one (.own 3 (Int.toNat st))), (8, .one (.int IntKind.i64 (.tm (Int.ofNat x)))), (12, .one (.ptr (some (1, 0)))), (13, .one (.int IntKind.i64 (.tm st))), (14, .one (.own 3 (Int.toNat st)))], bl := fun x => [(1, .cells 47 4 [.int IntKind.i64 (.tm st), .int IntKind.i64 (.tm pl), .int IntKind.i64 (.tm ho), .int IntKind.i64 (.tm ge)]), (2, .cells 64 2 [.int IntKind.i64 (.tm p), .int IntKind.i64 (.tm h)]), (3, .row 22 [Sh.list []] (Int.toNat st) (fun (x j : Nat) => atFD [FD.list [] (0 : Nat) fun (x x_1 : Nat) => FD.bool false] j))], nx := (1 : Nat) + (1 : Nat) + (1 : Nat) + (1 : Nat)}, {ι := Nat, G := fun x => 1 ≤ x ∧ x ≤ st.toNat, μ := fun x => st.toNat - x, tl := fun x => [(0, .agg [.int IntKind.i64 (.tm st), .int IntKind.i64 (.tm pl), .int IntKind.i64 (.tm ho), .int IntKind.i64 (.tm ge)]), (1, .agg [.int IntKind.i64 (.tm p), .int IntKind.i64 (.tm h)]), (2, .one (.int IntKind.i64 (.tm n))), (3, .one (.ptr (some (1, 0)))), (4, .one (.ptr (some (2, 0)))), (6, .one (.slice none 0 (.known 0))), (7, .one (.own 3 (Int.toNat st))), (8, .one (.int IntKind.i64 (.tm (Int.ofNat x)))), (12, .one (.ptr (some (1, 0)))), (13, .one (.int IntKind.i64 (.tm st))), (14, .one (.own 3 (Int.toNat st)))], bl := fun x => [(1, .cells 47 4 [.int IntKind.i64 (.tm st), .int IntKind.i64 (.tm pl), .int IntKind.i64 (.tm ho), .int IntKind.i64 (.tm ge)]), (2, .cells 64 2 [.int IntKind.i64 (.tm p), .int IntKind.i64 (.tm h)]), (3, .mat 4 22 (.int .i64) st.toNat x ho.toNat (fun _ _ => .int .i64 0))], nx := 5}]⟩ | 8 => ⟨Nat, fun _ => [{ι := Nat, G := fun x => x ≤ (perI st ho ge).toNat, μ := fun x => (perI st ho ge).toNat - x, tl := fun x => [(0, .agg [.int IntKind.i64 (.tm st), .int IntKind.i64 (.tm pl), .int IntKind.i64 (.tm ho), .int IntKind.i64 (.tm ge)]), (1, .agg [.int IntKind.i64 (.tm p), .int IntKind.i64 (.tm h)]), (2, .one (.int IntKind.i64 (.tm n))), (3, .one (.ptr (some (1, 0)))), (4, .one (.ptr (some (2, 0)))), (7, .one (.own 3 (Int.toNat st))), (9, .one (.int IntKind.i64 (.tm (perI st ho ge)))), (10, .one (.int IntKind.i64 (.tm (Int.ofNat x))))], bl := fun x => [(1, .cells 47 4 [.int IntKind.i64 (.tm st), .int IntKind.i64 (.tm pl), .int IntKind.i64 (.tm ho), .int IntKind.i64 (.tm ge)]), (2, .cells 64 2 [.int IntKind.i64 (.tm p), .int IntKind.i64 (.tm h)]), (3, .mat 4 22 (.int .i64) st.toNat st.toNat ho.toNat (fun i k => .int .i64 (refV st.toNat pl.toNat ho.toNat ge.toNat p.toNat h.toNat n.toNat (perI st ho ge).toNat x i k)))], nx := 5}]⟩ | _ => ⟨Nat, fun _ => []⟩
abbrev qrefVisits1 (st : Int) (pl : Int) (ho : Int) (ge : Int) : Prop := ((((IntKind.i64) = (IntKind.i64)) ∧ ((st) = (st))) ∧ ((((IntKind.i64) = (IntKind.i64)) ∧ ((pl) = (pl))) ∧ ((((IntKind.i64) = (IntKind.i64)) ∧ ((ho) = (ho))) ∧ ((((IntKind.i64) = (IntKind.i64)) ∧ ((ge) = (ge))) ∧ True))))
abbrev qrefVisits2 (st : Int) (pl : Int) (ho : Int) (ge : Int) (p : Int) (h : Int) (n : Int) (y1 : Nat) (y2 : Nat) : Prop := ((true = true) ∧ ((qrefVisits1 st pl ho ge) ∧ (((((IntKind.i64) = (IntKind.i64)) ∧ ((p) = (p))) ∧ ((((IntKind.i64) = (IntKind.i64)) ∧ ((h) = (h))) ∧ True)) ∧ ((((IntKind.i64) = (IntKind.i64)) ∧ ((n) = (n))) ∧ ((((1, 1) ∈ ([(3, 3), (2, 2), (1, 1)] : List (Nat × Nat))) ∧ ((0) = (0))) ∧ ((((2, 2) ∈ ([(3, 3), (2, 2), (1, 1)] : List (Nat × Nat))) ∧ ((0) = (0))) ∧ ((((0) = (0)) ∧ ((0) = (0))) ∧ ((((3, 3) ∈ ([(3, 3), (2, 2), (1, 1)] : List (Nat × Nat))) ∧ ((Int.toNat st) = (Int.toNat st))) ∧ ((((IntKind.i64) = (IntKind.i64)) ∧ ((Int.ofNat y2) = (IntKind.wrap IntKind.i64 (Int.ofNat y1 + (1 : Int))))) ∧ ((((1, 1) ∈ ([(3, 3), (2, 2), (1, 1)] : List (Nat × Nat))) ∧ ((0) = (0))) ∧ ((((IntKind.i64) = (IntKind.i64)) ∧ ((st) = (st))) ∧ ((((3, 3) ∈ ([(3, 3), (2, 2), (1, 1)] : List (Nat × Nat))) ∧ ((Int.toNat st) = (Int.toNat st))) ∧ True))))))))))))
abbrev qrefVisits3 (st : Int) (pl : Int) (ho : Int) (ge : Int) (p : Int) (h : Int) (n : Int) (y1 : Nat) : Prop := ((true = true) ∧ ((qrefVisits1 st pl ho ge) ∧ (((((IntKind.i64) = (IntKind.i64)) ∧ ((p) = (p))) ∧ ((((IntKind.i64) = (IntKind.i64)) ∧ ((h) = (h))) ∧ True)) ∧ ((((IntKind.i64) = (IntKind.i64)) ∧ ((n) = (n))) ∧ ((((1, 1) ∈ ([(3, 3), (2, 2), (1, 1)] : List (Nat × Nat))) ∧ ((0) = (0))) ∧ ((((2, 2) ∈ ([(3, 3), (2, 2), (1, 1)] : List (Nat × Nat))) ∧ ((0) = (0))) ∧ ((((0) = (0)) ∧ ((0) = (0))) ∧ ((((3, 3) ∈ ([(3, 3), (2, 2), (1, 1)] : List (Nat × Nat))) ∧ ((Int.toNat st) = (Int.toNat st))) ∧ ((((IntKind.i64) = (IntKind.i64)) ∧ ((Int.ofNat y1) = ((0 : Int)))) ∧ ((((1, 1) ∈ ([(3, 3), (2, 2), (1, 1)] : List (Nat × Nat))) ∧ ((0) = (0))) ∧ ((((IntKind.i64) = (IntKind.i64)) ∧ ((st) = (st))) ∧ ((((3, 3) ∈ ([(3, 3), (2, 2), (1, 1)] : List (Nat × Nat))) ∧ ((Int.toNat st) = (Int.toNat st))) ∧ True))))))))))))
abbrev qrefVisits4 (p : Int) (h : Int) : Prop := ((((64 : TypeId)) = ((64 : TypeId))) ∧ (((2) = (2)) ∧ ((((IntKind.i64) = (IntKind.i64)) ∧ ((p) = (p))) ∧ ((((IntKind.i64) = (IntKind.i64)) ∧ ((h) = (h))) ∧ True))))
abbrev qrefVisits5 (st : Int) (pl : Int) (ho : Int) (ge : Int) (p : Int) (h : Int) (n : Int) (y3 : Nat) (y4 : Nat) : Prop := ((true = true) ∧ ((qrefVisits1 st pl ho ge) ∧ (((((IntKind.i64) = (IntKind.i64)) ∧ ((p) = (p))) ∧ ((((IntKind.i64) = (IntKind.i64)) ∧ ((h) = (h))) ∧ True)) ∧ ((((IntKind.i64) = (IntKind.i64)) ∧ ((n) = (n))) ∧ ((((1, 1) ∈ ([(3, 3), (2, 2), (1, 1)] : List (Nat × Nat))) ∧ ((0) = (0))) ∧ ((((2, 2) ∈ ([(3, 3), (2, 2), (1, 1)] : List (Nat × Nat))) ∧ ((0) = (0))) ∧ ((((3, 3) ∈ ([(3, 3), (2, 2), (1, 1)] : List (Nat × Nat))) ∧ ((Int.toNat st) = (Int.toNat st))) ∧ ((((IntKind.i64) = (IntKind.i64)) ∧ ((perI st ho ge) = (perI st ho ge))) ∧ ((((IntKind.i64) = (IntKind.i64)) ∧ ((Int.ofNat y4) = (IntKind.wrap IntKind.i64 (Int.ofNat y3 + (1 : Int))))) ∧ True)))))))))
abbrev qrefVisits0 (st : Int) (pl : Int) (ho : Int) (ge : Int) (p : Int) (h : Int) (n : Int) : Prop := (∀ y3 : Nat, (y3 ≤ Int.toNat (perI st ho ge) → ((((decide (Int.ofNat y3 < perI st ho ge)) = (true)) → ((((refPlaceC ([FD.int IntKind.i64 st, FD.int IntKind.i64 pl, FD.int IntKind.i64 ho, FD.int IntKind.i64 ge] ++ ([FD.int IntKind.i64 p, FD.int IntKind.i64 h] ++ [FD.int IntKind.i64 (Int.ofNat y3)]))) = (true)) → ((((decide (Int.ofNat y3 < n)) = (true)) → ((((decide ((0 : Int) ≤ statI st pl p (Int.ofNat y3)) && decide (statI st pl p (Int.ofNat y3) < (↑(Int.toNat st) : Int))) = (true)) → ((((Nat.blt (Int.toNat (statI st pl p (Int.ofNat y3))) (Int.toNat st)) = (true)) → ((((decide ((0 : Int) ≤ statI st pl p (Int.ofNat y3)) && decide (statI st pl p (Int.ofNat y3) < (↑(Int.toNat st) : Int))) = (true)) → ((((Nat.blt (Int.toNat (statI st pl p (Int.ofNat y3))) (Int.toNat st)) = (true)) → ((((decide ((0 : Int) ≤ sideI ho ge h (Int.ofNat y3)) && decide (sideI ho ge h (Int.ofNat y3) < (↑(Int.toNat ho) : Int))) = (true)) → ((((Nat.blt (Int.toNat (statI st pl p (Int.ofNat y3))) (Int.toNat st) && Nat.blt (Int.toNat (sideI ho ge h (Int.ofNat y3))) (Int.toNat ho)) = (true)) → ((((CeilC [FD.int IntKind.i64 (IntKind.wrap IntKind.i64 (n - Int.ofNat y3)), FD.int IntKind.i64 (perI st ho ge)]) = (true)) → ((((decide ((0 : Int) ≤ sideI ho ge h (Int.ofNat y3)) && decide (sideI ho ge h (Int.ofNat y3) < (↑(Int.toNat ho) : Int))) = (true)) → ((((Nat.blt (Int.toNat (statI st pl p (Int.ofNat y3))) (Int.toNat st) && Nat.blt (Int.toNat (sideI ho ge h (Int.ofNat y3))) (Int.toNat ho)) = (true)) → (∃ y4 : Nat, ((y4 ≤ Int.toNat (perI st ho ge) ∧ Int.toNat (perI st ho ge) - y4 < Int.toNat (perI st ho ge) - y3) ∧ ((qrefVisits5 st pl ho ge p h n y3 y4) ∧ (((((47 : TypeId)) = ((47 : TypeId))) ∧ (((4) = (4)) ∧ (qrefVisits1 st pl ho ge))) ∧ ((qrefVisits4 p h) ∧ ((((((4) = (4)) ∧ (true = true)) ∧ ((((22 : TypeId)) = ((22 : TypeId))) ∧ ((Sh.int IntKind.i64) = (Sh.int IntKind.i64)))) ∧ (((Int.toNat st) = (Int.toNat st)) ∧ (((Int.toNat st) = (Int.toNat st)) ∧ (((Int.toNat ho) = (Int.toNat ho)) ∧ (∀ y5 : Nat, (y5 < Int.toNat st → (∀ y6 : Nat, (y6 < Int.toNat ho → ((FD.int IntKind.i64 (refV (Int.toNat st) (Int.toNat pl) (Int.toNat ho) (Int.toNat ge) (Int.toNat p) (Int.toNat h) (Int.toNat n) (Int.toNat (perI st ho ge)) y4 y5 y6)) = (bif Nat.beq y5 (Int.toNat (statI st pl p (Int.ofNat y3))) && Nat.beq y6 (Int.toNat (sideI ho ge h (Int.ofNat y3))) then FD.int IntKind.i64 (IntKind.wrap IntKind.i64 (refV (Int.toNat st) (Int.toNat pl) (Int.toNat ho) (Int.toNat ge) (Int.toNat p) (Int.toNat h) (Int.toNat n) (Int.toNat (perI st ho ge)) y3 (Int.toNat (statI st pl p (Int.ofNat y3))) (Int.toNat (sideI ho ge h (Int.ofNat y3))) + (IntKind.wrap IntKind.i64 (n - Int.ofNat y3) + perI st ho ge - (1 : Int)) / perI st ho ge)) else FD.int IntKind.i64 (refV (Int.toNat st) (Int.toNat pl) (Int.toNat ho) (Int.toNat ge) (Int.toNat p) (Int.toNat h) (Int.toNat n) (Int.toNat (perI st ho ge)) y3 y5 y6))))))))))) ∧ True))))))) ∧ (((Nat.blt (Int.toNat (statI st pl p (Int.ofNat y3))) (Int.toNat st) && Nat.blt (Int.toNat (sideI ho ge h (Int.ofNat y3))) (Int.toNat ho)) = (false)) → False))) ∧ (((decide ((0 : Int) ≤ sideI ho ge h (Int.ofNat y3)) && decide (sideI ho ge h (Int.ofNat y3) < (↑(Int.toNat ho) : Int))) = (false)) → False))) ∧ (((CeilC [FD.int IntKind.i64 (IntKind.wrap IntKind.i64 (n - Int.ofNat y3)), FD.int IntKind.i64 (perI st ho ge)]) = (false)) → False))) ∧ (((Nat.blt (Int.toNat (statI st pl p (Int.ofNat y3))) (Int.toNat st) && Nat.blt (Int.toNat (sideI ho ge h (Int.ofNat y3))) (Int.toNat ho)) = (false)) → False))) ∧ (((decide ((0 : Int) ≤ sideI ho ge h (Int.ofNat y3)) && decide (sideI ho ge h (Int.ofNat y3) < (↑(Int.toNat ho) : Int))) = (false)) → False))) ∧ (((Nat.blt (Int.toNat (statI st pl p (Int.ofNat y3))) (Int.toNat st)) = (false)) → False))) ∧ (((decide ((0 : Int) ≤ statI st pl p (Int.ofNat y3)) && decide (statI st pl p (Int.ofNat y3) < (↑(Int.toNat st) : Int))) = (false)) → False))) ∧ (((Nat.blt (Int.toNat (statI st pl p (Int.ofNat y3))) (Int.toNat st)) = (false)) → False))) ∧ (((decide ((0 : Int) ≤ statI st pl p (Int.ofNat y3)) && decide (statI st pl p (Int.ofNat y3) < (↑(Int.toNat st) : Int))) = (false)) → False))) ∧ (((decide (Int.ofNat y3 < n)) = (false)) → (∃ y4 : Nat, ((y4 ≤ Int.toNat (perI st ho ge) ∧ Int.toNat (perI st ho ge) - y4 < Int.toNat (perI st ho ge) - y3) ∧ ((qrefVisits5 st pl ho ge p h n y3 y4) ∧ (((((47 : TypeId)) = ((47 : TypeId))) ∧ (((4) = (4)) ∧ (qrefVisits1 st pl ho ge))) ∧ ((qrefVisits4 p h) ∧ ((((((4) = (4)) ∧ (true = true)) ∧ ((((22 : TypeId)) = ((22 : TypeId))) ∧ ((Sh.int IntKind.i64) = (Sh.int IntKind.i64)))) ∧ (((Int.toNat st) = (Int.toNat st)) ∧ (((Int.toNat st) = (Int.toNat st)) ∧ (((Int.toNat ho) = (Int.toNat ho)) ∧ (∀ y5 : Nat, (y5 < Int.toNat st → (∀ y6 : Nat, (y6 < Int.toNat ho → ((FD.int IntKind.i64 (refV (Int.toNat st) (Int.toNat pl) (Int.toNat ho) (Int.toNat ge) (Int.toNat p) (Int.toNat h) (Int.toNat n) (Int.toNat (perI st ho ge)) y4 y5 y6)) = (FD.int IntKind.i64 (refV (Int.toNat st) (Int.toNat pl) (Int.toNat ho) (Int.toNat ge) (Int.toNat p) (Int.toNat h) (Int.toNat n) (Int.toNat (perI st ho ge)) y3 y5 y6))))))))))) ∧ True))))))))) ∧ (((refPlaceC ([FD.int IntKind.i64 st, FD.int IntKind.i64 pl, FD.int IntKind.i64 ho, FD.int IntKind.i64 ge] ++ ([FD.int IntKind.i64 p, FD.int IntKind.i64 h] ++ [FD.int IntKind.i64 (Int.ofNat y3)]))) = (false)) → False))) ∧ (((decide (Int.ofNat y3 < perI st ho ge)) = (false)) → ((1 : Nat) ≤ (3 : Nat) ∧ ((((([Sh.list [Sh.int IntKind.i64]]) = ([Sh.list [Sh.int IntKind.i64]])) ∧ (1 : Nat) ≤ (4 : Nat)) ∧ (((Int.toNat st) = (Int.toNat st)) ∧ ((Int.toNat st) = (Int.toNat st)))) ∧ (((Int.toNat st) = (Int.toNat st)) ∧ (∀ y4 : Nat, (y4 < Int.toNat st → (((FD.list [Sh.int IntKind.i64] (Int.toNat ho) fun (k x : Nat) => FD.int IntKind.i64 (refV (Int.toNat st) (Int.toNat pl) (Int.toNat ho) (Int.toNat ge) (Int.toNat p) (Int.toNat h) (Int.toNat n) (Int.toNat (perI st ho ge)) (Int.toNat (perI st ho ge)) y4 k)) = (FD.list [Sh.int IntKind.i64] (Int.toNat ho) fun (k x : Nat) => FD.int IntKind.i64 (refV (Int.toNat st) (Int.toNat pl) (Int.toNat ho) (Int.toNat ge) (Int.toNat p) (Int.toNat h) (Int.toNat n) (Int.toNat (perI st ho ge)) (Int.toNat (perI st ho ge)) y4 k))) ∧ (((Int.toNat ho) = (Int.toNat ho)) ∧ (∀ y5 : Nat, (y5 < Int.toNat ho → ((FD.int IntKind.i64 (refV (Int.toNat st) (Int.toNat pl) (Int.toNat ho) (Int.toNat ge) (Int.toNat p) (Int.toNat h) (Int.toNat n) (Int.toNat (perI st ho ge)) (Int.toNat (perI st ho ge)) y4 y5)) = (FD.int IntKind.i64 (refV (Int.toNat st) (Int.toNat pl) (Int.toNat ho) (Int.toNat ge) (Int.toNat p) (Int.toNat h) (Int.toNat n) (Int.toNat (perI st ho ge)) y3 y4 y5))))))))))))))))
abbrev qrefVisits6 (st : Int) (pl : Int) (ho : Int) (ge : Int) (p : Int) (h : Int) (n : Int) (y3 : Nat) : Prop := ((true = true) ∧ ((qrefVisits1 st pl ho ge) ∧ (((((IntKind.i64) = (IntKind.i64)) ∧ ((p) = (p))) ∧ ((((IntKind.i64) = (IntKind.i64)) ∧ ((h) = (h))) ∧ True)) ∧ ((((IntKind.i64) = (IntKind.i64)) ∧ ((n) = (n))) ∧ ((((1, 1) ∈ ([(3, 3), (2, 2), (1, 1)] : List (Nat × Nat))) ∧ ((0) = (0))) ∧ ((((2, 2) ∈ ([(3, 3), (2, 2), (1, 1)] : List (Nat × Nat))) ∧ ((0) = (0))) ∧ ((((3, 3) ∈ ([(3, 3), (2, 2), (1, 1)] : List (Nat × Nat))) ∧ ((Int.toNat st) = (Int.toNat st))) ∧ ((((IntKind.i64) = (IntKind.i64)) ∧ ((perI st ho ge) = (perI st ho ge))) ∧ ((((IntKind.i64) = (IntKind.i64)) ∧ ((Int.ofNat y3) = ((0 : Int)))) ∧ True)))))))))
theorem refVisits_ok : FnOk (mkR smV gs5) Try.prog η0 55 (FI.of Try.f55 false) refVisitsS (.one (.list [.list [.int .i64]])) refVisitsC refVisitsR := by
  refine fnOk_of0 smV_ok gs5_ok Try.fok55 (fun fds => match fds with | [.int _ st, .int _ pl, .int _ ho, .int _ ge, .int _ p, .int _ h, .int _ n] => refVisitsI st pl ho ge p h n | _ => alts fun _ => []) ?_
  intro fds hf hc
  obtain ⟨st, ds0, rfl, hf1⟩ := hf.int
  obtain ⟨pl, ds1, rfl, hf2⟩ := hf1.int
  obtain ⟨ho, ds2, rfl, hf3⟩ := hf2.int
  obtain ⟨ge, ds3, rfl, hf4⟩ := hf3.int
  obtain ⟨p, ds4, rfl, hf5⟩ := hf4.int
  obtain ⟨h, ds5, rfl, hf6⟩ := hf5.int
  obtain ⟨n, ds6, rfl, hf7⟩ := hf6.int
  obtain rfl := hf7.nil
  have hc : ((rackB st pl ho ge && partB pl ho p h) && (decide (0 ≤ n) && decide (n ≤ 1000000000))) = true := hc
  have hvc : (vcF smV gs5 (FI.of Try.f55 false) refVisitsS (.one (.list [.list [.int .i64]])) (refVisitsI st pl ho ge p h n) noR [.int .i64 st, .int .i64 pl, .int .i64 ho, .int .i64 ge, .int .i64 p, .int .i64 h, .int .i64 n] (refVisitsR [.int .i64 st, .int .i64 pl, .int .i64 ho, .int .i64 ge, .int .i64 p, .int .i64 h, .int .i64 n])) =
    ((true = true) ∧ ((((decide ((0 : Int) ≤ st) && (decide (st ≤ st) && decide (st ≤ (↑(1000000 : Nat) : Int)))) = (true)) → (∃ y0 : Nat, (((∃ y1 : Nat, ((((y1) = (0)) ∧ True) ∧ ((qrefVisits3 st pl ho ge p h n y1) ∧ (((((47 : TypeId)) = ((47 : Nat))) ∧ (((4) = (4)) ∧ (qrefVisits1 st pl ho ge))) ∧ (((((64 : TypeId)) = ((64 : Nat))) ∧ (((2) = (2)) ∧ ((((IntKind.i64) = (IntKind.i64)) ∧ ((p) = (p))) ∧ ((((IntKind.i64) = (IntKind.i64)) ∧ ((h) = (h))) ∧ True)))) ∧ (((((22 : TypeId)) = ((22 : TypeId))) ∧ ((([Sh.list []]) = ([Sh.list []])) ∧ (((Int.toNat st) = (Int.toNat st)) ∧ (∀ y2 : Nat, (y2 < Int.toNat st → (∀ y3 : Nat, (y3 < List.length [Sh.list []] → ((atFD [FD.list [] (0 : Nat) fun (x x_1 : Nat) => FD.bool false] y3) = (atFD [FD.list [] (0 : Nat) fun (x x_1 : Nat) => FD.bool false] y3))))))))) ∧ True)))))) ∨ (∃ y1 : Nat, ((((1 : Nat) ≤ y1 ∧ y1 ≤ Int.toNat st) ∧ True) ∧ ((qrefVisits3 st pl ho ge p h n y1) ∧ (((((47 : TypeId)) = ((47 : Nat))) ∧ (((4) = (4)) ∧ (qrefVisits1 st pl ho ge))) ∧ (((((64 : TypeId)) = ((64 : Nat))) ∧ (((2) = (2)) ∧ ((((IntKind.i64) = (IntKind.i64)) ∧ ((p) = (p))) ∧ ((((IntKind.i64) = (IntKind.i64)) ∧ ((h) = (h))) ∧ True)))) ∧ (False ∧ True))))))) ∧ ((∀ y1 : Nat, (((y1) = (0)) → ((((decide (Int.ofNat y1 < Int.ofNat (Int.toNat st))) = (true)) → ((((decide ((0 : Int) ≤ ho) && (decide (ho ≤ ho) && decide (ho ≤ (↑(1000000 : Nat) : Int)))) = (true)) → ((((decide ((0 : Int) ≤ Int.ofNat y1) && decide (Int.ofNat y1 < (↑(Int.toNat st) : Int))) = (true)) → ((((Nat.beq (Int.toNat (Int.ofNat y1)) (0 : Nat) && Nat.blt (0 : Nat) (Int.toNat st) && Nat.beq (Int.toNat ho) (Int.toNat ho)) = (true)) → ((∃ y2 : Nat, ((((y2) = (0)) ∧ Int.toNat st - y2 < Int.toNat st - y1) ∧ ((qrefVisits2 st pl ho ge p h n y1 y2) ∧ (((((47 : TypeId)) = ((47 : TypeId))) ∧ (((4) = (4)) ∧ (qrefVisits1 st pl ho ge))) ∧ ((qrefVisits4 p h) ∧ (False ∧ True)))))) ∨ (∃ y2 : Nat, ((((1 : Nat) ≤ y2 ∧ y2 ≤ Int.toNat st) ∧ Int.toNat st - y2 < Int.toNat st - y1) ∧ (((True ∧ (True ∧ (True ∧ (True ∧ (True ∧ (True ∧ (True ∧ (True ∧ (True ∧ (True ∧ (True ∧ True))))))))))) ∧ (true = true)) ∧ ((qrefVisits2 st pl ho ge p h n y1 y2) ∧ (((((47 : TypeId)) = ((47 : TypeId))) ∧ (((4) = (4)) ∧ (qrefVisits1 st pl ho ge))) ∧ ((qrefVisits4 p h) ∧ ((((((5) = (5)) ∧ (true = true)) ∧ ((((22 : TypeId)) = ((22 : TypeId))) ∧ ((Sh.int IntKind.i64) = (Sh.int IntKind.i64)))) ∧ (((Int.toNat st) = (Int.toNat st)) ∧ (((y2) = (1)) ∧ (((Int.toNat ho) = (Int.toNat ho)) ∧ (∀ y3 : Nat, (y3 < y2 → (∀ y4 : Nat, (y4 < Int.toNat ho → ((FD.int IntKind.i64 (0 : Int)) = (bif Nat.beq y3 (0 : Nat) then FD.int IntKind.i64 (0 : Int) else FD.bool false)))))))))) ∧ True))))))))) ∧ (((Nat.beq (Int.toNat (Int.ofNat y1)) (0 : Nat) && Nat.blt (0 : Nat) (Int.toNat st) && Nat.beq (Int.toNat ho) (Int.toNat ho)) = (false)) → False))) ∧ (((decide ((0 : Int) ≤ Int.ofNat y1) && decide (Int.ofNat y1 < (↑(Int.toNat st) : Int))) = (false)) → False))) ∧ (((decide ((0 : Int) ≤ ho) && (decide (ho ≤ ho) && decide (ho ≤ (↑(1000000 : Nat) : Int)))) = (false)) → False))) ∧ (((decide (Int.ofNat y1 < Int.ofNat (Int.toNat st))) = (false)) → ((((refPeriodC ([FD.int IntKind.i64 st, FD.int IntKind.i64 pl, FD.int IntKind.i64 ho, FD.int IntKind.i64 ge] ++ [])) = (true)) → (∃ y2 : Nat, ((∃ y3 : Nat, ((y3 ≤ Int.toNat (perI st ho ge) ∧ True) ∧ ((qrefVisits6 st pl ho ge p h n y3) ∧ (((((47 : TypeId)) = ((47 : TypeId))) ∧ (((4) = (4)) ∧ (qrefVisits1 st pl ho ge))) ∧ ((qrefVisits4 p h) ∧ (False ∧ True)))))) ∧ (qrefVisits0 st pl ho ge p h n)))) ∧ (((refPeriodC ([FD.int IntKind.i64 st, FD.int IntKind.i64 pl, FD.int IntKind.i64 ho, FD.int IntKind.i64 ge] ++ [])) = (false)) → False)))))) ∧ (∀ y1 : Nat, (((1 : Nat) ≤ y1 ∧ y1 ≤ Int.toNat st) → ((((decide (Int.ofNat y1 < Int.ofNat (Int.toNat st))) = (true)) → ((((decide ((0 : Int) ≤ ho) && (decide (ho ≤ ho) && decide (ho ≤ (↑(1000000 : Nat) : Int)))) = (true)) → ((((decide ((0 : Int) ≤ Int.ofNat y1) && decide (Int.ofNat y1 < (↑(Int.toNat st) : Int))) = (true)) → ((((Nat.beq (Int.toNat (Int.ofNat y1)) y1 && Nat.blt y1 (Int.toNat st) && Nat.beq (Int.toNat ho) (Int.toNat ho) && Nat.beq (Int.toNat ho) (Int.toNat ho)) = (true)) → ((∃ y2 : Nat, ((((y2) = (0)) ∧ Int.toNat st - y2 < Int.toNat st - y1) ∧ ((qrefVisits2 st pl ho ge p h n y1 y2) ∧ (((((47 : TypeId)) = ((47 : TypeId))) ∧ (((4) = (4)) ∧ (qrefVisits1 st pl ho ge))) ∧ ((qrefVisits4 p h) ∧ (False ∧ True)))))) ∨ (∃ y2 : Nat, ((((1 : Nat) ≤ y2 ∧ y2 ≤ Int.toNat st) ∧ Int.toNat st - y2 < Int.toNat st - y1) ∧ (((True ∧ (True ∧ (True ∧ (True ∧ (True ∧ (True ∧ (True ∧ (True ∧ (True ∧ (True ∧ (True ∧ True))))))))))) ∧ (true = true)) ∧ ((qrefVisits2 st pl ho ge p h n y1 y2) ∧ (((((47 : TypeId)) = ((47 : TypeId))) ∧ (((4) = (4)) ∧ (qrefVisits1 st pl ho ge))) ∧ ((qrefVisits4 p h) ∧ ((((((6) = (6)) ∧ (true = true)) ∧ ((((22 : TypeId)) = ((22 : TypeId))) ∧ ((Sh.int IntKind.i64) = (Sh.int IntKind.i64)))) ∧ (((Int.toNat st) = (Int.toNat st)) ∧ (((y2) = (y1 + (1 : Nat))) ∧ (((Int.toNat ho) = (Int.toNat ho)) ∧ (∀ y3 : Nat, (y3 < y2 → (∀ y4 : Nat, (y4 < Int.toNat ho → ((FD.int IntKind.i64 (0 : Int)) = (bif Nat.beq y3 y1 then FD.int IntKind.i64 (0 : Int) else FD.int IntKind.i64 (0 : Int))))))))))) ∧ True))))))))) ∧ (((Nat.beq (Int.toNat (Int.ofNat y1)) y1 && Nat.blt y1 (Int.toNat st) && Nat.beq (Int.toNat ho) (Int.toNat ho) && Nat.beq (Int.toNat ho) (Int.toNat ho)) = (false)) → False))) ∧ (((decide ((0 : Int) ≤ Int.ofNat y1) && decide (Int.ofNat y1 < (↑(Int.toNat st) : Int))) = (false)) → False))) ∧ (((decide ((0 : Int) ≤ ho) && (decide (ho ≤ ho) && decide (ho ≤ (↑(1000000 : Nat) : Int)))) = (false)) → False))) ∧ (((decide (Int.ofNat y1 < Int.ofNat (Int.toNat st))) = (false)) → ((((refPeriodC ([FD.int IntKind.i64 st, FD.int IntKind.i64 pl, FD.int IntKind.i64 ho, FD.int IntKind.i64 ge] ++ [])) = (true)) → (∃ y2 : Nat, ((∃ y3 : Nat, ((y3 ≤ Int.toNat (perI st ho ge) ∧ True) ∧ ((qrefVisits6 st pl ho ge p h n y3) ∧ (((((47 : TypeId)) = ((47 : TypeId))) ∧ (((4) = (4)) ∧ (qrefVisits1 st pl ho ge))) ∧ ((qrefVisits4 p h) ∧ ((((((4) = (4)) ∧ (true = true)) ∧ ((((22 : TypeId)) = ((22 : TypeId))) ∧ ((Sh.int IntKind.i64) = (Sh.int IntKind.i64)))) ∧ (((Int.toNat st) = (Int.toNat st)) ∧ (((Int.toNat st) = (y1)) ∧ (((Int.toNat ho) = (Int.toNat ho)) ∧ (∀ y4 : Nat, (y4 < Int.toNat st → (∀ y5 : Nat, (y5 < Int.toNat ho → ((FD.int IntKind.i64 (refV (Int.toNat st) (Int.toNat pl) (Int.toNat ho) (Int.toNat ge) (Int.toNat p) (Int.toNat h) (Int.toNat n) (Int.toNat (perI st ho ge)) y3 y4 y5)) = (FD.int IntKind.i64 (0 : Int))))))))))) ∧ True)))))) ∧ (qrefVisits0 st pl ho ge p h n)))) ∧ (((refPeriodC ([FD.int IntKind.i64 st, FD.int IntKind.i64 pl, FD.int IntKind.i64 ho, FD.int IntKind.i64 ge] ++ [])) = (false)) → False)))))))))) ∧ (((decide ((0 : Int) ≤ st) && (decide (st ≤ st) && decide (st ≤ (↑(1000000 : Nat) : Int)))) = (false)) → False))) := by kernel_rfl
  refine hvc.mpr ?_
  clear hvc
  dsimp only [qrefVisits1, qrefVisits2, qrefVisits3, qrefVisits4, qrefVisits5, qrefVisits0, qrefVisits6]
  simp only [Bool.and_eq_true, decide_eq_true_eq] at hc
  obtain ⟨⟨hrk, hpt⟩, hn0, hn1⟩ := hc
  obtain ⟨S, P, H, G, ⟨rfl, rfl, rfl, rfl⟩, c1, c2, c3, c4, c5, c6, c7, c8⟩ := rack_nat hrk
  obtain ⟨Q, K, ⟨rfl, rfl⟩, c9, c10⟩ := part_nat hpt
  obtain ⟨N, rfl⟩ := Int.eq_ofNat_of_zero_le hn0
  have hper : perI (S : Int) H G = (perN S H G : Nat) := perI_nat (by omega) (by omega)
  have hpp := perN_pos G c1 c5
  have hb := perN_le S H G
  have hSH : S * H ≤ 24 * 12 := Nat.mul_le_mul c2 c6
  have cP : refPeriodC [FD.int IntKind.i64 (S : Int), FD.int IntKind.i64 (P : Int), FD.int IntKind.i64 (H : Int), FD.int IntKind.i64 (G : Int)] = true := by
    simp only [refPeriodC, hrk]
  have cR : ∀ y : Nat, y ≤ perN S H G → refPlaceC [FD.int IntKind.i64 (S : Int), FD.int IntKind.i64 (P : Int), FD.int IntKind.i64 (H : Int), FD.int IntKind.i64 (G : Int), FD.int IntKind.i64 (Q : Int), FD.int IntKind.i64 (K : Int), FD.int IntKind.i64 (y : Int)] = true := fun y hy => by
    simp only [refPlaceC, hrk, hpt, Bool.and_eq_true, decide_eq_true_eq]
    exact ⟨⟨trivial, trivial⟩, by omega, by omega⟩
  have cW : ∀ y : Nat, y < N → IntKind.i64.wrap ((N : Int) - (y : Int)) = ((N - y : Nat) : Int) := fun y hy => by rw [wrap_id (by omega) (by omega)]; omega
  have cC : ∀ y : Nat, y < N → CeilC [FD.int IntKind.i64 ((N - y : Nat) : Int), FD.int IntKind.i64 ((perN S H G : Nat) : Int)] = true := fun y hy => by
    simp only [CeilC, Bool.and_eq_true, decide_eq_true_eq]
    omega
  have hs : ∀ y : Nat, y ≤ perN S H G → statI (S : Int) P Q y = (((y + Q * (S / P)) % S : Nat) : Int) := fun y hy =>
    (at_nice S P H G Q K y (by omega) (by omega) (by omega) (by omega) (by omega) (by omega)).1
  have hd : ∀ y : Nat, y ≤ perN S H G → sideI (H : Int) G K y = (((K + G * y) % H : Nat) : Int) := fun y hy =>
    (at_nice S P H G Q K y (by omega) (by omega) (by omega) (by omega) (by omega) (by omega)).2
  have hS : ∀ a : Nat, a % S < S := fun a => Nat.mod_lt _ (by omega)
  have hH : ∀ a : Nat, a % H < H := fun a => Nat.mod_lt _ (by omega)
  simp only [hper, Int.toNat_natCast]
  have x1 : (S : Int) ≤ 1000000 := by omega
  have x2 : (H : Int) ≤ 1000000 := by omega
  have x3 : 0 < S := c1
  simp (config := { contextual := true }) [cP, cR, cW, cC, hs, hd, hS, hH, x1, x2, x3, -Int.natCast_emod]
  have w1 : ∀ y : Nat, y ≤ perN S H G → IntKind.i64.wrap ((y : Int) + 1) = ((y + 1 : Nat) : Int) := fun y hy => by rw [wrap_id (by omega) (by omega)]; omega
  refine ⟨⟨1, ⟨⟨by omega, by omega⟩, by omega⟩, rfl, rfl, fun y3 h3 y4 _ => ?_⟩, fun y1 h1 h2 => ⟨fun h3 => ⟨⟨by omega, by omega⟩, by rw [wrap_id (by omega) (by omega)]⟩, fun h3 => ⟨⟨0, by omega, rfl, by omega, fun _ _ _ _ => rfl⟩, fun y3 h4 => ⟨fun h5 => ⟨fun h6 => ⟨y3 + 1, ⟨by omega, by omega⟩, (w1 y3 h4).symm, fun y5 h7 y6 h8 => ?_⟩, fun h6 => ⟨y3 + 1, ⟨by omega, by omega⟩, (w1 y3 h4).symm, fun y5 h7 y6 h8 => ?_⟩⟩, fun h5 y4 _ y5 _ => ?_⟩⟩⟩⟩
  · have : y3 = 0 := by omega
    subst this
    rfl
  · have e1 : (((N - y3 : Nat) : Int) + ((perN S H G : Nat) : Int) - 1) / ((perN S H G : Nat) : Int) = (((N - y3 + perN S H G - 1) / perN S H G : Nat) : Int) := by
      rw [Int.natCast_ediv]; congr 1; omega
    rw [e1]
    simp only [refV, beq_eq]
    by_cases hpl : y5 = (y3 + Q * (S / P)) % S ∧ y6 = (K + G * y3) % H
    · obtain ⟨p1, p2⟩ := hpl
      obtain ⟨b1, b2⟩ := refV_bound S P H G Q K N (perN S H G) y5 y6 y3
      have b3 := Nat.div_le_self (N - y3 + perN S H G - 1) (perN S H G)
      have b4 : (y3 : Int) * ((N : Int) + (perN S H G : Nat)) ≤ 288 * ((N : Int) + (perN S H G : Nat)) := Int.mul_le_mul_of_nonneg_right (by omega) (by omega)
      rw [if_pos ⟨h6, p1, p2⟩, ← p1, ← p2]
      generalize (y3 : Int) * ((N : Int) + (perN S H G : Nat)) = z at *
      generalize (N - y3 + perN S H G - 1) / perN S H G = c at *
      generalize refV S P H G Q K N (perN S H G) y3 y5 y6 = u at *
      simp only [decide_true, Bool.and_self, cond_true]
      rw [wrap_id (by omega) (by omega)]
    · rw [if_neg (fun x => hpl x.2)]
      have : (decide (y5 = (y3 + Q * (S / P)) % S) && decide (y6 = (K + G * y3) % H)) = false := by
        cases h : (decide (y5 = (y3 + Q * (S / P)) % S) && decide (y6 = (K + G * y3) % H)) with
        | false => rfl
        | true =>
          simp only [Bool.and_eq_true, decide_eq_true_eq] at h
          exact absurd h hpl
      rw [this]; rfl
  · simp only [refV]
    rw [if_neg (by omega)]
  · have : y3 = perN S H G := by omega
    rw [this]

end
end Go.Ex


namespace Go.Ex
open Go Go.RowKit

end Go.Ex


namespace Go.Ex
open Go Go.Proofs Go.RowKit
noncomputable section
set_option maxRecDepth 1000000

def gs6 : G2 := (G2.setG gs5 55 (gFd refVisitsS (.one (.list [.list [.int .i64]])) refVisitsC refVisitsR))
theorem gs6_ok : G2Ok gs6 := (G2Ok.setG gs5_ok (by kernel_rfl) (gsOk_of smV_ok gs5_ok refVisits_ok))
def refStepsS : List PT := [.one (.int .i64)]
def refStepsC : List FD → Bool
  | [.int _ _] => true
  | _ => false
def refStepsR : List FD → List FD
  | [.int _ n] => [.int .i64 (stepsE n)]
  | _ => []
def refStepsI (_n : Int) : Nat → AFam := alts (fun _ => [])
theorem refSteps_ok : FnOk (mkR smV gs6) Try.prog η0 53 (FI.of Try.f53 true) refStepsS (.one (.int .i64)) refStepsC refStepsR := by
  refine fnOk_of0 smV_ok gs6_ok Try.fok53 (fun fds => match fds with | [.int _ n] => refStepsI n | _ => alts fun _ => []) ?_
  intro fds hf hc
  obtain ⟨n, ds0, rfl, hf1⟩ := hf.int
  obtain rfl := hf1.nil
  have hc : (true) = true := hc
  have hvc : (vcF smV gs6 (FI.of Try.f53 true) refStepsS (.one (.int .i64)) (refStepsI n) noR [.int .i64 n] (refStepsR [.int .i64 n])) =
    ((true = true) ∧ (((true = true) → ((((decide ((0 : Int) ≤ n) && decide (n ≤ (1000000 : Int))) = (false)) → (((IntKind.i64) = (IntKind.i64)) ∧ ((stepsE n) = ((2 : Int))))) ∧ (((decide ((0 : Int) ≤ n) && decide (n ≤ (1000000 : Int))) = (true)) → (((IntKind.i64) = (IntKind.i64)) ∧ ((stepsE n) = ((0 : Int))))))) ∧ ((true = false) → False))) := by kernel_rfl
  refine hvc.mpr ?_
  clear hvc
  simp [stepsE]

end
end Go.Ex


namespace Go.Ex
open Go Go.Proofs Go.RowKit
noncomputable section
set_option maxRecDepth 1000000

/-- The count over the places so far. -/
def cntP (S H : Nat) (pre : List (Nat × Nat)) (i k : Nat) : Int := pre.foldl (fun c x => if i = x.1 % S ∧ k = x.2 % H then IntKind.i64.wrap (c + 1) else c) 0
theorem cntP_snoc (S H : Nat) (pre : List (Nat × Nat)) (x : Nat × Nat) (i k : Nat) : cntP S H (pre ++ [x]) i k = if i = x.1 % S ∧ k = x.2 % H then IntKind.i64.wrap (cntP S H pre i k + 1) else cntP S H pre i k := by simp [cntP]
theorem cntV_bd (S P H G Q K : Nat) (i k : Nat) : ∀ n : Nat, 0 ≤ cntV S P H G Q K n i k ∧ cntV S P H G Q K n i k ≤ n
  | 0 => by simp [cntV]
  | n + 1 => by
    have := cntV_bd S P H G Q K i k n
    simp only [cntV]
    split <;> omega
theorem cntP_eq (S P H G Q K : Nat) (i k : Nat) : ∀ n : Nat, n ≤ 1000000000 → cntP S H (placesL S P G Q K n) i k = cntV S P H G Q K n i k
  | 0, _ => rfl
  | n + 1, h => by
    have := cntV_bd S P H G Q K i k n
    rw [placesL_succ, cntP_snoc, cntP_eq S P H G Q K i k n (by omega)]
    simp only [cntV]
    split
    · rw [wrap_id (by omega) (by omega)]
    · rfl
theorem placeE_ok {st pl ho ge p h n : Int} (hp : placeE st pl ho ge p h n = 0) : rackE st pl ho ge = 0 ∧ partE pl ho p h = 0 ∧ stepsE n = 0 := by
  unfold placeE first3 at hp
  split at hp
  · split at hp
    · exact ⟨‹_›, ‹_›, hp⟩
    · omega
  · omega
theorem stepsE_ok {n : Int} (h : stepsE n = 0) : 0 ≤ n ∧ n ≤ 1000000 := by
  unfold stepsE at h
  split at h
  · assumption
  · omega
def okV (st pl ho ge p h n : Int) : Bool := decide (placeE st pl ho ge p h n = 0)
theorem visits_iter (st pl ho ge p h n : Int) : IterOk Try.prog 142 [[.int .i64 (gI (okV st pl ho ge p h n) n 0)], [.int .i64 (gI (okV st pl ho ge p h n) st 1), .int .i64 (gI (okV st pl ho ge p h n) pl 1), .int .i64 (gI (okV st pl ho ge p h n) ho 1), .int .i64 (gI (okV st pl ho ge p h n) ge 0), .int .i64 (gI (okV st pl ho ge p h n) p 0), .int .i64 (gI (okV st pl ho ge p h n) h 0)]]
    (fun x : Nat × Nat => [.int .i64 (Int.ofNat (x.1 % (gI (okV st pl ho ge p h n) st 1).toNat)), .int .i64 (Int.ofNat (x.2 % (gI (okV st pl ho ge p h n) ho 1).toNat))]) (bif okV st pl ho ge p h n then placesL st.toNat pl.toNat ge.toNat p.toNat h.toNat n.toNat else []) := by
  by_cases hok : okV st pl ho ge p h n = true
  · have h12 := hok
    simp only [okV, decide_eq_true_eq] at h12
    obtain ⟨e1, e2, e3⟩ := placeE_ok h12
    have e6 := partE_ok (rackE_ok e1) e2
    have e7 := stepsE_ok e3
    simp only [hok, gI, cond_true]
    obtain ⟨S, P, H, G, ⟨rfl, rfl, rfl, rfl⟩, c1, c2, c3, c4, c5, c6, c7, c8⟩ := rack_nat (rackE_ok e1)
    obtain ⟨Q, K, ⟨rfl, rfl⟩, c9, c10⟩ := part_nat e6
    obtain ⟨N, rfl⟩ := Int.eq_ofNat_of_zero_le e7.1
    have := places_iter S P H G Q K N (by omega) (by omega) (by omega) (by omega) (by omega) (by omega) (by omega) (by omega)
    simp only [Int.toNat_natCast]
    exact this
  · simp only [hok, gI, cond_false]
    exact places_iter 1 1 1 0 0 0 0 (by omega) (by omega) (by omega) (by omega) (by omega) (by omega) (by omega) (by omega)
def VisitsS : List PT := [.agg [.int .i64, .int .i64, .int .i64, .int .i64], .agg [.int .i64, .int .i64], .one (.int .i64)]
def VisitsC : List FD → Bool
  | [.int _ _, .int _ _, .int _ _, .int _ _, .int _ _, .int _ _, .int _ _] => true
  | _ => false
def VisitsR : List FD → List FD
  | [.int _ st, .int _ pl, .int _ ho, .int _ ge, .int _ p, .int _ h, .int _ n] => [.list [.list [.int .i64]] (if placeE st pl ho ge p h n = 0 then st.toNat else 0) (fun i _ => .list [.int .i64] ho.toNat (fun k _ => .int .i64 (cntV st.toNat pl.toNat ho.toNat ge.toNat p.toNat h.toNat n.toNat i k))), .int .i64 (placeE st pl ho ge p h n)]
  | _ => []
def VisitsI (st : Int) (pl : Int) (ho : Int) (ge : Int) (p : Int) (h : Int) (n : Int) : Nat → AFam := fun i => match i with | 6 => ⟨Nat, fun _ => [{ι := Nat, G := fun x => x = 0, μ := fun x => st.toNat - x, tl := fun x => [(0, .agg [.int IntKind.i64 (.tm st), .int IntKind.i64 (.tm pl), .int IntKind.i64 (.tm ho), .int IntKind.i64 (.tm ge)]), (1, .agg [.int IntKind.i64 (.tm p), .int IntKind.i64 (.tm h)]), (2, .one (.int IntKind.i64 (.tm n))), (3, .one (.ptr (some (1, 0)))), (4, .one (.ptr (some (2, 0)))), (6, .one (.slice none 0 (.known 0))), (7, .one (.int IntKind.i64 (.lit (0 : Int)))), (8, .one (.int IntKind.i64 (.lit (0 : Int)))), (9, .one (.ptr (some (13, 0)))), (29, .one (.int IntKind.i64 (.tm (Int.ofNat (Int.toNat st))))), (30, .one (.int IntKind.i64 (.tm (Int.ofNat x))))], bl := fun x => [(1, .cells 47 4 [.int IntKind.i64 (.tm st), .int IntKind.i64 (.tm pl), .int IntKind.i64 (.tm ho), .int IntKind.i64 (.tm ge)]), (2, .cells 64 2 [.int IntKind.i64 (.tm p), .int IntKind.i64 (.tm h)]), (12, .row 22 [Sh.list []] (Int.toNat st) (fun (x j : Nat) => atFD [FD.list [] (0 : Nat) fun (x x_1 : Nat) => FD.bool false] j)), (13, .cells 48 1 [.own 12 (Int.toNat st)])], nx := (1 : Nat) + (1 : Nat) + (1 : Nat) + ((0 : Nat) + (1 : Nat) + (1 : Nat) + (1 : Nat) + (1 : Nat) + (1 : Nat) + (1 : Nat) + (1 : Nat) + (1 : Nat) + (1 : Nat)) + (1 : Nat) + (1 : Nat)}, {ι := Nat, G := fun x => 1 ≤ x ∧ x ≤ st.toNat, μ := fun x => st.toNat - x, tl := fun x => [(0, .agg [.int IntKind.i64 (.tm st), .int IntKind.i64 (.tm pl), .int IntKind.i64 (.tm ho), .int IntKind.i64 (.tm ge)]), (1, .agg [.int IntKind.i64 (.tm p), .int IntKind.i64 (.tm h)]), (2, .one (.int IntKind.i64 (.tm n))), (3, .one (.ptr (some (1, 0)))), (4, .one (.ptr (some (2, 0)))), (6, .one (.slice none 0 (.known 0))), (7, .one (.int IntKind.i64 (.lit (0 : Int)))), (8, .one (.int IntKind.i64 (.lit (0 : Int)))), (9, .one (.ptr (some (13, 0)))), (29, .one (.int IntKind.i64 (.tm (Int.ofNat (Int.toNat st))))), (30, .one (.int IntKind.i64 (.tm (Int.ofNat x))))], bl := fun x => [(1, .cells 47 4 [.int IntKind.i64 (.tm st), .int IntKind.i64 (.tm pl), .int IntKind.i64 (.tm ho), .int IntKind.i64 (.tm ge)]), (2, .cells 64 2 [.int IntKind.i64 (.tm p), .int IntKind.i64 (.tm h)]), (12, .mat 14 22 (.int .i64) st.toNat x ho.toNat (fun _ _ => .int .i64 0)), (13, .cells 48 1 [.own 12 (Int.toNat st)])], nx := 15}]⟩ | _ => ⟨Nat, fun _ => []⟩
def VisitsQ (st : Int) (pl : Int) (ho : Int) (ge : Int) (p : Int) (h : Int) (n : Int) : Nat → Option RFam := fun k => match k with | 17003 => some ⟨Nat, fun _ => { α := Nat × Nat, xs := bif (okV st pl ho ge p h n) then placesL st.toNat pl.toNat ge.toNat p.toNat h.toNat n.toNat else [], args := fun x => [.int .i64 (.tm (Int.ofNat (x.1 % (gI (okV st pl ho ge p h n) st 1).toNat))), .int .i64 (.tm (Int.ofNat (x.2 % (gI (okV st pl ho ge p h n) ho 1).toNat)))], gf := 142, nums := [[.int IntKind.i64 (.tm (gI (okV st pl ho ge p h n) n 0))], [.int IntKind.i64 (.tm (gI (okV st pl ho ge p h n) st 1)), .int IntKind.i64 (.tm (gI (okV st pl ho ge p h n) pl 1)), .int IntKind.i64 (.tm (gI (okV st pl ho ge p h n) ho 1)), .int IntKind.i64 (.tm (gI (okV st pl ho ge p h n) ge 0)), .int IntKind.i64 (.tm (gI (okV st pl ho ge p h n) p 0)), .int IntKind.i64 (.tm (gI (okV st pl ho ge p h n) h 0))]], G := fun _ => True, bl := fun pre => [(1, .cells 47 4 [.int IntKind.i64 (.tm st), .int IntKind.i64 (.tm pl), .int IntKind.i64 (.tm ho), .int IntKind.i64 (.tm ge)]), (2, .cells 64 2 [.int IntKind.i64 (.tm p), .int IntKind.i64 (.tm h)]), (12, .mat 14 22 (.int .i64) st.toNat st.toNat ho.toNat (fun i k => .int .i64 (cntP st.toNat ho.toNat pre i k))), (13, .cells 48 1 [.own 12 st.toNat]), (15, .cells 165 6 [.int IntKind.i64 (.tm st), .int IntKind.i64 (.tm pl), .int IntKind.i64 (.tm ho), .int IntKind.i64 (.tm ge), .int IntKind.i64 (.tm p), .int IntKind.i64 (.tm h)]), (16, .cells 3 1 [.int IntKind.i64 (.tm n)])], nx := 17, xid := 1, Gx := fun _ => False, np := 2 }⟩ | 16003 => some ⟨Nat, fun _ => { α := Nat × Nat, xs := bif (okV st pl ho ge p h n) then placesL st.toNat pl.toNat ge.toNat p.toNat h.toNat n.toNat else [], args := fun x => [.int .i64 (.tm (Int.ofNat (x.1 % (gI (okV st pl ho ge p h n) st 1).toNat))), .int .i64 (.tm (Int.ofNat (x.2 % (gI (okV st pl ho ge p h n) ho 1).toNat)))], gf := 142, nums := [[.int IntKind.i64 (.tm (gI (okV st pl ho ge p h n) n 0))], [.int IntKind.i64 (.tm (gI (okV st pl ho ge p h n) st 1)), .int IntKind.i64 (.tm (gI (okV st pl ho ge p h n) pl 1)), .int IntKind.i64 (.tm (gI (okV st pl ho ge p h n) ho 1)), .int IntKind.i64 (.tm (gI (okV st pl ho ge p h n) ge 0)), .int IntKind.i64 (.tm (gI (okV st pl ho ge p h n) p 0)), .int IntKind.i64 (.tm (gI (okV st pl ho ge p h n) h 0))]], G := fun _ => False, bl := fun _ => [(1, .cells 47 4 [.int IntKind.i64 (.tm st), .int IntKind.i64 (.tm pl), .int IntKind.i64 (.tm ho), .int IntKind.i64 (.tm ge)]), (2, .cells 64 2 [.int IntKind.i64 (.tm p), .int IntKind.i64 (.tm h)]), (12, .row 22 [Sh.list []] st.toNat (fun _ _ => .list [] 0 (fun _ _ => .bool false))), (13, .cells 48 1 [.own 12 st.toNat]), (14, .cells 165 6 [.int IntKind.i64 (.tm st), .int IntKind.i64 (.tm pl), .int IntKind.i64 (.tm ho), .int IntKind.i64 (.tm ge), .int IntKind.i64 (.tm p), .int IntKind.i64 (.tm h)]), (15, .cells 3 1 [.int IntKind.i64 (.tm n)])], nx := 16, xid := 1, Gx := fun _ => False, np := 2 }⟩ | _ => none
theorem VisitsQ_ok (st pl ho ge p h n : Int) : ∀ i R, VisitsQ st pl ho ge p h n i = some R → ∀ z, (R.R z).Ok Try.prog η0 := by
  intro i R hR z
  unfold VisitsQ at hR
  split at hR
  · cases hR
    exact ⟨visits_iter st pl ho ge p h n, rfl, fun x => ⟨rfl, rfl⟩⟩
  · cases hR
    exact ⟨visits_iter st pl ho ge p h n, rfl, fun x => ⟨rfl, rfl⟩⟩
  · cases hR
abbrev qVisits1 (st : Int) (pl : Int) (ho : Int) (ge : Int) : Prop := ((((IntKind.i64) = (IntKind.i64)) ∧ ((st) = (st))) ∧ ((((IntKind.i64) = (IntKind.i64)) ∧ ((pl) = (pl))) ∧ ((((IntKind.i64) = (IntKind.i64)) ∧ ((ho) = (ho))) ∧ ((((IntKind.i64) = (IntKind.i64)) ∧ ((ge) = (ge))) ∧ True))))
abbrev qVisits2 (st : Int) (pl : Int) (ho : Int) (ge : Int) (p : Int) (h : Int) (n : Int) (y1 : Nat) (y2 : Nat) : Prop := ((true = true) ∧ ((qVisits1 st pl ho ge) ∧ (((((IntKind.i64) = (IntKind.i64)) ∧ ((p) = (p))) ∧ ((((IntKind.i64) = (IntKind.i64)) ∧ ((h) = (h))) ∧ True)) ∧ ((((IntKind.i64) = (IntKind.i64)) ∧ ((n) = (n))) ∧ ((((1, 1) ∈ ([(12, 12), (13, 13), (2, 2), (1, 1)] : List (Nat × Nat))) ∧ ((0) = (0))) ∧ ((((2, 2) ∈ ([(12, 12), (13, 13), (2, 2), (1, 1)] : List (Nat × Nat))) ∧ ((0) = (0))) ∧ ((((0) = (0)) ∧ ((0) = (0))) ∧ ((((IntKind.i64) = (IntKind.i64)) ∧ (((0 : Int)) = ((0 : Int)))) ∧ ((((IntKind.i64) = (IntKind.i64)) ∧ (((0 : Int)) = ((0 : Int)))) ∧ ((((13, 13) ∈ ([(12, 12), (13, 13), (2, 2), (1, 1)] : List (Nat × Nat))) ∧ ((0) = (0))) ∧ ((((IntKind.i64) = (IntKind.i64)) ∧ ((Int.ofNat (Int.toNat st)) = (Int.ofNat (Int.toNat st)))) ∧ ((((IntKind.i64) = (IntKind.i64)) ∧ ((Int.ofNat y2) = (IntKind.wrap IntKind.i64 (Int.ofNat y1 + (1 : Int))))) ∧ True))))))))))))
abbrev qVisits3 (st : Int) (pl : Int) (ho : Int) (ge : Int) (p : Int) (h : Int) : Prop := (((((47 : TypeId)) = ((47 : Nat))) ∧ (((4) = (4)) ∧ (qVisits1 st pl ho ge))) ∧ (((((64 : TypeId)) = ((64 : Nat))) ∧ (((2) = (2)) ∧ ((((IntKind.i64) = (IntKind.i64)) ∧ ((p) = (p))) ∧ ((((IntKind.i64) = (IntKind.i64)) ∧ ((h) = (h))) ∧ True)))) ∧ (((((22 : TypeId)) = ((22 : TypeId))) ∧ ((([Sh.list []]) = ([Sh.list []])) ∧ (((Int.toNat st) = (Int.toNat st)) ∧ (∀ y2 : Nat, (y2 < Int.toNat st → (∀ y3 : Nat, (y3 < List.length [Sh.list []] → ((atFD [FD.list [] (0 : Nat) fun (x x_1 : Nat) => FD.bool false] y3) = (atFD [FD.list [] (0 : Nat) fun (x x_1 : Nat) => FD.bool false] y3))))))))) ∧ (((((48 : TypeId)) = ((48 : Nat))) ∧ (((1) = (1)) ∧ ((((12, 12) ∈ ([(12, 12), (13, 13), (2, 2), (1, 1)] : List (Nat × Nat))) ∧ ((Int.toNat st) = (Int.toNat st))) ∧ True))) ∧ True))))
abbrev qVisits4 (st : Int) (y1 : Nat) : Prop := ((((13, 13) ∈ ([(12, 12), (13, 13), (2, 2), (1, 1)] : List (Nat × Nat))) ∧ ((0) = (0))) ∧ ((((IntKind.i64) = (IntKind.i64)) ∧ ((Int.ofNat (Int.toNat st)) = (Int.ofNat (Int.toNat st)))) ∧ ((((IntKind.i64) = (IntKind.i64)) ∧ ((Int.ofNat y1) = ((0 : Int)))) ∧ True)))
abbrev qVisits5 (st : Int) (pl : Int) (ho : Int) (ge : Int) (p : Int) (h : Int) : Prop := (((((47 : TypeId)) = ((47 : Nat))) ∧ (((4) = (4)) ∧ (qVisits1 st pl ho ge))) ∧ (((((64 : TypeId)) = ((64 : Nat))) ∧ (((2) = (2)) ∧ ((((IntKind.i64) = (IntKind.i64)) ∧ ((p) = (p))) ∧ ((((IntKind.i64) = (IntKind.i64)) ∧ ((h) = (h))) ∧ True)))) ∧ (False ∧ (((((48 : TypeId)) = ((48 : Nat))) ∧ (((1) = (1)) ∧ ((((12, 12) ∈ ([(12, 12), (13, 13), (2, 2), (1, 1)] : List (Nat × Nat))) ∧ ((Int.toNat st) = (Int.toNat st))) ∧ True))) ∧ True))))
abbrev qVisits6 (st : Int) (pl : Int) (ho : Int) (ge : Int) (p : Int) (h : Int) (n : Int) : Prop := ((true = true) ∧ (∀ y3 : List (Nat × Nat), ((((0) = (0)) ∧ (([Sc.int IntKind.i64 (Ix.tm n)]) = ([Sc.int IntKind.i64 (Ix.tm (gI (okV st pl ho ge p h n) n (0 : Int)))]))) ∧ ((((0) = (0)) ∧ (([Sc.int IntKind.i64 (Ix.tm st), Sc.int IntKind.i64 (Ix.tm pl), Sc.int IntKind.i64 (Ix.tm ho), Sc.int IntKind.i64 (Ix.tm ge), Sc.int IntKind.i64 (Ix.tm p), Sc.int IntKind.i64 (Ix.tm h)]) = ([Sc.int IntKind.i64 (Ix.tm (gI (okV st pl ho ge p h n) st (1 : Int))), Sc.int IntKind.i64 (Ix.tm (gI (okV st pl ho ge p h n) pl (1 : Int))), Sc.int IntKind.i64 (Ix.tm (gI (okV st pl ho ge p h n) ho (1 : Int))), Sc.int IntKind.i64 (Ix.tm (gI (okV st pl ho ge p h n) ge (0 : Int))), Sc.int IntKind.i64 (Ix.tm (gI (okV st pl ho ge p h n) p (0 : Int))), Sc.int IntKind.i64 (Ix.tm (gI (okV st pl ho ge p h n) h (0 : Int)))]))) ∧ True))))
abbrev qVisits7 (p : Int) (h : Int) : Prop := ((((64 : TypeId)) = ((64 : TypeId))) ∧ (((2) = (2)) ∧ ((((IntKind.i64) = (IntKind.i64)) ∧ ((p) = (p))) ∧ ((((IntKind.i64) = (IntKind.i64)) ∧ ((h) = (h))) ∧ True))))
abbrev qVisits8 (st : Int) (pl : Int) (ho : Int) (ge : Int) (p : Int) (h : Int) : Prop := (((6) = (6)) ∧ ((((IntKind.i64) = (IntKind.i64)) ∧ ((st) = (st))) ∧ ((((IntKind.i64) = (IntKind.i64)) ∧ ((pl) = (pl))) ∧ ((((IntKind.i64) = (IntKind.i64)) ∧ ((ho) = (ho))) ∧ ((((IntKind.i64) = (IntKind.i64)) ∧ ((ge) = (ge))) ∧ ((((IntKind.i64) = (IntKind.i64)) ∧ ((p) = (p))) ∧ ((((IntKind.i64) = (IntKind.i64)) ∧ ((h) = (h))) ∧ True)))))))
abbrev qVisits9 (st : Int) (pl : Int) (ho : Int) (ge : Int) (p : Int) (h : Int) (n : Int) (y1 : Nat) : Prop := ((true = true) ∧ ((qVisits1 st pl ho ge) ∧ (((((IntKind.i64) = (IntKind.i64)) ∧ ((p) = (p))) ∧ ((((IntKind.i64) = (IntKind.i64)) ∧ ((h) = (h))) ∧ True)) ∧ ((((IntKind.i64) = (IntKind.i64)) ∧ ((n) = (n))) ∧ ((((1, 1) ∈ ([(12, 12), (13, 13), (2, 2), (1, 1)] : List (Nat × Nat))) ∧ ((0) = (0))) ∧ ((((2, 2) ∈ ([(12, 12), (13, 13), (2, 2), (1, 1)] : List (Nat × Nat))) ∧ ((0) = (0))) ∧ ((((0) = (0)) ∧ ((0) = (0))) ∧ ((((IntKind.i64) = (IntKind.i64)) ∧ (((0 : Int)) = ((0 : Int)))) ∧ ((((IntKind.i64) = (IntKind.i64)) ∧ (((0 : Int)) = (rackE st pl ho ge))) ∧ (qVisits4 st y1))))))))))
abbrev qVisits10 (st : Int) (pl : Int) (ho : Int) (ge : Int) (p : Int) (h : Int) (n : Int) (y1 : Nat) : Prop := ((true = true) ∧ ((qVisits1 st pl ho ge) ∧ (((((IntKind.i64) = (IntKind.i64)) ∧ ((p) = (p))) ∧ ((((IntKind.i64) = (IntKind.i64)) ∧ ((h) = (h))) ∧ True)) ∧ ((((IntKind.i64) = (IntKind.i64)) ∧ ((n) = (n))) ∧ ((((1, 1) ∈ ([(12, 12), (13, 13), (2, 2), (1, 1)] : List (Nat × Nat))) ∧ ((0) = (0))) ∧ ((((2, 2) ∈ ([(12, 12), (13, 13), (2, 2), (1, 1)] : List (Nat × Nat))) ∧ ((0) = (0))) ∧ ((((0) = (0)) ∧ ((0) = (0))) ∧ ((((IntKind.i64) = (IntKind.i64)) ∧ (((0 : Int)) = ((0 : Int)))) ∧ ((((IntKind.i64) = (IntKind.i64)) ∧ (((0 : Int)) = (partE pl ho p h))) ∧ (qVisits4 st y1))))))))))
abbrev qVisits11 (st : Int) (pl : Int) (ho : Int) (ge : Int) (p : Int) (h : Int) (n : Int) (y1 : Nat) : Prop := ((true = true) ∧ ((qVisits1 st pl ho ge) ∧ (((((IntKind.i64) = (IntKind.i64)) ∧ ((p) = (p))) ∧ ((((IntKind.i64) = (IntKind.i64)) ∧ ((h) = (h))) ∧ True)) ∧ ((((IntKind.i64) = (IntKind.i64)) ∧ ((n) = (n))) ∧ ((((1, 1) ∈ ([(12, 12), (13, 13), (2, 2), (1, 1)] : List (Nat × Nat))) ∧ ((0) = (0))) ∧ ((((2, 2) ∈ ([(12, 12), (13, 13), (2, 2), (1, 1)] : List (Nat × Nat))) ∧ ((0) = (0))) ∧ ((((0) = (0)) ∧ ((0) = (0))) ∧ ((((IntKind.i64) = (IntKind.i64)) ∧ (((0 : Int)) = ((0 : Int)))) ∧ ((((IntKind.i64) = (IntKind.i64)) ∧ (((0 : Int)) = ((0 : Int)))) ∧ (qVisits4 st y1))))))))))
abbrev qVisits12 (st : Int) (pl : Int) (ho : Int) (ge : Int) (p : Int) (h : Int) (n : Int) (y1 : Nat) : Prop := ((true = true) ∧ ((qVisits1 st pl ho ge) ∧ (((((IntKind.i64) = (IntKind.i64)) ∧ ((p) = (p))) ∧ ((((IntKind.i64) = (IntKind.i64)) ∧ ((h) = (h))) ∧ True)) ∧ ((((IntKind.i64) = (IntKind.i64)) ∧ ((n) = (n))) ∧ ((((1, 1) ∈ ([(12, 12), (13, 13), (2, 2), (1, 1)] : List (Nat × Nat))) ∧ ((0) = (0))) ∧ ((((2, 2) ∈ ([(12, 12), (13, 13), (2, 2), (1, 1)] : List (Nat × Nat))) ∧ ((0) = (0))) ∧ ((((0) = (0)) ∧ ((0) = (0))) ∧ ((((IntKind.i64) = (IntKind.i64)) ∧ (((0 : Int)) = ((0 : Int)))) ∧ ((((IntKind.i64) = (IntKind.i64)) ∧ (((0 : Int)) = (stepsE n))) ∧ (qVisits4 st y1))))))))))
abbrev qVisits13 (st : Int) : Prop := (((((48 : TypeId)) = ((48 : TypeId))) ∧ (((1) = (1)) ∧ ((((12, 12) ∈ ([(12, 12), (13, 13), (2, 2), (1, 1)] : List (Nat × Nat))) ∧ ((Int.toNat st) = (Int.toNat st))) ∧ True))) ∧ True)
abbrev qVisits0 (st : Int) (pl : Int) (ho : Int) (ge : Int) (p : Int) (h : Int) (n : Int) : Prop := ((∀ y1 : Nat, (((y1) = (0)) → ((((decide (Int.ofNat y1 < Int.ofNat (Int.toNat st))) = (true)) → ((((decide ((0 : Int) ≤ ho) && (decide (ho ≤ ho) && decide (ho ≤ (↑(1000000 : Nat) : Int)))) = (true)) → ((((decide ((0 : Int) ≤ Int.ofNat y1) && decide (Int.ofNat y1 < (↑(Int.toNat st) : Int))) = (true)) → ((((Nat.beq (Int.toNat (Int.ofNat y1)) (0 : Nat) && Nat.blt (0 : Nat) (Int.toNat st) && Nat.beq (Int.toNat ho) (Int.toNat ho)) = (true)) → ((∃ y2 : Nat, ((((y2) = (0)) ∧ Int.toNat st - y2 < Int.toNat st - y1) ∧ ((qVisits2 st pl ho ge p h n y1 y2) ∧ (((((47 : TypeId)) = ((47 : TypeId))) ∧ (((4) = (4)) ∧ (qVisits1 st pl ho ge))) ∧ ((qVisits7 p h) ∧ (False ∧ (qVisits13 st))))))) ∨ (∃ y2 : Nat, ((((1 : Nat) ≤ y2 ∧ y2 ≤ Int.toNat st) ∧ Int.toNat st - y2 < Int.toNat st - y1) ∧ (((True ∧ (True ∧ (True ∧ (True ∧ (True ∧ (True ∧ (True ∧ (True ∧ (True ∧ (True ∧ (True ∧ True))))))))))) ∧ (true = true)) ∧ ((qVisits2 st pl ho ge p h n y1 y2) ∧ (((((47 : TypeId)) = ((47 : TypeId))) ∧ (((4) = (4)) ∧ (qVisits1 st pl ho ge))) ∧ ((qVisits7 p h) ∧ ((((((20) = (20)) ∧ (true = true)) ∧ ((((22 : TypeId)) = ((22 : TypeId))) ∧ ((Sh.int IntKind.i64) = (Sh.int IntKind.i64)))) ∧ (((Int.toNat st) = (Int.toNat st)) ∧ (((y2) = (1)) ∧ (((Int.toNat ho) = (Int.toNat ho)) ∧ (∀ y3 : Nat, (y3 < y2 → (∀ y4 : Nat, (y4 < Int.toNat ho → ((FD.int IntKind.i64 (0 : Int)) = (bif Nat.beq y3 (0 : Nat) then FD.int IntKind.i64 (0 : Int) else FD.bool false)))))))))) ∧ (qVisits13 st)))))))))) ∧ (((Nat.beq (Int.toNat (Int.ofNat y1)) (0 : Nat) && Nat.blt (0 : Nat) (Int.toNat st) && Nat.beq (Int.toNat ho) (Int.toNat ho)) = (false)) → False))) ∧ (((decide ((0 : Int) ≤ Int.ofNat y1) && decide (Int.ofNat y1 < (↑(Int.toNat st) : Int))) = (false)) → False))) ∧ (((decide ((0 : Int) ≤ ho) && (decide (ho ≤ ho) && decide (ho ≤ (↑(1000000 : Nat) : Int)))) = (false)) → False))) ∧ (((decide (Int.ofNat y1 < Int.ofNat (Int.toNat st))) = (false)) → (∃ y2 : Nat, ((((qVisits6 st pl ho ge p h n) ∧ (False ∧ ((true = true) ∧ (((((47 : TypeId)) = ((47 : TypeId))) ∧ (((4) = (4)) ∧ (qVisits1 st pl ho ge))) ∧ ((qVisits7 p h) ∧ (((((22 : TypeId)) = ((22 : TypeId))) ∧ ((([Sh.list []]) = ([Sh.list []])) ∧ (((Int.toNat st) = (Int.toNat st)) ∧ (∀ y3 : Nat, (y3 < Int.toNat st → (∀ y4 : Nat, (y4 < List.length [Sh.list []] → ((FD.list [] (0 : Nat) fun (x x_1 : Nat) => FD.bool false) = (atFD [FD.list [] (0 : Nat) fun (x x_1 : Nat) => FD.bool false] y4))))))))) ∧ (((((48 : TypeId)) = ((48 : TypeId))) ∧ (((1) = (1)) ∧ ((((12, 12) ∈ ([(15, 15), (14, 14), (13, 13), (12, 12), (11, 11), (10, 10), (9, 9), (8, 8), (7, 7), (6, 6), (5, 5), (4, 4), (3, 3), (2, 2), (1, 1), (0, 0)] : List (Nat × Nat))) ∧ ((Int.toNat st) = (Int.toNat st))) ∧ True))) ∧ (((((165 : TypeId)) = ((165 : Nat))) ∧ (qVisits8 st pl ho ge p h)) ∧ (((((3 : TypeId)) = ((3 : Nat))) ∧ (((1) = (1)) ∧ ((((IntKind.i64) = (IntKind.i64)) ∧ ((n) = (n))) ∧ True))) ∧ True))))))))) ∧ ((∀ y3 : Nat × Nat, True) ∧ (∀ y3 : List (Nat × Nat), (∀ y4 : Nat × Nat, (False → (List.length y3 < List.length (bif okV st pl ho ge p h n then placesL (Int.toNat st) (Int.toNat pl) (Int.toNat ge) (Int.toNat p) (Int.toNat h) (Int.toNat n) else []) → ((((decide ((0 : Int) ≤ Int.ofNat (Prod.fst y4 % Int.toNat (gI (okV st pl ho ge p h n) st (1 : Int)))) && decide (Int.ofNat (Prod.fst y4 % Int.toNat (gI (okV st pl ho ge p h n) st (1 : Int))) < (↑(Int.toNat st) : Int))) = (true)) → False) ∧ (((decide ((0 : Int) ≤ Int.ofNat (Prod.fst y4 % Int.toNat (gI (okV st pl ho ge p h n) st (1 : Int)))) && decide (Int.ofNat (Prod.fst y4 % Int.toNat (gI (okV st pl ho ge p h n) st (1 : Int))) < (↑(Int.toNat st) : Int))) = (false)) → False)))))))) ∧ ((False → (((1 : Nat) ≤ (12 : Nat) ∧ ((([Sh.list []]) = ([Sh.list [Sh.int IntKind.i64]])) ∧ (((Int.toNat st) = (Int.toNat st)) ∧ (((if placeE st pl ho ge p h n = (0 : Int) then Int.toNat st else (0 : Nat)) = (Int.toNat st)) ∧ (∀ y3 : Nat, (y3 < Int.toNat st → (∀ y4 : Nat, (y4 < List.length [Sh.list [Sh.int IntKind.i64]] → ((FD.list [Sh.int IntKind.i64] (Int.toNat ho) fun (k x : Nat) => FD.int IntKind.i64 (cntV (Int.toNat st) (Int.toNat pl) (Int.toNat ho) (Int.toNat ge) (Int.toNat p) (Int.toNat h) (Int.toNat n) y3 k)) = (FD.list [] (0 : Nat) fun (x x_1 : Nat) => FD.bool false)))))))))) ∧ ((((IntKind.i64) = (IntKind.i64)) ∧ ((placeE st pl ho ge p h n) = ((0 : Int)))) ∧ True))) ∧ (∀ y3 : List (Nat × Nat), ((∃ y4 : List (Nat × Nat), ((y3 ++ y4) = (bif okV st pl ho ge p h n then placesL (Int.toNat st) (Int.toNat pl) (Int.toNat ge) (Int.toNat p) (Int.toNat h) (Int.toNat n) else []))) → (False → False)))))))))) ∧ (∀ y1 : Nat, (((1 : Nat) ≤ y1 ∧ y1 ≤ Int.toNat st) → ((((decide (Int.ofNat y1 < Int.ofNat (Int.toNat st))) = (true)) → ((((decide ((0 : Int) ≤ ho) && (decide (ho ≤ ho) && decide (ho ≤ (↑(1000000 : Nat) : Int)))) = (true)) → ((((decide ((0 : Int) ≤ Int.ofNat y1) && decide (Int.ofNat y1 < (↑(Int.toNat st) : Int))) = (true)) → ((((Nat.beq (Int.toNat (Int.ofNat y1)) y1 && Nat.blt y1 (Int.toNat st) && Nat.beq (Int.toNat ho) (Int.toNat ho) && Nat.beq (Int.toNat ho) (Int.toNat ho)) = (true)) → ((∃ y2 : Nat, ((((y2) = (0)) ∧ Int.toNat st - y2 < Int.toNat st - y1) ∧ ((qVisits2 st pl ho ge p h n y1 y2) ∧ (((((47 : TypeId)) = ((47 : TypeId))) ∧ (((4) = (4)) ∧ (qVisits1 st pl ho ge))) ∧ ((qVisits7 p h) ∧ (False ∧ (qVisits13 st))))))) ∨ (∃ y2 : Nat, ((((1 : Nat) ≤ y2 ∧ y2 ≤ Int.toNat st) ∧ Int.toNat st - y2 < Int.toNat st - y1) ∧ (((True ∧ (True ∧ (True ∧ (True ∧ (True ∧ (True ∧ (True ∧ (True ∧ (True ∧ (True ∧ (True ∧ True))))))))))) ∧ (true = true)) ∧ ((qVisits2 st pl ho ge p h n y1 y2) ∧ (((((47 : TypeId)) = ((47 : TypeId))) ∧ (((4) = (4)) ∧ (qVisits1 st pl ho ge))) ∧ ((qVisits7 p h) ∧ ((((((21) = (21)) ∧ (true = true)) ∧ ((((22 : TypeId)) = ((22 : TypeId))) ∧ ((Sh.int IntKind.i64) = (Sh.int IntKind.i64)))) ∧ (((Int.toNat st) = (Int.toNat st)) ∧ (((y2) = (y1 + (1 : Nat))) ∧ (((Int.toNat ho) = (Int.toNat ho)) ∧ (∀ y3 : Nat, (y3 < y2 → (∀ y4 : Nat, (y4 < Int.toNat ho → ((FD.int IntKind.i64 (0 : Int)) = (bif Nat.beq y3 y1 then FD.int IntKind.i64 (0 : Int) else FD.int IntKind.i64 (0 : Int))))))))))) ∧ (qVisits13 st)))))))))) ∧ (((Nat.beq (Int.toNat (Int.ofNat y1)) y1 && Nat.blt y1 (Int.toNat st) && Nat.beq (Int.toNat ho) (Int.toNat ho) && Nat.beq (Int.toNat ho) (Int.toNat ho)) = (false)) → False))) ∧ (((decide ((0 : Int) ≤ Int.ofNat y1) && decide (Int.ofNat y1 < (↑(Int.toNat st) : Int))) = (false)) → False))) ∧ (((decide ((0 : Int) ≤ ho) && (decide (ho ≤ ho) && decide (ho ≤ (↑(1000000 : Nat) : Int)))) = (false)) → False))) ∧ (((decide (Int.ofNat y1 < Int.ofNat (Int.toNat st))) = (false)) → (∃ y2 : Nat, ((((qVisits6 st pl ho ge p h n) ∧ (True ∧ ((true = true) ∧ (((((47 : TypeId)) = ((47 : TypeId))) ∧ (((4) = (4)) ∧ (qVisits1 st pl ho ge))) ∧ ((qVisits7 p h) ∧ ((((((14) = (14)) ∧ (true = true)) ∧ ((((22 : TypeId)) = ((22 : TypeId))) ∧ ((Sh.int IntKind.i64) = (Sh.int IntKind.i64)))) ∧ (((Int.toNat st) = (Int.toNat st)) ∧ (((Int.toNat st) = (y1)) ∧ (((Int.toNat ho) = (Int.toNat ho)) ∧ (∀ y3 : Nat, (y3 < Int.toNat st → (∀ y4 : Nat, (y4 < Int.toNat ho → ((FD.int IntKind.i64 (cntP (Int.toNat st) (Int.toNat ho) [] y3 y4)) = (FD.int IntKind.i64 (0 : Int))))))))))) ∧ (((((48 : TypeId)) = ((48 : TypeId))) ∧ (((1) = (1)) ∧ ((((12, 12) ∈ ([(16, 16), (15, 15), (14, 14), (13, 13), (12, 12), (11, 11), (10, 10), (9, 9), (8, 8), (7, 7), (6, 6), (5, 5), (4, 4), (3, 3), (2, 2), (1, 1), (0, 0)] : List (Nat × Nat))) ∧ ((Int.toNat st) = (Int.toNat st))) ∧ True))) ∧ (((((165 : TypeId)) = ((165 : Nat))) ∧ (qVisits8 st pl ho ge p h)) ∧ (((((3 : TypeId)) = ((3 : Nat))) ∧ (((1) = (1)) ∧ ((((IntKind.i64) = (IntKind.i64)) ∧ ((n) = (n))) ∧ True))) ∧ True))))))))) ∧ ((∀ y3 : Nat × Nat, True) ∧ (∀ y3 : List (Nat × Nat), (∀ y4 : Nat × Nat, (True → (List.length y3 < List.length (bif okV st pl ho ge p h n then placesL (Int.toNat st) (Int.toNat pl) (Int.toNat ge) (Int.toNat p) (Int.toNat h) (Int.toNat n) else []) → ((((decide ((0 : Int) ≤ Int.ofNat (Prod.fst y4 % Int.toNat (gI (okV st pl ho ge p h n) st (1 : Int)))) && decide (Int.ofNat (Prod.fst y4 % Int.toNat (gI (okV st pl ho ge p h n) st (1 : Int))) < (↑(Int.toNat st) : Int))) = (true)) → ((((Nat.blt (Int.toNat (Int.ofNat (Prod.fst y4 % Int.toNat (gI (okV st pl ho ge p h n) st (1 : Int))))) (Int.toNat st)) = (true)) → ((((decide ((0 : Int) ≤ Int.ofNat (Prod.snd y4 % Int.toNat (gI (okV st pl ho ge p h n) ho (1 : Int)))) && decide (Int.ofNat (Prod.snd y4 % Int.toNat (gI (okV st pl ho ge p h n) ho (1 : Int))) < (↑(Int.toNat ho) : Int))) = (true)) → ((((Nat.blt (Int.toNat (Int.ofNat (Prod.fst y4 % Int.toNat (gI (okV st pl ho ge p h n) st (1 : Int))))) (Int.toNat st) && Nat.blt (Int.toNat (Int.ofNat (Prod.snd y4 % Int.toNat (gI (okV st pl ho ge p h n) ho (1 : Int))))) (Int.toNat ho)) = (true)) → ((((decide ((0 : Int) ≤ Int.ofNat (Prod.snd y4 % Int.toNat (gI (okV st pl ho ge p h n) ho (1 : Int)))) && decide (Int.ofNat (Prod.snd y4 % Int.toNat (gI (okV st pl ho ge p h n) ho (1 : Int))) < (↑(Int.toNat ho) : Int))) = (true)) → ((((Nat.blt (Int.toNat (Int.ofNat (Prod.fst y4 % Int.toNat (gI (okV st pl ho ge p h n) st (1 : Int))))) (Int.toNat st) && Nat.blt (Int.toNat (Int.ofNat (Prod.snd y4 % Int.toNat (gI (okV st pl ho ge p h n) ho (1 : Int))))) (Int.toNat ho)) = (true)) → (True ∧ ((true = true) ∧ (((((47 : TypeId)) = ((47 : TypeId))) ∧ (((4) = (4)) ∧ (qVisits1 st pl ho ge))) ∧ ((qVisits7 p h) ∧ ((((((14) = (14)) ∧ (true = true)) ∧ ((((22 : TypeId)) = ((22 : TypeId))) ∧ ((Sh.int IntKind.i64) = (Sh.int IntKind.i64)))) ∧ (((Int.toNat st) = (Int.toNat st)) ∧ (((Int.toNat st) = (Int.toNat st)) ∧ (((Int.toNat ho) = (Int.toNat ho)) ∧ (∀ y5 : Nat, (y5 < Int.toNat st → (∀ y6 : Nat, (y6 < Int.toNat ho → ((FD.int IntKind.i64 (cntP (Int.toNat st) (Int.toNat ho) (y3 ++ [y4]) y5 y6)) = (bif Nat.beq y5 (Int.toNat (Int.ofNat (Prod.fst y4 % Int.toNat (gI (okV st pl ho ge p h n) st (1 : Int))))) && Nat.beq y6 (Int.toNat (Int.ofNat (Prod.snd y4 % Int.toNat (gI (okV st pl ho ge p h n) ho (1 : Int))))) then FD.int IntKind.i64 (IntKind.wrap IntKind.i64 (cntP (Int.toNat st) (Int.toNat ho) y3 (Int.toNat (Int.ofNat (Prod.fst y4 % Int.toNat (gI (okV st pl ho ge p h n) st (1 : Int))))) (Int.toNat (Int.ofNat (Prod.snd y4 % Int.toNat (gI (okV st pl ho ge p h n) ho (1 : Int))))) + (1 : Int))) else FD.int IntKind.i64 (cntP (Int.toNat st) (Int.toNat ho) y3 y5 y6))))))))))) ∧ (((((48 : TypeId)) = ((48 : TypeId))) ∧ (((1) = (1)) ∧ ((((12, 12) ∈ ([(16, 16), (15, 15), (14, 14), (13, 13), (12, 12), (11, 11), (10, 10), (9, 9), (8, 8), (7, 7), (6, 6), (5, 5), (4, 4), (3, 3), (2, 2), (1, 1), (0, 0)] : List (Nat × Nat))) ∧ ((Int.toNat st) = (Int.toNat st))) ∧ True))) ∧ (((((165 : TypeId)) = ((165 : TypeId))) ∧ (qVisits8 st pl ho ge p h)) ∧ (((((3 : TypeId)) = ((3 : TypeId))) ∧ (((1) = (1)) ∧ ((((IntKind.i64) = (IntKind.i64)) ∧ ((n) = (n))) ∧ True))) ∧ True))))))))) ∧ (((Nat.blt (Int.toNat (Int.ofNat (Prod.fst y4 % Int.toNat (gI (okV st pl ho ge p h n) st (1 : Int))))) (Int.toNat st) && Nat.blt (Int.toNat (Int.ofNat (Prod.snd y4 % Int.toNat (gI (okV st pl ho ge p h n) ho (1 : Int))))) (Int.toNat ho)) = (false)) → False))) ∧ (((decide ((0 : Int) ≤ Int.ofNat (Prod.snd y4 % Int.toNat (gI (okV st pl ho ge p h n) ho (1 : Int)))) && decide (Int.ofNat (Prod.snd y4 % Int.toNat (gI (okV st pl ho ge p h n) ho (1 : Int))) < (↑(Int.toNat ho) : Int))) = (false)) → False))) ∧ (((Nat.blt (Int.toNat (Int.ofNat (Prod.fst y4 % Int.toNat (gI (okV st pl ho ge p h n) st (1 : Int))))) (Int.toNat st) && Nat.blt (Int.toNat (Int.ofNat (Prod.snd y4 % Int.toNat (gI (okV st pl ho ge p h n) ho (1 : Int))))) (Int.toNat ho)) = (false)) → False))) ∧ (((decide ((0 : Int) ≤ Int.ofNat (Prod.snd y4 % Int.toNat (gI (okV st pl ho ge p h n) ho (1 : Int)))) && decide (Int.ofNat (Prod.snd y4 % Int.toNat (gI (okV st pl ho ge p h n) ho (1 : Int))) < (↑(Int.toNat ho) : Int))) = (false)) → False))) ∧ (((Nat.blt (Int.toNat (Int.ofNat (Prod.fst y4 % Int.toNat (gI (okV st pl ho ge p h n) st (1 : Int))))) (Int.toNat st)) = (false)) → False))) ∧ (((decide ((0 : Int) ≤ Int.ofNat (Prod.fst y4 % Int.toNat (gI (okV st pl ho ge p h n) st (1 : Int)))) && decide (Int.ofNat (Prod.fst y4 % Int.toNat (gI (okV st pl ho ge p h n) st (1 : Int))) < (↑(Int.toNat st) : Int))) = (false)) → False)))))))) ∧ ((True → (((1 : Nat) ≤ (12 : Nat) ∧ ((((([Sh.list [Sh.int IntKind.i64]]) = ([Sh.list [Sh.int IntKind.i64]])) ∧ (1 : Nat) ≤ (14 : Nat)) ∧ (((Int.toNat st) = (Int.toNat st)) ∧ ((Int.toNat st) = (Int.toNat st)))) ∧ (((if placeE st pl ho ge p h n = (0 : Int) then Int.toNat st else (0 : Nat)) = (Int.toNat st)) ∧ (∀ y3 : Nat, (y3 < Int.toNat st → (((FD.list [Sh.int IntKind.i64] (Int.toNat ho) fun (k x : Nat) => FD.int IntKind.i64 (cntV (Int.toNat st) (Int.toNat pl) (Int.toNat ho) (Int.toNat ge) (Int.toNat p) (Int.toNat h) (Int.toNat n) y3 k)) = (FD.list [Sh.int IntKind.i64] (Int.toNat ho) fun (k x : Nat) => FD.int IntKind.i64 (cntV (Int.toNat st) (Int.toNat pl) (Int.toNat ho) (Int.toNat ge) (Int.toNat p) (Int.toNat h) (Int.toNat n) y3 k))) ∧ (((Int.toNat ho) = (Int.toNat ho)) ∧ (∀ y4 : Nat, (y4 < Int.toNat ho → ((FD.int IntKind.i64 (cntV (Int.toNat st) (Int.toNat pl) (Int.toNat ho) (Int.toNat ge) (Int.toNat p) (Int.toNat h) (Int.toNat n) y3 y4)) = (FD.int IntKind.i64 (cntP (Int.toNat st) (Int.toNat ho) (bif okV st pl ho ge p h n then placesL (Int.toNat st) (Int.toNat pl) (Int.toNat ge) (Int.toNat p) (Int.toNat h) (Int.toNat n) else []) y3 y4)))))))))))) ∧ ((((IntKind.i64) = (IntKind.i64)) ∧ ((placeE st pl ho ge p h n) = ((0 : Int)))) ∧ True))) ∧ (∀ y3 : List (Nat × Nat), ((∃ y4 : List (Nat × Nat), ((y3 ++ y4) = (bif okV st pl ho ge p h n then placesL (Int.toNat st) (Int.toNat pl) (Int.toNat ge) (Int.toNat p) (Int.toNat h) (Int.toNat n) else []))) → (False → False)))))))))))
theorem Visits_ok : FnOk (mkR smV gs6) Try.prog η0 39 (FI.of Try.f39 false) VisitsS (.tup [.one (.list [.list [.int .i64]]), .one (.int .i64)]) VisitsC VisitsR := by
  refine fnOk_of smV_ok gs6_ok Try.fok39 (fun fds => match fds with | [.int _ st, .int _ pl, .int _ ho, .int _ ge, .int _ p, .int _ h, .int _ n] => VisitsI st pl ho ge p h n | _ => alts fun _ => []) (fun fds => match fds with | [.int _ st, .int _ pl, .int _ ho, .int _ ge, .int _ p, .int _ h, .int _ n] => (VisitsQ st pl ho ge p h n) | _ => noR) ?_
  intro fds hf hc
  obtain ⟨st, ds0, rfl, hf1⟩ := hf.int
  obtain ⟨pl, ds1, rfl, hf2⟩ := hf1.int
  obtain ⟨ho, ds2, rfl, hf3⟩ := hf2.int
  obtain ⟨ge, ds3, rfl, hf4⟩ := hf3.int
  obtain ⟨p, ds4, rfl, hf5⟩ := hf4.int
  obtain ⟨h, ds5, rfl, hf6⟩ := hf5.int
  obtain ⟨n, ds6, rfl, hf7⟩ := hf6.int
  obtain rfl := hf7.nil
  have hc : (true) = true := hc
  have hvc : (vcF smV gs6 (FI.of Try.f39 false) VisitsS (.tup [.one (.list [.list [.int .i64]]), .one (.int .i64)]) (VisitsI st pl ho ge p h n) (VisitsQ st pl ho ge p h n) [.int .i64 st, .int .i64 pl, .int .i64 ho, .int .i64 ge, .int .i64 p, .int .i64 h, .int .i64 n] (VisitsR [.int .i64 st, .int .i64 pl, .int .i64 ho, .int .i64 ge, .int .i64 p, .int .i64 h, .int .i64 n])) =
    ((true = true) ∧ (((true = true) → (((true = true) → (((true = true) → ((((decide (rackE st pl ho ge = (0 : Int))) = (true)) → ((((decide (partE pl ho p h = (0 : Int))) = (true)) → ((((decide (stepsE n = (0 : Int))) = (true)) → ((((decide ((0 : Int) ≤ st) && (decide (st ≤ st) && decide (st ≤ (↑(1000000 : Nat) : Int)))) = (true)) → (∃ y0 : Nat, (((∃ y1 : Nat, ((((y1) = (0)) ∧ True) ∧ ((qVisits11 st pl ho ge p h n y1) ∧ (qVisits3 st pl ho ge p h)))) ∨ (∃ y1 : Nat, ((((1 : Nat) ≤ y1 ∧ y1 ≤ Int.toNat st) ∧ True) ∧ ((qVisits11 st pl ho ge p h n y1) ∧ (qVisits5 st pl ho ge p h))))) ∧ (qVisits0 st pl ho ge p h n)))) ∧ (((decide ((0 : Int) ≤ st) && (decide (st ≤ st) && decide (st ≤ (↑(1000000 : Nat) : Int)))) = (false)) → False))) ∧ (((decide (stepsE n = (0 : Int))) = (false)) → ((((decide (stepsE n = (0 : Int))) = (false)) → (((if placeE st pl ho ge p h n = (0 : Int) then Int.toNat st else (0 : Nat)) = (0)) ∧ ((((IntKind.i64) = (IntKind.i64)) ∧ ((placeE st pl ho ge p h n) = (stepsE n))) ∧ True))) ∧ (((decide (stepsE n = (0 : Int))) = (true)) → ((((decide ((0 : Int) ≤ st) && (decide (st ≤ st) && decide (st ≤ (↑(1000000 : Nat) : Int)))) = (true)) → (∃ y0 : Nat, (((∃ y1 : Nat, ((((y1) = (0)) ∧ True) ∧ ((qVisits12 st pl ho ge p h n y1) ∧ (qVisits3 st pl ho ge p h)))) ∨ (∃ y1 : Nat, ((((1 : Nat) ≤ y1 ∧ y1 ≤ Int.toNat st) ∧ True) ∧ ((qVisits12 st pl ho ge p h n y1) ∧ (qVisits5 st pl ho ge p h))))) ∧ (qVisits0 st pl ho ge p h n)))) ∧ (((decide ((0 : Int) ≤ st) && (decide (st ≤ st) && decide (st ≤ (↑(1000000 : Nat) : Int)))) = (false)) → False))))))) ∧ (((decide (partE pl ho p h = (0 : Int))) = (false)) → ((((decide (partE pl ho p h = (0 : Int))) = (false)) → (((if placeE st pl ho ge p h n = (0 : Int) then Int.toNat st else (0 : Nat)) = (0)) ∧ ((((IntKind.i64) = (IntKind.i64)) ∧ ((placeE st pl ho ge p h n) = (partE pl ho p h))) ∧ True))) ∧ (((decide (partE pl ho p h = (0 : Int))) = (true)) → ((((decide ((0 : Int) ≤ st) && (decide (st ≤ st) && decide (st ≤ (↑(1000000 : Nat) : Int)))) = (true)) → (∃ y0 : Nat, (((∃ y1 : Nat, ((((y1) = (0)) ∧ True) ∧ ((qVisits10 st pl ho ge p h n y1) ∧ (qVisits3 st pl ho ge p h)))) ∨ (∃ y1 : Nat, ((((1 : Nat) ≤ y1 ∧ y1 ≤ Int.toNat st) ∧ True) ∧ ((qVisits10 st pl ho ge p h n y1) ∧ (qVisits5 st pl ho ge p h))))) ∧ (qVisits0 st pl ho ge p h n)))) ∧ (((decide ((0 : Int) ≤ st) && (decide (st ≤ st) && decide (st ≤ (↑(1000000 : Nat) : Int)))) = (false)) → False))))))) ∧ (((decide (rackE st pl ho ge = (0 : Int))) = (false)) → ((((decide (rackE st pl ho ge = (0 : Int))) = (false)) → (((if placeE st pl ho ge p h n = (0 : Int) then Int.toNat st else (0 : Nat)) = (0)) ∧ ((((IntKind.i64) = (IntKind.i64)) ∧ ((placeE st pl ho ge p h n) = (rackE st pl ho ge))) ∧ True))) ∧ (((decide (rackE st pl ho ge = (0 : Int))) = (true)) → ((((decide ((0 : Int) ≤ st) && (decide (st ≤ st) && decide (st ≤ (↑(1000000 : Nat) : Int)))) = (true)) → (∃ y0 : Nat, (((∃ y1 : Nat, ((((y1) = (0)) ∧ True) ∧ ((qVisits9 st pl ho ge p h n y1) ∧ (qVisits3 st pl ho ge p h)))) ∨ (∃ y1 : Nat, ((((1 : Nat) ≤ y1 ∧ y1 ≤ Int.toNat st) ∧ True) ∧ ((qVisits9 st pl ho ge p h n y1) ∧ (qVisits5 st pl ho ge p h))))) ∧ (qVisits0 st pl ho ge p h n)))) ∧ (((decide ((0 : Int) ≤ st) && (decide (st ≤ st) && decide (st ≤ (↑(1000000 : Nat) : Int)))) = (false)) → False))))))) ∧ ((true = false) → False))) ∧ ((true = false) → False))) ∧ ((true = false) → False))) := by kernel_rfl
  refine ⟨VisitsQ_ok st pl ho ge p h n, hvc.mpr ?_⟩
  clear hvc
  dsimp only [qVisits1, qVisits2, qVisits3, qVisits4, qVisits5, qVisits6, qVisits7, qVisits8, qVisits9, qVisits10, qVisits11, qVisits12, qVisits13, qVisits0]
  by_cases h1 : placeE st pl ho ge p h n = 0
  · obtain ⟨e1, e2, e3⟩ := placeE_ok h1
    have e5 := rackE_ok e1
    have e6 := partE_ok e5 e2
    have e7 := stepsE_ok e3
    have hok : okV st pl ho ge p h n = true := by simp [okV, h1]
    obtain ⟨S, P, H, G, ⟨rfl, rfl, rfl, rfl⟩, c1, c2, c3, c4, c5, c6, c7, c8⟩ := rack_nat e5
    obtain ⟨Q, K, ⟨rfl, rfl⟩, c9, c10⟩ := part_nat e6
    obtain ⟨N, rfl⟩ := Int.eq_ofNat_of_zero_le e7.1
    have x1 : (S : Int) ≤ 1000000 := by omega
    have x2 : (H : Int) ≤ 1000000 := by omega
    have hS : ∀ a : Nat, a % S < S := fun a => Nat.mod_lt _ (by omega)
    have hH : ∀ a : Nat, a % H < H := fun a => Nat.mod_lt _ (by omega)
    simp [h1, e1, e2, e3, hok, gI, -Int.natCast_emod, x1, x2, hS, hH]
    have w1 : ∀ y : Nat, y < 100 → (y : Int) + 1 = IntKind.i64.wrap ((y : Int) + 1) := fun y hy => by rw [wrap_id (by omega) (by omega)]
    refine ⟨⟨fun h0 => ⟨fun _ => ⟨fun _ => ⟨1, ⟨⟨by omega, by omega⟩, by omega⟩, w1 0 (by omega), rfl, fun y3 h3 y4 _ => ?_⟩, h0⟩, h0⟩, by omega⟩, fun y1 h1 h2 => ⟨fun h3 => ⟨fun _ => ⟨fun _ => ⟨⟨by omega, by omega⟩, w1 y1 (by omega)⟩, h3⟩, h3⟩, fun h3 => ⟨⟨⟨by omega, fun _ _ _ _ => rfl⟩, fun y3 a b _ y5 h5 y6 h6 => ?_⟩, fun y3 _ y4 _ => (cntP_eq S P H G Q K y3 y4 N (by omega)).symm⟩⟩⟩
    · obtain rfl : y3 = 0 := by omega
      rfl
    · rw [cntP_snoc]
      by_cases hpl : y5 = a % S ∧ y6 = b % H
      · obtain ⟨p1, p2⟩ := hpl
        rw [if_pos ⟨p1, p2⟩, ← p1, ← p2, Nat.beq_refl, Nat.beq_refl]
        rfl
      · rw [if_neg hpl]
        have : (y5.beq (a % S) && y6.beq (b % H)) = false := by
          rw [Bool.eq_false_iff]
          intro hh
          simp only [Bool.and_eq_true] at hh
          exact hpl ⟨Nat.eq_of_beq_eq_true hh.1, Nat.eq_of_beq_eq_true hh.2⟩
        rw [this]; rfl
  · by_cases h2 : rackE st pl ho ge = 0
    · by_cases h3 : partE pl ho p h = 0
      · have e : placeE st pl ho ge p h n = stepsE n := by simp [placeE, first3, h2, h3]
        rw [e] at h1
        simp [e, h1, h2, h3]
      · have e : placeE st pl ho ge p h n = partE pl ho p h := by simp [placeE, first3, h2, h3]
        simp [e, h2, h3]
    · have e : placeE st pl ho ge p h n = rackE st pl ho ge := by simp [placeE, first3, h2]
      simp [e, h2]

end
end Go.Ex

