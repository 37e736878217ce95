/-
  Contracts: least and greatest number, the spread.
-/
import Derived.Test.YtdpabnfcfakjeaaLwFh

namespace Go.Ex
open Go Go.Proofs Go.RowKit
noncomputable section

def sm7 : T Smf := (T.set sm6 42 (some (gFd stepsForS (.tup [.one (.int .i64), .one (.int .i64)]) stepsForC stepsForR)))
theorem sm7_ok : Tab SmOk sm7 := (Tab.set sm6_ok (by kernel_rfl) (smOk_of sm6_ok gs2_ok stepsFor_ok rfl))
def maxF (f : Nat → Nat → FD) : Nat → Int
  | 0 => (f 0 0).i
  | n + 1 => if maxF f n < (f n 0).i then (f n 0).i else maxF f n
def minF (f : Nat → Nat → FD) : Nat → Int
  | 0 => (f 0 0).i
  | n + 1 => if (f n 0).i < minF f n then (f n 0).i else minF f n
def maxIS : List PT := [.one (.list [.int .i64])]
def maxIC : List FD → Bool
  | [.list _ na _] => Nat.ble 1 na
  | _ => false
def maxIR : List FD → List FD
  | [.list _ na fa] => [.int .i64 (maxF fa na)]
  | _ => []
def maxII (na : Nat) (fa : Nat → Nat → FD) : Nat → AFam := fun i => match i with | 5 => ⟨Nat, fun _ => [{ι := Nat, G := fun x => 1 ≤ x ∧ x ≤ na, μ := fun x => na - x, tl := fun x => [(0, .one (.fz (.root 0 0) (FD.list [Sh.int IntKind.i64] na fa))), (3, .one (.int IntKind.i64 (.tm (maxF fa x)))), (4, .one (.int IntKind.i64 (.tm (Int.ofNat x)))), (5, .one (.fz (.root 0 0) (FD.list [Sh.int IntKind.i64] na fa))), (6, .one (.int IntKind.i64 (.tm (Int.ofNat na)))), (9, .one (.fz (.root 0 0) (FD.list [Sh.int IntKind.i64] na fa)))], bl := fun _ => [], nx := (1 : Nat)}]⟩ | _ => ⟨Nat, fun _ => []⟩
theorem maxI_ok : FnOk (mkR sm7 gs2) Try.prog η0 90 (FI.of Try.f90 true) maxIS (.one (.int .i64)) maxIC maxIR := by
  refine fnOk_of0 sm7_ok gs2_ok Try.fok90 (fun fds => match fds with | [.list _ na fa] => maxII na fa | _ => alts fun _ => []) ?_
  intro fds hf hc
  obtain ⟨na, fa, ds0, rfl, ga, hf1⟩ := hf.list
  obtain rfl := hf1.nil
  have hc : (Nat.ble 1 na) = true := hc
  have hvc : (vcF sm7 gs2 (FI.of Try.f90 true) maxIS (.one (.int .i64)) (maxII na fa) noR [.list [.int .i64] na fa] (maxIR [.list [.int .i64] na fa])) =
    ((true = true) ∧ ((((decide (Int.ofNat na < (1 : Int))) = (true)) → False) ∧ (((decide (Int.ofNat na < (1 : Int))) = (false)) → ((((decide ((0 : Int) ≤ (0 : Int)) && decide ((0 : Int) < (↑na : Int))) = (true)) → (∃ y0 : Nat, ((∃ y1 : Nat, ((((1 : Nat) ≤ y1 ∧ y1 ≤ na) ∧ True) ∧ (((true = true) ∧ ((((Ref.root (0) (0)) = (Ref.root (0) (0))) ∧ (((FD.list [Sh.int IntKind.i64] na fa) = (FD.list [Sh.int IntKind.i64] na fa)) ∧ (true = true))) ∧ ((((IntKind.i64) = (IntKind.i64)) ∧ ((maxF fa y1) = (FD.i (fa (Int.toNat (0 : Int)) (0 : Nat))))) ∧ ((((IntKind.i64) = (IntKind.i64)) ∧ ((Int.ofNat y1) = ((1 : Int)))) ∧ ((((Ref.root (0) (0)) = (Ref.root (0) (0))) ∧ (((FD.list [Sh.int IntKind.i64] na fa) = (FD.list [Sh.int IntKind.i64] na fa)) ∧ (true = true))) ∧ ((((IntKind.i64) = (IntKind.i64)) ∧ ((Int.ofNat na) = (Int.ofNat na))) ∧ ((((Ref.root (0) (0)) = (Ref.root (0) (0))) ∧ (((FD.list [Sh.int IntKind.i64] na fa) = (FD.list [Sh.int IntKind.i64] na fa)) ∧ (true = true))) ∧ True))))))) ∧ True))) ∧ (∀ y1 : Nat, (((1 : Nat) ≤ y1 ∧ y1 ≤ na) → ((((decide (Int.ofNat y1 < Int.ofNat na)) = (true)) → ((((decide ((0 : Int) ≤ Int.ofNat y1) && decide (Int.ofNat y1 < (↑na : Int))) = (true)) → (∃ y2 : Nat, ((((1 : Nat) ≤ y2 ∧ y2 ≤ na) ∧ na - y2 < na - y1) ∧ (((true = true) ∧ ((((Ref.root (0) (0)) = (Ref.root (0) (0))) ∧ (((FD.list [Sh.int IntKind.i64] na fa) = (FD.list [Sh.int IntKind.i64] na fa)) ∧ (true = true))) ∧ ((((IntKind.i64) = (IntKind.i64)) ∧ ((maxF fa y2) = (if maxF fa y1 < FD.i (fa (Int.toNat (Int.ofNat y1)) (0 : Nat)) then FD.i (fa (Int.toNat (Int.ofNat y1)) (0 : Nat)) else maxF fa y1))) ∧ ((((IntKind.i64) = (IntKind.i64)) ∧ ((Int.ofNat y2) = (IntKind.wrap IntKind.i64 (Int.ofNat y1 + (1 : Int))))) ∧ ((((Ref.root (0) (0)) = (Ref.root (0) (0))) ∧ (((FD.list [Sh.int IntKind.i64] na fa) = (FD.list [Sh.int IntKind.i64] na fa)) ∧ (true = true))) ∧ ((((IntKind.i64) = (IntKind.i64)) ∧ ((Int.ofNat na) = (Int.ofNat na))) ∧ ((((Ref.root (0) (0)) = (Ref.root (0) (0))) ∧ (((FD.list [Sh.int IntKind.i64] na fa) = (FD.list [Sh.int IntKind.i64] na fa)) ∧ (true = true))) ∧ True))))))) ∧ True)))) ∧ (((decide ((0 : Int) ≤ Int.ofNat y1) && decide (Int.ofNat y1 < (↑na : Int))) = (false)) → False))) ∧ (((decide (Int.ofNat y1 < Int.ofNat na)) = (false)) → (((IntKind.i64) = (IntKind.i64)) ∧ ((maxF fa na) = (maxF fa y1)))))))))) ∧ (((decide ((0 : Int) ≤ (0 : Int)) && decide ((0 : Int) < (↑na : Int))) = (false)) → False))))) := by kernel_rfl
  refine hvc.mpr ?_
  clear hvc
  have hc := Nat.le_of_ble_eq_true hc
  have hl := ga.len
  have hl' : maxLen = 9223372036854775807 := rfl
  simp
  refine ⟨by omega, fun _ => ⟨fun _ => ⟨⟨1, ⟨by omega, by omega⟩, by simp [maxF], rfl⟩, fun x h1 h2 => ⟨fun h => ⟨fun _ => ⟨x + 1, ⟨⟨by omega, by omega⟩, by omega⟩, rfl, ?_⟩, h⟩, fun h => by rw [show x = na by omega]⟩⟩, by omega⟩⟩
  rw [wrap_id (by omega) (by omega)]
  rfl
def minIS : List PT := [.one (.list [.int .i64])]
def minIC : List FD → Bool
  | [.list _ na _] => Nat.ble 1 na
  | _ => false
def minIR : List FD → List FD
  | [.list _ na fa] => [.int .i64 (minF fa na)]
  | _ => []
def minII (na : Nat) (fa : Nat → Nat → FD) : Nat → AFam := fun i => match i with | 5 => ⟨Nat, fun _ => [{ι := Nat, G := fun x => 1 ≤ x ∧ x ≤ na, μ := fun x => na - x, tl := fun x => [(0, .one (.fz (.root 0 0) (FD.list [Sh.int IntKind.i64] na fa))), (3, .one (.int IntKind.i64 (.tm (minF fa x)))), (4, .one (.int IntKind.i64 (.tm (Int.ofNat x)))), (5, .one (.fz (.root 0 0) (FD.list [Sh.int IntKind.i64] na fa))), (6, .one (.int IntKind.i64 (.tm (Int.ofNat na)))), (9, .one (.fz (.root 0 0) (FD.list [Sh.int IntKind.i64] na fa)))], bl := fun _ => [], nx := (1 : Nat)}]⟩ | _ => ⟨Nat, fun _ => []⟩
theorem minI_ok : FnOk (mkR sm7 gs2) Try.prog η0 89 (FI.of Try.f89 true) minIS (.one (.int .i64)) minIC minIR := by
  refine fnOk_of0 sm7_ok gs2_ok Try.fok89 (fun fds => match fds with | [.list _ na fa] => minII na fa | _ => alts fun _ => []) ?_
  intro fds hf hc
  obtain ⟨na, fa, ds0, rfl, ga, hf1⟩ := hf.list
  obtain rfl := hf1.nil
  have hc : (Nat.ble 1 na) = true := hc
  have hvc : (vcF sm7 gs2 (FI.of Try.f89 true) minIS (.one (.int .i64)) (minII na fa) noR [.list [.int .i64] na fa] (minIR [.list [.int .i64] na fa])) =
    ((true = true) ∧ ((((decide (Int.ofNat na < (1 : Int))) = (true)) → False) ∧ (((decide (Int.ofNat na < (1 : Int))) = (false)) → ((((decide ((0 : Int) ≤ (0 : Int)) && decide ((0 : Int) < (↑na : Int))) = (true)) → (∃ y0 : Nat, ((∃ y1 : Nat, ((((1 : Nat) ≤ y1 ∧ y1 ≤ na) ∧ True) ∧ (((true = true) ∧ ((((Ref.root (0) (0)) = (Ref.root (0) (0))) ∧ (((FD.list [Sh.int IntKind.i64] na fa) = (FD.list [Sh.int IntKind.i64] na fa)) ∧ (true = true))) ∧ ((((IntKind.i64) = (IntKind.i64)) ∧ ((minF fa y1) = (FD.i (fa (Int.toNat (0 : Int)) (0 : Nat))))) ∧ ((((IntKind.i64) = (IntKind.i64)) ∧ ((Int.ofNat y1) = ((1 : Int)))) ∧ ((((Ref.root (0) (0)) = (Ref.root (0) (0))) ∧ (((FD.list [Sh.int IntKind.i64] na fa) = (FD.list [Sh.int IntKind.i64] na fa)) ∧ (true = true))) ∧ ((((IntKind.i64) = (IntKind.i64)) ∧ ((Int.ofNat na) = (Int.ofNat na))) ∧ ((((Ref.root (0) (0)) = (Ref.root (0) (0))) ∧ (((FD.list [Sh.int IntKind.i64] na fa) = (FD.list [Sh.int IntKind.i64] na fa)) ∧ (true = true))) ∧ True))))))) ∧ True))) ∧ (∀ y1 : Nat, (((1 : Nat) ≤ y1 ∧ y1 ≤ na) → ((((decide (Int.ofNat y1 < Int.ofNat na)) = (true)) → ((((decide ((0 : Int) ≤ Int.ofNat y1) && decide (Int.ofNat y1 < (↑na : Int))) = (true)) → (∃ y2 : Nat, ((((1 : Nat) ≤ y2 ∧ y2 ≤ na) ∧ na - y2 < na - y1) ∧ (((true = true) ∧ ((((Ref.root (0) (0)) = (Ref.root (0) (0))) ∧ (((FD.list [Sh.int IntKind.i64] na fa) = (FD.list [Sh.int IntKind.i64] na fa)) ∧ (true = true))) ∧ ((((IntKind.i64) = (IntKind.i64)) ∧ ((minF fa y2) = (if FD.i (fa (Int.toNat (Int.ofNat y1)) (0 : Nat)) < minF fa y1 then FD.i (fa (Int.toNat (Int.ofNat y1)) (0 : Nat)) else minF fa y1))) ∧ ((((IntKind.i64) = (IntKind.i64)) ∧ ((Int.ofNat y2) = (IntKind.wrap IntKind.i64 (Int.ofNat y1 + (1 : Int))))) ∧ ((((Ref.root (0) (0)) = (Ref.root (0) (0))) ∧ (((FD.list [Sh.int IntKind.i64] na fa) = (FD.list [Sh.int IntKind.i64] na fa)) ∧ (true = true))) ∧ ((((IntKind.i64) = (IntKind.i64)) ∧ ((Int.ofNat na) = (Int.ofNat na))) ∧ ((((Ref.root (0) (0)) = (Ref.root (0) (0))) ∧ (((FD.list [Sh.int IntKind.i64] na fa) = (FD.list [Sh.int IntKind.i64] na fa)) ∧ (true = true))) ∧ True))))))) ∧ True)))) ∧ (((decide ((0 : Int) ≤ Int.ofNat y1) && decide (Int.ofNat y1 < (↑na : Int))) = (false)) → False))) ∧ (((decide (Int.ofNat y1 < Int.ofNat na)) = (false)) → (((IntKind.i64) = (IntKind.i64)) ∧ ((minF fa na) = (minF fa y1)))))))))) ∧ (((decide ((0 : Int) ≤ (0 : Int)) && decide ((0 : Int) < (↑na : Int))) = (false)) → False))))) := by kernel_rfl
  refine hvc.mpr ?_
  clear hvc
  have hc := Nat.le_of_ble_eq_true hc
  have hl := ga.len
  have hl' : maxLen = 9223372036854775807 := rfl
  simp
  refine ⟨by omega, fun _ => ⟨fun _ => ⟨⟨1, ⟨by omega, by omega⟩, by simp [minF], rfl⟩, fun x h1 h2 => ⟨fun h => ⟨fun _ => ⟨x + 1, ⟨⟨by omega, by omega⟩, by omega⟩, rfl, ?_⟩, h⟩, fun h => by rw [show x = na by omega]⟩⟩, by omega⟩⟩
  rw [wrap_id (by omega) (by omega)]
  rfl
theorem mmF_bd {f : Nat → Nat → FD} {M : Int} : ∀ {n : Nat}, 1 ≤ n → (∀ i, i < n → 0 ≤ (f i 0).i ∧ (f i 0).i ≤ M) → 0 ≤ minF f n ∧ minF f n ≤ maxF f n ∧ maxF f n ≤ M
  | n + 1, _, h => by
    have h0 := h n (by omega)
    rcases Nat.eq_zero_or_pos n with rfl | hn
    · simp only [minF, maxF, ite_self]
      omega
    · have ih := mmF_bd (f := f) (n := n) hn fun i hi => h i (by omega)
      simp only [minF, maxF]
      split <;> split <;> omega
theorem outB_in {hi : Int} {n : Nat} {f : Nat → Nat → FD} (h : anyN (fun i => outB hi (f i 0).i) n 0 = false) : ∀ i, i < n → 0 ≤ (f i 0).i ∧ (f i 0).i ≤ hi := fun i hi' => by
  have := anyN_false h i (by omega) (by omega)
  simp only [outB, Bool.not_eq_false', Bool.and_eq_true, decide_eq_true_eq] at this
  exact this
theorem gcdF_ne {a b : Int} (ha : 0 ≤ a) (hb : 0 < b) : gcdF a b ≠ 0 := by
  obtain ⟨A, rfl⟩ := Int.eq_ofNat_of_zero_le ha
  obtain ⟨B, rfl⟩ := Int.eq_ofNat_of_zero_le (show 0 ≤ b by omega)
  rw [gcdF_nat]
  have := Nat.gcd_pos_of_pos_right A (show 0 < B by omega)
  omega
def sm8 : T Smf := (T.set (T.set sm7 90 (some (gFd maxIS (.one (.int .i64)) maxIC maxIR))) 89 (some (gFd minIS (.one (.int .i64)) minIC minIR)))
theorem sm8_ok : Tab SmOk sm8 := (Tab.set (Tab.set sm7_ok (by kernel_rfl) (smOk_of sm7_ok gs2_ok maxI_ok rfl)) (by kernel_rfl) (smOk_of sm7_ok gs2_ok minI_ok rfl))
def divF (a b : Int) : Int := IntKind.i64.wrap (a.tdiv b)
def spreadE (n : Nat) (f : Nat → Nat → FD) : Int := if n = 0 then 7 else if anyN (fun i => outB 500000000 (f i 0).i) n 0 = true then 2 else if maxF f n = 0 then 9 else 0
def spreadG (n : Nat) (f : Nat → Nat → FD) : Int := gcdF (wrapI (maxF f n - minF f n)) (wrapI (maxF f n + minF f n))
def spreadS : List PT := [.one (.list [.int .i64])]
def spreadC : List FD → Bool
  | [.list _ _ _] => true
  | _ => false
def spreadR : List FD → List FD
  | [.list _ na fa] => [.int .i64 (if spreadE na fa = 0 then divF (wrapI (maxF fa na - minF fa na)) (spreadG na fa) else 0), .int .i64 (if spreadE na fa = 0 then divF (wrapI (maxF fa na + minF fa na)) (spreadG na fa) else 0), .int .i64 (spreadE na fa)]
  | _ => []
def spreadI (_na : Nat) (_fa : Nat → Nat → FD) : Nat → AFam := alts (fun _ => [])
theorem spread_ok : FnOk (mkR sm8 gs2) Try.prog η0 19 (FI.of Try.f19 true) spreadS (.tup [.agg [.int .i64, .int .i64], .one (.int .i64)]) spreadC spreadR := by
  refine fnOk_of0 sm8_ok gs2_ok Try.fok19 (fun fds => match fds with | [.list _ na fa] => spreadI na fa | _ => alts fun _ => []) ?_
  intro fds hf hc
  obtain ⟨na, fa, ds0, rfl, ga, hf1⟩ := hf.list
  obtain rfl := hf1.nil
  have hc : (true) = true := hc
  have hvc : (vcF sm8 gs2 (FI.of Try.f19 true) spreadS (.tup [.agg [.int .i64, .int .i64], .one (.int .i64)]) (spreadI na fa) noR [.list [.int .i64] na fa] (spreadR [.list [.int .i64] na fa])) =
    ((true = true) ∧ ((((decide (Int.ofNat na = (0 : Int))) = (true)) → (((((IntKind.i64) = (IntKind.i64)) ∧ ((if spreadE na fa = (0 : Int) then divF (wrapI (maxF fa na - minF fa na)) (spreadG na fa) else (0 : Int)) = ((0 : Int)))) ∧ ((((IntKind.i64) = (IntKind.i64)) ∧ ((if spreadE na fa = (0 : Int) then divF (wrapI (maxF fa na + minF fa na)) (spreadG na fa) else (0 : Int)) = ((0 : Int)))) ∧ True)) ∧ ((((IntKind.i64) = (IntKind.i64)) ∧ ((spreadE na fa) = ((7 : Int)))) ∧ True))) ∧ (((decide (Int.ofNat na = (0 : Int))) = (false)) → (((true = true) → ((((anyN (fun (i : Nat) => outB (500000000 : Int) (FD.i (fa i (0 : Nat)))) na (0 : Nat)) = (true)) → (((((IntKind.i64) = (IntKind.i64)) ∧ ((if spreadE na fa = (0 : Int) then divF (wrapI (maxF fa na - minF fa na)) (spreadG na fa) else (0 : Int)) = ((0 : Int)))) ∧ ((((IntKind.i64) = (IntKind.i64)) ∧ ((if spreadE na fa = (0 : Int) then divF (wrapI (maxF fa na + minF fa na)) (spreadG na fa) else (0 : Int)) = ((0 : Int)))) ∧ True)) ∧ ((((IntKind.i64) = (IntKind.i64)) ∧ ((spreadE na fa) = ((2 : Int)))) ∧ True))) ∧ (((anyN (fun (i : Nat) => outB (500000000 : Int) (FD.i (fa i (0 : Nat)))) na (0 : Nat)) = (false)) → ((((minIC [FD.list [Sh.int IntKind.i64] na fa]) = (true)) → ((((maxIC [FD.list [Sh.int IntKind.i64] na fa]) = (true)) → ((((decide (maxF fa na = (0 : Int))) = (true)) → (((((IntKind.i64) = (IntKind.i64)) ∧ ((if spreadE na fa = (0 : Int) then divF (wrapI (maxF fa na - minF fa na)) (spreadG na fa) else (0 : Int)) = ((0 : Int)))) ∧ ((((IntKind.i64) = (IntKind.i64)) ∧ ((if spreadE na fa = (0 : Int) then divF (wrapI (maxF fa na + minF fa na)) (spreadG na fa) else (0 : Int)) = ((0 : Int)))) ∧ True)) ∧ ((((IntKind.i64) = (IntKind.i64)) ∧ ((spreadE na fa) = ((9 : Int)))) ∧ True))) ∧ (((decide (maxF fa na = (0 : Int))) = (false)) → (((true = true) → ((((!decide (gcdF (IntKind.wrap IntKind.i64 (maxF fa na - minF fa na)) (IntKind.wrap IntKind.i64 (maxF fa na + minF fa na)) = (0 : Int))) = (true)) → ((((!decide (gcdF (IntKind.wrap IntKind.i64 (maxF fa na - minF fa na)) (IntKind.wrap IntKind.i64 (maxF fa na + minF fa na)) = (0 : Int))) = (true)) → (((((IntKind.i64) = (IntKind.i64)) ∧ ((if spreadE na fa = (0 : Int) then divF (wrapI (maxF fa na - minF fa na)) (spreadG na fa) else (0 : Int)) = (IntKind.wrap IntKind.i64 (Int.tdiv (IntKind.wrap IntKind.i64 (maxF fa na - minF fa na)) (gcdF (IntKind.wrap IntKind.i64 (maxF fa na - minF fa na)) (IntKind.wrap IntKind.i64 (maxF fa na + minF fa na))))))) ∧ ((((IntKind.i64) = (IntKind.i64)) ∧ ((if spreadE na fa = (0 : Int) then divF (wrapI (maxF fa na + minF fa na)) (spreadG na fa) else (0 : Int)) = (IntKind.wrap IntKind.i64 (Int.tdiv (IntKind.wrap IntKind.i64 (maxF fa na + minF fa na)) (gcdF (IntKind.wrap IntKind.i64 (maxF fa na - minF fa na)) (IntKind.wrap IntKind.i64 (maxF fa na + minF fa na))))))) ∧ True)) ∧ ((((IntKind.i64) = (IntKind.i64)) ∧ ((spreadE na fa) = ((0 : Int)))) ∧ True))) ∧ (((!decide (gcdF (IntKind.wrap IntKind.i64 (maxF fa na - minF fa na)) (IntKind.wrap IntKind.i64 (maxF fa na + minF fa na)) = (0 : Int))) = (false)) → False))) ∧ (((!decide (gcdF (IntKind.wrap IntKind.i64 (maxF fa na - minF fa na)) (IntKind.wrap IntKind.i64 (maxF fa na + minF fa na)) = (0 : Int))) = (false)) → False))) ∧ ((true = false) → False))))) ∧ (((maxIC [FD.list [Sh.int IntKind.i64] na fa]) = (false)) → False))) ∧ (((minIC [FD.list [Sh.int IntKind.i64] na fa]) = (false)) → False))))) ∧ ((true = false) → False))))) := by kernel_rfl
  refine hvc.mpr ?_
  clear hvc
  have hl := ga.len
  have hl' : maxLen = 9223372036854775807 := rfl
  by_cases h1 : na = 0
  · simp [h1, spreadE]
  · rcases Bool.eq_false_or_eq_true (anyN (fun i => outB 500000000 (fa i 0).i) na 0) with h2 | h2
    · simp [h1, h2, spreadE]
    · have hb := mmF_bd (show 1 ≤ na by omega) (outB_in h2)
      have c1 : minIC [.list [.int .i64] na fa] = true := Nat.ble_eq_true_of_le (by omega)
      have c2 : maxIC [.list [.int .i64] na fa] = true := Nat.ble_eq_true_of_le (by omega)
      by_cases h3 : maxF fa na = 0
      · simp [h1, h2, h3, c1, c2, spreadE]
      · have hg : gcdF (IntKind.i64.wrap (maxF fa na - minF fa na)) (IntKind.i64.wrap (maxF fa na + minF fa na)) ≠ 0 := by
          rw [wrap_id (by omega) (by omega), wrap_id (by omega) (by omega)]
          exact gcdF_ne (by omega) (by omega)
        have hg' : spreadG na fa ≠ 0 := hg
        have he : spreadE na fa = 0 := by simp [spreadE, h1, h2, h3]
        simp [h1, h2, h3, c1, c2, he, hg, divF, spreadG, wrapI]
end
end Go.Ex

