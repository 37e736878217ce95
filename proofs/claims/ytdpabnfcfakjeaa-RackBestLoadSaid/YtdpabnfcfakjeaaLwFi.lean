/-
 Contracts: least and greatest number, the spread.
-/
import Derived.Test.YtdpabnfcfakjeaaLwFh

namespace Go.Ex
open Go Go.Proofs Go.RowKit
noncomputable section

def sm7 : T Smf := (T.set sm6 42 (some (gFd pB (.tup [.one (.int .i64), .one (.int .i64)]) uG pC)))
theorem AZ : Tab fK sm7 := (Tab.set FO (by kernel_rfl) (aW FO bT vO rfl))
def bM (f : Nat → Nat → FD) : Nat → Int
 | 0 => (f 0 0).i
 | n + 1 => if bM f n < (f n 0).i then (f n 0).i else bM f n
def dZ (f : Nat → Nat → FD) : Nat → Int
 | 0 => (f 0 0).i
 | n + 1 => if (f n 0).i < dZ f n then (f n 0).i else dZ f n
def RV : List PT := [.one (.list [.int .i64])]
def pS : List FD → Bool
 | [.list _ na _] => Nat.ble 1 na
 | _ => false
def RW : List FD → List FD
 | [.list _ na fa] => [.int .i64 (bM fa na)]
 | _ => []
def UB (na : Nat) (fa : Nat → Nat → FD) : Nat → b9 := fun i => match i with | 5 => ⟨Nat, fun _ => [{ι := Nat, G := fun x => 1 ≤ x ∧ x ≤ na, μ := fun x => na - x, tl := fun x => [(0, .one (.fz (.root 0 0) (FD.list [Sh.int IntKind.i64] na fa))), (3, .one (.int IntKind.i64 (.tm (bM fa x)))), (4, .one (.int IntKind.i64 (.tm (Int.ofNat x)))), (5, .one (.fz (.root 0 0) (FD.list [Sh.int IntKind.i64] na fa))), (6, .one (.int IntKind.i64 (.tm (Int.ofNat na)))), (9, .one (.fz (.root 0 0) (FD.list [Sh.int IntKind.i64] na fa)))], bl := fun _ => [], nx := (1 : Nat)}]⟩ | _ => ⟨Nat, fun _ => []⟩
theorem TP : dA (mkR sm7 gs2) Try.prog η0 90 (FI.of Try.f90 true) RV (.one (.int .i64)) pS RW := by
 refine aM AZ bT Try.fok90 (fun fds => match fds with | [.list _ na fa] => UB na fa | _ => aZ fun _ => []) ?_
 intro fds hf hc
 obtain ⟨na, fa, ds0, rfl, ga, hf1⟩ := hf.list
 obtain rfl := hf1.nil
 have hc : (Nat.ble 1 na) = true := hc
 have hvc : (vcF sm7 gs2 (FI.of Try.f90 true) RV (.one (.int .i64)) (UB na fa) noR [.list [.int .i64] na fa] (RW [.list [.int .i64] na fa])) =
  ((true = true) ∧ ((((decide (Int.ofNat na < (1 : Int))) = (true)) → False) ∧ (((decide (Int.ofNat na < (1 : Int))) = (false)) → ((((decide ((0 : Int) ≤ (0 : Int)) && decide ((0 : Int) < (↑na : Int))) = (true)) → (∃ y0 : Nat, ((∃ y1 : Nat, ((((1 : Nat) ≤ y1 ∧ y1 ≤ na) ∧ True) ∧ (((true = true) ∧ ((((Ref.root (0) (0)) = (Ref.root (0) (0))) ∧ (((FD.list [Sh.int IntKind.i64] na fa) = (FD.list [Sh.int IntKind.i64] na fa)) ∧ (true = true))) ∧ ((((IntKind.i64) = (IntKind.i64)) ∧ ((bM fa y1) = (FD.i (fa (Int.toNat (0 : Int)) (0 : Nat))))) ∧ ((((IntKind.i64) = (IntKind.i64)) ∧ ((Int.ofNat y1) = ((1 : Int)))) ∧ ((((Ref.root (0) (0)) = (Ref.root (0) (0))) ∧ (((FD.list [Sh.int IntKind.i64] na fa) = (FD.list [Sh.int IntKind.i64] na fa)) ∧ (true = true))) ∧ ((((IntKind.i64) = (IntKind.i64)) ∧ ((Int.ofNat na) = (Int.ofNat na))) ∧ ((((Ref.root (0) (0)) = (Ref.root (0) (0))) ∧ (((FD.list [Sh.int IntKind.i64] na fa) = (FD.list [Sh.int IntKind.i64] na fa)) ∧ (true = true))) ∧ True))))))) ∧ True))) ∧ (∀ y1 : Nat, (((1 : Nat) ≤ y1 ∧ y1 ≤ na) → ((((decide (Int.ofNat y1 < Int.ofNat na)) = (true)) → ((((decide ((0 : Int) ≤ Int.ofNat y1) && decide (Int.ofNat y1 < (↑na : Int))) = (true)) → (∃ y2 : Nat, ((((1 : Nat) ≤ y2 ∧ y2 ≤ na) ∧ na - y2 < na - y1) ∧ (((true = true) ∧ ((((Ref.root (0) (0)) = (Ref.root (0) (0))) ∧ (((FD.list [Sh.int IntKind.i64] na fa) = (FD.list [Sh.int IntKind.i64] na fa)) ∧ (true = true))) ∧ ((((IntKind.i64) = (IntKind.i64)) ∧ ((bM fa y2) = (if bM fa y1 < FD.i (fa (Int.toNat (Int.ofNat y1)) (0 : Nat)) then FD.i (fa (Int.toNat (Int.ofNat y1)) (0 : Nat)) else bM fa y1))) ∧ ((((IntKind.i64) = (IntKind.i64)) ∧ ((Int.ofNat y2) = (IntKind.wrap IntKind.i64 (Int.ofNat y1 + (1 : Int))))) ∧ ((((Ref.root (0) (0)) = (Ref.root (0) (0))) ∧ (((FD.list [Sh.int IntKind.i64] na fa) = (FD.list [Sh.int IntKind.i64] na fa)) ∧ (true = true))) ∧ ((((IntKind.i64) = (IntKind.i64)) ∧ ((Int.ofNat na) = (Int.ofNat na))) ∧ ((((Ref.root (0) (0)) = (Ref.root (0) (0))) ∧ (((FD.list [Sh.int IntKind.i64] na fa) = (FD.list [Sh.int IntKind.i64] na fa)) ∧ (true = true))) ∧ True))))))) ∧ True)))) ∧ (((decide ((0 : Int) ≤ Int.ofNat y1) && decide (Int.ofNat y1 < (↑na : Int))) = (false)) → False))) ∧ (((decide (Int.ofNat y1 < Int.ofNat na)) = (false)) → (((IntKind.i64) = (IntKind.i64)) ∧ ((bM fa na) = (bM fa y1)))))))))) ∧ (((decide ((0 : Int) ≤ (0 : Int)) && decide ((0 : Int) < (↑na : Int))) = (false)) → False))))) := by kernel_rfl
 refine hvc.mpr ?_
 clear hvc
 have hc := Nat.le_of_ble_eq_true hc
 have hl := ga.len
 have hl' : maxLen = 9223372036854775807 := rfl
 simp
 refine ⟨by omega, fun _ => ⟨fun _ => ⟨⟨1, ⟨by omega, by omega⟩, by simp [bM], rfl⟩, fun x h1 h2 => ⟨fun h => ⟨fun _ => ⟨x + 1, ⟨⟨by omega, by omega⟩, by omega⟩, rfl, ?_⟩, h⟩, fun h => by rw [show x = na by omega]⟩⟩, by omega⟩⟩
 rw [aQ (by omega) (by omega)]
 rfl
def RX : List PT := [.one (.list [.int .i64])]
def I6 : List FD → Bool
 | [.list _ na _] => Nat.ble 1 na
 | _ => false
def RY : List FD → List FD
 | [.list _ na fa] => [.int .i64 (dZ fa na)]
 | _ => []
def UC (na : Nat) (fa : Nat → Nat → FD) : Nat → b9 := fun i => match i with | 5 => ⟨Nat, fun _ => [{ι := Nat, G := fun x => 1 ≤ x ∧ x ≤ na, μ := fun x => na - x, tl := fun x => [(0, .one (.fz (.root 0 0) (FD.list [Sh.int IntKind.i64] na fa))), (3, .one (.int IntKind.i64 (.tm (dZ fa x)))), (4, .one (.int IntKind.i64 (.tm (Int.ofNat x)))), (5, .one (.fz (.root 0 0) (FD.list [Sh.int IntKind.i64] na fa))), (6, .one (.int IntKind.i64 (.tm (Int.ofNat na)))), (9, .one (.fz (.root 0 0) (FD.list [Sh.int IntKind.i64] na fa)))], bl := fun _ => [], nx := (1 : Nat)}]⟩ | _ => ⟨Nat, fun _ => []⟩
theorem TQ : dA (mkR sm7 gs2) Try.prog η0 89 (FI.of Try.f89 true) RX (.one (.int .i64)) I6 RY := by
 refine aM AZ bT Try.fok89 (fun fds => match fds with | [.list _ na fa] => UC na fa | _ => aZ fun _ => []) ?_
 intro fds hf hc
 obtain ⟨na, fa, ds0, rfl, ga, hf1⟩ := hf.list
 obtain rfl := hf1.nil
 have hc : (Nat.ble 1 na) = true := hc
 have hvc : (vcF sm7 gs2 (FI.of Try.f89 true) RX (.one (.int .i64)) (UC na fa) noR [.list [.int .i64] na fa] (RY [.list [.int .i64] na fa])) =
  ((true = true) ∧ ((((decide (Int.ofNat na < (1 : Int))) = (true)) → False) ∧ (((decide (Int.ofNat na < (1 : Int))) = (false)) → ((((decide ((0 : Int) ≤ (0 : Int)) && decide ((0 : Int) < (↑na : Int))) = (true)) → (∃ y0 : Nat, ((∃ y1 : Nat, ((((1 : Nat) ≤ y1 ∧ y1 ≤ na) ∧ True) ∧ (((true = true) ∧ ((((Ref.root (0) (0)) = (Ref.root (0) (0))) ∧ (((FD.list [Sh.int IntKind.i64] na fa) = (FD.list [Sh.int IntKind.i64] na fa)) ∧ (true = true))) ∧ ((((IntKind.i64) = (IntKind.i64)) ∧ ((dZ fa y1) = (FD.i (fa (Int.toNat (0 : Int)) (0 : Nat))))) ∧ ((((IntKind.i64) = (IntKind.i64)) ∧ ((Int.ofNat y1) = ((1 : Int)))) ∧ ((((Ref.root (0) (0)) = (Ref.root (0) (0))) ∧ (((FD.list [Sh.int IntKind.i64] na fa) = (FD.list [Sh.int IntKind.i64] na fa)) ∧ (true = true))) ∧ ((((IntKind.i64) = (IntKind.i64)) ∧ ((Int.ofNat na) = (Int.ofNat na))) ∧ ((((Ref.root (0) (0)) = (Ref.root (0) (0))) ∧ (((FD.list [Sh.int IntKind.i64] na fa) = (FD.list [Sh.int IntKind.i64] na fa)) ∧ (true = true))) ∧ True))))))) ∧ True))) ∧ (∀ y1 : Nat, (((1 : Nat) ≤ y1 ∧ y1 ≤ na) → ((((decide (Int.ofNat y1 < Int.ofNat na)) = (true)) → ((((decide ((0 : Int) ≤ Int.ofNat y1) && decide (Int.ofNat y1 < (↑na : Int))) = (true)) → (∃ y2 : Nat, ((((1 : Nat) ≤ y2 ∧ y2 ≤ na) ∧ na - y2 < na - y1) ∧ (((true = true) ∧ ((((Ref.root (0) (0)) = (Ref.root (0) (0))) ∧ (((FD.list [Sh.int IntKind.i64] na fa) = (FD.list [Sh.int IntKind.i64] na fa)) ∧ (true = true))) ∧ ((((IntKind.i64) = (IntKind.i64)) ∧ ((dZ fa y2) = (if FD.i (fa (Int.toNat (Int.ofNat y1)) (0 : Nat)) < dZ fa y1 then FD.i (fa (Int.toNat (Int.ofNat y1)) (0 : Nat)) else dZ fa y1))) ∧ ((((IntKind.i64) = (IntKind.i64)) ∧ ((Int.ofNat y2) = (IntKind.wrap IntKind.i64 (Int.ofNat y1 + (1 : Int))))) ∧ ((((Ref.root (0) (0)) = (Ref.root (0) (0))) ∧ (((FD.list [Sh.int IntKind.i64] na fa) = (FD.list [Sh.int IntKind.i64] na fa)) ∧ (true = true))) ∧ ((((IntKind.i64) = (IntKind.i64)) ∧ ((Int.ofNat na) = (Int.ofNat na))) ∧ ((((Ref.root (0) (0)) = (Ref.root (0) (0))) ∧ (((FD.list [Sh.int IntKind.i64] na fa) = (FD.list [Sh.int IntKind.i64] na fa)) ∧ (true = true))) ∧ True))))))) ∧ True)))) ∧ (((decide ((0 : Int) ≤ Int.ofNat y1) && decide (Int.ofNat y1 < (↑na : Int))) = (false)) → False))) ∧ (((decide (Int.ofNat y1 < Int.ofNat na)) = (false)) → (((IntKind.i64) = (IntKind.i64)) ∧ ((dZ fa na) = (dZ fa y1)))))))))) ∧ (((decide ((0 : Int) ≤ (0 : Int)) && decide ((0 : Int) < (↑na : Int))) = (false)) → False))))) := by kernel_rfl
 refine hvc.mpr ?_
 clear hvc
 have hc := Nat.le_of_ble_eq_true hc
 have hl := ga.len
 have hl' : maxLen = 9223372036854775807 := rfl
 simp
 refine ⟨by omega, fun _ => ⟨fun _ => ⟨⟨1, ⟨by omega, by omega⟩, by simp [dZ], rfl⟩, fun x h1 h2 => ⟨fun h => ⟨fun _ => ⟨x + 1, ⟨⟨by omega, by omega⟩, by omega⟩, rfl, ?_⟩, h⟩, fun h => by rw [show x = na by omega]⟩⟩, by omega⟩⟩
 rw [aQ (by omega) (by omega)]
 rfl
theorem LZ {f : Nat → Nat → FD} {M : Int} : ∀ {n : Nat}, 1 ≤ n → (∀ i, i < n → 0 ≤ (f i 0).i ∧ (f i 0).i ≤ M) → 0 ≤ dZ f n ∧ dZ f n ≤ bM f n ∧ bM f n ≤ M
 | n + 1, _, h => by
  have h0 := h n (by omega)
  rcases Nat.eq_zero_or_pos n with rfl | hn
  ·simp only [dZ, bM, ite_self]
   omega
  ·have ih := LZ (f := f) (n := n) hn fun i hi => h i (by omega)
   simp only [dZ, bM]
   split <;> split <;> omega
theorem NN {hi : Int} {n : Nat} {f : Nat → Nat → FD} (h : eO (fun i => aX hi (f i 0).i) n 0 = false) : ∀ i, i < n → 0 ≤ (f i 0).i ∧ (f i 0).i ≤ hi := fun i hi' => by
 have := mO h i (by omega) (by omega)
 simp only [aX, Bool.not_eq_false', Bool.and_eq_true, decide_eq_true_eq] at this
 exact this
theorem TR {a b : Int} (ha : 0 ≤ a) (hb : 0 < b) : aO a b ≠ 0 := by
 obtain ⟨A, rfl⟩ := Int.eq_ofNat_of_zero_le ha
 obtain ⟨B, rfl⟩ := Int.eq_ofNat_of_zero_le (show 0 ≤ b by omega)
 rw [lV]
 have := Nat.gcd_pos_of_pos_right A (show 0 < B by omega)
 omega
def sm8 : T Smf := (T.set (T.set sm7 90 (some (gFd RV (.one (.int .i64)) pS RW))) 89 (some (gFd RX (.one (.int .i64)) I6 RY)))
theorem L0 : Tab fK sm8 := (Tab.set (Tab.set AZ (by kernel_rfl) (aW AZ bT TP rfl)) (by kernel_rfl) (aW AZ bT TQ rfl))
def nC (a b : Int) : Int := IntKind.i64.wrap (a.tdiv b)
def cW (n : Nat) (f : Nat → Nat → FD) : Int := if n = 0 then 7 else if eO (fun i => aX 500000000 (f i 0).i) n 0 = true then 2 else if bM f n = 0 then 9 else 0
def fT (n : Nat) (f : Nat → Nat → FD) : Int := aO (aV (bM f n - dZ f n)) (aV (bM f n + dZ f n))
def FR : List PT := [.one (.list [.int .i64])]
def NO : List FD → Bool
 | [.list _ _ _] => true
 | _ => false
def FS : List FD → List FD
 | [.list _ na fa] => [.int .i64 (if cW na fa = 0 then nC (aV (bM fa na - dZ fa na)) (fT na fa) else 0), .int .i64 (if cW na fa = 0 then nC (aV (bM fa na + dZ fa na)) (fT na fa) else 0), .int .i64 (cW na fa)]
 | _ => []
def NP (_na : Nat) (_fa : Nat → Nat → FD) : Nat → b9 := aZ (fun _ => [])
theorem O6 : dA (mkR sm8 gs2) Try.prog η0 19 (FI.of Try.f19 true) FR (.tup [.agg [.int .i64, .int .i64], .one (.int .i64)]) NO FS := by
 refine aM L0 bT Try.fok19 (fun fds => match fds with | [.list _ na fa] => NP na fa | _ => aZ fun _ => []) ?_
 intro fds hf hc
 obtain ⟨na, fa, ds0, rfl, ga, hf1⟩ := hf.list
 obtain rfl := hf1.nil
 have hc : (true) = true := hc
 have hvc : (vcF sm8 gs2 (FI.of Try.f19 true) FR (.tup [.agg [.int .i64, .int .i64], .one (.int .i64)]) (NP na fa) noR [.list [.int .i64] na fa] (FS [.list [.int .i64] na fa])) =
  ((true = true) ∧ ((((decide (Int.ofNat na = (0 : Int))) = (true)) → (((((IntKind.i64) = (IntKind.i64)) ∧ ((if cW na fa = (0 : Int) then nC (aV (bM fa na - dZ fa na)) (fT na fa) else (0 : Int)) = ((0 : Int)))) ∧ ((((IntKind.i64) = (IntKind.i64)) ∧ ((if cW na fa = (0 : Int) then nC (aV (bM fa na + dZ fa na)) (fT na fa) else (0 : Int)) = ((0 : Int)))) ∧ True)) ∧ ((((IntKind.i64) = (IntKind.i64)) ∧ ((cW na fa) = ((7 : Int)))) ∧ True))) ∧ (((decide (Int.ofNat na = (0 : Int))) = (false)) → (((true = true) → ((((eO (fun (i : Nat) => aX (500000000 : Int) (FD.i (fa i (0 : Nat)))) na (0 : Nat)) = (true)) → (((((IntKind.i64) = (IntKind.i64)) ∧ ((if cW na fa = (0 : Int) then nC (aV (bM fa na - dZ fa na)) (fT na fa) else (0 : Int)) = ((0 : Int)))) ∧ ((((IntKind.i64) = (IntKind.i64)) ∧ ((if cW na fa = (0 : Int) then nC (aV (bM fa na + dZ fa na)) (fT na fa) else (0 : Int)) = ((0 : Int)))) ∧ True)) ∧ ((((IntKind.i64) = (IntKind.i64)) ∧ ((cW na fa) = ((2 : Int)))) ∧ True))) ∧ (((eO (fun (i : Nat) => aX (500000000 : Int) (FD.i (fa i (0 : Nat)))) na (0 : Nat)) = (false)) → ((((I6 [FD.list [Sh.int IntKind.i64] na fa]) = (true)) → ((((pS [FD.list [Sh.int IntKind.i64] na fa]) = (true)) → ((((decide (bM fa na = (0 : Int))) = (true)) → (((((IntKind.i64) = (IntKind.i64)) ∧ ((if cW na fa = (0 : Int) then nC (aV (bM fa na - dZ fa na)) (fT na fa) else (0 : Int)) = ((0 : Int)))) ∧ ((((IntKind.i64) = (IntKind.i64)) ∧ ((if cW na fa = (0 : Int) then nC (aV (bM fa na + dZ fa na)) (fT na fa) else (0 : Int)) = ((0 : Int)))) ∧ True)) ∧ ((((IntKind.i64) = (IntKind.i64)) ∧ ((cW na fa) = ((9 : Int)))) ∧ True))) ∧ (((decide (bM fa na = (0 : Int))) = (false)) → (((true = true) → ((((!decide (aO (IntKind.wrap IntKind.i64 (bM fa na - dZ fa na)) (IntKind.wrap IntKind.i64 (bM fa na + dZ fa na)) = (0 : Int))) = (true)) → ((((!decide (aO (IntKind.wrap IntKind.i64 (bM fa na - dZ fa na)) (IntKind.wrap IntKind.i64 (bM fa na + dZ fa na)) = (0 : Int))) = (true)) → (((((IntKind.i64) = (IntKind.i64)) ∧ ((if cW na fa = (0 : Int) then nC (aV (bM fa na - dZ fa na)) (fT na fa) else (0 : Int)) = (IntKind.wrap IntKind.i64 (Int.tdiv (IntKind.wrap IntKind.i64 (bM fa na - dZ fa na)) (aO (IntKind.wrap IntKind.i64 (bM fa na - dZ fa na)) (IntKind.wrap IntKind.i64 (bM fa na + dZ fa na))))))) ∧ ((((IntKind.i64) = (IntKind.i64)) ∧ ((if cW na fa = (0 : Int) then nC (aV (bM fa na + dZ fa na)) (fT na fa) else (0 : Int)) = (IntKind.wrap IntKind.i64 (Int.tdiv (IntKind.wrap IntKind.i64 (bM fa na + dZ fa na)) (aO (IntKind.wrap IntKind.i64 (bM fa na - dZ fa na)) (IntKind.wrap IntKind.i64 (bM fa na + dZ fa na))))))) ∧ True)) ∧ ((((IntKind.i64) = (IntKind.i64)) ∧ ((cW na fa) = ((0 : Int)))) ∧ True))) ∧ (((!decide (aO (IntKind.wrap IntKind.i64 (bM fa na - dZ fa na)) (IntKind.wrap IntKind.i64 (bM fa na + dZ fa na)) = (0 : Int))) = (false)) → False))) ∧ (((!decide (aO (IntKind.wrap IntKind.i64 (bM fa na - dZ fa na)) (IntKind.wrap IntKind.i64 (bM fa na + dZ fa na)) = (0 : Int))) = (false)) → False))) ∧ ((true = false) → False))))) ∧ (((pS [FD.list [Sh.int IntKind.i64] na fa]) = (false)) → False))) ∧ (((I6 [FD.list [Sh.int IntKind.i64] na fa]) = (false)) → False))))) ∧ ((true = false) → False))))) := by kernel_rfl
 refine hvc.mpr ?_
 clear hvc
 have hl := ga.len
 have hl' : maxLen = 9223372036854775807 := rfl
 by_cases h1 : na = 0
 ·simp [h1, cW]
 ·rcases Bool.eq_false_or_eq_true (eO (fun i => aX 500000000 (fa i 0).i) na 0) with h2 | h2
  ·simp [h1, h2, cW]
  ·have hb := LZ (show 1 ≤ na by omega) (NN h2)
   have c1 : I6 [.list [.int .i64] na fa] = true := Nat.ble_eq_true_of_le (by omega)
   have c2 : pS [.list [.int .i64] na fa] = true := Nat.ble_eq_true_of_le (by omega)
   by_cases h3 : bM fa na = 0
   ·simp [h1, h2, h3, c1, c2, cW]
   ·have hg : aO (IntKind.i64.wrap (bM fa na - dZ fa na)) (IntKind.i64.wrap (bM fa na + dZ fa na)) ≠ 0 := by
     rw [aQ (by omega) (by omega), aQ (by omega) (by omega)]
     exact TR (by omega) (by omega)
    have hg' : fT na fa ≠ 0 := hg
    have he : cW na fa = 0 := by simp [cW, h1, h2, h3]
    simp [h1, h2, h3, c1, c2, he, hg, nC, fT, aV]
end
end Go.Ex

