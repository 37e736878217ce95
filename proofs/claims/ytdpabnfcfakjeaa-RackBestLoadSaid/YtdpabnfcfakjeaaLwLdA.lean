/-
 Contracts: names.
-/
import Derived.Test.YtdpabnfcfakjeaaLwSp

namespace Go.Ex
open Go Go.Proofs Go.RowKit
noncomputable section
set_option maxRecDepth 1000000

theorem w3 {p : Nat → Bool} : ∀ {m i : Nat}, i < m → p i = false → aJ p m = false
 | m + 1, i, h, hp => by
  show (p m && aJ p m) = false
  by_cases e : i = m
  ·subst e; rw [hp]; rfl
  ·rw [w3 (show i < m by omega) hp, Bool.and_false]
theorem w4 {p : Nat → Bool} {m : Nat} (h : aJ p m = true) (hp : p m = true) : aJ p (m + 1) = true := by
 show (p m && aJ p m) = true
 rw [h, hp]; rfl
def Y3 (c : Int) : Bool := (decide (97 ≤ c) && decide (c ≤ 122)) || (decide (65 ≤ c) && decide (c ≤ 90))
def UF (i : Nat) (c : Int) : Bool := Y3 c || (!decide (i = 0) && (decide (c = 45) || (decide (48 ≤ c) && decide (c ≤ 57))))
def cX (l : List UInt8) (i : Nat) : Bool := UF i ((l.getD i 0).toNat : Nat)
def bL (l : List UInt8) : Bool := aJ (cX l) l.length && (decide (0 < l.length) && decide (l.length ≤ 12))
theorem A5 (l : List UInt8) (i : Nat) : cX l i = true ↔ ((97 ≤ (((l[i]?.getD 0).toNat : Nat) : Int) ∧ (((l[i]?.getD 0).toNat : Nat) : Int) ≤ 122) ∨ (65 ≤ (((l[i]?.getD 0).toNat : Nat) : Int) ∧ (((l[i]?.getD 0).toNat : Nat) : Int) ≤ 90)) ∨ (¬ i = 0 ∧ ((((l[i]?.getD 0).toNat : Nat) : Int) = 45 ∨ (48 ≤ (((l[i]?.getD 0).toNat : Nat) : Int) ∧ (((l[i]?.getD 0).toNat : Nat) : Int) ≤ 57))) := by
 simp [cX, UF, Y3]
theorem A6 {l : List UInt8} {i : Nat} (hi : i < l.length) (h : ¬ cX l i = true) : bL l = false := by
 rw [bL, w3 hi (by simpa using h)]
 rfl
theorem JA {l : List UInt8} {i : Nat} (hl : l.length ≤ 1000000000000000000) (hi : i < l.length) (ha : aJ (cX l) i = true) (h : cX l i = true) : ∃ y2, ((y2 ≤ l.length ∧ aJ (cX l) y2 = true) ∧ l.length - y2 < l.length - i) ∧ (y2 : Int) = IntKind.i64.wrap ((i : Int) + 1) :=
 ⟨i + 1, ⟨⟨by omega, w4 ha h⟩, by omega⟩, by rw [aQ (by omega) (by omega)]; rfl⟩
def FT : List PT := [.one (.str)]
def s0 : List FD → Bool
 | [.str s] => Nat.ble s.length 1000
 | _ => false
def FU : List FD → List FD
 | [.str s] => [.bool (bL s)]
 | _ => []
def NS (s : List UInt8) : Nat → b9 := fun i => match i with | 2 => ⟨Nat, fun _ => [{ι := Nat, G := fun x => x ≤ s.length ∧ aJ (cX s) x = true, μ := fun x => s.length - x, tl := fun x => [(0, .one (.ostr s)), (2, .one (.bool (.lit false))), (6, .one (.ostr s)), (7, .one (.int IntKind.i64 (.tm (Int.ofNat (List.length s))))), (8, .one (.int IntKind.i64 (.tm (Int.ofNat x))))], bl := fun _ => [], nx := (1 : Nat)}]⟩ | _ => ⟨Nat, fun _ => []⟩
theorem O9 : dA (mkR smE gs3) Try.prog η0 128 (FI.of Try.f128 true) FT (.one .bool) s0 FU := by
 refine aM BL d8 Try.fok128 (fun fds => match fds with | [.str s] => NS s | _ => aZ fun _ => []) ?_
 intro fds hf hc
 obtain ⟨s, ds0, rfl, hf1⟩ := hf.str
 obtain rfl := hf1.nil
 have hc : (Nat.ble s.length 1000) = true := hc
 have hvc : (vcF smE gs3 (FI.of Try.f128 true) FT (.one .bool) (NS s) noR [.str s] (FU [.str s])) =
  ((true = true) ∧ (∃ y0 : Nat, ((∃ y1 : Nat, (((y1 ≤ List.length s ∧ ((aJ (cX s) y1) = (true))) ∧ True) ∧ (((true = true) ∧ (((s) = (s)) ∧ ((false = false) ∧ (((s) = (s)) ∧ ((((IntKind.i64) = (IntKind.i64)) ∧ ((Int.ofNat (List.length s)) = (Int.ofNat (List.length s)))) ∧ ((((IntKind.i64) = (IntKind.i64)) ∧ ((Int.ofNat y1) = ((0 : Int)))) ∧ True)))))) ∧ True))) ∧ (∀ y1 : Nat, ((y1 ≤ List.length s ∧ ((aJ (cX s) y1) = (true))) → ((((decide (Int.ofNat y1 < Int.ofNat (List.length s))) = (true)) → ((((decide ((0 : Int) ≤ Int.ofNat y1) && decide (Int.ofNat y1 < (↑(List.length s) : Int))) = (true)) → ((((decide (Int.ofNat (UInt8.toNat (List.getD s (Int.toNat (Int.ofNat y1)) (0 : UInt8))) < (97 : Int))) = (true)) → ((((decide (Int.ofNat (UInt8.toNat (List.getD s (Int.toNat (Int.ofNat y1)) (0 : UInt8))) < (65 : Int))) = (true)) → ((((decide (Int.ofNat y1 = (0 : Int))) = (true)) → ((bL s) = (false))) ∧ (((decide (Int.ofNat y1 = (0 : Int))) = (false)) → ((((decide (Int.ofNat (UInt8.toNat (List.getD s (Int.toNat (Int.ofNat y1)) (0 : UInt8))) = (45 : Int))) = (true)) → (∃ y2 : Nat, (((y2 ≤ List.length s ∧ ((aJ (cX s) y2) = (true))) ∧ List.length s - y2 < List.length s - y1) ∧ (((true = true) ∧ (((s) = (s)) ∧ ((false = false) ∧ (((s) = (s)) ∧ ((((IntKind.i64) = (IntKind.i64)) ∧ ((Int.ofNat (List.length s)) = (Int.ofNat (List.length s)))) ∧ ((((IntKind.i64) = (IntKind.i64)) ∧ ((Int.ofNat y2) = (IntKind.wrap IntKind.i64 (Int.ofNat y1 + (1 : Int))))) ∧ True)))))) ∧ True)))) ∧ (((decide (Int.ofNat (UInt8.toNat (List.getD s (Int.toNat (Int.ofNat y1)) (0 : UInt8))) = (45 : Int))) = (false)) → ((((decide (Int.ofNat (UInt8.toNat (List.getD s (Int.toNat (Int.ofNat y1)) (0 : UInt8))) < (48 : Int))) = (true)) → ((bL s) = (false))) ∧ (((decide (Int.ofNat (UInt8.toNat (List.getD s (Int.toNat (Int.ofNat y1)) (0 : UInt8))) < (48 : Int))) = (false)) → ((((decide ((57 : Int) < Int.ofNat (UInt8.toNat (List.getD s (Int.toNat (Int.ofNat y1)) (0 : UInt8))))) = (true)) → ((bL s) = (false))) ∧ (((decide ((57 : Int) < Int.ofNat (UInt8.toNat (List.getD s (Int.toNat (Int.ofNat y1)) (0 : UInt8))))) = (false)) → (∃ y2 : Nat, (((y2 ≤ List.length s ∧ ((aJ (cX s) y2) = (true))) ∧ List.length s - y2 < List.length s - y1) ∧ (((true = true) ∧ (((s) = (s)) ∧ ((false = false) ∧ (((s) = (s)) ∧ ((((IntKind.i64) = (IntKind.i64)) ∧ ((Int.ofNat (List.length s)) = (Int.ofNat (List.length s)))) ∧ ((((IntKind.i64) = (IntKind.i64)) ∧ ((Int.ofNat y2) = (IntKind.wrap IntKind.i64 (Int.ofNat y1 + (1 : Int))))) ∧ True)))))) ∧ True)))))))))))) ∧ (((decide (Int.ofNat (UInt8.toNat (List.getD s (Int.toNat (Int.ofNat y1)) (0 : UInt8))) < (65 : Int))) = (false)) → ((((decide ((90 : Int) < Int.ofNat (UInt8.toNat (List.getD s (Int.toNat (Int.ofNat y1)) (0 : UInt8))))) = (true)) → ((((decide (Int.ofNat y1 = (0 : Int))) = (true)) → ((bL s) = (false))) ∧ (((decide (Int.ofNat y1 = (0 : Int))) = (false)) → ((((decide (Int.ofNat (UInt8.toNat (List.getD s (Int.toNat (Int.ofNat y1)) (0 : UInt8))) = (45 : Int))) = (true)) → (∃ y2 : Nat, (((y2 ≤ List.length s ∧ ((aJ (cX s) y2) = (true))) ∧ List.length s - y2 < List.length s - y1) ∧ (((true = true) ∧ (((s) = (s)) ∧ ((false = false) ∧ (((s) = (s)) ∧ ((((IntKind.i64) = (IntKind.i64)) ∧ ((Int.ofNat (List.length s)) = (Int.ofNat (List.length s)))) ∧ ((((IntKind.i64) = (IntKind.i64)) ∧ ((Int.ofNat y2) = (IntKind.wrap IntKind.i64 (Int.ofNat y1 + (1 : Int))))) ∧ True)))))) ∧ True)))) ∧ (((decide (Int.ofNat (UInt8.toNat (List.getD s (Int.toNat (Int.ofNat y1)) (0 : UInt8))) = (45 : Int))) = (false)) → ((((decide (Int.ofNat (UInt8.toNat (List.getD s (Int.toNat (Int.ofNat y1)) (0 : UInt8))) < (48 : Int))) = (true)) → ((bL s) = (false))) ∧ (((decide (Int.ofNat (UInt8.toNat (List.getD s (Int.toNat (Int.ofNat y1)) (0 : UInt8))) < (48 : Int))) = (false)) → ((((decide ((57 : Int) < Int.ofNat (UInt8.toNat (List.getD s (Int.toNat (Int.ofNat y1)) (0 : UInt8))))) = (true)) → ((bL s) = (false))) ∧ (((decide ((57 : Int) < Int.ofNat (UInt8.toNat (List.getD s (Int.toNat (Int.ofNat y1)) (0 : UInt8))))) = (false)) → (∃ y2 : Nat, (((y2 ≤ List.length s ∧ ((aJ (cX s) y2) = (true))) ∧ List.length s - y2 < List.length s - y1) ∧ (((true = true) ∧ (((s) = (s)) ∧ ((false = false) ∧ (((s) = (s)) ∧ ((((IntKind.i64) = (IntKind.i64)) ∧ ((Int.ofNat (List.length s)) = (Int.ofNat (List.length s)))) ∧ ((((IntKind.i64) = (IntKind.i64)) ∧ ((Int.ofNat y2) = (IntKind.wrap IntKind.i64 (Int.ofNat y1 + (1 : Int))))) ∧ True)))))) ∧ True)))))))))))) ∧ (((decide ((90 : Int) < Int.ofNat (UInt8.toNat (List.getD s (Int.toNat (Int.ofNat y1)) (0 : UInt8))))) = (false)) → (∃ y2 : Nat, (((y2 ≤ List.length s ∧ ((aJ (cX s) y2) = (true))) ∧ List.length s - y2 < List.length s - y1) ∧ (((true = true) ∧ (((s) = (s)) ∧ ((false = false) ∧ (((s) = (s)) ∧ ((((IntKind.i64) = (IntKind.i64)) ∧ ((Int.ofNat (List.length s)) = (Int.ofNat (List.length s)))) ∧ ((((IntKind.i64) = (IntKind.i64)) ∧ ((Int.ofNat y2) = (IntKind.wrap IntKind.i64 (Int.ofNat y1 + (1 : Int))))) ∧ True)))))) ∧ True)))))))) ∧ (((decide (Int.ofNat (UInt8.toNat (List.getD s (Int.toNat (Int.ofNat y1)) (0 : UInt8))) < (97 : Int))) = (false)) → ((((decide ((122 : Int) < Int.ofNat (UInt8.toNat (List.getD s (Int.toNat (Int.ofNat y1)) (0 : UInt8))))) = (true)) → ((((decide (Int.ofNat (UInt8.toNat (List.getD s (Int.toNat (Int.ofNat y1)) (0 : UInt8))) < (65 : Int))) = (true)) → ((((decide (Int.ofNat y1 = (0 : Int))) = (true)) → ((bL s) = (false))) ∧ (((decide (Int.ofNat y1 = (0 : Int))) = (false)) → ((((decide (Int.ofNat (UInt8.toNat (List.getD s (Int.toNat (Int.ofNat y1)) (0 : UInt8))) = (45 : Int))) = (true)) → (∃ y2 : Nat, (((y2 ≤ List.length s ∧ ((aJ (cX s) y2) = (true))) ∧ List.length s - y2 < List.length s - y1) ∧ (((true = true) ∧ (((s) = (s)) ∧ ((false = false) ∧ (((s) = (s)) ∧ ((((IntKind.i64) = (IntKind.i64)) ∧ ((Int.ofNat (List.length s)) = (Int.ofNat (List.length s)))) ∧ ((((IntKind.i64) = (IntKind.i64)) ∧ ((Int.ofNat y2) = (IntKind.wrap IntKind.i64 (Int.ofNat y1 + (1 : Int))))) ∧ True)))))) ∧ True)))) ∧ (((decide (Int.ofNat (UInt8.toNat (List.getD s (Int.toNat (Int.ofNat y1)) (0 : UInt8))) = (45 : Int))) = (false)) → ((((decide (Int.ofNat (UInt8.toNat (List.getD s (Int.toNat (Int.ofNat y1)) (0 : UInt8))) < (48 : Int))) = (true)) → ((bL s) = (false))) ∧ (((decide (Int.ofNat (UInt8.toNat (List.getD s (Int.toNat (Int.ofNat y1)) (0 : UInt8))) < (48 : Int))) = (false)) → ((((decide ((57 : Int) < Int.ofNat (UInt8.toNat (List.getD s (Int.toNat (Int.ofNat y1)) (0 : UInt8))))) = (true)) → ((bL s) = (false))) ∧ (((decide ((57 : Int) < Int.ofNat (UInt8.toNat (List.getD s (Int.toNat (Int.ofNat y1)) (0 : UInt8))))) = (false)) → (∃ y2 : Nat, (((y2 ≤ List.length s ∧ ((aJ (cX s) y2) = (true))) ∧ List.length s - y2 < List.length s - y1) ∧ (((true = true) ∧ (((s) = (s)) ∧ ((false = false) ∧ (((s) = (s)) ∧ ((((IntKind.i64) = (IntKind.i64)) ∧ ((Int.ofNat (List.length s)) = (Int.ofNat (List.length s)))) ∧ ((((IntKind.i64) = (IntKind.i64)) ∧ ((Int.ofNat y2) = (IntKind.wrap IntKind.i64 (Int.ofNat y1 + (1 : Int))))) ∧ True)))))) ∧ True)))))))))))) ∧ (((decide (Int.ofNat (UInt8.toNat (List.getD s (Int.toNat (Int.ofNat y1)) (0 : UInt8))) < (65 : Int))) = (false)) → ((((decide ((90 : Int) < Int.ofNat (UInt8.toNat (List.getD s (Int.toNat (Int.ofNat y1)) (0 : UInt8))))) = (true)) → ((((decide (Int.ofNat y1 = (0 : Int))) = (true)) → ((bL s) = (false))) ∧ (((decide (Int.ofNat y1 = (0 : Int))) = (false)) → ((((decide (Int.ofNat (UInt8.toNat (List.getD s (Int.toNat (Int.ofNat y1)) (0 : UInt8))) = (45 : Int))) = (true)) → (∃ y2 : Nat, (((y2 ≤ List.length s ∧ ((aJ (cX s) y2) = (true))) ∧ List.length s - y2 < List.length s - y1) ∧ (((true = true) ∧ (((s) = (s)) ∧ ((false = false) ∧ (((s) = (s)) ∧ ((((IntKind.i64) = (IntKind.i64)) ∧ ((Int.ofNat (List.length s)) = (Int.ofNat (List.length s)))) ∧ ((((IntKind.i64) = (IntKind.i64)) ∧ ((Int.ofNat y2) = (IntKind.wrap IntKind.i64 (Int.ofNat y1 + (1 : Int))))) ∧ True)))))) ∧ True)))) ∧ (((decide (Int.ofNat (UInt8.toNat (List.getD s (Int.toNat (Int.ofNat y1)) (0 : UInt8))) = (45 : Int))) = (false)) → ((((decide (Int.ofNat (UInt8.toNat (List.getD s (Int.toNat (Int.ofNat y1)) (0 : UInt8))) < (48 : Int))) = (true)) → ((bL s) = (false))) ∧ (((decide (Int.ofNat (UInt8.toNat (List.getD s (Int.toNat (Int.ofNat y1)) (0 : UInt8))) < (48 : Int))) = (false)) → ((((decide ((57 : Int) < Int.ofNat (UInt8.toNat (List.getD s (Int.toNat (Int.ofNat y1)) (0 : UInt8))))) = (true)) → ((bL s) = (false))) ∧ (((decide ((57 : Int) < Int.ofNat (UInt8.toNat (List.getD s (Int.toNat (Int.ofNat y1)) (0 : UInt8))))) = (false)) → (∃ y2 : Nat, (((y2 ≤ List.length s ∧ ((aJ (cX s) y2) = (true))) ∧ List.length s - y2 < List.length s - y1) ∧ (((true = true) ∧ (((s) = (s)) ∧ ((false = false) ∧ (((s) = (s)) ∧ ((((IntKind.i64) = (IntKind.i64)) ∧ ((Int.ofNat (List.length s)) = (Int.ofNat (List.length s)))) ∧ ((((IntKind.i64) = (IntKind.i64)) ∧ ((Int.ofNat y2) = (IntKind.wrap IntKind.i64 (Int.ofNat y1 + (1 : Int))))) ∧ True)))))) ∧ True)))))))))))) ∧ (((decide ((90 : Int) < Int.ofNat (UInt8.toNat (List.getD s (Int.toNat (Int.ofNat y1)) (0 : UInt8))))) = (false)) → (∃ y2 : Nat, (((y2 ≤ List.length s ∧ ((aJ (cX s) y2) = (true))) ∧ List.length s - y2 < List.length s - y1) ∧ (((true = true) ∧ (((s) = (s)) ∧ ((false = false) ∧ (((s) = (s)) ∧ ((((IntKind.i64) = (IntKind.i64)) ∧ ((Int.ofNat (List.length s)) = (Int.ofNat (List.length s)))) ∧ ((((IntKind.i64) = (IntKind.i64)) ∧ ((Int.ofNat y2) = (IntKind.wrap IntKind.i64 (Int.ofNat y1 + (1 : Int))))) ∧ True)))))) ∧ True)))))))) ∧ (((decide ((122 : Int) < Int.ofNat (UInt8.toNat (List.getD s (Int.toNat (Int.ofNat y1)) (0 : UInt8))))) = (false)) → (∃ y2 : Nat, (((y2 ≤ List.length s ∧ ((aJ (cX s) y2) = (true))) ∧ List.length s - y2 < List.length s - y1) ∧ (((true = true) ∧ (((s) = (s)) ∧ ((false = false) ∧ (((s) = (s)) ∧ ((((IntKind.i64) = (IntKind.i64)) ∧ ((Int.ofNat (List.length s)) = (Int.ofNat (List.length s)))) ∧ ((((IntKind.i64) = (IntKind.i64)) ∧ ((Int.ofNat y2) = (IntKind.wrap IntKind.i64 (Int.ofNat y1 + (1 : Int))))) ∧ True)))))) ∧ True)))))))) ∧ (((decide ((0 : Int) ≤ Int.ofNat y1) && decide (Int.ofNat y1 < (↑(List.length s) : Int))) = (false)) → False))) ∧ (((decide (Int.ofNat y1 < Int.ofNat (List.length s))) = (false)) → ((((!b8 s (Array.toList (ByteArray.data { data := #[] }))) = (true)) → ((bL s) = (!decide ((12 : Int) < Int.ofNat (List.length s))))) ∧ (((!b8 s (Array.toList (ByteArray.data { data := #[] }))) = (false)) → ((bL s) = (false))))))))))) := by kernel_rfl
 refine hvc.mpr ?_
 clear hvc
 have hl := Nat.le_of_ble_eq_true hc
 simp
 refine ⟨rfl, fun y hy ha => ⟨fun hlt => ⟨?_, hlt⟩, fun hge => ?_⟩⟩
 ·have h1 := fun h => A6 hlt h
  have h2 := fun h => JA (by omega) hlt ha h
  rw [A5] at h1 h2
  generalize (((s[y]?.getD 0).toNat : Nat) : Int) = c at h1 h2 ⊢
  generalize (∃ y2 : Nat, _) = B at h2 ⊢
  generalize bL s = d at h1 ⊢
  intro _
  repeat' first | (refine And.intro ?_ ?_) | intro _
  all_goals first | exact h1 (by omega) | exact h2 (by omega)
 ·obtain rfl : y = s.length := by omega
  rw [bL, ha, Bool.true_and]
  cases s with
  | nil => simp [b8]
  | cons a l =>
   simp [b8]
   by_cases e : l.length ≤ 11
   ·rw [decide_eq_true e, decide_eq_false (by omega)]; rfl
   ·rw [decide_eq_false e, decide_eq_true (by omega)]; rfl
def FV : List PT := [.one (.str)]
def s8 : List FD → Bool
 | [.str s] => Nat.ble s.length s.length
 | _ => false
def FX : List FD → List FD
 | [.str s] => [.bool (bL s)]
 | _ => []
def NT (s : List UInt8) : Nat → b9 := fun i => match i with | 4 => ⟨Nat, fun _ => [{ι := Nat, G := fun x => x ≤ s.length ∧ aJ (cX s) x = true, μ := fun x => s.length - x, tl := fun x => [(0, .one (.ostr s)), (2, .one (.bool (.lit false))), (3, .one (.int IntKind.i64 (.tm (Int.ofNat x)))), (6, .one (.ostr s)), (7, .one (.int IntKind.i64 (.tm (Int.ofNat (List.length s))))), (8, .one (.bool (.at_ false (.tm (decide (Int.ofNat (List.length s) < (1 : Int))))))), (9, .one (.bool (.lit false))), (10, .one (.ostr s)), (11, .one (.int IntKind.i64 (.tm (Int.ofNat (List.length s))))), (12, .one (.bool (.at_ false (.tm (decide ((12 : Int) < Int.ofNat (List.length s))))))), (13, .one (.bool (.lit false)))], bl := fun _ => [], nx := (1 : Nat)}]⟩ | _ => ⟨Nat, fun _ => []⟩
abbrev A7 (s : List UInt8) : Prop := (((s) = (s)) ∧ ((((IntKind.i64) = (IntKind.i64)) ∧ ((Int.ofNat (List.length s)) = (Int.ofNat (List.length s)))) ∧ (((decide (Int.ofNat (List.length s) < (1 : Int))) = (decide (Int.ofNat (List.length s) < (1 : Int)))) ∧ ((false = false) ∧ (((s) = (s)) ∧ ((((IntKind.i64) = (IntKind.i64)) ∧ ((Int.ofNat (List.length s)) = (Int.ofNat (List.length s)))) ∧ (((decide ((12 : Int) < Int.ofNat (List.length s))) = (decide ((12 : Int) < Int.ofNat (List.length s)))) ∧ ((false = false) ∧ True))))))))
abbrev oP (s : List UInt8) (y1 : Nat) : Prop := (∃ y2 : Nat, (((y2 ≤ List.length s ∧ ((aJ (cX s) y2) = (true))) ∧ List.length s - y2 < List.length s - y1) ∧ (((true = true) ∧ (((s) = (s)) ∧ ((false = false) ∧ ((((IntKind.i64) = (IntKind.i64)) ∧ ((Int.ofNat y2) = (IntKind.wrap IntKind.i64 (Int.ofNat y1 + (1 : Int))))) ∧ (A7 s))))) ∧ True)))
abbrev A8 (s : List UInt8) (y1 : Nat) : Prop := ((((decide (Int.ofNat y1 = (0 : Int))) = (true)) → ((bL s) = (false))) ∧ (((decide (Int.ofNat y1 = (0 : Int))) = (false)) → ((((decide (Int.ofNat (UInt8.toNat (List.getD s (Int.toNat (Int.ofNat y1)) (0 : UInt8))) = (45 : Int))) = (true)) → (oP s y1)) ∧ (((decide (Int.ofNat (UInt8.toNat (List.getD s (Int.toNat (Int.ofNat y1)) (0 : UInt8))) = (45 : Int))) = (false)) → ((((decide (Int.ofNat (UInt8.toNat (List.getD s (Int.toNat (Int.ofNat y1)) (0 : UInt8))) < (48 : Int))) = (true)) → ((bL s) = (false))) ∧ (((decide (Int.ofNat (UInt8.toNat (List.getD s (Int.toNat (Int.ofNat y1)) (0 : UInt8))) < (48 : Int))) = (false)) → ((((decide ((57 : Int) < Int.ofNat (UInt8.toNat (List.getD s (Int.toNat (Int.ofNat y1)) (0 : UInt8))))) = (true)) → ((bL s) = (false))) ∧ (((decide ((57 : Int) < Int.ofNat (UInt8.toNat (List.getD s (Int.toNat (Int.ofNat y1)) (0 : UInt8))))) = (false)) → (oP s y1)))))))))
abbrev A9 (s : List UInt8) (y1 : Nat) : Prop := ((((decide (Int.ofNat (UInt8.toNat (List.getD s (Int.toNat (Int.ofNat y1)) (0 : UInt8))) < (65 : Int))) = (true)) → (A8 s y1)) ∧ (((decide (Int.ofNat (UInt8.toNat (List.getD s (Int.toNat (Int.ofNat y1)) (0 : UInt8))) < (65 : Int))) = (false)) → ((((decide ((90 : Int) < Int.ofNat (UInt8.toNat (List.getD s (Int.toNat (Int.ofNat y1)) (0 : UInt8))))) = (true)) → (A8 s y1)) ∧ (((decide ((90 : Int) < Int.ofNat (UInt8.toNat (List.getD s (Int.toNat (Int.ofNat y1)) (0 : UInt8))))) = (false)) → (oP s y1)))))
theorem PA : dA (mkR smE gs3) Try.prog η0 83 (FI.of Try.f83 true) FV (.one .bool) s8 FX := by
 refine aM BL d8 Try.fok83 (fun fds => match fds with | [.str s] => NT s | _ => aZ fun _ => []) ?_
 intro fds hf hc
 obtain ⟨s, ds0, rfl, hf1⟩ := hf.str
 obtain rfl := hf1.nil
 have hc : (Nat.ble s.length s.length) = true := hc
 have hvc : (vcF smE gs3 (FI.of Try.f83 true) FV (.one .bool) (NT s) noR [.str s] (FX [.str s])) =
  ((true = true) ∧ ((((decide (Int.ofNat (List.length s) < (1 : Int))) = (true)) → ((bL s) = (false))) ∧ (((decide (Int.ofNat (List.length s) < (1 : Int))) = (false)) → ((((decide ((12 : Int) < Int.ofNat (List.length s))) = (true)) → ((bL s) = (false))) ∧ (((decide ((12 : Int) < Int.ofNat (List.length s))) = (false)) → (∃ y0 : Nat, ((∃ y1 : Nat, (((y1 ≤ List.length s ∧ ((aJ (cX s) y1) = (true))) ∧ True) ∧ (((true = true) ∧ (((s) = (s)) ∧ ((false = false) ∧ ((((IntKind.i64) = (IntKind.i64)) ∧ ((Int.ofNat y1) = ((0 : Int)))) ∧ (A7 s))))) ∧ True))) ∧ (∀ y1 : Nat, ((y1 ≤ List.length s ∧ ((aJ (cX s) y1) = (true))) → ((((decide (Int.ofNat y1 < Int.ofNat (List.length s))) = (true)) → ((((decide ((0 : Int) ≤ Int.ofNat y1) && decide (Int.ofNat y1 < (↑(List.length s) : Int))) = (true)) → ((((decide (Int.ofNat (UInt8.toNat (List.getD s (Int.toNat (Int.ofNat y1)) (0 : UInt8))) < (97 : Int))) = (true)) → (A9 s y1)) ∧ (((decide (Int.ofNat (UInt8.toNat (List.getD s (Int.toNat (Int.ofNat y1)) (0 : UInt8))) < (97 : Int))) = (false)) → ((((decide ((122 : Int) < Int.ofNat (UInt8.toNat (List.getD s (Int.toNat (Int.ofNat y1)) (0 : UInt8))))) = (true)) → (A9 s y1)) ∧ (((decide ((122 : Int) < Int.ofNat (UInt8.toNat (List.getD s (Int.toNat (Int.ofNat y1)) (0 : UInt8))))) = (false)) → (oP s y1)))))) ∧ (((decide ((0 : Int) ≤ Int.ofNat y1) && decide (Int.ofNat y1 < (↑(List.length s) : Int))) = (false)) → False))) ∧ (((decide (Int.ofNat y1 < Int.ofNat (List.length s))) = (false)) → ((bL s) = (true))))))))))))) := by kernel_rfl
 refine hvc.mpr ?_
 clear hvc
 dsimp only [A7, oP, A8, A9]
 have hl := Nat.le_of_ble_eq_true hc
 simp
 refine ⟨fun h => by simp [bL]; omega, fun h => ⟨fun h' => by simp [bL]; omega, fun h' => ?_⟩⟩
 refine ⟨rfl, fun y hy ha => ⟨fun hlt => ⟨?_, hlt⟩, fun hge => ?_⟩⟩
 ·have h1 := fun h => A6 hlt h
  have h2 := fun h => JA (by omega) hlt ha h
  rw [A5] at h1 h2
  generalize (((s[y]?.getD 0).toNat : Nat) : Int) = c at h1 h2 ⊢
  generalize (∃ y2 : Nat, _) = B at h2 ⊢
  generalize bL s = d at h1 ⊢
  intro _
  repeat' first | (refine And.intro ?_ ?_) | intro _
  all_goals first | exact h1 (by omega) | exact h2 (by omega)
 ·obtain rfl : y = s.length := by omega
  rw [bL, ha]
  simp
  omega
end
end Go.Ex

