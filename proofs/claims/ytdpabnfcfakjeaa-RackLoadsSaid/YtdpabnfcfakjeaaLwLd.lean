/-
  Contracts: names.
-/
/-
  Contracts: lists of numbers; loads, and their copies.
-/
/-
  Contracts: loads, and their copies.
-/
/-
  Contracts: which loads are right.
-/
/-
  Contracts: assignments and covers.
-/
/-
  No assignment has more parts than a cover has members.
-/
/-
  The law RackLoads, as the executor's contract.
-/
import Derived.Test.YtdpabnfcfakjeaaLwSp

namespace Go.Ex
open Go Go.Proofs Go.RowKit
noncomputable section
set_option maxRecDepth 1000000

theorem allN_no {p : Nat → Bool} : ∀ {m i : Nat}, i < m → p i = false → natAll p m = false
  | m + 1, i, h, hp => by
    show (p m && natAll p m) = false
    by_cases e : i = m
    · subst e; rw [hp]; rfl
    · rw [allN_no (show i < m by omega) hp, Bool.and_false]
theorem allN_up {p : Nat → Bool} {m : Nat} (h : natAll p m = true) (hp : p m = true) : natAll p (m + 1) = true := by
  show (p m && natAll p m) = true
  rw [h, hp]; rfl
def letB (c : Int) : Bool := (decide (97 ≤ c) && decide (c ≤ 122)) || (decide (65 ≤ c) && decide (c ≤ 90))
def nameC (i : Nat) (c : Int) : Bool := letB c || (!decide (i = 0) && (decide (c = 45) || (decide (48 ≤ c) && decide (c ≤ 57))))
def nameAt (l : List UInt8) (i : Nat) : Bool := nameC i ((l.getD i 0).toNat : Nat)
def nameB (l : List UInt8) : Bool := natAll (nameAt l) l.length && (decide (0 < l.length) && decide (l.length ≤ 12))
theorem nameAt_iff (l : List UInt8) (i : Nat) : nameAt l i = true ↔ ((97 ≤ (((l[i]?.getD 0).toNat : Nat) : Int) ∧ (((l[i]?.getD 0).toNat : Nat) : Int) ≤ 122) ∨ (65 ≤ (((l[i]?.getD 0).toNat : Nat) : Int) ∧ (((l[i]?.getD 0).toNat : Nat) : Int) ≤ 90)) ∨ (¬ i = 0 ∧ ((((l[i]?.getD 0).toNat : Nat) : Int) = 45 ∨ (48 ≤ (((l[i]?.getD 0).toNat : Nat) : Int) ∧ (((l[i]?.getD 0).toNat : Nat) : Int) ≤ 57))) := by
  simp [nameAt, nameC, letB]
theorem nameB_stop {l : List UInt8} {i : Nat} (hi : i < l.length) (h : ¬ nameAt l i = true) : nameB l = false := by
  rw [nameB, allN_no hi (by simpa using h)]
  rfl
theorem nameB_go {l : List UInt8} {i : Nat} (hl : l.length ≤ 1000000000000000000) (hi : i < l.length) (ha : natAll (nameAt l) i = true) (h : nameAt l i = true) : ∃ y2, ((y2 ≤ l.length ∧ natAll (nameAt l) y2 = true) ∧ l.length - y2 < l.length - i) ∧ (y2 : Int) = IntKind.i64.wrap ((i : Int) + 1) :=
  ⟨i + 1, ⟨⟨by omega, allN_up ha h⟩, by omega⟩, by rw [wrap_id (by omega) (by omega)]; rfl⟩
def isNameS : List PT := [.one (.str)]
def isNameC : List FD → Bool
  | [.str s] => Nat.ble s.length 1000
  | _ => false
def isNameR : List FD → List FD
  | [.str s] => [.bool (nameB s)]
  | _ => []
def isNameI (s : List UInt8) : Nat → AFam := fun i => match i with | 2 => ⟨Nat, fun _ => [{ι := Nat, G := fun x => x ≤ s.length ∧ natAll (nameAt s) x = true, μ := fun x => s.length - x, tl := fun x => [(0, .one (.ostr s)), (2, .one (.bool (.lit false))), (6, .one (.ostr s)), (7, .one (.int IntKind.i64 (.tm (Int.ofNat (List.length s))))), (8, .one (.int IntKind.i64 (.tm (Int.ofNat x))))], bl := fun _ => [], nx := (1 : Nat)}]⟩ | _ => ⟨Nat, fun _ => []⟩
theorem isName_ok : FnOk (mkR smE gs3) Try.prog η0 128 (FI.of Try.f128 true) isNameS (.one .bool) isNameC isNameR := by
  refine fnOk_of0 smE_ok gs3_ok Try.fok128 (fun fds => match fds with | [.str s] => isNameI s | _ => alts fun _ => []) ?_
  intro fds hf hc
  obtain ⟨s, ds0, rfl, hf1⟩ := hf.str
  obtain rfl := hf1.nil
  have hc : (Nat.ble s.length 1000) = true := hc
  have hvc : (vcF smE gs3 (FI.of Try.f128 true) isNameS (.one .bool) (isNameI s) noR [.str s] (isNameR [.str s])) =
    ((true = true) ∧ (∃ y0 : Nat, ((∃ y1 : Nat, (((y1 ≤ List.length s ∧ ((natAll (nameAt s) y1) = (true))) ∧ True) ∧ (((true = true) ∧ (((s) = (s)) ∧ ((false = false) ∧ (((s) = (s)) ∧ ((((IntKind.i64) = (IntKind.i64)) ∧ ((Int.ofNat (List.length s)) = (Int.ofNat (List.length s)))) ∧ ((((IntKind.i64) = (IntKind.i64)) ∧ ((Int.ofNat y1) = ((0 : Int)))) ∧ True)))))) ∧ True))) ∧ (∀ y1 : Nat, ((y1 ≤ List.length s ∧ ((natAll (nameAt s) y1) = (true))) → ((((decide (Int.ofNat y1 < Int.ofNat (List.length s))) = (true)) → ((((decide ((0 : Int) ≤ Int.ofNat y1) && decide (Int.ofNat y1 < (↑(List.length s) : Int))) = (true)) → ((((decide (Int.ofNat (UInt8.toNat (List.getD s (Int.toNat (Int.ofNat y1)) (0 : UInt8))) < (97 : Int))) = (true)) → ((((decide (Int.ofNat (UInt8.toNat (List.getD s (Int.toNat (Int.ofNat y1)) (0 : UInt8))) < (65 : Int))) = (true)) → ((((decide (Int.ofNat y1 = (0 : Int))) = (true)) → ((nameB s) = (false))) ∧ (((decide (Int.ofNat y1 = (0 : Int))) = (false)) → ((((decide (Int.ofNat (UInt8.toNat (List.getD s (Int.toNat (Int.ofNat y1)) (0 : UInt8))) = (45 : Int))) = (true)) → (∃ y2 : Nat, (((y2 ≤ List.length s ∧ ((natAll (nameAt s) y2) = (true))) ∧ List.length s - y2 < List.length s - y1) ∧ (((true = true) ∧ (((s) = (s)) ∧ ((false = false) ∧ (((s) = (s)) ∧ ((((IntKind.i64) = (IntKind.i64)) ∧ ((Int.ofNat (List.length s)) = (Int.ofNat (List.length s)))) ∧ ((((IntKind.i64) = (IntKind.i64)) ∧ ((Int.ofNat y2) = (IntKind.wrap IntKind.i64 (Int.ofNat y1 + (1 : Int))))) ∧ True)))))) ∧ True)))) ∧ (((decide (Int.ofNat (UInt8.toNat (List.getD s (Int.toNat (Int.ofNat y1)) (0 : UInt8))) = (45 : Int))) = (false)) → ((((decide (Int.ofNat (UInt8.toNat (List.getD s (Int.toNat (Int.ofNat y1)) (0 : UInt8))) < (48 : Int))) = (true)) → ((nameB s) = (false))) ∧ (((decide (Int.ofNat (UInt8.toNat (List.getD s (Int.toNat (Int.ofNat y1)) (0 : UInt8))) < (48 : Int))) = (false)) → ((((decide ((57 : Int) < Int.ofNat (UInt8.toNat (List.getD s (Int.toNat (Int.ofNat y1)) (0 : UInt8))))) = (true)) → ((nameB s) = (false))) ∧ (((decide ((57 : Int) < Int.ofNat (UInt8.toNat (List.getD s (Int.toNat (Int.ofNat y1)) (0 : UInt8))))) = (false)) → (∃ y2 : Nat, (((y2 ≤ List.length s ∧ ((natAll (nameAt s) y2) = (true))) ∧ List.length s - y2 < List.length s - y1) ∧ (((true = true) ∧ (((s) = (s)) ∧ ((false = false) ∧ (((s) = (s)) ∧ ((((IntKind.i64) = (IntKind.i64)) ∧ ((Int.ofNat (List.length s)) = (Int.ofNat (List.length s)))) ∧ ((((IntKind.i64) = (IntKind.i64)) ∧ ((Int.ofNat y2) = (IntKind.wrap IntKind.i64 (Int.ofNat y1 + (1 : Int))))) ∧ True)))))) ∧ True)))))))))))) ∧ (((decide (Int.ofNat (UInt8.toNat (List.getD s (Int.toNat (Int.ofNat y1)) (0 : UInt8))) < (65 : Int))) = (false)) → ((((decide ((90 : Int) < Int.ofNat (UInt8.toNat (List.getD s (Int.toNat (Int.ofNat y1)) (0 : UInt8))))) = (true)) → ((((decide (Int.ofNat y1 = (0 : Int))) = (true)) → ((nameB s) = (false))) ∧ (((decide (Int.ofNat y1 = (0 : Int))) = (false)) → ((((decide (Int.ofNat (UInt8.toNat (List.getD s (Int.toNat (Int.ofNat y1)) (0 : UInt8))) = (45 : Int))) = (true)) → (∃ y2 : Nat, (((y2 ≤ List.length s ∧ ((natAll (nameAt s) y2) = (true))) ∧ List.length s - y2 < List.length s - y1) ∧ (((true = true) ∧ (((s) = (s)) ∧ ((false = false) ∧ (((s) = (s)) ∧ ((((IntKind.i64) = (IntKind.i64)) ∧ ((Int.ofNat (List.length s)) = (Int.ofNat (List.length s)))) ∧ ((((IntKind.i64) = (IntKind.i64)) ∧ ((Int.ofNat y2) = (IntKind.wrap IntKind.i64 (Int.ofNat y1 + (1 : Int))))) ∧ True)))))) ∧ True)))) ∧ (((decide (Int.ofNat (UInt8.toNat (List.getD s (Int.toNat (Int.ofNat y1)) (0 : UInt8))) = (45 : Int))) = (false)) → ((((decide (Int.ofNat (UInt8.toNat (List.getD s (Int.toNat (Int.ofNat y1)) (0 : UInt8))) < (48 : Int))) = (true)) → ((nameB s) = (false))) ∧ (((decide (Int.ofNat (UInt8.toNat (List.getD s (Int.toNat (Int.ofNat y1)) (0 : UInt8))) < (48 : Int))) = (false)) → ((((decide ((57 : Int) < Int.ofNat (UInt8.toNat (List.getD s (Int.toNat (Int.ofNat y1)) (0 : UInt8))))) = (true)) → ((nameB s) = (false))) ∧ (((decide ((57 : Int) < Int.ofNat (UInt8.toNat (List.getD s (Int.toNat (Int.ofNat y1)) (0 : UInt8))))) = (false)) → (∃ y2 : Nat, (((y2 ≤ List.length s ∧ ((natAll (nameAt s) y2) = (true))) ∧ List.length s - y2 < List.length s - y1) ∧ (((true = true) ∧ (((s) = (s)) ∧ ((false = false) ∧ (((s) = (s)) ∧ ((((IntKind.i64) = (IntKind.i64)) ∧ ((Int.ofNat (List.length s)) = (Int.ofNat (List.length s)))) ∧ ((((IntKind.i64) = (IntKind.i64)) ∧ ((Int.ofNat y2) = (IntKind.wrap IntKind.i64 (Int.ofNat y1 + (1 : Int))))) ∧ True)))))) ∧ True)))))))))))) ∧ (((decide ((90 : Int) < Int.ofNat (UInt8.toNat (List.getD s (Int.toNat (Int.ofNat y1)) (0 : UInt8))))) = (false)) → (∃ y2 : Nat, (((y2 ≤ List.length s ∧ ((natAll (nameAt s) y2) = (true))) ∧ List.length s - y2 < List.length s - y1) ∧ (((true = true) ∧ (((s) = (s)) ∧ ((false = false) ∧ (((s) = (s)) ∧ ((((IntKind.i64) = (IntKind.i64)) ∧ ((Int.ofNat (List.length s)) = (Int.ofNat (List.length s)))) ∧ ((((IntKind.i64) = (IntKind.i64)) ∧ ((Int.ofNat y2) = (IntKind.wrap IntKind.i64 (Int.ofNat y1 + (1 : Int))))) ∧ True)))))) ∧ True)))))))) ∧ (((decide (Int.ofNat (UInt8.toNat (List.getD s (Int.toNat (Int.ofNat y1)) (0 : UInt8))) < (97 : Int))) = (false)) → ((((decide ((122 : Int) < Int.ofNat (UInt8.toNat (List.getD s (Int.toNat (Int.ofNat y1)) (0 : UInt8))))) = (true)) → ((((decide (Int.ofNat (UInt8.toNat (List.getD s (Int.toNat (Int.ofNat y1)) (0 : UInt8))) < (65 : Int))) = (true)) → ((((decide (Int.ofNat y1 = (0 : Int))) = (true)) → ((nameB s) = (false))) ∧ (((decide (Int.ofNat y1 = (0 : Int))) = (false)) → ((((decide (Int.ofNat (UInt8.toNat (List.getD s (Int.toNat (Int.ofNat y1)) (0 : UInt8))) = (45 : Int))) = (true)) → (∃ y2 : Nat, (((y2 ≤ List.length s ∧ ((natAll (nameAt s) y2) = (true))) ∧ List.length s - y2 < List.length s - y1) ∧ (((true = true) ∧ (((s) = (s)) ∧ ((false = false) ∧ (((s) = (s)) ∧ ((((IntKind.i64) = (IntKind.i64)) ∧ ((Int.ofNat (List.length s)) = (Int.ofNat (List.length s)))) ∧ ((((IntKind.i64) = (IntKind.i64)) ∧ ((Int.ofNat y2) = (IntKind.wrap IntKind.i64 (Int.ofNat y1 + (1 : Int))))) ∧ True)))))) ∧ True)))) ∧ (((decide (Int.ofNat (UInt8.toNat (List.getD s (Int.toNat (Int.ofNat y1)) (0 : UInt8))) = (45 : Int))) = (false)) → ((((decide (Int.ofNat (UInt8.toNat (List.getD s (Int.toNat (Int.ofNat y1)) (0 : UInt8))) < (48 : Int))) = (true)) → ((nameB s) = (false))) ∧ (((decide (Int.ofNat (UInt8.toNat (List.getD s (Int.toNat (Int.ofNat y1)) (0 : UInt8))) < (48 : Int))) = (false)) → ((((decide ((57 : Int) < Int.ofNat (UInt8.toNat (List.getD s (Int.toNat (Int.ofNat y1)) (0 : UInt8))))) = (true)) → ((nameB s) = (false))) ∧ (((decide ((57 : Int) < Int.ofNat (UInt8.toNat (List.getD s (Int.toNat (Int.ofNat y1)) (0 : UInt8))))) = (false)) → (∃ y2 : Nat, (((y2 ≤ List.length s ∧ ((natAll (nameAt s) y2) = (true))) ∧ List.length s - y2 < List.length s - y1) ∧ (((true = true) ∧ (((s) = (s)) ∧ ((false = false) ∧ (((s) = (s)) ∧ ((((IntKind.i64) = (IntKind.i64)) ∧ ((Int.ofNat (List.length s)) = (Int.ofNat (List.length s)))) ∧ ((((IntKind.i64) = (IntKind.i64)) ∧ ((Int.ofNat y2) = (IntKind.wrap IntKind.i64 (Int.ofNat y1 + (1 : Int))))) ∧ True)))))) ∧ True)))))))))))) ∧ (((decide (Int.ofNat (UInt8.toNat (List.getD s (Int.toNat (Int.ofNat y1)) (0 : UInt8))) < (65 : Int))) = (false)) → ((((decide ((90 : Int) < Int.ofNat (UInt8.toNat (List.getD s (Int.toNat (Int.ofNat y1)) (0 : UInt8))))) = (true)) → ((((decide (Int.ofNat y1 = (0 : Int))) = (true)) → ((nameB s) = (false))) ∧ (((decide (Int.ofNat y1 = (0 : Int))) = (false)) → ((((decide (Int.ofNat (UInt8.toNat (List.getD s (Int.toNat (Int.ofNat y1)) (0 : UInt8))) = (45 : Int))) = (true)) → (∃ y2 : Nat, (((y2 ≤ List.length s ∧ ((natAll (nameAt s) y2) = (true))) ∧ List.length s - y2 < List.length s - y1) ∧ (((true = true) ∧ (((s) = (s)) ∧ ((false = false) ∧ (((s) = (s)) ∧ ((((IntKind.i64) = (IntKind.i64)) ∧ ((Int.ofNat (List.length s)) = (Int.ofNat (List.length s)))) ∧ ((((IntKind.i64) = (IntKind.i64)) ∧ ((Int.ofNat y2) = (IntKind.wrap IntKind.i64 (Int.ofNat y1 + (1 : Int))))) ∧ True)))))) ∧ True)))) ∧ (((decide (Int.ofNat (UInt8.toNat (List.getD s (Int.toNat (Int.ofNat y1)) (0 : UInt8))) = (45 : Int))) = (false)) → ((((decide (Int.ofNat (UInt8.toNat (List.getD s (Int.toNat (Int.ofNat y1)) (0 : UInt8))) < (48 : Int))) = (true)) → ((nameB s) = (false))) ∧ (((decide (Int.ofNat (UInt8.toNat (List.getD s (Int.toNat (Int.ofNat y1)) (0 : UInt8))) < (48 : Int))) = (false)) → ((((decide ((57 : Int) < Int.ofNat (UInt8.toNat (List.getD s (Int.toNat (Int.ofNat y1)) (0 : UInt8))))) = (true)) → ((nameB s) = (false))) ∧ (((decide ((57 : Int) < Int.ofNat (UInt8.toNat (List.getD s (Int.toNat (Int.ofNat y1)) (0 : UInt8))))) = (false)) → (∃ y2 : Nat, (((y2 ≤ List.length s ∧ ((natAll (nameAt s) y2) = (true))) ∧ List.length s - y2 < List.length s - y1) ∧ (((true = true) ∧ (((s) = (s)) ∧ ((false = false) ∧ (((s) = (s)) ∧ ((((IntKind.i64) = (IntKind.i64)) ∧ ((Int.ofNat (List.length s)) = (Int.ofNat (List.length s)))) ∧ ((((IntKind.i64) = (IntKind.i64)) ∧ ((Int.ofNat y2) = (IntKind.wrap IntKind.i64 (Int.ofNat y1 + (1 : Int))))) ∧ True)))))) ∧ True)))))))))))) ∧ (((decide ((90 : Int) < Int.ofNat (UInt8.toNat (List.getD s (Int.toNat (Int.ofNat y1)) (0 : UInt8))))) = (false)) → (∃ y2 : Nat, (((y2 ≤ List.length s ∧ ((natAll (nameAt s) y2) = (true))) ∧ List.length s - y2 < List.length s - y1) ∧ (((true = true) ∧ (((s) = (s)) ∧ ((false = false) ∧ (((s) = (s)) ∧ ((((IntKind.i64) = (IntKind.i64)) ∧ ((Int.ofNat (List.length s)) = (Int.ofNat (List.length s)))) ∧ ((((IntKind.i64) = (IntKind.i64)) ∧ ((Int.ofNat y2) = (IntKind.wrap IntKind.i64 (Int.ofNat y1 + (1 : Int))))) ∧ True)))))) ∧ True)))))))) ∧ (((decide ((122 : Int) < Int.ofNat (UInt8.toNat (List.getD s (Int.toNat (Int.ofNat y1)) (0 : UInt8))))) = (false)) → (∃ y2 : Nat, (((y2 ≤ List.length s ∧ ((natAll (nameAt s) y2) = (true))) ∧ List.length s - y2 < List.length s - y1) ∧ (((true = true) ∧ (((s) = (s)) ∧ ((false = false) ∧ (((s) = (s)) ∧ ((((IntKind.i64) = (IntKind.i64)) ∧ ((Int.ofNat (List.length s)) = (Int.ofNat (List.length s)))) ∧ ((((IntKind.i64) = (IntKind.i64)) ∧ ((Int.ofNat y2) = (IntKind.wrap IntKind.i64 (Int.ofNat y1 + (1 : Int))))) ∧ True)))))) ∧ True)))))))) ∧ (((decide ((0 : Int) ≤ Int.ofNat y1) && decide (Int.ofNat y1 < (↑(List.length s) : Int))) = (false)) → False))) ∧ (((decide (Int.ofNat y1 < Int.ofNat (List.length s))) = (false)) → ((((!bytesEq s (Array.toList (ByteArray.data { data := #[] }))) = (true)) → ((nameB s) = (!decide ((12 : Int) < Int.ofNat (List.length s))))) ∧ (((!bytesEq s (Array.toList (ByteArray.data { data := #[] }))) = (false)) → ((nameB s) = (false))))))))))) := by kernel_rfl
  refine hvc.mpr ?_
  clear hvc
  have hl := Nat.le_of_ble_eq_true hc
  simp
  refine ⟨rfl, fun y hy ha => ⟨fun hlt => ⟨?_, hlt⟩, fun hge => ?_⟩⟩
  · have h1 := fun h => nameB_stop hlt h
    have h2 := fun h => nameB_go (by omega) hlt ha h
    rw [nameAt_iff] at h1 h2
    generalize (((s[y]?.getD 0).toNat : Nat) : Int) = c at h1 h2 ⊢
    generalize (∃ y2 : Nat, _) = B at h2 ⊢
    generalize nameB s = d at h1 ⊢
    intro _
    repeat' first | (refine And.intro ?_ ?_) | intro _
    all_goals first | exact h1 (by omega) | exact h2 (by omega)
  · obtain rfl : y = s.length := by omega
    rw [nameB, ha, Bool.true_and]
    cases s with
    | nil => simp [bytesEq]
    | cons a l =>
      simp [bytesEq]
      by_cases e : l.length ≤ 11
      · rw [decide_eq_true e, decide_eq_false (by omega)]; rfl
      · rw [decide_eq_false e, decide_eq_true (by omega)]; rfl
def IsNameS : List PT := [.one (.str)]
def IsNameC : List FD → Bool
  | [.str s] => Nat.ble s.length 1000
  | _ => false
def IsNameR : List FD → List FD
  | [.str s] => [.bool (nameB s)]
  | _ => []
def IsNameI (s : List UInt8) : Nat → AFam := fun i => match i with | 4 => ⟨Nat, fun _ => [{ι := Nat, G := fun x => x ≤ s.length ∧ natAll (nameAt s) x = true, μ := fun x => s.length - x, tl := fun x => [(0, .one (.ostr s)), (2, .one (.bool (.lit false))), (3, .one (.int IntKind.i64 (.tm (Int.ofNat x)))), (6, .one (.ostr s)), (7, .one (.int IntKind.i64 (.tm (Int.ofNat (List.length s))))), (8, .one (.bool (.at_ false (.tm (decide (Int.ofNat (List.length s) < (1 : Int))))))), (9, .one (.bool (.lit false))), (10, .one (.ostr s)), (11, .one (.int IntKind.i64 (.tm (Int.ofNat (List.length s))))), (12, .one (.bool (.at_ false (.tm (decide ((12 : Int) < Int.ofNat (List.length s))))))), (13, .one (.bool (.lit false)))], bl := fun _ => [], nx := (1 : Nat)}]⟩ | _ => ⟨Nat, fun _ => []⟩
abbrev qIsName3 (s : List UInt8) : Prop := (((s) = (s)) ∧ ((((IntKind.i64) = (IntKind.i64)) ∧ ((Int.ofNat (List.length s)) = (Int.ofNat (List.length s)))) ∧ (((decide (Int.ofNat (List.length s) < (1 : Int))) = (decide (Int.ofNat (List.length s) < (1 : Int)))) ∧ ((false = false) ∧ (((s) = (s)) ∧ ((((IntKind.i64) = (IntKind.i64)) ∧ ((Int.ofNat (List.length s)) = (Int.ofNat (List.length s)))) ∧ (((decide ((12 : Int) < Int.ofNat (List.length s))) = (decide ((12 : Int) < Int.ofNat (List.length s)))) ∧ ((false = false) ∧ True))))))))
abbrev qIsName0 (s : List UInt8) (y1 : Nat) : Prop := (∃ y2 : Nat, (((y2 ≤ List.length s ∧ ((natAll (nameAt s) y2) = (true))) ∧ List.length s - y2 < List.length s - y1) ∧ (((true = true) ∧ (((s) = (s)) ∧ ((false = false) ∧ ((((IntKind.i64) = (IntKind.i64)) ∧ ((Int.ofNat y2) = (IntKind.wrap IntKind.i64 (Int.ofNat y1 + (1 : Int))))) ∧ (qIsName3 s))))) ∧ True)))
abbrev qIsName1 (s : List UInt8) (y1 : Nat) : Prop := ((((decide (Int.ofNat y1 = (0 : Int))) = (true)) → ((nameB s) = (false))) ∧ (((decide (Int.ofNat y1 = (0 : Int))) = (false)) → ((((decide (Int.ofNat (UInt8.toNat (List.getD s (Int.toNat (Int.ofNat y1)) (0 : UInt8))) = (45 : Int))) = (true)) → (qIsName0 s y1)) ∧ (((decide (Int.ofNat (UInt8.toNat (List.getD s (Int.toNat (Int.ofNat y1)) (0 : UInt8))) = (45 : Int))) = (false)) → ((((decide (Int.ofNat (UInt8.toNat (List.getD s (Int.toNat (Int.ofNat y1)) (0 : UInt8))) < (48 : Int))) = (true)) → ((nameB s) = (false))) ∧ (((decide (Int.ofNat (UInt8.toNat (List.getD s (Int.toNat (Int.ofNat y1)) (0 : UInt8))) < (48 : Int))) = (false)) → ((((decide ((57 : Int) < Int.ofNat (UInt8.toNat (List.getD s (Int.toNat (Int.ofNat y1)) (0 : UInt8))))) = (true)) → ((nameB s) = (false))) ∧ (((decide ((57 : Int) < Int.ofNat (UInt8.toNat (List.getD s (Int.toNat (Int.ofNat y1)) (0 : UInt8))))) = (false)) → (qIsName0 s y1)))))))))
abbrev qIsName2 (s : List UInt8) (y1 : Nat) : Prop := ((((decide (Int.ofNat (UInt8.toNat (List.getD s (Int.toNat (Int.ofNat y1)) (0 : UInt8))) < (65 : Int))) = (true)) → (qIsName1 s y1)) ∧ (((decide (Int.ofNat (UInt8.toNat (List.getD s (Int.toNat (Int.ofNat y1)) (0 : UInt8))) < (65 : Int))) = (false)) → ((((decide ((90 : Int) < Int.ofNat (UInt8.toNat (List.getD s (Int.toNat (Int.ofNat y1)) (0 : UInt8))))) = (true)) → (qIsName1 s y1)) ∧ (((decide ((90 : Int) < Int.ofNat (UInt8.toNat (List.getD s (Int.toNat (Int.ofNat y1)) (0 : UInt8))))) = (false)) → (qIsName0 s y1)))))
theorem IsName_ok : FnOk (mkR smE gs3) Try.prog η0 83 (FI.of Try.f83 true) IsNameS (.one .bool) IsNameC IsNameR := by
  refine fnOk_of0 smE_ok gs3_ok Try.fok83 (fun fds => match fds with | [.str s] => IsNameI s | _ => alts fun _ => []) ?_
  intro fds hf hc
  obtain ⟨s, ds0, rfl, hf1⟩ := hf.str
  obtain rfl := hf1.nil
  have hc : (Nat.ble s.length 1000) = true := hc
  have hvc : (vcF smE gs3 (FI.of Try.f83 true) IsNameS (.one .bool) (IsNameI s) noR [.str s] (IsNameR [.str s])) =
    ((true = true) ∧ ((((decide (Int.ofNat (List.length s) < (1 : Int))) = (true)) → ((nameB s) = (false))) ∧ (((decide (Int.ofNat (List.length s) < (1 : Int))) = (false)) → ((((decide ((12 : Int) < Int.ofNat (List.length s))) = (true)) → ((nameB s) = (false))) ∧ (((decide ((12 : Int) < Int.ofNat (List.length s))) = (false)) → (∃ y0 : Nat, ((∃ y1 : Nat, (((y1 ≤ List.length s ∧ ((natAll (nameAt s) y1) = (true))) ∧ True) ∧ (((true = true) ∧ (((s) = (s)) ∧ ((false = false) ∧ ((((IntKind.i64) = (IntKind.i64)) ∧ ((Int.ofNat y1) = ((0 : Int)))) ∧ (qIsName3 s))))) ∧ True))) ∧ (∀ y1 : Nat, ((y1 ≤ List.length s ∧ ((natAll (nameAt s) y1) = (true))) → ((((decide (Int.ofNat y1 < Int.ofNat (List.length s))) = (true)) → ((((decide ((0 : Int) ≤ Int.ofNat y1) && decide (Int.ofNat y1 < (↑(List.length s) : Int))) = (true)) → ((((decide (Int.ofNat (UInt8.toNat (List.getD s (Int.toNat (Int.ofNat y1)) (0 : UInt8))) < (97 : Int))) = (true)) → (qIsName2 s y1)) ∧ (((decide (Int.ofNat (UInt8.toNat (List.getD s (Int.toNat (Int.ofNat y1)) (0 : UInt8))) < (97 : Int))) = (false)) → ((((decide ((122 : Int) < Int.ofNat (UInt8.toNat (List.getD s (Int.toNat (Int.ofNat y1)) (0 : UInt8))))) = (true)) → (qIsName2 s y1)) ∧ (((decide ((122 : Int) < Int.ofNat (UInt8.toNat (List.getD s (Int.toNat (Int.ofNat y1)) (0 : UInt8))))) = (false)) → (qIsName0 s y1)))))) ∧ (((decide ((0 : Int) ≤ Int.ofNat y1) && decide (Int.ofNat y1 < (↑(List.length s) : Int))) = (false)) → False))) ∧ (((decide (Int.ofNat y1 < Int.ofNat (List.length s))) = (false)) → ((nameB s) = (true))))))))))))) := by kernel_rfl
  refine hvc.mpr ?_
  clear hvc
  dsimp only [qIsName3, qIsName0, qIsName1, qIsName2]
  have hl := Nat.le_of_ble_eq_true hc
  simp
  refine ⟨fun h => by simp [nameB]; omega, fun h => ⟨fun h' => by simp [nameB]; omega, fun h' => ?_⟩⟩
  refine ⟨rfl, fun y hy ha => ⟨fun hlt => ⟨?_, hlt⟩, fun hge => ?_⟩⟩
  · have h1 := fun h => nameB_stop hlt h
    have h2 := fun h => nameB_go (by omega) hlt ha h
    rw [nameAt_iff] at h1 h2
    generalize (((s[y]?.getD 0).toNat : Nat) : Int) = c at h1 h2 ⊢
    generalize (∃ y2 : Nat, _) = B at h2 ⊢
    generalize nameB s = d at h1 ⊢
    intro _
    repeat' first | (refine And.intro ?_ ?_) | intro _
    all_goals first | exact h1 (by omega) | exact h2 (by omega)
  · obtain rfl : y = s.length := by omega
    rw [nameB, ha]
    simp
    omega
end
end Go.Ex


namespace Go.Ex
open Go Go.Proofs Go.RowKit
noncomputable section
set_option maxRecDepth 1000000

def smLa : T Smf := (T.set (T.set smE 128 (some (gFd isNameS (.one .bool) isNameC isNameR))) 83 (some (gFd IsNameS (.one .bool) IsNameC IsNameR)))
theorem smLa_ok : Tab SmOk smLa := (Tab.set (Tab.set smE_ok (by kernel_rfl) (smOk_of smE_ok gs3_ok isName_ok rfl)) (by kernel_rfl) (smOk_of smE_ok gs3_ok IsName_ok rfl))
def eqAt (f : Nat → Nat → FD) (v : Int) (i : Nat) : Bool := decide ((f i 0).i = v)
def hasB (n : Nat) (f : Nat → Nat → FD) (v : Int) : Bool := anyN (eqAt f v) n 0
/-- The first error of a row of things, and its number. -/
def firE (e : Nat → Int) : Nat → Int
  | 0 => 0
  | n + 1 => if firE e n = 0 then e n else firE e n
def firI (e : Nat → Int) : Nat → Int
  | 0 => 0
  | n + 1 => if firE e n = 0 then (if e n = 0 then 0 else (n : Int)) else firI e n
theorem firE_hit {e : Nat → Int} {x : Nat} (h : firE e x = 0) (hx : e x ≠ 0) : ∀ {n : Nat}, x < n → firE e n = e x ∧ firI e n = (x : Int)
  | n + 1, hn => by
    by_cases hxn : x = n
    · subst hxn
      simp only [firE, firI, h, if_true, if_neg hx]
      exact ⟨trivial, trivial⟩
    · obtain ⟨h1, h2⟩ := firE_hit h hx (n := n) (by omega)
      simp only [firE, firI, h1, if_neg hx]
      exact ⟨trivial, h2⟩
theorem firE_up {e : Nat → Int} {x : Nat} (h : firE e x = 0) (hx : e x = 0) : firE e (x + 1) = 0 := by simp only [firE, h, if_true, hx]
theorem firI_zero {e : Nat → Int} : ∀ {n : Nat}, firE e n = 0 → firI e n = 0
  | 0, _ => rfl
  | n + 1, h => by
    simp only [firE] at h
    split at h
    · rename_i h'
      simp only [firI, h', if_true, h]
    · omega
theorem firE_low {e : Nat → Int} : ∀ {n : Nat}, firE e n = 0 → ∀ i, i < n → e i = 0
  | n + 1, h, i, hi => by
    simp only [firE] at h
    split at h
    · rename_i h'
      by_cases e : i = n
      · subst e; exact h
      · exact firE_low h' i (by omega)
    · omega
def indexIS : List PT := [.one (.list [.int .i64]), .one (.int .i64)]
def indexIC : List FD → Bool
  | [.list _ _ _, .int _ _] => true
  | _ => false
def indexIR : List FD → List FD
  | [.list _ na fa, .int _ v] => [.int .i64 (idxF (eqAt fa v) na 0)]
  | _ => []
def indexII (na : Nat) (fa : Nat → Nat → FD) (v : Int) : Nat → AFam := fun i => match i with | 2 => ⟨Nat, fun _ => [{ι := Nat, G := fun x => x ≤ na ∧ idxF (eqAt fa v) (na - x) x = idxF (eqAt fa v) na 0, μ := fun x => na - x, tl := fun x => [(0, .one (.fz (.root 0 0) (FD.list [Sh.int IntKind.i64] na fa))), (1, .one (.int IntKind.i64 (.tm v))), (4, .one (.int IntKind.i64 (.lit (0 : Int)))), (6, .one (.fz (.root 0 0) (FD.list [Sh.int IntKind.i64] na fa))), (7, .one (.int IntKind.i64 (.tm (Int.ofNat na)))), (8, .one (.int IntKind.i64 (.tm (Int.ofNat x))))], bl := fun _ => [], nx := (1 : Nat)}]⟩ | _ => ⟨Nat, fun _ => []⟩
theorem indexI_ok : FnOk (mkR smLa gs3) Try.prog η0 149 (FI.of Try.f149 true) indexIS (.one (.int .i64)) indexIC indexIR := by
  refine fnOk_of0 smLa_ok gs3_ok Try.fok149 (fun fds => match fds with | [.list _ na fa, .int _ v] => indexII na fa v | _ => alts fun _ => []) ?_
  intro fds hf hc
  obtain ⟨na, fa, ds0, rfl, ga, hf1⟩ := hf.list
  obtain ⟨v, ds1, rfl, hf2⟩ := hf1.int
  obtain rfl := hf2.nil
  have hc : (true) = true := hc
  have hvc : (vcF smLa gs3 (FI.of Try.f149 true) indexIS (.one (.int .i64)) (indexII na fa v) noR [.list [.int .i64] na fa, .int .i64 v] (indexIR [.list [.int .i64] na fa, .int .i64 v])) =
    ((true = true) ∧ (∃ y0 : Nat, ((∃ y1 : Nat, (((y1 ≤ na ∧ ((idxF (eqAt fa v) (na - y1) y1) = (idxF (eqAt fa v) na (0 : Nat)))) ∧ True) ∧ (((true = true) ∧ ((((Ref.root (0) (0)) = (Ref.root (0) (0))) ∧ (((FD.list [Sh.int IntKind.i64] na fa) = (FD.list [Sh.int IntKind.i64] na fa)) ∧ (true = true))) ∧ ((((IntKind.i64) = (IntKind.i64)) ∧ ((v) = (v))) ∧ ((((IntKind.i64) = (IntKind.i64)) ∧ (((0 : Int)) = ((0 : Int)))) ∧ ((((Ref.root (0) (0)) = (Ref.root (0) (0))) ∧ (((FD.list [Sh.int IntKind.i64] na fa) = (FD.list [Sh.int IntKind.i64] na fa)) ∧ (true = true))) ∧ ((((IntKind.i64) = (IntKind.i64)) ∧ ((Int.ofNat na) = (Int.ofNat na))) ∧ ((((IntKind.i64) = (IntKind.i64)) ∧ ((Int.ofNat y1) = ((0 : Int)))) ∧ True))))))) ∧ True))) ∧ (∀ y1 : Nat, ((y1 ≤ na ∧ ((idxF (eqAt fa v) (na - y1) y1) = (idxF (eqAt fa v) na (0 : Nat)))) → ((((decide (Int.ofNat y1 < Int.ofNat na)) = (true)) → ((((decide ((0 : Int) ≤ Int.ofNat y1) && decide (Int.ofNat y1 < (↑na : Int))) = (true)) → ((((decide (v = FD.i (fa (Int.toNat (Int.ofNat y1)) (0 : Nat)))) = (true)) → (((IntKind.i64) = (IntKind.i64)) ∧ ((idxF (eqAt fa v) na (0 : Nat)) = (Int.ofNat y1)))) ∧ (((decide (v = FD.i (fa (Int.toNat (Int.ofNat y1)) (0 : Nat)))) = (false)) → (∃ y2 : Nat, (((y2 ≤ na ∧ ((idxF (eqAt fa v) (na - y2) y2) = (idxF (eqAt fa v) na (0 : Nat)))) ∧ na - y2 < na - y1) ∧ (((true = true) ∧ ((((Ref.root (0) (0)) = (Ref.root (0) (0))) ∧ (((FD.list [Sh.int IntKind.i64] na fa) = (FD.list [Sh.int IntKind.i64] na fa)) ∧ (true = true))) ∧ ((((IntKind.i64) = (IntKind.i64)) ∧ ((v) = (v))) ∧ ((((IntKind.i64) = (IntKind.i64)) ∧ (((0 : Int)) = ((0 : Int)))) ∧ ((((Ref.root (0) (0)) = (Ref.root (0) (0))) ∧ (((FD.list [Sh.int IntKind.i64] na fa) = (FD.list [Sh.int IntKind.i64] na fa)) ∧ (true = true))) ∧ ((((IntKind.i64) = (IntKind.i64)) ∧ ((Int.ofNat na) = (Int.ofNat na))) ∧ ((((IntKind.i64) = (IntKind.i64)) ∧ ((Int.ofNat y2) = (IntKind.wrap IntKind.i64 (Int.ofNat y1 + (1 : Int))))) ∧ True))))))) ∧ True)))))) ∧ (((decide ((0 : Int) ≤ Int.ofNat y1) && decide (Int.ofNat y1 < (↑na : Int))) = (false)) → False))) ∧ (((decide (Int.ofNat y1 < Int.ofNat na)) = (false)) → (((IntKind.i64) = (IntKind.i64)) ∧ ((idxF (eqAt fa v) na (0 : Nat)) = ((-1 : Int))))))))))) := by kernel_rfl
  refine hvc.mpr ?_
  clear hvc
  have hl := ga.len
  have hl' : maxLen = 9223372036854775807 := rfl
  simp
  refine fun x hx he => ⟨fun h => ⟨fun _ => ⟨fun ho => ?_, fun h0 => ⟨x + 1, ⟨⟨by omega, ?_⟩, by omega⟩, ?_⟩⟩, h⟩, fun h => ?_⟩
  · rw [← he, show na - x = na - (x + 1) + 1 by omega, idxF, show eqAt fa v x = true by simp [eqAt]; omega]
    rfl
  · rw [← he, show na - x = na - (x + 1) + 1 by omega, idxF, show eqAt fa v x = false by simp [eqAt]; omega]
    rfl
  · rw [wrap_id (by omega) (by omega)]
    rfl
  · rw [← he, show na - x = 0 by omega]
    rfl
def HasS : List PT := [.one (.list [.int .i64]), .one (.int .i64)]
def HasC : List FD → Bool
  | [.list _ _ _, .int _ _] => true
  | _ => false
def HasR : List FD → List FD
  | [.list _ na fa, .int _ v] => [.bool (hasB na fa v)]
  | _ => []
def HasI (na : Nat) (fa : Nat → Nat → FD) (v : Int) : Nat → AFam := fun i => match i with | 2 => ⟨Nat, fun _ => [{ι := Nat, G := fun x => x ≤ na ∧ anyN (eqAt fa v) (na - x) x = hasB na fa v, μ := fun x => na - x, tl := fun x => [(0, .one (.fz (.root 0 0) (FD.list [Sh.int IntKind.i64] na fa))), (1, .one (.int IntKind.i64 (.tm v))), (4, .one (.bool (.lit false))), (5, .one (.int IntKind.i64 (.tm (Int.ofNat x))))], bl := fun _ => [], nx := (1 : Nat)}]⟩ | _ => ⟨Nat, fun _ => []⟩
theorem Has_ok : FnOk (mkR smLa gs3) Try.prog η0 96 (FI.of Try.f96 true) HasS (.one .bool) HasC HasR := by
  refine fnOk_of0 smLa_ok gs3_ok Try.fok96 (fun fds => match fds with | [.list _ na fa, .int _ v] => HasI na fa v | _ => alts fun _ => []) ?_
  intro fds hf hc
  obtain ⟨na, fa, ds0, rfl, ga, hf1⟩ := hf.list
  obtain ⟨v, ds1, rfl, hf2⟩ := hf1.int
  obtain rfl := hf2.nil
  have hc : (true) = true := hc
  have hvc : (vcF smLa gs3 (FI.of Try.f96 true) HasS (.one .bool) (HasI na fa v) noR [.list [.int .i64] na fa, .int .i64 v] (HasR [.list [.int .i64] na fa, .int .i64 v])) =
    ((true = true) ∧ (∃ y0 : Nat, ((∃ y1 : Nat, (((y1 ≤ na ∧ ((anyN (eqAt fa v) (na - y1) y1) = (hasB na fa v))) ∧ True) ∧ (((true = true) ∧ ((((Ref.root (0) (0)) = (Ref.root (0) (0))) ∧ (((FD.list [Sh.int IntKind.i64] na fa) = (FD.list [Sh.int IntKind.i64] na fa)) ∧ (true = true))) ∧ ((((IntKind.i64) = (IntKind.i64)) ∧ ((v) = (v))) ∧ ((false = false) ∧ ((((IntKind.i64) = (IntKind.i64)) ∧ ((Int.ofNat y1) = ((0 : Int)))) ∧ True))))) ∧ True))) ∧ (∀ y1 : Nat, ((y1 ≤ na ∧ ((anyN (eqAt fa v) (na - y1) y1) = (hasB na fa v))) → ((((decide (Int.ofNat y1 < Int.ofNat na)) = (true)) → ((((decide ((0 : Int) ≤ Int.ofNat y1) && decide (Int.ofNat y1 < (↑na : Int))) = (true)) → ((((decide (FD.i (fa (Int.toNat (Int.ofNat y1)) (0 : Nat)) = v)) = (true)) → ((hasB na fa v) = (true))) ∧ (((decide (FD.i (fa (Int.toNat (Int.ofNat y1)) (0 : Nat)) = v)) = (false)) → (∃ y2 : Nat, (((y2 ≤ na ∧ ((anyN (eqAt fa v) (na - y2) y2) = (hasB na fa v))) ∧ na - y2 < na - y1) ∧ (((true = true) ∧ ((((Ref.root (0) (0)) = (Ref.root (0) (0))) ∧ (((FD.list [Sh.int IntKind.i64] na fa) = (FD.list [Sh.int IntKind.i64] na fa)) ∧ (true = true))) ∧ ((((IntKind.i64) = (IntKind.i64)) ∧ ((v) = (v))) ∧ ((false = false) ∧ ((((IntKind.i64) = (IntKind.i64)) ∧ ((Int.ofNat y2) = (IntKind.wrap IntKind.i64 (Int.ofNat y1 + (1 : Int))))) ∧ True))))) ∧ True)))))) ∧ (((decide ((0 : Int) ≤ Int.ofNat y1) && decide (Int.ofNat y1 < (↑na : Int))) = (false)) → False))) ∧ (((decide (Int.ofNat y1 < Int.ofNat na)) = (false)) → ((hasB na fa v) = (false))))))))) := by kernel_rfl
  refine hvc.mpr ?_
  clear hvc
  have hl := ga.len
  have hl' : maxLen = 9223372036854775807 := rfl
  simp
  refine ⟨rfl, fun x hx he => ⟨fun h => ⟨fun _ => ⟨fun ho => ?_, fun h0 => ⟨x + 1, ⟨⟨by omega, ?_⟩, by omega⟩, ?_⟩⟩, h⟩, fun h => ?_⟩⟩
  · rw [← he, show na - x = na - (x + 1) + 1 by omega, anyN, show eqAt fa v x = true by simp [eqAt]; omega]
    rfl
  · rw [← he, show na - x = na - (x + 1) + 1 by omega, anyN, show eqAt fa v x = false by simp [eqAt]; omega]
    rfl
  · rw [wrap_id (by omega) (by omega)]
    rfl
  · rw [← he, show na - x = 0 by omega]
    rfl
/-- The error of numbers below a count that must ascend. -/
def ascE (f : Nat → Nat → FD) (c : Int) (i : Nat) : Int := if 0 ≤ (f i 0).i ∧ (f i 0).i ≤ IntKind.i64.wrap (c - 1) then (if 0 < i ∧ (f i 0).i ≤ (f (i - 1) 0).i then 10 else 0) else 6
theorem ascE_in {f : Nat → Nat → FD} {c : Int} {n y : Nat} (hl : n ≤ 9223372036854775807) (hy : y < n) (he : firE (ascE f c) y = 0) :
    (¬ (0 ≤ (f y 0).i ∧ (f y 0).i ≤ IntKind.i64.wrap (c - 1)) → firE (ascE f c) n = 6) ∧ (0 ≤ (f y 0).i → (f y 0).i ≤ IntKind.i64.wrap (c - 1) → 0 < y → (f y 0).i ≤ (f (y - 1) 0).i → firE (ascE f c) n = 10) ∧
    (0 ≤ (f y 0).i → (f y 0).i ≤ IntKind.i64.wrap (c - 1) → (0 < y → (f (y - 1) 0).i < (f y 0).i) → ∃ y2, ((y2 ≤ n ∧ firE (ascE f c) y2 = 0) ∧ n - y2 < n - y) ∧ (y2 : Int) = IntKind.i64.wrap ((y : Int) + 1)) := by
  refine ⟨fun h => ?_, fun h1 h2 h3 h4 => ?_, fun h1 h2 h3 => ⟨y + 1, ⟨⟨by omega, firE_up he ?_⟩, by omega⟩, by rw [wrap_id (by omega) (by omega)]; rfl⟩⟩
  · have e : ascE f c y = 6 := if_neg h
    rw [(firE_hit he (by omega) hy).1, e]
  · have e : ascE f c y = 10 := by rw [ascE, if_pos ⟨h1, h2⟩, if_pos ⟨h3, h4⟩]
    rw [(firE_hit he (by omega) hy).1, e]
  · rw [ascE, if_pos ⟨h1, h2⟩, if_neg]
    rintro ⟨h4, h5⟩
    have := h3 h4
    omega
theorem asc_wrap {y n : Nat} (hl : n ≤ 9223372036854775807) (hy : y < n) (hp : 0 < y) : IntKind.i64.wrap ((y : Int) - 1) = ((y - 1 : Nat) : Int) := by rw [wrap_id (by omega) (by omega)]; omega
def membersS : List PT := [.one (.list [.int .i64]), .one (.int .i64)]
def membersC : List FD → Bool
  | [.list _ _ _, .int _ _] => true
  | _ => false
def membersR : List FD → List FD
  | [.list _ na fa, .int _ c] => [.int .i64 (firE (ascE fa c) na)]
  | _ => []
def membersI (na : Nat) (fa : Nat → Nat → FD) (c : Int) : Nat → AFam := fun i => match i with | 2 => ⟨Nat, fun _ => [{ι := Nat, G := fun x => x ≤ na ∧ firE (ascE fa c) x = 0, μ := fun x => na - x, tl := fun x => [(0, .one (.fz (.root 0 0) (FD.list [Sh.int IntKind.i64] na fa))), (1, .one (.int IntKind.i64 (.tm c))), (4, .one (.int IntKind.i64 (.lit (0 : Int)))), (5, .one (.int IntKind.i64 (.tm (Int.ofNat x))))], bl := fun _ => [], nx := (1 : Nat)}]⟩ | _ => ⟨Nat, fun _ => []⟩
abbrev qmembers2 (na : Nat) (fa : Nat → Nat → FD) (c : Int) (y1 : Nat) : Prop := (∃ y2 : Nat, (((y2 ≤ na ∧ ((firE (ascE fa c) y2) = ((0 : Int)))) ∧ na - y2 < na - y1) ∧ (((true = true) ∧ ((((Ref.root (0) (0)) = (Ref.root (0) (0))) ∧ (((FD.list [Sh.int IntKind.i64] na fa) = (FD.list [Sh.int IntKind.i64] na fa)) ∧ (true = true))) ∧ ((((IntKind.i64) = (IntKind.i64)) ∧ ((c) = (c))) ∧ ((((IntKind.i64) = (IntKind.i64)) ∧ (((0 : Int)) = ((0 : Int)))) ∧ ((((IntKind.i64) = (IntKind.i64)) ∧ ((Int.ofNat y2) = (IntKind.wrap IntKind.i64 (Int.ofNat y1 + (1 : Int))))) ∧ True))))) ∧ True)))
abbrev qmembers1 (na : Nat) (fa : Nat → Nat → FD) (c : Int) (y1 : Nat) : Prop := (((decide ((0 : Int) < Int.ofNat y1)) = (false)) → ((((decide ((0 : Int) < Int.ofNat y1)) = (true)) → False) ∧ (((decide ((0 : Int) < Int.ofNat y1)) = (false)) → ((((decide ((0 : Int) < Int.ofNat y1)) = (true)) → False) ∧ (((decide ((0 : Int) < Int.ofNat y1)) = (false)) → (qmembers2 na fa c y1))))))
abbrev qmembers3 (na : Nat) (fa : Nat → Nat → FD) (c : Int) (y1 : Nat) : Prop := (((decide ((0 : Int) < Int.ofNat y1)) = (false)) → ((((decide ((0 : Int) < Int.ofNat y1)) = (true)) → False) ∧ (((decide ((0 : Int) < Int.ofNat y1)) = (false)) → ((((decide ((0 : Int) < Int.ofNat y1)) = (true)) → False) ∧ (qmembers1 na fa c y1)))))
abbrev qmembers4 (na : Nat) (fa : Nat → Nat → FD) (c : Int) (y1 : Nat) : Prop := (((decide ((0 : Int) < Int.ofNat y1)) = (false)) → ((((decide ((0 : Int) < Int.ofNat y1)) = (true)) → ((((decide ((0 : Int) < Int.ofNat y1)) = (true)) → ((((decide ((0 : Int) < Int.ofNat y1)) = (true)) → False) ∧ (((decide ((0 : Int) < Int.ofNat y1)) = (false)) → ((((decide ((0 : Int) < Int.ofNat y1)) = (true)) → False) ∧ (qmembers1 na fa c y1))))) ∧ (qmembers3 na fa c y1))) ∧ (((decide ((0 : Int) < Int.ofNat y1)) = (false)) → ((((decide ((0 : Int) < Int.ofNat y1)) = (true)) → False) ∧ (qmembers3 na fa c y1)))))
abbrev qmembers0 (na : Nat) (fa : Nat → Nat → FD) (c : Int) (y1 : Nat) : Prop := (((decide ((0 : Int) < Int.ofNat y1)) = (false)) → ((((decide ((0 : Int) < Int.ofNat y1)) = (true)) → ((((decide ((0 : Int) < Int.ofNat y1)) = (true)) → ((((decide ((0 : Int) < Int.ofNat y1)) = (true)) → ((((decide ((0 : Int) < Int.ofNat y1)) = (true)) → ((((decide ((0 : Int) ≤ IntKind.wrap IntKind.i64 (Int.ofNat y1 - (1 : Int))) && decide (IntKind.wrap IntKind.i64 (Int.ofNat y1 - (1 : Int)) < (↑na : Int))) = (true)) → ((((decide ((0 : Int) < Int.ofNat y1)) = (true)) → ((((decide ((0 : Int) < Int.ofNat y1)) = (true)) → False) ∧ (((decide ((0 : Int) < Int.ofNat y1)) = (false)) → ((((decide ((0 : Int) < Int.ofNat y1)) = (true)) → False) ∧ (((decide ((0 : Int) < Int.ofNat y1)) = (false)) → (qmembers2 na fa c y1)))))) ∧ (qmembers1 na fa c y1))) ∧ (((decide ((0 : Int) ≤ IntKind.wrap IntKind.i64 (Int.ofNat y1 - (1 : Int))) && decide (IntKind.wrap IntKind.i64 (Int.ofNat y1 - (1 : Int)) < (↑na : Int))) = (false)) → False))) ∧ (((decide ((0 : Int) < Int.ofNat y1)) = (false)) → ((((decide ((0 : Int) < Int.ofNat y1)) = (true)) → False) ∧ (qmembers1 na fa c y1))))) ∧ (qmembers3 na fa c y1))) ∧ (((decide ((0 : Int) < Int.ofNat y1)) = (false)) → ((((decide ((0 : Int) < Int.ofNat y1)) = (true)) → False) ∧ (qmembers3 na fa c y1))))) ∧ (qmembers4 na fa c y1)))
abbrev qmembers5 (na : Nat) (fa : Nat → Nat → FD) (c : Int) (y1 : Nat) : Prop := ((((decide ((0 : Int) < Int.ofNat y1)) = (true)) → False) ∧ (((decide ((0 : Int) < Int.ofNat y1)) = (false)) → ((((decide ((0 : Int) < Int.ofNat y1)) = (true)) → False) ∧ (qmembers0 na fa c y1))))
theorem members_ok : FnOk (mkR smLa gs3) Try.prog η0 97 (FI.of Try.f97 true) membersS (.one (.int .i64)) membersC membersR := by
  refine fnOk_of0 smLa_ok gs3_ok Try.fok97 (fun fds => match fds with | [.list _ na fa, .int _ c] => membersI na fa c | _ => alts fun _ => []) ?_
  intro fds hf hc
  obtain ⟨na, fa, ds0, rfl, ga, hf1⟩ := hf.list
  obtain ⟨c, ds1, rfl, hf2⟩ := hf1.int
  obtain rfl := hf2.nil
  have hc : (true) = true := hc
  have hvc : (vcF smLa gs3 (FI.of Try.f97 true) membersS (.one (.int .i64)) (membersI na fa c) noR [.list [.int .i64] na fa, .int .i64 c] (membersR [.list [.int .i64] na fa, .int .i64 c])) =
    ((true = true) ∧ (∃ y0 : Nat, ((∃ y1 : Nat, (((y1 ≤ na ∧ ((firE (ascE fa c) y1) = ((0 : Int)))) ∧ True) ∧ (((true = true) ∧ ((((Ref.root (0) (0)) = (Ref.root (0) (0))) ∧ (((FD.list [Sh.int IntKind.i64] na fa) = (FD.list [Sh.int IntKind.i64] na fa)) ∧ (true = true))) ∧ ((((IntKind.i64) = (IntKind.i64)) ∧ ((c) = (c))) ∧ ((((IntKind.i64) = (IntKind.i64)) ∧ (((0 : Int)) = ((0 : Int)))) ∧ ((((IntKind.i64) = (IntKind.i64)) ∧ ((Int.ofNat y1) = ((0 : Int)))) ∧ True))))) ∧ True))) ∧ (∀ y1 : Nat, ((y1 ≤ na ∧ ((firE (ascE fa c) y1) = ((0 : Int)))) → ((((decide (Int.ofNat y1 < Int.ofNat na)) = (true)) → ((((decide ((0 : Int) ≤ Int.ofNat y1) && decide (Int.ofNat y1 < (↑na : Int))) = (true)) → (((true = true) → ((((decide ((0 : Int) ≤ FD.i (fa (Int.toNat (Int.ofNat y1)) (0 : Nat))) && decide (FD.i (fa (Int.toNat (Int.ofNat y1)) (0 : Nat)) ≤ IntKind.wrap IntKind.i64 (c - (1 : Int)))) = (false)) → (((IntKind.i64) = (IntKind.i64)) ∧ ((firE (ascE fa c) na) = ((6 : Int))))) ∧ (((decide ((0 : Int) ≤ FD.i (fa (Int.toNat (Int.ofNat y1)) (0 : Nat))) && decide (FD.i (fa (Int.toNat (Int.ofNat y1)) (0 : Nat)) ≤ IntKind.wrap IntKind.i64 (c - (1 : Int)))) = (true)) → ((((decide ((0 : Int) < Int.ofNat y1)) = (true)) → ((((decide ((0 : Int) < Int.ofNat y1)) = (true)) → ((((decide ((0 : Int) < Int.ofNat y1)) = (true)) → ((((decide ((0 : Int) ≤ Int.ofNat y1) && decide (Int.ofNat y1 < (↑na : Int))) = (true)) → ((((decide ((0 : Int) < Int.ofNat y1)) = (true)) → ((((decide ((0 : Int) < Int.ofNat y1)) = (true)) → ((((decide ((0 : Int) < Int.ofNat y1)) = (true)) → ((((decide ((0 : Int) < Int.ofNat y1)) = (true)) → ((((decide ((0 : Int) < Int.ofNat y1)) = (true)) → ((((decide ((0 : Int) ≤ IntKind.wrap IntKind.i64 (Int.ofNat y1 - (1 : Int))) && decide (IntKind.wrap IntKind.i64 (Int.ofNat y1 - (1 : Int)) < (↑na : Int))) = (true)) → ((((decide ((0 : Int) < Int.ofNat y1)) = (true)) → ((((decide ((0 : Int) < Int.ofNat y1)) = (true)) → ((((decide ((0 : Int) < Int.ofNat y1)) = (true)) → ((((decide (FD.i (fa (Int.toNat (IntKind.wrap IntKind.i64 (Int.ofNat y1 - (1 : Int)))) (0 : Nat)) < FD.i (fa (Int.toNat (Int.ofNat y1)) (0 : Nat)))) = (false)) → (((IntKind.i64) = (IntKind.i64)) ∧ ((firE (ascE fa c) na) = ((10 : Int))))) ∧ (((decide (FD.i (fa (Int.toNat (IntKind.wrap IntKind.i64 (Int.ofNat y1 - (1 : Int)))) (0 : Nat)) < FD.i (fa (Int.toNat (Int.ofNat y1)) (0 : Nat)))) = (true)) → (qmembers2 na fa c y1)))) ∧ (((decide ((0 : Int) < Int.ofNat y1)) = (false)) → (qmembers2 na fa c y1)))) ∧ (((decide ((0 : Int) < Int.ofNat y1)) = (false)) → ((((decide ((0 : Int) < Int.ofNat y1)) = (true)) → False) ∧ (((decide ((0 : Int) < Int.ofNat y1)) = (false)) → (qmembers2 na fa c y1)))))) ∧ (qmembers1 na fa c y1))) ∧ (((decide ((0 : Int) ≤ IntKind.wrap IntKind.i64 (Int.ofNat y1 - (1 : Int))) && decide (IntKind.wrap IntKind.i64 (Int.ofNat y1 - (1 : Int)) < (↑na : Int))) = (false)) → False))) ∧ (((decide ((0 : Int) < Int.ofNat y1)) = (false)) → ((((decide ((0 : Int) < Int.ofNat y1)) = (true)) → False) ∧ (qmembers1 na fa c y1))))) ∧ (qmembers3 na fa c y1))) ∧ (((decide ((0 : Int) < Int.ofNat y1)) = (false)) → ((((decide ((0 : Int) < Int.ofNat y1)) = (true)) → False) ∧ (qmembers3 na fa c y1))))) ∧ (qmembers4 na fa c y1))) ∧ (qmembers0 na fa c y1))) ∧ (((decide ((0 : Int) ≤ Int.ofNat y1) && decide (Int.ofNat y1 < (↑na : Int))) = (false)) → False))) ∧ (((decide ((0 : Int) < Int.ofNat y1)) = (false)) → ((((decide ((0 : Int) < Int.ofNat y1)) = (true)) → False) ∧ (qmembers0 na fa c y1))))) ∧ (((decide ((0 : Int) < Int.ofNat y1)) = (false)) → (qmembers5 na fa c y1)))) ∧ (((decide ((0 : Int) < Int.ofNat y1)) = (false)) → ((((decide ((0 : Int) < Int.ofNat y1)) = (true)) → (qmembers5 na fa c y1)) ∧ (((decide ((0 : Int) < Int.ofNat y1)) = (false)) → (qmembers5 na fa c y1)))))))) ∧ ((true = false) → False))) ∧ (((decide ((0 : Int) ≤ Int.ofNat y1) && decide (Int.ofNat y1 < (↑na : Int))) = (false)) → False))) ∧ (((decide (Int.ofNat y1 < Int.ofNat na)) = (false)) → (((IntKind.i64) = (IntKind.i64)) ∧ ((firE (ascE fa c) na) = ((0 : Int))))))))))) := by kernel_rfl
  refine hvc.mpr ?_
  clear hvc
  dsimp only [qmembers2, qmembers1, qmembers3, qmembers4, qmembers0, qmembers5]
  have hl := ga.len
  have hl' : maxLen = 9223372036854775807 := rfl
  simp
  refine ⟨rfl, fun y hy he => ⟨fun hlt => ?_, fun hge => by rw [show na = y by omega]; exact he⟩⟩
  obtain ⟨a1, a2, a3⟩ := ascE_in (by omega) hlt he
  by_cases h0 : y = 0
  · subst h0
    simp at a1 a2 a3
    simp [hlt]
    exact ⟨a1, a3⟩
  · have hp : 0 < y := by omega
    have hw := asc_wrap (by omega) hlt hp
    simp [h0, hp, hw, hlt]
    refine ⟨?_, ?_⟩
    · exact fun h => a1 fun hh => by have := h hh.1; omega
    · intro b1 b2
      exact ⟨fun _ => ⟨fun h => a2 b1 b2 hp h, fun h => a3 b1 b2 fun _ => h⟩, by omega⟩
def ascErrS : List PT := [.one (.list [.int .i64]), .one (.int .i64)]
def ascErrC : List FD → Bool
  | [.list _ _ _, .int _ _] => true
  | _ => false
def ascErrR : List FD → List FD
  | [.list _ na fa, .int _ c] => [.int .i64 (firE (ascE fa c) na)]
  | _ => []
def ascErrI (na : Nat) (fa : Nat → Nat → FD) (c : Int) : Nat → AFam := fun i => match i with | 2 => ⟨Nat, fun _ => [{ι := Nat, G := fun x => x ≤ na ∧ firE (ascE fa c) x = 0, μ := fun x => na - x, tl := fun x => [(0, .one (.fz (.root 0 0) (FD.list [Sh.int IntKind.i64] na fa))), (1, .one (.int IntKind.i64 (.tm c))), (4, .one (.int IntKind.i64 (.lit (0 : Int)))), (7, .one (.fz (.root 0 0) (FD.list [Sh.int IntKind.i64] na fa))), (8, .one (.int IntKind.i64 (.tm (Int.ofNat na)))), (9, .one (.int IntKind.i64 (.tm (Int.ofNat x))))], bl := fun _ => [], nx := (1 : Nat)}]⟩ | _ => ⟨Nat, fun _ => []⟩
theorem ascErr_ok : FnOk (mkR smLa gs3) Try.prog η0 130 (FI.of Try.f130 true) ascErrS (.one (.int .i64)) ascErrC ascErrR := by
  refine fnOk_of0 smLa_ok gs3_ok Try.fok130 (fun fds => match fds with | [.list _ na fa, .int _ c] => ascErrI na fa c | _ => alts fun _ => []) ?_
  intro fds hf hc
  obtain ⟨na, fa, ds0, rfl, ga, hf1⟩ := hf.list
  obtain ⟨c, ds1, rfl, hf2⟩ := hf1.int
  obtain rfl := hf2.nil
  have hc : (true) = true := hc
  have hvc : (vcF smLa gs3 (FI.of Try.f130 true) ascErrS (.one (.int .i64)) (ascErrI na fa c) noR [.list [.int .i64] na fa, .int .i64 c] (ascErrR [.list [.int .i64] na fa, .int .i64 c])) =
    ((true = true) ∧ (∃ y0 : Nat, ((∃ y1 : Nat, (((y1 ≤ na ∧ ((firE (ascE fa c) y1) = ((0 : Int)))) ∧ True) ∧ (((true = true) ∧ ((((Ref.root (0) (0)) = (Ref.root (0) (0))) ∧ (((FD.list [Sh.int IntKind.i64] na fa) = (FD.list [Sh.int IntKind.i64] na fa)) ∧ (true = true))) ∧ ((((IntKind.i64) = (IntKind.i64)) ∧ ((c) = (c))) ∧ ((((IntKind.i64) = (IntKind.i64)) ∧ (((0 : Int)) = ((0 : Int)))) ∧ ((((Ref.root (0) (0)) = (Ref.root (0) (0))) ∧ (((FD.list [Sh.int IntKind.i64] na fa) = (FD.list [Sh.int IntKind.i64] na fa)) ∧ (true = true))) ∧ ((((IntKind.i64) = (IntKind.i64)) ∧ ((Int.ofNat na) = (Int.ofNat na))) ∧ ((((IntKind.i64) = (IntKind.i64)) ∧ ((Int.ofNat y1) = ((0 : Int)))) ∧ True))))))) ∧ True))) ∧ (∀ y1 : Nat, ((y1 ≤ na ∧ ((firE (ascE fa c) y1) = ((0 : Int)))) → ((((decide (Int.ofNat y1 < Int.ofNat na)) = (true)) → ((((decide ((0 : Int) ≤ Int.ofNat y1) && decide (Int.ofNat y1 < (↑na : Int))) = (true)) → (((true = true) → ((((decide ((0 : Int) ≤ FD.i (fa (Int.toNat (Int.ofNat y1)) (0 : Nat))) && decide (FD.i (fa (Int.toNat (Int.ofNat y1)) (0 : Nat)) ≤ IntKind.wrap IntKind.i64 (c - (1 : Int)))) = (false)) → (((IntKind.i64) = (IntKind.i64)) ∧ ((firE (ascE fa c) na) = ((6 : Int))))) ∧ (((decide ((0 : Int) ≤ FD.i (fa (Int.toNat (Int.ofNat y1)) (0 : Nat))) && decide (FD.i (fa (Int.toNat (Int.ofNat y1)) (0 : Nat)) ≤ IntKind.wrap IntKind.i64 (c - (1 : Int)))) = (true)) → ((((decide ((0 : Int) < Int.ofNat y1)) = (true)) → ((((decide ((0 : Int) ≤ IntKind.wrap IntKind.i64 (Int.ofNat y1 - (1 : Int))) && decide (IntKind.wrap IntKind.i64 (Int.ofNat y1 - (1 : Int)) < (↑na : Int))) = (true)) → ((((decide (FD.i (fa (Int.toNat (IntKind.wrap IntKind.i64 (Int.ofNat y1 - (1 : Int)))) (0 : Nat)) < FD.i (fa (Int.toNat (Int.ofNat y1)) (0 : Nat)))) = (false)) → (((IntKind.i64) = (IntKind.i64)) ∧ ((firE (ascE fa c) na) = ((10 : Int))))) ∧ (((decide (FD.i (fa (Int.toNat (IntKind.wrap IntKind.i64 (Int.ofNat y1 - (1 : Int)))) (0 : Nat)) < FD.i (fa (Int.toNat (Int.ofNat y1)) (0 : Nat)))) = (true)) → (∃ y2 : Nat, (((y2 ≤ na ∧ ((firE (ascE fa c) y2) = ((0 : Int)))) ∧ na - y2 < na - y1) ∧ (((true = true) ∧ ((((Ref.root (0) (0)) = (Ref.root (0) (0))) ∧ (((FD.list [Sh.int IntKind.i64] na fa) = (FD.list [Sh.int IntKind.i64] na fa)) ∧ (true = true))) ∧ ((((IntKind.i64) = (IntKind.i64)) ∧ ((c) = (c))) ∧ ((((IntKind.i64) = (IntKind.i64)) ∧ (((0 : Int)) = ((0 : Int)))) ∧ ((((Ref.root (0) (0)) = (Ref.root (0) (0))) ∧ (((FD.list [Sh.int IntKind.i64] na fa) = (FD.list [Sh.int IntKind.i64] na fa)) ∧ (true = true))) ∧ ((((IntKind.i64) = (IntKind.i64)) ∧ ((Int.ofNat na) = (Int.ofNat na))) ∧ ((((IntKind.i64) = (IntKind.i64)) ∧ ((Int.ofNat y2) = (IntKind.wrap IntKind.i64 (Int.ofNat y1 + (1 : Int))))) ∧ True))))))) ∧ True)))))) ∧ (((decide ((0 : Int) ≤ IntKind.wrap IntKind.i64 (Int.ofNat y1 - (1 : Int))) && decide (IntKind.wrap IntKind.i64 (Int.ofNat y1 - (1 : Int)) < (↑na : Int))) = (false)) → False))) ∧ (((decide ((0 : Int) < Int.ofNat y1)) = (false)) → (∃ y2 : Nat, (((y2 ≤ na ∧ ((firE (ascE fa c) y2) = ((0 : Int)))) ∧ na - y2 < na - y1) ∧ (((true = true) ∧ ((((Ref.root (0) (0)) = (Ref.root (0) (0))) ∧ (((FD.list [Sh.int IntKind.i64] na fa) = (FD.list [Sh.int IntKind.i64] na fa)) ∧ (true = true))) ∧ ((((IntKind.i64) = (IntKind.i64)) ∧ ((c) = (c))) ∧ ((((IntKind.i64) = (IntKind.i64)) ∧ (((0 : Int)) = ((0 : Int)))) ∧ ((((Ref.root (0) (0)) = (Ref.root (0) (0))) ∧ (((FD.list [Sh.int IntKind.i64] na fa) = (FD.list [Sh.int IntKind.i64] na fa)) ∧ (true = true))) ∧ ((((IntKind.i64) = (IntKind.i64)) ∧ ((Int.ofNat na) = (Int.ofNat na))) ∧ ((((IntKind.i64) = (IntKind.i64)) ∧ ((Int.ofNat y2) = (IntKind.wrap IntKind.i64 (Int.ofNat y1 + (1 : Int))))) ∧ True))))))) ∧ True)))))))) ∧ ((true = false) → False))) ∧ (((decide ((0 : Int) ≤ Int.ofNat y1) && decide (Int.ofNat y1 < (↑na : Int))) = (false)) → False))) ∧ (((decide (Int.ofNat y1 < Int.ofNat na)) = (false)) → (((IntKind.i64) = (IntKind.i64)) ∧ ((firE (ascE fa c) na) = ((0 : Int))))))))))) := by kernel_rfl
  refine hvc.mpr ?_
  clear hvc
  have hl := ga.len
  have hl' : maxLen = 9223372036854775807 := rfl
  simp
  refine ⟨rfl, fun y hy he => ⟨fun hlt => ?_, fun hge => by rw [show na = y by omega]; exact he⟩⟩
  obtain ⟨a1, a2, a3⟩ := ascE_in (by omega) hlt he
  by_cases h0 : y = 0
  · subst h0
    simp at a1 a2 a3
    simp [hlt]
    exact ⟨a1, a3⟩
  · have hp : 0 < y := by omega
    have hw := asc_wrap (by omega) hlt hp
    simp [h0, hp, hw, hlt]
    refine ⟨?_, ?_⟩
    · exact fun h => a1 fun hh => by have := h hh.1; omega
    · intro b1 b2
      exact ⟨fun _ => ⟨fun h => a2 b1 b2 hp h, fun h => a3 b1 b2 fun _ => h⟩, by omega⟩
end
end Go.Ex


namespace Go.Ex
open Go Go.Proofs Go.RowKit
noncomputable section
set_option maxRecDepth 1000000

def smLb : T Smf := (T.set (T.set (T.set (T.set smLa 149 (some (gFd indexIS (.one (.int .i64)) indexIC indexIR))) 96 (some (gFd HasS (.one .bool) HasC HasR))) 97 (some (gFd membersS (.one (.int .i64)) membersC membersR))) 130 (some (gFd ascErrS (.one (.int .i64)) ascErrC ascErrR)))
theorem smLb_ok : Tab SmOk smLb := (Tab.set (Tab.set (Tab.set (Tab.set smLa_ok (by kernel_rfl) (smOk_of smLa_ok gs3_ok indexI_ok rfl)) (by kernel_rfl) (smOk_of smLa_ok gs3_ok Has_ok rfl)) (by kernel_rfl) (smOk_of smLa_ok gs3_ok members_ok rfl)) (by kernel_rfl) (smOk_of smLa_ok gs3_ok ascErr_ok rfl))
def containsS : List PT := [.one (.list [.int .i64]), .one (.int .i64)]
def containsC : List FD → Bool
  | [.list _ _ _, .int _ _] => true
  | _ => false
def containsR : List FD → List FD
  | [.list _ na fa, .int _ v] => [.bool (hasB na fa v)]
  | _ => []
def containsI (_na : Nat) (_fa : Nat → Nat → FD) (_v : Int) : Nat → AFam := alts (fun _ => [])
theorem contains_ok : FnOk (mkR smLb gs3) Try.prog η0 129 (FI.of Try.f129 true) containsS (.one .bool) containsC containsR := by
  refine fnOk_of0 smLb_ok gs3_ok Try.fok129 (fun fds => match fds with | [.list _ na fa, .int _ v] => containsI na fa v | _ => alts fun _ => []) ?_
  intro fds hf hc
  obtain ⟨na, fa, ds0, rfl, ga, hf1⟩ := hf.list
  obtain ⟨v, ds1, rfl, hf2⟩ := hf1.int
  obtain rfl := hf2.nil
  have hc : (true) = true := hc
  have hvc : (vcF smLb gs3 (FI.of Try.f129 true) containsS (.one .bool) (containsI na fa v) noR [.list [.int .i64] na fa, .int .i64 v] (containsR [.list [.int .i64] na fa, .int .i64 v])) =
    ((true = true) ∧ (((true = true) → ((hasB na fa v) = (!decide (idxF (eqAt fa v) na (0 : Nat) < (0 : Int))))) ∧ ((true = false) → False))) := by kernel_rfl
  refine hvc.mpr ?_
  clear hvc
  have := idxF_any (eqAt fa v) na 0
  simp
  rw [this, Bool.not_not]
  rfl
/-- Names of at most 20 bytes, at most 12 places. -/
def crowdAt (f : Nat → Nat → FD) (i : Nat) : Bool := Nat.ble (f i 0).s.length 20 && Nat.ble (f i 1).ln 12
def crowdB (n : Nat) (f : Nat → Nat → FD) : Bool := (Nat.ble n 10 || (Nat.ble 25 n && Nat.ble n 26)) && natAll (crowdAt f) n
theorem crowdAt_iff (f : Nat → Nat → FD) (i : Nat) : crowdAt f i = true ↔ (f i 0).s.length ≤ 20 ∧ (f i 1).ln ≤ 12 := by
  simp only [crowdAt, Bool.and_eq_true, Nat.ble_eq]
theorem crowdB_n {n : Nat} {f : Nat → Nat → FD} (h : ¬ (n ≤ 10 ∨ (25 ≤ n ∧ n ≤ 26))) : crowdB n f = false := by
  have e : (Nat.ble n 10 || (Nat.ble 25 n && Nat.ble n 26)) = false := by
    rw [Bool.eq_false_iff]
    intro hh
    simp only [Bool.or_eq_true, Bool.and_eq_true, Nat.ble_eq] at hh
    exact h hh
  rw [crowdB, e]; rfl
theorem crowdB_stop {n y : Nat} {f : Nat → Nat → FD} (hy : y < n) (h : ¬ crowdAt f y = true) : crowdB n f = false := by
  rw [crowdB, allN_no hy (by simpa using h), Bool.and_false]
theorem crowdB_ok {n : Nat} {f : Nat → Nat → FD} (h : crowdB n f = true) : n ≤ 26 ∧ ∀ i, i < n → (f i 0).s.length ≤ 20 ∧ (f i 1).ln ≤ 12 := by
  simp only [crowdB, Bool.and_eq_true, Bool.or_eq_true, Nat.ble_eq] at h
  exact ⟨by omega, fun i hi => (crowdAt_iff f i).1 (natAll_spec h.2 i hi)⟩
def crowdS : List PT := [.agg [.list [.str, .list [.int .i64]], .int .i64]]
def crowdC : List FD → Bool
  | [.list _ _ _, .int _ _] => true
  | _ => false
def crowdR : List FD → List FD
  | [.list _ nps fps, .int _ _] => [.bool (crowdB nps fps)]
  | _ => []
def crowdI (nps : Nat) (fps : Nat → Nat → FD) (pc : Int) : Nat → AFam := fun i => match i with | 4 => ⟨Nat, fun _ => [{ι := Nat, G := fun x => x ≤ nps ∧ natAll (crowdAt fps) x = true, μ := fun x => nps - x, tl := fun x => [(0, .agg [.fz (.root 0 0) (FD.list [Sh.str, Sh.list [Sh.int IntKind.i64]] nps fps), .int IntKind.i64 (.tm pc)]), (1, .one (.ptr (some (1, 0)))), (2, .one (.bool (.lit false))), (3, .one (.int IntKind.i64 (.tm (Int.ofNat x))))], bl := fun x => [(1, .cells 35 2 [.fz (.root 0 0) (FD.list [Sh.str, Sh.list [Sh.int IntKind.i64]] nps fps), .int IntKind.i64 (.tm pc)])], nx := (1 : Nat) + (1 : Nat)}]⟩ | _ => ⟨Nat, fun _ => []⟩
theorem crowd_ok : FnOk (mkR smLb gs3) Try.prog η0 22 (FI.of Try.f22 true) crowdS (.one .bool) crowdC crowdR := by
  refine fnOk_of0 smLb_ok gs3_ok Try.fok22 (fun fds => match fds with | [.list _ nps fps, .int _ pc] => crowdI nps fps pc | _ => alts fun _ => []) ?_
  intro fds hf hc
  obtain ⟨nps, fps, ds0, rfl, gps, hf1⟩ := hf.list
  obtain ⟨pc, ds1, rfl, hf2⟩ := hf1.int
  obtain rfl := hf2.nil
  have hc : (true) = true := hc
  have hvc : (vcF smLb gs3 (FI.of Try.f22 true) crowdS (.one .bool) (crowdI nps fps pc) noR [.list [.str, .list [.int .i64]] nps fps, .int .i64 pc] (crowdR [.list [.str, .list [.int .i64]] nps fps, .int .i64 pc])) =
    ((true = true) ∧ ((((decide ((10 : Int) < Int.ofNat nps)) = (true)) → ((((decide ((24 : Int) < Int.ofNat nps)) = (true)) → ((((decide ((26 : Int) < Int.ofNat nps)) = (true)) → ((crowdB nps fps) = (false))) ∧ (((decide ((26 : Int) < Int.ofNat nps)) = (false)) → (∃ y0 : Nat, ((∃ y1 : Nat, (((y1 ≤ nps ∧ ((natAll (crowdAt fps) y1) = (true))) ∧ True) ∧ (((true = true) ∧ (((((Ref.root (0) (0)) = (Ref.root (0) (0))) ∧ (((FD.list [Sh.str, Sh.list [Sh.int IntKind.i64]] nps fps) = (FD.list [Sh.str, Sh.list [Sh.int IntKind.i64]] nps fps)) ∧ (true = true))) ∧ ((((IntKind.i64) = (IntKind.i64)) ∧ ((pc) = (pc))) ∧ True)) ∧ ((((1, 1) ∈ ([(1, 1)] : List (Nat × Nat))) ∧ ((0) = (0))) ∧ ((false = false) ∧ ((((IntKind.i64) = (IntKind.i64)) ∧ ((Int.ofNat y1) = ((0 : Int)))) ∧ True))))) ∧ (((((35 : TypeId)) = ((35 : Nat))) ∧ (((2) = (2)) ∧ ((((Ref.root (0) (0)) = (Ref.root (0) (0))) ∧ (((FD.list [Sh.str, Sh.list [Sh.int IntKind.i64]] nps fps) = (FD.list [Sh.str, Sh.list [Sh.int IntKind.i64]] nps fps)) ∧ (true = true))) ∧ ((((IntKind.i64) = (IntKind.i64)) ∧ ((pc) = (pc))) ∧ True)))) ∧ True)))) ∧ (∀ y1 : Nat, ((y1 ≤ nps ∧ ((natAll (crowdAt fps) y1) = (true))) → ((((decide (Int.ofNat y1 < Int.ofNat nps)) = (true)) → ((((decide ((0 : Int) ≤ Int.ofNat y1) && decide (Int.ofNat y1 < (↑nps : Int))) = (true)) → ((((decide ((20 : Int) < Int.ofNat (List.length (FD.s (fps (Int.toNat (Int.ofNat y1)) ((0 : Nat) + Field.offset { name := "Name", type := (9 : Nat), offset := (0 : Nat), embedded := false, tag := "", pkgPath := "", byteOffset := (0 : Nat) })))))) = (true)) → ((crowdB nps fps) = (false))) ∧ (((decide ((20 : Int) < Int.ofNat (List.length (FD.s (fps (Int.toNat (Int.ofNat y1)) ((0 : Nat) + Field.offset { name := "Name", type := (9 : Nat), offset := (0 : Nat), embedded := false, tag := "", pkgPath := "", byteOffset := (0 : Nat) })))))) = (false)) → ((((decide ((0 : Int) ≤ Int.ofNat y1) && decide (Int.ofNat y1 < (↑nps : Int))) = (true)) → ((((decide ((12 : Int) < Int.ofNat (FD.ln (fps (Int.toNat (Int.ofNat y1)) ((0 : Nat) + Field.offset { name := "Fits", type := (22 : Nat), offset := (1 : Nat), embedded := false, tag := "", pkgPath := "", byteOffset := (16 : Nat) }))))) = (true)) → ((crowdB nps fps) = (false))) ∧ (((decide ((12 : Int) < Int.ofNat (FD.ln (fps (Int.toNat (Int.ofNat y1)) ((0 : Nat) + Field.offset { name := "Fits", type := (22 : Nat), offset := (1 : Nat), embedded := false, tag := "", pkgPath := "", byteOffset := (16 : Nat) }))))) = (false)) → (∃ y2 : Nat, (((y2 ≤ nps ∧ ((natAll (crowdAt fps) y2) = (true))) ∧ nps - y2 < nps - y1) ∧ (((true = true) ∧ (((((Ref.root (0) (0)) = (Ref.root (0) (0))) ∧ (((FD.list [Sh.str, Sh.list [Sh.int IntKind.i64]] nps fps) = (FD.list [Sh.str, Sh.list [Sh.int IntKind.i64]] nps fps)) ∧ (true = true))) ∧ ((((IntKind.i64) = (IntKind.i64)) ∧ ((pc) = (pc))) ∧ True)) ∧ ((((1, 1) ∈ ([(1, 1)] : List (Nat × Nat))) ∧ ((0) = (0))) ∧ ((false = false) ∧ ((((IntKind.i64) = (IntKind.i64)) ∧ ((Int.ofNat y2) = (IntKind.wrap IntKind.i64 (Int.ofNat y1 + (1 : Int))))) ∧ True))))) ∧ (((((35 : TypeId)) = ((35 : TypeId))) ∧ (((2) = (2)) ∧ ((((Ref.root (0) (0)) = (Ref.root (0) (0))) ∧ (((FD.list [Sh.str, Sh.list [Sh.int IntKind.i64]] nps fps) = (FD.list [Sh.str, Sh.list [Sh.int IntKind.i64]] nps fps)) ∧ (true = true))) ∧ ((((IntKind.i64) = (IntKind.i64)) ∧ ((pc) = (pc))) ∧ True)))) ∧ True))))))) ∧ (((decide ((0 : Int) ≤ Int.ofNat y1) && decide (Int.ofNat y1 < (↑nps : Int))) = (false)) → False))))) ∧ (((decide ((0 : Int) ≤ Int.ofNat y1) && decide (Int.ofNat y1 < (↑nps : Int))) = (false)) → False))) ∧ (((decide (Int.ofNat y1 < Int.ofNat nps)) = (false)) → ((crowdB nps fps) = (true))))))))))) ∧ (((decide ((24 : Int) < Int.ofNat nps)) = (false)) → ((crowdB nps fps) = (false))))) ∧ (((decide ((10 : Int) < Int.ofNat nps)) = (false)) → ((((decide ((26 : Int) < Int.ofNat nps)) = (true)) → ((crowdB nps fps) = (false))) ∧ (((decide ((26 : Int) < Int.ofNat nps)) = (false)) → (∃ y0 : Nat, ((∃ y1 : Nat, (((y1 ≤ nps ∧ ((natAll (crowdAt fps) y1) = (true))) ∧ True) ∧ (((true = true) ∧ (((((Ref.root (0) (0)) = (Ref.root (0) (0))) ∧ (((FD.list [Sh.str, Sh.list [Sh.int IntKind.i64]] nps fps) = (FD.list [Sh.str, Sh.list [Sh.int IntKind.i64]] nps fps)) ∧ (true = true))) ∧ ((((IntKind.i64) = (IntKind.i64)) ∧ ((pc) = (pc))) ∧ True)) ∧ ((((1, 1) ∈ ([(1, 1)] : List (Nat × Nat))) ∧ ((0) = (0))) ∧ ((false = false) ∧ ((((IntKind.i64) = (IntKind.i64)) ∧ ((Int.ofNat y1) = ((0 : Int)))) ∧ True))))) ∧ (((((35 : TypeId)) = ((35 : Nat))) ∧ (((2) = (2)) ∧ ((((Ref.root (0) (0)) = (Ref.root (0) (0))) ∧ (((FD.list [Sh.str, Sh.list [Sh.int IntKind.i64]] nps fps) = (FD.list [Sh.str, Sh.list [Sh.int IntKind.i64]] nps fps)) ∧ (true = true))) ∧ ((((IntKind.i64) = (IntKind.i64)) ∧ ((pc) = (pc))) ∧ True)))) ∧ True)))) ∧ (∀ y1 : Nat, ((y1 ≤ nps ∧ ((natAll (crowdAt fps) y1) = (true))) → ((((decide (Int.ofNat y1 < Int.ofNat nps)) = (true)) → ((((decide ((0 : Int) ≤ Int.ofNat y1) && decide (Int.ofNat y1 < (↑nps : Int))) = (true)) → ((((decide ((20 : Int) < Int.ofNat (List.length (FD.s (fps (Int.toNat (Int.ofNat y1)) ((0 : Nat) + Field.offset { name := "Name", type := (9 : Nat), offset := (0 : Nat), embedded := false, tag := "", pkgPath := "", byteOffset := (0 : Nat) })))))) = (true)) → ((crowdB nps fps) = (false))) ∧ (((decide ((20 : Int) < Int.ofNat (List.length (FD.s (fps (Int.toNat (Int.ofNat y1)) ((0 : Nat) + Field.offset { name := "Name", type := (9 : Nat), offset := (0 : Nat), embedded := false, tag := "", pkgPath := "", byteOffset := (0 : Nat) })))))) = (false)) → ((((decide ((0 : Int) ≤ Int.ofNat y1) && decide (Int.ofNat y1 < (↑nps : Int))) = (true)) → ((((decide ((12 : Int) < Int.ofNat (FD.ln (fps (Int.toNat (Int.ofNat y1)) ((0 : Nat) + Field.offset { name := "Fits", type := (22 : Nat), offset := (1 : Nat), embedded := false, tag := "", pkgPath := "", byteOffset := (16 : Nat) }))))) = (true)) → ((crowdB nps fps) = (false))) ∧ (((decide ((12 : Int) < Int.ofNat (FD.ln (fps (Int.toNat (Int.ofNat y1)) ((0 : Nat) + Field.offset { name := "Fits", type := (22 : Nat), offset := (1 : Nat), embedded := false, tag := "", pkgPath := "", byteOffset := (16 : Nat) }))))) = (false)) → (∃ y2 : Nat, (((y2 ≤ nps ∧ ((natAll (crowdAt fps) y2) = (true))) ∧ nps - y2 < nps - y1) ∧ (((true = true) ∧ (((((Ref.root (0) (0)) = (Ref.root (0) (0))) ∧ (((FD.list [Sh.str, Sh.list [Sh.int IntKind.i64]] nps fps) = (FD.list [Sh.str, Sh.list [Sh.int IntKind.i64]] nps fps)) ∧ (true = true))) ∧ ((((IntKind.i64) = (IntKind.i64)) ∧ ((pc) = (pc))) ∧ True)) ∧ ((((1, 1) ∈ ([(1, 1)] : List (Nat × Nat))) ∧ ((0) = (0))) ∧ ((false = false) ∧ ((((IntKind.i64) = (IntKind.i64)) ∧ ((Int.ofNat y2) = (IntKind.wrap IntKind.i64 (Int.ofNat y1 + (1 : Int))))) ∧ True))))) ∧ (((((35 : TypeId)) = ((35 : TypeId))) ∧ (((2) = (2)) ∧ ((((Ref.root (0) (0)) = (Ref.root (0) (0))) ∧ (((FD.list [Sh.str, Sh.list [Sh.int IntKind.i64]] nps fps) = (FD.list [Sh.str, Sh.list [Sh.int IntKind.i64]] nps fps)) ∧ (true = true))) ∧ ((((IntKind.i64) = (IntKind.i64)) ∧ ((pc) = (pc))) ∧ True)))) ∧ True))))))) ∧ (((decide ((0 : Int) ≤ Int.ofNat y1) && decide (Int.ofNat y1 < (↑nps : Int))) = (false)) → False))))) ∧ (((decide ((0 : Int) ≤ Int.ofNat y1) && decide (Int.ofNat y1 < (↑nps : Int))) = (false)) → False))) ∧ (((decide (Int.ofNat y1 < Int.ofNat nps)) = (false)) → ((crowdB nps fps) = (true))))))))))))) := by kernel_rfl
  refine hvc.mpr ?_
  clear hvc
  simp
  have key : ∀ y, y < nps → natAll (crowdAt fps) y = true → (¬ ((fps y 0).s.length ≤ 20 ∧ (fps y 1).ln ≤ 12) → crowdB nps fps = false) ∧ ((fps y 0).s.length ≤ 20 ∧ (fps y 1).ln ≤ 12 → nps ≤ 26 → ∃ y2, ((y2 ≤ nps ∧ natAll (crowdAt fps) y2 = true) ∧ nps - y2 < nps - y) ∧ (y2 : Int) = IntKind.i64.wrap ((y : Int) + 1)) := fun y hy ha =>
    ⟨fun h => crowdB_stop hy (by rw [crowdAt_iff]; exact h), fun h hn => ⟨y + 1, ⟨⟨by omega, allN_up ha ((crowdAt_iff fps y).2 h)⟩, by omega⟩, by rw [wrap_id (by omega) (by omega)]; rfl⟩⟩
  have fin : (nps ≤ 10 ∨ (25 ≤ nps ∧ nps ≤ 26)) → natAll (crowdAt fps) nps = true → crowdB nps fps = true := fun h ha => by
    rw [crowdB, ha, Bool.and_true]
    simp only [Bool.or_eq_true, Bool.and_eq_true, Nat.ble_eq]
    exact h
  refine ⟨fun a => ⟨fun b => ⟨fun c => crowdB_n (by omega), fun c => ⟨rfl, fun y hy ha => ?_⟩⟩, fun b => crowdB_n (by omega)⟩, fun a => ⟨fun c => by omega, fun c => ⟨rfl, fun y hy ha => ?_⟩⟩⟩
  all_goals
    refine ⟨fun hlt => ⟨fun _ => ⟨fun h => (key y hlt ha).1 (by omega), fun h => ⟨fun _ => ⟨fun h' => (key y hlt ha).1 (by omega), fun h' => (key y hlt ha).2 (by omega) (by omega)⟩, hlt⟩⟩, hlt⟩, fun hge => ?_⟩
    have e : y = nps := by omega
    subst e
    exact fin (by omega) ha
def smLc : T Smf := (T.set (T.set smLb 129 (some (gFd containsS (.one .bool) containsC containsR))) 22 (some (gFd crowdS (.one .bool) crowdC crowdR)))
theorem smLc_ok : Tab SmOk smLc := (Tab.set (Tab.set smLb_ok (by kernel_rfl) (smOk_of smLb_ok gs3_ok contains_ok rfl)) (by kernel_rfl) (smOk_of smLb_ok gs3_ok crowd_ok rfl))
def copyLoadS : List PT := [.agg [.list [.str, .list [.int .i64]], .int .i64]]
def copyLoadC : List FD → Bool
  | [.list _ nps fps, .int _ _] => crowdB nps fps
  | _ => false
def copyLoadR : List FD → List FD
  | [.list _ nps fps, .int _ pc] => [.list [.str, .list [.int .i64]] nps fps, .int .i64 pc]
  | _ => []
def copyLoadI (nps : Nat) (fps : Nat → Nat → FD) (pc : Int) : Nat → AFam := fun i => match i with | 3 => ⟨Nat, fun _ => [{ι := Nat, G := fun x => x = 0, μ := fun x => nps - x, tl := fun x => [(0, .agg [.fz (.root 0 0) (FD.list [Sh.str, Sh.list [Sh.int IntKind.i64]] nps fps), .int IntKind.i64 (.tm pc)]), (1, .one (.ptr (some (1, 0)))), (2, .one (.ptr (some (2, 0)))), (3, .one (.ptr (some (3, 0)))), (4, .one (.int IntKind.i64 (.tm (Int.ofNat x))))], bl := fun x => [(1, .cells 35 2 [.fz (.root 0 0) (FD.list [Sh.str, Sh.list [Sh.int IntKind.i64]] nps fps), .int IntKind.i64 (.tm pc)]), (2, .cells 35 2 [.slice none 0 (.known 0), .int IntKind.i64 (.lit (0 : Int))]), (3, .cells 35 2 [.slice none 0 (.known 0), .int IntKind.i64 (.tm pc)])], nx := (1 : Nat) + (1 : Nat) + (1 : Nat) + (1 : Nat)}, {ι := Nat, G := fun x => 1 ≤ x ∧ x ≤ nps, μ := fun x => nps - x, tl := fun x => [(0, .agg [.fz (.root 0 0) (FD.list [Sh.str, Sh.list [Sh.int IntKind.i64]] nps fps), .int IntKind.i64 (.tm pc)]), (1, .one (.ptr (some (1, 0)))), (2, .one (.ptr (some (2, 0)))), (3, .one (.ptr (some (3, 0)))), (4, .one (.int IntKind.i64 (.tm (Int.ofNat x))))], bl := fun x => [(1, .cells 35 2 [.fz (.root 0 0) (FD.list [Sh.str, Sh.list [Sh.int IntKind.i64]] nps fps), .int IntKind.i64 (.tm pc)]), (2, .cells 35 2 [.slice none 0 (.known 0), .int IntKind.i64 (.lit (0 : Int))]), (3, .cells 35 2 [.own 4 x, .int IntKind.i64 (.tm pc)]), (4, .row 143 [.str, .list [.int .i64]] x fps)], nx := 5}]⟩ | _ => ⟨Nat, fun _ => []⟩
abbrev qcopyLoad0 (nps : Nat) (fps : Nat → Nat → FD) (pc : Int) : Prop := ((((Ref.root (0) (0)) = (Ref.root (0) (0))) ∧ (((FD.list [Sh.str, Sh.list [Sh.int IntKind.i64]] nps fps) = (FD.list [Sh.str, Sh.list [Sh.int IntKind.i64]] nps fps)) ∧ (true = true))) ∧ ((((IntKind.i64) = (IntKind.i64)) ∧ ((pc) = (pc))) ∧ True))
abbrev qcopyLoad1 (nps : Nat) (fps : Nat → Nat → FD) (pc : Int) (y1 : Nat) : Prop := (∃ y2 : Nat, ((((y2) = (0)) ∧ nps - y2 < nps - y1) ∧ (((true = true) ∧ ((qcopyLoad0 nps fps pc) ∧ ((((1, 1) ∈ ([(3, 3), (2, 2), (1, 1)] : List (Nat × Nat))) ∧ ((0) = (0))) ∧ ((((2, 2) ∈ ([(3, 3), (2, 2), (1, 1)] : List (Nat × Nat))) ∧ ((0) = (0))) ∧ ((((3, 3) ∈ ([(3, 3), (2, 2), (1, 1)] : List (Nat × Nat))) ∧ ((0) = (0))) ∧ ((((IntKind.i64) = (IntKind.i64)) ∧ ((Int.ofNat y2) = (IntKind.wrap IntKind.i64 (Int.ofNat y1 + (1 : Int))))) ∧ True)))))) ∧ (((((35 : TypeId)) = ((35 : TypeId))) ∧ (((2) = (2)) ∧ (qcopyLoad0 nps fps pc))) ∧ (((((35 : TypeId)) = ((35 : TypeId))) ∧ (((2) = (2)) ∧ ((((0) = (0)) ∧ ((0) = (0))) ∧ ((((IntKind.i64) = (IntKind.i64)) ∧ (((0 : Int)) = ((0 : Int)))) ∧ True)))) ∧ (((((35 : TypeId)) = ((35 : TypeId))) ∧ (((2) = (2)) ∧ (False ∧ ((((IntKind.i64) = (IntKind.i64)) ∧ ((pc) = (pc))) ∧ True)))) ∧ True))))))
abbrev qcopyLoad2 (fps : Nat → Nat → FD) (y1 : Nat) : Prop := (((copyIntsC [FD.list [Sh.int IntKind.i64] (FD.ln (fps (Int.toNat (Int.ofNat y1)) ((0 : Nat) + Field.offset { name := "Fits", type := (22 : Nat), offset := (1 : Nat), embedded := false, tag := "", pkgPath := "", byteOffset := (16 : Nat) }))) (FD.fn (fps (Int.toNat (Int.ofNat y1)) ((0 : Nat) + Field.offset { name := "Fits", type := (22 : Nat), offset := (1 : Nat), embedded := false, tag := "", pkgPath := "", byteOffset := (16 : Nat) })))]) = (false)) → False)
abbrev qcopyLoad3 (fps : Nat → Nat → FD) (y1 : Nat) : Prop := ((copyIntsC [FD.list [Sh.int IntKind.i64] (FD.ln (fps (Int.toNat (Int.ofNat y1)) ((0 : Nat) + Field.offset { name := "Fits", type := (22 : Nat), offset := (1 : Nat), embedded := false, tag := "", pkgPath := "", byteOffset := (16 : Nat) }))) (FD.fn (fps (Int.toNat (Int.ofNat y1)) ((0 : Nat) + Field.offset { name := "Fits", type := (22 : Nat), offset := (1 : Nat), embedded := false, tag := "", pkgPath := "", byteOffset := (16 : Nat) })))]) = (true))
abbrev qcopyLoad4 (nps : Nat) (fps : Nat → Nat → FD) (pc : Int) (y1 : Nat) : Prop := ((true = true) ∧ ((qcopyLoad0 nps fps pc) ∧ ((((1, 1) ∈ ([(3, 3), (2, 2), (1, 1)] : List (Nat × Nat))) ∧ ((0) = (0))) ∧ ((((2, 2) ∈ ([(3, 3), (2, 2), (1, 1)] : List (Nat × Nat))) ∧ ((0) = (0))) ∧ ((((3, 3) ∈ ([(3, 3), (2, 2), (1, 1)] : List (Nat × Nat))) ∧ ((0) = (0))) ∧ ((((IntKind.i64) = (IntKind.i64)) ∧ ((Int.ofNat y1) = ((0 : Int)))) ∧ True))))))
theorem copyLoad_ok : FnOk (mkR smLc gs3) Try.prog η0 24 (FI.of Try.f24 false) copyLoadS (.agg [.list [.str, .list [.int .i64]], .int .i64]) copyLoadC copyLoadR := by
  refine fnOk_of0 smLc_ok gs3_ok Try.fok24 (fun fds => match fds with | [.list _ nps fps, .int _ pc] => copyLoadI nps fps pc | _ => alts fun _ => []) ?_
  intro fds hf hc
  obtain ⟨nps, fps, ds0, rfl, gps, hf1⟩ := hf.list
  obtain ⟨pc, ds1, rfl, hf2⟩ := hf1.int
  obtain rfl := hf2.nil
  have hc : (crowdB nps fps) = true := hc
  have hvc : (vcF smLc gs3 (FI.of Try.f24 false) copyLoadS (.agg [.list [.str, .list [.int .i64]], .int .i64]) (copyLoadI nps fps pc) noR [.list [.str, .list [.int .i64]] nps fps, .int .i64 pc] (copyLoadR [.list [.str, .list [.int .i64]] nps fps, .int .i64 pc])) =
    ((true = true) ∧ (∃ y0 : Nat, (((∃ y1 : Nat, ((((y1) = (0)) ∧ True) ∧ ((qcopyLoad4 nps fps pc y1) ∧ (((((35 : TypeId)) = ((35 : Nat))) ∧ (((2) = (2)) ∧ (qcopyLoad0 nps fps pc))) ∧ (((((35 : TypeId)) = ((35 : Nat))) ∧ (((2) = (2)) ∧ ((((0) = (0)) ∧ ((0) = (0))) ∧ ((((IntKind.i64) = (IntKind.i64)) ∧ (((0 : Int)) = ((0 : Int)))) ∧ True)))) ∧ (((((35 : TypeId)) = ((35 : Nat))) ∧ (((2) = (2)) ∧ ((((0) = (0)) ∧ ((0) = (0))) ∧ ((((IntKind.i64) = (IntKind.i64)) ∧ ((pc) = (pc))) ∧ True)))) ∧ True)))))) ∨ (∃ y1 : Nat, ((((1 : Nat) ≤ y1 ∧ y1 ≤ nps) ∧ True) ∧ ((qcopyLoad4 nps fps pc y1) ∧ (((((35 : TypeId)) = ((35 : Nat))) ∧ (((2) = (2)) ∧ (qcopyLoad0 nps fps pc))) ∧ (((((35 : TypeId)) = ((35 : Nat))) ∧ (((2) = (2)) ∧ ((((0) = (0)) ∧ ((0) = (0))) ∧ ((((IntKind.i64) = (IntKind.i64)) ∧ (((0 : Int)) = ((0 : Int)))) ∧ True)))) ∧ (((((35 : TypeId)) = ((35 : Nat))) ∧ (((2) = (2)) ∧ (False ∧ ((((IntKind.i64) = (IntKind.i64)) ∧ ((pc) = (pc))) ∧ True)))) ∧ (False ∧ True)))))))) ∧ ((∀ y1 : Nat, (((y1) = (0)) → ((((decide (Int.ofNat y1 < Int.ofNat nps)) = (true)) → ((((decide ((0 : Int) ≤ Int.ofNat y1) && decide (Int.ofNat y1 < (↑nps : Int))) = (true)) → ((((decide ((0 : Int) ≤ Int.ofNat y1) && decide (Int.ofNat y1 < (↑nps : Int))) = (true)) → (((qcopyLoad3 fps y1) → (((true = true) → ((qcopyLoad1 nps fps pc y1) ∨ (∃ y2 : Nat, ((((1 : Nat) ≤ y2 ∧ y2 ≤ nps) ∧ nps - y2 < nps - y1) ∧ (((true = true) ∧ ((qcopyLoad0 nps fps pc) ∧ ((((1, 1) ∈ ([(4, 21), (3, 3), (2, 2), (1, 1)] : List (Nat × Nat))) ∧ ((0) = (0))) ∧ ((((2, 2) ∈ ([(4, 21), (3, 3), (2, 2), (1, 1)] : List (Nat × Nat))) ∧ ((0) = (0))) ∧ ((((3, 3) ∈ ([(4, 21), (3, 3), (2, 2), (1, 1)] : List (Nat × Nat))) ∧ ((0) = (0))) ∧ ((((IntKind.i64) = (IntKind.i64)) ∧ ((Int.ofNat y2) = (IntKind.wrap IntKind.i64 (Int.ofNat y1 + (1 : Int))))) ∧ True)))))) ∧ (((((35 : TypeId)) = ((35 : TypeId))) ∧ (((2) = (2)) ∧ (qcopyLoad0 nps fps pc))) ∧ (((((35 : TypeId)) = ((35 : TypeId))) ∧ (((2) = (2)) ∧ ((((0) = (0)) ∧ ((0) = (0))) ∧ ((((IntKind.i64) = (IntKind.i64)) ∧ (((0 : Int)) = ((0 : Int)))) ∧ True)))) ∧ (((((35 : TypeId)) = ((35 : TypeId))) ∧ (((2) = (2)) ∧ ((((4, 21) ∈ ([(4, 21), (3, 3), (2, 2), (1, 1)] : List (Nat × Nat))) ∧ ((y2) = (1))) ∧ ((((IntKind.i64) = (IntKind.i64)) ∧ ((pc) = (pc))) ∧ True)))) ∧ (((((143 : TypeId)) = ((143 : TypeId))) ∧ ((([Sh.str, Sh.list [Sh.int IntKind.i64]]) = ([Sh.str, Sh.list [Sh.int IntKind.i64]])) ∧ (((y2) = (1)) ∧ (∀ y3 : Nat, (y3 < y2 → (∀ y4 : Nat, (y4 < List.length [Sh.str, Sh.list [Sh.int IntKind.i64]] → ((fps y3 y4) = (atFD [FD.str (FD.s (fps (Int.toNat (Int.ofNat y1)) ((0 : Nat) + Field.offset { name := "Name", type := (9 : Nat), offset := (0 : Nat), embedded := false, tag := "", pkgPath := "", byteOffset := (0 : Nat) }))), FD.list [Sh.int IntKind.i64] (FD.ln (fps (Int.toNat (Int.ofNat y1)) ((0 : Nat) + Field.offset { name := "Fits", type := (22 : Nat), offset := (1 : Nat), embedded := false, tag := "", pkgPath := "", byteOffset := (16 : Nat) }))) (FD.fn (fps (Int.toNat (Int.ofNat y1)) ((0 : Nat) + Field.offset { name := "Fits", type := (22 : Nat), offset := (1 : Nat), embedded := false, tag := "", pkgPath := "", byteOffset := (16 : Nat) })))] y4))))))))) ∧ True))))))))) ∧ ((true = false) → False))) ∧ (qcopyLoad2 fps y1))) ∧ (((decide ((0 : Int) ≤ Int.ofNat y1) && decide (Int.ofNat y1 < (↑nps : Int))) = (false)) → False))) ∧ (((decide ((0 : Int) ≤ Int.ofNat y1) && decide (Int.ofNat y1 < (↑nps : Int))) = (false)) → False))) ∧ (((decide (Int.ofNat y1 < Int.ofNat nps)) = (false)) → (((nps) = (0)) ∧ ((((IntKind.i64) = (IntKind.i64)) ∧ ((pc) = (pc))) ∧ True)))))) ∧ (∀ y1 : Nat, (((1 : Nat) ≤ y1 ∧ y1 ≤ nps) → ((((decide (Int.ofNat y1 < Int.ofNat nps)) = (true)) → ((((decide ((0 : Int) ≤ Int.ofNat y1) && decide (Int.ofNat y1 < (↑nps : Int))) = (true)) → ((((decide ((0 : Int) ≤ Int.ofNat y1) && decide (Int.ofNat y1 < (↑nps : Int))) = (true)) → (((qcopyLoad3 fps y1) → ((((Nat.beq y1 y1 && (true && Nat.ble (y1 + (1 : Nat)) (1000000 : Nat))) = (true)) → ((qcopyLoad1 nps fps pc y1) ∨ (∃ y2 : Nat, ((((1 : Nat) ≤ y2 ∧ y2 ≤ nps) ∧ nps - y2 < nps - y1) ∧ (((true = true) ∧ ((qcopyLoad0 nps fps pc) ∧ ((((1, 1) ∈ ([(4, 22), (3, 3), (2, 2), (1, 1)] : List (Nat × Nat))) ∧ ((0) = (0))) ∧ ((((2, 2) ∈ ([(4, 22), (3, 3), (2, 2), (1, 1)] : List (Nat × Nat))) ∧ ((0) = (0))) ∧ ((((3, 3) ∈ ([(4, 22), (3, 3), (2, 2), (1, 1)] : List (Nat × Nat))) ∧ ((0) = (0))) ∧ ((((IntKind.i64) = (IntKind.i64)) ∧ ((Int.ofNat y2) = (IntKind.wrap IntKind.i64 (Int.ofNat y1 + (1 : Int))))) ∧ True)))))) ∧ (((((35 : TypeId)) = ((35 : TypeId))) ∧ (((2) = (2)) ∧ (qcopyLoad0 nps fps pc))) ∧ (((((35 : TypeId)) = ((35 : TypeId))) ∧ (((2) = (2)) ∧ ((((0) = (0)) ∧ ((0) = (0))) ∧ ((((IntKind.i64) = (IntKind.i64)) ∧ (((0 : Int)) = ((0 : Int)))) ∧ True)))) ∧ (((((35 : TypeId)) = ((35 : TypeId))) ∧ (((2) = (2)) ∧ ((((4, 22) ∈ ([(4, 22), (3, 3), (2, 2), (1, 1)] : List (Nat × Nat))) ∧ ((y2) = (y1 + (1 : Nat)))) ∧ ((((IntKind.i64) = (IntKind.i64)) ∧ ((pc) = (pc))) ∧ True)))) ∧ (((((143 : TypeId)) = ((143 : TypeId))) ∧ ((([Sh.str, Sh.list [Sh.int IntKind.i64]]) = ([Sh.str, Sh.list [Sh.int IntKind.i64]])) ∧ (((y2) = (y1 + (1 : Nat))) ∧ (∀ y3 : Nat, (y3 < y2 → (∀ y4 : Nat, (y4 < List.length [Sh.str, Sh.list [Sh.int IntKind.i64]] → ((fps y3 y4) = (bif Nat.blt y3 y1 then fps y3 y4 else atFD [FD.str (FD.s (fps (Int.toNat (Int.ofNat y1)) ((0 : Nat) + Field.offset { name := "Name", type := (9 : Nat), offset := (0 : Nat), embedded := false, tag := "", pkgPath := "", byteOffset := (0 : Nat) }))), FD.list [Sh.int IntKind.i64] (FD.ln (fps (Int.toNat (Int.ofNat y1)) ((0 : Nat) + Field.offset { name := "Fits", type := (22 : Nat), offset := (1 : Nat), embedded := false, tag := "", pkgPath := "", byteOffset := (16 : Nat) }))) (FD.fn (fps (Int.toNat (Int.ofNat y1)) ((0 : Nat) + Field.offset { name := "Fits", type := (22 : Nat), offset := (1 : Nat), embedded := false, tag := "", pkgPath := "", byteOffset := (16 : Nat) })))] y4))))))))) ∧ True))))))))) ∧ (((Nat.beq y1 y1 && (true && Nat.ble (y1 + (1 : Nat)) (1000000 : Nat))) = (false)) → False))) ∧ (qcopyLoad2 fps y1))) ∧ (((decide ((0 : Int) ≤ Int.ofNat y1) && decide (Int.ofNat y1 < (↑nps : Int))) = (false)) → False))) ∧ (((decide ((0 : Int) ≤ Int.ofNat y1) && decide (Int.ofNat y1 < (↑nps : Int))) = (false)) → False))) ∧ (((decide (Int.ofNat y1 < Int.ofNat nps)) = (false)) → (((1 : Nat) ≤ (4 : Nat) ∧ ((([Sh.str, Sh.list [Sh.int IntKind.i64]]) = ([Sh.str, Sh.list [Sh.int IntKind.i64]])) ∧ (((y1) = (y1)) ∧ (((nps) = (y1)) ∧ (∀ y2 : Nat, (y2 < y1 → (∀ y3 : Nat, (y3 < List.length [Sh.str, Sh.list [Sh.int IntKind.i64]] → ((fps y2 y3) = (fps y2 y3)))))))))) ∧ ((((IntKind.i64) = (IntKind.i64)) ∧ ((pc) = (pc))) ∧ True)))))))))) := by kernel_rfl
  refine hvc.mpr ?_
  clear hvc
  dsimp only [qcopyLoad0, qcopyLoad1, qcopyLoad2, qcopyLoad3, qcopyLoad4]
  obtain ⟨k1, k2⟩ := crowdB_ok hc
  have hci : ∀ i, i < nps → copyIntsC [.list [.int .i64] (fps i 1).ln (fps i 1).fn] = true := fun i hi => Nat.ble_eq_true_of_le (by have := k2 i hi; omega)
  have hex : ∀ i, i < nps → ∀ j, j < 2 → fps i j = atFD [FD.str (fps i 0).s, FD.list [Sh.int IntKind.i64] (fps i 1).ln (fps i 1).fn] j := fun i hi j hj => by
    have h0 := (gps.at hi (show 0 < [Sh.str, Sh.list [Sh.int IntKind.i64]].length by simp)).1
    have h1 := (gps.at hi (show 1 < [Sh.str, Sh.list [Sh.int IntKind.i64]].length by simp)).1
    rcases (show j = 0 ∨ j = 1 by omega) with rfl | rfl
    · exact h0.symm
    · exact h1.symm
  simp
  refine ⟨fun h => ⟨fun _ => ⟨fun _ => ⟨fun _ => ⟨1, ⟨⟨by omega, by omega⟩, by omega⟩, by rw [wrap_id (by omega) (by omega)]; rfl, rfl, fun y hy j hj => ?_⟩, hci 0 h⟩, h⟩, h⟩, fun x h1 h2 => ⟨fun h => ⟨fun _ => ⟨fun _ => ⟨fun _ => ⟨fun _ => ⟨x + 1, ⟨⟨by omega, by omega⟩, by omega⟩, by rw [wrap_id (by omega) (by omega)]; rfl, rfl, fun y hy j hj => ?_⟩, by omega⟩, hci x h⟩, h⟩, h⟩, fun h => by omega⟩⟩
  · obtain rfl : y = 0 := by omega
    exact hex 0 h j hj
  · by_cases e : y = x
    · subst e
      rw [show Nat.blt y y = false by rw [Bool.eq_false_iff]; exact fun h => by have := Nat.le_of_ble_eq_true h; omega]
      exact hex y h j hj
    · rw [show Nat.blt y x = true from Nat.ble_eq_true_of_le (by omega)]
      rfl
end
end Go.Ex


namespace Go.Ex
open Go Go.Proofs Go.RowKit
noncomputable section
set_option maxRecDepth 1000000

def gsLa : G2 := (G2.setG gs3 24 (gFd copyLoadS (.agg [.list [.str, .list [.int .i64]], .int .i64]) copyLoadC copyLoadR))
theorem gsLa_ok : G2Ok gsLa := (G2Ok.setG gs3_ok (by kernel_rfl) (gsOk_of smLc_ok gs3_ok copyLoad_ok))
/-- Is there a part of this name among the first ones? -/
def hasNm (f : Nat → Nat → FD) : Nat → List UInt8 → Bool
  | 0, _ => false
  | n + 1, l => hasNm f n l || bytesEq (f n 0).s l
def ptErr (pc : Int) (f : Nat → Nat → FD) (i : Nat) : Int := if nameB (f i 0).s = true then (if hasNm f i (f i 0).s = true then 5 else firE (ascE (f i 1).fn pc) (f i 1).ln) else 3
def loadE (pc : Int) (n : Nat) (f : Nat → Nat → FD) : Int := if 0 ≤ pc ∧ pc ≤ 24 then (if n ≤ 24 then firE (ptErr pc f) n else 8) else 2
def loadI (pc : Int) (n : Nat) (f : Nat → Nat → FD) : Int := if 0 ≤ pc ∧ pc ≤ 24 then (if n ≤ 24 then firI (ptErr pc f) n else 0) else 0
theorem hasNm_in {f : Nat → Nat → FD} {l : List UInt8} {k : Nat} (hb : bytesEq (f k 0).s l = true) : ∀ {n : Nat}, k < n → hasNm f n l = true
  | n + 1, h => by
    rw [hasNm]
    by_cases e : k = n
    · subst e; rw [hb, Bool.or_true]
    · rw [hasNm_in hb (show k < n by omega), Bool.true_or]
def refLoadS : List PT := [.agg [.list [.str, .list [.int .i64]], .int .i64]]
def refLoadC : List FD → Bool
  | [.list _ nps fps, .int _ _] => crowdB nps fps
  | _ => false
def refLoadR : List FD → List FD
  | [.list _ nps fps, .int _ pc] => [.int .i64 (loadI pc nps fps), .int .i64 (loadE pc nps fps)]
  | _ => []
def refLoadI (nps : Nat) (fps : Nat → Nat → FD) (pc : Int) : Nat → AFam := fun i => match i with | 6 => ⟨Nat, fun _ => [{ι := Nat, G := fun x => x ≤ nps ∧ firE (ptErr pc fps) x = 0, μ := fun x => nps - x, tl := fun x => [(0, .agg [.fz (.root 0 0) (FD.list [Sh.str, Sh.list [Sh.int IntKind.i64]] nps fps), .int IntKind.i64 (.tm pc)]), (1, .one (.ptr (some (1, 0)))), (2, .one (.int IntKind.i64 (.lit (0 : Int)))), (3, .one (.int IntKind.i64 (.lit (0 : Int)))), (4, .one (.int IntKind.i64 (.tm (Int.ofNat x))))], bl := fun x => [(1, .cells 35 2 [.fz (.root 0 0) (FD.list [Sh.str, Sh.list [Sh.int IntKind.i64]] nps fps), .int IntKind.i64 (.tm pc)])], nx := (1 : Nat) + (1 : Nat)}]⟩ | 12 => ⟨Nat, fun z => [{ι := Nat, G := fun x => (z < nps ∧ nameB (fps z 0).s = true ∧ firE (ptErr pc fps) z = 0) ∧ (x ≤ z ∧ hasNm fps x (fps z 0).s = false), μ := fun x => z - x, tl := fun x => [(0, .agg [.fz (.root 0 0) (FD.list [Sh.str, Sh.list [Sh.int IntKind.i64]] nps fps), .int IntKind.i64 (.tm pc)]), (1, .one (.ptr (some (1, 0)))), (2, .one (.int IntKind.i64 (.lit (0 : Int)))), (3, .one (.int IntKind.i64 (.lit (0 : Int)))), (4, .one (.int IntKind.i64 (.tm (Int.ofNat z)))), (5, .one (.ptr (some (2, 0)))), (6, .one (.int IntKind.i64 (.tm (Int.ofNat x))))], bl := fun x => [(1, .cells 35 2 [.fz (.root 0 0) (FD.list [Sh.str, Sh.list [Sh.int IntKind.i64]] nps fps), .int IntKind.i64 (.tm pc)]), (2, .cells 143 2 [.ostr (FD.s (fps (Int.toNat (Int.ofNat z)) (0 : Nat))), .fz (.elem (.root 0 0) (Int.toNat (Int.ofNat z) * List.length [Sh.str, Sh.list [Sh.int IntKind.i64]] + ((0 : Nat) + (1 : Nat)))) (FD.list [Sh.int IntKind.i64] (FD.ln (fps (Int.toNat (Int.ofNat z)) ((0 : Nat) + (1 : Nat)))) (FD.fn (fps (Int.toNat (Int.ofNat z)) ((0 : Nat) + (1 : Nat)))))])], nx := (1 : Nat) + (1 : Nat) + (1 : Nat)}]⟩ | 17 => ⟨Nat, fun z => [{ι := Nat, G := fun x => (z < nps ∧ nameB (fps z 0).s = true ∧ firE (ptErr pc fps) z = 0 ∧ hasNm fps z (fps z 0).s = false) ∧ (x ≤ (fps z 1).ln ∧ firE (ascE (fps z 1).fn pc) x = 0), μ := fun x => (fps z 1).ln - x, tl := fun x => [(0, .agg [.fz (.root 0 0) (FD.list [Sh.str, Sh.list [Sh.int IntKind.i64]] nps fps), .int IntKind.i64 (.tm pc)]), (1, .one (.ptr (some (1, 0)))), (2, .one (.int IntKind.i64 (.lit (0 : Int)))), (3, .one (.int IntKind.i64 (.lit (0 : Int)))), (4, .one (.int IntKind.i64 (.tm (Int.ofNat z)))), (5, .one (.ptr (some (2, 0)))), (7, .one (.int IntKind.i64 (.tm (Int.ofNat x))))], bl := fun x => [(1, .cells 35 2 [.fz (.root 0 0) (FD.list [Sh.str, Sh.list [Sh.int IntKind.i64]] nps fps), .int IntKind.i64 (.tm pc)]), (2, .cells 143 2 [.ostr (FD.s (fps (Int.toNat (Int.ofNat z)) (0 : Nat))), .fz (.elem (.root 0 0) (Int.toNat (Int.ofNat z) * List.length [Sh.str, Sh.list [Sh.int IntKind.i64]] + ((0 : Nat) + (1 : Nat)))) (FD.list [Sh.int IntKind.i64] (FD.ln (fps (Int.toNat (Int.ofNat z)) ((0 : Nat) + (1 : Nat)))) (FD.fn (fps (Int.toNat (Int.ofNat z)) ((0 : Nat) + (1 : Nat)))))])], nx := (1 : Nat) + (1 : Nat) + (1 : Nat)}]⟩ | _ => ⟨Nat, fun _ => []⟩
abbrev qrefLoad4 (nps : Nat) (fps : Nat → Nat → FD) (pc : Int) : Prop := ((((Ref.root (0) (0)) = (Ref.root (0) (0))) ∧ (((FD.list [Sh.str, Sh.list [Sh.int IntKind.i64]] nps fps) = (FD.list [Sh.str, Sh.list [Sh.int IntKind.i64]] nps fps)) ∧ (true = true))) ∧ ((((IntKind.i64) = (IntKind.i64)) ∧ ((pc) = (pc))) ∧ True))
abbrev qrefLoad2 (nps : Nat) (fps : Nat → Nat → FD) (pc : Int) (y4 : Nat) (y5 : Nat) : Prop := (∃ y6 : Nat, ((((y4 < nps ∧ (((nameB (FD.s (fps y4 (0 : Nat)))) = (true)) ∧ (((firE (ptErr pc fps) y4) = ((0 : Int))) ∧ ((hasNm fps y4 (FD.s (fps y4 (0 : Nat)))) = (false))))) ∧ (y6 ≤ FD.ln (fps y4 (1 : Nat)) ∧ ((firE (ascE (FD.fn (fps y4 (1 : Nat))) pc) y6) = ((0 : Int))))) ∧ FD.ln (fps y4 (1 : Nat)) - y6 < FD.ln (fps y4 (1 : Nat)) - y5) ∧ (((true = true) ∧ ((qrefLoad4 nps fps pc) ∧ ((((1, 1) ∈ ([(2, 2), (1, 1)] : List (Nat × Nat))) ∧ ((0) = (0))) ∧ ((((IntKind.i64) = (IntKind.i64)) ∧ (((0 : Int)) = ((0 : Int)))) ∧ ((((IntKind.i64) = (IntKind.i64)) ∧ (((0 : Int)) = ((0 : Int)))) ∧ ((((IntKind.i64) = (IntKind.i64)) ∧ ((Int.ofNat y4) = (Int.ofNat y4))) ∧ ((((2, 2) ∈ ([(2, 2), (1, 1)] : List (Nat × Nat))) ∧ ((0) = (0))) ∧ ((((IntKind.i64) = (IntKind.i64)) ∧ ((Int.ofNat y6) = (IntKind.wrap IntKind.i64 (Int.ofNat y5 + (1 : Int))))) ∧ True)))))))) ∧ (((((35 : TypeId)) = ((35 : TypeId))) ∧ (((2) = (2)) ∧ (qrefLoad4 nps fps pc))) ∧ (((((143 : TypeId)) = ((143 : TypeId))) ∧ (((2) = (2)) ∧ (((FD.s (fps (Int.toNat (Int.ofNat y4)) (0 : Nat))) = (FD.s (fps (Int.toNat (Int.ofNat y4)) (0 : Nat)))) ∧ ((((Ref.elem (Ref.root (0) (0)) (Int.toNat (Int.ofNat y4) * List.length [Sh.str, Sh.list [Sh.int IntKind.i64]] + ((0 : Nat) + (1 : Nat)))) = (Ref.elem (Ref.root (0) (0)) (Int.toNat (Int.ofNat y4) * List.length [Sh.str, Sh.list [Sh.int IntKind.i64]] + ((0 : Nat) + (1 : Nat))))) ∧ (((FD.list [Sh.int IntKind.i64] (FD.ln (fps (Int.toNat (Int.ofNat y4)) ((0 : Nat) + (1 : Nat)))) (FD.fn (fps (Int.toNat (Int.ofNat y4)) ((0 : Nat) + (1 : Nat))))) = (FD.list [Sh.int IntKind.i64] (FD.ln (fps (Int.toNat (Int.ofNat y4)) ((0 : Nat) + (1 : Nat)))) (FD.fn (fps (Int.toNat (Int.ofNat y4)) ((0 : Nat) + (1 : Nat)))))) ∧ (true = true))) ∧ True)))) ∧ True)))))
abbrev qrefLoad0 (nps : Nat) (fps : Nat → Nat → FD) (pc : Int) (y4 : Nat) (y5 : Nat) : Prop := ((((decide ((0 : Int) < Int.ofNat y5)) = (true)) → False) ∧ (((decide ((0 : Int) < Int.ofNat y5)) = (false)) → ((((decide ((0 : Int) < Int.ofNat y5)) = (true)) → False) ∧ (((decide ((0 : Int) < Int.ofNat y5)) = (false)) → (qrefLoad2 nps fps pc y4 y5)))))
abbrev qrefLoad7 (nps : Nat) (fps : Nat → Nat → FD) (pc : Int) (y4 : Nat) (y5 : Nat) : Prop := (((decide ((0 : Int) < Int.ofNat y5)) = (false)) → ((((decide ((0 : Int) < Int.ofNat y5)) = (true)) → False) ∧ (((decide ((0 : Int) < Int.ofNat y5)) = (false)) → (qrefLoad0 nps fps pc y4 y5))))
abbrev qrefLoad5 (nps : Nat) (fps : Nat → Nat → FD) (pc : Int) (y4 : Nat) (y5 : Nat) : Prop := (((decide ((0 : Int) < Int.ofNat y5)) = (false)) → ((((decide ((0 : Int) < Int.ofNat y5)) = (true)) → False) ∧ (qrefLoad7 nps fps pc y4 y5)))
abbrev qrefLoad3 (nps : Nat) (fps : Nat → Nat → FD) (pc : Int) (y4 : Nat) (y5 : Nat) : Prop := (((decide ((0 : Int) < Int.ofNat y5)) = (false)) → ((((decide ((0 : Int) < Int.ofNat y5)) = (true)) → ((((decide ((0 : Int) < Int.ofNat y5)) = (true)) → ((((decide ((0 : Int) < Int.ofNat y5)) = (true)) → False) ∧ (qrefLoad7 nps fps pc y4 y5))) ∧ (qrefLoad5 nps fps pc y4 y5))) ∧ (((decide ((0 : Int) < Int.ofNat y5)) = (false)) → ((((decide ((0 : Int) < Int.ofNat y5)) = (true)) → False) ∧ (qrefLoad5 nps fps pc y4 y5)))))
abbrev qrefLoad1 (nps : Nat) (fps : Nat → Nat → FD) (pc : Int) (y4 : Nat) (y5 : Nat) : Prop := (((decide ((0 : Int) < Int.ofNat y5)) = (false)) → ((((decide ((0 : Int) < Int.ofNat y5)) = (true)) → ((((decide ((0 : Int) < Int.ofNat y5)) = (true)) → ((((decide ((0 : Int) < Int.ofNat y5)) = (true)) → ((((decide ((0 : Int) < Int.ofNat y5)) = (true)) → ((((decide ((0 : Int) < Int.ofNat y5)) = (true)) → ((((decide ((0 : Int) ≤ IntKind.wrap IntKind.i64 (Int.ofNat y5 - (1 : Int))) && decide (IntKind.wrap IntKind.i64 (Int.ofNat y5 - (1 : Int)) < (↑(FD.ln (fps (Int.toNat (Int.ofNat y4)) ((0 : Nat) + (1 : Nat)))) : Int))) = (true)) → ((((decide ((0 : Int) < Int.ofNat y5)) = (true)) → (qrefLoad0 nps fps pc y4 y5)) ∧ (((decide ((0 : Int) < Int.ofNat y5)) = (false)) → (qrefLoad0 nps fps pc y4 y5)))) ∧ (((decide ((0 : Int) ≤ IntKind.wrap IntKind.i64 (Int.ofNat y5 - (1 : Int))) && decide (IntKind.wrap IntKind.i64 (Int.ofNat y5 - (1 : Int)) < (↑(FD.ln (fps (Int.toNat (Int.ofNat y4)) ((0 : Nat) + (1 : Nat)))) : Int))) = (false)) → False))) ∧ (qrefLoad7 nps fps pc y4 y5))) ∧ (qrefLoad5 nps fps pc y4 y5))) ∧ (((decide ((0 : Int) < Int.ofNat y5)) = (false)) → ((((decide ((0 : Int) < Int.ofNat y5)) = (true)) → False) ∧ (qrefLoad5 nps fps pc y4 y5))))) ∧ (qrefLoad3 nps fps pc y4 y5))) ∧ (((decide ((0 : Int) < Int.ofNat y5)) = (false)) → ((((decide ((0 : Int) < Int.ofNat y5)) = (true)) → False) ∧ (qrefLoad3 nps fps pc y4 y5)))))
abbrev qrefLoad6 (nps : Nat) (fps : Nat → Nat → FD) (pc : Int) (y4 : Nat) (y5 : Nat) : Prop := ((((decide ((0 : Int) < Int.ofNat y5)) = (true)) → False) ∧ (((decide ((0 : Int) < Int.ofNat y5)) = (false)) → ((((decide ((0 : Int) < Int.ofNat y5)) = (true)) → False) ∧ (qrefLoad1 nps fps pc y4 y5))))
theorem refLoad_ok : FnOk (mkR smLc gsLa) Try.prog η0 25 (FI.of Try.f25 true) refLoadS (.tup [.one (.int .i64), .one (.int .i64)]) refLoadC refLoadR := by
  refine fnOk_of0 smLc_ok gsLa_ok Try.fok25 (fun fds => match fds with | [.list _ nps fps, .int _ pc] => refLoadI nps fps pc | _ => alts fun _ => []) ?_
  intro fds hf hc
  obtain ⟨nps, fps, ds0, rfl, gps, hf1⟩ := hf.list
  obtain ⟨pc, ds1, rfl, hf2⟩ := hf1.int
  obtain rfl := hf2.nil
  have hc : (crowdB nps fps) = true := hc
  have hvc : (vcF smLc gsLa (FI.of Try.f25 true) refLoadS (.tup [.one (.int .i64), .one (.int .i64)]) (refLoadI nps fps pc) noR [.list [.str, .list [.int .i64]] nps fps, .int .i64 pc] (refLoadR [.list [.str, .list [.int .i64]] nps fps, .int .i64 pc])) =
    ((true = true) ∧ (((true = true) → ((((decide ((0 : Int) ≤ pc) && decide (pc ≤ (24 : Int))) = (false)) → ((((IntKind.i64) = (IntKind.i64)) ∧ ((loadI pc nps fps) = ((0 : Int)))) ∧ ((((IntKind.i64) = (IntKind.i64)) ∧ ((loadE pc nps fps) = ((2 : Int)))) ∧ True))) ∧ (((decide ((0 : Int) ≤ pc) && decide (pc ≤ (24 : Int))) = (true)) → ((((decide ((24 : Int) < Int.ofNat nps)) = (true)) → ((((IntKind.i64) = (IntKind.i64)) ∧ ((loadI pc nps fps) = ((0 : Int)))) ∧ ((((IntKind.i64) = (IntKind.i64)) ∧ ((loadE pc nps fps) = ((8 : Int)))) ∧ True))) ∧ (((decide ((24 : Int) < Int.ofNat nps)) = (false)) → (∃ y0 : Nat, ((∃ y1 : Nat, (((y1 ≤ nps ∧ ((firE (ptErr pc fps) y1) = ((0 : Int)))) ∧ True) ∧ (((true = true) ∧ ((qrefLoad4 nps fps pc) ∧ ((((1, 1) ∈ ([(1, 1)] : List (Nat × Nat))) ∧ ((0) = (0))) ∧ ((((IntKind.i64) = (IntKind.i64)) ∧ (((0 : Int)) = ((0 : Int)))) ∧ ((((IntKind.i64) = (IntKind.i64)) ∧ (((0 : Int)) = ((0 : Int)))) ∧ ((((IntKind.i64) = (IntKind.i64)) ∧ ((Int.ofNat y1) = ((0 : Int)))) ∧ True)))))) ∧ (((((35 : TypeId)) = ((35 : Nat))) ∧ (((2) = (2)) ∧ (qrefLoad4 nps fps pc))) ∧ True)))) ∧ (∀ y1 : Nat, ((y1 ≤ nps ∧ ((firE (ptErr pc fps) y1) = ((0 : Int)))) → ((((decide (Int.ofNat y1 < Int.ofNat nps)) = (true)) → ((((decide ((0 : Int) ≤ Int.ofNat y1) && decide (Int.ofNat y1 < (↑nps : Int))) = (true)) → ((((IsNameC [FD.str (FD.s (fps (Int.toNat (Int.ofNat y1)) (0 : Nat)))]) = (true)) → ((((nameB (FD.s (fps (Int.toNat (Int.ofNat y1)) (0 : Nat)))) = (false)) → ((((IntKind.i64) = (IntKind.i64)) ∧ ((loadI pc nps fps) = (Int.ofNat y1))) ∧ ((((IntKind.i64) = (IntKind.i64)) ∧ ((loadE pc nps fps) = ((3 : Int)))) ∧ True))) ∧ (((nameB (FD.s (fps (Int.toNat (Int.ofNat y1)) (0 : Nat)))) = (true)) → (∃ y2 : Nat, ((∃ y3 : Nat, ((((y2 < nps ∧ (((nameB (FD.s (fps y2 (0 : Nat)))) = (true)) ∧ ((firE (ptErr pc fps) y2) = ((0 : Int))))) ∧ (y3 ≤ y2 ∧ ((hasNm fps y3 (FD.s (fps y2 (0 : Nat)))) = (false)))) ∧ True) ∧ (((true = true) ∧ ((qrefLoad4 nps fps pc) ∧ ((((1, 1) ∈ ([(2, 2), (1, 1)] : List (Nat × Nat))) ∧ ((0) = (0))) ∧ ((((IntKind.i64) = (IntKind.i64)) ∧ (((0 : Int)) = ((0 : Int)))) ∧ ((((IntKind.i64) = (IntKind.i64)) ∧ (((0 : Int)) = ((0 : Int)))) ∧ ((((IntKind.i64) = (IntKind.i64)) ∧ ((Int.ofNat y2) = (Int.ofNat y1))) ∧ ((((2, 2) ∈ ([(2, 2), (1, 1)] : List (Nat × Nat))) ∧ ((0) = (0))) ∧ ((((IntKind.i64) = (IntKind.i64)) ∧ ((Int.ofNat y3) = ((0 : Int)))) ∧ True)))))))) ∧ (((((35 : TypeId)) = ((35 : TypeId))) ∧ (((2) = (2)) ∧ (qrefLoad4 nps fps pc))) ∧ (((((143 : TypeId)) = ((143 : Nat))) ∧ (((2) = (2)) ∧ (((FD.s (fps (Int.toNat (Int.ofNat y2)) (0 : Nat))) = (FD.s (fps (Int.toNat (Int.ofNat y1)) (0 : Nat)))) ∧ ((((Ref.elem (Ref.root (0) (0)) (Int.toNat (Int.ofNat y2) * List.length [Sh.str, Sh.list [Sh.int IntKind.i64]] + ((0 : Nat) + (1 : Nat)))) = (Ref.elem (Ref.root (0) (0)) (Int.toNat (Int.ofNat y1) * List.length [Sh.str, Sh.list [Sh.int IntKind.i64]] + ((0 : Nat) + (1 : Nat))))) ∧ (((FD.list [Sh.int IntKind.i64] (FD.ln (fps (Int.toNat (Int.ofNat y2)) ((0 : Nat) + (1 : Nat)))) (FD.fn (fps (Int.toNat (Int.ofNat y2)) ((0 : Nat) + (1 : Nat))))) = (FD.list [Sh.int IntKind.i64] (FD.ln (fps (Int.toNat (Int.ofNat y1)) ((0 : Nat) + (1 : Nat)))) (FD.fn (fps (Int.toNat (Int.ofNat y1)) ((0 : Nat) + (1 : Nat)))))) ∧ (true = true))) ∧ True)))) ∧ True))))) ∧ (∀ y3 : Nat, (((y2 < nps ∧ (((nameB (FD.s (fps y2 (0 : Nat)))) = (true)) ∧ ((firE (ptErr pc fps) y2) = ((0 : Int))))) ∧ (y3 ≤ y2 ∧ ((hasNm fps y3 (FD.s (fps y2 (0 : Nat)))) = (false)))) → ((((decide (Int.ofNat y3 < Int.ofNat y2)) = (true)) → ((((decide ((0 : Int) ≤ Int.ofNat y3) && decide (Int.ofNat y3 < (↑nps : Int))) = (true)) → ((((bytesEq (FD.s (fps (Int.toNat (Int.ofNat y3)) ((0 : Nat) + Field.offset { name := "Name", type := (9 : Nat), offset := (0 : Nat), embedded := false, tag := "", pkgPath := "", byteOffset := (0 : Nat) }))) (FD.s (fps (Int.toNat (Int.ofNat y2)) (0 : Nat)))) = (true)) → ((((IntKind.i64) = (IntKind.i64)) ∧ ((loadI pc nps fps) = (Int.ofNat y2))) ∧ ((((IntKind.i64) = (IntKind.i64)) ∧ ((loadE pc nps fps) = ((5 : Int)))) ∧ True))) ∧ (((bytesEq (FD.s (fps (Int.toNat (Int.ofNat y3)) ((0 : Nat) + Field.offset { name := "Name", type := (9 : Nat), offset := (0 : Nat), embedded := false, tag := "", pkgPath := "", byteOffset := (0 : Nat) }))) (FD.s (fps (Int.toNat (Int.ofNat y2)) (0 : Nat)))) = (false)) → (∃ y4 : Nat, ((((y2 < nps ∧ (((nameB (FD.s (fps y2 (0 : Nat)))) = (true)) ∧ ((firE (ptErr pc fps) y2) = ((0 : Int))))) ∧ (y4 ≤ y2 ∧ ((hasNm fps y4 (FD.s (fps y2 (0 : Nat)))) = (false)))) ∧ y2 - y4 < y2 - y3) ∧ (((true = true) ∧ ((qrefLoad4 nps fps pc) ∧ ((((1, 1) ∈ ([(2, 2), (1, 1)] : List (Nat × Nat))) ∧ ((0) = (0))) ∧ ((((IntKind.i64) = (IntKind.i64)) ∧ (((0 : Int)) = ((0 : Int)))) ∧ ((((IntKind.i64) = (IntKind.i64)) ∧ (((0 : Int)) = ((0 : Int)))) ∧ ((((IntKind.i64) = (IntKind.i64)) ∧ ((Int.ofNat y2) = (Int.ofNat y2))) ∧ ((((2, 2) ∈ ([(2, 2), (1, 1)] : List (Nat × Nat))) ∧ ((0) = (0))) ∧ ((((IntKind.i64) = (IntKind.i64)) ∧ ((Int.ofNat y4) = (IntKind.wrap IntKind.i64 (Int.ofNat y3 + (1 : Int))))) ∧ True)))))))) ∧ (((((35 : TypeId)) = ((35 : TypeId))) ∧ (((2) = (2)) ∧ (qrefLoad4 nps fps pc))) ∧ (((((143 : TypeId)) = ((143 : TypeId))) ∧ (((2) = (2)) ∧ (((FD.s (fps (Int.toNat (Int.ofNat y2)) (0 : Nat))) = (FD.s (fps (Int.toNat (Int.ofNat y2)) (0 : Nat)))) ∧ ((((Ref.elem (Ref.root (0) (0)) (Int.toNat (Int.ofNat y2) * List.length [Sh.str, Sh.list [Sh.int IntKind.i64]] + ((0 : Nat) + (1 : Nat)))) = (Ref.elem (Ref.root (0) (0)) (Int.toNat (Int.ofNat y2) * List.length [Sh.str, Sh.list [Sh.int IntKind.i64]] + ((0 : Nat) + (1 : Nat))))) ∧ (((FD.list [Sh.int IntKind.i64] (FD.ln (fps (Int.toNat (Int.ofNat y2)) ((0 : Nat) + (1 : Nat)))) (FD.fn (fps (Int.toNat (Int.ofNat y2)) ((0 : Nat) + (1 : Nat))))) = (FD.list [Sh.int IntKind.i64] (FD.ln (fps (Int.toNat (Int.ofNat y2)) ((0 : Nat) + (1 : Nat)))) (FD.fn (fps (Int.toNat (Int.ofNat y2)) ((0 : Nat) + (1 : Nat)))))) ∧ (true = true))) ∧ True)))) ∧ True)))))))) ∧ (((decide ((0 : Int) ≤ Int.ofNat y3) && decide (Int.ofNat y3 < (↑nps : Int))) = (false)) → False))) ∧ (((decide (Int.ofNat y3 < Int.ofNat y2)) = (false)) → (∃ y4 : Nat, ((∃ y5 : Nat, ((((y4 < nps ∧ (((nameB (FD.s (fps y4 (0 : Nat)))) = (true)) ∧ (((firE (ptErr pc fps) y4) = ((0 : Int))) ∧ ((hasNm fps y4 (FD.s (fps y4 (0 : Nat)))) = (false))))) ∧ (y5 ≤ FD.ln (fps y4 (1 : Nat)) ∧ ((firE (ascE (FD.fn (fps y4 (1 : Nat))) pc) y5) = ((0 : Int))))) ∧ True) ∧ (((true = true) ∧ ((qrefLoad4 nps fps pc) ∧ ((((1, 1) ∈ ([(2, 2), (1, 1)] : List (Nat × Nat))) ∧ ((0) = (0))) ∧ ((((IntKind.i64) = (IntKind.i64)) ∧ (((0 : Int)) = ((0 : Int)))) ∧ ((((IntKind.i64) = (IntKind.i64)) ∧ (((0 : Int)) = ((0 : Int)))) ∧ ((((IntKind.i64) = (IntKind.i64)) ∧ ((Int.ofNat y4) = (Int.ofNat y2))) ∧ ((((2, 2) ∈ ([(2, 2), (1, 1)] : List (Nat × Nat))) ∧ ((0) = (0))) ∧ ((((IntKind.i64) = (IntKind.i64)) ∧ ((Int.ofNat y5) = ((0 : Int)))) ∧ True)))))))) ∧ (((((35 : TypeId)) = ((35 : TypeId))) ∧ (((2) = (2)) ∧ (qrefLoad4 nps fps pc))) ∧ (((((143 : TypeId)) = ((143 : TypeId))) ∧ (((2) = (2)) ∧ (((FD.s (fps (Int.toNat (Int.ofNat y4)) (0 : Nat))) = (FD.s (fps (Int.toNat (Int.ofNat y2)) (0 : Nat)))) ∧ ((((Ref.elem (Ref.root (0) (0)) (Int.toNat (Int.ofNat y4) * List.length [Sh.str, Sh.list [Sh.int IntKind.i64]] + ((0 : Nat) + (1 : Nat)))) = (Ref.elem (Ref.root (0) (0)) (Int.toNat (Int.ofNat y2) * List.length [Sh.str, Sh.list [Sh.int IntKind.i64]] + ((0 : Nat) + (1 : Nat))))) ∧ (((FD.list [Sh.int IntKind.i64] (FD.ln (fps (Int.toNat (Int.ofNat y4)) ((0 : Nat) + (1 : Nat)))) (FD.fn (fps (Int.toNat (Int.ofNat y4)) ((0 : Nat) + (1 : Nat))))) = (FD.list [Sh.int IntKind.i64] (FD.ln (fps (Int.toNat (Int.ofNat y2)) ((0 : Nat) + (1 : Nat)))) (FD.fn (fps (Int.toNat (Int.ofNat y2)) ((0 : Nat) + (1 : Nat)))))) ∧ (true = true))) ∧ True)))) ∧ True))))) ∧ (∀ y5 : Nat, (((y4 < nps ∧ (((nameB (FD.s (fps y4 (0 : Nat)))) = (true)) ∧ (((firE (ptErr pc fps) y4) = ((0 : Int))) ∧ ((hasNm fps y4 (FD.s (fps y4 (0 : Nat)))) = (false))))) ∧ (y5 ≤ FD.ln (fps y4 (1 : Nat)) ∧ ((firE (ascE (FD.fn (fps y4 (1 : Nat))) pc) y5) = ((0 : Int))))) → ((((decide (Int.ofNat y5 < Int.ofNat (FD.ln (fps (Int.toNat (Int.ofNat y4)) ((0 : Nat) + (1 : Nat)))))) = (true)) → ((((decide ((0 : Int) ≤ Int.ofNat y5) && decide (Int.ofNat y5 < (↑(FD.ln (fps (Int.toNat (Int.ofNat y4)) ((0 : Nat) + (1 : Nat)))) : Int))) = (true)) → (((true = true) → ((((decide ((0 : Int) ≤ FD.i (FD.fn (fps (Int.toNat (Int.ofNat y4)) ((0 : Nat) + (1 : Nat))) (Int.toNat (Int.ofNat y5)) (0 : Nat))) && decide (FD.i (FD.fn (fps (Int.toNat (Int.ofNat y4)) ((0 : Nat) + (1 : Nat))) (Int.toNat (Int.ofNat y5)) (0 : Nat)) ≤ IntKind.wrap IntKind.i64 (pc - (1 : Int)))) = (false)) → ((((IntKind.i64) = (IntKind.i64)) ∧ ((loadI pc nps fps) = (Int.ofNat y4))) ∧ ((((IntKind.i64) = (IntKind.i64)) ∧ ((loadE pc nps fps) = ((6 : Int)))) ∧ True))) ∧ (((decide ((0 : Int) ≤ FD.i (FD.fn (fps (Int.toNat (Int.ofNat y4)) ((0 : Nat) + (1 : Nat))) (Int.toNat (Int.ofNat y5)) (0 : Nat))) && decide (FD.i (FD.fn (fps (Int.toNat (Int.ofNat y4)) ((0 : Nat) + (1 : Nat))) (Int.toNat (Int.ofNat y5)) (0 : Nat)) ≤ IntKind.wrap IntKind.i64 (pc - (1 : Int)))) = (true)) → ((((decide ((0 : Int) < Int.ofNat y5)) = (true)) → ((((decide ((0 : Int) < Int.ofNat y5)) = (true)) → ((((decide ((0 : Int) < Int.ofNat y5)) = (true)) → ((((decide ((0 : Int) < Int.ofNat y5)) = (true)) → ((((decide ((0 : Int) ≤ Int.ofNat y5) && decide (Int.ofNat y5 < (↑(FD.ln (fps (Int.toNat (Int.ofNat y4)) ((0 : Nat) + (1 : Nat)))) : Int))) = (true)) → ((((decide ((0 : Int) < Int.ofNat y5)) = (true)) → ((((decide ((0 : Int) < Int.ofNat y5)) = (true)) → ((((decide ((0 : Int) < Int.ofNat y5)) = (true)) → ((((decide ((0 : Int) < Int.ofNat y5)) = (true)) → ((((decide ((0 : Int) < Int.ofNat y5)) = (true)) → ((((decide ((0 : Int) < Int.ofNat y5)) = (true)) → ((((decide ((0 : Int) ≤ IntKind.wrap IntKind.i64 (Int.ofNat y5 - (1 : Int))) && decide (IntKind.wrap IntKind.i64 (Int.ofNat y5 - (1 : Int)) < (↑(FD.ln (fps (Int.toNat (Int.ofNat y4)) ((0 : Nat) + (1 : Nat)))) : Int))) = (true)) → ((((decide ((0 : Int) < Int.ofNat y5)) = (true)) → ((((decide ((0 : Int) < Int.ofNat y5)) = (true)) → ((((decide ((0 : Int) < Int.ofNat y5)) = (true)) → ((((decide (FD.i (FD.fn (fps (Int.toNat (Int.ofNat y4)) ((0 : Nat) + (1 : Nat))) (Int.toNat (IntKind.wrap IntKind.i64 (Int.ofNat y5 - (1 : Int)))) (0 : Nat)) < FD.i (FD.fn (fps (Int.toNat (Int.ofNat y4)) ((0 : Nat) + (1 : Nat))) (Int.toNat (Int.ofNat y5)) (0 : Nat)))) = (false)) → ((((IntKind.i64) = (IntKind.i64)) ∧ ((loadI pc nps fps) = (Int.ofNat y4))) ∧ ((((IntKind.i64) = (IntKind.i64)) ∧ ((loadE pc nps fps) = ((10 : Int)))) ∧ True))) ∧ (((decide (FD.i (FD.fn (fps (Int.toNat (Int.ofNat y4)) ((0 : Nat) + (1 : Nat))) (Int.toNat (IntKind.wrap IntKind.i64 (Int.ofNat y5 - (1 : Int)))) (0 : Nat)) < FD.i (FD.fn (fps (Int.toNat (Int.ofNat y4)) ((0 : Nat) + (1 : Nat))) (Int.toNat (Int.ofNat y5)) (0 : Nat)))) = (true)) → (qrefLoad2 nps fps pc y4 y5)))) ∧ (((decide ((0 : Int) < Int.ofNat y5)) = (false)) → (qrefLoad2 nps fps pc y4 y5)))) ∧ (((decide ((0 : Int) < Int.ofNat y5)) = (false)) → ((((decide ((0 : Int) < Int.ofNat y5)) = (true)) → False) ∧ (((decide ((0 : Int) < Int.ofNat y5)) = (false)) → (qrefLoad2 nps fps pc y4 y5)))))) ∧ (((decide ((0 : Int) < Int.ofNat y5)) = (false)) → (qrefLoad0 nps fps pc y4 y5)))) ∧ (((decide ((0 : Int) ≤ IntKind.wrap IntKind.i64 (Int.ofNat y5 - (1 : Int))) && decide (IntKind.wrap IntKind.i64 (Int.ofNat y5 - (1 : Int)) < (↑(FD.ln (fps (Int.toNat (Int.ofNat y4)) ((0 : Nat) + (1 : Nat)))) : Int))) = (false)) → False))) ∧ (qrefLoad7 nps fps pc y4 y5))) ∧ (qrefLoad5 nps fps pc y4 y5))) ∧ (((decide ((0 : Int) < Int.ofNat y5)) = (false)) → ((((decide ((0 : Int) < Int.ofNat y5)) = (true)) → False) ∧ (qrefLoad5 nps fps pc y4 y5))))) ∧ (qrefLoad3 nps fps pc y4 y5))) ∧ (((decide ((0 : Int) < Int.ofNat y5)) = (false)) → ((((decide ((0 : Int) < Int.ofNat y5)) = (true)) → False) ∧ (qrefLoad3 nps fps pc y4 y5))))) ∧ (qrefLoad1 nps fps pc y4 y5))) ∧ (((decide ((0 : Int) ≤ Int.ofNat y5) && decide (Int.ofNat y5 < (↑(FD.ln (fps (Int.toNat (Int.ofNat y4)) ((0 : Nat) + (1 : Nat)))) : Int))) = (false)) → False))) ∧ (((decide ((0 : Int) < Int.ofNat y5)) = (false)) → ((((decide ((0 : Int) < Int.ofNat y5)) = (true)) → False) ∧ (qrefLoad1 nps fps pc y4 y5))))) ∧ (((decide ((0 : Int) < Int.ofNat y5)) = (false)) → (qrefLoad6 nps fps pc y4 y5)))) ∧ (((decide ((0 : Int) < Int.ofNat y5)) = (false)) → ((((decide ((0 : Int) < Int.ofNat y5)) = (true)) → (qrefLoad6 nps fps pc y4 y5)) ∧ (((decide ((0 : Int) < Int.ofNat y5)) = (false)) → (qrefLoad6 nps fps pc y4 y5)))))) ∧ (((decide ((0 : Int) < Int.ofNat y5)) = (false)) → ((((decide ((0 : Int) < Int.ofNat y5)) = (true)) → False) ∧ (((decide ((0 : Int) < Int.ofNat y5)) = (false)) → ((((decide ((0 : Int) < Int.ofNat y5)) = (true)) → (qrefLoad6 nps fps pc y4 y5)) ∧ (((decide ((0 : Int) < Int.ofNat y5)) = (false)) → (qrefLoad6 nps fps pc y4 y5)))))))))) ∧ ((true = false) → False))) ∧ (((decide ((0 : Int) ≤ Int.ofNat y5) && decide (Int.ofNat y5 < (↑(FD.ln (fps (Int.toNat (Int.ofNat y4)) ((0 : Nat) + (1 : Nat)))) : Int))) = (false)) → False))) ∧ (((decide (Int.ofNat y5 < Int.ofNat (FD.ln (fps (Int.toNat (Int.ofNat y4)) ((0 : Nat) + (1 : Nat)))))) = (false)) → (∃ y6 : Nat, (((y6 ≤ nps ∧ ((firE (ptErr pc fps) y6) = ((0 : Int)))) ∧ nps - y6 < nps - y1) ∧ (((true = true) ∧ ((qrefLoad4 nps fps pc) ∧ ((((1, 1) ∈ ([(1, 1)] : List (Nat × Nat))) ∧ ((0) = (0))) ∧ ((((IntKind.i64) = (IntKind.i64)) ∧ (((0 : Int)) = ((0 : Int)))) ∧ ((((IntKind.i64) = (IntKind.i64)) ∧ (((0 : Int)) = ((0 : Int)))) ∧ ((((IntKind.i64) = (IntKind.i64)) ∧ ((Int.ofNat y6) = (IntKind.wrap IntKind.i64 (Int.ofNat y4 + (1 : Int))))) ∧ True)))))) ∧ (((((35 : TypeId)) = ((35 : TypeId))) ∧ (((2) = (2)) ∧ (qrefLoad4 nps fps pc))) ∧ True))))))))))))))))))) ∧ (((IsNameC [FD.str (FD.s (fps (Int.toNat (Int.ofNat y1)) (0 : Nat)))]) = (false)) → False))) ∧ (((decide ((0 : Int) ≤ Int.ofNat y1) && decide (Int.ofNat y1 < (↑nps : Int))) = (false)) → False))) ∧ (((decide (Int.ofNat y1 < Int.ofNat nps)) = (false)) → ((((IntKind.i64) = (IntKind.i64)) ∧ ((loadI pc nps fps) = ((0 : Int)))) ∧ ((((IntKind.i64) = (IntKind.i64)) ∧ ((loadE pc nps fps) = ((0 : Int)))) ∧ True))))))))))))) ∧ ((true = false) → False))) := by kernel_rfl
  refine hvc.mpr ?_
  clear hvc
  dsimp only [qrefLoad4, qrefLoad2, qrefLoad0, qrefLoad7, qrefLoad5, qrefLoad3, qrefLoad1, qrefLoad6]
  obtain ⟨k1, k2⟩ := crowdB_ok hc
  have hnm : ∀ i, i < nps → IsNameC [.str (fps i 0).s] = true := fun i hi => Nat.ble_eq_true_of_le (by have := k2 i hi; omega)
  by_cases h1 : 0 ≤ pc ∧ pc ≤ 24
  · obtain ⟨h1, h2⟩ := h1
    by_cases h3 : nps ≤ 24
    · have eE : loadE pc nps fps = firE (ptErr pc fps) nps := by simp only [loadE, h1, h2, h3, and_self, if_true]
      have eI : loadI pc nps fps = firI (ptErr pc fps) nps := by simp only [loadI, h1, h2, h3, and_self, if_true]
      simp [h1, h2, h3, eE, eI]
      have w1 : ∀ k : Nat, k < 1000 → ((k + 1 : Nat) : Int) = IntKind.i64.wrap ((k : Int) + 1) := fun k hk => by
        rw [wrap_id (by omega) (by omega)]
        rfl
      refine ⟨fun h => by omega, fun _ => ⟨rfl, fun y hy he => ⟨fun hlt => ⟨fun _ => ⟨fun _ => ?_, hnm y hlt⟩, hlt⟩, fun hge => ?_⟩⟩⟩
      · have hit : ∀ v : Int, ptErr pc fps y = v → v ≠ 0 → firI (ptErr pc fps) nps = y ∧ firE (ptErr pc fps) nps = v := fun v hv h0 => by
          obtain ⟨q1, q2⟩ := firE_hit he (by rw [hv]; exact h0) hlt
          exact ⟨q2, by rw [q1, hv]⟩
        have hln := k2 y hlt
        refine ⟨fun hn0 => hit 3 (by rw [ptErr, hn0]; rfl) (by omega), fun hn1 => ⟨y, ⟨0, ⟨⟨hlt, hn1, he⟩, by omega, rfl⟩, ⟨rfl, rfl⟩, rfl, rfl, rfl, rfl⟩, fun k _ _ _ hk hk0 => ⟨fun hky => ⟨fun _ => ⟨fun hb => hit 5 ?_ (by omega), fun hb => ⟨k + 1, ⟨⟨⟨hlt, hn1, he⟩, by omega, ?_⟩, by omega⟩, w1 k (by omega)⟩⟩, by omega⟩, fun hky => ?_⟩⟩⟩
        · rw [ptErr, if_pos hn1, if_pos (hasNm_in hb hky)]
        · rw [hasNm, hk0, hb]; rfl
        · obtain rfl : k = y := by omega
          have hF : ptErr pc fps k = firE (ascE (fps k 1).fn pc) (fps k 1).ln := by rw [ptErr, if_pos hn1, if_neg (by rw [hk0]; simp)]
          refine ⟨k, ⟨0, ⟨⟨hlt, hn1, he, hk0⟩, by omega, rfl⟩, ⟨rfl, rfl⟩, rfl, rfl, rfl, rfl⟩, fun m _ _ _ _ hm he2 => ⟨fun hml => ?_, fun hml => ⟨k + 1, ⟨⟨by omega, firE_up he ?_⟩, by omega⟩, w1 k (by omega)⟩⟩⟩
          · obtain ⟨a1, a2, a3⟩ := ascE_in (by omega) hml he2
            by_cases h0 : m = 0
            · subst h0
              simp at a1 a2 a3
              simp [hml]
              refine ⟨fun h => hit 6 (by rw [hF]; exact a1 h) (by omega), fun b1 b2 => ?_⟩
              obtain ⟨u, ⟨⟨u1, u2⟩, u3⟩, u4⟩ := a3 b1 b2
              exact ⟨u, ⟨⟨⟨hlt, hn1, he, hk0⟩, u1, u2⟩, u3⟩, u4⟩
            · have hp : 0 < m := by omega
              have hw := asc_wrap (n := (fps k 1).ln) (by omega) hml hp
              simp [h0, hp, hw, hml]
              refine ⟨fun h => hit 6 (by rw [hF]; exact a1 fun hh => by have := h hh.1; omega) (by omega), fun b1 b2 => ⟨fun _ => ⟨fun b3 => hit 10 (by rw [hF]; exact a2 b1 b2 hp b3) (by omega), fun b3 => ?_⟩, by omega⟩⟩
              obtain ⟨u, ⟨⟨u1, u2⟩, u3⟩, u4⟩ := a3 b1 b2 fun _ => b3
              exact ⟨u, ⟨⟨⟨hlt, hn1, he, hk0⟩, u1, u2⟩, u3⟩, u4⟩
          · rw [hF, show (fps k 1).ln = m by omega]; exact he2
      · rw [show nps = y by omega]
        exact ⟨firI_zero he, he⟩
    · have eE : loadE pc nps fps = 8 := by simp only [loadE, h1, h2, h3, and_self, if_true, if_false]
      have eI : loadI pc nps fps = 0 := by simp only [loadI, h1, h2, h3, and_self, if_true, if_false]
      simp [h1, h2, eE, eI]
      omega
  · have eE : loadE pc nps fps = 2 := if_neg h1
    have eI : loadI pc nps fps = 0 := if_neg h1
    simp [eE, eI]
    omega
theorem mgt_b (b : Bool) : (mgt (bif b then some [FD.bool true] else none) [FD.bool false] 0).b = b := by cases b <;> rfl
theorem hasNm_map (f : Nat → Nat → FD) (x : Nat) (l : List UInt8) : (if hasNm f (x + 1) l = true then some [FD.bool true] else none) = if l = (f x 0).s then some [FD.bool true] else bif hasNm f x l then some [FD.bool true] else none := by
  by_cases e : l = (f x 0).s
  · rw [if_pos e, if_pos]
    rw [hasNm, e, bytesEq_eq, beq_self_eq_true, Bool.or_true]
  · rw [if_neg e]
    have : bytesEq (f x 0).s l = false := by
      rw [bytesEq_eq, beq_eq_false_iff_ne]
      exact fun h => e h.symm
    rw [hasNm, this, Bool.or_false]
    cases hasNm f x l <;> rfl
def checkLoadS : List PT := [.agg [.list [.str, .list [.int .i64]], .int .i64]]
def checkLoadC : List FD → Bool
  | [.list _ nps fps, .int _ _] => crowdB nps fps
  | _ => false
def checkLoadR : List FD → List FD
  | [.list _ nps fps, .int _ pc] => [.int .i64 (loadI pc nps fps), .int .i64 (loadE pc nps fps)]
  | _ => []
def checkLoadI (nps : Nat) (fps : Nat → Nat → FD) (pc : Int) : Nat → AFam := fun i => match i with | 7 => ⟨Nat, fun _ => [{ι := Nat, G := fun x => x ≤ nps ∧ firE (ptErr pc fps) x = 0, μ := fun x => nps - x, tl := fun x => [(0, .agg [.fz (.root 0 0) (FD.list [Sh.str, Sh.list [Sh.int IntKind.i64]] nps fps), .int IntKind.i64 (.tm pc)]), (1, .one (.ptr (some (1, 0)))), (2, .one (.int IntKind.i64 (.lit (0 : Int)))), (3, .one (.int IntKind.i64 (.lit (0 : Int)))), (4, .one (.map (some 2))), (21, .one (.fz (.root 0 0) (FD.list [Sh.str, Sh.list [Sh.int IntKind.i64]] nps fps))), (22, .one (.int IntKind.i64 (.tm (Int.ofNat nps)))), (23, .one (.int IntKind.i64 (.tm (Int.ofNat x))))], bl := fun x => [(1, .cells 35 2 [.fz (.root 0 0) (FD.list [Sh.str, Sh.list [Sh.int IntKind.i64]] nps fps), .int IntKind.i64 (.tm pc)]), (2, .map [.bool] false (fun l => bif hasNm fps x l then some [.bool true] else none))], nx := (1 : Nat) + (1 : Nat) + (1 : Nat)}]⟩ | 15 => ⟨Nat, fun z => [{ι := Nat, G := fun x => (z < nps ∧ nameB (fps z 0).s = true ∧ firE (ptErr pc fps) z = 0 ∧ hasNm fps z (fps z 0).s = false) ∧ (x ≤ (fps z 1).ln ∧ firE (ascE (fps z 1).fn pc) x = 0), μ := fun x => (fps z 1).ln - x, tl := fun x => [(0, .agg [.fz (.root 0 0) (FD.list [Sh.str, Sh.list [Sh.int IntKind.i64]] nps fps), .int IntKind.i64 (.tm pc)]), (1, .one (.ptr (some (1, 0)))), (2, .one (.int IntKind.i64 (.lit (0 : Int)))), (3, .one (.int IntKind.i64 (.lit (0 : Int)))), (4, .one (.map (some 2))), (5, .one (.int IntKind.i64 (.tm (Int.ofNat z)))), (6, .one (.ptr (some (3, 0)))), (21, .one (.fz (.root 0 0) (FD.list [Sh.str, Sh.list [Sh.int IntKind.i64]] nps fps))), (22, .one (.int IntKind.i64 (.tm (Int.ofNat nps)))), (23, .one (.int IntKind.i64 (.tm (Int.ofNat z)))), (44, .one (.fz (.elem (.root 0 0) (Int.toNat (Int.ofNat z) * List.length [Sh.str, Sh.list [Sh.int IntKind.i64]] + ((0 : Nat) + (1 : Nat)))) (FD.list [Sh.int IntKind.i64] (FD.ln (fps (Int.toNat (Int.ofNat z)) ((0 : Nat) + (1 : Nat)))) (FD.fn (fps (Int.toNat (Int.ofNat z)) ((0 : Nat) + (1 : Nat))))))), (45, .one (.int IntKind.i64 (.tm (Int.ofNat (FD.ln (fps (Int.toNat (Int.ofNat z)) ((0 : Nat) + (1 : Nat)))))))), (46, .one (.int IntKind.i64 (.tm (Int.ofNat x))))], bl := fun x => [(1, .cells 35 2 [.fz (.root 0 0) (FD.list [Sh.str, Sh.list [Sh.int IntKind.i64]] nps fps), .int IntKind.i64 (.tm pc)]), (2, .map [.bool] false (fun l => bif hasNm fps (z + 1) l then some [.bool true] else none)), (3, .cells 143 2 [.ostr (FD.s (fps (Int.toNat (Int.ofNat z)) (0 : Nat))), .fz (.elem (.root 0 0) (Int.toNat (Int.ofNat z) * List.length [Sh.str, Sh.list [Sh.int IntKind.i64]] + ((0 : Nat) + (1 : Nat)))) (FD.list [Sh.int IntKind.i64] (FD.ln (fps (Int.toNat (Int.ofNat z)) ((0 : Nat) + (1 : Nat)))) (FD.fn (fps (Int.toNat (Int.ofNat z)) ((0 : Nat) + (1 : Nat)))))])], nx := (1 : Nat) + (1 : Nat) + (1 : Nat) + (1 : Nat)}]⟩ | _ => ⟨Nat, fun _ => []⟩
abbrev qcheckLoad0 (nps : Nat) (fps : Nat → Nat → FD) : Prop := (((Ref.root (0) (0)) = (Ref.root (0) (0))) ∧ (((FD.list [Sh.str, Sh.list [Sh.int IntKind.i64]] nps fps) = (FD.list [Sh.str, Sh.list [Sh.int IntKind.i64]] nps fps)) ∧ (true = true)))
theorem checkLoad_ok : FnOk (mkR smLc gsLa) Try.prog η0 68 (FI.of Try.f68 true) checkLoadS (.tup [.one (.int .i64), .one (.int .i64)]) checkLoadC checkLoadR := by
  refine fnOk_of0 smLc_ok gsLa_ok Try.fok68 (fun fds => match fds with | [.list _ nps fps, .int _ pc] => checkLoadI nps fps pc | _ => alts fun _ => []) ?_
  intro fds hf hc
  obtain ⟨nps, fps, ds0, rfl, gps, hf1⟩ := hf.list
  obtain ⟨pc, ds1, rfl, hf2⟩ := hf1.int
  obtain rfl := hf2.nil
  have hc : (crowdB nps fps) = true := hc
  have hvc : (vcF smLc gsLa (FI.of Try.f68 true) checkLoadS (.tup [.one (.int .i64), .one (.int .i64)]) (checkLoadI nps fps pc) noR [.list [.str, .list [.int .i64]] nps fps, .int .i64 pc] (checkLoadR [.list [.str, .list [.int .i64]] nps fps, .int .i64 pc])) =
    ((true = true) ∧ (((true = true) → ((((decide ((0 : Int) ≤ pc) && decide (pc ≤ (24 : Int))) = (false)) → ((((IntKind.i64) = (IntKind.i64)) ∧ ((loadI pc nps fps) = ((0 : Int)))) ∧ ((((IntKind.i64) = (IntKind.i64)) ∧ ((loadE pc nps fps) = ((2 : Int)))) ∧ True))) ∧ (((decide ((0 : Int) ≤ pc) && decide (pc ≤ (24 : Int))) = (true)) → ((((decide ((24 : Int) < Int.ofNat nps)) = (true)) → ((((IntKind.i64) = (IntKind.i64)) ∧ ((loadI pc nps fps) = ((0 : Int)))) ∧ ((((IntKind.i64) = (IntKind.i64)) ∧ ((loadE pc nps fps) = ((8 : Int)))) ∧ True))) ∧ (((decide ((24 : Int) < Int.ofNat nps)) = (false)) → (∃ y0 : Nat, ((∃ y1 : Nat, (((y1 ≤ nps ∧ ((firE (ptErr pc fps) y1) = ((0 : Int)))) ∧ True) ∧ (((true = true) ∧ (((qcheckLoad0 nps fps) ∧ ((((IntKind.i64) = (IntKind.i64)) ∧ ((pc) = (pc))) ∧ True)) ∧ ((((1, 1) ∈ ([(2, 2), (1, 1)] : List (Nat × Nat))) ∧ ((0) = (0))) ∧ ((((IntKind.i64) = (IntKind.i64)) ∧ (((0 : Int)) = ((0 : Int)))) ∧ ((((IntKind.i64) = (IntKind.i64)) ∧ (((0 : Int)) = ((0 : Int)))) ∧ (((2, 2) ∈ ([(2, 2), (1, 1)] : List (Nat × Nat))) ∧ ((qcheckLoad0 nps fps) ∧ ((((IntKind.i64) = (IntKind.i64)) ∧ ((Int.ofNat nps) = (Int.ofNat nps))) ∧ ((((IntKind.i64) = (IntKind.i64)) ∧ ((Int.ofNat y1) = ((0 : Int)))) ∧ True))))))))) ∧ (((((35 : TypeId)) = ((35 : Nat))) ∧ (((2) = (2)) ∧ ((qcheckLoad0 nps fps) ∧ ((((IntKind.i64) = (IntKind.i64)) ∧ ((pc) = (pc))) ∧ True)))) ∧ (((([Sh.bool]) = ([Sh.bool])) ∧ ((false = false) ∧ (∀ y2 : List UInt8, ((bif hasNm fps y1 y2 then some [FD.bool true] else none) = (none))))) ∧ True))))) ∧ (∀ y1 : Nat, ((y1 ≤ nps ∧ ((firE (ptErr pc fps) y1) = ((0 : Int)))) → ((((decide (Int.ofNat y1 < Int.ofNat nps)) = (true)) → ((((decide ((0 : Int) ≤ Int.ofNat y1) && decide (Int.ofNat y1 < (↑nps : Int))) = (true)) → ((((isNameC [FD.str (FD.s (fps (Int.toNat (Int.ofNat y1)) (0 : Nat)))]) = (true)) → ((((nameB (FD.s (fps (Int.toNat (Int.ofNat y1)) (0 : Nat)))) = (false)) → ((((IntKind.i64) = (IntKind.i64)) ∧ ((loadI pc nps fps) = (Int.ofNat y1))) ∧ ((((IntKind.i64) = (IntKind.i64)) ∧ ((loadE pc nps fps) = ((3 : Int)))) ∧ True))) ∧ (((nameB (FD.s (fps (Int.toNat (Int.ofNat y1)) (0 : Nat)))) = (true)) → ((((FD.b (mgt (bif hasNm fps y1 (FD.s (fps (Int.toNat (Int.ofNat y1)) (0 : Nat))) then some [FD.bool true] else none) [FD.bool false] (0 : Nat))) = (true)) → ((((IntKind.i64) = (IntKind.i64)) ∧ ((loadI pc nps fps) = (Int.ofNat y1))) ∧ ((((IntKind.i64) = (IntKind.i64)) ∧ ((loadE pc nps fps) = ((5 : Int)))) ∧ True))) ∧ (((FD.b (mgt (bif hasNm fps y1 (FD.s (fps (Int.toNat (Int.ofNat y1)) (0 : Nat))) then some [FD.bool true] else none) [FD.bool false] (0 : Nat))) = (false)) → (∃ y2 : Nat, ((∃ y3 : Nat, ((((y2 < nps ∧ (((nameB (FD.s (fps y2 (0 : Nat)))) = (true)) ∧ (((firE (ptErr pc fps) y2) = ((0 : Int))) ∧ ((hasNm fps y2 (FD.s (fps y2 (0 : Nat)))) = (false))))) ∧ (y3 ≤ FD.ln (fps y2 (1 : Nat)) ∧ ((firE (ascE (FD.fn (fps y2 (1 : Nat))) pc) y3) = ((0 : Int))))) ∧ True) ∧ (((true = true) ∧ (((qcheckLoad0 nps fps) ∧ ((((IntKind.i64) = (IntKind.i64)) ∧ ((pc) = (pc))) ∧ True)) ∧ ((((1, 1) ∈ ([(3, 3), (2, 2), (1, 1)] : List (Nat × Nat))) ∧ ((0) = (0))) ∧ ((((IntKind.i64) = (IntKind.i64)) ∧ (((0 : Int)) = ((0 : Int)))) ∧ ((((IntKind.i64) = (IntKind.i64)) ∧ (((0 : Int)) = ((0 : Int)))) ∧ (((2, 2) ∈ ([(3, 3), (2, 2), (1, 1)] : List (Nat × Nat))) ∧ ((((IntKind.i64) = (IntKind.i64)) ∧ ((Int.ofNat y2) = (Int.ofNat y1))) ∧ ((((3, 3) ∈ ([(3, 3), (2, 2), (1, 1)] : List (Nat × Nat))) ∧ ((0) = (0))) ∧ ((qcheckLoad0 nps fps) ∧ ((((IntKind.i64) = (IntKind.i64)) ∧ ((Int.ofNat nps) = (Int.ofNat nps))) ∧ ((((IntKind.i64) = (IntKind.i64)) ∧ ((Int.ofNat y2) = (Int.ofNat y1))) ∧ ((((Ref.elem (Ref.root (0) (0)) (Int.toNat (Int.ofNat y2) * List.length [Sh.str, Sh.list [Sh.int IntKind.i64]] + ((0 : Nat) + (1 : Nat)))) = (Ref.elem (Ref.root (0) (0)) (Int.toNat (Int.ofNat y1) * List.length [Sh.str, Sh.list [Sh.int IntKind.i64]] + ((0 : Nat) + (1 : Nat))))) ∧ (((FD.list [Sh.int IntKind.i64] (FD.ln (fps (Int.toNat (Int.ofNat y2)) ((0 : Nat) + (1 : Nat)))) (FD.fn (fps (Int.toNat (Int.ofNat y2)) ((0 : Nat) + (1 : Nat))))) = (FD.list [Sh.int IntKind.i64] (FD.ln (fps (Int.toNat (Int.ofNat y1)) ((0 : Nat) + (1 : Nat)))) (FD.fn (fps (Int.toNat (Int.ofNat y1)) ((0 : Nat) + (1 : Nat)))))) ∧ (true = true))) ∧ ((((IntKind.i64) = (IntKind.i64)) ∧ ((Int.ofNat (FD.ln (fps (Int.toNat (Int.ofNat y2)) ((0 : Nat) + (1 : Nat))))) = (Int.ofNat (FD.ln (fps (Int.toNat (Int.ofNat y1)) ((0 : Nat) + (1 : Nat))))))) ∧ ((((IntKind.i64) = (IntKind.i64)) ∧ ((Int.ofNat y3) = ((0 : Int)))) ∧ True)))))))))))))) ∧ (((((35 : TypeId)) = ((35 : TypeId))) ∧ (((2) = (2)) ∧ ((qcheckLoad0 nps fps) ∧ ((((IntKind.i64) = (IntKind.i64)) ∧ ((pc) = (pc))) ∧ True)))) ∧ (((([Sh.bool]) = ([Sh.bool])) ∧ ((false = false) ∧ (∀ y4 : List UInt8, ((bif hasNm fps (y2 + (1 : Nat)) y4 then some [FD.bool true] else none) = (if y4 = FD.s (fps (Int.toNat (Int.ofNat y1)) (0 : Nat)) then some [FD.bool true] else bif hasNm fps y1 y4 then some [FD.bool true] else none))))) ∧ (((((143 : TypeId)) = ((143 : Nat))) ∧ (((2) = (2)) ∧ (((FD.s (fps (Int.toNat (Int.ofNat y2)) (0 : Nat))) = (FD.s (fps (Int.toNat (Int.ofNat y1)) (0 : Nat)))) ∧ ((((Ref.elem (Ref.root (0) (0)) (Int.toNat (Int.ofNat y2) * List.length [Sh.str, Sh.list [Sh.int IntKind.i64]] + ((0 : Nat) + (1 : Nat)))) = (Ref.elem (Ref.root (0) (0)) (Int.toNat (Int.ofNat y1) * List.length [Sh.str, Sh.list [Sh.int IntKind.i64]] + ((0 : Nat) + (1 : Nat))))) ∧ (((FD.list [Sh.int IntKind.i64] (FD.ln (fps (Int.toNat (Int.ofNat y2)) ((0 : Nat) + (1 : Nat)))) (FD.fn (fps (Int.toNat (Int.ofNat y2)) ((0 : Nat) + (1 : Nat))))) = (FD.list [Sh.int IntKind.i64] (FD.ln (fps (Int.toNat (Int.ofNat y1)) ((0 : Nat) + (1 : Nat)))) (FD.fn (fps (Int.toNat (Int.ofNat y1)) ((0 : Nat) + (1 : Nat)))))) ∧ (true = true))) ∧ True)))) ∧ True)))))) ∧ (∀ y3 : Nat, (((y2 < nps ∧ (((nameB (FD.s (fps y2 (0 : Nat)))) = (true)) ∧ (((firE (ptErr pc fps) y2) = ((0 : Int))) ∧ ((hasNm fps y2 (FD.s (fps y2 (0 : Nat)))) = (false))))) ∧ (y3 ≤ FD.ln (fps y2 (1 : Nat)) ∧ ((firE (ascE (FD.fn (fps y2 (1 : Nat))) pc) y3) = ((0 : Int))))) → ((((decide (Int.ofNat y3 < Int.ofNat (FD.ln (fps (Int.toNat (Int.ofNat y2)) ((0 : Nat) + (1 : Nat)))))) = (true)) → ((((decide ((0 : Int) ≤ Int.ofNat y3) && decide (Int.ofNat y3 < (↑(FD.ln (fps (Int.toNat (Int.ofNat y2)) ((0 : Nat) + (1 : Nat)))) : Int))) = (true)) → (((true = true) → ((((decide ((0 : Int) ≤ FD.i (FD.fn (fps (Int.toNat (Int.ofNat y2)) ((0 : Nat) + (1 : Nat))) (Int.toNat (Int.ofNat y3)) (0 : Nat))) && decide (FD.i (FD.fn (fps (Int.toNat (Int.ofNat y2)) ((0 : Nat) + (1 : Nat))) (Int.toNat (Int.ofNat y3)) (0 : Nat)) ≤ IntKind.wrap IntKind.i64 (pc - (1 : Int)))) = (false)) → ((((IntKind.i64) = (IntKind.i64)) ∧ ((loadI pc nps fps) = (Int.ofNat y2))) ∧ ((((IntKind.i64) = (IntKind.i64)) ∧ ((loadE pc nps fps) = ((6 : Int)))) ∧ True))) ∧ (((decide ((0 : Int) ≤ FD.i (FD.fn (fps (Int.toNat (Int.ofNat y2)) ((0 : Nat) + (1 : Nat))) (Int.toNat (Int.ofNat y3)) (0 : Nat))) && decide (FD.i (FD.fn (fps (Int.toNat (Int.ofNat y2)) ((0 : Nat) + (1 : Nat))) (Int.toNat (Int.ofNat y3)) (0 : Nat)) ≤ IntKind.wrap IntKind.i64 (pc - (1 : Int)))) = (true)) → ((((decide ((0 : Int) < Int.ofNat y3)) = (true)) → ((((decide ((0 : Int) ≤ IntKind.wrap IntKind.i64 (Int.ofNat y3 - (1 : Int))) && decide (IntKind.wrap IntKind.i64 (Int.ofNat y3 - (1 : Int)) < (↑(FD.ln (fps (Int.toNat (Int.ofNat y2)) ((0 : Nat) + (1 : Nat)))) : Int))) = (true)) → ((((decide (FD.i (FD.fn (fps (Int.toNat (Int.ofNat y2)) ((0 : Nat) + (1 : Nat))) (Int.toNat (IntKind.wrap IntKind.i64 (Int.ofNat y3 - (1 : Int)))) (0 : Nat)) < FD.i (FD.fn (fps (Int.toNat (Int.ofNat y2)) ((0 : Nat) + (1 : Nat))) (Int.toNat (Int.ofNat y3)) (0 : Nat)))) = (false)) → ((((IntKind.i64) = (IntKind.i64)) ∧ ((loadI pc nps fps) = (Int.ofNat y2))) ∧ ((((IntKind.i64) = (IntKind.i64)) ∧ ((loadE pc nps fps) = ((10 : Int)))) ∧ True))) ∧ (((decide (FD.i (FD.fn (fps (Int.toNat (Int.ofNat y2)) ((0 : Nat) + (1 : Nat))) (Int.toNat (IntKind.wrap IntKind.i64 (Int.ofNat y3 - (1 : Int)))) (0 : Nat)) < FD.i (FD.fn (fps (Int.toNat (Int.ofNat y2)) ((0 : Nat) + (1 : Nat))) (Int.toNat (Int.ofNat y3)) (0 : Nat)))) = (true)) → (∃ y4 : Nat, ((((y2 < nps ∧ (((nameB (FD.s (fps y2 (0 : Nat)))) = (true)) ∧ (((firE (ptErr pc fps) y2) = ((0 : Int))) ∧ ((hasNm fps y2 (FD.s (fps y2 (0 : Nat)))) = (false))))) ∧ (y4 ≤ FD.ln (fps y2 (1 : Nat)) ∧ ((firE (ascE (FD.fn (fps y2 (1 : Nat))) pc) y4) = ((0 : Int))))) ∧ FD.ln (fps y2 (1 : Nat)) - y4 < FD.ln (fps y2 (1 : Nat)) - y3) ∧ (((true = true) ∧ (((qcheckLoad0 nps fps) ∧ ((((IntKind.i64) = (IntKind.i64)) ∧ ((pc) = (pc))) ∧ True)) ∧ ((((1, 1) ∈ ([(3, 3), (2, 2), (1, 1)] : List (Nat × Nat))) ∧ ((0) = (0))) ∧ ((((IntKind.i64) = (IntKind.i64)) ∧ (((0 : Int)) = ((0 : Int)))) ∧ ((((IntKind.i64) = (IntKind.i64)) ∧ (((0 : Int)) = ((0 : Int)))) ∧ (((2, 2) ∈ ([(3, 3), (2, 2), (1, 1)] : List (Nat × Nat))) ∧ ((((IntKind.i64) = (IntKind.i64)) ∧ ((Int.ofNat y2) = (Int.ofNat y2))) ∧ ((((3, 3) ∈ ([(3, 3), (2, 2), (1, 1)] : List (Nat × Nat))) ∧ ((0) = (0))) ∧ ((qcheckLoad0 nps fps) ∧ ((((IntKind.i64) = (IntKind.i64)) ∧ ((Int.ofNat nps) = (Int.ofNat nps))) ∧ ((((IntKind.i64) = (IntKind.i64)) ∧ ((Int.ofNat y2) = (Int.ofNat y2))) ∧ ((((Ref.elem (Ref.root (0) (0)) (Int.toNat (Int.ofNat y2) * List.length [Sh.str, Sh.list [Sh.int IntKind.i64]] + ((0 : Nat) + (1 : Nat)))) = (Ref.elem (Ref.root (0) (0)) (Int.toNat (Int.ofNat y2) * List.length [Sh.str, Sh.list [Sh.int IntKind.i64]] + ((0 : Nat) + (1 : Nat))))) ∧ (((FD.list [Sh.int IntKind.i64] (FD.ln (fps (Int.toNat (Int.ofNat y2)) ((0 : Nat) + (1 : Nat)))) (FD.fn (fps (Int.toNat (Int.ofNat y2)) ((0 : Nat) + (1 : Nat))))) = (FD.list [Sh.int IntKind.i64] (FD.ln (fps (Int.toNat (Int.ofNat y2)) ((0 : Nat) + (1 : Nat)))) (FD.fn (fps (Int.toNat (Int.ofNat y2)) ((0 : Nat) + (1 : Nat)))))) ∧ (true = true))) ∧ ((((IntKind.i64) = (IntKind.i64)) ∧ ((Int.ofNat (FD.ln (fps (Int.toNat (Int.ofNat y2)) ((0 : Nat) + (1 : Nat))))) = (Int.ofNat (FD.ln (fps (Int.toNat (Int.ofNat y2)) ((0 : Nat) + (1 : Nat))))))) ∧ ((((IntKind.i64) = (IntKind.i64)) ∧ ((Int.ofNat y4) = (IntKind.wrap IntKind.i64 (Int.ofNat y3 + (1 : Int))))) ∧ True)))))))))))))) ∧ (((((35 : TypeId)) = ((35 : TypeId))) ∧ (((2) = (2)) ∧ ((qcheckLoad0 nps fps) ∧ ((((IntKind.i64) = (IntKind.i64)) ∧ ((pc) = (pc))) ∧ True)))) ∧ (((([Sh.bool]) = ([Sh.bool])) ∧ ((false = false) ∧ (∀ y5 : List UInt8, ((bif hasNm fps (y2 + (1 : Nat)) y5 then some [FD.bool true] else none) = (bif hasNm fps (y2 + (1 : Nat)) y5 then some [FD.bool true] else none))))) ∧ (((((143 : TypeId)) = ((143 : TypeId))) ∧ (((2) = (2)) ∧ (((FD.s (fps (Int.toNat (Int.ofNat y2)) (0 : Nat))) = (FD.s (fps (Int.toNat (Int.ofNat y2)) (0 : Nat)))) ∧ ((((Ref.elem (Ref.root (0) (0)) (Int.toNat (Int.ofNat y2) * List.length [Sh.str, Sh.list [Sh.int IntKind.i64]] + ((0 : Nat) + (1 : Nat)))) = (Ref.elem (Ref.root (0) (0)) (Int.toNat (Int.ofNat y2) * List.length [Sh.str, Sh.list [Sh.int IntKind.i64]] + ((0 : Nat) + (1 : Nat))))) ∧ (((FD.list [Sh.int IntKind.i64] (FD.ln (fps (Int.toNat (Int.ofNat y2)) ((0 : Nat) + (1 : Nat)))) (FD.fn (fps (Int.toNat (Int.ofNat y2)) ((0 : Nat) + (1 : Nat))))) = (FD.list [Sh.int IntKind.i64] (FD.ln (fps (Int.toNat (Int.ofNat y2)) ((0 : Nat) + (1 : Nat)))) (FD.fn (fps (Int.toNat (Int.ofNat y2)) ((0 : Nat) + (1 : Nat)))))) ∧ (true = true))) ∧ True)))) ∧ True))))))))) ∧ (((decide ((0 : Int) ≤ IntKind.wrap IntKind.i64 (Int.ofNat y3 - (1 : Int))) && decide (IntKind.wrap IntKind.i64 (Int.ofNat y3 - (1 : Int)) < (↑(FD.ln (fps (Int.toNat (Int.ofNat y2)) ((0 : Nat) + (1 : Nat)))) : Int))) = (false)) → False))) ∧ (((decide ((0 : Int) < Int.ofNat y3)) = (false)) → (∃ y4 : Nat, ((((y2 < nps ∧ (((nameB (FD.s (fps y2 (0 : Nat)))) = (true)) ∧ (((firE (ptErr pc fps) y2) = ((0 : Int))) ∧ ((hasNm fps y2 (FD.s (fps y2 (0 : Nat)))) = (false))))) ∧ (y4 ≤ FD.ln (fps y2 (1 : Nat)) ∧ ((firE (ascE (FD.fn (fps y2 (1 : Nat))) pc) y4) = ((0 : Int))))) ∧ FD.ln (fps y2 (1 : Nat)) - y4 < FD.ln (fps y2 (1 : Nat)) - y3) ∧ (((true = true) ∧ (((qcheckLoad0 nps fps) ∧ ((((IntKind.i64) = (IntKind.i64)) ∧ ((pc) = (pc))) ∧ True)) ∧ ((((1, 1) ∈ ([(3, 3), (2, 2), (1, 1)] : List (Nat × Nat))) ∧ ((0) = (0))) ∧ ((((IntKind.i64) = (IntKind.i64)) ∧ (((0 : Int)) = ((0 : Int)))) ∧ ((((IntKind.i64) = (IntKind.i64)) ∧ (((0 : Int)) = ((0 : Int)))) ∧ (((2, 2) ∈ ([(3, 3), (2, 2), (1, 1)] : List (Nat × Nat))) ∧ ((((IntKind.i64) = (IntKind.i64)) ∧ ((Int.ofNat y2) = (Int.ofNat y2))) ∧ ((((3, 3) ∈ ([(3, 3), (2, 2), (1, 1)] : List (Nat × Nat))) ∧ ((0) = (0))) ∧ ((qcheckLoad0 nps fps) ∧ ((((IntKind.i64) = (IntKind.i64)) ∧ ((Int.ofNat nps) = (Int.ofNat nps))) ∧ ((((IntKind.i64) = (IntKind.i64)) ∧ ((Int.ofNat y2) = (Int.ofNat y2))) ∧ ((((Ref.elem (Ref.root (0) (0)) (Int.toNat (Int.ofNat y2) * List.length [Sh.str, Sh.list [Sh.int IntKind.i64]] + ((0 : Nat) + (1 : Nat)))) = (Ref.elem (Ref.root (0) (0)) (Int.toNat (Int.ofNat y2) * List.length [Sh.str, Sh.list [Sh.int IntKind.i64]] + ((0 : Nat) + (1 : Nat))))) ∧ (((FD.list [Sh.int IntKind.i64] (FD.ln (fps (Int.toNat (Int.ofNat y2)) ((0 : Nat) + (1 : Nat)))) (FD.fn (fps (Int.toNat (Int.ofNat y2)) ((0 : Nat) + (1 : Nat))))) = (FD.list [Sh.int IntKind.i64] (FD.ln (fps (Int.toNat (Int.ofNat y2)) ((0 : Nat) + (1 : Nat)))) (FD.fn (fps (Int.toNat (Int.ofNat y2)) ((0 : Nat) + (1 : Nat)))))) ∧ (true = true))) ∧ ((((IntKind.i64) = (IntKind.i64)) ∧ ((Int.ofNat (FD.ln (fps (Int.toNat (Int.ofNat y2)) ((0 : Nat) + (1 : Nat))))) = (Int.ofNat (FD.ln (fps (Int.toNat (Int.ofNat y2)) ((0 : Nat) + (1 : Nat))))))) ∧ ((((IntKind.i64) = (IntKind.i64)) ∧ ((Int.ofNat y4) = (IntKind.wrap IntKind.i64 (Int.ofNat y3 + (1 : Int))))) ∧ True)))))))))))))) ∧ (((((35 : TypeId)) = ((35 : TypeId))) ∧ (((2) = (2)) ∧ ((qcheckLoad0 nps fps) ∧ ((((IntKind.i64) = (IntKind.i64)) ∧ ((pc) = (pc))) ∧ True)))) ∧ (((([Sh.bool]) = ([Sh.bool])) ∧ ((false = false) ∧ (∀ y5 : List UInt8, ((bif hasNm fps (y2 + (1 : Nat)) y5 then some [FD.bool true] else none) = (bif hasNm fps (y2 + (1 : Nat)) y5 then some [FD.bool true] else none))))) ∧ (((((143 : TypeId)) = ((143 : TypeId))) ∧ (((2) = (2)) ∧ (((FD.s (fps (Int.toNat (Int.ofNat y2)) (0 : Nat))) = (FD.s (fps (Int.toNat (Int.ofNat y2)) (0 : Nat)))) ∧ ((((Ref.elem (Ref.root (0) (0)) (Int.toNat (Int.ofNat y2) * List.length [Sh.str, Sh.list [Sh.int IntKind.i64]] + ((0 : Nat) + (1 : Nat)))) = (Ref.elem (Ref.root (0) (0)) (Int.toNat (Int.ofNat y2) * List.length [Sh.str, Sh.list [Sh.int IntKind.i64]] + ((0 : Nat) + (1 : Nat))))) ∧ (((FD.list [Sh.int IntKind.i64] (FD.ln (fps (Int.toNat (Int.ofNat y2)) ((0 : Nat) + (1 : Nat)))) (FD.fn (fps (Int.toNat (Int.ofNat y2)) ((0 : Nat) + (1 : Nat))))) = (FD.list [Sh.int IntKind.i64] (FD.ln (fps (Int.toNat (Int.ofNat y2)) ((0 : Nat) + (1 : Nat)))) (FD.fn (fps (Int.toNat (Int.ofNat y2)) ((0 : Nat) + (1 : Nat)))))) ∧ (true = true))) ∧ True)))) ∧ True))))))))))) ∧ ((true = false) → False))) ∧ (((decide ((0 : Int) ≤ Int.ofNat y3) && decide (Int.ofNat y3 < (↑(FD.ln (fps (Int.toNat (Int.ofNat y2)) ((0 : Nat) + (1 : Nat)))) : Int))) = (false)) → False))) ∧ (((decide (Int.ofNat y3 < Int.ofNat (FD.ln (fps (Int.toNat (Int.ofNat y2)) ((0 : Nat) + (1 : Nat)))))) = (false)) → (∃ y4 : Nat, (((y4 ≤ nps ∧ ((firE (ptErr pc fps) y4) = ((0 : Int)))) ∧ nps - y4 < nps - y1) ∧ (((true = true) ∧ (((qcheckLoad0 nps fps) ∧ ((((IntKind.i64) = (IntKind.i64)) ∧ ((pc) = (pc))) ∧ True)) ∧ ((((1, 1) ∈ ([(2, 2), (1, 1)] : List (Nat × Nat))) ∧ ((0) = (0))) ∧ ((((IntKind.i64) = (IntKind.i64)) ∧ (((0 : Int)) = ((0 : Int)))) ∧ ((((IntKind.i64) = (IntKind.i64)) ∧ (((0 : Int)) = ((0 : Int)))) ∧ (((2, 2) ∈ ([(2, 2), (1, 1)] : List (Nat × Nat))) ∧ ((qcheckLoad0 nps fps) ∧ ((((IntKind.i64) = (IntKind.i64)) ∧ ((Int.ofNat nps) = (Int.ofNat nps))) ∧ ((((IntKind.i64) = (IntKind.i64)) ∧ ((Int.ofNat y4) = (IntKind.wrap IntKind.i64 (Int.ofNat y2 + (1 : Int))))) ∧ True))))))))) ∧ (((((35 : TypeId)) = ((35 : TypeId))) ∧ (((2) = (2)) ∧ ((qcheckLoad0 nps fps) ∧ ((((IntKind.i64) = (IntKind.i64)) ∧ ((pc) = (pc))) ∧ True)))) ∧ (((([Sh.bool]) = ([Sh.bool])) ∧ ((false = false) ∧ (∀ y5 : List UInt8, ((bif hasNm fps y4 y5 then some [FD.bool true] else none) = (bif hasNm fps (y2 + (1 : Nat)) y5 then some [FD.bool true] else none))))) ∧ True)))))))))))))))) ∧ (((isNameC [FD.str (FD.s (fps (Int.toNat (Int.ofNat y1)) (0 : Nat)))]) = (false)) → False))) ∧ (((decide ((0 : Int) ≤ Int.ofNat y1) && decide (Int.ofNat y1 < (↑nps : Int))) = (false)) → False))) ∧ (((decide (Int.ofNat y1 < Int.ofNat nps)) = (false)) → ((((IntKind.i64) = (IntKind.i64)) ∧ ((loadI pc nps fps) = ((0 : Int)))) ∧ ((((IntKind.i64) = (IntKind.i64)) ∧ ((loadE pc nps fps) = ((0 : Int)))) ∧ True))))))))))))) ∧ ((true = false) → False))) := by kernel_rfl
  refine hvc.mpr ?_
  clear hvc
  dsimp only [qcheckLoad0]
  obtain ⟨k1, k2⟩ := crowdB_ok hc
  have hnm : ∀ i, i < nps → isNameC [.str (fps i 0).s] = true := fun i hi => Nat.ble_eq_true_of_le (by have := k2 i hi; omega)
  by_cases h1 : 0 ≤ pc ∧ pc ≤ 24
  · obtain ⟨h1, h2⟩ := h1
    by_cases h3 : nps ≤ 24
    · have eE : loadE pc nps fps = firE (ptErr pc fps) nps := by simp only [loadE, h1, h2, h3, and_self, if_true]
      have eI : loadI pc nps fps = firI (ptErr pc fps) nps := by simp only [loadI, h1, h2, h3, and_self, if_true]
      simp [h1, h2, h3, eE, eI]
      have w1 : ∀ k : Nat, k < 1000 → ((k + 1 : Nat) : Int) = IntKind.i64.wrap ((k : Int) + 1) := fun k hk => by
        rw [wrap_id (by omega) (by omega)]
        rfl
      simp only [mgt_b]
      refine ⟨fun h => by omega, fun _ => ⟨⟨0, ⟨by omega, rfl⟩, rfl, fun _ => rfl⟩, fun y hy he => ⟨fun hlt => ⟨fun _ => ⟨fun _ => ?_, hnm y hlt⟩, hlt⟩, fun hge => ?_⟩⟩⟩
      · have hit : ∀ v : Int, ptErr pc fps y = v → v ≠ 0 → firI (ptErr pc fps) nps = y ∧ firE (ptErr pc fps) nps = v := fun v hv h0 => by
          obtain ⟨q1, q2⟩ := firE_hit he (by rw [hv]; exact h0) hlt
          exact ⟨q2, by rw [q1, hv]⟩
        have hln := k2 y hlt
        refine ⟨fun hn0 => hit 3 (by rw [ptErr, hn0]; rfl) (by omega), fun hn1 => ⟨fun hb => hit 5 (by rw [ptErr, if_pos hn1, if_pos hb]) (by omega), fun hk0 => ?_⟩⟩
        have hF : ptErr pc fps y = firE (ascE (fps y 1).fn pc) (fps y 1).ln := by rw [ptErr, if_pos hn1, if_neg (by rw [hk0]; simp)]
        refine ⟨y, ⟨0, ⟨⟨hlt, hn1, he, hk0⟩, by omega, rfl⟩, ⟨rfl, ⟨rfl, rfl, rfl⟩, rfl, rfl⟩, fun l => hasNm_map fps y l, rfl, rfl, rfl, rfl⟩, fun m _ _ _ _ hm he2 => ⟨fun hml => ⟨fun _ => ?_, hml⟩, fun hml => ⟨y + 1, ⟨⟨by omega, firE_up he ?_⟩, by omega⟩, w1 y (by omega), fun _ => rfl⟩⟩⟩
        · obtain ⟨a1, a2, a3⟩ := ascE_in (by omega) hml he2
          by_cases h0 : m = 0
          · subst h0
            simp at a1 a2 a3
            simp
            refine ⟨fun h => hit 6 (by rw [hF]; exact a1 h) (by omega), fun b1 b2 => ?_⟩
            obtain ⟨u, ⟨⟨u1, u2⟩, u3⟩, u4⟩ := a3 b1 b2
            exact ⟨u, ⟨⟨⟨hlt, hn1, he, hk0⟩, u1, u2⟩, u3⟩, u4⟩
          · have hp : 0 < m := by omega
            have hw := asc_wrap (n := (fps y 1).ln) (by omega) hml hp
            simp [h0, hp, hw]
            refine ⟨fun h => hit 6 (by rw [hF]; exact a1 fun hh => by have := h hh.1; omega) (by omega), fun b1 b2 => ⟨fun _ => ⟨fun b3 => hit 10 (by rw [hF]; exact a2 b1 b2 hp b3) (by omega), fun b3 => ?_⟩, by omega⟩⟩
            obtain ⟨u, ⟨⟨u1, u2⟩, u3⟩, u4⟩ := a3 b1 b2 fun _ => b3
            exact ⟨u, ⟨⟨⟨hlt, hn1, he, hk0⟩, u1, u2⟩, u3⟩, u4⟩
        · rw [hF, show (fps y 1).ln = m by omega]; exact he2
      · rw [show nps = y by omega]
        exact ⟨firI_zero he, he⟩
    · have eE : loadE pc nps fps = 8 := by simp only [loadE, h1, h2, h3, and_self, if_true, if_false]
      have eI : loadI pc nps fps = 0 := by simp only [loadI, h1, h2, h3, and_self, if_true, if_false]
      simp [h1, h2, eE, eI]
      omega
  · have eE : loadE pc nps fps = 2 := if_neg h1
    have eI : loadI pc nps fps = 0 := if_neg h1
    simp [eE, eI]
    omega
end
end Go.Ex


namespace Go.Ex
open Go Go.Proofs Go.RowKit
noncomputable section
set_option maxRecDepth 1000000

def smLd : T Smf := (T.set (T.set smLc 25 (some (gFd refLoadS (.tup [.one (.int .i64), .one (.int .i64)]) refLoadC refLoadR))) 68 (some (gFd checkLoadS (.tup [.one (.int .i64), .one (.int .i64)]) checkLoadC checkLoadR)))
theorem smLd_ok : Tab SmOk smLd := (Tab.set (Tab.set smLc_ok (by kernel_rfl) (smOk_of smLc_ok gsLa_ok refLoad_ok rfl)) (by kernel_rfl) (smOk_of smLc_ok gsLa_ok checkLoad_ok rfl))
def loadErrS : List PT := [.agg [.list [.str, .list [.int .i64]], .int .i64]]
def loadErrC : List FD → Bool
  | [.list _ nps fps, .int _ _] => crowdB nps fps
  | _ => false
def loadErrR : List FD → List FD
  | [.list _ nps fps, .int _ pc] => [.int .i64 (loadE pc nps fps)]
  | _ => []
def loadErrI (_nps : Nat) (_fps : Nat → Nat → FD) (_pc : Int) : Nat → AFam := alts (fun _ => [])
theorem loadErr_ok : FnOk (mkR smLd gsLa) Try.prog η0 93 (FI.of Try.f93 true) loadErrS (.one (.int .i64)) loadErrC loadErrR := by
  refine fnOk_of0 smLd_ok gsLa_ok Try.fok93 (fun fds => match fds with | [.list _ nps fps, .int _ pc] => loadErrI nps fps pc | _ => alts fun _ => []) ?_
  intro fds hf hc
  obtain ⟨nps, fps, ds0, rfl, gps, hf1⟩ := hf.list
  obtain ⟨pc, ds1, rfl, hf2⟩ := hf1.int
  obtain rfl := hf2.nil
  have hc : (crowdB nps fps) = true := hc
  have hvc : (vcF smLd gsLa (FI.of Try.f93 true) loadErrS (.one (.int .i64)) (loadErrI nps fps pc) noR [.list [.str, .list [.int .i64]] nps fps, .int .i64 pc] (loadErrR [.list [.str, .list [.int .i64]] nps fps, .int .i64 pc])) =
    ((true = true) ∧ ((((checkLoadC ([FD.list [Sh.str, Sh.list [Sh.int IntKind.i64]] nps fps, FD.int IntKind.i64 pc] ++ [])) = (true)) → (((IntKind.i64) = (IntKind.i64)) ∧ ((loadE pc nps fps) = (loadE pc nps fps)))) ∧ (((checkLoadC ([FD.list [Sh.str, Sh.list [Sh.int IntKind.i64]] nps fps, FD.int IntKind.i64 pc] ++ [])) = (false)) → False))) := by kernel_rfl
  refine hvc.mpr ?_
  clear hvc
  have h1 : checkLoadC [.list [.str, .list [.int .i64]] nps fps, .int .i64 pc] = true := hc
  simp [h1]
def smLe : T Smf := (T.set smLd 93 (some (gFd loadErrS (.one (.int .i64)) loadErrC loadErrR)))
theorem smLe_ok : Tab SmOk smLe := (Tab.set smLd_ok (by kernel_rfl) (smOk_of smLd_ok gsLa_ok loadErr_ok rfl))
/-- The error of a part's place; how many parts have one. -/
def plErr (pc : Int) (f g : Nat → Nat → FD) (i : Nat) : Int :=
  if (g i 0).i = -1 then 0 else if 0 ≤ (g i 0).i ∧ (g i 0).i ≤ IntKind.i64.wrap (pc - 1) then (if hasB (f i 1).ln (f i 1).fn (g i 0).i = true then (if hasB i g (g i 0).i = true then 26 else 0) else 13) else 6
def plCnt (g : Nat → Nat → FD) : Nat → Int
  | 0 => 0
  | n + 1 => if (g n 0).i = -1 then plCnt g n else plCnt g n + 1
def plE (n : Nat) (pc : Int) (f : Nat → Nat → FD) (m : Nat) (g : Nat → Nat → FD) : Int := if m = n then firE (plErr pc f g) m else 12
def plV (n : Nat) (pc : Int) (f : Nat → Nat → FD) (m : Nat) (g : Nat → Nat → FD) : Int := if plE n pc f m g = 0 then plCnt g m else 0
theorem loadE_pc {pc : Int} {n : Nat} {f : Nat → Nat → FD} (h : loadE pc n f = 0) : 0 ≤ pc ∧ pc ≤ 24 := by
  unfold loadE at h
  split at h
  · assumption
  · omega
theorem plCnt_bd (g : Nat → Nat → FD) : ∀ n : Nat, 0 ≤ plCnt g n ∧ plCnt g n ≤ n
  | 0 => by simp [plCnt]
  | n + 1 => by
    have := plCnt_bd g n
    simp only [plCnt]
    split <;> omega
/-- What a round over the places comes to. -/
theorem pl_round {pc : Int} {n : Nat} {f g : Nat → Nat → FD} {y : Nat} (hn : n ≤ 26) (hy : y < n) (he : firE (plErr pc f g) y = 0) :
    (∀ v : Int, plErr pc f g y = v → v ≠ 0 → plV n pc f n g = 0 ∧ plE n pc f n g = v) ∧
    (plErr pc f g y = 0 → (g y 0).i = -1 → ∃ y2, ((n = n ∧ y2 ≤ n ∧ firE (plErr pc f g) y2 = 0) ∧ n - y2 < n - y) ∧ plCnt g y2 = plCnt g y ∧ (y2 : Int) = IntKind.i64.wrap ((y : Int) + 1)) ∧
    (plErr pc f g y = 0 → (g y 0).i ≠ -1 → ∃ y2, ((n = n ∧ y2 ≤ n ∧ firE (plErr pc f g) y2 = 0) ∧ n - y2 < n - y) ∧ plCnt g y2 = IntKind.i64.wrap (plCnt g y + 1) ∧ (y2 : Int) = IntKind.i64.wrap ((y : Int) + 1)) := by
  have b := plCnt_bd g y
  refine ⟨fun v hv h0 => ?_, fun h h1 => ⟨y + 1, ⟨⟨rfl, by omega, firE_up he h⟩, by omega⟩, by rw [plCnt, if_pos h1], by rw [wrap_id (by omega) (by omega)]; rfl⟩, fun h h1 => ⟨y + 1, ⟨⟨rfl, by omega, firE_up he h⟩, by omega⟩, by rw [plCnt, if_neg h1, wrap_id (by omega) (by omega)], by rw [wrap_id (by omega) (by omega)]; rfl⟩⟩
  obtain ⟨q1, _⟩ := firE_hit he (by rw [hv]; exact h0) hy
  have e : plE n pc f n g = v := by rw [plE, if_pos rfl, q1, hv]
  exact ⟨by rw [plV, e, if_neg h0], e⟩
theorem pl_end {pc : Int} {n : Nat} {f g : Nat → Nat → FD} (he : firE (plErr pc f g) n = 0) : plV n pc f n g = plCnt g n ∧ plE n pc f n g = 0 := by
  have e : plE n pc f n g = 0 := by rw [plE, if_pos rfl, he]
  exact ⟨by rw [plV, e, if_pos rfl], e⟩
theorem pl_shape {pc : Int} {n m : Nat} {f g : Nat → Nat → FD} (h : m ≠ n) : plV n pc f m g = 0 ∧ plE n pc f m g = 12 := by
  have e : plE n pc f m g = 12 := if_neg h
  exact ⟨by rw [plV, e]; rfl, e⟩
def refPlacesS : List PT := [.agg [.list [.str, .list [.int .i64]], .int .i64], .one (.list [.int .i64])]
def refPlacesC : List FD → Bool
  | [.list _ nps _, .int _ pc, .list _ _ _] => Nat.ble nps 26 && decide (0 ≤ pc ∧ pc ≤ 24)
  | _ => false
def refPlacesR : List FD → List FD
  | [.list _ nps fps, .int _ pc, .list _ nq fq] => [.int .i64 (plV nps pc fps nq fq), .int .i64 (plE nps pc fps nq fq)]
  | _ => []
def refPlacesI (nps : Nat) (fps : Nat → Nat → FD) (pc : Int) (nq : Nat) (fq : Nat → Nat → FD) : Nat → AFam := fun i => match i with | 5 => ⟨Nat, fun _ => [{ι := Nat, G := fun x => nq = nps ∧ (x ≤ nq ∧ firE (plErr pc fps fq) x = 0), μ := fun x => nq - x, tl := fun x => [(0, .agg [.fz (.root 0 0) (FD.list [Sh.str, Sh.list [Sh.int IntKind.i64]] nps fps), .int IntKind.i64 (.tm pc)]), (1, .one (.fz (.root 0 2) (FD.list [Sh.int IntKind.i64] nq fq))), (2, .one (.ptr (some (1, 0)))), (4, .one (.int IntKind.i64 (.lit (0 : Int)))), (5, .one (.int IntKind.i64 (.lit (0 : Int)))), (6, .one (.int IntKind.i64 (.tm (plCnt fq x)))), (7, .one (.int IntKind.i64 (.tm (Int.ofNat x))))], bl := fun x => [(1, .cells 35 2 [.fz (.root 0 0) (FD.list [Sh.str, Sh.list [Sh.int IntKind.i64]] nps fps), .int IntKind.i64 (.tm pc)])], nx := (1 : Nat) + (1 : Nat)}]⟩ | _ => ⟨Nat, fun _ => []⟩
theorem refPlaces_ok : FnOk (mkR smLe gsLa) Try.prog η0 26 (FI.of Try.f26 true) refPlacesS (.tup [.one (.int .i64), .one (.int .i64)]) refPlacesC refPlacesR := by
  refine fnOk_of0 smLe_ok gsLa_ok Try.fok26 (fun fds => match fds with | [.list _ nps fps, .int _ pc, .list _ nq fq] => refPlacesI nps fps pc nq fq | _ => alts fun _ => []) ?_
  intro fds hf hc
  obtain ⟨nps, fps, ds0, rfl, gps, hf1⟩ := hf.list
  obtain ⟨pc, ds1, rfl, hf2⟩ := hf1.int
  obtain ⟨nq, fq, ds2, rfl, gq, hf3⟩ := hf2.list
  obtain rfl := hf3.nil
  have hc : (Nat.ble nps 26 && decide (0 ≤ pc ∧ pc ≤ 24)) = true := hc
  have hvc : (vcF smLe gsLa (FI.of Try.f26 true) refPlacesS (.tup [.one (.int .i64), .one (.int .i64)]) (refPlacesI nps fps pc nq fq) noR [.list [.str, .list [.int .i64]] nps fps, .int .i64 pc, .list [.int .i64] nq fq] (refPlacesR [.list [.str, .list [.int .i64]] nps fps, .int .i64 pc, .list [.int .i64] nq fq])) =
    ((true = true) ∧ ((((decide (Int.ofNat nq = Int.ofNat nps)) = (false)) → ((((IntKind.i64) = (IntKind.i64)) ∧ ((plV nps pc fps nq fq) = ((0 : Int)))) ∧ ((((IntKind.i64) = (IntKind.i64)) ∧ ((plE nps pc fps nq fq) = ((12 : Int)))) ∧ True))) ∧ (((decide (Int.ofNat nq = Int.ofNat nps)) = (true)) → (∃ y0 : Nat, ((∃ y1 : Nat, (((((nq) = (nps)) ∧ (y1 ≤ nq ∧ ((firE (plErr pc fps fq) y1) = ((0 : Int))))) ∧ True) ∧ (((true = true) ∧ (((((Ref.root (0) (0)) = (Ref.root (0) (0))) ∧ (((FD.list [Sh.str, Sh.list [Sh.int IntKind.i64]] nps fps) = (FD.list [Sh.str, Sh.list [Sh.int IntKind.i64]] nps fps)) ∧ (true = true))) ∧ ((((IntKind.i64) = (IntKind.i64)) ∧ ((pc) = (pc))) ∧ True)) ∧ ((((Ref.root (0) (2)) = (Ref.root (0) (2))) ∧ (((FD.list [Sh.int IntKind.i64] nq fq) = (FD.list [Sh.int IntKind.i64] nq fq)) ∧ (true = true))) ∧ ((((1, 1) ∈ ([(1, 1)] : List (Nat × Nat))) ∧ ((0) = (0))) ∧ ((((IntKind.i64) = (IntKind.i64)) ∧ (((0 : Int)) = ((0 : Int)))) ∧ ((((IntKind.i64) = (IntKind.i64)) ∧ (((0 : Int)) = ((0 : Int)))) ∧ ((((IntKind.i64) = (IntKind.i64)) ∧ ((plCnt fq y1) = ((0 : Int)))) ∧ ((((IntKind.i64) = (IntKind.i64)) ∧ ((Int.ofNat y1) = ((0 : Int)))) ∧ True)))))))) ∧ (((((35 : TypeId)) = ((35 : Nat))) ∧ (((2) = (2)) ∧ ((((Ref.root (0) (0)) = (Ref.root (0) (0))) ∧ (((FD.list [Sh.str, Sh.list [Sh.int IntKind.i64]] nps fps) = (FD.list [Sh.str, Sh.list [Sh.int IntKind.i64]] nps fps)) ∧ (true = true))) ∧ ((((IntKind.i64) = (IntKind.i64)) ∧ ((pc) = (pc))) ∧ True)))) ∧ True)))) ∧ (∀ y1 : Nat, ((((nq) = (nps)) ∧ (y1 ≤ nq ∧ ((firE (plErr pc fps fq) y1) = ((0 : Int))))) → ((((decide (Int.ofNat y1 < Int.ofNat nq)) = (true)) → ((((decide ((0 : Int) ≤ Int.ofNat y1) && decide (Int.ofNat y1 < (↑nq : Int))) = (true)) → (((true = true) → ((((decide ((-1 : Int) ≤ FD.i (fq (Int.toNat (Int.ofNat y1)) (0 : Nat))) && decide (FD.i (fq (Int.toNat (Int.ofNat y1)) (0 : Nat)) ≤ IntKind.wrap IntKind.i64 (pc - (1 : Int)))) = (false)) → ((((IntKind.i64) = (IntKind.i64)) ∧ ((plV nps pc fps nq fq) = ((0 : Int)))) ∧ ((((IntKind.i64) = (IntKind.i64)) ∧ ((plE nps pc fps nq fq) = ((6 : Int)))) ∧ True))) ∧ (((decide ((-1 : Int) ≤ FD.i (fq (Int.toNat (Int.ofNat y1)) (0 : Nat))) && decide (FD.i (fq (Int.toNat (Int.ofNat y1)) (0 : Nat)) ≤ IntKind.wrap IntKind.i64 (pc - (1 : Int)))) = (true)) → ((((decide ((0 : Int) ≤ Int.ofNat y1) && decide (Int.ofNat y1 < (↑nq : Int))) = (true)) → ((((decide (FD.i (fq (Int.toNat (Int.ofNat y1)) (0 : Nat)) < (0 : Int))) = (true)) → (∃ y2 : Nat, (((((nq) = (nps)) ∧ (y2 ≤ nq ∧ ((firE (plErr pc fps fq) y2) = ((0 : Int))))) ∧ nq - y2 < nq - y1) ∧ (((true = true) ∧ (((((Ref.root (0) (0)) = (Ref.root (0) (0))) ∧ (((FD.list [Sh.str, Sh.list [Sh.int IntKind.i64]] nps fps) = (FD.list [Sh.str, Sh.list [Sh.int IntKind.i64]] nps fps)) ∧ (true = true))) ∧ ((((IntKind.i64) = (IntKind.i64)) ∧ ((pc) = (pc))) ∧ True)) ∧ ((((Ref.root (0) (2)) = (Ref.root (0) (2))) ∧ (((FD.list [Sh.int IntKind.i64] nq fq) = (FD.list [Sh.int IntKind.i64] nq fq)) ∧ (true = true))) ∧ ((((1, 1) ∈ ([(1, 1)] : List (Nat × Nat))) ∧ ((0) = (0))) ∧ ((((IntKind.i64) = (IntKind.i64)) ∧ (((0 : Int)) = ((0 : Int)))) ∧ ((((IntKind.i64) = (IntKind.i64)) ∧ (((0 : Int)) = ((0 : Int)))) ∧ ((((IntKind.i64) = (IntKind.i64)) ∧ ((plCnt fq y2) = (plCnt fq y1))) ∧ ((((IntKind.i64) = (IntKind.i64)) ∧ ((Int.ofNat y2) = (IntKind.wrap IntKind.i64 (Int.ofNat y1 + (1 : Int))))) ∧ True)))))))) ∧ (((((35 : TypeId)) = ((35 : TypeId))) ∧ (((2) = (2)) ∧ ((((Ref.root (0) (0)) = (Ref.root (0) (0))) ∧ (((FD.list [Sh.str, Sh.list [Sh.int IntKind.i64]] nps fps) = (FD.list [Sh.str, Sh.list [Sh.int IntKind.i64]] nps fps)) ∧ (true = true))) ∧ ((((IntKind.i64) = (IntKind.i64)) ∧ ((pc) = (pc))) ∧ True)))) ∧ True))))) ∧ (((decide (FD.i (fq (Int.toNat (Int.ofNat y1)) (0 : Nat)) < (0 : Int))) = (false)) → ((((decide ((0 : Int) ≤ Int.ofNat y1) && decide (Int.ofNat y1 < (↑nps : Int))) = (true)) → ((((decide ((0 : Int) ≤ Int.ofNat y1) && decide (Int.ofNat y1 < (↑nq : Int))) = (true)) → (((true = true) → ((((hasB (FD.ln (fps (Int.toNat (Int.ofNat y1)) ((0 : Nat) + Field.offset { name := "Fits", type := (22 : Nat), offset := (1 : Nat), embedded := false, tag := "", pkgPath := "", byteOffset := (16 : Nat) }))) (FD.fn (fps (Int.toNat (Int.ofNat y1)) ((0 : Nat) + Field.offset { name := "Fits", type := (22 : Nat), offset := (1 : Nat), embedded := false, tag := "", pkgPath := "", byteOffset := (16 : Nat) }))) (FD.i (fq (Int.toNat (Int.ofNat y1)) (0 : Nat)))) = (false)) → ((((IntKind.i64) = (IntKind.i64)) ∧ ((plV nps pc fps nq fq) = ((0 : Int)))) ∧ ((((IntKind.i64) = (IntKind.i64)) ∧ ((plE nps pc fps nq fq) = ((13 : Int)))) ∧ True))) ∧ (((hasB (FD.ln (fps (Int.toNat (Int.ofNat y1)) ((0 : Nat) + Field.offset { name := "Fits", type := (22 : Nat), offset := (1 : Nat), embedded := false, tag := "", pkgPath := "", byteOffset := (16 : Nat) }))) (FD.fn (fps (Int.toNat (Int.ofNat y1)) ((0 : Nat) + Field.offset { name := "Fits", type := (22 : Nat), offset := (1 : Nat), embedded := false, tag := "", pkgPath := "", byteOffset := (16 : Nat) }))) (FD.i (fq (Int.toNat (Int.ofNat y1)) (0 : Nat)))) = (true)) → ((((decide ((0 : Int) ≤ (0 : Int)) && (decide ((0 : Int) ≤ Int.ofNat y1) && decide (Int.ofNat y1 ≤ (↑nq : Int)))) = (true)) → ((((decide ((0 : Int) ≤ Int.ofNat y1) && decide (Int.ofNat y1 < (↑nq : Int))) = (true)) → (((true = true) → ((((hasB (Int.toNat (Int.ofNat y1 - (0 : Int))) (fun (i j : Nat) => fq (Int.toNat (0 : Int) + i) j) (FD.i (fq (Int.toNat (Int.ofNat y1)) (0 : Nat)))) = (true)) → ((((IntKind.i64) = (IntKind.i64)) ∧ ((plV nps pc fps nq fq) = ((0 : Int)))) ∧ ((((IntKind.i64) = (IntKind.i64)) ∧ ((plE nps pc fps nq fq) = ((26 : Int)))) ∧ True))) ∧ (((hasB (Int.toNat (Int.ofNat y1 - (0 : Int))) (fun (i j : Nat) => fq (Int.toNat (0 : Int) + i) j) (FD.i (fq (Int.toNat (Int.ofNat y1)) (0 : Nat)))) = (false)) → (∃ y2 : Nat, (((((nq) = (nps)) ∧ (y2 ≤ nq ∧ ((firE (plErr pc fps fq) y2) = ((0 : Int))))) ∧ nq - y2 < nq - y1) ∧ (((true = true) ∧ (((((Ref.root (0) (0)) = (Ref.root (0) (0))) ∧ (((FD.list [Sh.str, Sh.list [Sh.int IntKind.i64]] nps fps) = (FD.list [Sh.str, Sh.list [Sh.int IntKind.i64]] nps fps)) ∧ (true = true))) ∧ ((((IntKind.i64) = (IntKind.i64)) ∧ ((pc) = (pc))) ∧ True)) ∧ ((((Ref.root (0) (2)) = (Ref.root (0) (2))) ∧ (((FD.list [Sh.int IntKind.i64] nq fq) = (FD.list [Sh.int IntKind.i64] nq fq)) ∧ (true = true))) ∧ ((((1, 1) ∈ ([(1, 1)] : List (Nat × Nat))) ∧ ((0) = (0))) ∧ ((((IntKind.i64) = (IntKind.i64)) ∧ (((0 : Int)) = ((0 : Int)))) ∧ ((((IntKind.i64) = (IntKind.i64)) ∧ (((0 : Int)) = ((0 : Int)))) ∧ ((((IntKind.i64) = (IntKind.i64)) ∧ ((plCnt fq y2) = (IntKind.wrap IntKind.i64 (plCnt fq y1 + (1 : Int))))) ∧ ((((IntKind.i64) = (IntKind.i64)) ∧ ((Int.ofNat y2) = (IntKind.wrap IntKind.i64 (Int.ofNat y1 + (1 : Int))))) ∧ True)))))))) ∧ (((((35 : TypeId)) = ((35 : TypeId))) ∧ (((2) = (2)) ∧ ((((Ref.root (0) (0)) = (Ref.root (0) (0))) ∧ (((FD.list [Sh.str, Sh.list [Sh.int IntKind.i64]] nps fps) = (FD.list [Sh.str, Sh.list [Sh.int IntKind.i64]] nps fps)) ∧ (true = true))) ∧ ((((IntKind.i64) = (IntKind.i64)) ∧ ((pc) = (pc))) ∧ True)))) ∧ True))))))) ∧ ((true = false) → False))) ∧ (((decide ((0 : Int) ≤ Int.ofNat y1) && decide (Int.ofNat y1 < (↑nq : Int))) = (false)) → False))) ∧ (((decide ((0 : Int) ≤ (0 : Int)) && (decide ((0 : Int) ≤ Int.ofNat y1) && decide (Int.ofNat y1 ≤ (↑nq : Int)))) = (false)) → False))))) ∧ ((true = false) → False))) ∧ (((decide ((0 : Int) ≤ Int.ofNat y1) && decide (Int.ofNat y1 < (↑nq : Int))) = (false)) → False))) ∧ (((decide ((0 : Int) ≤ Int.ofNat y1) && decide (Int.ofNat y1 < (↑nps : Int))) = (false)) → False))))) ∧ (((decide ((0 : Int) ≤ Int.ofNat y1) && decide (Int.ofNat y1 < (↑nq : Int))) = (false)) → False))))) ∧ ((true = false) → False))) ∧ (((decide ((0 : Int) ≤ Int.ofNat y1) && decide (Int.ofNat y1 < (↑nq : Int))) = (false)) → False))) ∧ (((decide (Int.ofNat y1 < Int.ofNat nq)) = (false)) → ((((IntKind.i64) = (IntKind.i64)) ∧ ((plV nps pc fps nq fq) = (plCnt fq y1))) ∧ ((((IntKind.i64) = (IntKind.i64)) ∧ ((plE nps pc fps nq fq) = ((0 : Int)))) ∧ True))))))))))) := by kernel_rfl
  refine hvc.mpr ?_
  clear hvc
  simp only [Bool.and_eq_true, decide_eq_true_eq] at hc
  obtain ⟨hn, hp0, hp1⟩ := hc
  have hn := Nat.le_of_ble_eq_true hn
  have hw : IntKind.i64.wrap (pc - 1) = pc - 1 := wrap_id (by omega) (by omega)
  simp [hw]
  refine ⟨fun h => pl_shape (by omega), fun h => ?_⟩
  obtain rfl : nq = nps := by omega
  refine ⟨⟨⟨rfl, rfl⟩, rfl⟩, fun y _ hy he => ⟨fun hlt => ⟨fun _ => ?_, hlt⟩, fun hge => ?_⟩⟩
  · obtain ⟨r1, r2, r3⟩ := pl_round hn hlt he
    refine ⟨fun h => r1 6 ?_ (by omega), fun h1 h2 => ⟨fun _ => ⟨fun h3 => r2 ?_ (by omega), fun h3 => ⟨fun _ => ⟨fun _ => ⟨fun h4 => r1 13 ?_ (by omega), fun h4 => ⟨fun _ => ⟨fun _ => ⟨fun h5 => r1 26 ?_ (by omega), fun h5 => r3 ?_ (by omega)⟩, hlt⟩, by omega⟩⟩, hlt⟩, hlt⟩⟩, hlt⟩⟩
    · rw [plErr, if_neg (by intro hh; have := h (by omega); omega), if_neg (by rw [hw]; intro hh; have := h (by omega); omega)]
    · rw [plErr, if_pos (by omega)]
    · rw [plErr, if_neg (by omega), if_pos (by rw [hw]; omega), if_neg (by rw [h4]; simp)]
    · rw [plErr, if_neg (by omega), if_pos (by rw [hw]; omega), if_pos h4, if_pos h5]
    · rw [plErr, if_neg (by omega), if_pos (by rw [hw]; omega), if_pos h4, if_neg (by intro hh; have := h5.symm.trans hh; simp at this)]
  · obtain rfl : y = nq := by omega
    exact pl_end he
def checkPlacesS : List PT := [.agg [.list [.str, .list [.int .i64]], .int .i64], .one (.list [.int .i64])]
def checkPlacesC : List FD → Bool
  | [.list _ nps fps, .int _ _, .list _ _ _] => crowdB nps fps
  | _ => false
def checkPlacesR : List FD → List FD
  | [.list _ nps fps, .int _ pc, .list _ nq fq] => [.int .i64 (if loadE pc nps fps = 0 then plV nps pc fps nq fq else 0), .int .i64 (if loadE pc nps fps = 0 then plE nps pc fps nq fq else loadE pc nps fps)]
  | _ => []
def checkPlacesI (nps : Nat) (fps : Nat → Nat → FD) (pc : Int) (nq : Nat) (fq : Nat → Nat → FD) : Nat → AFam := fun i => match i with | 8 => ⟨Nat, fun _ => [{ι := Nat, G := fun x => nq = nps ∧ (x ≤ nq ∧ firE (plErr pc fps fq) x = 0), μ := fun x => nq - x, tl := fun x => [(0, .agg [.fz (.root 0 0) (FD.list [Sh.str, Sh.list [Sh.int IntKind.i64]] nps fps), .int IntKind.i64 (.tm pc)]), (1, .one (.fz (.root 0 2) (FD.list [Sh.int IntKind.i64] nq fq))), (2, .one (.ptr (some (1, 0)))), (4, .one (.int IntKind.i64 (.lit (0 : Int)))), (5, .one (.int IntKind.i64 (.lit (0 : Int)))), (7, .one (.int IntKind.i64 (.tm (plCnt fq x)))), (23, .one (.fz (.root 0 2) (FD.list [Sh.int IntKind.i64] nq fq))), (24, .one (.int IntKind.i64 (.tm (Int.ofNat nq)))), (25, .one (.int IntKind.i64 (.tm (Int.ofNat x))))], bl := fun x => [(1, .cells 35 2 [.fz (.root 0 0) (FD.list [Sh.str, Sh.list [Sh.int IntKind.i64]] nps fps), .int IntKind.i64 (.tm pc)])], nx := (1 : Nat) + (1 : Nat)}]⟩ | _ => ⟨Nat, fun _ => []⟩
theorem checkPlaces_ok : FnOk (mkR smLe gsLa) Try.prog η0 69 (FI.of Try.f69 true) checkPlacesS (.tup [.one (.int .i64), .one (.int .i64)]) checkPlacesC checkPlacesR := by
  refine fnOk_of0 smLe_ok gsLa_ok Try.fok69 (fun fds => match fds with | [.list _ nps fps, .int _ pc, .list _ nq fq] => checkPlacesI nps fps pc nq fq | _ => alts fun _ => []) ?_
  intro fds hf hc
  obtain ⟨nps, fps, ds0, rfl, gps, hf1⟩ := hf.list
  obtain ⟨pc, ds1, rfl, hf2⟩ := hf1.int
  obtain ⟨nq, fq, ds2, rfl, gq, hf3⟩ := hf2.list
  obtain rfl := hf3.nil
  have hc : (crowdB nps fps) = true := hc
  have hvc : (vcF smLe gsLa (FI.of Try.f69 true) checkPlacesS (.tup [.one (.int .i64), .one (.int .i64)]) (checkPlacesI nps fps pc nq fq) noR [.list [.str, .list [.int .i64]] nps fps, .int .i64 pc, .list [.int .i64] nq fq] (checkPlacesR [.list [.str, .list [.int .i64]] nps fps, .int .i64 pc, .list [.int .i64] nq fq])) =
    ((true = true) ∧ ((((loadErrC ([FD.list [Sh.str, Sh.list [Sh.int IntKind.i64]] nps fps, FD.int IntKind.i64 pc] ++ [])) = (true)) → ((((decide (loadE pc nps fps = (0 : Int))) = (false)) → ((((IntKind.i64) = (IntKind.i64)) ∧ ((if loadE pc nps fps = (0 : Int) then plV nps pc fps nq fq else (0 : Int)) = ((0 : Int)))) ∧ ((((IntKind.i64) = (IntKind.i64)) ∧ ((if loadE pc nps fps = (0 : Int) then plE nps pc fps nq fq else loadE pc nps fps) = (loadE pc nps fps))) ∧ True))) ∧ (((decide (loadE pc nps fps = (0 : Int))) = (true)) → ((((decide (Int.ofNat nq = Int.ofNat nps)) = (false)) → ((((IntKind.i64) = (IntKind.i64)) ∧ ((if loadE pc nps fps = (0 : Int) then plV nps pc fps nq fq else (0 : Int)) = ((0 : Int)))) ∧ ((((IntKind.i64) = (IntKind.i64)) ∧ ((if loadE pc nps fps = (0 : Int) then plE nps pc fps nq fq else loadE pc nps fps) = ((12 : Int)))) ∧ True))) ∧ (((decide (Int.ofNat nq = Int.ofNat nps)) = (true)) → (∃ y0 : Nat, ((∃ y1 : Nat, (((((nq) = (nps)) ∧ (y1 ≤ nq ∧ ((firE (plErr pc fps fq) y1) = ((0 : Int))))) ∧ True) ∧ (((true = true) ∧ (((((Ref.root (0) (0)) = (Ref.root (0) (0))) ∧ (((FD.list [Sh.str, Sh.list [Sh.int IntKind.i64]] nps fps) = (FD.list [Sh.str, Sh.list [Sh.int IntKind.i64]] nps fps)) ∧ (true = true))) ∧ ((((IntKind.i64) = (IntKind.i64)) ∧ ((pc) = (pc))) ∧ True)) ∧ ((((Ref.root (0) (2)) = (Ref.root (0) (2))) ∧ (((FD.list [Sh.int IntKind.i64] nq fq) = (FD.list [Sh.int IntKind.i64] nq fq)) ∧ (true = true))) ∧ ((((1, 1) ∈ ([(1, 1)] : List (Nat × Nat))) ∧ ((0) = (0))) ∧ ((((IntKind.i64) = (IntKind.i64)) ∧ (((0 : Int)) = ((0 : Int)))) ∧ ((((IntKind.i64) = (IntKind.i64)) ∧ (((0 : Int)) = ((0 : Int)))) ∧ ((((IntKind.i64) = (IntKind.i64)) ∧ ((plCnt fq y1) = ((0 : Int)))) ∧ ((((Ref.root (0) (2)) = (Ref.root (0) (2))) ∧ (((FD.list [Sh.int IntKind.i64] nq fq) = (FD.list [Sh.int IntKind.i64] nq fq)) ∧ (true = true))) ∧ ((((IntKind.i64) = (IntKind.i64)) ∧ ((Int.ofNat nq) = (Int.ofNat nq))) ∧ ((((IntKind.i64) = (IntKind.i64)) ∧ ((Int.ofNat y1) = ((0 : Int)))) ∧ True)))))))))) ∧ (((((35 : TypeId)) = ((35 : Nat))) ∧ (((2) = (2)) ∧ ((((Ref.root (0) (0)) = (Ref.root (0) (0))) ∧ (((FD.list [Sh.str, Sh.list [Sh.int IntKind.i64]] nps fps) = (FD.list [Sh.str, Sh.list [Sh.int IntKind.i64]] nps fps)) ∧ (true = true))) ∧ ((((IntKind.i64) = (IntKind.i64)) ∧ ((pc) = (pc))) ∧ True)))) ∧ True)))) ∧ (∀ y1 : Nat, ((((nq) = (nps)) ∧ (y1 ≤ nq ∧ ((firE (plErr pc fps fq) y1) = ((0 : Int))))) → ((((decide (Int.ofNat y1 < Int.ofNat nq)) = (true)) → ((((decide ((0 : Int) ≤ Int.ofNat y1) && decide (Int.ofNat y1 < (↑nq : Int))) = (true)) → ((((decide (FD.i (fq (Int.toNat (Int.ofNat y1)) (0 : Nat)) = (-1 : Int))) = (true)) → (∃ y2 : Nat, (((((nq) = (nps)) ∧ (y2 ≤ nq ∧ ((firE (plErr pc fps fq) y2) = ((0 : Int))))) ∧ nq - y2 < nq - y1) ∧ (((true = true) ∧ (((((Ref.root (0) (0)) = (Ref.root (0) (0))) ∧ (((FD.list [Sh.str, Sh.list [Sh.int IntKind.i64]] nps fps) = (FD.list [Sh.str, Sh.list [Sh.int IntKind.i64]] nps fps)) ∧ (true = true))) ∧ ((((IntKind.i64) = (IntKind.i64)) ∧ ((pc) = (pc))) ∧ True)) ∧ ((((Ref.root (0) (2)) = (Ref.root (0) (2))) ∧ (((FD.list [Sh.int IntKind.i64] nq fq) = (FD.list [Sh.int IntKind.i64] nq fq)) ∧ (true = true))) ∧ ((((1, 1) ∈ ([(1, 1)] : List (Nat × Nat))) ∧ ((0) = (0))) ∧ ((((IntKind.i64) = (IntKind.i64)) ∧ (((0 : Int)) = ((0 : Int)))) ∧ ((((IntKind.i64) = (IntKind.i64)) ∧ (((0 : Int)) = ((0 : Int)))) ∧ ((((IntKind.i64) = (IntKind.i64)) ∧ ((plCnt fq y2) = (plCnt fq y1))) ∧ ((((Ref.root (0) (2)) = (Ref.root (0) (2))) ∧ (((FD.list [Sh.int IntKind.i64] nq fq) = (FD.list [Sh.int IntKind.i64] nq fq)) ∧ (true = true))) ∧ ((((IntKind.i64) = (IntKind.i64)) ∧ ((Int.ofNat nq) = (Int.ofNat nq))) ∧ ((((IntKind.i64) = (IntKind.i64)) ∧ ((Int.ofNat y2) = (IntKind.wrap IntKind.i64 (Int.ofNat y1 + (1 : Int))))) ∧ True)))))))))) ∧ (((((35 : TypeId)) = ((35 : TypeId))) ∧ (((2) = (2)) ∧ ((((Ref.root (0) (0)) = (Ref.root (0) (0))) ∧ (((FD.list [Sh.str, Sh.list [Sh.int IntKind.i64]] nps fps) = (FD.list [Sh.str, Sh.list [Sh.int IntKind.i64]] nps fps)) ∧ (true = true))) ∧ ((((IntKind.i64) = (IntKind.i64)) ∧ ((pc) = (pc))) ∧ True)))) ∧ True))))) ∧ (((decide (FD.i (fq (Int.toNat (Int.ofNat y1)) (0 : Nat)) = (-1 : Int))) = (false)) → (((true = true) → ((((decide ((0 : Int) ≤ FD.i (fq (Int.toNat (Int.ofNat y1)) (0 : Nat))) && decide (FD.i (fq (Int.toNat (Int.ofNat y1)) (0 : Nat)) ≤ IntKind.wrap IntKind.i64 (pc - (1 : Int)))) = (false)) → ((((IntKind.i64) = (IntKind.i64)) ∧ ((if loadE pc nps fps = (0 : Int) then plV nps pc fps nq fq else (0 : Int)) = ((0 : Int)))) ∧ ((((IntKind.i64) = (IntKind.i64)) ∧ ((if loadE pc nps fps = (0 : Int) then plE nps pc fps nq fq else loadE pc nps fps) = ((6 : Int)))) ∧ True))) ∧ (((decide ((0 : Int) ≤ FD.i (fq (Int.toNat (Int.ofNat y1)) (0 : Nat))) && decide (FD.i (fq (Int.toNat (Int.ofNat y1)) (0 : Nat)) ≤ IntKind.wrap IntKind.i64 (pc - (1 : Int)))) = (true)) → ((((decide ((0 : Int) ≤ Int.ofNat y1) && decide (Int.ofNat y1 < (↑nps : Int))) = (true)) → (((true = true) → ((((hasB (FD.ln (fps (Int.toNat (Int.ofNat y1)) ((0 : Nat) + Field.offset { name := "Fits", type := (22 : Nat), offset := (1 : Nat), embedded := false, tag := "", pkgPath := "", byteOffset := (16 : Nat) }))) (FD.fn (fps (Int.toNat (Int.ofNat y1)) ((0 : Nat) + Field.offset { name := "Fits", type := (22 : Nat), offset := (1 : Nat), embedded := false, tag := "", pkgPath := "", byteOffset := (16 : Nat) }))) (FD.i (fq (Int.toNat (Int.ofNat y1)) (0 : Nat)))) = (false)) → ((((IntKind.i64) = (IntKind.i64)) ∧ ((if loadE pc nps fps = (0 : Int) then plV nps pc fps nq fq else (0 : Int)) = ((0 : Int)))) ∧ ((((IntKind.i64) = (IntKind.i64)) ∧ ((if loadE pc nps fps = (0 : Int) then plE nps pc fps nq fq else loadE pc nps fps) = ((13 : Int)))) ∧ True))) ∧ (((hasB (FD.ln (fps (Int.toNat (Int.ofNat y1)) ((0 : Nat) + Field.offset { name := "Fits", type := (22 : Nat), offset := (1 : Nat), embedded := false, tag := "", pkgPath := "", byteOffset := (16 : Nat) }))) (FD.fn (fps (Int.toNat (Int.ofNat y1)) ((0 : Nat) + Field.offset { name := "Fits", type := (22 : Nat), offset := (1 : Nat), embedded := false, tag := "", pkgPath := "", byteOffset := (16 : Nat) }))) (FD.i (fq (Int.toNat (Int.ofNat y1)) (0 : Nat)))) = (true)) → ((((decide ((0 : Int) ≤ (0 : Int)) && (decide ((0 : Int) ≤ Int.ofNat y1) && decide (Int.ofNat y1 ≤ (↑nq : Int)))) = (true)) → (((true = true) → ((((hasB (Int.toNat (Int.ofNat y1 - (0 : Int))) (fun (i j : Nat) => fq (Int.toNat (0 : Int) + i) j) (FD.i (fq (Int.toNat (Int.ofNat y1)) (0 : Nat)))) = (true)) → ((((IntKind.i64) = (IntKind.i64)) ∧ ((if loadE pc nps fps = (0 : Int) then plV nps pc fps nq fq else (0 : Int)) = ((0 : Int)))) ∧ ((((IntKind.i64) = (IntKind.i64)) ∧ ((if loadE pc nps fps = (0 : Int) then plE nps pc fps nq fq else loadE pc nps fps) = ((26 : Int)))) ∧ True))) ∧ (((hasB (Int.toNat (Int.ofNat y1 - (0 : Int))) (fun (i j : Nat) => fq (Int.toNat (0 : Int) + i) j) (FD.i (fq (Int.toNat (Int.ofNat y1)) (0 : Nat)))) = (false)) → (∃ y2 : Nat, (((((nq) = (nps)) ∧ (y2 ≤ nq ∧ ((firE (plErr pc fps fq) y2) = ((0 : Int))))) ∧ nq - y2 < nq - y1) ∧ (((true = true) ∧ (((((Ref.root (0) (0)) = (Ref.root (0) (0))) ∧ (((FD.list [Sh.str, Sh.list [Sh.int IntKind.i64]] nps fps) = (FD.list [Sh.str, Sh.list [Sh.int IntKind.i64]] nps fps)) ∧ (true = true))) ∧ ((((IntKind.i64) = (IntKind.i64)) ∧ ((pc) = (pc))) ∧ True)) ∧ ((((Ref.root (0) (2)) = (Ref.root (0) (2))) ∧ (((FD.list [Sh.int IntKind.i64] nq fq) = (FD.list [Sh.int IntKind.i64] nq fq)) ∧ (true = true))) ∧ ((((1, 1) ∈ ([(1, 1)] : List (Nat × Nat))) ∧ ((0) = (0))) ∧ ((((IntKind.i64) = (IntKind.i64)) ∧ (((0 : Int)) = ((0 : Int)))) ∧ ((((IntKind.i64) = (IntKind.i64)) ∧ (((0 : Int)) = ((0 : Int)))) ∧ ((((IntKind.i64) = (IntKind.i64)) ∧ ((plCnt fq y2) = (IntKind.wrap IntKind.i64 (plCnt fq y1 + (1 : Int))))) ∧ ((((Ref.root (0) (2)) = (Ref.root (0) (2))) ∧ (((FD.list [Sh.int IntKind.i64] nq fq) = (FD.list [Sh.int IntKind.i64] nq fq)) ∧ (true = true))) ∧ ((((IntKind.i64) = (IntKind.i64)) ∧ ((Int.ofNat nq) = (Int.ofNat nq))) ∧ ((((IntKind.i64) = (IntKind.i64)) ∧ ((Int.ofNat y2) = (IntKind.wrap IntKind.i64 (Int.ofNat y1 + (1 : Int))))) ∧ True)))))))))) ∧ (((((35 : TypeId)) = ((35 : TypeId))) ∧ (((2) = (2)) ∧ ((((Ref.root (0) (0)) = (Ref.root (0) (0))) ∧ (((FD.list [Sh.str, Sh.list [Sh.int IntKind.i64]] nps fps) = (FD.list [Sh.str, Sh.list [Sh.int IntKind.i64]] nps fps)) ∧ (true = true))) ∧ ((((IntKind.i64) = (IntKind.i64)) ∧ ((pc) = (pc))) ∧ True)))) ∧ True))))))) ∧ ((true = false) → False))) ∧ (((decide ((0 : Int) ≤ (0 : Int)) && (decide ((0 : Int) ≤ Int.ofNat y1) && decide (Int.ofNat y1 ≤ (↑nq : Int)))) = (false)) → False))))) ∧ ((true = false) → False))) ∧ (((decide ((0 : Int) ≤ Int.ofNat y1) && decide (Int.ofNat y1 < (↑nps : Int))) = (false)) → False))))) ∧ ((true = false) → False))))) ∧ (((decide ((0 : Int) ≤ Int.ofNat y1) && decide (Int.ofNat y1 < (↑nq : Int))) = (false)) → False))) ∧ (((decide (Int.ofNat y1 < Int.ofNat nq)) = (false)) → ((((IntKind.i64) = (IntKind.i64)) ∧ ((if loadE pc nps fps = (0 : Int) then plV nps pc fps nq fq else (0 : Int)) = (plCnt fq y1))) ∧ ((((IntKind.i64) = (IntKind.i64)) ∧ ((if loadE pc nps fps = (0 : Int) then plE nps pc fps nq fq else loadE pc nps fps) = ((0 : Int)))) ∧ True))))))))))))) ∧ (((loadErrC ([FD.list [Sh.str, Sh.list [Sh.int IntKind.i64]] nps fps, FD.int IntKind.i64 pc] ++ [])) = (false)) → False))) := by kernel_rfl
  refine hvc.mpr ?_
  clear hvc
  have hn := (crowdB_ok hc).1
  have hL : loadErrC [.list [.str, .list [.int .i64]] nps fps, .int .i64 pc] = true := hc
  by_cases hl : loadE pc nps fps = 0
  · have hp : 0 ≤ pc ∧ pc ≤ 24 := loadE_pc hl
    have hw : IntKind.i64.wrap (pc - 1) = pc - 1 := wrap_id (by omega) (by omega)
    simp [hw, hl, hL]
    refine ⟨fun h => pl_shape (by omega), fun h => ?_⟩
    obtain rfl : nq = nps := by omega
    refine ⟨⟨⟨rfl, rfl⟩, rfl⟩, fun y _ hy he => ⟨fun hlt => ⟨fun _ => ?_, hlt⟩, fun hge => ?_⟩⟩
    · obtain ⟨r1, r2, r3⟩ := pl_round hn hlt he
      refine ⟨fun h => r2 ?_ h, fun h => ⟨fun h1 => r1 6 ?_ (by omega), fun h2 h3 => ⟨fun _ => ⟨fun h4 => r1 13 ?_ (by omega), fun h4 => ⟨fun _ => ⟨fun h5 => r1 26 ?_ (by omega), fun h5 => r3 ?_ h⟩, by omega⟩⟩, hlt⟩⟩⟩
      · rw [plErr, if_pos h]
      · rw [plErr, if_neg h, if_neg (by rw [hw]; intro hh; have := h1 hh.1; omega)]
      · rw [plErr, if_neg h, if_pos (by rw [hw]; omega), if_neg (by rw [h4]; simp)]
      · rw [plErr, if_neg h, if_pos (by rw [hw]; omega), if_pos h4, if_pos h5]
      · rw [plErr, if_neg h, if_pos (by rw [hw]; omega), if_pos h4, if_neg (by intro hh; have := h5.symm.trans hh; simp at this)]
    · obtain rfl : y = nq := by omega
      exact pl_end he
  · simp [hl, hL]
/-- The error of a part that a cover leaves out. -/
def cvAt (f : Nat → Nat → FD) (ncp : Nat) (fcp : Nat → Nat → FD) (ncl : Nat) (fcl : Nat → Nat → FD) (i k : Nat) : Bool := hasB ncp fcp i || hasB ncl fcl ((f i 1).fn k 0).i
def cvErr (f : Nat → Nat → FD) (ncp : Nat) (fcp : Nat → Nat → FD) (ncl : Nat) (fcl : Nat → Nat → FD) (i : Nat) : Int := if natAll (cvAt f ncp fcp ncl fcl i) (f i 1).ln = true then 0 else 20
def coE (pc : Int) (n : Nat) (f : Nat → Nat → FD) (ncp : Nat) (fcp : Nat → Nat → FD) (ncl : Nat) (fcl : Nat → Nat → FD) : Int := first3 (firE (ascE fcp n) ncp) (firE (ascE fcl pc) ncl) (firE (cvErr f ncp fcp ncl fcl) n)
def coV (pc : Int) (n : Nat) (f : Nat → Nat → FD) (ncp : Nat) (fcp : Nat → Nat → FD) (ncl : Nat) (fcl : Nat → Nat → FD) : Int := if coE pc n f ncp fcp ncl fcl = 0 then (ncp : Int) + ncl else 0
def refCoverS : List PT := [.agg [.list [.str, .list [.int .i64]], .int .i64], .agg [.list [.int .i64], .list [.int .i64]]]
def refCoverC : List FD → Bool
  | [.list _ nps _, .int _ _, .list _ ncp _, .list _ ncl _] => Nat.ble nps 26 && (Nat.ble ncp 30 && Nat.ble ncl 30)
  | _ => false
def refCoverR : List FD → List FD
  | [.list _ nps fps, .int _ pc, .list _ ncp fcp, .list _ ncl fcl] => [.int .i64 (coV pc nps fps ncp fcp ncl fcl), .int .i64 (coE pc nps fps ncp fcp ncl fcl)]
  | _ => []
def refCoverI (nps : Nat) (fps : Nat → Nat → FD) (pc : Int) (ncp : Nat) (fcp : Nat → Nat → FD) (ncl : Nat) (fcl : Nat → Nat → FD) : Nat → AFam := fun i => match i with | 8 => ⟨Nat, fun _ => [{ι := Nat, G := fun x => x ≤ nps ∧ firE (cvErr fps ncp fcp ncl fcl) x = 0, μ := fun x => nps - x, tl := fun x => [(0, .agg [.fz (.root 0 0) (FD.list [Sh.str, Sh.list [Sh.int IntKind.i64]] nps fps), .int IntKind.i64 (.tm pc)]), (1, .agg [.fz (.root 0 2) (FD.list [Sh.int IntKind.i64] ncp fcp), .fz (.root 0 3) (FD.list [Sh.int IntKind.i64] ncl fcl)]), (2, .one (.ptr (some (1, 0)))), (3, .one (.ptr (some (2, 0)))), (4, .one (.int IntKind.i64 (.lit (0 : Int)))), (5, .one (.int IntKind.i64 (.lit (0 : Int)))), (8, .one (.int IntKind.i64 (.tm (Int.ofNat x))))], bl := fun x => [(1, .cells 35 2 [.fz (.root 0 0) (FD.list [Sh.str, Sh.list [Sh.int IntKind.i64]] nps fps), .int IntKind.i64 (.tm pc)]), (2, .cells 38 2 [.fz (.root 0 2) (FD.list [Sh.int IntKind.i64] ncp fcp), .fz (.root 0 3) (FD.list [Sh.int IntKind.i64] ncl fcl)])], nx := (1 : Nat) + (1 : Nat) + (1 : Nat)}]⟩ | 11 => ⟨Nat, fun z => [{ι := Nat, G := fun x => (z < nps ∧ firE (cvErr fps ncp fcp ncl fcl) z = 0) ∧ (x ≤ (fps z 1).ln ∧ natAll (cvAt fps ncp fcp ncl fcl z) x = true), μ := fun x => (fps z 1).ln - x, tl := fun x => [(0, .agg [.fz (.root 0 0) (FD.list [Sh.str, Sh.list [Sh.int IntKind.i64]] nps fps), .int IntKind.i64 (.tm pc)]), (1, .agg [.fz (.root 0 2) (FD.list [Sh.int IntKind.i64] ncp fcp), .fz (.root 0 3) (FD.list [Sh.int IntKind.i64] ncl fcl)]), (2, .one (.ptr (some (1, 0)))), (3, .one (.ptr (some (2, 0)))), (4, .one (.int IntKind.i64 (.lit (0 : Int)))), (5, .one (.int IntKind.i64 (.lit (0 : Int)))), (8, .one (.int IntKind.i64 (.tm (Int.ofNat z)))), (9, .one (.int IntKind.i64 (.tm (Int.ofNat x))))], bl := fun x => [(1, .cells 35 2 [.fz (.root 0 0) (FD.list [Sh.str, Sh.list [Sh.int IntKind.i64]] nps fps), .int IntKind.i64 (.tm pc)]), (2, .cells 38 2 [.fz (.root 0 2) (FD.list [Sh.int IntKind.i64] ncp fcp), .fz (.root 0 3) (FD.list [Sh.int IntKind.i64] ncl fcl)])], nx := (1 : Nat) + (1 : Nat) + (1 : Nat)}]⟩ | _ => ⟨Nat, fun _ => []⟩
abbrev qrefCover4 (ncp : Nat) (fcp : Nat → Nat → FD) (ncl : Nat) (fcl : Nat → Nat → FD) : Prop := ((((Ref.root (0) (2)) = (Ref.root (0) (2))) ∧ (((FD.list [Sh.int IntKind.i64] ncp fcp) = (FD.list [Sh.int IntKind.i64] ncp fcp)) ∧ (true = true))) ∧ ((((Ref.root (0) (3)) = (Ref.root (0) (3))) ∧ (((FD.list [Sh.int IntKind.i64] ncl fcl) = (FD.list [Sh.int IntKind.i64] ncl fcl)) ∧ (true = true))) ∧ True))
abbrev qrefCover7 (nps : Nat) (fps : Nat → Nat → FD) (pc : Int) : Prop := ((((Ref.root (0) (0)) = (Ref.root (0) (0))) ∧ (((FD.list [Sh.str, Sh.list [Sh.int IntKind.i64]] nps fps) = (FD.list [Sh.str, Sh.list [Sh.int IntKind.i64]] nps fps)) ∧ (true = true))) ∧ ((((IntKind.i64) = (IntKind.i64)) ∧ ((pc) = (pc))) ∧ True))
abbrev qrefCover2 (nps : Nat) (fps : Nat → Nat → FD) (pc : Int) (ncp : Nat) (fcp : Nat → Nat → FD) (ncl : Nat) (fcl : Nat → Nat → FD) (y2 : Nat) (y3 : Nat) : Prop := (∃ y4 : Nat, ((((y2 < nps ∧ ((firE (cvErr fps ncp fcp ncl fcl) y2) = ((0 : Int)))) ∧ (y4 ≤ FD.ln (fps y2 (1 : Nat)) ∧ ((natAll (cvAt fps ncp fcp ncl fcl y2) y4) = (true)))) ∧ FD.ln (fps y2 (1 : Nat)) - y4 < FD.ln (fps y2 (1 : Nat)) - y3) ∧ (((true = true) ∧ ((qrefCover7 nps fps pc) ∧ ((qrefCover4 ncp fcp ncl fcl) ∧ ((((1, 1) ∈ ([(2, 2), (1, 1)] : List (Nat × Nat))) ∧ ((0) = (0))) ∧ ((((2, 2) ∈ ([(2, 2), (1, 1)] : List (Nat × Nat))) ∧ ((0) = (0))) ∧ ((((IntKind.i64) = (IntKind.i64)) ∧ (((0 : Int)) = ((0 : Int)))) ∧ ((((IntKind.i64) = (IntKind.i64)) ∧ (((0 : Int)) = ((0 : Int)))) ∧ ((((IntKind.i64) = (IntKind.i64)) ∧ ((Int.ofNat y2) = (Int.ofNat y2))) ∧ ((((IntKind.i64) = (IntKind.i64)) ∧ ((Int.ofNat y4) = (IntKind.wrap IntKind.i64 (Int.ofNat y3 + (1 : Int))))) ∧ True))))))))) ∧ (((((35 : TypeId)) = ((35 : TypeId))) ∧ (((2) = (2)) ∧ (qrefCover7 nps fps pc))) ∧ (((((38 : TypeId)) = ((38 : TypeId))) ∧ (((2) = (2)) ∧ (qrefCover4 ncp fcp ncl fcl))) ∧ True)))))
abbrev qrefCover11 (nps : Nat) (fps : Nat → Nat → FD) (pc : Int) (ncp : Nat) (fcp : Nat → Nat → FD) (ncl : Nat) (fcl : Nat → Nat → FD) (y2 : Nat) (y3 : Nat) : Prop := (((hasB ncp fcp (Int.ofNat y2)) = (true)) → ((((hasB ncp fcp (Int.ofNat y2)) = (true)) → (qrefCover2 nps fps pc ncp fcp ncl fcl y2 y3)) ∧ (((hasB ncp fcp (Int.ofNat y2)) = (false)) → False)))
abbrev qrefCover0 (nps : Nat) (fps : Nat → Nat → FD) (pc : Int) (ncp : Nat) (fcp : Nat → Nat → FD) (ncl : Nat) (fcl : Nat → Nat → FD) (y2 : Nat) (y3 : Nat) : Prop := ((((hasB ncp fcp (Int.ofNat y2)) = (true)) → ((qrefCover11 nps fps pc ncp fcp ncl fcl y2 y3) ∧ (((hasB ncp fcp (Int.ofNat y2)) = (false)) → False))) ∧ (((hasB ncp fcp (Int.ofNat y2)) = (false)) → False))
abbrev qrefCover10 (nps : Nat) (fps : Nat → Nat → FD) (pc : Int) (ncp : Nat) (fcp : Nat → Nat → FD) (ncl : Nat) (fcl : Nat → Nat → FD) (y2 : Nat) (y3 : Nat) : Prop := (((hasB ncp fcp (Int.ofNat y2)) = (true)) → ((((hasB ncp fcp (Int.ofNat y2)) = (true)) → (qrefCover0 nps fps pc ncp fcp ncl fcl y2 y3)) ∧ (((hasB ncp fcp (Int.ofNat y2)) = (false)) → False)))
abbrev qrefCover6 (nps : Nat) (fps : Nat → Nat → FD) (pc : Int) (ncp : Nat) (fcp : Nat → Nat → FD) (ncl : Nat) (fcl : Nat → Nat → FD) (y2 : Nat) (y3 : Nat) : Prop := ((qrefCover10 nps fps pc ncp fcp ncl fcl y2 y3) ∧ (((hasB ncp fcp (Int.ofNat y2)) = (false)) → False))
abbrev qrefCover9 (nps : Nat) (fps : Nat → Nat → FD) (pc : Int) (ncp : Nat) (fcp : Nat → Nat → FD) (ncl : Nat) (fcl : Nat → Nat → FD) (y2 : Nat) (y3 : Nat) : Prop := (((hasB ncp fcp (Int.ofNat y2)) = (true)) → ((((hasB ncp fcp (Int.ofNat y2)) = (true)) → (qrefCover6 nps fps pc ncp fcp ncl fcl y2 y3)) ∧ (((hasB ncp fcp (Int.ofNat y2)) = (false)) → (qrefCover6 nps fps pc ncp fcp ncl fcl y2 y3))))
abbrev qrefCover1 (nps : Nat) (fps : Nat → Nat → FD) (pc : Int) (ncp : Nat) (fcp : Nat → Nat → FD) (ncl : Nat) (fcl : Nat → Nat → FD) (y2 : Nat) (y3 : Nat) : Prop := (((hasB ncp fcp (Int.ofNat y2)) = (true)) → ((qrefCover9 nps fps pc ncp fcp ncl fcl y2 y3) ∧ (((hasB ncp fcp (Int.ofNat y2)) = (false)) → False)))
abbrev qrefCover8 (nps : Nat) (fps : Nat → Nat → FD) (pc : Int) (ncp : Nat) (fcp : Nat → Nat → FD) (ncl : Nat) (fcl : Nat → Nat → FD) (y2 : Nat) (y3 : Nat) : Prop := (((hasB ncp fcp (Int.ofNat y2)) = (true)) → ((qrefCover1 nps fps pc ncp fcp ncl fcl y2 y3) ∧ (((hasB ncp fcp (Int.ofNat y2)) = (false)) → False)))
abbrev qrefCover5 (nps : Nat) (fps : Nat → Nat → FD) (pc : Int) (ncp : Nat) (fcp : Nat → Nat → FD) (ncl : Nat) (fcl : Nat → Nat → FD) (y2 : Nat) (y3 : Nat) : Prop := (((hasB ncp fcp (Int.ofNat y2)) = (true)) → ((((hasB ncp fcp (Int.ofNat y2)) = (true)) → ((qrefCover8 nps fps pc ncp fcp ncl fcl y2 y3) ∧ (((hasB ncp fcp (Int.ofNat y2)) = (false)) → False))) ∧ (((hasB ncp fcp (Int.ofNat y2)) = (false)) → ((qrefCover8 nps fps pc ncp fcp ncl fcl y2 y3) ∧ (((hasB ncp fcp (Int.ofNat y2)) = (false)) → False)))))
abbrev qrefCover3 (nps : Nat) (fps : Nat → Nat → FD) (pc : Int) (ncp : Nat) (fcp : Nat → Nat → FD) (ncl : Nat) (fcl : Nat → Nat → FD) (y2 : Nat) (y3 : Nat) : Prop := (((hasB ncp fcp (Int.ofNat y2)) = (true)) → ((((hasB ncp fcp (Int.ofNat y2)) = (true)) → ((qrefCover5 nps fps pc ncp fcp ncl fcl y2 y3) ∧ (((hasB ncp fcp (Int.ofNat y2)) = (false)) → False))) ∧ (((hasB ncp fcp (Int.ofNat y2)) = (false)) → ((qrefCover5 nps fps pc ncp fcp ncl fcl y2 y3) ∧ (((hasB ncp fcp (Int.ofNat y2)) = (false)) → ((((hasB ncp fcp (Int.ofNat y2)) = (true)) → ((qrefCover8 nps fps pc ncp fcp ncl fcl y2 y3) ∧ (((hasB ncp fcp (Int.ofNat y2)) = (false)) → False))) ∧ (((hasB ncp fcp (Int.ofNat y2)) = (false)) → ((qrefCover8 nps fps pc ncp fcp ncl fcl y2 y3) ∧ (((hasB ncp fcp (Int.ofNat y2)) = (false)) → ((((decide ((0 : Int) ≤ Int.ofNat y2) && decide (Int.ofNat y2 < (↑nps : Int))) = (true)) → ((qrefCover1 nps fps pc ncp fcp ncl fcl y2 y3) ∧ (((hasB ncp fcp (Int.ofNat y2)) = (false)) → ((qrefCover9 nps fps pc ncp fcp ncl fcl y2 y3) ∧ (((hasB ncp fcp (Int.ofNat y2)) = (false)) → ((((hasB ncp fcp (Int.ofNat y2)) = (true)) → (qrefCover6 nps fps pc ncp fcp ncl fcl y2 y3)) ∧ (((hasB ncp fcp (Int.ofNat y2)) = (false)) → ((qrefCover10 nps fps pc ncp fcp ncl fcl y2 y3) ∧ (((hasB ncp fcp (Int.ofNat y2)) = (false)) → ((((decide ((0 : Int) ≤ Int.ofNat y3) && decide (Int.ofNat y3 < (↑(FD.ln (fps (Int.toNat (Int.ofNat y2)) ((0 : Nat) + Field.offset { name := "Fits", type := (22 : Nat), offset := (1 : Nat), embedded := false, tag := "", pkgPath := "", byteOffset := (16 : Nat) }))) : Int))) = (true)) → ((((hasB ncp fcp (Int.ofNat y2)) = (true)) → (qrefCover0 nps fps pc ncp fcp ncl fcl y2 y3)) ∧ (((hasB ncp fcp (Int.ofNat y2)) = (false)) → (qrefCover0 nps fps pc ncp fcp ncl fcl y2 y3)))) ∧ (((decide ((0 : Int) ≤ Int.ofNat y3) && decide (Int.ofNat y3 < (↑(FD.ln (fps (Int.toNat (Int.ofNat y2)) ((0 : Nat) + Field.offset { name := "Fits", type := (22 : Nat), offset := (1 : Nat), embedded := false, tag := "", pkgPath := "", byteOffset := (16 : Nat) }))) : Int))) = (false)) → False))))))))))) ∧ (((decide ((0 : Int) ≤ Int.ofNat y2) && decide (Int.ofNat y2 < (↑nps : Int))) = (false)) → False)))))))))))
theorem refCover_ok : FnOk (mkR smLe gsLa) Try.prog η0 27 (FI.of Try.f27 true) refCoverS (.tup [.one (.int .i64), .one (.int .i64)]) refCoverC refCoverR := by
  refine fnOk_of0 smLe_ok gsLa_ok Try.fok27 (fun fds => match fds with | [.list _ nps fps, .int _ pc, .list _ ncp fcp, .list _ ncl fcl] => refCoverI nps fps pc ncp fcp ncl fcl | _ => alts fun _ => []) ?_
  intro fds hf hc
  obtain ⟨nps, fps, ds0, rfl, gps, hf1⟩ := hf.list
  obtain ⟨pc, ds1, rfl, hf2⟩ := hf1.int
  obtain ⟨ncp, fcp, ds2, rfl, gcp, hf3⟩ := hf2.list
  obtain ⟨ncl, fcl, ds3, rfl, gcl, hf4⟩ := hf3.list
  obtain rfl := hf4.nil
  have hc : (Nat.ble nps 26 && (Nat.ble ncp 30 && Nat.ble ncl 30)) = true := hc
  have hvc : (vcF smLe gsLa (FI.of Try.f27 true) refCoverS (.tup [.one (.int .i64), .one (.int .i64)]) (refCoverI nps fps pc ncp fcp ncl fcl) noR [.list [.str, .list [.int .i64]] nps fps, .int .i64 pc, .list [.int .i64] ncp fcp, .list [.int .i64] ncl fcl] (refCoverR [.list [.str, .list [.int .i64]] nps fps, .int .i64 pc, .list [.int .i64] ncp fcp, .list [.int .i64] ncl fcl])) =
    ((true = true) ∧ (((true = true) → ((((decide (firE (ascE fcp (Int.ofNat nps)) ncp = (0 : Int))) = (false)) → ((((IntKind.i64) = (IntKind.i64)) ∧ ((coV pc nps fps ncp fcp ncl fcl) = ((0 : Int)))) ∧ ((((IntKind.i64) = (IntKind.i64)) ∧ ((coE pc nps fps ncp fcp ncl fcl) = (firE (ascE fcp (Int.ofNat nps)) ncp))) ∧ True))) ∧ (((decide (firE (ascE fcp (Int.ofNat nps)) ncp = (0 : Int))) = (true)) → (((true = true) → ((((decide (firE (ascE fcl pc) ncl = (0 : Int))) = (false)) → ((((IntKind.i64) = (IntKind.i64)) ∧ ((coV pc nps fps ncp fcp ncl fcl) = ((0 : Int)))) ∧ ((((IntKind.i64) = (IntKind.i64)) ∧ ((coE pc nps fps ncp fcp ncl fcl) = (firE (ascE fcl pc) ncl))) ∧ True))) ∧ (((decide (firE (ascE fcl pc) ncl = (0 : Int))) = (true)) → (∃ y0 : Nat, ((∃ y1 : Nat, (((y1 ≤ nps ∧ ((firE (cvErr fps ncp fcp ncl fcl) y1) = ((0 : Int)))) ∧ True) ∧ (((true = true) ∧ ((qrefCover7 nps fps pc) ∧ ((qrefCover4 ncp fcp ncl fcl) ∧ ((((1, 1) ∈ ([(2, 2), (1, 1)] : List (Nat × Nat))) ∧ ((0) = (0))) ∧ ((((2, 2) ∈ ([(2, 2), (1, 1)] : List (Nat × Nat))) ∧ ((0) = (0))) ∧ ((((IntKind.i64) = (IntKind.i64)) ∧ (((0 : Int)) = ((0 : Int)))) ∧ ((((IntKind.i64) = (IntKind.i64)) ∧ (((0 : Int)) = ((0 : Int)))) ∧ ((((IntKind.i64) = (IntKind.i64)) ∧ ((Int.ofNat y1) = ((0 : Int)))) ∧ True)))))))) ∧ (((((35 : TypeId)) = ((35 : Nat))) ∧ (((2) = (2)) ∧ (qrefCover7 nps fps pc))) ∧ (((((38 : TypeId)) = ((38 : Nat))) ∧ (((2) = (2)) ∧ (qrefCover4 ncp fcp ncl fcl))) ∧ True))))) ∧ (∀ y1 : Nat, ((y1 ≤ nps ∧ ((firE (cvErr fps ncp fcp ncl fcl) y1) = ((0 : Int)))) → ((((decide (Int.ofNat y1 < Int.ofNat nps)) = (true)) → (∃ y2 : Nat, ((∃ y3 : Nat, ((((y2 < nps ∧ ((firE (cvErr fps ncp fcp ncl fcl) y2) = ((0 : Int)))) ∧ (y3 ≤ FD.ln (fps y2 (1 : Nat)) ∧ ((natAll (cvAt fps ncp fcp ncl fcl y2) y3) = (true)))) ∧ True) ∧ (((true = true) ∧ ((qrefCover7 nps fps pc) ∧ ((qrefCover4 ncp fcp ncl fcl) ∧ ((((1, 1) ∈ ([(2, 2), (1, 1)] : List (Nat × Nat))) ∧ ((0) = (0))) ∧ ((((2, 2) ∈ ([(2, 2), (1, 1)] : List (Nat × Nat))) ∧ ((0) = (0))) ∧ ((((IntKind.i64) = (IntKind.i64)) ∧ (((0 : Int)) = ((0 : Int)))) ∧ ((((IntKind.i64) = (IntKind.i64)) ∧ (((0 : Int)) = ((0 : Int)))) ∧ ((((IntKind.i64) = (IntKind.i64)) ∧ ((Int.ofNat y2) = (Int.ofNat y1))) ∧ ((((IntKind.i64) = (IntKind.i64)) ∧ ((Int.ofNat y3) = ((0 : Int)))) ∧ True))))))))) ∧ (((((35 : TypeId)) = ((35 : TypeId))) ∧ (((2) = (2)) ∧ (qrefCover7 nps fps pc))) ∧ (((((38 : TypeId)) = ((38 : TypeId))) ∧ (((2) = (2)) ∧ (qrefCover4 ncp fcp ncl fcl))) ∧ True))))) ∧ (∀ y3 : Nat, (((y2 < nps ∧ ((firE (cvErr fps ncp fcp ncl fcl) y2) = ((0 : Int)))) ∧ (y3 ≤ FD.ln (fps y2 (1 : Nat)) ∧ ((natAll (cvAt fps ncp fcp ncl fcl y2) y3) = (true)))) → ((((decide ((0 : Int) ≤ Int.ofNat y2) && decide (Int.ofNat y2 < (↑nps : Int))) = (true)) → ((((decide (Int.ofNat y3 < Int.ofNat (FD.ln (fps (Int.toNat (Int.ofNat y2)) ((0 : Nat) + Field.offset { name := "Fits", type := (22 : Nat), offset := (1 : Nat), embedded := false, tag := "", pkgPath := "", byteOffset := (16 : Nat) }))))) = (true)) → (((true = true) → ((((hasB ncp fcp (Int.ofNat y2)) = (true)) → ((qrefCover3 nps fps pc ncp fcp ncl fcl y2 y3) ∧ (((hasB ncp fcp (Int.ofNat y2)) = (false)) → False))) ∧ (((hasB ncp fcp (Int.ofNat y2)) = (false)) → ((qrefCover3 nps fps pc ncp fcp ncl fcl y2 y3) ∧ (((hasB ncp fcp (Int.ofNat y2)) = (false)) → ((((hasB ncp fcp (Int.ofNat y2)) = (true)) → ((qrefCover5 nps fps pc ncp fcp ncl fcl y2 y3) ∧ (((hasB ncp fcp (Int.ofNat y2)) = (false)) → False))) ∧ (((hasB ncp fcp (Int.ofNat y2)) = (false)) → ((qrefCover5 nps fps pc ncp fcp ncl fcl y2 y3) ∧ (((hasB ncp fcp (Int.ofNat y2)) = (false)) → ((((hasB ncp fcp (Int.ofNat y2)) = (true)) → ((qrefCover8 nps fps pc ncp fcp ncl fcl y2 y3) ∧ (((hasB ncp fcp (Int.ofNat y2)) = (false)) → False))) ∧ (((hasB ncp fcp (Int.ofNat y2)) = (false)) → ((qrefCover8 nps fps pc ncp fcp ncl fcl y2 y3) ∧ (((hasB ncp fcp (Int.ofNat y2)) = (false)) → ((((decide ((0 : Int) ≤ Int.ofNat y2) && decide (Int.ofNat y2 < (↑nps : Int))) = (true)) → ((qrefCover1 nps fps pc ncp fcp ncl fcl y2 y3) ∧ (((hasB ncp fcp (Int.ofNat y2)) = (false)) → ((qrefCover9 nps fps pc ncp fcp ncl fcl y2 y3) ∧ (((hasB ncp fcp (Int.ofNat y2)) = (false)) → ((((hasB ncp fcp (Int.ofNat y2)) = (true)) → (qrefCover6 nps fps pc ncp fcp ncl fcl y2 y3)) ∧ (((hasB ncp fcp (Int.ofNat y2)) = (false)) → ((qrefCover10 nps fps pc ncp fcp ncl fcl y2 y3) ∧ (((hasB ncp fcp (Int.ofNat y2)) = (false)) → ((((decide ((0 : Int) ≤ Int.ofNat y3) && decide (Int.ofNat y3 < (↑(FD.ln (fps (Int.toNat (Int.ofNat y2)) ((0 : Nat) + Field.offset { name := "Fits", type := (22 : Nat), offset := (1 : Nat), embedded := false, tag := "", pkgPath := "", byteOffset := (16 : Nat) }))) : Int))) = (true)) → ((((hasB ncp fcp (Int.ofNat y2)) = (true)) → (qrefCover0 nps fps pc ncp fcp ncl fcl y2 y3)) ∧ (((hasB ncp fcp (Int.ofNat y2)) = (false)) → ((((hasB ncp fcp (Int.ofNat y2)) = (true)) → ((qrefCover11 nps fps pc ncp fcp ncl fcl y2 y3) ∧ (((hasB ncp fcp (Int.ofNat y2)) = (false)) → False))) ∧ (((hasB ncp fcp (Int.ofNat y2)) = (false)) → (((true = true) → ((qrefCover11 nps fps pc ncp fcp ncl fcl y2 y3) ∧ (((hasB ncp fcp (Int.ofNat y2)) = (false)) → ((((hasB ncp fcp (Int.ofNat y2)) = (true)) → (qrefCover2 nps fps pc ncp fcp ncl fcl y2 y3)) ∧ (((hasB ncp fcp (Int.ofNat y2)) = (false)) → ((((hasB ncl fcl (FD.i (FD.fn (fps (Int.toNat (Int.ofNat y2)) ((0 : Nat) + Field.offset { name := "Fits", type := (22 : Nat), offset := (1 : Nat), embedded := false, tag := "", pkgPath := "", byteOffset := (16 : Nat) })) (Int.toNat (Int.ofNat y3)) (0 : Nat)))) = (false)) → ((((IntKind.i64) = (IntKind.i64)) ∧ ((coV pc nps fps ncp fcp ncl fcl) = ((0 : Int)))) ∧ ((((IntKind.i64) = (IntKind.i64)) ∧ ((coE pc nps fps ncp fcp ncl fcl) = ((20 : Int)))) ∧ True))) ∧ (((hasB ncl fcl (FD.i (FD.fn (fps (Int.toNat (Int.ofNat y2)) ((0 : Nat) + Field.offset { name := "Fits", type := (22 : Nat), offset := (1 : Nat), embedded := false, tag := "", pkgPath := "", byteOffset := (16 : Nat) })) (Int.toNat (Int.ofNat y3)) (0 : Nat)))) = (true)) → (qrefCover2 nps fps pc ncp fcp ncl fcl y2 y3)))))))) ∧ ((true = false) → False))))))) ∧ (((decide ((0 : Int) ≤ Int.ofNat y3) && decide (Int.ofNat y3 < (↑(FD.ln (fps (Int.toNat (Int.ofNat y2)) ((0 : Nat) + Field.offset { name := "Fits", type := (22 : Nat), offset := (1 : Nat), embedded := false, tag := "", pkgPath := "", byteOffset := (16 : Nat) }))) : Int))) = (false)) → False))))))))))) ∧ (((decide ((0 : Int) ≤ Int.ofNat y2) && decide (Int.ofNat y2 < (↑nps : Int))) = (false)) → False))))))))))))))) ∧ ((true = false) → False))) ∧ (((decide (Int.ofNat y3 < Int.ofNat (FD.ln (fps (Int.toNat (Int.ofNat y2)) ((0 : Nat) + Field.offset { name := "Fits", type := (22 : Nat), offset := (1 : Nat), embedded := false, tag := "", pkgPath := "", byteOffset := (16 : Nat) }))))) = (false)) → (∃ y4 : Nat, (((y4 ≤ nps ∧ ((firE (cvErr fps ncp fcp ncl fcl) y4) = ((0 : Int)))) ∧ nps - y4 < nps - y1) ∧ (((true = true) ∧ ((qrefCover7 nps fps pc) ∧ ((qrefCover4 ncp fcp ncl fcl) ∧ ((((1, 1) ∈ ([(2, 2), (1, 1)] : List (Nat × Nat))) ∧ ((0) = (0))) ∧ ((((2, 2) ∈ ([(2, 2), (1, 1)] : List (Nat × Nat))) ∧ ((0) = (0))) ∧ ((((IntKind.i64) = (IntKind.i64)) ∧ (((0 : Int)) = ((0 : Int)))) ∧ ((((IntKind.i64) = (IntKind.i64)) ∧ (((0 : Int)) = ((0 : Int)))) ∧ ((((IntKind.i64) = (IntKind.i64)) ∧ ((Int.ofNat y4) = (IntKind.wrap IntKind.i64 (Int.ofNat y2 + (1 : Int))))) ∧ True)))))))) ∧ (((((35 : TypeId)) = ((35 : TypeId))) ∧ (((2) = (2)) ∧ (qrefCover7 nps fps pc))) ∧ (((((38 : TypeId)) = ((38 : TypeId))) ∧ (((2) = (2)) ∧ (qrefCover4 ncp fcp ncl fcl))) ∧ True)))))))) ∧ (((decide ((0 : Int) ≤ Int.ofNat y2) && decide (Int.ofNat y2 < (↑nps : Int))) = (false)) → False))))))) ∧ (((decide (Int.ofNat y1 < Int.ofNat nps)) = (false)) → ((((IntKind.i64) = (IntKind.i64)) ∧ ((coV pc nps fps ncp fcp ncl fcl) = (IntKind.wrap IntKind.i64 (Int.ofNat ncp + Int.ofNat ncl)))) ∧ ((((IntKind.i64) = (IntKind.i64)) ∧ ((coE pc nps fps ncp fcp ncl fcl) = ((0 : Int)))) ∧ True))))))))))) ∧ ((true = false) → False))))) ∧ ((true = false) → False))) := by kernel_rfl
  refine hvc.mpr ?_
  clear hvc
  dsimp only [qrefCover4, qrefCover7, qrefCover2, qrefCover11, qrefCover0, qrefCover10, qrefCover6, qrefCover9, qrefCover1, qrefCover8, qrefCover5, qrefCover3]
  simp only [Bool.and_eq_true] at hc
  have hn := Nat.le_of_ble_eq_true hc.1
  have hp := Nat.le_of_ble_eq_true hc.2.1
  have hq := Nat.le_of_ble_eq_true hc.2.2
  by_cases h1 : firE (ascE fcp (nps : Int)) ncp = 0
  · by_cases h2 : firE (ascE fcl pc) ncl = 0
    · have eE : coE pc nps fps ncp fcp ncl fcl = firE (cvErr fps ncp fcp ncl fcl) nps := by rw [coE, first3, h1, h2]; rfl
      simp [h1, h2]
      refine ⟨rfl, fun y hy he => ⟨fun hlt => ⟨y, ⟨⟨⟨hlt, he⟩, rfl⟩, rfl⟩, fun k _ _ hk hka => ?_⟩, fun hge => ?_⟩⟩
      have w1 : ∀ k : Nat, k < 1000000000000000000 → ((k + 1 : Nat) : Int) = IntKind.i64.wrap ((k : Int) + 1) := fun k hk => by
        rw [wrap_id (by omega) (by omega)]
        rfl
      have hml : (fps y 1).ln ≤ 9223372036854775807 := by
        obtain ⟨g1, g2⟩ := gps.at hlt (show 1 < [Sh.str, Sh.list [Sh.int IntKind.i64]].length by simp)
        rw [← g1] at g2
        exact g2.len
      have w2 : ∀ k : Nat, k < (fps y 1).ln → ((k + 1 : Nat) : Int) = IntKind.i64.wrap ((k : Int) + 1) := fun k hk => by
        rw [wrap_id (by omega) (by omega)]
        rfl
      have nxt : (fps y 1).ln ≤ k → ∃ y4, ((y4 ≤ nps ∧ firE (cvErr fps ncp fcp ncl fcl) y4 = 0) ∧ nps - y4 < nps - y) ∧ (y4 : Int) = IntKind.i64.wrap ((y : Int) + 1) := fun h =>
        ⟨y + 1, ⟨⟨by omega, firE_up he (by rw [cvErr, show (fps y 1).ln = k by omega, if_pos hka])⟩, by omega⟩, w1 y (by omega)⟩
      · cases hh : hasB ncp fcp (y : Int)
        · simp [hh]
          refine ⟨fun _ => ⟨fun hkl => ⟨fun _ => ⟨fun _ => ⟨fun hb => ?_, fun hb => ⟨k + 1, ⟨⟨⟨hlt, he⟩, by omega, allN_up hka (by rw [cvAt, hb, Bool.or_true])⟩, by omega⟩, w2 k hkl⟩⟩, hkl⟩, hlt⟩, nxt⟩, hlt⟩
          have e : cvErr fps ncp fcp ncl fcl y = 20 := by rw [cvErr, allN_no hkl (by rw [cvAt, hh, hb]; rfl)]; rfl
          have e2 := (firE_hit he (by omega) hlt).1
          rw [e, ← eE] at e2
          exact ⟨by rw [coV, e2]; rfl, e2⟩
        · simp [hh]
          exact ⟨fun _ => ⟨fun hkl => ⟨k + 1, ⟨⟨⟨hlt, he⟩, by omega, allN_up hka (by rw [cvAt, hh]; rfl)⟩, by omega⟩, w2 k hkl⟩, nxt⟩, hlt⟩
      · obtain rfl : y = nps := by omega
        rw [coV, eE, he, wrap_id (by omega) (by omega)]
        exact ⟨rfl, rfl⟩
    · have eE : coE pc nps fps ncp fcp ncl fcl = firE (ascE fcl pc) ncl := by rw [coE, first3, h1, if_pos rfl, if_neg h2]
      simp [coV, eE, h1, h2]
  · have eE : coE pc nps fps ncp fcp ncl fcl = firE (ascE fcp nps) ncp := by rw [coE, first3, if_neg h1]
    simp [coV, eE, h1]
def idxCovS : List PT := [.one (.list [.int .i64])]
def idxCovB : Clo := (131, [(38, [.list [.int .i64], .list [.int .i64]])])
def idxCovC : List FD → List FD → Bool
  | [.list _ _ _], [.list _ _ _, .list _ _ _] => true
  | _, _ => false
def idxCovR : List FD → List FD → List FD
  | [.list _ na fa], [.list _ _ _, .list _ ncl fcl] => [.int .i64 (idxF (fun i => !hasB ncl fcl (fa i 0).i) na 0)]
  | _, _ => []
def idxCovI (na : Nat) (fa : Nat → Nat → FD) (ncp : Nat) (fcp : Nat → Nat → FD) (ncl : Nat) (fcl : Nat → Nat → FD) : Nat → AFam := fun i => match i with | 2 => ⟨Nat, fun _ => [{ι := Nat, G := fun x => x ≤ na ∧ idxF (fun i => !hasB ncl fcl (fa i 0).i) (na - x) x = idxF (fun i => !hasB ncl fcl (fa i 0).i) na 0, μ := fun x => na - x, tl := fun x => [(0, .one (.fz (.root 0 0) (FD.list [Sh.int IntKind.i64] na fa))), (1, .one (.fn 131 [(1, 0)])), (6, .one (.fz (.root 0 0) (FD.list [Sh.int IntKind.i64] na fa))), (7, .one (.int IntKind.i64 (.tm (Int.ofNat na)))), (8, .one (.int IntKind.i64 (.tm (Int.ofNat x))))], bl := fun x => [(1, .cells 38 2 [.fz (.root 1 0) (FD.list [Sh.int IntKind.i64] ncp fcp), .fz (.root 1 1) (FD.list [Sh.int IntKind.i64] ncl fcl)])], nx := List.length (Prod.snd idxCovB) + (1 : Nat)}]⟩ | _ => ⟨Nat, fun _ => []⟩
theorem idxCov_ok : HsOk 139 (gFdH idxCovS idxCovB (.one (.int .i64)) idxCovC idxCovR) := by
  refine hsOk_of smLe_ok gsLa_ok Try.fok139 (fun fds bds => match fds, bds with | [.list _ na fa], [.list _ ncp fcp, .list _ ncl fcl] => idxCovI na fa ncp fcp ncl fcl | _, _ => alts fun _ => []) rfl rfl ?_
  intro fds bds hf hb hc
  obtain ⟨na, fa, ds0, rfl, ga, hf1⟩ := hf.list
  obtain rfl := hf1.nil
  obtain ⟨ncp, fcp, es0, rfl, gcp, hb1⟩ := hb.list
  obtain ⟨ncl, fcl, es1, rfl, gcl, hb2⟩ := hb1.list
  obtain rfl := hb2.nil
  have hc : (true) = true := hc
  have hvc : (vcH smLe gsLa (FI.of Try.f139 true) idxCovS idxCovB (.one (.int .i64)) (idxCovI na fa ncp fcp ncl fcl) [.list [.int .i64] na fa] [.list [.int .i64] ncp fcp, .list [.int .i64] ncl fcl] (idxCovR [.list [.int .i64] na fa] [.list [.int .i64] ncp fcp, .list [.int .i64] ncl fcl])) =
    ((true = true) ∧ (∃ y0 : Nat, ((∃ y1 : Nat, (((y1 ≤ na ∧ ((idxF (fun (i : Nat) => !hasB ncl fcl (FD.i (fa i (0 : Nat)))) (na - y1) y1) = (idxF (fun (i : Nat) => !hasB ncl fcl (FD.i (fa i (0 : Nat)))) na (0 : Nat)))) ∧ True) ∧ (((true = true) ∧ ((((Ref.root (0) (0)) = (Ref.root (0) (0))) ∧ (((FD.list [Sh.int IntKind.i64] na fa) = (FD.list [Sh.int IntKind.i64] na fa)) ∧ (true = true))) ∧ (((((131 : FuncId)) = (Prod.fst idxCovB)) ∧ (((1, 1) ∈ ([(1, 1)] : List (Nat × Nat))) ∧ (((0) = (0)) ∧ True))) ∧ ((((Ref.root (0) (0)) = (Ref.root (0) (0))) ∧ (((FD.list [Sh.int IntKind.i64] na fa) = (FD.list [Sh.int IntKind.i64] na fa)) ∧ (true = true))) ∧ ((((IntKind.i64) = (IntKind.i64)) ∧ ((Int.ofNat na) = (Int.ofNat na))) ∧ ((((IntKind.i64) = (IntKind.i64)) ∧ ((Int.ofNat y1) = ((0 : Int)))) ∧ True)))))) ∧ (((((38 : TypeId)) = (Prod.fst ((38 : TypeId), [Sh.list [Sh.int IntKind.i64], Sh.list [Sh.int IntKind.i64]]))) ∧ (((2) = (2)) ∧ ((((Ref.root (1) (0)) = (Ref.root (1) (0))) ∧ (((FD.list [Sh.int IntKind.i64] ncp fcp) = (FD.list [Sh.int IntKind.i64] ncp fcp)) ∧ (true = true))) ∧ ((((Ref.root (1) (1)) = (Ref.root (1) (1))) ∧ (((FD.list [Sh.int IntKind.i64] ncl fcl) = (FD.list [Sh.int IntKind.i64] ncl fcl)) ∧ (true = true))) ∧ True)))) ∧ True)))) ∧ (∀ y1 : Nat, ((y1 ≤ na ∧ ((idxF (fun (i : Nat) => !hasB ncl fcl (FD.i (fa i (0 : Nat)))) (na - y1) y1) = (idxF (fun (i : Nat) => !hasB ncl fcl (FD.i (fa i (0 : Nat)))) na (0 : Nat)))) → ((((decide (Int.ofNat y1 < Int.ofNat na)) = (true)) → ((((decide ((0 : Int) ≤ Int.ofNat y1) && decide (Int.ofNat y1 < (↑na : Int))) = (true)) → (((true = true) → ((((hasB ncl fcl (FD.i (fa (Int.toNat (Int.ofNat y1)) (0 : Nat)))) = (false)) → (((IntKind.i64) = (IntKind.i64)) ∧ ((idxF (fun (i : Nat) => !hasB ncl fcl (FD.i (fa i (0 : Nat)))) na (0 : Nat)) = (Int.ofNat y1)))) ∧ (((hasB ncl fcl (FD.i (fa (Int.toNat (Int.ofNat y1)) (0 : Nat)))) = (true)) → (∃ y2 : Nat, (((y2 ≤ na ∧ ((idxF (fun (i : Nat) => !hasB ncl fcl (FD.i (fa i (0 : Nat)))) (na - y2) y2) = (idxF (fun (i : Nat) => !hasB ncl fcl (FD.i (fa i (0 : Nat)))) na (0 : Nat)))) ∧ na - y2 < na - y1) ∧ (((true = true) ∧ ((((Ref.root (0) (0)) = (Ref.root (0) (0))) ∧ (((FD.list [Sh.int IntKind.i64] na fa) = (FD.list [Sh.int IntKind.i64] na fa)) ∧ (true = true))) ∧ (((((131 : FuncId)) = ((131 : FuncId))) ∧ (((1, 1) ∈ ([(1, 1)] : List (Nat × Nat))) ∧ (((0) = (0)) ∧ True))) ∧ ((((Ref.root (0) (0)) = (Ref.root (0) (0))) ∧ (((FD.list [Sh.int IntKind.i64] na fa) = (FD.list [Sh.int IntKind.i64] na fa)) ∧ (true = true))) ∧ ((((IntKind.i64) = (IntKind.i64)) ∧ ((Int.ofNat na) = (Int.ofNat na))) ∧ ((((IntKind.i64) = (IntKind.i64)) ∧ ((Int.ofNat y2) = (IntKind.wrap IntKind.i64 (Int.ofNat y1 + (1 : Int))))) ∧ True)))))) ∧ (((((38 : TypeId)) = ((38 : TypeId))) ∧ (((2) = (2)) ∧ ((((Ref.root (1) (0)) = (Ref.root (1) (0))) ∧ (((FD.list [Sh.int IntKind.i64] ncp fcp) = (FD.list [Sh.int IntKind.i64] ncp fcp)) ∧ (true = true))) ∧ ((((Ref.root (1) (1)) = (Ref.root (1) (1))) ∧ (((FD.list [Sh.int IntKind.i64] ncl fcl) = (FD.list [Sh.int IntKind.i64] ncl fcl)) ∧ (true = true))) ∧ True)))) ∧ True))))))) ∧ ((true = false) → False))) ∧ (((decide ((0 : Int) ≤ Int.ofNat y1) && decide (Int.ofNat y1 < (↑na : Int))) = (false)) → False))) ∧ (((decide (Int.ofNat y1 < Int.ofNat na)) = (false)) → (((IntKind.i64) = (IntKind.i64)) ∧ ((idxF (fun (i : Nat) => !hasB ncl fcl (FD.i (fa i (0 : Nat)))) na (0 : Nat)) = ((-1 : Int))))))))))) := by kernel_rfl
  refine hvc.mpr ?_
  clear hvc
  have hl := ga.len
  have hl' : maxLen = 9223372036854775807 := rfl
  have e1 : idxCovB.1 = 131 := rfl
  simp [e1]
  refine fun x hx he => ⟨fun h => ⟨fun _ => ⟨fun ho => ?_, fun h0 => ⟨x + 1, ⟨⟨by omega, ?_⟩, by omega⟩, ?_⟩⟩, h⟩, fun h => ?_⟩
  · rw [← he, show na - x = na - (x + 1) + 1 by omega, idxF, show (!hasB ncl fcl (fa x 0).i) = true by rw [ho]; rfl]
    rfl
  · rw [← he, show na - x = na - (x + 1) + 1 by omega, idxF, show (!hasB ncl fcl (fa x 0).i) = false by rw [h0]; rfl]
    rfl
  · rw [wrap_id (by omega) (by omega)]
    rfl
  · rw [← he, show na - x = 0 by omega]
    rfl
def gsLb : G2 := (G2.setH gsLa 139 (gFdH idxCovS idxCovB (.one (.int .i64)) idxCovC idxCovR))
theorem gsLb_ok : G2Ok gsLb := (G2Ok.setH gsLa_ok (by kernel_rfl) idxCov_ok)
def conCovS : List PT := [.one (.list [.int .i64])]
def conCovB : Clo := (131, [(38, [.list [.int .i64], .list [.int .i64]])])
def conCovC : List FD → List FD → Bool
  | [.list _ _ _], [.list _ _ _, .list _ _ _] => true
  | _, _ => false
def conCovR : List FD → List FD → List FD
  | [.list _ na fa], [.list _ _ _, .list _ ncl fcl] => [.bool (anyN (fun i => !hasB ncl fcl (fa i 0).i) na 0)]
  | _, _ => []
def conCovI (_na : Nat) (_fa : Nat → Nat → FD) (_ncp : Nat) (_fcp : Nat → Nat → FD) (_ncl : Nat) (_fcl : Nat → Nat → FD) : Nat → AFam := alts (fun _ => [])
theorem conCov_ok : HsOk 86 (gFdH conCovS conCovB (.one .bool) conCovC conCovR) := by
  refine hsOk_of smLe_ok gsLb_ok Try.fok86 (fun fds bds => match fds, bds with | [.list _ na fa], [.list _ ncp fcp, .list _ ncl fcl] => conCovI na fa ncp fcp ncl fcl | _, _ => alts fun _ => []) rfl rfl ?_
  intro fds bds hf hb hc
  obtain ⟨na, fa, ds0, rfl, ga, hf1⟩ := hf.list
  obtain rfl := hf1.nil
  obtain ⟨ncp, fcp, es0, rfl, gcp, hb1⟩ := hb.list
  obtain ⟨ncl, fcl, es1, rfl, gcl, hb2⟩ := hb1.list
  obtain rfl := hb2.nil
  have hc : (true) = true := hc
  have hvc : (vcH smLe gsLb (FI.of Try.f86 true) conCovS conCovB (.one .bool) (conCovI na fa ncp fcp ncl fcl) [.list [.int .i64] na fa] [.list [.int .i64] ncp fcp, .list [.int .i64] ncl fcl] (conCovR [.list [.int .i64] na fa] [.list [.int .i64] ncp fcp, .list [.int .i64] ncl fcl])) =
    ((true = true) ∧ (((true = true) → ((anyN (fun (i : Nat) => !hasB ncl fcl (FD.i (fa i (0 : Nat)))) na (0 : Nat)) = (!decide (idxF (fun (i : Nat) => !hasB ncl fcl (FD.i (fa i (0 : Nat)))) na (0 : Nat) < (0 : Int))))) ∧ ((true = false) → False))) := by kernel_rfl
  refine hvc.mpr ?_
  clear hvc
  have := idxF_any (fun i => !hasB ncl fcl (fa i 0).i) na 0
  simp
  rw [this, Bool.not_not]
def gsLc : G2 := (G2.setH gsLb 86 (gFdH conCovS conCovB (.one .bool) conCovC conCovR))
theorem gsLc_ok : G2Ok gsLc := (G2Ok.setH gsLb_ok (by kernel_rfl) conCov_ok)
theorem cv_any (b : Bool) (q : Nat → Bool) : ∀ n, natAll (fun k => b || q k) n = (b || !anyN (fun k => !q k) n 0)
  | n => by
    cases b with
    | true =>
      rw [Bool.true_or]
      exact natAll_of fun i _ => rfl
    | false =>
      simp only [Bool.false_or]
      rcases Bool.eq_false_or_eq_true (anyN (fun k => !q k) n 0) with h | h
      · obtain ⟨i, _, h2, h3⟩ := anyN_true h
        rw [h, allN_no (i := i) (by omega) (by simpa using h3)]
        rfl
      · rw [h, natAll_of fun i hi => by simpa using anyN_false h i (by omega) (by omega)]
        rfl
def checkCoverS : List PT := [.agg [.list [.str, .list [.int .i64]], .int .i64], .agg [.list [.int .i64], .list [.int .i64]]]
def checkCoverC : List FD → Bool
  | [.list _ nps fps, .int _ _, .list _ ncp _, .list _ ncl _] => crowdB nps fps && (Nat.ble ncp 30 && Nat.ble ncl 30)
  | _ => false
def checkCoverR : List FD → List FD
  | [.list _ nps fps, .int _ pc, .list _ ncp fcp, .list _ ncl fcl] => [.int .i64 (if loadE pc nps fps = 0 then coV pc nps fps ncp fcp ncl fcl else 0), .int .i64 (if loadE pc nps fps = 0 then coE pc nps fps ncp fcp ncl fcl else loadE pc nps fps)]
  | _ => []
def checkCoverI (nps : Nat) (fps : Nat → Nat → FD) (pc : Int) (ncp : Nat) (fcp : Nat → Nat → FD) (ncl : Nat) (fcl : Nat → Nat → FD) : Nat → AFam := fun i => match i with | 5 => ⟨Nat, fun _ => [{ι := Nat, G := fun x => x ≤ nps ∧ firE (cvErr fps ncp fcp ncl fcl) x = 0, μ := fun x => nps - x, tl := fun x => [(0, .agg [.fz (.root 0 0) (FD.list [Sh.str, Sh.list [Sh.int IntKind.i64]] nps fps), .int IntKind.i64 (.tm pc)]), (1, .agg [.fz (.root 0 2) (FD.list [Sh.int IntKind.i64] ncp fcp), .fz (.root 0 3) (FD.list [Sh.int IntKind.i64] ncl fcl)]), (2, .one (.ptr (some (1, 0)))), (3, .one (.ptr (some (2, 0)))), (4, .one (.int IntKind.i64 (.lit (0 : Int)))), (5, .one (.int IntKind.i64 (.lit (0 : Int)))), (28, .one (.fz (.root 0 0) (FD.list [Sh.str, Sh.list [Sh.int IntKind.i64]] nps fps))), (29, .one (.int IntKind.i64 (.tm (Int.ofNat nps)))), (30, .one (.int IntKind.i64 (.tm (Int.ofNat x))))], bl := fun x => [(1, .cells 35 2 [.fz (.root 0 0) (FD.list [Sh.str, Sh.list [Sh.int IntKind.i64]] nps fps), .int IntKind.i64 (.tm pc)]), (2, .cells 38 2 [.fz (.root 0 2) (FD.list [Sh.int IntKind.i64] ncp fcp), .fz (.root 0 3) (FD.list [Sh.int IntKind.i64] ncl fcl)])], nx := (1 : Nat) + (1 : Nat) + (1 : Nat) + ((0 : Nat) + (1 : Nat) + (1 : Nat) + (1 : Nat) + (1 : Nat) + (1 : Nat) + (1 : Nat) + (1 : Nat) + (1 : Nat) + (1 : Nat) + (1 : Nat) + (1 : Nat) + (1 : Nat) + (1 : Nat) + (1 : Nat) + (1 : Nat))}]⟩ | _ => ⟨Nat, fun _ => []⟩
abbrev qcheckCover2 (ncp : Nat) (fcp : Nat → Nat → FD) (ncl : Nat) (fcl : Nat → Nat → FD) : Prop := ((((Ref.root (0) (2)) = (Ref.root (0) (2))) ∧ (((FD.list [Sh.int IntKind.i64] ncp fcp) = (FD.list [Sh.int IntKind.i64] ncp fcp)) ∧ (true = true))) ∧ ((((Ref.root (0) (3)) = (Ref.root (0) (3))) ∧ (((FD.list [Sh.int IntKind.i64] ncl fcl) = (FD.list [Sh.int IntKind.i64] ncl fcl)) ∧ (true = true))) ∧ True))
abbrev qcheckCover3 (nps : Nat) (fps : Nat → Nat → FD) : Prop := (((Ref.root (0) (0)) = (Ref.root (0) (0))) ∧ (((FD.list [Sh.str, Sh.list [Sh.int IntKind.i64]] nps fps) = (FD.list [Sh.str, Sh.list [Sh.int IntKind.i64]] nps fps)) ∧ (true = true)))
abbrev qcheckCover1 (nps : Nat) (fps : Nat → Nat → FD) (pc : Int) (ncp : Nat) (fcp : Nat → Nat → FD) (ncl : Nat) (fcl : Nat → Nat → FD) (y1 : Nat) : Prop := (∃ y2 : Nat, (((y2 ≤ nps ∧ ((firE (cvErr fps ncp fcp ncl fcl) y2) = ((0 : Int)))) ∧ nps - y2 < nps - y1) ∧ (((true = true) ∧ (((qcheckCover3 nps fps) ∧ ((((IntKind.i64) = (IntKind.i64)) ∧ ((pc) = (pc))) ∧ True)) ∧ ((qcheckCover2 ncp fcp ncl fcl) ∧ ((((1, 1) ∈ ([(2, 2), (1, 1)] : List (Nat × Nat))) ∧ ((0) = (0))) ∧ ((((2, 2) ∈ ([(2, 2), (1, 1)] : List (Nat × Nat))) ∧ ((0) = (0))) ∧ ((((IntKind.i64) = (IntKind.i64)) ∧ (((0 : Int)) = ((0 : Int)))) ∧ ((((IntKind.i64) = (IntKind.i64)) ∧ (((0 : Int)) = ((0 : Int)))) ∧ ((qcheckCover3 nps fps) ∧ ((((IntKind.i64) = (IntKind.i64)) ∧ ((Int.ofNat nps) = (Int.ofNat nps))) ∧ ((((IntKind.i64) = (IntKind.i64)) ∧ ((Int.ofNat y2) = (IntKind.wrap IntKind.i64 (Int.ofNat y1 + (1 : Int))))) ∧ True)))))))))) ∧ (((((35 : TypeId)) = ((35 : TypeId))) ∧ (((2) = (2)) ∧ ((qcheckCover3 nps fps) ∧ ((((IntKind.i64) = (IntKind.i64)) ∧ ((pc) = (pc))) ∧ True)))) ∧ (((((38 : TypeId)) = ((38 : TypeId))) ∧ (((2) = (2)) ∧ (qcheckCover2 ncp fcp ncl fcl))) ∧ True)))))
abbrev qcheckCover0 (nps : Nat) (fps : Nat → Nat → FD) (pc : Int) (ncp : Nat) (fcp : Nat → Nat → FD) (ncl : Nat) (fcl : Nat → Nat → FD) : Prop := (∃ y0 : Nat, ((∃ y1 : Nat, (((y1 ≤ nps ∧ ((firE (cvErr fps ncp fcp ncl fcl) y1) = ((0 : Int)))) ∧ True) ∧ (((true = true) ∧ (((qcheckCover3 nps fps) ∧ ((((IntKind.i64) = (IntKind.i64)) ∧ ((pc) = (pc))) ∧ True)) ∧ ((qcheckCover2 ncp fcp ncl fcl) ∧ ((((1, 1) ∈ ([(2, 2), (1, 1)] : List (Nat × Nat))) ∧ ((0) = (0))) ∧ ((((2, 2) ∈ ([(2, 2), (1, 1)] : List (Nat × Nat))) ∧ ((0) = (0))) ∧ ((((IntKind.i64) = (IntKind.i64)) ∧ (((0 : Int)) = ((0 : Int)))) ∧ ((((IntKind.i64) = (IntKind.i64)) ∧ (((0 : Int)) = ((0 : Int)))) ∧ ((qcheckCover3 nps fps) ∧ ((((IntKind.i64) = (IntKind.i64)) ∧ ((Int.ofNat nps) = (Int.ofNat nps))) ∧ ((((IntKind.i64) = (IntKind.i64)) ∧ ((Int.ofNat y1) = ((0 : Int)))) ∧ True)))))))))) ∧ (((((35 : TypeId)) = ((35 : Nat))) ∧ (((2) = (2)) ∧ ((qcheckCover3 nps fps) ∧ ((((IntKind.i64) = (IntKind.i64)) ∧ ((pc) = (pc))) ∧ True)))) ∧ (((((38 : TypeId)) = ((38 : Nat))) ∧ (((2) = (2)) ∧ (qcheckCover2 ncp fcp ncl fcl))) ∧ True))))) ∧ (∀ y1 : Nat, ((y1 ≤ nps ∧ ((firE (cvErr fps ncp fcp ncl fcl) y1) = ((0 : Int)))) → ((((decide (Int.ofNat y1 < Int.ofNat nps)) = (true)) → ((((decide ((0 : Int) ≤ Int.ofNat y1) && decide (Int.ofNat y1 < (↑nps : Int))) = (true)) → (((true = true) → ((((hasB ncp fcp (Int.ofNat y1)) = (true)) → (qcheckCover1 nps fps pc ncp fcp ncl fcl y1)) ∧ (((hasB ncp fcp (Int.ofNat y1)) = (false)) → (((true = true) → ((((anyN (fun (i : Nat) => !hasB ncl fcl (FD.i (FD.fn (fps (Int.toNat (Int.ofNat y1)) ((0 : Nat) + (1 : Nat))) i (0 : Nat)))) (FD.ln (fps (Int.toNat (Int.ofNat y1)) ((0 : Nat) + (1 : Nat)))) (0 : Nat)) = (true)) → ((((IntKind.i64) = (IntKind.i64)) ∧ ((if loadE pc nps fps = (0 : Int) then coV pc nps fps ncp fcp ncl fcl else (0 : Int)) = ((0 : Int)))) ∧ ((((IntKind.i64) = (IntKind.i64)) ∧ ((if loadE pc nps fps = (0 : Int) then coE pc nps fps ncp fcp ncl fcl else loadE pc nps fps) = ((20 : Int)))) ∧ True))) ∧ (((anyN (fun (i : Nat) => !hasB ncl fcl (FD.i (FD.fn (fps (Int.toNat (Int.ofNat y1)) ((0 : Nat) + (1 : Nat))) i (0 : Nat)))) (FD.ln (fps (Int.toNat (Int.ofNat y1)) ((0 : Nat) + (1 : Nat)))) (0 : Nat)) = (false)) → (qcheckCover1 nps fps pc ncp fcp ncl fcl y1)))) ∧ ((true = false) → False))))) ∧ ((true = false) → False))) ∧ (((decide ((0 : Int) ≤ Int.ofNat y1) && decide (Int.ofNat y1 < (↑nps : Int))) = (false)) → False))) ∧ (((decide (Int.ofNat y1 < Int.ofNat nps)) = (false)) → ((((IntKind.i64) = (IntKind.i64)) ∧ ((if loadE pc nps fps = (0 : Int) then coV pc nps fps ncp fcp ncl fcl else (0 : Int)) = (IntKind.wrap IntKind.i64 (Int.ofNat ncp + Int.ofNat ncl)))) ∧ ((((IntKind.i64) = (IntKind.i64)) ∧ ((if loadE pc nps fps = (0 : Int) then coE pc nps fps ncp fcp ncl fcl else loadE pc nps fps) = ((0 : Int)))) ∧ True))))))))
theorem checkCover_ok : FnOk (mkR smLe gsLc) Try.prog η0 70 (FI.of Try.f70 true) checkCoverS (.tup [.one (.int .i64), .one (.int .i64)]) checkCoverC checkCoverR := by
  refine fnOk_of0 smLe_ok gsLc_ok Try.fok70 (fun fds => match fds with | [.list _ nps fps, .int _ pc, .list _ ncp fcp, .list _ ncl fcl] => checkCoverI nps fps pc ncp fcp ncl fcl | _ => alts fun _ => []) ?_
  intro fds hf hc
  obtain ⟨nps, fps, ds0, rfl, gps, hf1⟩ := hf.list
  obtain ⟨pc, ds1, rfl, hf2⟩ := hf1.int
  obtain ⟨ncp, fcp, ds2, rfl, gcp, hf3⟩ := hf2.list
  obtain ⟨ncl, fcl, ds3, rfl, gcl, hf4⟩ := hf3.list
  obtain rfl := hf4.nil
  have hc : (crowdB nps fps && (Nat.ble ncp 30 && Nat.ble ncl 30)) = true := hc
  have hvc : (vcF smLe gsLc (FI.of Try.f70 true) checkCoverS (.tup [.one (.int .i64), .one (.int .i64)]) (checkCoverI nps fps pc ncp fcp ncl fcl) noR [.list [.str, .list [.int .i64]] nps fps, .int .i64 pc, .list [.int .i64] ncp fcp, .list [.int .i64] ncl fcl] (checkCoverR [.list [.str, .list [.int .i64]] nps fps, .int .i64 pc, .list [.int .i64] ncp fcp, .list [.int .i64] ncl fcl])) =
    ((true = true) ∧ ((((loadErrC ([FD.list [Sh.str, Sh.list [Sh.int IntKind.i64]] nps fps, FD.int IntKind.i64 pc] ++ [])) = (true)) → (((true = true) → (((true = true) → ((((decide (loadE pc nps fps = (0 : Int))) = (true)) → ((((decide (firE (ascE fcp (Int.ofNat nps)) ncp = (0 : Int))) = (true)) → ((((decide (firE (ascE fcl pc) ncl = (0 : Int))) = (true)) → (qcheckCover0 nps fps pc ncp fcp ncl fcl)) ∧ (((decide (firE (ascE fcl pc) ncl = (0 : Int))) = (false)) → ((((decide (firE (ascE fcl pc) ncl = (0 : Int))) = (false)) → ((((IntKind.i64) = (IntKind.i64)) ∧ ((if loadE pc nps fps = (0 : Int) then coV pc nps fps ncp fcp ncl fcl else (0 : Int)) = ((0 : Int)))) ∧ ((((IntKind.i64) = (IntKind.i64)) ∧ ((if loadE pc nps fps = (0 : Int) then coE pc nps fps ncp fcp ncl fcl else loadE pc nps fps) = (firE (ascE fcl pc) ncl))) ∧ True))) ∧ (((decide (firE (ascE fcl pc) ncl = (0 : Int))) = (true)) → (qcheckCover0 nps fps pc ncp fcp ncl fcl)))))) ∧ (((decide (firE (ascE fcp (Int.ofNat nps)) ncp = (0 : Int))) = (false)) → ((((decide (firE (ascE fcp (Int.ofNat nps)) ncp = (0 : Int))) = (false)) → ((((IntKind.i64) = (IntKind.i64)) ∧ ((if loadE pc nps fps = (0 : Int) then coV pc nps fps ncp fcp ncl fcl else (0 : Int)) = ((0 : Int)))) ∧ ((((IntKind.i64) = (IntKind.i64)) ∧ ((if loadE pc nps fps = (0 : Int) then coE pc nps fps ncp fcp ncl fcl else loadE pc nps fps) = (firE (ascE fcp (Int.ofNat nps)) ncp))) ∧ True))) ∧ (((decide (firE (ascE fcp (Int.ofNat nps)) ncp = (0 : Int))) = (true)) → (qcheckCover0 nps fps pc ncp fcp ncl fcl)))))) ∧ (((decide (loadE pc nps fps = (0 : Int))) = (false)) → ((((decide (loadE pc nps fps = (0 : Int))) = (false)) → ((((IntKind.i64) = (IntKind.i64)) ∧ ((if loadE pc nps fps = (0 : Int) then coV pc nps fps ncp fcp ncl fcl else (0 : Int)) = ((0 : Int)))) ∧ ((((IntKind.i64) = (IntKind.i64)) ∧ ((if loadE pc nps fps = (0 : Int) then coE pc nps fps ncp fcp ncl fcl else loadE pc nps fps) = (loadE pc nps fps))) ∧ True))) ∧ (((decide (loadE pc nps fps = (0 : Int))) = (true)) → (qcheckCover0 nps fps pc ncp fcp ncl fcl)))))) ∧ ((true = false) → False))) ∧ ((true = false) → False))) ∧ (((loadErrC ([FD.list [Sh.str, Sh.list [Sh.int IntKind.i64]] nps fps, FD.int IntKind.i64 pc] ++ [])) = (false)) → False))) := by kernel_rfl
  refine hvc.mpr ?_
  clear hvc
  dsimp only [qcheckCover2, qcheckCover3, qcheckCover1, qcheckCover0]
  simp only [Bool.and_eq_true] at hc
  have hn := (crowdB_ok hc.1).1
  have hp := Nat.le_of_ble_eq_true hc.2.1
  have hq := Nat.le_of_ble_eq_true hc.2.2
  have hL : loadErrC [.list [.str, .list [.int .i64]] nps fps, .int .i64 pc] = true := hc.1
  by_cases h0 : loadE pc nps fps = 0
  · by_cases h1 : firE (ascE fcp (nps : Int)) ncp = 0
    · by_cases h2 : firE (ascE fcl pc) ncl = 0
      · have eE : coE pc nps fps ncp fcp ncl fcl = firE (cvErr fps ncp fcp ncl fcl) nps := by rw [coE, first3, h1, h2]; rfl
        simp [h0, h1, h2, hL]
        have hcv : ∀ y, cvErr fps ncp fcp ncl fcl y = if (hasB ncp fcp (y : Int) || !anyN (fun i => !hasB ncl fcl ((fps y 1).fn i 0).i) (fps y 1).ln 0) = true then 0 else 20 := fun y => by
          have : natAll (cvAt fps ncp fcp ncl fcl y) (fps y 1).ln = (hasB ncp fcp (y : Int) || !anyN (fun i => !hasB ncl fcl ((fps y 1).fn i 0).i) (fps y 1).ln 0) := cv_any _ _ _
          rw [cvErr, this]
        have go : ∀ y, y < nps → firE (cvErr fps ncp fcp ncl fcl) y = 0 → cvErr fps ncp fcp ncl fcl y = 0 → ∃ y2, ((y2 ≤ nps ∧ firE (cvErr fps ncp fcp ncl fcl) y2 = 0) ∧ nps - y2 < nps - y) ∧ (y2 : Int) = IntKind.i64.wrap ((y : Int) + 1) := fun y hy he h =>
          ⟨y + 1, ⟨⟨by omega, firE_up he h⟩, by omega⟩, by rw [wrap_id (by omega) (by omega)]; rfl⟩
        refine ⟨rfl, fun y hy he => ⟨fun hlt => ⟨fun _ => ⟨fun hb => go y hlt he (by rw [hcv, hb]; rfl), fun hb => ⟨fun ha => ?_, fun ha => go y hlt he (by rw [hcv, hb, ha]; rfl)⟩⟩, hlt⟩, fun hge => ?_⟩⟩
        · have e : cvErr fps ncp fcp ncl fcl y = 20 := by rw [hcv, hb, ha]; rfl
          have e2 := (firE_hit he (by omega) hlt).1
          rw [e, ← eE] at e2
          exact ⟨by rw [coV, e2]; rfl, e2⟩
        · obtain rfl : y = nps := by omega
          rw [coV, eE, he, wrap_id (by omega) (by omega)]
          exact ⟨rfl, rfl⟩
      · have eE : coE pc nps fps ncp fcp ncl fcl = firE (ascE fcl pc) ncl := by rw [coE, first3, h1, if_pos rfl, if_neg h2]
        simp [coV, eE, h0, h1, h2, hL]
    · have eE : coE pc nps fps ncp fcp ncl fcl = firE (ascE fcp nps) ncp := by rw [coE, first3, if_neg h1]
      simp [coV, eE, h0, h1, hL]
  · simp [h0, hL]
def copyCoverS : List PT := [.agg [.list [.int .i64], .list [.int .i64]]]
def copyCoverC : List FD → Bool
  | [.list _ ncp _, .list _ ncl _] => Nat.ble ncp 30 && Nat.ble ncl 30
  | _ => false
def copyCoverR : List FD → List FD
  | [.list _ ncp fcp, .list _ ncl fcl] => [.list [.int .i64] ncp fcp, .list [.int .i64] ncl fcl]
  | _ => []
def copyCoverI (_ncp : Nat) (_fcp : Nat → Nat → FD) (_ncl : Nat) (_fcl : Nat → Nat → FD) : Nat → AFam := alts (fun _ => [])
theorem copyCover_ok : FnOk (mkR smLe gsLa) Try.prog η0 71 (FI.of Try.f71 false) copyCoverS (.agg [.list [.int .i64], .list [.int .i64]]) copyCoverC copyCoverR := by
  refine fnOk_of0 smLe_ok gsLa_ok Try.fok71 (fun fds => match fds with | [.list _ ncp fcp, .list _ ncl fcl] => copyCoverI ncp fcp ncl fcl | _ => alts fun _ => []) ?_
  intro fds hf hc
  obtain ⟨ncp, fcp, ds0, rfl, gcp, hf1⟩ := hf.list
  obtain ⟨ncl, fcl, ds1, rfl, gcl, hf2⟩ := hf1.list
  obtain rfl := hf2.nil
  have hc : (Nat.ble ncp 30 && Nat.ble ncl 30) = true := hc
  have hvc : (vcF smLe gsLa (FI.of Try.f71 false) copyCoverS (.agg [.list [.int .i64], .list [.int .i64]]) (copyCoverI ncp fcp ncl fcl) noR [.list [.int .i64] ncp fcp, .list [.int .i64] ncl fcl] (copyCoverR [.list [.int .i64] ncp fcp, .list [.int .i64] ncl fcl])) =
    ((true = true) ∧ ((((copyIntsC [FD.list [Sh.int IntKind.i64] ncp fcp]) = (true)) → ((((copyIntsC [FD.list [Sh.int IntKind.i64] ncl fcl]) = (true)) → (((1 : Nat) ≤ (1 : Nat) + (1 : Nat) + (1 : Nat) + ((0 : Nat) + (1 : Nat) + (1 : Nat)) ∧ ((([Sh.int IntKind.i64]) = ([Sh.int IntKind.i64])) ∧ (((ncp) = (ncp)) ∧ (∀ y0 : Nat, (y0 < ncp → (∀ y1 : Nat, (y1 < List.length [Sh.int IntKind.i64] → ((fcp y0 y1) = (fcp y0 y1))))))))) ∧ (((1 : Nat) ≤ (1 : Nat) + (1 : Nat) + (1 : Nat) + ((0 : Nat) + (1 : Nat) + (1 : Nat) + (1 : Nat) + (1 : Nat) + (1 : Nat)) ∧ ((([Sh.int IntKind.i64]) = ([Sh.int IntKind.i64])) ∧ (((ncl) = (ncl)) ∧ (∀ y0 : Nat, (y0 < ncl → (∀ y1 : Nat, (y1 < List.length [Sh.int IntKind.i64] → ((fcl y0 y1) = (fcl y0 y1))))))))) ∧ True))) ∧ (((copyIntsC [FD.list [Sh.int IntKind.i64] ncl fcl]) = (false)) → False))) ∧ (((copyIntsC [FD.list [Sh.int IntKind.i64] ncp fcp]) = (false)) → False))) := by kernel_rfl
  refine hvc.mpr ?_
  clear hvc
  simp only [Bool.and_eq_true] at hc
  have c1 : copyIntsC [.list [.int .i64] ncp fcp] = true := Nat.ble_eq_true_of_le (by have := Nat.le_of_ble_eq_true hc.1; omega)
  have c2 : copyIntsC [.list [.int .i64] ncl fcl] = true := Nat.ble_eq_true_of_le (by have := Nat.le_of_ble_eq_true hc.2; omega)
  simp [c1, c2]
end
end Go.Ex


namespace Go.Ex
open Go Go.Proofs Go.RowKit
noncomputable section
set_option maxRecDepth 1000000

theorem nodup_le {α : Type} [DecidableEq α] : ∀ {l m : List α}, l.Nodup → (∀ x, x ∈ l → x ∈ m) → l.length ≤ m.length
  | [], _, _, _ => Nat.zero_le _
  | a :: l, m, hn, hs => by
    have ha := hs a (List.mem_cons_self ..)
    obtain ⟨h1, h2⟩ := List.nodup_cons.1 hn
    have := nodup_le (m := m.erase a) h2 fun x hx => (List.mem_erase_of_ne (fun e => by subst e; exact h1 hx)).2 (hs x (List.mem_cons_of_mem _ hx))
    rw [List.length_erase_of_mem ha] at this
    have := List.length_pos_of_mem ha
    simp only [List.length_cons]
    omega
theorem hasB_yes {n : Nat} {f : Nat → Nat → FD} {v : Int} (h : hasB n f v = true) : ∃ i, i < n ∧ (f i 0).i = v := by
  obtain ⟨i, _, h2, h3⟩ := anyN_true h
  exact ⟨i, by omega, of_decide_eq_true h3⟩
theorem hasB_no {n : Nat} {f : Nat → Nat → FD} {v : Int} (h : hasB n f v = false) : ∀ i, i < n → (f i 0).i ≠ v := fun i hi =>
  of_decide_eq_false (anyN_false h i (by omega) (by omega))
def numsL (n : Nat) (f : Nat → Nat → FD) : List Int := (List.range n).map fun i => (f i 0).i
theorem mem_vals {n : Nat} {f : Nat → Nat → FD} {v : Int} (h : hasB n f v = true) : v ∈ numsL n f := by
  obtain ⟨i, h1, h2⟩ := hasB_yes h
  exact List.mem_map.2 ⟨i, List.mem_range.2 h1, h2⟩
/-- Parts of the cover that have a place, and the others that have one. -/
def inP (ncp : Nat) (fcp g : Nat → Nat → FD) (i : Nat) : Bool := !decide ((g i 0).i = -1) && hasB ncp fcp (i : Int)
def noP (ncp : Nat) (fcp g : Nat → Nat → FD) (i : Nat) : Bool := !decide ((g i 0).i = -1) && !hasB ncp fcp (i : Int)
theorem plCnt_parts (ncp : Nat) (fcp g : Nat → Nat → FD) : ∀ n, plCnt g n = (((List.range n).filter (inP ncp fcp g)).length : Int) + ((List.range n).filter (noP ncp fcp g)).length
  | 0 => rfl
  | n + 1 => by
    rw [plCnt, plCnt_parts ncp fcp g n, List.range_succ, List.filter_append, List.filter_append, List.length_append, List.length_append]
    by_cases h : (g n 0).i = -1
    · have e1 : inP ncp fcp g n = false := by rw [inP, decide_eq_true h]; rfl
      have e2 : noP ncp fcp g n = false := by rw [noP, decide_eq_true h]; rfl
      rw [if_pos h]
      simp [List.filter, e1, e2]
    · rw [if_neg h]
      cases hb : hasB ncp fcp (n : Int) with
      | true =>
        have e1 : inP ncp fcp g n = true := by rw [inP, decide_eq_false h, hb]; rfl
        have e2 : noP ncp fcp g n = false := by rw [noP, decide_eq_false h, hb]; rfl
        simp [List.filter, e1, e2]
        omega
      | false =>
        have e1 : inP ncp fcp g n = false := by rw [inP, decide_eq_false h, hb]; rfl
        have e2 : noP ncp fcp g n = true := by rw [noP, decide_eq_false h, hb]; rfl
        simp [List.filter, e1, e2]
        omega
theorem plErr_zero {pc : Int} {f g : Nat → Nat → FD} {i : Nat} (h : plErr pc f g i = 0) (hi : (g i 0).i ≠ -1) : hasB (f i 1).ln (f i 1).fn (g i 0).i = true ∧ hasB i g (g i 0).i = false := by
  rw [plErr, if_neg hi] at h
  split at h
  · split at h
    · rename_i h1
      split at h
      · omega
      · rename_i h2
        exact ⟨h1, by simpa using h2⟩
    · omega
  · omega
theorem cvErr_zero {f : Nat → Nat → FD} {ncp : Nat} {fcp : Nat → Nat → FD} {ncl : Nat} {fcl : Nat → Nat → FD} {i : Nat} (h : cvErr f ncp fcp ncl fcl i = 0) (hi : hasB ncp fcp (i : Int) = false) : ∀ k, k < (f i 1).ln → hasB ncl fcl ((f i 1).fn k 0).i = true := fun k hk => by
  rw [cvErr] at h
  split at h
  · rename_i h1
    have := natAll_spec h1 k hk
    rw [cvAt, hi, Bool.false_or] at this
    exact this
  · omega
theorem pl_cover {pc : Int} {n : Nat} {f g : Nat → Nat → FD} {ncp : Nat} {fcp : Nat → Nat → FD} {ncl : Nat} {fcl : Nat → Nat → FD} (h1 : firE (plErr pc f g) n = 0) (h2 : firE (cvErr f ncp fcp ncl fcl) n = 0) : plCnt g n ≤ (ncp : Int) + ncl := by
  rw [plCnt_parts ncp fcp g n]
  have a1 : (((List.range n).filter (inP ncp fcp g)).map fun i : Nat => (i : Int)).length ≤ (numsL ncp fcp).length := by
    refine nodup_le ?_ ?_
    · refine List.pairwise_map.2 (List.Pairwise.imp ?_ (List.Pairwise.filter _ (List.nodup_range (n := n))))
      intro a b hab e
      omega
    · intro x hx
      obtain ⟨i, hi, rfl⟩ := List.mem_map.1 hx
      have := (List.mem_filter.1 hi).2
      simp only [inP, Bool.and_eq_true] at this
      exact mem_vals this.2
  have a2 : (((List.range n).filter (noP ncp fcp g)).map fun i : Nat => (g i 0).i).length ≤ (numsL ncl fcl).length := by
    refine nodup_le ?_ ?_
    · refine List.pairwise_map.2 (List.Pairwise.imp_of_mem ?_ (List.Pairwise.filter _ (List.pairwise_lt_range (n := n))))
      intro a b ha hb hab e
      obtain ⟨b1, b2⟩ := List.mem_filter.1 hb
      simp only [noP, Bool.and_eq_true, Bool.not_eq_true', decide_eq_false_iff_not] at b2
      have hbn := List.mem_range.1 b1
      exact hasB_no (plErr_zero (firE_low h1 b hbn) b2.1).2 a hab e
    · intro x hx
      obtain ⟨i, hi, rfl⟩ := List.mem_map.1 hx
      obtain ⟨b1, b2⟩ := List.mem_filter.1 hi
      simp only [noP, Bool.and_eq_true, Bool.not_eq_true', decide_eq_false_iff_not] at b2
      have hin := List.mem_range.1 b1
      obtain ⟨k, hk, e⟩ := hasB_yes (plErr_zero (firE_low h1 i hin) b2.1).1
      have := cvErr_zero (firE_low h2 i hin) b2.2 k hk
      rw [e] at this
      exact mem_vals this
  simp only [List.length_map, numsL, List.length_range] at a1 a2
  omega
end
end Go.Ex


namespace Go.Ex
open Go Go.Proofs Go.RowKit
noncomputable section
set_option maxRecDepth 1000000

def smLf : T Smf := (T.set (T.set (T.set (T.set smLe 26 (some (gFd refPlacesS (.tup [.one (.int .i64), .one (.int .i64)]) refPlacesC refPlacesR))) 69 (some (gFd checkPlacesS (.tup [.one (.int .i64), .one (.int .i64)]) checkPlacesC checkPlacesR))) 27 (some (gFd refCoverS (.tup [.one (.int .i64), .one (.int .i64)]) refCoverC refCoverR))) 70 (some (gFd checkCoverS (.tup [.one (.int .i64), .one (.int .i64)]) checkCoverC checkCoverR)))
theorem smLf_ok : Tab SmOk smLf := (Tab.set (Tab.set (Tab.set (Tab.set smLe_ok (by kernel_rfl) (smOk_of smLe_ok gsLa_ok refPlaces_ok rfl)) (by kernel_rfl) (smOk_of smLe_ok gsLa_ok checkPlaces_ok rfl)) (by kernel_rfl) (smOk_of smLe_ok gsLa_ok refCover_ok rfl)) (by kernel_rfl) (smOk_of smLe_ok gsLc_ok checkCover_ok rfl))
def gsLf : G2 := (G2.setG gsLa 71 (gFd copyCoverS (.agg [.list [.int .i64], .list [.int .i64]]) copyCoverC copyCoverR))
theorem gsLf_ok : G2Ok gsLf := (G2Ok.setG gsLa_ok (by kernel_rfl) (gsOk_of smLe_ok gsLa_ok copyCover_ok))
def lawLoadsS : List PT := [.agg [.list [.str, .list [.int .i64]], .int .i64], .agg [.list [.int .i64], .list [.int .i64], .list [.int .i64]]]
def lawLoadsC : List FD → Bool
  | [.list _ _ _, .int _ _, .list _ _ _, .list _ _ _, .list _ _ _] => true
  | _ => false
def lawLoadsR : List FD → List FD
  | [.list _ _ _, .int _ _, .list _ _ _, .list _ _ _, .list _ _ _] => [.bool true]
  | _ => []
def lawLoadsI (_nps : Nat) (_fps : Nat → Nat → FD) (_pc : Int) (_nq : Nat) (_fq : Nat → Nat → FD) (_ncp : Nat) (_fcp : Nat → Nat → FD) (_ncl : Nat) (_fcl : Nat → Nat → FD) : Nat → AFam := alts (fun _ => [])
theorem lawLoads_ok : FnOk (mkR smLf gsLf) Try.prog η0 13 (FI.of Try.f13 true) lawLoadsS (.one .bool) lawLoadsC lawLoadsR := by
  refine fnOk_of0 smLf_ok gsLf_ok Try.fok13 (fun fds => match fds with | [.list _ nps fps, .int _ pc, .list _ nq fq, .list _ ncp fcp, .list _ ncl fcl] => lawLoadsI nps fps pc nq fq ncp fcp ncl fcl | _ => alts fun _ => []) ?_
  intro fds hf hc
  obtain ⟨nps, fps, ds0, rfl, gps, hf1⟩ := hf.list
  obtain ⟨pc, ds1, rfl, hf2⟩ := hf1.int
  obtain ⟨nq, fq, ds2, rfl, gq, hf3⟩ := hf2.list
  obtain ⟨ncp, fcp, ds3, rfl, gcp, hf4⟩ := hf3.list
  obtain ⟨ncl, fcl, ds4, rfl, gcl, hf5⟩ := hf4.list
  obtain rfl := hf5.nil
  have hc : (true) = true := hc
  have hvc : (vcF smLf gsLf (FI.of Try.f13 true) lawLoadsS (.one .bool) (lawLoadsI nps fps pc nq fq ncp fcp ncl fcl) noR [.list [.str, .list [.int .i64]] nps fps, .int .i64 pc, .list [.int .i64] nq fq, .list [.int .i64] ncp fcp, .list [.int .i64] ncl fcl] (lawLoadsR [.list [.str, .list [.int .i64]] nps fps, .int .i64 pc, .list [.int .i64] nq fq, .list [.int .i64] ncp fcp, .list [.int .i64] ncl fcl])) =
    ((true = true) ∧ (((true = true) → (((true = false) → (true = false)) ∧ ((true = true) → (((true = true) → ((((crowdB nps fps) = (true)) → ((((decide ((30 : Int) < Int.ofNat nq)) = (true)) → (true = true)) ∧ (((decide ((30 : Int) < Int.ofNat nq)) = (false)) → ((((decide ((30 : Int) < Int.ofNat ncp)) = (true)) → (true = true)) ∧ (((decide ((30 : Int) < Int.ofNat ncp)) = (false)) → ((((decide ((30 : Int) < Int.ofNat ncl)) = (true)) → (true = true)) ∧ (((decide ((30 : Int) < Int.ofNat ncl)) = (false)) → ((((copyLoadC ([FD.list [Sh.str, Sh.list [Sh.int IntKind.i64]] nps fps, FD.int IntKind.i64 pc] ++ [])) = (true)) → ((((checkLoadC ([FD.list [Sh.str, Sh.list [Sh.int IntKind.i64]] nps fps, FD.int IntKind.i64 pc] ++ [])) = (true)) → ((((copyLoadC ([FD.list [Sh.str, Sh.list [Sh.int IntKind.i64]] nps fps, FD.int IntKind.i64 pc] ++ [])) = (true)) → ((((copyIntsC [FD.list [Sh.int IntKind.i64] nq fq]) = (true)) → ((((checkPlacesC ([FD.list [Sh.str, Sh.list [Sh.int IntKind.i64]] nps fps, FD.int IntKind.i64 pc] ++ [FD.list [Sh.int IntKind.i64] nq fq])) = (true)) → ((((copyLoadC ([FD.list [Sh.str, Sh.list [Sh.int IntKind.i64]] nps fps, FD.int IntKind.i64 pc] ++ [])) = (true)) → ((((copyCoverC ([FD.list [Sh.int IntKind.i64] ncp fcp, FD.list [Sh.int IntKind.i64] ncl fcl] ++ [])) = (true)) → ((((checkCoverC ([FD.list [Sh.str, Sh.list [Sh.int IntKind.i64]] nps fps, FD.int IntKind.i64 pc] ++ ([FD.list [Sh.int IntKind.i64] ncp fcp, FD.list [Sh.int IntKind.i64] ncl fcl] ++ []))) = (true)) → ((((refLoadC ([FD.list [Sh.str, Sh.list [Sh.int IntKind.i64]] nps fps, FD.int IntKind.i64 pc] ++ [])) = (true)) → ((((decide (loadI pc nps fps = loadI pc nps fps)) = (true)) → ((((decide (loadE pc nps fps = loadE pc nps fps)) = (false)) → (true = false)) ∧ (((decide (loadE pc nps fps = loadE pc nps fps)) = (true)) → ((((decide (loadE pc nps fps = (0 : Int))) = (false)) → ((((decide ((if loadE pc nps fps = (0 : Int) then plE nps pc fps nq fq else loadE pc nps fps) = loadE pc nps fps)) = (true)) → ((((decide ((if loadE pc nps fps = (0 : Int) then coE pc nps fps ncp fcp ncl fcl else loadE pc nps fps) = loadE pc nps fps)) = (true)) → ((((decide ((if loadE pc nps fps = (0 : Int) then plV nps pc fps nq fq else (0 : Int)) = (0 : Int))) = (true)) → (true = decide ((if loadE pc nps fps = (0 : Int) then coV pc nps fps ncp fcp ncl fcl else (0 : Int)) = (0 : Int)))) ∧ (((decide ((if loadE pc nps fps = (0 : Int) then plV nps pc fps nq fq else (0 : Int)) = (0 : Int))) = (false)) → (true = false)))) ∧ (((decide ((if loadE pc nps fps = (0 : Int) then coE pc nps fps ncp fcp ncl fcl else loadE pc nps fps) = loadE pc nps fps)) = (false)) → (true = false)))) ∧ (((decide ((if loadE pc nps fps = (0 : Int) then plE nps pc fps nq fq else loadE pc nps fps) = loadE pc nps fps)) = (false)) → (true = false)))) ∧ (((decide (loadE pc nps fps = (0 : Int))) = (true)) → ((((refPlacesC ([FD.list [Sh.str, Sh.list [Sh.int IntKind.i64]] nps fps, FD.int IntKind.i64 pc] ++ [FD.list [Sh.int IntKind.i64] nq fq])) = (true)) → ((((refCoverC ([FD.list [Sh.str, Sh.list [Sh.int IntKind.i64]] nps fps, FD.int IntKind.i64 pc] ++ ([FD.list [Sh.int IntKind.i64] ncp fcp, FD.list [Sh.int IntKind.i64] ncl fcl] ++ []))) = (true)) → ((((decide ((if loadE pc nps fps = (0 : Int) then plE nps pc fps nq fq else loadE pc nps fps) = plE nps pc fps nq fq)) = (true)) → ((((decide ((if loadE pc nps fps = (0 : Int) then plV nps pc fps nq fq else (0 : Int)) = plV nps pc fps nq fq)) = (true)) → ((((decide ((if loadE pc nps fps = (0 : Int) then coE pc nps fps ncp fcp ncl fcl else loadE pc nps fps) = coE pc nps fps ncp fcp ncl fcl)) = (true)) → ((((decide ((if loadE pc nps fps = (0 : Int) then coV pc nps fps ncp fcp ncl fcl else (0 : Int)) = coV pc nps fps ncp fcp ncl fcl)) = (true)) → ((((decide (plE nps pc fps nq fq = (0 : Int))) = (true)) → ((((decide (coE pc nps fps ncp fcp ncl fcl = (0 : Int))) = (true)) → (true = !decide (coV pc nps fps ncp fcp ncl fcl < plV nps pc fps nq fq))) ∧ (((decide (coE pc nps fps ncp fcp ncl fcl = (0 : Int))) = (false)) → (true = true)))) ∧ (((decide (plE nps pc fps nq fq = (0 : Int))) = (false)) → (true = true)))) ∧ (((decide ((if loadE pc nps fps = (0 : Int) then coV pc nps fps ncp fcp ncl fcl else (0 : Int)) = coV pc nps fps ncp fcp ncl fcl)) = (false)) → (true = false)))) ∧ (((decide ((if loadE pc nps fps = (0 : Int) then coE pc nps fps ncp fcp ncl fcl else loadE pc nps fps) = coE pc nps fps ncp fcp ncl fcl)) = (false)) → (true = false)))) ∧ (((decide ((if loadE pc nps fps = (0 : Int) then plV nps pc fps nq fq else (0 : Int)) = plV nps pc fps nq fq)) = (false)) → (true = false)))) ∧ (((decide ((if loadE pc nps fps = (0 : Int) then plE nps pc fps nq fq else loadE pc nps fps) = plE nps pc fps nq fq)) = (false)) → (true = false)))) ∧ (((refCoverC ([FD.list [Sh.str, Sh.list [Sh.int IntKind.i64]] nps fps, FD.int IntKind.i64 pc] ++ ([FD.list [Sh.int IntKind.i64] ncp fcp, FD.list [Sh.int IntKind.i64] ncl fcl] ++ []))) = (false)) → False))) ∧ (((refPlacesC ([FD.list [Sh.str, Sh.list [Sh.int IntKind.i64]] nps fps, FD.int IntKind.i64 pc] ++ [FD.list [Sh.int IntKind.i64] nq fq])) = (false)) → False))))))) ∧ (((decide (loadI pc nps fps = loadI pc nps fps)) = (false)) → (true = false)))) ∧ (((refLoadC ([FD.list [Sh.str, Sh.list [Sh.int IntKind.i64]] nps fps, FD.int IntKind.i64 pc] ++ [])) = (false)) → False))) ∧ (((checkCoverC ([FD.list [Sh.str, Sh.list [Sh.int IntKind.i64]] nps fps, FD.int IntKind.i64 pc] ++ ([FD.list [Sh.int IntKind.i64] ncp fcp, FD.list [Sh.int IntKind.i64] ncl fcl] ++ []))) = (false)) → False))) ∧ (((copyCoverC ([FD.list [Sh.int IntKind.i64] ncp fcp, FD.list [Sh.int IntKind.i64] ncl fcl] ++ [])) = (false)) → False))) ∧ (((copyLoadC ([FD.list [Sh.str, Sh.list [Sh.int IntKind.i64]] nps fps, FD.int IntKind.i64 pc] ++ [])) = (false)) → False))) ∧ (((checkPlacesC ([FD.list [Sh.str, Sh.list [Sh.int IntKind.i64]] nps fps, FD.int IntKind.i64 pc] ++ [FD.list [Sh.int IntKind.i64] nq fq])) = (false)) → False))) ∧ (((copyIntsC [FD.list [Sh.int IntKind.i64] nq fq]) = (false)) → False))) ∧ (((copyLoadC ([FD.list [Sh.str, Sh.list [Sh.int IntKind.i64]] nps fps, FD.int IntKind.i64 pc] ++ [])) = (false)) → False))) ∧ (((checkLoadC ([FD.list [Sh.str, Sh.list [Sh.int IntKind.i64]] nps fps, FD.int IntKind.i64 pc] ++ [])) = (false)) → False))) ∧ (((copyLoadC ([FD.list [Sh.str, Sh.list [Sh.int IntKind.i64]] nps fps, FD.int IntKind.i64 pc] ++ [])) = (false)) → False))))))))) ∧ (((crowdB nps fps) = (false)) → (true = true)))) ∧ ((true = false) → False))))) ∧ ((true = false) → False))) := by kernel_rfl
  refine hvc.mpr ?_
  clear hvc
  by_cases hcr : crowdB nps fps = true
  · by_cases hq : nq ≤ 30
    · by_cases hp : ncp ≤ 30
      · by_cases hl : ncl ≤ 30
        · have c1 : copyLoadC [.list [.str, .list [.int .i64]] nps fps, .int .i64 pc] = true := hcr
          have c2 : checkLoadC [.list [.str, .list [.int .i64]] nps fps, .int .i64 pc] = true := hcr
          have c3 : copyIntsC [.list [.int .i64] nq fq] = true := Nat.ble_eq_true_of_le (by omega)
          have c4 : checkPlacesC [.list [.str, .list [.int .i64]] nps fps, .int .i64 pc, .list [.int .i64] nq fq] = true := hcr
          have b1 := Nat.ble_eq_true_of_le hp
          have b2 := Nat.ble_eq_true_of_le hl
          have b3 := Nat.ble_eq_true_of_le (crowdB_ok hcr).1
          have c5 : copyCoverC [.list [.int .i64] ncp fcp, .list [.int .i64] ncl fcl] = true := by simp only [copyCoverC, b1, b2, Bool.and_self]
          have c6 : checkCoverC [.list [.str, .list [.int .i64]] nps fps, .int .i64 pc, .list [.int .i64] ncp fcp, .list [.int .i64] ncl fcl] = true := by simp only [checkCoverC, hcr, b1, b2, Bool.and_self]
          have c7 : refLoadC [.list [.str, .list [.int .i64]] nps fps, .int .i64 pc] = true := hcr
          by_cases h0 : loadE pc nps fps = 0
          · have hpc := loadE_pc h0
            have c8 : refPlacesC [.list [.str, .list [.int .i64]] nps fps, .int .i64 pc, .list [.int .i64] nq fq] = true := by simp only [refPlacesC, b3, hpc, and_self, decide_true, Bool.and_self]
            have c9 : refCoverC [.list [.str, .list [.int .i64]] nps fps, .int .i64 pc, .list [.int .i64] ncp fcp, .list [.int .i64] ncl fcl] = true := by simp only [refCoverC, b3, b1, b2, Bool.and_self]
            simp [hcr, h0, c1, c2, c3, c4, c5, c6, c7, c8, c9]
            intro _ _ _ h1 h2
            rw [plV, if_pos h1, coV, if_pos h2]
            have e1 : nq = nps := by
              rw [plE] at h1
              split at h1
              · assumption
              · omega
            subst e1
            rw [plE, if_pos rfl] at h1
            refine pl_cover (fcp := fcp) (fcl := fcl) h1 ?_
            rw [coE, first3] at h2
            split at h2
            · split at h2
              · exact h2
              · omega
            · omega
          · simp [hcr, h0, c1, c2, c3, c4, c5, c6, c7]
        · simp [hcr]
          omega
      · simp [hcr]
        omega
    · simp [hcr]
      omega
  · simp [hcr]
end
end Go.Ex

