/-
  Contracts: names.
-/
import Derived.Test.YtdpabnfcfakjeaaLwSp

namespace Go.Ex
open Go Go.Proofs Go.RowKit
noncomputable section
set_option maxRecDepth 1000000

theorem allN_no {p : Nat → Bool} : ∀ {m i : Nat}, i < m → p i = false → natAll p m = false
  | m + 1, i, h, hp => by
    show (p m && natAll p m) = false
    by_cases e : i = m
    · subst e; rw [hp]; rfl
    · rw [allN_no (show i < m by omega) hp, Bool.and_false]
theorem allN_up {p : Nat → Bool} {m : Nat} (h : natAll p m = true) (hp : p m = true) : natAll p (m + 1) = true := by
  show (p m && natAll p m) = true
  rw [h, hp]; rfl
def letB (c : Int) : Bool := (decide (97 ≤ c) && decide (c ≤ 122)) || (decide (65 ≤ c) && decide (c ≤ 90))
def nameC (i : Nat) (c : Int) : Bool := letB c || (!decide (i = 0) && (decide (c = 45) || (decide (48 ≤ c) && decide (c ≤ 57))))
def nameAt (l : List UInt8) (i : Nat) : Bool := nameC i ((l.getD i 0).toNat : Nat)
def nameB (l : List UInt8) : Bool := natAll (nameAt l) l.length && (decide (0 < l.length) && decide (l.length ≤ 12))
theorem nameAt_iff (l : List UInt8) (i : Nat) : nameAt l i = true ↔ ((97 ≤ (((l[i]?.getD 0).toNat : Nat) : Int) ∧ (((l[i]?.getD 0).toNat : Nat) : Int) ≤ 122) ∨ (65 ≤ (((l[i]?.getD 0).toNat : Nat) : Int) ∧ (((l[i]?.getD 0).toNat : Nat) : Int) ≤ 90)) ∨ (¬ i = 0 ∧ ((((l[i]?.getD 0).toNat : Nat) : Int) = 45 ∨ (48 ≤ (((l[i]?.getD 0).toNat : Nat) : Int) ∧ (((l[i]?.getD 0).toNat : Nat) : Int) ≤ 57))) := by
  simp [nameAt, nameC, letB]
theorem nameB_stop {l : List UInt8} {i : Nat} (hi : i < l.length) (h : ¬ nameAt l i = true) : nameB l = false := by
  rw [nameB, allN_no hi (by simpa using h)]
  rfl
theorem nameB_go {l : List UInt8} {i : Nat} (hl : l.length ≤ 1000000000000000000) (hi : i < l.length) (ha : natAll (nameAt l) i = true) (h : nameAt l i = true) : ∃ y2, ((y2 ≤ l.length ∧ natAll (nameAt l) y2 = true) ∧ l.length - y2 < l.length - i) ∧ (y2 : Int) = IntKind.i64.wrap ((i : Int) + 1) :=
  ⟨i + 1, ⟨⟨by omega, allN_up ha h⟩, by omega⟩, by rw [wrap_id (by omega) (by omega)]; rfl⟩
def isNameS : List PT := [.one (.str)]
def isNameC : List FD → Bool
  | [.str s] => Nat.ble s.length 1000
  | _ => false
def isNameR : List FD → List FD
  | [.str s] => [.bool (nameB s)]
  | _ => []
def isNameI (s : List UInt8) : Nat → AFam := fun i => match i with | 2 => ⟨Nat, fun _ => [{ι := Nat, G := fun x => x ≤ s.length ∧ natAll (nameAt s) x = true, μ := fun x => s.length - x, tl := fun x => [(0, .one (.ostr s)), (2, .one (.bool (.lit false))), (6, .one (.ostr s)), (7, .one (.int IntKind.i64 (.tm (Int.ofNat (List.length s))))), (8, .one (.int IntKind.i64 (.tm (Int.ofNat x))))], bl := fun _ => [], nx := (1 : Nat)}]⟩ | _ => ⟨Nat, fun _ => []⟩
theorem isName_ok : FnOk (mkR smE gs3) Try.prog η0 128 (FI.of Try.f128 true) isNameS (.one .bool) isNameC isNameR := by
  refine fnOk_of0 smE_ok gs3_ok Try.fok128 (fun fds => match fds with | [.str s] => isNameI s | _ => alts fun _ => []) ?_
  intro fds hf hc
  obtain ⟨s, ds0, rfl, hf1⟩ := hf.str
  obtain rfl := hf1.nil
  have hc : (Nat.ble s.length 1000) = true := hc
  have hvc : (vcF smE gs3 (FI.of Try.f128 true) isNameS (.one .bool) (isNameI s) noR [.str s] (isNameR [.str s])) =
    ((true = true) ∧ (∃ y0 : Nat, ((∃ y1 : Nat, (((y1 ≤ List.length s ∧ ((natAll (nameAt s) y1) = (true))) ∧ True) ∧ (((true = true) ∧ (((s) = (s)) ∧ ((false = false) ∧ (((s) = (s)) ∧ ((((IntKind.i64) = (IntKind.i64)) ∧ ((Int.ofNat (List.length s)) = (Int.ofNat (List.length s)))) ∧ ((((IntKind.i64) = (IntKind.i64)) ∧ ((Int.ofNat y1) = ((0 : Int)))) ∧ True)))))) ∧ True))) ∧ (∀ y1 : Nat, ((y1 ≤ List.length s ∧ ((natAll (nameAt s) y1) = (true))) → ((((decide (Int.ofNat y1 < Int.ofNat (List.length s))) = (true)) → ((((decide ((0 : Int) ≤ Int.ofNat y1) && decide (Int.ofNat y1 < (↑(List.length s) : Int))) = (true)) → ((((decide (Int.ofNat (UInt8.toNat (List.getD s (Int.toNat (Int.ofNat y1)) (0 : UInt8))) < (97 : Int))) = (true)) → ((((decide (Int.ofNat (UInt8.toNat (List.getD s (Int.toNat (Int.ofNat y1)) (0 : UInt8))) < (65 : Int))) = (true)) → ((((decide (Int.ofNat y1 = (0 : Int))) = (true)) → ((nameB s) = (false))) ∧ (((decide (Int.ofNat y1 = (0 : Int))) = (false)) → ((((decide (Int.ofNat (UInt8.toNat (List.getD s (Int.toNat (Int.ofNat y1)) (0 : UInt8))) = (45 : Int))) = (true)) → (∃ y2 : Nat, (((y2 ≤ List.length s ∧ ((natAll (nameAt s) y2) = (true))) ∧ List.length s - y2 < List.length s - y1) ∧ (((true = true) ∧ (((s) = (s)) ∧ ((false = false) ∧ (((s) = (s)) ∧ ((((IntKind.i64) = (IntKind.i64)) ∧ ((Int.ofNat (List.length s)) = (Int.ofNat (List.length s)))) ∧ ((((IntKind.i64) = (IntKind.i64)) ∧ ((Int.ofNat y2) = (IntKind.wrap IntKind.i64 (Int.ofNat y1 + (1 : Int))))) ∧ True)))))) ∧ True)))) ∧ (((decide (Int.ofNat (UInt8.toNat (List.getD s (Int.toNat (Int.ofNat y1)) (0 : UInt8))) = (45 : Int))) = (false)) → ((((decide (Int.ofNat (UInt8.toNat (List.getD s (Int.toNat (Int.ofNat y1)) (0 : UInt8))) < (48 : Int))) = (true)) → ((nameB s) = (false))) ∧ (((decide (Int.ofNat (UInt8.toNat (List.getD s (Int.toNat (Int.ofNat y1)) (0 : UInt8))) < (48 : Int))) = (false)) → ((((decide ((57 : Int) < Int.ofNat (UInt8.toNat (List.getD s (Int.toNat (Int.ofNat y1)) (0 : UInt8))))) = (true)) → ((nameB s) = (false))) ∧ (((decide ((57 : Int) < Int.ofNat (UInt8.toNat (List.getD s (Int.toNat (Int.ofNat y1)) (0 : UInt8))))) = (false)) → (∃ y2 : Nat, (((y2 ≤ List.length s ∧ ((natAll (nameAt s) y2) = (true))) ∧ List.length s - y2 < List.length s - y1) ∧ (((true = true) ∧ (((s) = (s)) ∧ ((false = false) ∧ (((s) = (s)) ∧ ((((IntKind.i64) = (IntKind.i64)) ∧ ((Int.ofNat (List.length s)) = (Int.ofNat (List.length s)))) ∧ ((((IntKind.i64) = (IntKind.i64)) ∧ ((Int.ofNat y2) = (IntKind.wrap IntKind.i64 (Int.ofNat y1 + (1 : Int))))) ∧ True)))))) ∧ True)))))))))))) ∧ (((decide (Int.ofNat (UInt8.toNat (List.getD s (Int.toNat (Int.ofNat y1)) (0 : UInt8))) < (65 : Int))) = (false)) → ((((decide ((90 : Int) < Int.ofNat (UInt8.toNat (List.getD s (Int.toNat (Int.ofNat y1)) (0 : UInt8))))) = (true)) → ((((decide (Int.ofNat y1 = (0 : Int))) = (true)) → ((nameB s) = (false))) ∧ (((decide (Int.ofNat y1 = (0 : Int))) = (false)) → ((((decide (Int.ofNat (UInt8.toNat (List.getD s (Int.toNat (Int.ofNat y1)) (0 : UInt8))) = (45 : Int))) = (true)) → (∃ y2 : Nat, (((y2 ≤ List.length s ∧ ((natAll (nameAt s) y2) = (true))) ∧ List.length s - y2 < List.length s - y1) ∧ (((true = true) ∧ (((s) = (s)) ∧ ((false = false) ∧ (((s) = (s)) ∧ ((((IntKind.i64) = (IntKind.i64)) ∧ ((Int.ofNat (List.length s)) = (Int.ofNat (List.length s)))) ∧ ((((IntKind.i64) = (IntKind.i64)) ∧ ((Int.ofNat y2) = (IntKind.wrap IntKind.i64 (Int.ofNat y1 + (1 : Int))))) ∧ True)))))) ∧ True)))) ∧ (((decide (Int.ofNat (UInt8.toNat (List.getD s (Int.toNat (Int.ofNat y1)) (0 : UInt8))) = (45 : Int))) = (false)) → ((((decide (Int.ofNat (UInt8.toNat (List.getD s (Int.toNat (Int.ofNat y1)) (0 : UInt8))) < (48 : Int))) = (true)) → ((nameB s) = (false))) ∧ (((decide (Int.ofNat (UInt8.toNat (List.getD s (Int.toNat (Int.ofNat y1)) (0 : UInt8))) < (48 : Int))) = (false)) → ((((decide ((57 : Int) < Int.ofNat (UInt8.toNat (List.getD s (Int.toNat (Int.ofNat y1)) (0 : UInt8))))) = (true)) → ((nameB s) = (false))) ∧ (((decide ((57 : Int) < Int.ofNat (UInt8.toNat (List.getD s (Int.toNat (Int.ofNat y1)) (0 : UInt8))))) = (false)) → (∃ y2 : Nat, (((y2 ≤ List.length s ∧ ((natAll (nameAt s) y2) = (true))) ∧ List.length s - y2 < List.length s - y1) ∧ (((true = true) ∧ (((s) = (s)) ∧ ((false = false) ∧ (((s) = (s)) ∧ ((((IntKind.i64) = (IntKind.i64)) ∧ ((Int.ofNat (List.length s)) = (Int.ofNat (List.length s)))) ∧ ((((IntKind.i64) = (IntKind.i64)) ∧ ((Int.ofNat y2) = (IntKind.wrap IntKind.i64 (Int.ofNat y1 + (1 : Int))))) ∧ True)))))) ∧ True)))))))))))) ∧ (((decide ((90 : Int) < Int.ofNat (UInt8.toNat (List.getD s (Int.toNat (Int.ofNat y1)) (0 : UInt8))))) = (false)) → (∃ y2 : Nat, (((y2 ≤ List.length s ∧ ((natAll (nameAt s) y2) = (true))) ∧ List.length s - y2 < List.length s - y1) ∧ (((true = true) ∧ (((s) = (s)) ∧ ((false = false) ∧ (((s) = (s)) ∧ ((((IntKind.i64) = (IntKind.i64)) ∧ ((Int.ofNat (List.length s)) = (Int.ofNat (List.length s)))) ∧ ((((IntKind.i64) = (IntKind.i64)) ∧ ((Int.ofNat y2) = (IntKind.wrap IntKind.i64 (Int.ofNat y1 + (1 : Int))))) ∧ True)))))) ∧ True)))))))) ∧ (((decide (Int.ofNat (UInt8.toNat (List.getD s (Int.toNat (Int.ofNat y1)) (0 : UInt8))) < (97 : Int))) = (false)) → ((((decide ((122 : Int) < Int.ofNat (UInt8.toNat (List.getD s (Int.toNat (Int.ofNat y1)) (0 : UInt8))))) = (true)) → ((((decide (Int.ofNat (UInt8.toNat (List.getD s (Int.toNat (Int.ofNat y1)) (0 : UInt8))) < (65 : Int))) = (true)) → ((((decide (Int.ofNat y1 = (0 : Int))) = (true)) → ((nameB s) = (false))) ∧ (((decide (Int.ofNat y1 = (0 : Int))) = (false)) → ((((decide (Int.ofNat (UInt8.toNat (List.getD s (Int.toNat (Int.ofNat y1)) (0 : UInt8))) = (45 : Int))) = (true)) → (∃ y2 : Nat, (((y2 ≤ List.length s ∧ ((natAll (nameAt s) y2) = (true))) ∧ List.length s - y2 < List.length s - y1) ∧ (((true = true) ∧ (((s) = (s)) ∧ ((false = false) ∧ (((s) = (s)) ∧ ((((IntKind.i64) = (IntKind.i64)) ∧ ((Int.ofNat (List.length s)) = (Int.ofNat (List.length s)))) ∧ ((((IntKind.i64) = (IntKind.i64)) ∧ ((Int.ofNat y2) = (IntKind.wrap IntKind.i64 (Int.ofNat y1 + (1 : Int))))) ∧ True)))))) ∧ True)))) ∧ (((decide (Int.ofNat (UInt8.toNat (List.getD s (Int.toNat (Int.ofNat y1)) (0 : UInt8))) = (45 : Int))) = (false)) → ((((decide (Int.ofNat (UInt8.toNat (List.getD s (Int.toNat (Int.ofNat y1)) (0 : UInt8))) < (48 : Int))) = (true)) → ((nameB s) = (false))) ∧ (((decide (Int.ofNat (UInt8.toNat (List.getD s (Int.toNat (Int.ofNat y1)) (0 : UInt8))) < (48 : Int))) = (false)) → ((((decide ((57 : Int) < Int.ofNat (UInt8.toNat (List.getD s (Int.toNat (Int.ofNat y1)) (0 : UInt8))))) = (true)) → ((nameB s) = (false))) ∧ (((decide ((57 : Int) < Int.ofNat (UInt8.toNat (List.getD s (Int.toNat (Int.ofNat y1)) (0 : UInt8))))) = (false)) → (∃ y2 : Nat, (((y2 ≤ List.length s ∧ ((natAll (nameAt s) y2) = (true))) ∧ List.length s - y2 < List.length s - y1) ∧ (((true = true) ∧ (((s) = (s)) ∧ ((false = false) ∧ (((s) = (s)) ∧ ((((IntKind.i64) = (IntKind.i64)) ∧ ((Int.ofNat (List.length s)) = (Int.ofNat (List.length s)))) ∧ ((((IntKind.i64) = (IntKind.i64)) ∧ ((Int.ofNat y2) = (IntKind.wrap IntKind.i64 (Int.ofNat y1 + (1 : Int))))) ∧ True)))))) ∧ True)))))))))))) ∧ (((decide (Int.ofNat (UInt8.toNat (List.getD s (Int.toNat (Int.ofNat y1)) (0 : UInt8))) < (65 : Int))) = (false)) → ((((decide ((90 : Int) < Int.ofNat (UInt8.toNat (List.getD s (Int.toNat (Int.ofNat y1)) (0 : UInt8))))) = (true)) → ((((decide (Int.ofNat y1 = (0 : Int))) = (true)) → ((nameB s) = (false))) ∧ (((decide (Int.ofNat y1 = (0 : Int))) = (false)) → ((((decide (Int.ofNat (UInt8.toNat (List.getD s (Int.toNat (Int.ofNat y1)) (0 : UInt8))) = (45 : Int))) = (true)) → (∃ y2 : Nat, (((y2 ≤ List.length s ∧ ((natAll (nameAt s) y2) = (true))) ∧ List.length s - y2 < List.length s - y1) ∧ (((true = true) ∧ (((s) = (s)) ∧ ((false = false) ∧ (((s) = (s)) ∧ ((((IntKind.i64) = (IntKind.i64)) ∧ ((Int.ofNat (List.length s)) = (Int.ofNat (List.length s)))) ∧ ((((IntKind.i64) = (IntKind.i64)) ∧ ((Int.ofNat y2) = (IntKind.wrap IntKind.i64 (Int.ofNat y1 + (1 : Int))))) ∧ True)))))) ∧ True)))) ∧ (((decide (Int.ofNat (UInt8.toNat (List.getD s (Int.toNat (Int.ofNat y1)) (0 : UInt8))) = (45 : Int))) = (false)) → ((((decide (Int.ofNat (UInt8.toNat (List.getD s (Int.toNat (Int.ofNat y1)) (0 : UInt8))) < (48 : Int))) = (true)) → ((nameB s) = (false))) ∧ (((decide (Int.ofNat (UInt8.toNat (List.getD s (Int.toNat (Int.ofNat y1)) (0 : UInt8))) < (48 : Int))) = (false)) → ((((decide ((57 : Int) < Int.ofNat (UInt8.toNat (List.getD s (Int.toNat (Int.ofNat y1)) (0 : UInt8))))) = (true)) → ((nameB s) = (false))) ∧ (((decide ((57 : Int) < Int.ofNat (UInt8.toNat (List.getD s (Int.toNat (Int.ofNat y1)) (0 : UInt8))))) = (false)) → (∃ y2 : Nat, (((y2 ≤ List.length s ∧ ((natAll (nameAt s) y2) = (true))) ∧ List.length s - y2 < List.length s - y1) ∧ (((true = true) ∧ (((s) = (s)) ∧ ((false = false) ∧ (((s) = (s)) ∧ ((((IntKind.i64) = (IntKind.i64)) ∧ ((Int.ofNat (List.length s)) = (Int.ofNat (List.length s)))) ∧ ((((IntKind.i64) = (IntKind.i64)) ∧ ((Int.ofNat y2) = (IntKind.wrap IntKind.i64 (Int.ofNat y1 + (1 : Int))))) ∧ True)))))) ∧ True)))))))))))) ∧ (((decide ((90 : Int) < Int.ofNat (UInt8.toNat (List.getD s (Int.toNat (Int.ofNat y1)) (0 : UInt8))))) = (false)) → (∃ y2 : Nat, (((y2 ≤ List.length s ∧ ((natAll (nameAt s) y2) = (true))) ∧ List.length s - y2 < List.length s - y1) ∧ (((true = true) ∧ (((s) = (s)) ∧ ((false = false) ∧ (((s) = (s)) ∧ ((((IntKind.i64) = (IntKind.i64)) ∧ ((Int.ofNat (List.length s)) = (Int.ofNat (List.length s)))) ∧ ((((IntKind.i64) = (IntKind.i64)) ∧ ((Int.ofNat y2) = (IntKind.wrap IntKind.i64 (Int.ofNat y1 + (1 : Int))))) ∧ True)))))) ∧ True)))))))) ∧ (((decide ((122 : Int) < Int.ofNat (UInt8.toNat (List.getD s (Int.toNat (Int.ofNat y1)) (0 : UInt8))))) = (false)) → (∃ y2 : Nat, (((y2 ≤ List.length s ∧ ((natAll (nameAt s) y2) = (true))) ∧ List.length s - y2 < List.length s - y1) ∧ (((true = true) ∧ (((s) = (s)) ∧ ((false = false) ∧ (((s) = (s)) ∧ ((((IntKind.i64) = (IntKind.i64)) ∧ ((Int.ofNat (List.length s)) = (Int.ofNat (List.length s)))) ∧ ((((IntKind.i64) = (IntKind.i64)) ∧ ((Int.ofNat y2) = (IntKind.wrap IntKind.i64 (Int.ofNat y1 + (1 : Int))))) ∧ True)))))) ∧ True)))))))) ∧ (((decide ((0 : Int) ≤ Int.ofNat y1) && decide (Int.ofNat y1 < (↑(List.length s) : Int))) = (false)) → False))) ∧ (((decide (Int.ofNat y1 < Int.ofNat (List.length s))) = (false)) → ((((!bytesEq s (Array.toList (ByteArray.data { data := #[] }))) = (true)) → ((nameB s) = (!decide ((12 : Int) < Int.ofNat (List.length s))))) ∧ (((!bytesEq s (Array.toList (ByteArray.data { data := #[] }))) = (false)) → ((nameB s) = (false))))))))))) := by kernel_rfl
  refine hvc.mpr ?_
  clear hvc
  have hl := Nat.le_of_ble_eq_true hc
  simp
  refine ⟨rfl, fun y hy ha => ⟨fun hlt => ⟨?_, hlt⟩, fun hge => ?_⟩⟩
  · have h1 := fun h => nameB_stop hlt h
    have h2 := fun h => nameB_go (by omega) hlt ha h
    rw [nameAt_iff] at h1 h2
    generalize (((s[y]?.getD 0).toNat : Nat) : Int) = c at h1 h2 ⊢
    generalize (∃ y2 : Nat, _) = B at h2 ⊢
    generalize nameB s = d at h1 ⊢
    intro _
    repeat' first | (refine And.intro ?_ ?_) | intro _
    all_goals first | exact h1 (by omega) | exact h2 (by omega)
  · obtain rfl : y = s.length := by omega
    rw [nameB, ha, Bool.true_and]
    cases s with
    | nil => simp [bytesEq]
    | cons a l =>
      simp [bytesEq]
      by_cases e : l.length ≤ 11
      · rw [decide_eq_true e, decide_eq_false (by omega)]; rfl
      · rw [decide_eq_false e, decide_eq_true (by omega)]; rfl
def IsNameS : List PT := [.one (.str)]
def IsNameC : List FD → Bool
  | [.str s] => Nat.ble s.length 1000
  | _ => false
def IsNameR : List FD → List FD
  | [.str s] => [.bool (nameB s)]
  | _ => []
def IsNameI (s : List UInt8) : Nat → AFam := fun i => match i with | 4 => ⟨Nat, fun _ => [{ι := Nat, G := fun x => x ≤ s.length ∧ natAll (nameAt s) x = true, μ := fun x => s.length - x, tl := fun x => [(0, .one (.ostr s)), (2, .one (.bool (.lit false))), (3, .one (.int IntKind.i64 (.tm (Int.ofNat x)))), (6, .one (.ostr s)), (7, .one (.int IntKind.i64 (.tm (Int.ofNat (List.length s))))), (8, .one (.bool (.at_ false (.tm (decide (Int.ofNat (List.length s) < (1 : Int))))))), (9, .one (.bool (.lit false))), (10, .one (.ostr s)), (11, .one (.int IntKind.i64 (.tm (Int.ofNat (List.length s))))), (12, .one (.bool (.at_ false (.tm (decide ((12 : Int) < Int.ofNat (List.length s))))))), (13, .one (.bool (.lit false)))], bl := fun _ => [], nx := (1 : Nat)}]⟩ | _ => ⟨Nat, fun _ => []⟩
abbrev qIsName3 (s : List UInt8) : Prop := (((s) = (s)) ∧ ((((IntKind.i64) = (IntKind.i64)) ∧ ((Int.ofNat (List.length s)) = (Int.ofNat (List.length s)))) ∧ (((decide (Int.ofNat (List.length s) < (1 : Int))) = (decide (Int.ofNat (List.length s) < (1 : Int)))) ∧ ((false = false) ∧ (((s) = (s)) ∧ ((((IntKind.i64) = (IntKind.i64)) ∧ ((Int.ofNat (List.length s)) = (Int.ofNat (List.length s)))) ∧ (((decide ((12 : Int) < Int.ofNat (List.length s))) = (decide ((12 : Int) < Int.ofNat (List.length s)))) ∧ ((false = false) ∧ True))))))))
abbrev qIsName0 (s : List UInt8) (y1 : Nat) : Prop := (∃ y2 : Nat, (((y2 ≤ List.length s ∧ ((natAll (nameAt s) y2) = (true))) ∧ List.length s - y2 < List.length s - y1) ∧ (((true = true) ∧ (((s) = (s)) ∧ ((false = false) ∧ ((((IntKind.i64) = (IntKind.i64)) ∧ ((Int.ofNat y2) = (IntKind.wrap IntKind.i64 (Int.ofNat y1 + (1 : Int))))) ∧ (qIsName3 s))))) ∧ True)))
abbrev qIsName1 (s : List UInt8) (y1 : Nat) : Prop := ((((decide (Int.ofNat y1 = (0 : Int))) = (true)) → ((nameB s) = (false))) ∧ (((decide (Int.ofNat y1 = (0 : Int))) = (false)) → ((((decide (Int.ofNat (UInt8.toNat (List.getD s (Int.toNat (Int.ofNat y1)) (0 : UInt8))) = (45 : Int))) = (true)) → (qIsName0 s y1)) ∧ (((decide (Int.ofNat (UInt8.toNat (List.getD s (Int.toNat (Int.ofNat y1)) (0 : UInt8))) = (45 : Int))) = (false)) → ((((decide (Int.ofNat (UInt8.toNat (List.getD s (Int.toNat (Int.ofNat y1)) (0 : UInt8))) < (48 : Int))) = (true)) → ((nameB s) = (false))) ∧ (((decide (Int.ofNat (UInt8.toNat (List.getD s (Int.toNat (Int.ofNat y1)) (0 : UInt8))) < (48 : Int))) = (false)) → ((((decide ((57 : Int) < Int.ofNat (UInt8.toNat (List.getD s (Int.toNat (Int.ofNat y1)) (0 : UInt8))))) = (true)) → ((nameB s) = (false))) ∧ (((decide ((57 : Int) < Int.ofNat (UInt8.toNat (List.getD s (Int.toNat (Int.ofNat y1)) (0 : UInt8))))) = (false)) → (qIsName0 s y1)))))))))
abbrev qIsName2 (s : List UInt8) (y1 : Nat) : Prop := ((((decide (Int.ofNat (UInt8.toNat (List.getD s (Int.toNat (Int.ofNat y1)) (0 : UInt8))) < (65 : Int))) = (true)) → (qIsName1 s y1)) ∧ (((decide (Int.ofNat (UInt8.toNat (List.getD s (Int.toNat (Int.ofNat y1)) (0 : UInt8))) < (65 : Int))) = (false)) → ((((decide ((90 : Int) < Int.ofNat (UInt8.toNat (List.getD s (Int.toNat (Int.ofNat y1)) (0 : UInt8))))) = (true)) → (qIsName1 s y1)) ∧ (((decide ((90 : Int) < Int.ofNat (UInt8.toNat (List.getD s (Int.toNat (Int.ofNat y1)) (0 : UInt8))))) = (false)) → (qIsName0 s y1)))))
theorem IsName_ok : FnOk (mkR smE gs3) Try.prog η0 83 (FI.of Try.f83 true) IsNameS (.one .bool) IsNameC IsNameR := by
  refine fnOk_of0 smE_ok gs3_ok Try.fok83 (fun fds => match fds with | [.str s] => IsNameI s | _ => alts fun _ => []) ?_
  intro fds hf hc
  obtain ⟨s, ds0, rfl, hf1⟩ := hf.str
  obtain rfl := hf1.nil
  have hc : (Nat.ble s.length 1000) = true := hc
  have hvc : (vcF smE gs3 (FI.of Try.f83 true) IsNameS (.one .bool) (IsNameI s) noR [.str s] (IsNameR [.str s])) =
    ((true = true) ∧ ((((decide (Int.ofNat (List.length s) < (1 : Int))) = (true)) → ((nameB s) = (false))) ∧ (((decide (Int.ofNat (List.length s) < (1 : Int))) = (false)) → ((((decide ((12 : Int) < Int.ofNat (List.length s))) = (true)) → ((nameB s) = (false))) ∧ (((decide ((12 : Int) < Int.ofNat (List.length s))) = (false)) → (∃ y0 : Nat, ((∃ y1 : Nat, (((y1 ≤ List.length s ∧ ((natAll (nameAt s) y1) = (true))) ∧ True) ∧ (((true = true) ∧ (((s) = (s)) ∧ ((false = false) ∧ ((((IntKind.i64) = (IntKind.i64)) ∧ ((Int.ofNat y1) = ((0 : Int)))) ∧ (qIsName3 s))))) ∧ True))) ∧ (∀ y1 : Nat, ((y1 ≤ List.length s ∧ ((natAll (nameAt s) y1) = (true))) → ((((decide (Int.ofNat y1 < Int.ofNat (List.length s))) = (true)) → ((((decide ((0 : Int) ≤ Int.ofNat y1) && decide (Int.ofNat y1 < (↑(List.length s) : Int))) = (true)) → ((((decide (Int.ofNat (UInt8.toNat (List.getD s (Int.toNat (Int.ofNat y1)) (0 : UInt8))) < (97 : Int))) = (true)) → (qIsName2 s y1)) ∧ (((decide (Int.ofNat (UInt8.toNat (List.getD s (Int.toNat (Int.ofNat y1)) (0 : UInt8))) < (97 : Int))) = (false)) → ((((decide ((122 : Int) < Int.ofNat (UInt8.toNat (List.getD s (Int.toNat (Int.ofNat y1)) (0 : UInt8))))) = (true)) → (qIsName2 s y1)) ∧ (((decide ((122 : Int) < Int.ofNat (UInt8.toNat (List.getD s (Int.toNat (Int.ofNat y1)) (0 : UInt8))))) = (false)) → (qIsName0 s y1)))))) ∧ (((decide ((0 : Int) ≤ Int.ofNat y1) && decide (Int.ofNat y1 < (↑(List.length s) : Int))) = (false)) → False))) ∧ (((decide (Int.ofNat y1 < Int.ofNat (List.length s))) = (false)) → ((nameB s) = (true))))))))))))) := by kernel_rfl
  refine hvc.mpr ?_
  clear hvc
  dsimp only [qIsName3, qIsName0, qIsName1, qIsName2]
  have hl := Nat.le_of_ble_eq_true hc
  simp
  refine ⟨fun h => by simp [nameB]; omega, fun h => ⟨fun h' => by simp [nameB]; omega, fun h' => ?_⟩⟩
  refine ⟨rfl, fun y hy ha => ⟨fun hlt => ⟨?_, hlt⟩, fun hge => ?_⟩⟩
  · have h1 := fun h => nameB_stop hlt h
    have h2 := fun h => nameB_go (by omega) hlt ha h
    rw [nameAt_iff] at h1 h2
    generalize (((s[y]?.getD 0).toNat : Nat) : Int) = c at h1 h2 ⊢
    generalize (∃ y2 : Nat, _) = B at h2 ⊢
    generalize nameB s = d at h1 ⊢
    intro _
    repeat' first | (refine And.intro ?_ ?_) | intro _
    all_goals first | exact h1 (by omega) | exact h2 (by omega)
  · obtain rfl : y = s.length := by omega
    rw [nameB, ha]
    simp
    omega
end
end Go.Ex

