/-
 Contracts: IndexFunc and ContainsFunc over closures that capture nothing.
-/
import Derived.Test.YtdpabnfcfakjeaaLwFd
/-
 Contracts: checks of a rack, a flow, a part.
-/

namespace Go.Ex
open Go Go.Proofs Go.RowKit
noncomputable section

def sm3 : T Smf := (T.set sm2 113 (some (gFd LO (.one (.int .i64)) gM LP)))
theorem fX : Tab fK sm3 := (Tab.set LN (by kernel_rfl) (aW LN dH RQ rfl))
def aX (hi n : Int) : Bool := !(decide (0 ≤ n) && decide (n ≤ hi))
theorem gE (p : Nat → Bool) (n x : Nat) : bQ p (n + 1) x = bif p x then (x : Int) else bQ p n (x + 1) := rfl
def qU : List PT := [.one (.list [.int .i64])]
def mX : Clo := (87, [])
def z6 : List FD → List FD → Bool
 | [.list _ _ _], [] => true
 | _, _ => false
def qV : List FD → List FD → List FD
 | [.list _ na fa], [] => [.int .i64 (bQ (fun i => aX 500000000 (fa i 0).i) na 0)]
 | _, _ => []
def z7 (na : Nat) (fa : Nat → Nat → FD) : Nat → b9 := aZ (fun _ => [{ι := Nat, G := fun x => x ≤ na ∧ bQ (fun i => aX 500000000 (fa i 0).i) (na - x) x = bQ (fun i => aX 500000000 (fa i 0).i) na 0, μ := fun x => na - x, tl := fun x => [(0, .one (.fz (.root 0 0) (FD.list [Sh.int IntKind.i64] na fa))), (1, .one (.fn 87 [])), (6, .one (.fz (.root 0 0) (FD.list [Sh.int IntKind.i64] na fa))), (7, .one (.int IntKind.i64 (.tm (Int.ofNat na)))), (8, .one (.int IntKind.i64 (.tm (Int.ofNat x))))], bl := fun _ => [], nx := 1}])
theorem FG : qH 139 (mM qU mX (.one (.int .i64)) z6 qV) := by
 refine kN fX dH Try.fok139 (fun fds bds => match fds, bds with | [.list _ na fa], [] => z7 na fa | _, _ => aZ fun _ => []) rfl rfl ?_
 intro fds bds hf hb hc
 obtain ⟨na, fa, ds0, rfl, ga, hf1⟩ := hf.list
 obtain rfl := hf1.nil
 obtain rfl := hb.nil
 have hc : (true) = true := hc
 have hvc : (vcH sm3 gs0 (FI.of Try.f139 true) qU mX (.one (.int .i64)) (z7 na fa) [.list [.int .i64] na fa] [] (qV [.list [.int .i64] na fa] [])) =
  ((true = true) ∧ (∃ y0 : Nat, ((∃ y1 : Nat, (((y1 ≤ na ∧ ((bQ (fun (i : Nat) => aX (500000000 : Int) (FD.i (fa i (0 : Nat)))) (na - y1) y1) = (bQ (fun (i : Nat) => aX (500000000 : Int) (FD.i (fa i (0 : Nat)))) na (0 : Nat)))) ∧ True) ∧ (((true = true) ∧ ((((Ref.root (0) (0)) = (Ref.root (0) (0))) ∧ (((FD.list [Sh.int IntKind.i64] na fa) = (FD.list [Sh.int IntKind.i64] na fa)) ∧ (true = true))) ∧ (((((87 : FuncId)) = (Prod.fst mX)) ∧ True) ∧ ((((Ref.root (0) (0)) = (Ref.root (0) (0))) ∧ (((FD.list [Sh.int IntKind.i64] na fa) = (FD.list [Sh.int IntKind.i64] na fa)) ∧ (true = true))) ∧ ((((IntKind.i64) = (IntKind.i64)) ∧ ((Int.ofNat na) = (Int.ofNat na))) ∧ ((((IntKind.i64) = (IntKind.i64)) ∧ ((Int.ofNat y1) = ((0 : Int)))) ∧ True)))))) ∧ True))) ∧ (∀ y1 : Nat, ((y1 ≤ na ∧ ((bQ (fun (i : Nat) => aX (500000000 : Int) (FD.i (fa i (0 : Nat)))) (na - y1) y1) = (bQ (fun (i : Nat) => aX (500000000 : Int) (FD.i (fa i (0 : Nat)))) na (0 : Nat)))) → ((((decide (Int.ofNat y1 < Int.ofNat na)) = (true)) → ((((decide ((0 : Int) ≤ Int.ofNat y1) && decide (Int.ofNat y1 < (↑na : Int))) = (true)) → (((true = true) → ((((decide ((0 : Int) ≤ FD.i (fa (Int.toNat (Int.ofNat y1)) (0 : Nat))) && decide (FD.i (fa (Int.toNat (Int.ofNat y1)) (0 : Nat)) ≤ (500000000 : Int))) = (false)) → (((IntKind.i64) = (IntKind.i64)) ∧ ((bQ (fun (i : Nat) => aX (500000000 : Int) (FD.i (fa i (0 : Nat)))) na (0 : Nat)) = (Int.ofNat y1)))) ∧ (((decide ((0 : Int) ≤ FD.i (fa (Int.toNat (Int.ofNat y1)) (0 : Nat))) && decide (FD.i (fa (Int.toNat (Int.ofNat y1)) (0 : Nat)) ≤ (500000000 : Int))) = (true)) → (∃ y2 : Nat, (((y2 ≤ na ∧ ((bQ (fun (i : Nat) => aX (500000000 : Int) (FD.i (fa i (0 : Nat)))) (na - y2) y2) = (bQ (fun (i : Nat) => aX (500000000 : Int) (FD.i (fa i (0 : Nat)))) na (0 : Nat)))) ∧ na - y2 < na - y1) ∧ (((true = true) ∧ ((((Ref.root (0) (0)) = (Ref.root (0) (0))) ∧ (((FD.list [Sh.int IntKind.i64] na fa) = (FD.list [Sh.int IntKind.i64] na fa)) ∧ (true = true))) ∧ (((((87 : FuncId)) = ((87 : FuncId))) ∧ True) ∧ ((((Ref.root (0) (0)) = (Ref.root (0) (0))) ∧ (((FD.list [Sh.int IntKind.i64] na fa) = (FD.list [Sh.int IntKind.i64] na fa)) ∧ (true = true))) ∧ ((((IntKind.i64) = (IntKind.i64)) ∧ ((Int.ofNat na) = (Int.ofNat na))) ∧ ((((IntKind.i64) = (IntKind.i64)) ∧ ((Int.ofNat y2) = (IntKind.wrap IntKind.i64 (Int.ofNat y1 + (1 : Int))))) ∧ True)))))) ∧ True)))))) ∧ ((true = false) → False))) ∧ (((decide ((0 : Int) ≤ Int.ofNat y1) && decide (Int.ofNat y1 < (↑na : Int))) = (false)) → False))) ∧ (((decide (Int.ofNat y1 < Int.ofNat na)) = (false)) → (((IntKind.i64) = (IntKind.i64)) ∧ ((bQ (fun (i : Nat) => aX (500000000 : Int) (FD.i (fa i (0 : Nat)))) na (0 : Nat)) = ((-1 : Int))))))))))) := by kernel_rfl
 refine hvc.mpr ?_
 clear hvc
 have hl := ga.len
 have hl' : maxLen = 9223372036854775807 := rfl
 simp
 refine ⟨rfl, fun x hx he => ⟨fun h => ⟨fun _ => ⟨fun ho => ?_, fun h0 h1 => ⟨x + 1, ⟨⟨by omega, ?_⟩, by omega⟩, ?_⟩⟩, h⟩, fun h => ?_⟩⟩
 ·rw [← he, show na - x = na - (x + 1) + 1 by omega, gE, show aX 500000000 (fa x 0).i = true by simp [aX]; omega]
  rfl
 ·rw [← he, show na - x = na - (x + 1) + 1 by omega, gE, show aX 500000000 (fa x 0).i = false by simp [aX]; omega]
  rfl
 ·rw [aQ (by omega) (by omega)]
  rfl
 ·rw [← he, show na - x = 0 by omega]
  rfl
def z8 : List PT := [.one (.list [.int .i64])]
def sU : Clo := (114, [])
def IP : List FD → List FD → Bool
 | [.list _ _ _], [] => true
 | _, _ => false
def z9 : List FD → List FD → List FD
 | [.list _ na fa], [] => [.int .i64 (bQ (fun i => aX 100 (fa i 0).i) na 0)]
 | _, _ => []
def IQ (na : Nat) (fa : Nat → Nat → FD) : Nat → b9 := aZ (fun _ => [{ι := Nat, G := fun x => x ≤ na ∧ bQ (fun i => aX 100 (fa i 0).i) (na - x) x = bQ (fun i => aX 100 (fa i 0).i) na 0, μ := fun x => na - x, tl := fun x => [(0, .one (.fz (.root 0 0) (FD.list [Sh.int IntKind.i64] na fa))), (1, .one (.fn 114 [])), (6, .one (.fz (.root 0 0) (FD.list [Sh.int IntKind.i64] na fa))), (7, .one (.int IntKind.i64 (.tm (Int.ofNat na)))), (8, .one (.int IntKind.i64 (.tm (Int.ofNat x))))], bl := fun _ => [], nx := 1}])
theorem LR : qH 139 (mM z8 sU (.one (.int .i64)) IP z9) := by
 refine kN fX dH Try.fok139 (fun fds bds => match fds, bds with | [.list _ na fa], [] => IQ na fa | _, _ => aZ fun _ => []) rfl rfl ?_
 intro fds bds hf hb hc
 obtain ⟨na, fa, ds0, rfl, ga, hf1⟩ := hf.list
 obtain rfl := hf1.nil
 obtain rfl := hb.nil
 have hc : (true) = true := hc
 have hvc : (vcH sm3 gs0 (FI.of Try.f139 true) z8 sU (.one (.int .i64)) (IQ na fa) [.list [.int .i64] na fa] [] (z9 [.list [.int .i64] na fa] [])) =
  ((true = true) ∧ (∃ y0 : Nat, ((∃ y1 : Nat, (((y1 ≤ na ∧ ((bQ (fun (i : Nat) => aX (100 : Int) (FD.i (fa i (0 : Nat)))) (na - y1) y1) = (bQ (fun (i : Nat) => aX (100 : Int) (FD.i (fa i (0 : Nat)))) na (0 : Nat)))) ∧ True) ∧ (((true = true) ∧ ((((Ref.root (0) (0)) = (Ref.root (0) (0))) ∧ (((FD.list [Sh.int IntKind.i64] na fa) = (FD.list [Sh.int IntKind.i64] na fa)) ∧ (true = true))) ∧ (((((114 : FuncId)) = (Prod.fst sU)) ∧ True) ∧ ((((Ref.root (0) (0)) = (Ref.root (0) (0))) ∧ (((FD.list [Sh.int IntKind.i64] na fa) = (FD.list [Sh.int IntKind.i64] na fa)) ∧ (true = true))) ∧ ((((IntKind.i64) = (IntKind.i64)) ∧ ((Int.ofNat na) = (Int.ofNat na))) ∧ ((((IntKind.i64) = (IntKind.i64)) ∧ ((Int.ofNat y1) = ((0 : Int)))) ∧ True)))))) ∧ True))) ∧ (∀ y1 : Nat, ((y1 ≤ na ∧ ((bQ (fun (i : Nat) => aX (100 : Int) (FD.i (fa i (0 : Nat)))) (na - y1) y1) = (bQ (fun (i : Nat) => aX (100 : Int) (FD.i (fa i (0 : Nat)))) na (0 : Nat)))) → ((((decide (Int.ofNat y1 < Int.ofNat na)) = (true)) → ((((decide ((0 : Int) ≤ Int.ofNat y1) && decide (Int.ofNat y1 < (↑na : Int))) = (true)) → (((true = true) → ((((decide ((0 : Int) ≤ FD.i (fa (Int.toNat (Int.ofNat y1)) (0 : Nat))) && decide (FD.i (fa (Int.toNat (Int.ofNat y1)) (0 : Nat)) ≤ (100 : Int))) = (false)) → (((IntKind.i64) = (IntKind.i64)) ∧ ((bQ (fun (i : Nat) => aX (100 : Int) (FD.i (fa i (0 : Nat)))) na (0 : Nat)) = (Int.ofNat y1)))) ∧ (((decide ((0 : Int) ≤ FD.i (fa (Int.toNat (Int.ofNat y1)) (0 : Nat))) && decide (FD.i (fa (Int.toNat (Int.ofNat y1)) (0 : Nat)) ≤ (100 : Int))) = (true)) → (∃ y2 : Nat, (((y2 ≤ na ∧ ((bQ (fun (i : Nat) => aX (100 : Int) (FD.i (fa i (0 : Nat)))) (na - y2) y2) = (bQ (fun (i : Nat) => aX (100 : Int) (FD.i (fa i (0 : Nat)))) na (0 : Nat)))) ∧ na - y2 < na - y1) ∧ (((true = true) ∧ ((((Ref.root (0) (0)) = (Ref.root (0) (0))) ∧ (((FD.list [Sh.int IntKind.i64] na fa) = (FD.list [Sh.int IntKind.i64] na fa)) ∧ (true = true))) ∧ (((((114 : FuncId)) = ((114 : FuncId))) ∧ True) ∧ ((((Ref.root (0) (0)) = (Ref.root (0) (0))) ∧ (((FD.list [Sh.int IntKind.i64] na fa) = (FD.list [Sh.int IntKind.i64] na fa)) ∧ (true = true))) ∧ ((((IntKind.i64) = (IntKind.i64)) ∧ ((Int.ofNat na) = (Int.ofNat na))) ∧ ((((IntKind.i64) = (IntKind.i64)) ∧ ((Int.ofNat y2) = (IntKind.wrap IntKind.i64 (Int.ofNat y1 + (1 : Int))))) ∧ True)))))) ∧ True)))))) ∧ ((true = false) → False))) ∧ (((decide ((0 : Int) ≤ Int.ofNat y1) && decide (Int.ofNat y1 < (↑na : Int))) = (false)) → False))) ∧ (((decide (Int.ofNat y1 < Int.ofNat na)) = (false)) → (((IntKind.i64) = (IntKind.i64)) ∧ ((bQ (fun (i : Nat) => aX (100 : Int) (FD.i (fa i (0 : Nat)))) na (0 : Nat)) = ((-1 : Int))))))))))) := by kernel_rfl
 refine hvc.mpr ?_
 clear hvc
 have hl := ga.len
 have hl' : maxLen = 9223372036854775807 := rfl
 simp
 refine ⟨rfl, fun x hx he => ⟨fun h => ⟨fun _ => ⟨fun ho => ?_, fun h0 h1 => ⟨x + 1, ⟨⟨by omega, ?_⟩, by omega⟩, ?_⟩⟩, h⟩, fun h => ?_⟩⟩
 ·rw [← he, show na - x = na - (x + 1) + 1 by omega, gE, show aX 100 (fa x 0).i = true by simp [aX]; omega]
  rfl
 ·rw [← he, show na - x = na - (x + 1) + 1 by omega, gE, show aX 100 (fa x 0).i = false by simp [aX]; omega]
  rfl
 ·rw [aQ (by omega) (by omega)]
  rfl
 ·rw [← he, show na - x = 0 by omega]
  rfl
def t9 : List PT := [.one (.list [.int .i64])]
def o9 : Clo := (98, [])
def C7 : List FD → List FD → Bool
 | [.list _ _ _], [] => true
 | _, _ => false
def uA : List FD → List FD → List FD
 | [.list _ na fa], [] => [.int .i64 (bQ (fun i => aX 2 (fa i 0).i) na 0)]
 | _, _ => []
def C8 (na : Nat) (fa : Nat → Nat → FD) : Nat → b9 := aZ (fun _ => [{ι := Nat, G := fun x => x ≤ na ∧ bQ (fun i => aX 2 (fa i 0).i) (na - x) x = bQ (fun i => aX 2 (fa i 0).i) na 0, μ := fun x => na - x, tl := fun x => [(0, .one (.fz (.root 0 0) (FD.list [Sh.int IntKind.i64] na fa))), (1, .one (.fn 98 [])), (6, .one (.fz (.root 0 0) (FD.list [Sh.int IntKind.i64] na fa))), (7, .one (.int IntKind.i64 (.tm (Int.ofNat na)))), (8, .one (.int IntKind.i64 (.tm (Int.ofNat x))))], bl := fun _ => [], nx := 1}])
theorem IR : qH 139 (mM t9 o9 (.one (.int .i64)) C7 uA) := by
 refine kN fX dH Try.fok139 (fun fds bds => match fds, bds with | [.list _ na fa], [] => C8 na fa | _, _ => aZ fun _ => []) rfl rfl ?_
 intro fds bds hf hb hc
 obtain ⟨na, fa, ds0, rfl, ga, hf1⟩ := hf.list
 obtain rfl := hf1.nil
 obtain rfl := hb.nil
 have hc : (true) = true := hc
 have hvc : (vcH sm3 gs0 (FI.of Try.f139 true) t9 o9 (.one (.int .i64)) (C8 na fa) [.list [.int .i64] na fa] [] (uA [.list [.int .i64] na fa] [])) =
  ((true = true) ∧ (∃ y0 : Nat, ((∃ y1 : Nat, (((y1 ≤ na ∧ ((bQ (fun (i : Nat) => aX (2 : Int) (FD.i (fa i (0 : Nat)))) (na - y1) y1) = (bQ (fun (i : Nat) => aX (2 : Int) (FD.i (fa i (0 : Nat)))) na (0 : Nat)))) ∧ True) ∧ (((true = true) ∧ ((((Ref.root (0) (0)) = (Ref.root (0) (0))) ∧ (((FD.list [Sh.int IntKind.i64] na fa) = (FD.list [Sh.int IntKind.i64] na fa)) ∧ (true = true))) ∧ (((((98 : FuncId)) = (Prod.fst o9)) ∧ True) ∧ ((((Ref.root (0) (0)) = (Ref.root (0) (0))) ∧ (((FD.list [Sh.int IntKind.i64] na fa) = (FD.list [Sh.int IntKind.i64] na fa)) ∧ (true = true))) ∧ ((((IntKind.i64) = (IntKind.i64)) ∧ ((Int.ofNat na) = (Int.ofNat na))) ∧ ((((IntKind.i64) = (IntKind.i64)) ∧ ((Int.ofNat y1) = ((0 : Int)))) ∧ True)))))) ∧ True))) ∧ (∀ y1 : Nat, ((y1 ≤ na ∧ ((bQ (fun (i : Nat) => aX (2 : Int) (FD.i (fa i (0 : Nat)))) (na - y1) y1) = (bQ (fun (i : Nat) => aX (2 : Int) (FD.i (fa i (0 : Nat)))) na (0 : Nat)))) → ((((decide (Int.ofNat y1 < Int.ofNat na)) = (true)) → ((((decide ((0 : Int) ≤ Int.ofNat y1) && decide (Int.ofNat y1 < (↑na : Int))) = (true)) → (((true = true) → ((((decide ((0 : Int) ≤ FD.i (fa (Int.toNat (Int.ofNat y1)) (0 : Nat))) && decide (FD.i (fa (Int.toNat (Int.ofNat y1)) (0 : Nat)) ≤ (2 : Int))) = (false)) → (((IntKind.i64) = (IntKind.i64)) ∧ ((bQ (fun (i : Nat) => aX (2 : Int) (FD.i (fa i (0 : Nat)))) na (0 : Nat)) = (Int.ofNat y1)))) ∧ (((decide ((0 : Int) ≤ FD.i (fa (Int.toNat (Int.ofNat y1)) (0 : Nat))) && decide (FD.i (fa (Int.toNat (Int.ofNat y1)) (0 : Nat)) ≤ (2 : Int))) = (true)) → (∃ y2 : Nat, (((y2 ≤ na ∧ ((bQ (fun (i : Nat) => aX (2 : Int) (FD.i (fa i (0 : Nat)))) (na - y2) y2) = (bQ (fun (i : Nat) => aX (2 : Int) (FD.i (fa i (0 : Nat)))) na (0 : Nat)))) ∧ na - y2 < na - y1) ∧ (((true = true) ∧ ((((Ref.root (0) (0)) = (Ref.root (0) (0))) ∧ (((FD.list [Sh.int IntKind.i64] na fa) = (FD.list [Sh.int IntKind.i64] na fa)) ∧ (true = true))) ∧ (((((98 : FuncId)) = ((98 : FuncId))) ∧ True) ∧ ((((Ref.root (0) (0)) = (Ref.root (0) (0))) ∧ (((FD.list [Sh.int IntKind.i64] na fa) = (FD.list [Sh.int IntKind.i64] na fa)) ∧ (true = true))) ∧ ((((IntKind.i64) = (IntKind.i64)) ∧ ((Int.ofNat na) = (Int.ofNat na))) ∧ ((((IntKind.i64) = (IntKind.i64)) ∧ ((Int.ofNat y2) = (IntKind.wrap IntKind.i64 (Int.ofNat y1 + (1 : Int))))) ∧ True)))))) ∧ True)))))) ∧ ((true = false) → False))) ∧ (((decide ((0 : Int) ≤ Int.ofNat y1) && decide (Int.ofNat y1 < (↑na : Int))) = (false)) → False))) ∧ (((decide (Int.ofNat y1 < Int.ofNat na)) = (false)) → (((IntKind.i64) = (IntKind.i64)) ∧ ((bQ (fun (i : Nat) => aX (2 : Int) (FD.i (fa i (0 : Nat)))) na (0 : Nat)) = ((-1 : Int))))))))))) := by kernel_rfl
 refine hvc.mpr ?_
 clear hvc
 have hl := ga.len
 have hl' : maxLen = 9223372036854775807 := rfl
 simp
 refine ⟨rfl, fun x hx he => ⟨fun h => ⟨fun _ => ⟨fun ho => ?_, fun h0 h1 => ⟨x + 1, ⟨⟨by omega, ?_⟩, by omega⟩, ?_⟩⟩, h⟩, fun h => ?_⟩⟩
 ·rw [← he, show na - x = na - (x + 1) + 1 by omega, gE, show aX 2 (fa x 0).i = true by simp [aX]; omega]
  rfl
 ·rw [← he, show na - x = na - (x + 1) + 1 by omega, gE, show aX 2 (fa x 0).i = false by simp [aX]; omega]
  rfl
 ·rw [aQ (by omega) (by omega)]
  rfl
 ·rw [← he, show na - x = 0 by omega]
  rfl
def AA : List PT := [.one (.list [.int .i64])]
def sV : Clo := (123, [])
def IT : List FD → List FD → Bool
 | [.list _ _ _], [] => true
 | _, _ => false
def AB : List FD → List FD → List FD
 | [.list _ na fa], [] => [.int .i64 (bQ (fun i => aX 100 (fa i 0).i) na 0)]
 | _, _ => []
def IU (na : Nat) (fa : Nat → Nat → FD) : Nat → b9 := aZ (fun _ => [{ι := Nat, G := fun x => x ≤ na ∧ bQ (fun i => aX 100 (fa i 0).i) (na - x) x = bQ (fun i => aX 100 (fa i 0).i) na 0, μ := fun x => na - x, tl := fun x => [(0, .one (.fz (.root 0 0) (FD.list [Sh.int IntKind.i64] na fa))), (1, .one (.fn 123 [])), (6, .one (.fz (.root 0 0) (FD.list [Sh.int IntKind.i64] na fa))), (7, .one (.int IntKind.i64 (.tm (Int.ofNat na)))), (8, .one (.int IntKind.i64 (.tm (Int.ofNat x))))], bl := fun _ => [], nx := 1}])
theorem LT : qH 139 (mM AA sV (.one (.int .i64)) IT AB) := by
 refine kN fX dH Try.fok139 (fun fds bds => match fds, bds with | [.list _ na fa], [] => IU na fa | _, _ => aZ fun _ => []) rfl rfl ?_
 intro fds bds hf hb hc
 obtain ⟨na, fa, ds0, rfl, ga, hf1⟩ := hf.list
 obtain rfl := hf1.nil
 obtain rfl := hb.nil
 have hc : (true) = true := hc
 have hvc : (vcH sm3 gs0 (FI.of Try.f139 true) AA sV (.one (.int .i64)) (IU na fa) [.list [.int .i64] na fa] [] (AB [.list [.int .i64] na fa] [])) =
  ((true = true) ∧ (∃ y0 : Nat, ((∃ y1 : Nat, (((y1 ≤ na ∧ ((bQ (fun (i : Nat) => aX (100 : Int) (FD.i (fa i (0 : Nat)))) (na - y1) y1) = (bQ (fun (i : Nat) => aX (100 : Int) (FD.i (fa i (0 : Nat)))) na (0 : Nat)))) ∧ True) ∧ (((true = true) ∧ ((((Ref.root (0) (0)) = (Ref.root (0) (0))) ∧ (((FD.list [Sh.int IntKind.i64] na fa) = (FD.list [Sh.int IntKind.i64] na fa)) ∧ (true = true))) ∧ (((((123 : FuncId)) = (Prod.fst sV)) ∧ True) ∧ ((((Ref.root (0) (0)) = (Ref.root (0) (0))) ∧ (((FD.list [Sh.int IntKind.i64] na fa) = (FD.list [Sh.int IntKind.i64] na fa)) ∧ (true = true))) ∧ ((((IntKind.i64) = (IntKind.i64)) ∧ ((Int.ofNat na) = (Int.ofNat na))) ∧ ((((IntKind.i64) = (IntKind.i64)) ∧ ((Int.ofNat y1) = ((0 : Int)))) ∧ True)))))) ∧ True))) ∧ (∀ y1 : Nat, ((y1 ≤ na ∧ ((bQ (fun (i : Nat) => aX (100 : Int) (FD.i (fa i (0 : Nat)))) (na - y1) y1) = (bQ (fun (i : Nat) => aX (100 : Int) (FD.i (fa i (0 : Nat)))) na (0 : Nat)))) → ((((decide (Int.ofNat y1 < Int.ofNat na)) = (true)) → ((((decide ((0 : Int) ≤ Int.ofNat y1) && decide (Int.ofNat y1 < (↑na : Int))) = (true)) → (((true = true) → ((((decide ((0 : Int) ≤ FD.i (fa (Int.toNat (Int.ofNat y1)) (0 : Nat))) && decide (FD.i (fa (Int.toNat (Int.ofNat y1)) (0 : Nat)) ≤ (100 : Int))) = (false)) → (((IntKind.i64) = (IntKind.i64)) ∧ ((bQ (fun (i : Nat) => aX (100 : Int) (FD.i (fa i (0 : Nat)))) na (0 : Nat)) = (Int.ofNat y1)))) ∧ (((decide ((0 : Int) ≤ FD.i (fa (Int.toNat (Int.ofNat y1)) (0 : Nat))) && decide (FD.i (fa (Int.toNat (Int.ofNat y1)) (0 : Nat)) ≤ (100 : Int))) = (true)) → (∃ y2 : Nat, (((y2 ≤ na ∧ ((bQ (fun (i : Nat) => aX (100 : Int) (FD.i (fa i (0 : Nat)))) (na - y2) y2) = (bQ (fun (i : Nat) => aX (100 : Int) (FD.i (fa i (0 : Nat)))) na (0 : Nat)))) ∧ na - y2 < na - y1) ∧ (((true = true) ∧ ((((Ref.root (0) (0)) = (Ref.root (0) (0))) ∧ (((FD.list [Sh.int IntKind.i64] na fa) = (FD.list [Sh.int IntKind.i64] na fa)) ∧ (true = true))) ∧ (((((123 : FuncId)) = ((123 : FuncId))) ∧ True) ∧ ((((Ref.root (0) (0)) = (Ref.root (0) (0))) ∧ (((FD.list [Sh.int IntKind.i64] na fa) = (FD.list [Sh.int IntKind.i64] na fa)) ∧ (true = true))) ∧ ((((IntKind.i64) = (IntKind.i64)) ∧ ((Int.ofNat na) = (Int.ofNat na))) ∧ ((((IntKind.i64) = (IntKind.i64)) ∧ ((Int.ofNat y2) = (IntKind.wrap IntKind.i64 (Int.ofNat y1 + (1 : Int))))) ∧ True)))))) ∧ True)))))) ∧ ((true = false) → False))) ∧ (((decide ((0 : Int) ≤ Int.ofNat y1) && decide (Int.ofNat y1 < (↑na : Int))) = (false)) → False))) ∧ (((decide (Int.ofNat y1 < Int.ofNat na)) = (false)) → (((IntKind.i64) = (IntKind.i64)) ∧ ((bQ (fun (i : Nat) => aX (100 : Int) (FD.i (fa i (0 : Nat)))) na (0 : Nat)) = ((-1 : Int))))))))))) := by kernel_rfl
 refine hvc.mpr ?_
 clear hvc
 have hl := ga.len
 have hl' : maxLen = 9223372036854775807 := rfl
 simp
 refine ⟨rfl, fun x hx he => ⟨fun h => ⟨fun _ => ⟨fun ho => ?_, fun h0 h1 => ⟨x + 1, ⟨⟨by omega, ?_⟩, by omega⟩, ?_⟩⟩, h⟩, fun h => ?_⟩⟩
 ·rw [← he, show na - x = na - (x + 1) + 1 by omega, gE, show aX 100 (fa x 0).i = true by simp [aX]; omega]
  rfl
 ·rw [← he, show na - x = na - (x + 1) + 1 by omega, gE, show aX 100 (fa x 0).i = false by simp [aX]; omega]
  rfl
 ·rw [aQ (by omega) (by omega)]
  rfl
 ·rw [← he, show na - x = 0 by omega]
  rfl

def gs1 : G2 := (G2.setH gs0 139 (HI 87 (mM qU mX (.one (.int .i64)) z6 qV) (HI 114 (mM z8 sU (.one (.int .i64)) IP z9) (HI 98 (mM t9 o9 (.one (.int .i64)) C7 uA) (mM AA sV (.one (.int .i64)) IT AB)))))
theorem AC : eT gs1 := (eT.setH dH (by kernel_rfl) (o5 FG (o5 LR (o5 IR LT))))
def qW : List PT := [.one (.list [.int .i64])]
def qX : Clo := (87, [])
def AD : List FD → List FD → Bool
 | [.list _ _ _], [] => true
 | _, _ => false
def qY : List FD → List FD → List FD
 | [.list _ na fa], [] => [.bool (eO (fun i => aX 500000000 (fa i 0).i) na 0)]
 | _, _ => []
def AE (_na : Nat) (_fa : Nat → Nat → FD) : Nat → b9 := aZ (fun _ => [])
theorem FH : qH 86 (mM qW qX (.one .bool) AD qY) := by
 refine kN fX AC Try.fok86 (fun fds bds => match fds, bds with | [.list _ na fa], [] => AE na fa | _, _ => aZ fun _ => []) rfl rfl ?_
 intro fds bds hf hb hc
 obtain ⟨na, fa, ds0, rfl, ga, hf1⟩ := hf.list
 obtain rfl := hf1.nil
 obtain rfl := hb.nil
 have hc : (true) = true := hc
 have hvc : (vcH sm3 gs1 (FI.of Try.f86 true) qW qX (.one .bool) (AE na fa) [.list [.int .i64] na fa] [] (qY [.list [.int .i64] na fa] [])) =
  ((true = true) ∧ (((true = true) → ((eO (fun (i : Nat) => aX (500000000 : Int) (FD.i (fa i (0 : Nat)))) na (0 : Nat)) = (!decide (bQ (fun (i : Nat) => aX (500000000 : Int) (FD.i (fa i (0 : Nat)))) na (0 : Nat) < (0 : Int))))) ∧ ((true = false) → False))) := by kernel_rfl
 refine hvc.mpr ?_
 clear hvc
 have := lN (fun i => aX 500000000 (fa i 0).i) na 0
 simp
 rw [this, Bool.not_not]
def AF : List PT := [.one (.list [.int .i64])]
def AG : Clo := (114, [])
def IV : List FD → List FD → Bool
 | [.list _ _ _], [] => true
 | _, _ => false
def AH : List FD → List FD → List FD
 | [.list _ na fa], [] => [.bool (eO (fun i => aX 100 (fa i 0).i) na 0)]
 | _, _ => []
def IW (_na : Nat) (_fa : Nat → Nat → FD) : Nat → b9 := aZ (fun _ => [])
theorem LU : qH 86 (mM AF AG (.one .bool) IV AH) := by
 refine kN fX AC Try.fok86 (fun fds bds => match fds, bds with | [.list _ na fa], [] => IW na fa | _, _ => aZ fun _ => []) rfl rfl ?_
 intro fds bds hf hb hc
 obtain ⟨na, fa, ds0, rfl, ga, hf1⟩ := hf.list
 obtain rfl := hf1.nil
 obtain rfl := hb.nil
 have hc : (true) = true := hc
 have hvc : (vcH sm3 gs1 (FI.of Try.f86 true) AF AG (.one .bool) (IW na fa) [.list [.int .i64] na fa] [] (AH [.list [.int .i64] na fa] [])) =
  ((true = true) ∧ (((true = true) → ((eO (fun (i : Nat) => aX (100 : Int) (FD.i (fa i (0 : Nat)))) na (0 : Nat)) = (!decide (bQ (fun (i : Nat) => aX (100 : Int) (FD.i (fa i (0 : Nat)))) na (0 : Nat) < (0 : Int))))) ∧ ((true = false) → False))) := by kernel_rfl
 refine hvc.mpr ?_
 clear hvc
 have := lN (fun i => aX 100 (fa i 0).i) na 0
 simp
 rw [this, Bool.not_not]
def uB : List PT := [.one (.list [.int .i64])]
def uC : Clo := (98, [])
def C9 : List FD → List FD → Bool
 | [.list _ _ _], [] => true
 | _, _ => false
def uD : List FD → List FD → List FD
 | [.list _ na fa], [] => [.bool (eO (fun i => aX 2 (fa i 0).i) na 0)]
 | _, _ => []
def DA (_na : Nat) (_fa : Nat → Nat → FD) : Nat → b9 := aZ (fun _ => [])
theorem IX : qH 86 (mM uB uC (.one .bool) C9 uD) := by
 refine kN fX AC Try.fok86 (fun fds bds => match fds, bds with | [.list _ na fa], [] => DA na fa | _, _ => aZ fun _ => []) rfl rfl ?_
 intro fds bds hf hb hc
 obtain ⟨na, fa, ds0, rfl, ga, hf1⟩ := hf.list
 obtain rfl := hf1.nil
 obtain rfl := hb.nil
 have hc : (true) = true := hc
 have hvc : (vcH sm3 gs1 (FI.of Try.f86 true) uB uC (.one .bool) (DA na fa) [.list [.int .i64] na fa] [] (uD [.list [.int .i64] na fa] [])) =
  ((true = true) ∧ (((true = true) → ((eO (fun (i : Nat) => aX (2 : Int) (FD.i (fa i (0 : Nat)))) na (0 : Nat)) = (!decide (bQ (fun (i : Nat) => aX (2 : Int) (FD.i (fa i (0 : Nat)))) na (0 : Nat) < (0 : Int))))) ∧ ((true = false) → False))) := by kernel_rfl
 refine hvc.mpr ?_
 clear hvc
 have := lN (fun i => aX 2 (fa i 0).i) na 0
 simp
 rw [this, Bool.not_not]
def AI : List PT := [.one (.list [.int .i64])]
def AJ : Clo := (123, [])
def IY : List FD → List FD → Bool
 | [.list _ _ _], [] => true
 | _, _ => false
def AL : List FD → List FD → List FD
 | [.list _ na fa], [] => [.bool (eO (fun i => aX 100 (fa i 0).i) na 0)]
 | _, _ => []
def IZ (_na : Nat) (_fa : Nat → Nat → FD) : Nat → b9 := aZ (fun _ => [])
theorem LV : qH 86 (mM AI AJ (.one .bool) IY AL) := by
 refine kN fX AC Try.fok86 (fun fds bds => match fds, bds with | [.list _ na fa], [] => IZ na fa | _, _ => aZ fun _ => []) rfl rfl ?_
 intro fds bds hf hb hc
 obtain ⟨na, fa, ds0, rfl, ga, hf1⟩ := hf.list
 obtain rfl := hf1.nil
 obtain rfl := hb.nil
 have hc : (true) = true := hc
 have hvc : (vcH sm3 gs1 (FI.of Try.f86 true) AI AJ (.one .bool) (IZ na fa) [.list [.int .i64] na fa] [] (AL [.list [.int .i64] na fa] [])) =
  ((true = true) ∧ (((true = true) → ((eO (fun (i : Nat) => aX (100 : Int) (FD.i (fa i (0 : Nat)))) na (0 : Nat)) = (!decide (bQ (fun (i : Nat) => aX (100 : Int) (FD.i (fa i (0 : Nat)))) na (0 : Nat) < (0 : Int))))) ∧ ((true = false) → False))) := by kernel_rfl
 refine hvc.mpr ?_
 clear hvc
 have := lN (fun i => aX 100 (fa i 0).i) na 0
 simp
 rw [this, Bool.not_not]

def gs2 : G2 := (G2.setH gs1 86 (HI 87 (mM qW qX (.one .bool) AD qY) (HI 114 (mM AF AG (.one .bool) IV AH) (HI 98 (mM uB uC (.one .bool) C9 uD) (mM AI AJ (.one .bool) IY AL)))))
theorem bT : eT gs2 := (eT.setH AC (by kernel_rfl) (o5 FH (o5 LU (o5 IX LV))))
end
end Go.Ex


namespace Go.Ex
open Go Go.Proofs Go.RowKit
noncomputable section

/-- A rack's error. -/
def cV (st pl ho ge : Int) : Int :=
 if ((1 ≤ st ∧ st ≤ 24) ∧ (1 ≤ pl ∧ pl ≤ 8)) ∧ (1 ≤ ho ∧ ho ≤ 12) ∧ (0 ≤ ge ∧ ge < ho) then (if st.tmod pl = 0 then 0 else 13) else 2
def bW (pl ho p h : Int) : Int := if (0 ≤ p ∧ p ≤ IntKind.i64.wrap (pl - 1)) ∧ (0 ≤ h ∧ h ≤ IntKind.i64.wrap (ho - 1)) then 0 else 6
def bU (n : Int) : Int := if 0 ≤ n ∧ n ≤ 1000000 then 0 else 2

def qZ : List PT := [.agg [.int .i64, .int .i64, .int .i64, .int .i64]]
def AM : List FD → Bool
 | [.int _ _, .int _ _, .int _ _, .int _ _] => true
 | _ => false
def rA : List FD → List FD
 | [.int _ st, .int _ pl, .int _ ho, .int _ ge] => [.int .i64 (cV st pl ho ge)]
 | _ => []
def AN (_st : Int) (_pl : Int) (_ho : Int) (_ge : Int) : Nat → b9 := aZ (fun _ => [])
theorem FJ : dA (mkR sm3 gs2) Try.prog η0 46 (FI.of Try.f46 true) qZ (.one (.int .i64)) AM rA := by
 refine aM fX bT Try.fok46 (fun fds => match fds with | [.int _ st, .int _ pl, .int _ ho, .int _ ge] => AN st pl ho ge | _ => aZ fun _ => []) ?_
 intro fds hf hc
 obtain ⟨st, ds0, rfl, hf1⟩ := hf.int
 obtain ⟨pl, ds1, rfl, hf2⟩ := hf1.int
 obtain ⟨ho, ds2, rfl, hf3⟩ := hf2.int
 obtain ⟨ge, ds3, rfl, hf4⟩ := hf3.int
 obtain rfl := hf4.nil
 have hc : (true) = true := hc
 have hvc : (vcF sm3 gs2 (FI.of Try.f46 true) qZ (.one (.int .i64)) (AN st pl ho ge) noR [.int .i64 st, .int .i64 pl, .int .i64 ho, .int .i64 ge] (rA [.int .i64 st, .int .i64 pl, .int .i64 ho, .int .i64 ge])) =
  ((true = true) ∧ (((true = true) → ((((decide ((1 : Int) ≤ st) && decide (st ≤ (24 : Int))) = (true)) → (((true = true) → ((((decide ((1 : Int) ≤ pl) && decide (pl ≤ (8 : Int))) = (true)) → (((true = true) → ((((decide ((1 : Int) ≤ ho) && decide (ho ≤ (12 : Int))) = (true)) → (((true = true) → ((((decide ((0 : Int) ≤ ge) && decide (ge ≤ IntKind.wrap IntKind.i64 (ho - (1 : Int)))) = (false)) → (((IntKind.i64) = (IntKind.i64)) ∧ ((cV st pl ho ge) = ((2 : Int))))) ∧ (((decide ((0 : Int) ≤ ge) && decide (ge ≤ IntKind.wrap IntKind.i64 (ho - (1 : Int)))) = (true)) → ((((!decide (pl = (0 : Int))) = (true)) → ((((decide (Int.tmod st pl = (0 : Int))) = (false)) → (((IntKind.i64) = (IntKind.i64)) ∧ ((cV st pl ho ge) = ((13 : Int))))) ∧ (((decide (Int.tmod st pl = (0 : Int))) = (true)) → (((IntKind.i64) = (IntKind.i64)) ∧ ((cV st pl ho ge) = ((0 : Int))))))) ∧ (((!decide (pl = (0 : Int))) = (false)) → False))))) ∧ ((true = false) → False))) ∧ (((decide ((1 : Int) ≤ ho) && decide (ho ≤ (12 : Int))) = (false)) → (((IntKind.i64) = (IntKind.i64)) ∧ ((cV st pl ho ge) = ((2 : Int))))))) ∧ ((true = false) → False))) ∧ (((decide ((1 : Int) ≤ pl) && decide (pl ≤ (8 : Int))) = (false)) → (((IntKind.i64) = (IntKind.i64)) ∧ ((cV st pl ho ge) = ((2 : Int))))))) ∧ ((true = false) → False))) ∧ (((decide ((1 : Int) ≤ st) && decide (st ≤ (24 : Int))) = (false)) → (((IntKind.i64) = (IntKind.i64)) ∧ ((cV st pl ho ge) = ((2 : Int))))))) ∧ ((true = false) → False))) := by kernel_rfl
 refine hvc.mpr ?_
 clear hvc
 simp
 simp only [cV]
 refine ⟨fun a b => ⟨fun c d => ⟨fun e f => ?_, fun g => by rw [if_neg (by omega)]⟩, fun g => by rw [if_neg (by omega)]⟩, fun g => by rw [if_neg (by omega)]⟩
 rw [aQ (by omega) (by omega)]
 refine ⟨fun g => by rw [if_neg (by omega)], fun g1 g2 => ⟨fun _ => ⟨fun h => by rw [if_pos (by omega), if_neg h], fun h => by rw [if_pos (by omega), if_pos h]⟩, by omega⟩⟩
def AO : List PT := [.agg [.int .i64, .int .i64, .int .i64, .int .i64], .agg [.int .i64, .int .i64]]
def I0 : List FD → Bool
 | [.int _ _, .int _ _, .int _ _, .int _ _, .int _ _, .int _ _] => true
 | _ => false
def AP : List FD → List FD
 | [.int _ _, .int _ pl, .int _ ho, .int _ _, .int _ p, .int _ h] => [.int .i64 (bW pl ho p h)]
 | _ => []
def I1 (_st : Int) (_pl : Int) (_ho : Int) (_ge : Int) (_p : Int) (_h : Int) : Nat → b9 := aZ (fun _ => [])
theorem LW : dA (mkR sm3 gs2) Try.prog η0 110 (FI.of Try.f110 true) AO (.one (.int .i64)) I0 AP := by
 refine aM fX bT Try.fok110 (fun fds => match fds with | [.int _ st, .int _ pl, .int _ ho, .int _ ge, .int _ p, .int _ h] => I1 st pl ho ge p h | _ => aZ fun _ => []) ?_
 intro fds hf hc
 obtain ⟨st, ds0, rfl, hf1⟩ := hf.int
 obtain ⟨pl, ds1, rfl, hf2⟩ := hf1.int
 obtain ⟨ho, ds2, rfl, hf3⟩ := hf2.int
 obtain ⟨ge, ds3, rfl, hf4⟩ := hf3.int
 obtain ⟨p, ds4, rfl, hf5⟩ := hf4.int
 obtain ⟨h, ds5, rfl, hf6⟩ := hf5.int
 obtain rfl := hf6.nil
 have hc : (true) = true := hc
 have hvc : (vcF sm3 gs2 (FI.of Try.f110 true) AO (.one (.int .i64)) (I1 st pl ho ge p h) noR [.int .i64 st, .int .i64 pl, .int .i64 ho, .int .i64 ge, .int .i64 p, .int .i64 h] (AP [.int .i64 st, .int .i64 pl, .int .i64 ho, .int .i64 ge, .int .i64 p, .int .i64 h])) =
  ((true = true) ∧ (((true = true) → ((((decide ((0 : Int) ≤ p) && decide (p ≤ IntKind.wrap IntKind.i64 (pl - (1 : Int)))) = (true)) → (((true = true) → ((((decide ((0 : Int) ≤ h) && decide (h ≤ IntKind.wrap IntKind.i64 (ho - (1 : Int)))) = (false)) → (((IntKind.i64) = (IntKind.i64)) ∧ ((bW pl ho p h) = ((6 : Int))))) ∧ (((decide ((0 : Int) ≤ h) && decide (h ≤ IntKind.wrap IntKind.i64 (ho - (1 : Int)))) = (true)) → (((IntKind.i64) = (IntKind.i64)) ∧ ((bW pl ho p h) = ((0 : Int))))))) ∧ ((true = false) → False))) ∧ (((decide ((0 : Int) ≤ p) && decide (p ≤ IntKind.wrap IntKind.i64 (pl - (1 : Int)))) = (false)) → (((IntKind.i64) = (IntKind.i64)) ∧ ((bW pl ho p h) = ((6 : Int))))))) ∧ ((true = false) → False))) := by kernel_rfl
 refine hvc.mpr ?_
 clear hvc
 simp
 simp only [bW]
 refine ⟨fun a b => ⟨fun g => by rw [if_neg (by omega)], fun c d => by rw [if_pos ⟨⟨a, b⟩, c, d⟩]⟩, fun g => by rw [if_neg (by omega)]⟩
def uE : List PT := [.one (.int .i64)]
def DB : List FD → Bool
 | [.int _ _] => true
 | _ => false
def uF : List FD → List FD
 | [.int _ n] => [.int .i64 (bU n)]
 | _ => []
def DC (_n : Int) : Nat → b9 := aZ (fun _ => [])
theorem I2 : dA (mkR sm3 gs2) Try.prog η0 111 (FI.of Try.f111 true) uE (.one (.int .i64)) DB uF := by
 refine aM fX bT Try.fok111 (fun fds => match fds with | [.int _ n] => DC n | _ => aZ fun _ => []) ?_
 intro fds hf hc
 obtain ⟨n, ds0, rfl, hf1⟩ := hf.int
 obtain rfl := hf1.nil
 have hc : (true) = true := hc
 have hvc : (vcF sm3 gs2 (FI.of Try.f111 true) uE (.one (.int .i64)) (DC n) noR [.int .i64 n] (uF [.int .i64 n])) =
  ((true = true) ∧ (((true = true) → ((((decide ((0 : Int) ≤ n) && decide (n ≤ (1000000 : Int))) = (false)) → (((IntKind.i64) = (IntKind.i64)) ∧ ((bU n) = ((2 : Int))))) ∧ (((decide ((0 : Int) ≤ n) && decide (n ≤ (1000000 : Int))) = (true)) → (((IntKind.i64) = (IntKind.i64)) ∧ ((bU n) = ((0 : Int))))))) ∧ ((true = false) → False))) := by kernel_rfl
 refine hvc.mpr ?_
 clear hvc
 simp
 simp only [bU]
 refine ⟨fun g => by rw [if_neg (by omega)], fun a b => by rw [if_pos ⟨a, b⟩]⟩

def sm4 : T Smf := (T.set (T.set (T.set sm3 46 (some (gFd qZ (.one (.int .i64)) AM rA))) 110 (some (gFd AO (.one (.int .i64)) I0 AP))) 111 (some (gFd uE (.one (.int .i64)) DB uF)))
theorem LX : Tab fK sm4 := (Tab.set (Tab.set (Tab.set fX (by kernel_rfl) (aW fX bT FJ rfl)) (by kernel_rfl) (aW fX bT LW rfl)) (by kernel_rfl) (aW fX bT I2 rfl))
end
end Go.Ex

