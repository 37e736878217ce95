/-
  Contracts: IndexFunc and ContainsFunc over closures that capture nothing.
-/
/-
  Contracts: checks of a rack, a flow, a part.
-/
import Derived.Test.YtdpabnfcfakjeaaLwFd

namespace Go.Ex
open Go Go.Proofs Go.RowKit
noncomputable section

def sm3 : T Smf := (T.set sm2 113 (some (gFd thickS (.one (.int .i64)) thickC thickR)))
theorem sm3_ok : Tab SmOk sm3 := (Tab.set sm2_ok (by kernel_rfl) (smOk_of sm2_ok gs0_ok thick_ok rfl))
def outB (hi n : Int) : Bool := !(decide (0 ≤ n) && decide (n ≤ hi))
theorem idxF_step (p : Nat → Bool) (n x : Nat) : idxF p (n + 1) x = bif p x then (x : Int) else idxF p n (x + 1) := rfl
def idxSpreadS : List PT := [.one (.list [.int .i64])]
def idxSpreadB : Clo := (87, [])
def idxSpreadC : List FD → List FD → Bool
  | [.list _ _ _], [] => true
  | _, _ => false
def idxSpreadR : List FD → List FD → List FD
  | [.list _ na fa], [] => [.int .i64 (idxF (fun i => outB 500000000 (fa i 0).i) na 0)]
  | _, _ => []
def idxSpreadI (na : Nat) (fa : Nat → Nat → FD) : Nat → AFam := alts (fun _ => [{ι := Nat, G := fun x => x ≤ na ∧ idxF (fun i => outB 500000000 (fa i 0).i) (na - x) x = idxF (fun i => outB 500000000 (fa i 0).i) na 0, μ := fun x => na - x, tl := fun x => [(0, .one (.fz (.root 0 0) (FD.list [Sh.int IntKind.i64] na fa))), (1, .one (.fn 87 [])), (6, .one (.fz (.root 0 0) (FD.list [Sh.int IntKind.i64] na fa))), (7, .one (.int IntKind.i64 (.tm (Int.ofNat na)))), (8, .one (.int IntKind.i64 (.tm (Int.ofNat x))))], bl := fun _ => [], nx := 1}])
theorem idxSpread_ok : HsOk 139 (gFdH idxSpreadS idxSpreadB (.one (.int .i64)) idxSpreadC idxSpreadR) := by
  refine hsOk_of sm3_ok gs0_ok Try.fok139 (fun fds bds => match fds, bds with | [.list _ na fa], [] => idxSpreadI na fa | _, _ => alts fun _ => []) rfl rfl ?_
  intro fds bds hf hb hc
  obtain ⟨na, fa, ds0, rfl, ga, hf1⟩ := hf.list
  obtain rfl := hf1.nil
  obtain rfl := hb.nil
  have hc : (true) = true := hc
  have hvc : (vcH sm3 gs0 (FI.of Try.f139 true) idxSpreadS idxSpreadB (.one (.int .i64)) (idxSpreadI na fa) [.list [.int .i64] na fa] [] (idxSpreadR [.list [.int .i64] na fa] [])) =
    ((true = true) ∧ (∃ y0 : Nat, ((∃ y1 : Nat, (((y1 ≤ na ∧ ((idxF (fun (i : Nat) => outB (500000000 : Int) (FD.i (fa i (0 : Nat)))) (na - y1) y1) = (idxF (fun (i : Nat) => outB (500000000 : Int) (FD.i (fa i (0 : Nat)))) na (0 : Nat)))) ∧ True) ∧ (((true = true) ∧ ((((Ref.root (0) (0)) = (Ref.root (0) (0))) ∧ (((FD.list [Sh.int IntKind.i64] na fa) = (FD.list [Sh.int IntKind.i64] na fa)) ∧ (true = true))) ∧ (((((87 : FuncId)) = (Prod.fst idxSpreadB)) ∧ True) ∧ ((((Ref.root (0) (0)) = (Ref.root (0) (0))) ∧ (((FD.list [Sh.int IntKind.i64] na fa) = (FD.list [Sh.int IntKind.i64] na fa)) ∧ (true = true))) ∧ ((((IntKind.i64) = (IntKind.i64)) ∧ ((Int.ofNat na) = (Int.ofNat na))) ∧ ((((IntKind.i64) = (IntKind.i64)) ∧ ((Int.ofNat y1) = ((0 : Int)))) ∧ True)))))) ∧ True))) ∧ (∀ y1 : Nat, ((y1 ≤ na ∧ ((idxF (fun (i : Nat) => outB (500000000 : Int) (FD.i (fa i (0 : Nat)))) (na - y1) y1) = (idxF (fun (i : Nat) => outB (500000000 : Int) (FD.i (fa i (0 : Nat)))) na (0 : Nat)))) → ((((decide (Int.ofNat y1 < Int.ofNat na)) = (true)) → ((((decide ((0 : Int) ≤ Int.ofNat y1) && decide (Int.ofNat y1 < (↑na : Int))) = (true)) → (((true = true) → ((((decide ((0 : Int) ≤ FD.i (fa (Int.toNat (Int.ofNat y1)) (0 : Nat))) && decide (FD.i (fa (Int.toNat (Int.ofNat y1)) (0 : Nat)) ≤ (500000000 : Int))) = (false)) → (((IntKind.i64) = (IntKind.i64)) ∧ ((idxF (fun (i : Nat) => outB (500000000 : Int) (FD.i (fa i (0 : Nat)))) na (0 : Nat)) = (Int.ofNat y1)))) ∧ (((decide ((0 : Int) ≤ FD.i (fa (Int.toNat (Int.ofNat y1)) (0 : Nat))) && decide (FD.i (fa (Int.toNat (Int.ofNat y1)) (0 : Nat)) ≤ (500000000 : Int))) = (true)) → (∃ y2 : Nat, (((y2 ≤ na ∧ ((idxF (fun (i : Nat) => outB (500000000 : Int) (FD.i (fa i (0 : Nat)))) (na - y2) y2) = (idxF (fun (i : Nat) => outB (500000000 : Int) (FD.i (fa i (0 : Nat)))) na (0 : Nat)))) ∧ na - y2 < na - y1) ∧ (((true = true) ∧ ((((Ref.root (0) (0)) = (Ref.root (0) (0))) ∧ (((FD.list [Sh.int IntKind.i64] na fa) = (FD.list [Sh.int IntKind.i64] na fa)) ∧ (true = true))) ∧ (((((87 : FuncId)) = ((87 : FuncId))) ∧ True) ∧ ((((Ref.root (0) (0)) = (Ref.root (0) (0))) ∧ (((FD.list [Sh.int IntKind.i64] na fa) = (FD.list [Sh.int IntKind.i64] na fa)) ∧ (true = true))) ∧ ((((IntKind.i64) = (IntKind.i64)) ∧ ((Int.ofNat na) = (Int.ofNat na))) ∧ ((((IntKind.i64) = (IntKind.i64)) ∧ ((Int.ofNat y2) = (IntKind.wrap IntKind.i64 (Int.ofNat y1 + (1 : Int))))) ∧ True)))))) ∧ True)))))) ∧ ((true = false) → False))) ∧ (((decide ((0 : Int) ≤ Int.ofNat y1) && decide (Int.ofNat y1 < (↑na : Int))) = (false)) → False))) ∧ (((decide (Int.ofNat y1 < Int.ofNat na)) = (false)) → (((IntKind.i64) = (IntKind.i64)) ∧ ((idxF (fun (i : Nat) => outB (500000000 : Int) (FD.i (fa i (0 : Nat)))) na (0 : Nat)) = ((-1 : Int))))))))))) := by kernel_rfl
  refine hvc.mpr ?_
  clear hvc
  have hl := ga.len
  have hl' : maxLen = 9223372036854775807 := rfl
  simp
  refine ⟨rfl, fun x hx he => ⟨fun h => ⟨fun _ => ⟨fun ho => ?_, fun h0 h1 => ⟨x + 1, ⟨⟨by omega, ?_⟩, by omega⟩, ?_⟩⟩, h⟩, fun h => ?_⟩⟩
  · rw [← he, show na - x = na - (x + 1) + 1 by omega, idxF_step, show outB 500000000 (fa x 0).i = true by simp [outB]; omega]
    rfl
  · rw [← he, show na - x = na - (x + 1) + 1 by omega, idxF_step, show outB 500000000 (fa x 0).i = false by simp [outB]; omega]
    rfl
  · rw [wrap_id (by omega) (by omega)]
    rfl
  · rw [← he, show na - x = 0 by omega]
    rfl
def idxFlowS : List PT := [.one (.list [.int .i64])]
def idxFlowB : Clo := (114, [])
def idxFlowC : List FD → List FD → Bool
  | [.list _ _ _], [] => true
  | _, _ => false
def idxFlowR : List FD → List FD → List FD
  | [.list _ na fa], [] => [.int .i64 (idxF (fun i => outB 100 (fa i 0).i) na 0)]
  | _, _ => []
def idxFlowI (na : Nat) (fa : Nat → Nat → FD) : Nat → AFam := alts (fun _ => [{ι := Nat, G := fun x => x ≤ na ∧ idxF (fun i => outB 100 (fa i 0).i) (na - x) x = idxF (fun i => outB 100 (fa i 0).i) na 0, μ := fun x => na - x, tl := fun x => [(0, .one (.fz (.root 0 0) (FD.list [Sh.int IntKind.i64] na fa))), (1, .one (.fn 114 [])), (6, .one (.fz (.root 0 0) (FD.list [Sh.int IntKind.i64] na fa))), (7, .one (.int IntKind.i64 (.tm (Int.ofNat na)))), (8, .one (.int IntKind.i64 (.tm (Int.ofNat x))))], bl := fun _ => [], nx := 1}])
theorem idxFlow_ok : HsOk 139 (gFdH idxFlowS idxFlowB (.one (.int .i64)) idxFlowC idxFlowR) := by
  refine hsOk_of sm3_ok gs0_ok Try.fok139 (fun fds bds => match fds, bds with | [.list _ na fa], [] => idxFlowI na fa | _, _ => alts fun _ => []) rfl rfl ?_
  intro fds bds hf hb hc
  obtain ⟨na, fa, ds0, rfl, ga, hf1⟩ := hf.list
  obtain rfl := hf1.nil
  obtain rfl := hb.nil
  have hc : (true) = true := hc
  have hvc : (vcH sm3 gs0 (FI.of Try.f139 true) idxFlowS idxFlowB (.one (.int .i64)) (idxFlowI na fa) [.list [.int .i64] na fa] [] (idxFlowR [.list [.int .i64] na fa] [])) =
    ((true = true) ∧ (∃ y0 : Nat, ((∃ y1 : Nat, (((y1 ≤ na ∧ ((idxF (fun (i : Nat) => outB (100 : Int) (FD.i (fa i (0 : Nat)))) (na - y1) y1) = (idxF (fun (i : Nat) => outB (100 : Int) (FD.i (fa i (0 : Nat)))) na (0 : Nat)))) ∧ True) ∧ (((true = true) ∧ ((((Ref.root (0) (0)) = (Ref.root (0) (0))) ∧ (((FD.list [Sh.int IntKind.i64] na fa) = (FD.list [Sh.int IntKind.i64] na fa)) ∧ (true = true))) ∧ (((((114 : FuncId)) = (Prod.fst idxFlowB)) ∧ True) ∧ ((((Ref.root (0) (0)) = (Ref.root (0) (0))) ∧ (((FD.list [Sh.int IntKind.i64] na fa) = (FD.list [Sh.int IntKind.i64] na fa)) ∧ (true = true))) ∧ ((((IntKind.i64) = (IntKind.i64)) ∧ ((Int.ofNat na) = (Int.ofNat na))) ∧ ((((IntKind.i64) = (IntKind.i64)) ∧ ((Int.ofNat y1) = ((0 : Int)))) ∧ True)))))) ∧ True))) ∧ (∀ y1 : Nat, ((y1 ≤ na ∧ ((idxF (fun (i : Nat) => outB (100 : Int) (FD.i (fa i (0 : Nat)))) (na - y1) y1) = (idxF (fun (i : Nat) => outB (100 : Int) (FD.i (fa i (0 : Nat)))) na (0 : Nat)))) → ((((decide (Int.ofNat y1 < Int.ofNat na)) = (true)) → ((((decide ((0 : Int) ≤ Int.ofNat y1) && decide (Int.ofNat y1 < (↑na : Int))) = (true)) → (((true = true) → ((((decide ((0 : Int) ≤ FD.i (fa (Int.toNat (Int.ofNat y1)) (0 : Nat))) && decide (FD.i (fa (Int.toNat (Int.ofNat y1)) (0 : Nat)) ≤ (100 : Int))) = (false)) → (((IntKind.i64) = (IntKind.i64)) ∧ ((idxF (fun (i : Nat) => outB (100 : Int) (FD.i (fa i (0 : Nat)))) na (0 : Nat)) = (Int.ofNat y1)))) ∧ (((decide ((0 : Int) ≤ FD.i (fa (Int.toNat (Int.ofNat y1)) (0 : Nat))) && decide (FD.i (fa (Int.toNat (Int.ofNat y1)) (0 : Nat)) ≤ (100 : Int))) = (true)) → (∃ y2 : Nat, (((y2 ≤ na ∧ ((idxF (fun (i : Nat) => outB (100 : Int) (FD.i (fa i (0 : Nat)))) (na - y2) y2) = (idxF (fun (i : Nat) => outB (100 : Int) (FD.i (fa i (0 : Nat)))) na (0 : Nat)))) ∧ na - y2 < na - y1) ∧ (((true = true) ∧ ((((Ref.root (0) (0)) = (Ref.root (0) (0))) ∧ (((FD.list [Sh.int IntKind.i64] na fa) = (FD.list [Sh.int IntKind.i64] na fa)) ∧ (true = true))) ∧ (((((114 : FuncId)) = ((114 : FuncId))) ∧ True) ∧ ((((Ref.root (0) (0)) = (Ref.root (0) (0))) ∧ (((FD.list [Sh.int IntKind.i64] na fa) = (FD.list [Sh.int IntKind.i64] na fa)) ∧ (true = true))) ∧ ((((IntKind.i64) = (IntKind.i64)) ∧ ((Int.ofNat na) = (Int.ofNat na))) ∧ ((((IntKind.i64) = (IntKind.i64)) ∧ ((Int.ofNat y2) = (IntKind.wrap IntKind.i64 (Int.ofNat y1 + (1 : Int))))) ∧ True)))))) ∧ True)))))) ∧ ((true = false) → False))) ∧ (((decide ((0 : Int) ≤ Int.ofNat y1) && decide (Int.ofNat y1 < (↑na : Int))) = (false)) → False))) ∧ (((decide (Int.ofNat y1 < Int.ofNat na)) = (false)) → (((IntKind.i64) = (IntKind.i64)) ∧ ((idxF (fun (i : Nat) => outB (100 : Int) (FD.i (fa i (0 : Nat)))) na (0 : Nat)) = ((-1 : Int))))))))))) := by kernel_rfl
  refine hvc.mpr ?_
  clear hvc
  have hl := ga.len
  have hl' : maxLen = 9223372036854775807 := rfl
  simp
  refine ⟨rfl, fun x hx he => ⟨fun h => ⟨fun _ => ⟨fun ho => ?_, fun h0 h1 => ⟨x + 1, ⟨⟨by omega, ?_⟩, by omega⟩, ?_⟩⟩, h⟩, fun h => ?_⟩⟩
  · rw [← he, show na - x = na - (x + 1) + 1 by omega, idxF_step, show outB 100 (fa x 0).i = true by simp [outB]; omega]
    rfl
  · rw [← he, show na - x = na - (x + 1) + 1 by omega, idxF_step, show outB 100 (fa x 0).i = false by simp [outB]; omega]
    rfl
  · rw [wrap_id (by omega) (by omega)]
    rfl
  · rw [← he, show na - x = 0 by omega]
    rfl
def idxTableS : List PT := [.one (.list [.int .i64])]
def idxTableB : Clo := (98, [])
def idxTableC : List FD → List FD → Bool
  | [.list _ _ _], [] => true
  | _, _ => false
def idxTableR : List FD → List FD → List FD
  | [.list _ na fa], [] => [.int .i64 (idxF (fun i => outB 2 (fa i 0).i) na 0)]
  | _, _ => []
def idxTableI (na : Nat) (fa : Nat → Nat → FD) : Nat → AFam := alts (fun _ => [{ι := Nat, G := fun x => x ≤ na ∧ idxF (fun i => outB 2 (fa i 0).i) (na - x) x = idxF (fun i => outB 2 (fa i 0).i) na 0, μ := fun x => na - x, tl := fun x => [(0, .one (.fz (.root 0 0) (FD.list [Sh.int IntKind.i64] na fa))), (1, .one (.fn 98 [])), (6, .one (.fz (.root 0 0) (FD.list [Sh.int IntKind.i64] na fa))), (7, .one (.int IntKind.i64 (.tm (Int.ofNat na)))), (8, .one (.int IntKind.i64 (.tm (Int.ofNat x))))], bl := fun _ => [], nx := 1}])
theorem idxTable_ok : HsOk 139 (gFdH idxTableS idxTableB (.one (.int .i64)) idxTableC idxTableR) := by
  refine hsOk_of sm3_ok gs0_ok Try.fok139 (fun fds bds => match fds, bds with | [.list _ na fa], [] => idxTableI na fa | _, _ => alts fun _ => []) rfl rfl ?_
  intro fds bds hf hb hc
  obtain ⟨na, fa, ds0, rfl, ga, hf1⟩ := hf.list
  obtain rfl := hf1.nil
  obtain rfl := hb.nil
  have hc : (true) = true := hc
  have hvc : (vcH sm3 gs0 (FI.of Try.f139 true) idxTableS idxTableB (.one (.int .i64)) (idxTableI na fa) [.list [.int .i64] na fa] [] (idxTableR [.list [.int .i64] na fa] [])) =
    ((true = true) ∧ (∃ y0 : Nat, ((∃ y1 : Nat, (((y1 ≤ na ∧ ((idxF (fun (i : Nat) => outB (2 : Int) (FD.i (fa i (0 : Nat)))) (na - y1) y1) = (idxF (fun (i : Nat) => outB (2 : Int) (FD.i (fa i (0 : Nat)))) na (0 : Nat)))) ∧ True) ∧ (((true = true) ∧ ((((Ref.root (0) (0)) = (Ref.root (0) (0))) ∧ (((FD.list [Sh.int IntKind.i64] na fa) = (FD.list [Sh.int IntKind.i64] na fa)) ∧ (true = true))) ∧ (((((98 : FuncId)) = (Prod.fst idxTableB)) ∧ True) ∧ ((((Ref.root (0) (0)) = (Ref.root (0) (0))) ∧ (((FD.list [Sh.int IntKind.i64] na fa) = (FD.list [Sh.int IntKind.i64] na fa)) ∧ (true = true))) ∧ ((((IntKind.i64) = (IntKind.i64)) ∧ ((Int.ofNat na) = (Int.ofNat na))) ∧ ((((IntKind.i64) = (IntKind.i64)) ∧ ((Int.ofNat y1) = ((0 : Int)))) ∧ True)))))) ∧ True))) ∧ (∀ y1 : Nat, ((y1 ≤ na ∧ ((idxF (fun (i : Nat) => outB (2 : Int) (FD.i (fa i (0 : Nat)))) (na - y1) y1) = (idxF (fun (i : Nat) => outB (2 : Int) (FD.i (fa i (0 : Nat)))) na (0 : Nat)))) → ((((decide (Int.ofNat y1 < Int.ofNat na)) = (true)) → ((((decide ((0 : Int) ≤ Int.ofNat y1) && decide (Int.ofNat y1 < (↑na : Int))) = (true)) → (((true = true) → ((((decide ((0 : Int) ≤ FD.i (fa (Int.toNat (Int.ofNat y1)) (0 : Nat))) && decide (FD.i (fa (Int.toNat (Int.ofNat y1)) (0 : Nat)) ≤ (2 : Int))) = (false)) → (((IntKind.i64) = (IntKind.i64)) ∧ ((idxF (fun (i : Nat) => outB (2 : Int) (FD.i (fa i (0 : Nat)))) na (0 : Nat)) = (Int.ofNat y1)))) ∧ (((decide ((0 : Int) ≤ FD.i (fa (Int.toNat (Int.ofNat y1)) (0 : Nat))) && decide (FD.i (fa (Int.toNat (Int.ofNat y1)) (0 : Nat)) ≤ (2 : Int))) = (true)) → (∃ y2 : Nat, (((y2 ≤ na ∧ ((idxF (fun (i : Nat) => outB (2 : Int) (FD.i (fa i (0 : Nat)))) (na - y2) y2) = (idxF (fun (i : Nat) => outB (2 : Int) (FD.i (fa i (0 : Nat)))) na (0 : Nat)))) ∧ na - y2 < na - y1) ∧ (((true = true) ∧ ((((Ref.root (0) (0)) = (Ref.root (0) (0))) ∧ (((FD.list [Sh.int IntKind.i64] na fa) = (FD.list [Sh.int IntKind.i64] na fa)) ∧ (true = true))) ∧ (((((98 : FuncId)) = ((98 : FuncId))) ∧ True) ∧ ((((Ref.root (0) (0)) = (Ref.root (0) (0))) ∧ (((FD.list [Sh.int IntKind.i64] na fa) = (FD.list [Sh.int IntKind.i64] na fa)) ∧ (true = true))) ∧ ((((IntKind.i64) = (IntKind.i64)) ∧ ((Int.ofNat na) = (Int.ofNat na))) ∧ ((((IntKind.i64) = (IntKind.i64)) ∧ ((Int.ofNat y2) = (IntKind.wrap IntKind.i64 (Int.ofNat y1 + (1 : Int))))) ∧ True)))))) ∧ True)))))) ∧ ((true = false) → False))) ∧ (((decide ((0 : Int) ≤ Int.ofNat y1) && decide (Int.ofNat y1 < (↑na : Int))) = (false)) → False))) ∧ (((decide (Int.ofNat y1 < Int.ofNat na)) = (false)) → (((IntKind.i64) = (IntKind.i64)) ∧ ((idxF (fun (i : Nat) => outB (2 : Int) (FD.i (fa i (0 : Nat)))) na (0 : Nat)) = ((-1 : Int))))))))))) := by kernel_rfl
  refine hvc.mpr ?_
  clear hvc
  have hl := ga.len
  have hl' : maxLen = 9223372036854775807 := rfl
  simp
  refine ⟨rfl, fun x hx he => ⟨fun h => ⟨fun _ => ⟨fun ho => ?_, fun h0 h1 => ⟨x + 1, ⟨⟨by omega, ?_⟩, by omega⟩, ?_⟩⟩, h⟩, fun h => ?_⟩⟩
  · rw [← he, show na - x = na - (x + 1) + 1 by omega, idxF_step, show outB 2 (fa x 0).i = true by simp [outB]; omega]
    rfl
  · rw [← he, show na - x = na - (x + 1) + 1 by omega, idxF_step, show outB 2 (fa x 0).i = false by simp [outB]; omega]
    rfl
  · rw [wrap_id (by omega) (by omega)]
    rfl
  · rw [← he, show na - x = 0 by omega]
    rfl
def idxTaskS : List PT := [.one (.list [.int .i64])]
def idxTaskB : Clo := (123, [])
def idxTaskC : List FD → List FD → Bool
  | [.list _ _ _], [] => true
  | _, _ => false
def idxTaskR : List FD → List FD → List FD
  | [.list _ na fa], [] => [.int .i64 (idxF (fun i => outB 100 (fa i 0).i) na 0)]
  | _, _ => []
def idxTaskI (na : Nat) (fa : Nat → Nat → FD) : Nat → AFam := alts (fun _ => [{ι := Nat, G := fun x => x ≤ na ∧ idxF (fun i => outB 100 (fa i 0).i) (na - x) x = idxF (fun i => outB 100 (fa i 0).i) na 0, μ := fun x => na - x, tl := fun x => [(0, .one (.fz (.root 0 0) (FD.list [Sh.int IntKind.i64] na fa))), (1, .one (.fn 123 [])), (6, .one (.fz (.root 0 0) (FD.list [Sh.int IntKind.i64] na fa))), (7, .one (.int IntKind.i64 (.tm (Int.ofNat na)))), (8, .one (.int IntKind.i64 (.tm (Int.ofNat x))))], bl := fun _ => [], nx := 1}])
theorem idxTask_ok : HsOk 139 (gFdH idxTaskS idxTaskB (.one (.int .i64)) idxTaskC idxTaskR) := by
  refine hsOk_of sm3_ok gs0_ok Try.fok139 (fun fds bds => match fds, bds with | [.list _ na fa], [] => idxTaskI na fa | _, _ => alts fun _ => []) rfl rfl ?_
  intro fds bds hf hb hc
  obtain ⟨na, fa, ds0, rfl, ga, hf1⟩ := hf.list
  obtain rfl := hf1.nil
  obtain rfl := hb.nil
  have hc : (true) = true := hc
  have hvc : (vcH sm3 gs0 (FI.of Try.f139 true) idxTaskS idxTaskB (.one (.int .i64)) (idxTaskI na fa) [.list [.int .i64] na fa] [] (idxTaskR [.list [.int .i64] na fa] [])) =
    ((true = true) ∧ (∃ y0 : Nat, ((∃ y1 : Nat, (((y1 ≤ na ∧ ((idxF (fun (i : Nat) => outB (100 : Int) (FD.i (fa i (0 : Nat)))) (na - y1) y1) = (idxF (fun (i : Nat) => outB (100 : Int) (FD.i (fa i (0 : Nat)))) na (0 : Nat)))) ∧ True) ∧ (((true = true) ∧ ((((Ref.root (0) (0)) = (Ref.root (0) (0))) ∧ (((FD.list [Sh.int IntKind.i64] na fa) = (FD.list [Sh.int IntKind.i64] na fa)) ∧ (true = true))) ∧ (((((123 : FuncId)) = (Prod.fst idxTaskB)) ∧ True) ∧ ((((Ref.root (0) (0)) = (Ref.root (0) (0))) ∧ (((FD.list [Sh.int IntKind.i64] na fa) = (FD.list [Sh.int IntKind.i64] na fa)) ∧ (true = true))) ∧ ((((IntKind.i64) = (IntKind.i64)) ∧ ((Int.ofNat na) = (Int.ofNat na))) ∧ ((((IntKind.i64) = (IntKind.i64)) ∧ ((Int.ofNat y1) = ((0 : Int)))) ∧ True)))))) ∧ True))) ∧ (∀ y1 : Nat, ((y1 ≤ na ∧ ((idxF (fun (i : Nat) => outB (100 : Int) (FD.i (fa i (0 : Nat)))) (na - y1) y1) = (idxF (fun (i : Nat) => outB (100 : Int) (FD.i (fa i (0 : Nat)))) na (0 : Nat)))) → ((((decide (Int.ofNat y1 < Int.ofNat na)) = (true)) → ((((decide ((0 : Int) ≤ Int.ofNat y1) && decide (Int.ofNat y1 < (↑na : Int))) = (true)) → (((true = true) → ((((decide ((0 : Int) ≤ FD.i (fa (Int.toNat (Int.ofNat y1)) (0 : Nat))) && decide (FD.i (fa (Int.toNat (Int.ofNat y1)) (0 : Nat)) ≤ (100 : Int))) = (false)) → (((IntKind.i64) = (IntKind.i64)) ∧ ((idxF (fun (i : Nat) => outB (100 : Int) (FD.i (fa i (0 : Nat)))) na (0 : Nat)) = (Int.ofNat y1)))) ∧ (((decide ((0 : Int) ≤ FD.i (fa (Int.toNat (Int.ofNat y1)) (0 : Nat))) && decide (FD.i (fa (Int.toNat (Int.ofNat y1)) (0 : Nat)) ≤ (100 : Int))) = (true)) → (∃ y2 : Nat, (((y2 ≤ na ∧ ((idxF (fun (i : Nat) => outB (100 : Int) (FD.i (fa i (0 : Nat)))) (na - y2) y2) = (idxF (fun (i : Nat) => outB (100 : Int) (FD.i (fa i (0 : Nat)))) na (0 : Nat)))) ∧ na - y2 < na - y1) ∧ (((true = true) ∧ ((((Ref.root (0) (0)) = (Ref.root (0) (0))) ∧ (((FD.list [Sh.int IntKind.i64] na fa) = (FD.list [Sh.int IntKind.i64] na fa)) ∧ (true = true))) ∧ (((((123 : FuncId)) = ((123 : FuncId))) ∧ True) ∧ ((((Ref.root (0) (0)) = (Ref.root (0) (0))) ∧ (((FD.list [Sh.int IntKind.i64] na fa) = (FD.list [Sh.int IntKind.i64] na fa)) ∧ (true = true))) ∧ ((((IntKind.i64) = (IntKind.i64)) ∧ ((Int.ofNat na) = (Int.ofNat na))) ∧ ((((IntKind.i64) = (IntKind.i64)) ∧ ((Int.ofNat y2) = (IntKind.wrap IntKind.i64 (Int.ofNat y1 + (1 : Int))))) ∧ True)))))) ∧ True)))))) ∧ ((true = false) → False))) ∧ (((decide ((0 : Int) ≤ Int.ofNat y1) && decide (Int.ofNat y1 < (↑na : Int))) = (false)) → False))) ∧ (((decide (Int.ofNat y1 < Int.ofNat na)) = (false)) → (((IntKind.i64) = (IntKind.i64)) ∧ ((idxF (fun (i : Nat) => outB (100 : Int) (FD.i (fa i (0 : Nat)))) na (0 : Nat)) = ((-1 : Int))))))))))) := by kernel_rfl
  refine hvc.mpr ?_
  clear hvc
  have hl := ga.len
  have hl' : maxLen = 9223372036854775807 := rfl
  simp
  refine ⟨rfl, fun x hx he => ⟨fun h => ⟨fun _ => ⟨fun ho => ?_, fun h0 h1 => ⟨x + 1, ⟨⟨by omega, ?_⟩, by omega⟩, ?_⟩⟩, h⟩, fun h => ?_⟩⟩
  · rw [← he, show na - x = na - (x + 1) + 1 by omega, idxF_step, show outB 100 (fa x 0).i = true by simp [outB]; omega]
    rfl
  · rw [← he, show na - x = na - (x + 1) + 1 by omega, idxF_step, show outB 100 (fa x 0).i = false by simp [outB]; omega]
    rfl
  · rw [wrap_id (by omega) (by omega)]
    rfl
  · rw [← he, show na - x = 0 by omega]
    rfl

def gs1 : G2 := (G2.setH gs0 139 (hAlt 87 (gFdH idxSpreadS idxSpreadB (.one (.int .i64)) idxSpreadC idxSpreadR) (hAlt 114 (gFdH idxFlowS idxFlowB (.one (.int .i64)) idxFlowC idxFlowR) (hAlt 98 (gFdH idxTableS idxTableB (.one (.int .i64)) idxTableC idxTableR) (gFdH idxTaskS idxTaskB (.one (.int .i64)) idxTaskC idxTaskR)))))
theorem gs1_ok : G2Ok gs1 := (G2Ok.setH gs0_ok (by kernel_rfl) (hAlt_ok idxSpread_ok (hAlt_ok idxFlow_ok (hAlt_ok idxTable_ok idxTask_ok))))
def conSpreadS : List PT := [.one (.list [.int .i64])]
def conSpreadB : Clo := (87, [])
def conSpreadC : List FD → List FD → Bool
  | [.list _ _ _], [] => true
  | _, _ => false
def conSpreadR : List FD → List FD → List FD
  | [.list _ na fa], [] => [.bool (anyN (fun i => outB 500000000 (fa i 0).i) na 0)]
  | _, _ => []
def conSpreadI (_na : Nat) (_fa : Nat → Nat → FD) : Nat → AFam := alts (fun _ => [])
theorem conSpread_ok : HsOk 86 (gFdH conSpreadS conSpreadB (.one .bool) conSpreadC conSpreadR) := by
  refine hsOk_of sm3_ok gs1_ok Try.fok86 (fun fds bds => match fds, bds with | [.list _ na fa], [] => conSpreadI na fa | _, _ => alts fun _ => []) rfl rfl ?_
  intro fds bds hf hb hc
  obtain ⟨na, fa, ds0, rfl, ga, hf1⟩ := hf.list
  obtain rfl := hf1.nil
  obtain rfl := hb.nil
  have hc : (true) = true := hc
  have hvc : (vcH sm3 gs1 (FI.of Try.f86 true) conSpreadS conSpreadB (.one .bool) (conSpreadI na fa) [.list [.int .i64] na fa] [] (conSpreadR [.list [.int .i64] na fa] [])) =
    ((true = true) ∧ (((true = true) → ((anyN (fun (i : Nat) => outB (500000000 : Int) (FD.i (fa i (0 : Nat)))) na (0 : Nat)) = (!decide (idxF (fun (i : Nat) => outB (500000000 : Int) (FD.i (fa i (0 : Nat)))) na (0 : Nat) < (0 : Int))))) ∧ ((true = false) → False))) := by kernel_rfl
  refine hvc.mpr ?_
  clear hvc
  have := idxF_any (fun i => outB 500000000 (fa i 0).i) na 0
  simp
  rw [this, Bool.not_not]
def conFlowS : List PT := [.one (.list [.int .i64])]
def conFlowB : Clo := (114, [])
def conFlowC : List FD → List FD → Bool
  | [.list _ _ _], [] => true
  | _, _ => false
def conFlowR : List FD → List FD → List FD
  | [.list _ na fa], [] => [.bool (anyN (fun i => outB 100 (fa i 0).i) na 0)]
  | _, _ => []
def conFlowI (_na : Nat) (_fa : Nat → Nat → FD) : Nat → AFam := alts (fun _ => [])
theorem conFlow_ok : HsOk 86 (gFdH conFlowS conFlowB (.one .bool) conFlowC conFlowR) := by
  refine hsOk_of sm3_ok gs1_ok Try.fok86 (fun fds bds => match fds, bds with | [.list _ na fa], [] => conFlowI na fa | _, _ => alts fun _ => []) rfl rfl ?_
  intro fds bds hf hb hc
  obtain ⟨na, fa, ds0, rfl, ga, hf1⟩ := hf.list
  obtain rfl := hf1.nil
  obtain rfl := hb.nil
  have hc : (true) = true := hc
  have hvc : (vcH sm3 gs1 (FI.of Try.f86 true) conFlowS conFlowB (.one .bool) (conFlowI na fa) [.list [.int .i64] na fa] [] (conFlowR [.list [.int .i64] na fa] [])) =
    ((true = true) ∧ (((true = true) → ((anyN (fun (i : Nat) => outB (100 : Int) (FD.i (fa i (0 : Nat)))) na (0 : Nat)) = (!decide (idxF (fun (i : Nat) => outB (100 : Int) (FD.i (fa i (0 : Nat)))) na (0 : Nat) < (0 : Int))))) ∧ ((true = false) → False))) := by kernel_rfl
  refine hvc.mpr ?_
  clear hvc
  have := idxF_any (fun i => outB 100 (fa i 0).i) na 0
  simp
  rw [this, Bool.not_not]
def conTableS : List PT := [.one (.list [.int .i64])]
def conTableB : Clo := (98, [])
def conTableC : List FD → List FD → Bool
  | [.list _ _ _], [] => true
  | _, _ => false
def conTableR : List FD → List FD → List FD
  | [.list _ na fa], [] => [.bool (anyN (fun i => outB 2 (fa i 0).i) na 0)]
  | _, _ => []
def conTableI (_na : Nat) (_fa : Nat → Nat → FD) : Nat → AFam := alts (fun _ => [])
theorem conTable_ok : HsOk 86 (gFdH conTableS conTableB (.one .bool) conTableC conTableR) := by
  refine hsOk_of sm3_ok gs1_ok Try.fok86 (fun fds bds => match fds, bds with | [.list _ na fa], [] => conTableI na fa | _, _ => alts fun _ => []) rfl rfl ?_
  intro fds bds hf hb hc
  obtain ⟨na, fa, ds0, rfl, ga, hf1⟩ := hf.list
  obtain rfl := hf1.nil
  obtain rfl := hb.nil
  have hc : (true) = true := hc
  have hvc : (vcH sm3 gs1 (FI.of Try.f86 true) conTableS conTableB (.one .bool) (conTableI na fa) [.list [.int .i64] na fa] [] (conTableR [.list [.int .i64] na fa] [])) =
    ((true = true) ∧ (((true = true) → ((anyN (fun (i : Nat) => outB (2 : Int) (FD.i (fa i (0 : Nat)))) na (0 : Nat)) = (!decide (idxF (fun (i : Nat) => outB (2 : Int) (FD.i (fa i (0 : Nat)))) na (0 : Nat) < (0 : Int))))) ∧ ((true = false) → False))) := by kernel_rfl
  refine hvc.mpr ?_
  clear hvc
  have := idxF_any (fun i => outB 2 (fa i 0).i) na 0
  simp
  rw [this, Bool.not_not]
def conTaskS : List PT := [.one (.list [.int .i64])]
def conTaskB : Clo := (123, [])
def conTaskC : List FD → List FD → Bool
  | [.list _ _ _], [] => true
  | _, _ => false
def conTaskR : List FD → List FD → List FD
  | [.list _ na fa], [] => [.bool (anyN (fun i => outB 100 (fa i 0).i) na 0)]
  | _, _ => []
def conTaskI (_na : Nat) (_fa : Nat → Nat → FD) : Nat → AFam := alts (fun _ => [])
theorem conTask_ok : HsOk 86 (gFdH conTaskS conTaskB (.one .bool) conTaskC conTaskR) := by
  refine hsOk_of sm3_ok gs1_ok Try.fok86 (fun fds bds => match fds, bds with | [.list _ na fa], [] => conTaskI na fa | _, _ => alts fun _ => []) rfl rfl ?_
  intro fds bds hf hb hc
  obtain ⟨na, fa, ds0, rfl, ga, hf1⟩ := hf.list
  obtain rfl := hf1.nil
  obtain rfl := hb.nil
  have hc : (true) = true := hc
  have hvc : (vcH sm3 gs1 (FI.of Try.f86 true) conTaskS conTaskB (.one .bool) (conTaskI na fa) [.list [.int .i64] na fa] [] (conTaskR [.list [.int .i64] na fa] [])) =
    ((true = true) ∧ (((true = true) → ((anyN (fun (i : Nat) => outB (100 : Int) (FD.i (fa i (0 : Nat)))) na (0 : Nat)) = (!decide (idxF (fun (i : Nat) => outB (100 : Int) (FD.i (fa i (0 : Nat)))) na (0 : Nat) < (0 : Int))))) ∧ ((true = false) → False))) := by kernel_rfl
  refine hvc.mpr ?_
  clear hvc
  have := idxF_any (fun i => outB 100 (fa i 0).i) na 0
  simp
  rw [this, Bool.not_not]

def gs2 : G2 := (G2.setH gs1 86 (hAlt 87 (gFdH conSpreadS conSpreadB (.one .bool) conSpreadC conSpreadR) (hAlt 114 (gFdH conFlowS conFlowB (.one .bool) conFlowC conFlowR) (hAlt 98 (gFdH conTableS conTableB (.one .bool) conTableC conTableR) (gFdH conTaskS conTaskB (.one .bool) conTaskC conTaskR)))))
theorem gs2_ok : G2Ok gs2 := (G2Ok.setH gs1_ok (by kernel_rfl) (hAlt_ok conSpread_ok (hAlt_ok conFlow_ok (hAlt_ok conTable_ok conTask_ok))))
end
end Go.Ex


namespace Go.Ex
open Go Go.Proofs Go.RowKit
noncomputable section

/-- A rack's error. -/
def rackE (st pl ho ge : Int) : Int :=
  if ((1 ≤ st ∧ st ≤ 24) ∧ (1 ≤ pl ∧ pl ≤ 8)) ∧ (1 ≤ ho ∧ ho ≤ 12) ∧ (0 ≤ ge ∧ ge < ho) then (if st.tmod pl = 0 then 0 else 13) else 2
def partE (pl ho p h : Int) : Int := if (0 ≤ p ∧ p ≤ IntKind.i64.wrap (pl - 1)) ∧ (0 ≤ h ∧ h ≤ IntKind.i64.wrap (ho - 1)) then 0 else 6
def stepsE (n : Int) : Int := if 0 ≤ n ∧ n ≤ 1000000 then 0 else 2

def checkRackS : List PT := [.agg [.int .i64, .int .i64, .int .i64, .int .i64]]
def checkRackC : List FD → Bool
  | [.int _ _, .int _ _, .int _ _, .int _ _] => true
  | _ => false
def checkRackR : List FD → List FD
  | [.int _ st, .int _ pl, .int _ ho, .int _ ge] => [.int .i64 (rackE st pl ho ge)]
  | _ => []
def checkRackI (_st : Int) (_pl : Int) (_ho : Int) (_ge : Int) : Nat → AFam := alts (fun _ => [])
theorem checkRack_ok : FnOk (mkR sm3 gs2) Try.prog η0 46 (FI.of Try.f46 true) checkRackS (.one (.int .i64)) checkRackC checkRackR := by
  refine fnOk_of0 sm3_ok gs2_ok Try.fok46 (fun fds => match fds with | [.int _ st, .int _ pl, .int _ ho, .int _ ge] => checkRackI st pl ho ge | _ => alts fun _ => []) ?_
  intro fds hf hc
  obtain ⟨st, ds0, rfl, hf1⟩ := hf.int
  obtain ⟨pl, ds1, rfl, hf2⟩ := hf1.int
  obtain ⟨ho, ds2, rfl, hf3⟩ := hf2.int
  obtain ⟨ge, ds3, rfl, hf4⟩ := hf3.int
  obtain rfl := hf4.nil
  have hc : (true) = true := hc
  have hvc : (vcF sm3 gs2 (FI.of Try.f46 true) checkRackS (.one (.int .i64)) (checkRackI st pl ho ge) noR [.int .i64 st, .int .i64 pl, .int .i64 ho, .int .i64 ge] (checkRackR [.int .i64 st, .int .i64 pl, .int .i64 ho, .int .i64 ge])) =
    ((true = true) ∧ (((true = true) → ((((decide ((1 : Int) ≤ st) && decide (st ≤ (24 : Int))) = (true)) → (((true = true) → ((((decide ((1 : Int) ≤ pl) && decide (pl ≤ (8 : Int))) = (true)) → (((true = true) → ((((decide ((1 : Int) ≤ ho) && decide (ho ≤ (12 : Int))) = (true)) → (((true = true) → ((((decide ((0 : Int) ≤ ge) && decide (ge ≤ IntKind.wrap IntKind.i64 (ho - (1 : Int)))) = (false)) → (((IntKind.i64) = (IntKind.i64)) ∧ ((rackE st pl ho ge) = ((2 : Int))))) ∧ (((decide ((0 : Int) ≤ ge) && decide (ge ≤ IntKind.wrap IntKind.i64 (ho - (1 : Int)))) = (true)) → ((((!decide (pl = (0 : Int))) = (true)) → ((((decide (Int.tmod st pl = (0 : Int))) = (false)) → (((IntKind.i64) = (IntKind.i64)) ∧ ((rackE st pl ho ge) = ((13 : Int))))) ∧ (((decide (Int.tmod st pl = (0 : Int))) = (true)) → (((IntKind.i64) = (IntKind.i64)) ∧ ((rackE st pl ho ge) = ((0 : Int))))))) ∧ (((!decide (pl = (0 : Int))) = (false)) → False))))) ∧ ((true = false) → False))) ∧ (((decide ((1 : Int) ≤ ho) && decide (ho ≤ (12 : Int))) = (false)) → (((IntKind.i64) = (IntKind.i64)) ∧ ((rackE st pl ho ge) = ((2 : Int))))))) ∧ ((true = false) → False))) ∧ (((decide ((1 : Int) ≤ pl) && decide (pl ≤ (8 : Int))) = (false)) → (((IntKind.i64) = (IntKind.i64)) ∧ ((rackE st pl ho ge) = ((2 : Int))))))) ∧ ((true = false) → False))) ∧ (((decide ((1 : Int) ≤ st) && decide (st ≤ (24 : Int))) = (false)) → (((IntKind.i64) = (IntKind.i64)) ∧ ((rackE st pl ho ge) = ((2 : Int))))))) ∧ ((true = false) → False))) := by kernel_rfl
  refine hvc.mpr ?_
  clear hvc
  simp
  simp only [rackE]
  refine ⟨fun a b => ⟨fun c d => ⟨fun e f => ?_, fun g => by rw [if_neg (by omega)]⟩, fun g => by rw [if_neg (by omega)]⟩, fun g => by rw [if_neg (by omega)]⟩
  rw [wrap_id (by omega) (by omega)]
  refine ⟨fun g => by rw [if_neg (by omega)], fun g1 g2 => ⟨fun _ => ⟨fun h => by rw [if_pos (by omega), if_neg h], fun h => by rw [if_pos (by omega), if_pos h]⟩, by omega⟩⟩
def partErrS : List PT := [.agg [.int .i64, .int .i64, .int .i64, .int .i64], .agg [.int .i64, .int .i64]]
def partErrC : List FD → Bool
  | [.int _ _, .int _ _, .int _ _, .int _ _, .int _ _, .int _ _] => true
  | _ => false
def partErrR : List FD → List FD
  | [.int _ _, .int _ pl, .int _ ho, .int _ _, .int _ p, .int _ h] => [.int .i64 (partE pl ho p h)]
  | _ => []
def partErrI (_st : Int) (_pl : Int) (_ho : Int) (_ge : Int) (_p : Int) (_h : Int) : Nat → AFam := alts (fun _ => [])
theorem partErr_ok : FnOk (mkR sm3 gs2) Try.prog η0 110 (FI.of Try.f110 true) partErrS (.one (.int .i64)) partErrC partErrR := by
  refine fnOk_of0 sm3_ok gs2_ok Try.fok110 (fun fds => match fds with | [.int _ st, .int _ pl, .int _ ho, .int _ ge, .int _ p, .int _ h] => partErrI st pl ho ge p h | _ => alts fun _ => []) ?_
  intro fds hf hc
  obtain ⟨st, ds0, rfl, hf1⟩ := hf.int
  obtain ⟨pl, ds1, rfl, hf2⟩ := hf1.int
  obtain ⟨ho, ds2, rfl, hf3⟩ := hf2.int
  obtain ⟨ge, ds3, rfl, hf4⟩ := hf3.int
  obtain ⟨p, ds4, rfl, hf5⟩ := hf4.int
  obtain ⟨h, ds5, rfl, hf6⟩ := hf5.int
  obtain rfl := hf6.nil
  have hc : (true) = true := hc
  have hvc : (vcF sm3 gs2 (FI.of Try.f110 true) partErrS (.one (.int .i64)) (partErrI st pl ho ge p h) noR [.int .i64 st, .int .i64 pl, .int .i64 ho, .int .i64 ge, .int .i64 p, .int .i64 h] (partErrR [.int .i64 st, .int .i64 pl, .int .i64 ho, .int .i64 ge, .int .i64 p, .int .i64 h])) =
    ((true = true) ∧ (((true = true) → ((((decide ((0 : Int) ≤ p) && decide (p ≤ IntKind.wrap IntKind.i64 (pl - (1 : Int)))) = (true)) → (((true = true) → ((((decide ((0 : Int) ≤ h) && decide (h ≤ IntKind.wrap IntKind.i64 (ho - (1 : Int)))) = (false)) → (((IntKind.i64) = (IntKind.i64)) ∧ ((partE pl ho p h) = ((6 : Int))))) ∧ (((decide ((0 : Int) ≤ h) && decide (h ≤ IntKind.wrap IntKind.i64 (ho - (1 : Int)))) = (true)) → (((IntKind.i64) = (IntKind.i64)) ∧ ((partE pl ho p h) = ((0 : Int))))))) ∧ ((true = false) → False))) ∧ (((decide ((0 : Int) ≤ p) && decide (p ≤ IntKind.wrap IntKind.i64 (pl - (1 : Int)))) = (false)) → (((IntKind.i64) = (IntKind.i64)) ∧ ((partE pl ho p h) = ((6 : Int))))))) ∧ ((true = false) → False))) := by kernel_rfl
  refine hvc.mpr ?_
  clear hvc
  simp
  simp only [partE]
  refine ⟨fun a b => ⟨fun g => by rw [if_neg (by omega)], fun c d => by rw [if_pos ⟨⟨a, b⟩, c, d⟩]⟩, fun g => by rw [if_neg (by omega)]⟩
def stepsErrS : List PT := [.one (.int .i64)]
def stepsErrC : List FD → Bool
  | [.int _ _] => true
  | _ => false
def stepsErrR : List FD → List FD
  | [.int _ n] => [.int .i64 (stepsE n)]
  | _ => []
def stepsErrI (_n : Int) : Nat → AFam := alts (fun _ => [])
theorem stepsErr_ok : FnOk (mkR sm3 gs2) Try.prog η0 111 (FI.of Try.f111 true) stepsErrS (.one (.int .i64)) stepsErrC stepsErrR := by
  refine fnOk_of0 sm3_ok gs2_ok Try.fok111 (fun fds => match fds with | [.int _ n] => stepsErrI n | _ => alts fun _ => []) ?_
  intro fds hf hc
  obtain ⟨n, ds0, rfl, hf1⟩ := hf.int
  obtain rfl := hf1.nil
  have hc : (true) = true := hc
  have hvc : (vcF sm3 gs2 (FI.of Try.f111 true) stepsErrS (.one (.int .i64)) (stepsErrI n) noR [.int .i64 n] (stepsErrR [.int .i64 n])) =
    ((true = true) ∧ (((true = true) → ((((decide ((0 : Int) ≤ n) && decide (n ≤ (1000000 : Int))) = (false)) → (((IntKind.i64) = (IntKind.i64)) ∧ ((stepsE n) = ((2 : Int))))) ∧ (((decide ((0 : Int) ≤ n) && decide (n ≤ (1000000 : Int))) = (true)) → (((IntKind.i64) = (IntKind.i64)) ∧ ((stepsE n) = ((0 : Int))))))) ∧ ((true = false) → False))) := by kernel_rfl
  refine hvc.mpr ?_
  clear hvc
  simp
  simp only [stepsE]
  refine ⟨fun g => by rw [if_neg (by omega)], fun a b => by rw [if_pos ⟨a, b⟩]⟩

def sm4 : T Smf := (T.set (T.set (T.set sm3 46 (some (gFd checkRackS (.one (.int .i64)) checkRackC checkRackR))) 110 (some (gFd partErrS (.one (.int .i64)) partErrC partErrR))) 111 (some (gFd stepsErrS (.one (.int .i64)) stepsErrC stepsErrR)))
theorem sm4_ok : Tab SmOk sm4 := (Tab.set (Tab.set (Tab.set sm3_ok (by kernel_rfl) (smOk_of sm3_ok gs2_ok checkRack_ok rfl)) (by kernel_rfl) (smOk_of sm3_ok gs2_ok partErr_ok rfl)) (by kernel_rfl) (smOk_of sm3_ok gs2_ok stepsErr_ok rfl))
end
end Go.Ex

