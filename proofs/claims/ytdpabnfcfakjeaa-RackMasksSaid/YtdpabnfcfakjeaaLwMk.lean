/-
  Contracts: numbers in a range, by a closure; columns; the document's check of a task.
-/
/-
  Contracts: masks.
-/
/-
  Contracts: weights.
-/
/-
  No value of a mask is greater than a bound.
-/
import Derived.Test.YtdpabnfcfakjeaaLwTb

namespace Go.Ex
open Go Go.Proofs Go.RowKit
noncomputable section
set_option maxRecDepth 1000000

def smM : T Smf := (T.set (T.set (T.set (T.set smH 63 (some (gFd checkTaskS (.one (.int .i64)) checkTaskC checkTaskR))) 101 (some (gFd IsLowestS (.one .bool) IsLowestC IsLowestR))) 58 (some (gFd smallS (.one .bool) smallC smallR))) 59 (some (gFd shortS (.one .bool) shortC shortR)))
theorem smM_ok : Tab SmOk smM := (Tab.set (Tab.set (Tab.set (Tab.set smH_ok (by kernel_rfl) (smOk_of smH_ok gs4_ok checkTask_ok rfl)) (by kernel_rfl) (smOk_of smH_ok gs4_ok IsLowest_ok rfl)) (by kernel_rfl) (smOk_of smH_ok gs4_ok small_ok rfl)) (by kernel_rfl) (smOk_of smH_ok gs4_ok short_ok rfl))
def gsM : G2 := (G2.setG (G2.setG gs4 36 (gFd copyTaskS (.agg [.list [.list [.int .i64]], .int .i64, .int .i64]) copyTaskC copyTaskR)) 62 (gFd copyWeightsS (.agg [.int .i64, .list [.int .i64], .list [.int .i64], .list [.int .i64]]) copyWeightsC copyWeightsR))
theorem gsM_ok : G2Ok gsM := (G2Ok.setG (G2Ok.setG gs4_ok (by kernel_rfl) (gsOk_of smH_ok gs4_ok copyTask_ok)) (by kernel_rfl) (gsOk_of smH_ok gs4_ok copyWeights_ok))
def idxInS : List PT := [.one (.list [.int .i64])]
def idxInB : Clo := (148, [(3, [.int .i64])])
def idxInC : List FD → List FD → Bool
  | [.list _ _ _], [.int _ _] => true
  | _, _ => false
def idxInR : List FD → List FD → List FD
  | [.list _ na fa], [.int _ m] => [.int .i64 (idxF (fun i => outB m (fa i 0).i) na 0)]
  | _, _ => []
def idxInI (na : Nat) (fa : Nat → Nat → FD) (m : Int) : Nat → AFam := fun i => match i with | 2 => ⟨Nat, fun _ => [{ι := Nat, G := fun x => x ≤ na ∧ idxF (fun i => outB m (fa i 0).i) (na - x) x = idxF (fun i => outB m (fa i 0).i) na 0, μ := fun x => na - x, tl := fun x => [(0, .one (.fz (.root 0 0) (FD.list [Sh.int IntKind.i64] na fa))), (1, .one (.fn 148 [(1, 0)])), (6, .one (.fz (.root 0 0) (FD.list [Sh.int IntKind.i64] na fa))), (7, .one (.int IntKind.i64 (.tm (Int.ofNat na)))), (8, .one (.int IntKind.i64 (.tm (Int.ofNat x))))], bl := fun x => [(1, .cells 3 1 [.int IntKind.i64 (.tm m)])], nx := List.length (Prod.snd idxInB) + (1 : Nat)}]⟩ | _ => ⟨Nat, fun _ => []⟩
theorem idxIn_ok : HsOk 139 (gFdH idxInS idxInB (.one (.int .i64)) idxInC idxInR) := by
  refine hsOk_of smM_ok gsM_ok Try.fok139 (fun fds bds => match fds, bds with | [.list _ na fa], [.int _ m] => idxInI na fa m | _, _ => alts fun _ => []) rfl rfl ?_
  intro fds bds hf hb hc
  obtain ⟨na, fa, ds0, rfl, ga, hf1⟩ := hf.list
  obtain rfl := hf1.nil
  obtain ⟨m, es0, rfl, hb1⟩ := hb.int
  obtain rfl := hb1.nil
  have hc : (true) = true := hc
  have hvc : (vcH smM gsM (FI.of Try.f139 true) idxInS idxInB (.one (.int .i64)) (idxInI na fa m) [.list [.int .i64] na fa] [.int .i64 m] (idxInR [.list [.int .i64] na fa] [.int .i64 m])) =
    ((true = true) ∧ (∃ y0 : Nat, ((∃ y1 : Nat, (((y1 ≤ na ∧ ((idxF (fun (i : Nat) => outB m (FD.i (fa i (0 : Nat)))) (na - y1) y1) = (idxF (fun (i : Nat) => outB m (FD.i (fa i (0 : Nat)))) na (0 : Nat)))) ∧ True) ∧ (((true = true) ∧ ((((Ref.root (0 : Nat) (0 : Nat)) = (Ref.root (0 : Nat) (0 : Nat))) ∧ (((FD.list [Sh.int IntKind.i64] na fa) = (FD.list [Sh.int IntKind.i64] na fa)) ∧ (true = true))) ∧ (((((148 : FuncId)) = (Prod.fst idxInB)) ∧ (((1, 1) ∈ ([(1, 1)] : List (Nat × Nat))) ∧ (((Prod.snd ((1 : Nat), (0 : Nat))) = (Prod.snd ((1 : Nat), (0 : Nat)))) ∧ True))) ∧ ((((Ref.root (0 : Nat) (0 : Nat)) = (Ref.root (0 : Nat) (0 : Nat))) ∧ (((FD.list [Sh.int IntKind.i64] na fa) = (FD.list [Sh.int IntKind.i64] na fa)) ∧ (true = true))) ∧ ((((IntKind.i64) = (IntKind.i64)) ∧ ((Int.ofNat na) = (Int.ofNat na))) ∧ ((((IntKind.i64) = (IntKind.i64)) ∧ ((Int.ofNat y1) = ((0 : Int)))) ∧ True)))))) ∧ (((((3 : TypeId)) = (Prod.fst ((3 : TypeId), [Sh.int IntKind.i64]))) ∧ ((((1 : Nat)) = (List.length (Prod.snd ((3 : TypeId), [Sh.int IntKind.i64])))) ∧ ((((IntKind.i64) = (IntKind.i64)) ∧ ((m) = (m))) ∧ True))) ∧ True)))) ∧ (∀ y1 : Nat, ((y1 ≤ na ∧ ((idxF (fun (i : Nat) => outB m (FD.i (fa i (0 : Nat)))) (na - y1) y1) = (idxF (fun (i : Nat) => outB m (FD.i (fa i (0 : Nat)))) na (0 : Nat)))) → ((((decide (Int.ofNat y1 < Int.ofNat na)) = (true)) → ((((decide ((0 : Int) ≤ Int.ofNat y1) && decide (Int.ofNat y1 < (↑na : Int))) = (true)) → (((true = true) → ((((decide ((0 : Int) ≤ FD.i (fa (Int.toNat (Int.ofNat y1)) (0 : Nat))) && decide (FD.i (fa (Int.toNat (Int.ofNat y1)) (0 : Nat)) ≤ m)) = (false)) → (((IntKind.i64) = (IntKind.i64)) ∧ ((idxF (fun (i : Nat) => outB m (FD.i (fa i (0 : Nat)))) na (0 : Nat)) = (Int.ofNat y1)))) ∧ (((decide ((0 : Int) ≤ FD.i (fa (Int.toNat (Int.ofNat y1)) (0 : Nat))) && decide (FD.i (fa (Int.toNat (Int.ofNat y1)) (0 : Nat)) ≤ m)) = (true)) → (∃ y2 : Nat, (((y2 ≤ na ∧ ((idxF (fun (i : Nat) => outB m (FD.i (fa i (0 : Nat)))) (na - y2) y2) = (idxF (fun (i : Nat) => outB m (FD.i (fa i (0 : Nat)))) na (0 : Nat)))) ∧ na - y2 < na - y1) ∧ (((true = true) ∧ ((((Ref.root (0 : Nat) (0 : Nat)) = (Ref.root (0 : Nat) (0 : Nat))) ∧ (((FD.list [Sh.int IntKind.i64] na fa) = (FD.list [Sh.int IntKind.i64] na fa)) ∧ (true = true))) ∧ (((((148 : FuncId)) = ((148 : FuncId))) ∧ (((1, 1) ∈ ([(1, 1)] : List (Nat × Nat))) ∧ (((Prod.snd ((1 : Nat), (0 : Nat))) = (Prod.snd ((1 : Nat), (0 : Nat)))) ∧ True))) ∧ ((((Ref.root (0 : Nat) (0 : Nat)) = (Ref.root (0 : Nat) (0 : Nat))) ∧ (((FD.list [Sh.int IntKind.i64] na fa) = (FD.list [Sh.int IntKind.i64] na fa)) ∧ (true = true))) ∧ ((((IntKind.i64) = (IntKind.i64)) ∧ ((Int.ofNat na) = (Int.ofNat na))) ∧ ((((IntKind.i64) = (IntKind.i64)) ∧ ((Int.ofNat y2) = (IntKind.wrap IntKind.i64 (Int.ofNat y1 + (1 : Int))))) ∧ True)))))) ∧ (((((3 : TypeId)) = ((3 : TypeId))) ∧ ((((1 : Nat)) = ((1 : Nat))) ∧ ((((IntKind.i64) = (IntKind.i64)) ∧ ((m) = (m))) ∧ True))) ∧ True))))))) ∧ ((true = false) → False))) ∧ (((decide ((0 : Int) ≤ Int.ofNat y1) && decide (Int.ofNat y1 < (↑na : Int))) = (false)) → False))) ∧ (((decide (Int.ofNat y1 < Int.ofNat na)) = (false)) → (((IntKind.i64) = (IntKind.i64)) ∧ ((idxF (fun (i : Nat) => outB m (FD.i (fa i (0 : Nat)))) na (0 : Nat)) = ((-1 : Int))))))))))) := by kernel_rfl
  refine hvc.mpr ?_
  clear hvc
  have hl := ga.len
  have hl' : maxLen = 9223372036854775807 := rfl
  have e1 : idxInB.1 = 148 := rfl
  simp [e1]
  refine fun x hx he => ⟨fun h => ⟨fun _ => ⟨fun ho => ?_, fun h0 h1 => ⟨x + 1, ⟨⟨by omega, ?_⟩, by omega⟩, ?_⟩⟩, h⟩, fun h => ?_⟩
  · rw [← he, show na - x = na - (x + 1) + 1 by omega, idxF_step, show outB m (fa x 0).i = true by simp [outB]; omega]
    rfl
  · rw [← he, show na - x = na - (x + 1) + 1 by omega, idxF_step, show outB m (fa x 0).i = false by simp [outB]; omega]
    rfl
  · rw [wrap_id (by omega) (by omega)]
    rfl
  · rw [← he, show na - x = 0 by omega]
    rfl
def gsM1 : G2 := (G2.setH gsM 139 (gFdH idxInS idxInB (.one (.int .i64)) idxInC idxInR))
theorem gsM1_ok : G2Ok gsM1 := (G2Ok.setH gsM_ok (by kernel_rfl) idxIn_ok)
def conInS : List PT := [.one (.list [.int .i64])]
def conInB : Clo := (148, [(3, [.int .i64])])
def conInC : List FD → List FD → Bool
  | [.list _ _ _], [.int _ _] => true
  | _, _ => false
def conInR : List FD → List FD → List FD
  | [.list _ na fa], [.int _ m] => [.bool (anyN (fun i => outB m (fa i 0).i) na 0)]
  | _, _ => []
def conInI (_na : Nat) (_fa : Nat → Nat → FD) (_m : Int) : Nat → AFam := alts (fun _ => [])
theorem conIn_ok : HsOk 86 (gFdH conInS conInB (.one .bool) conInC conInR) := by
  refine hsOk_of smM_ok gsM1_ok Try.fok86 (fun fds bds => match fds, bds with | [.list _ na fa], [.int _ m] => conInI na fa m | _, _ => alts fun _ => []) rfl rfl ?_
  intro fds bds hf hb hc
  obtain ⟨na, fa, ds0, rfl, ga, hf1⟩ := hf.list
  obtain rfl := hf1.nil
  obtain ⟨m, es0, rfl, hb1⟩ := hb.int
  obtain rfl := hb1.nil
  have hc : (true) = true := hc
  have hvc : (vcH smM gsM1 (FI.of Try.f86 true) conInS conInB (.one .bool) (conInI na fa m) [.list [.int .i64] na fa] [.int .i64 m] (conInR [.list [.int .i64] na fa] [.int .i64 m])) =
    ((true = true) ∧ (((true = true) → ((anyN (fun (i : Nat) => outB m (FD.i (fa i (0 : Nat)))) na (0 : Nat)) = (!decide (idxF (fun (i : Nat) => outB m (FD.i (fa i (0 : Nat)))) na (0 : Nat) < (0 : Int))))) ∧ ((true = false) → False))) := by kernel_rfl
  refine hvc.mpr ?_
  clear hvc
  have := idxF_any (fun i => outB m (fa i 0).i) na 0
  simp
  rw [this, Bool.not_not]
def areInS : List PT := [.one (.list [.int .i64]), .one (.int .i64)]
def areInC : List FD → Bool
  | [.list _ _ _, .int _ _] => true
  | _ => false
def areInR : List FD → List FD
  | [.list _ na fa, .int _ m] => [.bool (!(anyN (fun i => outB m (fa i 0).i) na 0))]
  | _ => []
def areInI (na : Nat) (fa : Nat → Nat → FD) (m : Int) : Nat → AFam := fun i => match i with | 2 => ⟨Nat, fun _ => [{ι := Nat, G := fun x => x ≤ na ∧ (∀ i, i < x → 0 ≤ (fa i 0).i ∧ (fa i 0).i ≤ m), μ := fun x => na - x, tl := fun x => [(0, .one (.fz (.root 0 0) (FD.list [Sh.int IntKind.i64] na fa))), (1, .one (.int IntKind.i64 (.tm m))), (5, .one (.int IntKind.i64 (.tm (Int.ofNat x))))], bl := fun _ => [], nx := (1 : Nat)}]⟩ | _ => ⟨Nat, fun _ => []⟩
theorem areIn_ok : FnOk (mkR smM gsM) Try.prog η0 124 (FI.of Try.f124 true) areInS (.one .bool) areInC areInR := by
  refine fnOk_of0 smM_ok gsM_ok Try.fok124 (fun fds => match fds with | [.list _ na fa, .int _ m] => areInI na fa m | _ => alts fun _ => []) ?_
  intro fds hf hc
  obtain ⟨na, fa, ds0, rfl, ga, hf1⟩ := hf.list
  obtain ⟨m, ds1, rfl, hf2⟩ := hf1.int
  obtain rfl := hf2.nil
  have hc : (true) = true := hc
  have hvc : (vcF smM gsM (FI.of Try.f124 true) areInS (.one .bool) (areInI na fa m) noR [.list [.int .i64] na fa, .int .i64 m] (areInR [.list [.int .i64] na fa, .int .i64 m])) =
    ((true = true) ∧ (∃ y0 : Nat, ((∃ y1 : Nat, (((y1 ≤ na ∧ (∀ y2 : Nat, (y2 < y1 → ((0 : Int) ≤ FD.i (fa y2 (0 : Nat)) ∧ FD.i (fa y2 (0 : Nat)) ≤ m)))) ∧ True) ∧ (((true = true) ∧ ((((Ref.root (0 : Nat) (0 : Nat)) = (Ref.root (0 : Nat) (0 : Nat))) ∧ (((FD.list [Sh.int IntKind.i64] na fa) = (FD.list [Sh.int IntKind.i64] na fa)) ∧ (true = true))) ∧ ((((IntKind.i64) = (IntKind.i64)) ∧ ((m) = (m))) ∧ ((((IntKind.i64) = (IntKind.i64)) ∧ ((Int.ofNat y1) = ((0 : Int)))) ∧ True)))) ∧ True))) ∧ (∀ y1 : Nat, ((y1 ≤ na ∧ (∀ y2 : Nat, (y2 < y1 → ((0 : Int) ≤ FD.i (fa y2 (0 : Nat)) ∧ FD.i (fa y2 (0 : Nat)) ≤ m)))) → ((((decide (Int.ofNat y1 < Int.ofNat na)) = (true)) → ((((decide ((0 : Int) ≤ Int.ofNat y1) && decide (Int.ofNat y1 < (↑na : Int))) = (true)) → (((true = true) → ((((decide ((0 : Int) ≤ FD.i (fa (Int.toNat (Int.ofNat y1)) (0 : Nat))) && decide (FD.i (fa (Int.toNat (Int.ofNat y1)) (0 : Nat)) ≤ m)) = (false)) → ((!anyN (fun (i : Nat) => outB m (FD.i (fa i (0 : Nat)))) na (0 : Nat)) = (false))) ∧ (((decide ((0 : Int) ≤ FD.i (fa (Int.toNat (Int.ofNat y1)) (0 : Nat))) && decide (FD.i (fa (Int.toNat (Int.ofNat y1)) (0 : Nat)) ≤ m)) = (true)) → (∃ y2 : Nat, (((y2 ≤ na ∧ (∀ y3 : Nat, (y3 < y2 → ((0 : Int) ≤ FD.i (fa y3 (0 : Nat)) ∧ FD.i (fa y3 (0 : Nat)) ≤ m)))) ∧ na - y2 < na - y1) ∧ (((true = true) ∧ ((((Ref.root (0 : Nat) (0 : Nat)) = (Ref.root (0 : Nat) (0 : Nat))) ∧ (((FD.list [Sh.int IntKind.i64] na fa) = (FD.list [Sh.int IntKind.i64] na fa)) ∧ (true = true))) ∧ ((((IntKind.i64) = (IntKind.i64)) ∧ ((m) = (m))) ∧ ((((IntKind.i64) = (IntKind.i64)) ∧ ((Int.ofNat y2) = (IntKind.wrap IntKind.i64 (Int.ofNat y1 + (1 : Int))))) ∧ True)))) ∧ True)))))) ∧ ((true = false) → False))) ∧ (((decide ((0 : Int) ≤ Int.ofNat y1) && decide (Int.ofNat y1 < (↑na : Int))) = (false)) → False))) ∧ (((decide (Int.ofNat y1 < Int.ofNat na)) = (false)) → ((!anyN (fun (i : Nat) => outB m (FD.i (fa i (0 : Nat)))) na (0 : Nat)) = (true))))))))) := by kernel_rfl
  refine hvc.mpr ?_
  clear hvc
  have hl := ga.len
  have hl' : maxLen = 9223372036854775807 := rfl
  simp
  refine fun x hx hin => ⟨fun hlt => ⟨fun _ => ⟨fun ho => anyN_out hlt (by omega), fun a b => ⟨x + 1, ⟨⟨by omega, fun y hy => ?_⟩, by omega⟩, ?_⟩⟩, hlt⟩, fun hge => anyN_in fun i hi => hin i (by omega)⟩
  · by_cases e : y = x
    · subst e; exact ⟨a, b⟩
    · exact hin y (by omega)
  · rw [wrap_id (by omega) (by omega)]
    rfl
def sumS : List PT := [.one (.list [.int .i64])]
def sumC : List FD → Bool
  | [.list _ _ _] => true
  | _ => false
def sumR : List FD → List FD
  | [.list _ na fa] => [.int .i64 (sumF fa na)]
  | _ => []
def sumI (na : Nat) (fa : Nat → Nat → FD) : Nat → AFam := fun i => match i with | 3 => ⟨Nat, fun _ => [{ι := Nat, G := fun x => x ≤ na, μ := fun x => na - x, tl := fun x => [(0, .one (.fz (.root 0 0) (FD.list [Sh.int IntKind.i64] na fa))), (3, .one (.int IntKind.i64 (.tm (sumF fa x)))), (4, .one (.int IntKind.i64 (.tm (Int.ofNat x))))], bl := fun _ => [], nx := (1 : Nat)}]⟩ | _ => ⟨Nat, fun _ => []⟩
theorem sum_ok : FnOk (mkR smM gsM) Try.prog η0 127 (FI.of Try.f127 true) sumS (.one (.int .i64)) sumC sumR := by
  refine fnOk_of0 smM_ok gsM_ok Try.fok127 (fun fds => match fds with | [.list _ na fa] => sumI na fa | _ => alts fun _ => []) ?_
  intro fds hf hc
  obtain ⟨na, fa, ds0, rfl, ga, hf1⟩ := hf.list
  obtain rfl := hf1.nil
  have hc : (true) = true := hc
  have hvc : (vcF smM gsM (FI.of Try.f127 true) sumS (.one (.int .i64)) (sumI na fa) noR [.list [.int .i64] na fa] (sumR [.list [.int .i64] na fa])) =
    ((true = true) ∧ (∃ y0 : Nat, ((∃ y1 : Nat, ((y1 ≤ na ∧ True) ∧ (((true = true) ∧ ((((Ref.root (0 : Nat) (0 : Nat)) = (Ref.root (0 : Nat) (0 : Nat))) ∧ (((FD.list [Sh.int IntKind.i64] na fa) = (FD.list [Sh.int IntKind.i64] na fa)) ∧ (true = true))) ∧ ((((IntKind.i64) = (IntKind.i64)) ∧ ((sumF fa y1) = ((0 : Int)))) ∧ ((((IntKind.i64) = (IntKind.i64)) ∧ ((Int.ofNat y1) = ((0 : Int)))) ∧ True)))) ∧ True))) ∧ (∀ y1 : Nat, (y1 ≤ na → ((((decide (Int.ofNat y1 < Int.ofNat na)) = (true)) → ((((decide ((0 : Int) ≤ Int.ofNat y1) && decide (Int.ofNat y1 < (↑na : Int))) = (true)) → (∃ y2 : Nat, ((y2 ≤ na ∧ na - y2 < na - y1) ∧ (((true = true) ∧ ((((Ref.root (0 : Nat) (0 : Nat)) = (Ref.root (0 : Nat) (0 : Nat))) ∧ (((FD.list [Sh.int IntKind.i64] na fa) = (FD.list [Sh.int IntKind.i64] na fa)) ∧ (true = true))) ∧ ((((IntKind.i64) = (IntKind.i64)) ∧ ((sumF fa y2) = (IntKind.wrap IntKind.i64 (sumF fa y1 + FD.i (fa (Int.toNat (Int.ofNat y1)) (0 : Nat)))))) ∧ ((((IntKind.i64) = (IntKind.i64)) ∧ ((Int.ofNat y2) = (IntKind.wrap IntKind.i64 (Int.ofNat y1 + (1 : Int))))) ∧ True)))) ∧ True)))) ∧ (((decide ((0 : Int) ≤ Int.ofNat y1) && decide (Int.ofNat y1 < (↑na : Int))) = (false)) → False))) ∧ (((decide (Int.ofNat y1 < Int.ofNat na)) = (false)) → (((IntKind.i64) = (IntKind.i64)) ∧ ((sumF fa na) = (sumF fa y1)))))))))) := by kernel_rfl
  refine hvc.mpr ?_
  clear hvc
  have hl := ga.len
  have hl' : maxLen = 9223372036854775807 := rfl
  simp
  refine ⟨rfl, fun x hx => ⟨fun h => ⟨fun _ => ⟨x + 1, ⟨by omega, by omega⟩, rfl, ?_⟩, h⟩, fun h => by rw [show x = na by omega]⟩⟩
  rw [wrap_id (by omega) (by omega)]; rfl
def rowS : List PT := [.one (.list [.int .i64]), .one (.list [.int .i64])]
def rowC : List FD → Bool
  | [.list _ na _, .list _ nb _] => Nat.ble na nb
  | _ => false
def rowR : List FD → List FD
  | [.list _ na fa, .list _ _ fb] => [.int .i64 (dotF fa fb na)]
  | _ => []
def rowI (na : Nat) (fa : Nat → Nat → FD) (nb : Nat) (fb : Nat → Nat → FD) : Nat → AFam := fun i => match i with | 3 => ⟨Nat, fun _ => [{ι := Nat, G := fun x => x ≤ na, μ := fun x => na - x, tl := fun x => [(0, .one (.fz (.root 0 0) (FD.list [Sh.int IntKind.i64] na fa))), (1, .one (.fz (.root 0 1) (FD.list [Sh.int IntKind.i64] nb fb))), (5, .one (.int IntKind.i64 (.tm (dotF fa fb x)))), (6, .one (.int IntKind.i64 (.tm (Int.ofNat x))))], bl := fun _ => [], nx := (1 : Nat)}]⟩ | _ => ⟨Nat, fun _ => []⟩
theorem row_ok : FnOk (mkR smM gsM) Try.prog η0 125 (FI.of Try.f125 true) rowS (.one (.int .i64)) rowC rowR := by
  refine fnOk_of0 smM_ok gsM_ok Try.fok125 (fun fds => match fds with | [.list _ na fa, .list _ nb fb] => rowI na fa nb fb | _ => alts fun _ => []) ?_
  intro fds hf hc
  obtain ⟨na, fa, ds0, rfl, ga, hf1⟩ := hf.list
  obtain ⟨nb, fb, ds1, rfl, gb, hf2⟩ := hf1.list
  obtain rfl := hf2.nil
  have hc : (Nat.ble na nb) = true := hc
  have hvc : (vcF smM gsM (FI.of Try.f125 true) rowS (.one (.int .i64)) (rowI na fa nb fb) noR [.list [.int .i64] na fa, .list [.int .i64] nb fb] (rowR [.list [.int .i64] na fa, .list [.int .i64] nb fb])) =
    ((true = true) ∧ (∃ y0 : Nat, ((∃ y1 : Nat, ((y1 ≤ na ∧ True) ∧ (((true = true) ∧ ((((Ref.root (0 : Nat) (0 : Nat)) = (Ref.root (0 : Nat) (0 : Nat))) ∧ (((FD.list [Sh.int IntKind.i64] na fa) = (FD.list [Sh.int IntKind.i64] na fa)) ∧ (true = true))) ∧ ((((Ref.root (0 : Nat) (1 : Nat)) = (Ref.root (0 : Nat) ((0 : Nat) + (1 : Nat)))) ∧ (((FD.list [Sh.int IntKind.i64] nb fb) = (FD.list [Sh.int IntKind.i64] nb fb)) ∧ (true = true))) ∧ ((((IntKind.i64) = (IntKind.i64)) ∧ ((dotF fa fb y1) = ((0 : Int)))) ∧ ((((IntKind.i64) = (IntKind.i64)) ∧ ((Int.ofNat y1) = ((0 : Int)))) ∧ True))))) ∧ True))) ∧ (∀ y1 : Nat, (y1 ≤ na → ((((decide (Int.ofNat y1 < Int.ofNat na)) = (true)) → ((((decide ((0 : Int) ≤ Int.ofNat y1) && decide (Int.ofNat y1 < (↑na : Int))) = (true)) → ((((decide ((0 : Int) ≤ Int.ofNat y1) && decide (Int.ofNat y1 < (↑nb : Int))) = (true)) → (∃ y2 : Nat, ((y2 ≤ na ∧ na - y2 < na - y1) ∧ (((true = true) ∧ ((((Ref.root (0 : Nat) (0 : Nat)) = (Ref.root (0 : Nat) (0 : Nat))) ∧ (((FD.list [Sh.int IntKind.i64] na fa) = (FD.list [Sh.int IntKind.i64] na fa)) ∧ (true = true))) ∧ ((((Ref.root (0 : Nat) (1 : Nat)) = (Ref.root (0 : Nat) (1 : Nat))) ∧ (((FD.list [Sh.int IntKind.i64] nb fb) = (FD.list [Sh.int IntKind.i64] nb fb)) ∧ (true = true))) ∧ ((((IntKind.i64) = (IntKind.i64)) ∧ ((dotF fa fb y2) = (IntKind.wrap IntKind.i64 (dotF fa fb y1 + IntKind.wrap IntKind.i64 (FD.i (fa (Int.toNat (Int.ofNat y1)) (0 : Nat)) * FD.i (fb (Int.toNat (Int.ofNat y1)) (0 : Nat))))))) ∧ ((((IntKind.i64) = (IntKind.i64)) ∧ ((Int.ofNat y2) = (IntKind.wrap IntKind.i64 (Int.ofNat y1 + (1 : Int))))) ∧ True))))) ∧ True)))) ∧ (((decide ((0 : Int) ≤ Int.ofNat y1) && decide (Int.ofNat y1 < (↑nb : Int))) = (false)) → False))) ∧ (((decide ((0 : Int) ≤ Int.ofNat y1) && decide (Int.ofNat y1 < (↑na : Int))) = (false)) → False))) ∧ (((decide (Int.ofNat y1 < Int.ofNat na)) = (false)) → (((IntKind.i64) = (IntKind.i64)) ∧ ((dotF fa fb na) = (dotF fa fb y1)))))))))) := by kernel_rfl
  refine hvc.mpr ?_
  clear hvc
  have hc := Nat.le_of_ble_eq_true hc
  have hl := ga.len
  have hl' : maxLen = 9223372036854775807 := rfl
  simp
  refine ⟨rfl, fun x hx => ⟨fun h => ⟨fun _ => ⟨fun _ => ⟨x + 1, ⟨by omega, by omega⟩, rfl, ?_⟩, by omega⟩, h⟩, fun h => by rw [show x = na by omega]⟩⟩
  rw [wrap_id (by omega) (by omega)]; rfl
def lowestS : List PT := [.one (.int .i64), .one (.int .i64)]
def lowestC : List FD → Bool
  | [.int _ a, .int _ b] => !decide (gcdF a b = 0)
  | _ => false
def lowestR : List FD → List FD
  | [.int _ a, .int _ b] => [.int .i64 (divF a (gcdF a b)), .int .i64 (divF b (gcdF a b))]
  | _ => []
def lowestI (_a : Int) (_b : Int) : Nat → AFam := alts (fun _ => [])
theorem lowest_ok : FnOk (mkR smM gsM) Try.prog η0 108 (FI.of Try.f108 true) lowestS (.agg [.int .i64, .int .i64]) lowestC lowestR := by
  refine fnOk_of0 smM_ok gsM_ok Try.fok108 (fun fds => match fds with | [.int _ a, .int _ b] => lowestI a b | _ => alts fun _ => []) ?_
  intro fds hf hc
  obtain ⟨a, ds0, rfl, hf1⟩ := hf.int
  obtain ⟨b, ds1, rfl, hf2⟩ := hf1.int
  obtain rfl := hf2.nil
  have hc : (!decide (gcdF a b = 0)) = true := hc
  have hvc : (vcF smM gsM (FI.of Try.f108 true) lowestS (.agg [.int .i64, .int .i64]) (lowestI a b) noR [.int .i64 a, .int .i64 b] (lowestR [.int .i64 a, .int .i64 b])) =
    ((true = true) ∧ (((true = true) → ((((!decide (gcdF a b = (0 : Int))) = (true)) → ((((!decide (gcdF a b = (0 : Int))) = (true)) → ((((IntKind.i64) = (IntKind.i64)) ∧ ((divF a (gcdF a b)) = (IntKind.wrap IntKind.i64 (Int.tdiv a (gcdF a b))))) ∧ ((((IntKind.i64) = (IntKind.i64)) ∧ ((divF b (gcdF a b)) = (IntKind.wrap IntKind.i64 (Int.tdiv b (gcdF a b))))) ∧ True))) ∧ (((!decide (gcdF a b = (0 : Int))) = (false)) → False))) ∧ (((!decide (gcdF a b = (0 : Int))) = (false)) → False))) ∧ ((true = false) → False))) := by kernel_rfl
  refine hvc.mpr ?_
  clear hvc
  simp only [Bool.not_eq_true', decide_eq_false_iff_not] at hc
  simp [hc, divF]
def columnS : List PT := [.one (.list [.list [.int .i64]]), .one (.int .i64)]
def columnC : List FD → Bool
  | [.list _ nt ft, .int _ k] => Nat.ble nt 1000000 && (decide (0 ≤ k) && natAll (fun i => decide (k < (ft i 0).ln)) nt)
  | _ => false
def columnR : List FD → List FD
  | [.list _ nt ft, .int _ k] => [.list [.int .i64] nt (fun i _ => .int .i64 ((ft i 0).fn k.toNat 0).i)]
  | _ => []
def columnI (nt : Nat) (ft : Nat → Nat → FD) (k : Int) : Nat → AFam := fun i => match i with | 3 => ⟨Nat, fun _ => [{ι := Nat, G := fun x => x = 0, μ := fun x => nt - x, tl := fun x => [(1, .one (.int IntKind.i64 (.tm k))), (5, .one (.slice none 0 (.known 0))), (8, .one (.fz (.root 0 0) (FD.list [Sh.list [Sh.int IntKind.i64]] nt ft))), (9, .one (.int IntKind.i64 (.tm (Int.ofNat nt)))), (10, .one (.int IntKind.i64 (.tm (Int.ofNat x))))], bl := fun _ => [], nx := (1 : Nat)}, {ι := Nat, G := fun x => 1 ≤ x ∧ x ≤ nt, μ := fun x => nt - x, tl := fun x => [(1, .one (.int IntKind.i64 (.tm k))), (5, .one (.own 1 x)), (8, .one (.fz (.root 0 0) (FD.list [Sh.list [Sh.int IntKind.i64]] nt ft))), (9, .one (.int IntKind.i64 (.tm (Int.ofNat nt)))), (10, .one (.int IntKind.i64 (.tm (Int.ofNat x))))], bl := fun x => [(1, .row 3 [.int .i64] x (fun i _ => .int .i64 ((ft i 0).fn k.toNat 0).i))], nx := 2}]⟩ | _ => ⟨Nat, fun _ => []⟩
theorem column_ok : FnOk (mkR smM gsM) Try.prog η0 122 (FI.of Try.f122 false) columnS (.one (.list [.int .i64])) columnC columnR := by
  refine fnOk_of0 smM_ok gsM_ok Try.fok122 (fun fds => match fds with | [.list _ nt ft, .int _ k] => columnI nt ft k | _ => alts fun _ => []) ?_
  intro fds hf hc
  obtain ⟨nt, ft, ds0, rfl, gt, hf1⟩ := hf.list
  obtain ⟨k, ds1, rfl, hf2⟩ := hf1.int
  obtain rfl := hf2.nil
  have hc : (Nat.ble nt 1000000 && (decide (0 ≤ k) && natAll (fun i => decide (k < (ft i 0).ln)) nt)) = true := hc
  have hvc : (vcF smM gsM (FI.of Try.f122 false) columnS (.one (.list [.int .i64])) (columnI nt ft k) noR [.list [.list [.int .i64]] nt ft, .int .i64 k] (columnR [.list [.list [.int .i64]] nt ft, .int .i64 k])) =
    ((true = true) ∧ (∃ y0 : Nat, (((∃ y1 : Nat, ((((y1) = ((0 : Nat))) ∧ True) ∧ (((true = true) ∧ ((((IntKind.i64) = (IntKind.i64)) ∧ ((k) = (k))) ∧ (((((0 : Nat)) = ((0 : Nat))) ∧ (((0 : Nat)) = ((0 : Nat)))) ∧ ((((Ref.root (0 : Nat) (0 : Nat)) = (Ref.root (0 : Nat) (0 : Nat))) ∧ (((FD.list [Sh.list [Sh.int IntKind.i64]] nt ft) = (FD.list [Sh.list [Sh.int IntKind.i64]] nt ft)) ∧ (true = true))) ∧ ((((IntKind.i64) = (IntKind.i64)) ∧ ((Int.ofNat nt) = (Int.ofNat nt))) ∧ ((((IntKind.i64) = (IntKind.i64)) ∧ ((Int.ofNat y1) = ((0 : Int)))) ∧ True)))))) ∧ True))) ∨ (∃ y1 : Nat, ((((1 : Nat) ≤ y1 ∧ y1 ≤ nt) ∧ True) ∧ (((true = true) ∧ ((((IntKind.i64) = (IntKind.i64)) ∧ ((k) = (k))) ∧ (False ∧ ((((Ref.root (0 : Nat) (0 : Nat)) = (Ref.root (0 : Nat) (0 : Nat))) ∧ (((FD.list [Sh.list [Sh.int IntKind.i64]] nt ft) = (FD.list [Sh.list [Sh.int IntKind.i64]] nt ft)) ∧ (true = true))) ∧ ((((IntKind.i64) = (IntKind.i64)) ∧ ((Int.ofNat nt) = (Int.ofNat nt))) ∧ ((((IntKind.i64) = (IntKind.i64)) ∧ ((Int.ofNat y1) = ((0 : Int)))) ∧ True)))))) ∧ (False ∧ True))))) ∧ ((∀ y1 : Nat, (((y1) = ((0 : Nat))) → ((((decide (Int.ofNat y1 < Int.ofNat nt)) = (true)) → ((((decide ((0 : Int) ≤ Int.ofNat y1) && decide (Int.ofNat y1 < (↑nt : Int))) = (true)) → ((((decide ((0 : Int) ≤ k) && decide (k < (↑(FD.ln (ft (Int.toNat (Int.ofNat y1)) (0 : Nat))) : Int))) = (true)) → (((true = true) → ((∃ y2 : Nat, ((((y2) = ((0 : Nat))) ∧ nt - y2 < nt - y1) ∧ (((true = true) ∧ ((((IntKind.i64) = (IntKind.i64)) ∧ ((k) = (k))) ∧ (False ∧ ((((Ref.root (0 : Nat) (0 : Nat)) = (Ref.root (0 : Nat) (0 : Nat))) ∧ (((FD.list [Sh.list [Sh.int IntKind.i64]] nt ft) = (FD.list [Sh.list [Sh.int IntKind.i64]] nt ft)) ∧ (true = true))) ∧ ((((IntKind.i64) = (IntKind.i64)) ∧ ((Int.ofNat nt) = (Int.ofNat nt))) ∧ ((((IntKind.i64) = (IntKind.i64)) ∧ ((Int.ofNat y2) = (IntKind.wrap IntKind.i64 (Int.ofNat y1 + (1 : Int))))) ∧ True)))))) ∧ True))) ∨ (∃ y2 : Nat, ((((1 : Nat) ≤ y2 ∧ y2 ≤ nt) ∧ nt - y2 < nt - y1) ∧ (((true = true) ∧ ((((IntKind.i64) = (IntKind.i64)) ∧ ((k) = (k))) ∧ ((((1, 2) ∈ ([(1, 2)] : List (Nat × Nat))) ∧ ((y2) = ((0 : Nat) + (1 : Nat)))) ∧ ((((Ref.root (0 : Nat) (0 : Nat)) = (Ref.root (0 : Nat) (0 : Nat))) ∧ (((FD.list [Sh.list [Sh.int IntKind.i64]] nt ft) = (FD.list [Sh.list [Sh.int IntKind.i64]] nt ft)) ∧ (true = true))) ∧ ((((IntKind.i64) = (IntKind.i64)) ∧ ((Int.ofNat nt) = (Int.ofNat nt))) ∧ ((((IntKind.i64) = (IntKind.i64)) ∧ ((Int.ofNat y2) = (IntKind.wrap IntKind.i64 (Int.ofNat y1 + (1 : Int))))) ∧ True)))))) ∧ (((((3 : TypeId)) = ((3 : TypeId))) ∧ ((([Sh.int IntKind.i64]) = ([Sh.int IntKind.i64])) ∧ (((y2) = ((0 : Nat) + (1 : Nat))) ∧ (∀ y3 : Nat, (y3 < y2 → (∀ y4 : Nat, (y4 < List.length [Sh.int IntKind.i64] → ((FD.int IntKind.i64 (FD.i (FD.fn (ft y3 (0 : Nat)) (Int.toNat k) (0 : Nat)))) = (atFD [FD.int IntKind.i64 (FD.i (FD.fn (ft (Int.toNat (Int.ofNat y1)) (0 : Nat)) (Int.toNat k) (0 : Nat)))] y4))))))))) ∧ True)))))) ∧ ((true = false) → False))) ∧ (((decide ((0 : Int) ≤ k) && decide (k < (↑(FD.ln (ft (Int.toNat (Int.ofNat y1)) (0 : Nat))) : Int))) = (false)) → False))) ∧ (((decide ((0 : Int) ≤ Int.ofNat y1) && decide (Int.ofNat y1 < (↑nt : Int))) = (false)) → False))) ∧ (((decide (Int.ofNat y1 < Int.ofNat nt)) = (false)) → ((nt) = ((0 : Nat))))))) ∧ (∀ y1 : Nat, (((1 : Nat) ≤ y1 ∧ y1 ≤ nt) → ((((decide (Int.ofNat y1 < Int.ofNat nt)) = (true)) → ((((decide ((0 : Int) ≤ Int.ofNat y1) && decide (Int.ofNat y1 < (↑nt : Int))) = (true)) → ((((decide ((0 : Int) ≤ k) && decide (k < (↑(FD.ln (ft (Int.toNat (Int.ofNat y1)) (0 : Nat))) : Int))) = (true)) → ((((Nat.beq y1 y1 && (true && Nat.ble (y1 + (1 : Nat)) (1000000 : Nat))) = (true)) → ((∃ y2 : Nat, ((((y2) = ((0 : Nat))) ∧ nt - y2 < nt - y1) ∧ (((true = true) ∧ ((((IntKind.i64) = (IntKind.i64)) ∧ ((k) = (k))) ∧ (False ∧ ((((Ref.root (0 : Nat) (0 : Nat)) = (Ref.root (0 : Nat) (0 : Nat))) ∧ (((FD.list [Sh.list [Sh.int IntKind.i64]] nt ft) = (FD.list [Sh.list [Sh.int IntKind.i64]] nt ft)) ∧ (true = true))) ∧ ((((IntKind.i64) = (IntKind.i64)) ∧ ((Int.ofNat nt) = (Int.ofNat nt))) ∧ ((((IntKind.i64) = (IntKind.i64)) ∧ ((Int.ofNat y2) = (IntKind.wrap IntKind.i64 (Int.ofNat y1 + (1 : Int))))) ∧ True)))))) ∧ True))) ∨ (∃ y2 : Nat, ((((1 : Nat) ≤ y2 ∧ y2 ≤ nt) ∧ nt - y2 < nt - y1) ∧ (((true = true) ∧ ((((IntKind.i64) = (IntKind.i64)) ∧ ((k) = (k))) ∧ ((((1, 3) ∈ ([(1, 3)] : List (Nat × Nat))) ∧ ((y2) = (y1 + (1 : Nat)))) ∧ ((((Ref.root (0 : Nat) (0 : Nat)) = (Ref.root (0 : Nat) (0 : Nat))) ∧ (((FD.list [Sh.list [Sh.int IntKind.i64]] nt ft) = (FD.list [Sh.list [Sh.int IntKind.i64]] nt ft)) ∧ (true = true))) ∧ ((((IntKind.i64) = (IntKind.i64)) ∧ ((Int.ofNat nt) = (Int.ofNat nt))) ∧ ((((IntKind.i64) = (IntKind.i64)) ∧ ((Int.ofNat y2) = (IntKind.wrap IntKind.i64 (Int.ofNat y1 + (1 : Int))))) ∧ True)))))) ∧ (((((3 : TypeId)) = ((3 : TypeId))) ∧ ((([Sh.int IntKind.i64]) = ([Sh.int IntKind.i64])) ∧ (((y2) = (y1 + (1 : Nat))) ∧ (∀ y3 : Nat, (y3 < y2 → (∀ y4 : Nat, (y4 < List.length [Sh.int IntKind.i64] → ((FD.int IntKind.i64 (FD.i (FD.fn (ft y3 (0 : Nat)) (Int.toNat k) (0 : Nat)))) = (bif Nat.blt y3 y1 then FD.int IntKind.i64 (FD.i (FD.fn (ft y3 (0 : Nat)) (Int.toNat k) (0 : Nat))) else atFD [FD.int IntKind.i64 (FD.i (FD.fn (ft (Int.toNat (Int.ofNat y1)) (0 : Nat)) (Int.toNat k) (0 : Nat)))] y4))))))))) ∧ True)))))) ∧ (((Nat.beq y1 y1 && (true && Nat.ble (y1 + (1 : Nat)) (1000000 : Nat))) = (false)) → False))) ∧ (((decide ((0 : Int) ≤ k) && decide (k < (↑(FD.ln (ft (Int.toNat (Int.ofNat y1)) (0 : Nat))) : Int))) = (false)) → False))) ∧ (((decide ((0 : Int) ≤ Int.ofNat y1) && decide (Int.ofNat y1 < (↑nt : Int))) = (false)) → False))) ∧ (((decide (Int.ofNat y1 < Int.ofNat nt)) = (false)) → ((1 : Nat) ≤ (1 : Nat) ∧ ((([Sh.int IntKind.i64]) = ([Sh.int IntKind.i64])) ∧ (((y1) = (y1)) ∧ (((nt) = (y1)) ∧ (∀ y2 : Nat, (y2 < y1 → (∀ y3 : Nat, (y3 < List.length [Sh.int IntKind.i64] → ((FD.int IntKind.i64 (FD.i (FD.fn (ft y2 (0 : Nat)) (Int.toNat k) (0 : Nat)))) = (FD.int IntKind.i64 (FD.i (FD.fn (ft y2 (0 : Nat)) (Int.toNat k) (0 : Nat))))))))))))))))))))) := by kernel_rfl
  refine hvc.mpr ?_
  clear hvc
  simp only [Bool.and_eq_true, decide_eq_true_eq] at hc
  have hc1 := Nat.le_of_ble_eq_true hc.1
  have hk : ∀ i, i < nt → k < ((ft i 0).ln : Int) := fun i hi => of_decide_eq_true (natAll_spec hc.2.2 i hi)
  have hk0 := hc.2.1
  simp [hk0]
  have w1 : ∀ j : Nat, j < 10000000 → ((j + 1 : Nat) : Int) = IntKind.i64.wrap ((j : Int) + 1) := fun j hj => by
    rw [wrap_id (by omega) (by omega)]
    rfl
  refine ⟨fun h => ⟨fun _ => ⟨fun _ => ⟨1, ⟨⟨by omega, by omega⟩, by omega⟩, ⟨rfl, w1 0 (by omega)⟩, rfl, fun y hy => ?_⟩, hk 0 h⟩, h⟩, fun x h1 h2 => ⟨fun h => ⟨fun _ => ⟨fun _ => ⟨fun _ => ⟨x + 1, ⟨⟨by omega, by omega⟩, by omega⟩, ⟨rfl, w1 x (by omega)⟩, rfl, fun y hy => bif_app (f := fun y => FD.int IntKind.i64 ((ft y 0).fn k.toNat 0).i) hy rfl⟩, by omega⟩, hk x h⟩, h⟩, fun h => by omega⟩⟩
  obtain rfl : y = 0 := by omega
  rfl
def cmpN : Nat → Nat → Nat → Nat → Nat → Int
  | 0, _, _, _, _ => 0
  | f + 1, n, d, m, k => if n / d < m / k then -1 else if m / k < n / d then 1 else if n % d = 0 then (if m % k = 0 then 0 else -1) else if m % k = 0 then 1 else cmpN f k (m % k) d (n % d)
theorem cmpN_fuel : ∀ (f g n d m k : Nat), d + k < f → d + k < g → 0 < d → 0 < k → cmpN f n d m k = cmpN g n d m k
  | 0, _, _, _, _, _, h, _, _, _ => by omega
  | _, 0, _, _, _, _, _, h, _, _ => by omega
  | f + 1, g + 1, n, d, m, k, h1, h2, hd, hk => by
    have e1 := Nat.mod_lt n hd
    have e2 := Nat.mod_lt m hk
    simp only [cmpN]
    by_cases a : n / d < m / k
    · rw [if_pos a, if_pos a]
    · rw [if_neg a, if_neg a]
      by_cases b : m / k < n / d
      · rw [if_pos b, if_pos b]
      · rw [if_neg b, if_neg b]
        by_cases c : n % d = 0
        · rw [if_pos c, if_pos c]
        · rw [if_neg c, if_neg c]
          by_cases c' : m % k = 0
          · rw [if_pos c', if_pos c']
          · rw [if_neg c', if_neg c']
            exact cmpN_fuel f g k (m % k) d (n % d) (by omega) (by omega) (by omega) (by omega)
/-- A quotient that is not greater. -/
theorem cmpN_le : ∀ (f n d m k : Nat), 0 < d → 0 < k → n * k ≤ m * d → cmpN f n d m k ≤ 0
  | 0, _, _, _, _, _, _, _ => by simp [cmpN]
  | f + 1, n, d, m, k, hd, hk, h => by
    have e1 := Nat.mod_lt n hd
    have e2 := Nat.mod_lt m hk
    have q1 := Nat.div_add_mod n d
    have q2 := Nat.div_add_mod m k
    simp only [cmpN]
    by_cases a : n / d < m / k
    · rw [if_pos a]; omega
    · rw [if_neg a]
      by_cases b : m / k < n / d
      · exfalso
        have h1 : m < k * (m / k + 1) := by rw [Nat.mul_add]; omega
        have h2 : d * (m / k + 1) ≤ n := by
          have := Nat.mul_le_mul_left d (show m / k + 1 ≤ n / d from b)
          omega
        have h3 : m * d < k * (m / k + 1) * d := Nat.mul_lt_mul_of_pos_right h1 hd
        have h4 : d * (m / k + 1) * k ≤ n * k := Nat.mul_le_mul_right k h2
        have h5 : k * (m / k + 1) * d = d * (m / k + 1) * k := by
          rw [Nat.mul_comm k, Nat.mul_comm d, Nat.mul_assoc, Nat.mul_assoc, Nat.mul_comm k d]
        omega
      · rw [if_neg b]
        have hq : n / d = m / k := by omega
        have h' : n % d * k ≤ m % k * d := by
          have a1 : n * k = d * (n / d) * k + n % d * k := by rw [← Nat.add_mul, q1]
          have a2 : m * d = k * (m / k) * d + m % k * d := by rw [← Nat.add_mul, q2]
          have a3 : d * (n / d) * k = k * (m / k) * d := by
            rw [hq, Nat.mul_comm d, Nat.mul_comm k, Nat.mul_assoc, Nat.mul_assoc, Nat.mul_comm k d]
          omega
        by_cases c : n % d = 0
        · rw [if_pos c]
          split <;> omega
        · rw [if_neg c]
          by_cases c' : m % k = 0
          · exfalso
            rw [c', Nat.zero_mul] at h'
            have := Nat.mul_pos (show 0 < n % d by omega) hk
            omega
          · rw [if_neg c']
            exact cmpN_le f k (m % k) d (n % d) (by omega) (by omega) (by rw [Nat.mul_comm k, Nat.mul_comm d]; exact h')
def FloorS : List PT := [.one (.int .i64), .one (.int .i64)]
def FloorC : List FD → Bool
  | [.int _ n, .int _ b] => decide (0 ≤ n) && (decide (n ≤ 1000000000000000000) && decide (0 < b))
  | _ => false
def FloorR : List FD → List FD
  | [.int _ n, .int _ b] => [.int .i64 (n / b)]
  | _ => []
def FloorI (_n : Int) (_b : Int) : Nat → AFam := alts (fun _ => [])
theorem Floor_ok : FnOk (mkR smM gsM) Try.prog η0 112 (FI.of Try.f112 true) FloorS (.one (.int .i64)) FloorC FloorR := by
  refine fnOk_of0 smM_ok gsM_ok Try.fok112 (fun fds => match fds with | [.int _ n, .int _ b] => FloorI n b | _ => alts fun _ => []) ?_
  intro fds hf hc
  obtain ⟨n, ds0, rfl, hf1⟩ := hf.int
  obtain ⟨b, ds1, rfl, hf2⟩ := hf1.int
  obtain rfl := hf2.nil
  have hc : (decide (0 ≤ n) && (decide (n ≤ 1000000000000000000) && decide (0 < b))) = true := hc
  have hvc : (vcF smM gsM (FI.of Try.f112 true) FloorS (.one (.int .i64)) (FloorI n b) noR [.int .i64 n, .int .i64 b] (FloorR [.int .i64 n, .int .i64 b])) =
    ((true = true) ∧ ((((!decide (b = (0 : Int))) = (true)) → ((((!decide (b = (0 : Int))) = (true)) → ((((decide (Int.tmod n b < (0 : Int))) = (true)) → (((IntKind.i64) = (IntKind.i64)) ∧ ((n / b) = (IntKind.wrap IntKind.i64 (IntKind.wrap IntKind.i64 (Int.tdiv n b) - (1 : Int)))))) ∧ (((decide (Int.tmod n b < (0 : Int))) = (false)) → (((IntKind.i64) = (IntKind.i64)) ∧ ((n / b) = (IntKind.wrap IntKind.i64 (Int.tdiv n b))))))) ∧ (((!decide (b = (0 : Int))) = (false)) → False))) ∧ (((!decide (b = (0 : Int))) = (false)) → False))) := by kernel_rfl
  refine hvc.mpr ?_
  clear hvc
  simp only [Bool.and_eq_true, decide_eq_true_eq] at hc
  obtain ⟨A, rfl⟩ := Int.eq_ofNat_of_zero_le hc.1
  obtain ⟨B, rfl⟩ := Int.eq_ofNat_of_zero_le (show 0 ≤ b by omega)
  have e0 : (A : Int) / B = ((A / B : Nat) : Int) := by rw [Int.natCast_ediv]
  have e1 : ((A : Int).tdiv B) = ((A / B : Nat) : Int) := by rw [Int.tdiv_eq_ediv_of_nonneg (by omega), Int.natCast_ediv]
  have e2 : ((A : Int).tmod B) = ((A % B : Nat) : Int) := by rw [Int.tmod_eq_emod_of_nonneg (by omega), Int.natCast_emod]
  have e3 : ¬ (B : Int) = 0 := by omega
  have e4 : A / B ≤ A := Nat.div_le_self _ _
  generalize A / B = q at *
  have e5 : IntKind.i64.wrap (q : Int) = (q : Int) := wrap_id (by omega) (by omega)
  have e6 : ¬ ((A % B : Nat) : Int) < 0 := by omega
  rw [e0]
  simp only [e1, e2, e5]
  have e7 : ¬ B = 0 := by omega
  simp [e6, e7, -Int.natCast_ediv, -Int.natCast_emod]
def smN : T Smf := (T.set smM 112 (some (gFd FloorS (.one (.int .i64)) FloorC FloorR)))
theorem smN_ok : Tab SmOk smN := (Tab.set smM_ok (by kernel_rfl) (smOk_of smM_ok gsM_ok Floor_ok rfl))
def CompareS : List PT := [.one (.int .i64), .one (.int .i64), .one (.int .i64), .one (.int .i64)]
def CompareC : List FD → Bool
  | [.int _ n, .int _ d, .int _ m, .int _ k] => (decide (0 ≤ n) && (decide (n ≤ 1000000000000000000) && (decide (0 < d) && decide (d ≤ 1000000000000000000)))) && (decide (0 ≤ m) && (decide (m ≤ 1000000000000000000) && (decide (0 < k) && decide (k ≤ 1000000000000000000))))
  | _ => false
def CompareR : List FD → List FD
  | [.int _ n, .int _ d, .int _ m, .int _ k] => [.int .i64 (cmpN (d.toNat + k.toNat + 1) n.toNat d.toNat m.toNat k.toNat)]
  | _ => []
def CompareI (n : Int) (d : Int) (m : Int) (k : Int) : Nat → AFam := fun i => match i with | 1 => ⟨Nat, fun _ => [{ι := Nat × Nat × Nat × Nat, G := fun x => ((x.1 ≤ 1000000000000000000 ∧ x.2.2.1 ≤ 1000000000000000000) ∧ (0 < x.2.1 ∧ x.2.1 ≤ 1000000000000000000) ∧ (0 < x.2.2.2 ∧ x.2.2.2 ≤ 1000000000000000000)) ∧ cmpN (x.2.1 + x.2.2.2 + 1) x.1 x.2.1 x.2.2.1 x.2.2.2 = cmpN (d.toNat + k.toNat + 1) n.toNat d.toNat m.toNat k.toNat, μ := fun x => x.2.1 + x.2.2.2, tl := fun x => [(0, .one (.int IntKind.i64 (.tm (Int.ofNat x.1)))), (1, .one (.int IntKind.i64 (.tm (Int.ofNat x.2.1)))), (2, .one (.int IntKind.i64 (.tm (Int.ofNat x.2.2.1)))), (3, .one (.int IntKind.i64 (.tm (Int.ofNat x.2.2.2))))], bl := fun _ => [], nx := (1 : Nat)}]⟩ | _ => ⟨Nat, fun _ => []⟩
theorem Compare_ok : FnOk (mkR smN gsM) Try.prog η0 40 (FI.of Try.f40 true) CompareS (.one (.int .i64)) CompareC CompareR := by
  refine fnOk_of0 smN_ok gsM_ok Try.fok40 (fun fds => match fds with | [.int _ n, .int _ d, .int _ m, .int _ k] => CompareI n d m k | _ => alts fun _ => []) ?_
  intro fds hf hc
  obtain ⟨n, ds0, rfl, hf1⟩ := hf.int
  obtain ⟨d, ds1, rfl, hf2⟩ := hf1.int
  obtain ⟨m, ds2, rfl, hf3⟩ := hf2.int
  obtain ⟨k, ds3, rfl, hf4⟩ := hf3.int
  obtain rfl := hf4.nil
  have hc : ((decide (0 ≤ n) && (decide (n ≤ 1000000000000000000) && (decide (0 < d) && decide (d ≤ 1000000000000000000)))) && (decide (0 ≤ m) && (decide (m ≤ 1000000000000000000) && (decide (0 < k) && decide (k ≤ 1000000000000000000))))) = true := hc
  have hvc : (vcF smN gsM (FI.of Try.f40 true) CompareS (.one (.int .i64)) (CompareI n d m k) noR [.int .i64 n, .int .i64 d, .int .i64 m, .int .i64 k] (CompareR [.int .i64 n, .int .i64 d, .int .i64 m, .int .i64 k])) =
    ((true = true) ∧ (∃ y0 : Nat, ((∃ y1 : Nat × Nat × Nat × Nat, (((((Prod.fst y1 ≤ (1000000000000000000 : Nat) ∧ Prod.fst (Prod.snd (Prod.snd y1)) ≤ (1000000000000000000 : Nat)) ∧ (((0 : Nat) < Prod.fst (Prod.snd y1) ∧ Prod.fst (Prod.snd y1) ≤ (1000000000000000000 : Nat)) ∧ ((0 : Nat) < Prod.snd (Prod.snd (Prod.snd y1)) ∧ Prod.snd (Prod.snd (Prod.snd y1)) ≤ (1000000000000000000 : Nat)))) ∧ ((cmpN (Prod.fst (Prod.snd y1) + Prod.snd (Prod.snd (Prod.snd y1)) + (1 : Nat)) (Prod.fst y1) (Prod.fst (Prod.snd y1)) (Prod.fst (Prod.snd (Prod.snd y1))) (Prod.snd (Prod.snd (Prod.snd y1)))) = (cmpN (Int.toNat d + Int.toNat k + (1 : Nat)) (Int.toNat n) (Int.toNat d) (Int.toNat m) (Int.toNat k)))) ∧ True) ∧ (((true = true) ∧ ((((IntKind.i64) = (IntKind.i64)) ∧ ((Int.ofNat (Prod.fst y1)) = (n))) ∧ ((((IntKind.i64) = (IntKind.i64)) ∧ ((Int.ofNat (Prod.fst (Prod.snd y1))) = (d))) ∧ ((((IntKind.i64) = (IntKind.i64)) ∧ ((Int.ofNat (Prod.fst (Prod.snd (Prod.snd y1)))) = (m))) ∧ ((((IntKind.i64) = (IntKind.i64)) ∧ ((Int.ofNat (Prod.snd (Prod.snd (Prod.snd y1)))) = (k))) ∧ True))))) ∧ True))) ∧ (∀ y1 : Nat × Nat × Nat × Nat, ((((Prod.fst y1 ≤ (1000000000000000000 : Nat) ∧ Prod.fst (Prod.snd (Prod.snd y1)) ≤ (1000000000000000000 : Nat)) ∧ (((0 : Nat) < Prod.fst (Prod.snd y1) ∧ Prod.fst (Prod.snd y1) ≤ (1000000000000000000 : Nat)) ∧ ((0 : Nat) < Prod.snd (Prod.snd (Prod.snd y1)) ∧ Prod.snd (Prod.snd (Prod.snd y1)) ≤ (1000000000000000000 : Nat)))) ∧ ((cmpN (Prod.fst (Prod.snd y1) + Prod.snd (Prod.snd (Prod.snd y1)) + (1 : Nat)) (Prod.fst y1) (Prod.fst (Prod.snd y1)) (Prod.fst (Prod.snd (Prod.snd y1))) (Prod.snd (Prod.snd (Prod.snd y1)))) = (cmpN (Int.toNat d + Int.toNat k + (1 : Nat)) (Int.toNat n) (Int.toNat d) (Int.toNat m) (Int.toNat k)))) → ((((FloorC [FD.int IntKind.i64 (Int.ofNat (Prod.fst y1)), FD.int IntKind.i64 (Int.ofNat (Prod.fst (Prod.snd y1)))]) = (true)) → ((((FloorC [FD.int IntKind.i64 (Int.ofNat (Prod.fst (Prod.snd (Prod.snd y1)))), FD.int IntKind.i64 (Int.ofNat (Prod.snd (Prod.snd (Prod.snd y1))))]) = (true)) → ((((decide (Int.ofNat (Prod.fst y1) / Int.ofNat (Prod.fst (Prod.snd y1)) < Int.ofNat (Prod.fst (Prod.snd (Prod.snd y1))) / Int.ofNat (Prod.snd (Prod.snd (Prod.snd y1))))) = (true)) → (((IntKind.i64) = (IntKind.i64)) ∧ ((cmpN (Int.toNat d + Int.toNat k + (1 : Nat)) (Int.toNat n) (Int.toNat d) (Int.toNat m) (Int.toNat k)) = ((-1 : Int))))) ∧ (((decide (Int.ofNat (Prod.fst y1) / Int.ofNat (Prod.fst (Prod.snd y1)) < Int.ofNat (Prod.fst (Prod.snd (Prod.snd y1))) / Int.ofNat (Prod.snd (Prod.snd (Prod.snd y1))))) = (false)) → ((((decide (Int.ofNat (Prod.fst (Prod.snd (Prod.snd y1))) / Int.ofNat (Prod.snd (Prod.snd (Prod.snd y1))) < Int.ofNat (Prod.fst y1) / Int.ofNat (Prod.fst (Prod.snd y1)))) = (true)) → (((IntKind.i64) = (IntKind.i64)) ∧ ((cmpN (Int.toNat d + Int.toNat k + (1 : Nat)) (Int.toNat n) (Int.toNat d) (Int.toNat m) (Int.toNat k)) = ((1 : Int))))) ∧ (((decide (Int.ofNat (Prod.fst (Prod.snd (Prod.snd y1))) / Int.ofNat (Prod.snd (Prod.snd (Prod.snd y1))) < Int.ofNat (Prod.fst y1) / Int.ofNat (Prod.fst (Prod.snd y1)))) = (false)) → ((((decide (IntKind.wrap IntKind.i64 (Int.ofNat (Prod.fst y1) - IntKind.wrap IntKind.i64 (Int.ofNat (Prod.fst y1) / Int.ofNat (Prod.fst (Prod.snd y1)) * Int.ofNat (Prod.fst (Prod.snd y1)))) = (0 : Int))) = (true)) → ((((decide (IntKind.wrap IntKind.i64 (Int.ofNat (Prod.fst (Prod.snd (Prod.snd y1))) - IntKind.wrap IntKind.i64 (Int.ofNat (Prod.fst (Prod.snd (Prod.snd y1))) / Int.ofNat (Prod.snd (Prod.snd (Prod.snd y1))) * Int.ofNat (Prod.snd (Prod.snd (Prod.snd y1))))) = (0 : Int))) = (true)) → (((IntKind.i64) = (IntKind.i64)) ∧ ((cmpN (Int.toNat d + Int.toNat k + (1 : Nat)) (Int.toNat n) (Int.toNat d) (Int.toNat m) (Int.toNat k)) = ((0 : Int))))) ∧ (((decide (IntKind.wrap IntKind.i64 (Int.ofNat (Prod.fst (Prod.snd (Prod.snd y1))) - IntKind.wrap IntKind.i64 (Int.ofNat (Prod.fst (Prod.snd (Prod.snd y1))) / Int.ofNat (Prod.snd (Prod.snd (Prod.snd y1))) * Int.ofNat (Prod.snd (Prod.snd (Prod.snd y1))))) = (0 : Int))) = (false)) → ((((decide (IntKind.wrap IntKind.i64 (Int.ofNat (Prod.fst y1) - IntKind.wrap IntKind.i64 (Int.ofNat (Prod.fst y1) / Int.ofNat (Prod.fst (Prod.snd y1)) * Int.ofNat (Prod.fst (Prod.snd y1)))) = (0 : Int))) = (true)) → (((IntKind.i64) = (IntKind.i64)) ∧ ((cmpN (Int.toNat d + Int.toNat k + (1 : Nat)) (Int.toNat n) (Int.toNat d) (Int.toNat m) (Int.toNat k)) = ((-1 : Int))))) ∧ (((decide (IntKind.wrap IntKind.i64 (Int.ofNat (Prod.fst y1) - IntKind.wrap IntKind.i64 (Int.ofNat (Prod.fst y1) / Int.ofNat (Prod.fst (Prod.snd y1)) * Int.ofNat (Prod.fst (Prod.snd y1)))) = (0 : Int))) = (false)) → ((((decide (IntKind.wrap IntKind.i64 (Int.ofNat (Prod.fst (Prod.snd (Prod.snd y1))) - IntKind.wrap IntKind.i64 (Int.ofNat (Prod.fst (Prod.snd (Prod.snd y1))) / Int.ofNat (Prod.snd (Prod.snd (Prod.snd y1))) * Int.ofNat (Prod.snd (Prod.snd (Prod.snd y1))))) = (0 : Int))) = (true)) → (((IntKind.i64) = (IntKind.i64)) ∧ ((cmpN (Int.toNat d + Int.toNat k + (1 : Nat)) (Int.toNat n) (Int.toNat d) (Int.toNat m) (Int.toNat k)) = ((1 : Int))))) ∧ (((decide (IntKind.wrap IntKind.i64 (Int.ofNat (Prod.fst (Prod.snd (Prod.snd y1))) - IntKind.wrap IntKind.i64 (Int.ofNat (Prod.fst (Prod.snd (Prod.snd y1))) / Int.ofNat (Prod.snd (Prod.snd (Prod.snd y1))) * Int.ofNat (Prod.snd (Prod.snd (Prod.snd y1))))) = (0 : Int))) = (false)) → (∃ y2 : Nat × Nat × Nat × Nat, (((((Prod.fst y2 ≤ (1000000000000000000 : Nat) ∧ Prod.fst (Prod.snd (Prod.snd y2)) ≤ (1000000000000000000 : Nat)) ∧ (((0 : Nat) < Prod.fst (Prod.snd y2) ∧ Prod.fst (Prod.snd y2) ≤ (1000000000000000000 : Nat)) ∧ ((0 : Nat) < Prod.snd (Prod.snd (Prod.snd y2)) ∧ Prod.snd (Prod.snd (Prod.snd y2)) ≤ (1000000000000000000 : Nat)))) ∧ ((cmpN (Prod.fst (Prod.snd y2) + Prod.snd (Prod.snd (Prod.snd y2)) + (1 : Nat)) (Prod.fst y2) (Prod.fst (Prod.snd y2)) (Prod.fst (Prod.snd (Prod.snd y2))) (Prod.snd (Prod.snd (Prod.snd y2)))) = (cmpN (Int.toNat d + Int.toNat k + (1 : Nat)) (Int.toNat n) (Int.toNat d) (Int.toNat m) (Int.toNat k)))) ∧ Prod.fst (Prod.snd y2) + Prod.snd (Prod.snd (Prod.snd y2)) < Prod.fst (Prod.snd y1) + Prod.snd (Prod.snd (Prod.snd y1))) ∧ (((true = true) ∧ ((((IntKind.i64) = (IntKind.i64)) ∧ ((Int.ofNat (Prod.fst y2)) = (Int.ofNat (Prod.snd (Prod.snd (Prod.snd y1)))))) ∧ ((((IntKind.i64) = (IntKind.i64)) ∧ ((Int.ofNat (Prod.fst (Prod.snd y2))) = (IntKind.wrap IntKind.i64 (Int.ofNat (Prod.fst (Prod.snd (Prod.snd y1))) - IntKind.wrap IntKind.i64 (Int.ofNat (Prod.fst (Prod.snd (Prod.snd y1))) / Int.ofNat (Prod.snd (Prod.snd (Prod.snd y1))) * Int.ofNat (Prod.snd (Prod.snd (Prod.snd y1)))))))) ∧ ((((IntKind.i64) = (IntKind.i64)) ∧ ((Int.ofNat (Prod.fst (Prod.snd (Prod.snd y2)))) = (Int.ofNat (Prod.fst (Prod.snd y1))))) ∧ ((((IntKind.i64) = (IntKind.i64)) ∧ ((Int.ofNat (Prod.snd (Prod.snd (Prod.snd y2)))) = (IntKind.wrap IntKind.i64 (Int.ofNat (Prod.fst y1) - IntKind.wrap IntKind.i64 (Int.ofNat (Prod.fst y1) / Int.ofNat (Prod.fst (Prod.snd y1)) * Int.ofNat (Prod.fst (Prod.snd y1))))))) ∧ True))))) ∧ True)))))))))) ∧ (((decide (IntKind.wrap IntKind.i64 (Int.ofNat (Prod.fst y1) - IntKind.wrap IntKind.i64 (Int.ofNat (Prod.fst y1) / Int.ofNat (Prod.fst (Prod.snd y1)) * Int.ofNat (Prod.fst (Prod.snd y1)))) = (0 : Int))) = (false)) → ((((decide (IntKind.wrap IntKind.i64 (Int.ofNat (Prod.fst y1) - IntKind.wrap IntKind.i64 (Int.ofNat (Prod.fst y1) / Int.ofNat (Prod.fst (Prod.snd y1)) * Int.ofNat (Prod.fst (Prod.snd y1)))) = (0 : Int))) = (true)) → (((IntKind.i64) = (IntKind.i64)) ∧ ((cmpN (Int.toNat d + Int.toNat k + (1 : Nat)) (Int.toNat n) (Int.toNat d) (Int.toNat m) (Int.toNat k)) = ((-1 : Int))))) ∧ (((decide (IntKind.wrap IntKind.i64 (Int.ofNat (Prod.fst y1) - IntKind.wrap IntKind.i64 (Int.ofNat (Prod.fst y1) / Int.ofNat (Prod.fst (Prod.snd y1)) * Int.ofNat (Prod.fst (Prod.snd y1)))) = (0 : Int))) = (false)) → ((((decide (IntKind.wrap IntKind.i64 (Int.ofNat (Prod.fst (Prod.snd (Prod.snd y1))) - IntKind.wrap IntKind.i64 (Int.ofNat (Prod.fst (Prod.snd (Prod.snd y1))) / Int.ofNat (Prod.snd (Prod.snd (Prod.snd y1))) * Int.ofNat (Prod.snd (Prod.snd (Prod.snd y1))))) = (0 : Int))) = (true)) → (((IntKind.i64) = (IntKind.i64)) ∧ ((cmpN (Int.toNat d + Int.toNat k + (1 : Nat)) (Int.toNat n) (Int.toNat d) (Int.toNat m) (Int.toNat k)) = ((1 : Int))))) ∧ (((decide (IntKind.wrap IntKind.i64 (Int.ofNat (Prod.fst (Prod.snd (Prod.snd y1))) - IntKind.wrap IntKind.i64 (Int.ofNat (Prod.fst (Prod.snd (Prod.snd y1))) / Int.ofNat (Prod.snd (Prod.snd (Prod.snd y1))) * Int.ofNat (Prod.snd (Prod.snd (Prod.snd y1))))) = (0 : Int))) = (false)) → (∃ y2 : Nat × Nat × Nat × Nat, (((((Prod.fst y2 ≤ (1000000000000000000 : Nat) ∧ Prod.fst (Prod.snd (Prod.snd y2)) ≤ (1000000000000000000 : Nat)) ∧ (((0 : Nat) < Prod.fst (Prod.snd y2) ∧ Prod.fst (Prod.snd y2) ≤ (1000000000000000000 : Nat)) ∧ ((0 : Nat) < Prod.snd (Prod.snd (Prod.snd y2)) ∧ Prod.snd (Prod.snd (Prod.snd y2)) ≤ (1000000000000000000 : Nat)))) ∧ ((cmpN (Prod.fst (Prod.snd y2) + Prod.snd (Prod.snd (Prod.snd y2)) + (1 : Nat)) (Prod.fst y2) (Prod.fst (Prod.snd y2)) (Prod.fst (Prod.snd (Prod.snd y2))) (Prod.snd (Prod.snd (Prod.snd y2)))) = (cmpN (Int.toNat d + Int.toNat k + (1 : Nat)) (Int.toNat n) (Int.toNat d) (Int.toNat m) (Int.toNat k)))) ∧ Prod.fst (Prod.snd y2) + Prod.snd (Prod.snd (Prod.snd y2)) < Prod.fst (Prod.snd y1) + Prod.snd (Prod.snd (Prod.snd y1))) ∧ (((true = true) ∧ ((((IntKind.i64) = (IntKind.i64)) ∧ ((Int.ofNat (Prod.fst y2)) = (Int.ofNat (Prod.snd (Prod.snd (Prod.snd y1)))))) ∧ ((((IntKind.i64) = (IntKind.i64)) ∧ ((Int.ofNat (Prod.fst (Prod.snd y2))) = (IntKind.wrap IntKind.i64 (Int.ofNat (Prod.fst (Prod.snd (Prod.snd y1))) - IntKind.wrap IntKind.i64 (Int.ofNat (Prod.fst (Prod.snd (Prod.snd y1))) / Int.ofNat (Prod.snd (Prod.snd (Prod.snd y1))) * Int.ofNat (Prod.snd (Prod.snd (Prod.snd y1)))))))) ∧ ((((IntKind.i64) = (IntKind.i64)) ∧ ((Int.ofNat (Prod.fst (Prod.snd (Prod.snd y2)))) = (Int.ofNat (Prod.fst (Prod.snd y1))))) ∧ ((((IntKind.i64) = (IntKind.i64)) ∧ ((Int.ofNat (Prod.snd (Prod.snd (Prod.snd y2)))) = (IntKind.wrap IntKind.i64 (Int.ofNat (Prod.fst y1) - IntKind.wrap IntKind.i64 (Int.ofNat (Prod.fst y1) / Int.ofNat (Prod.fst (Prod.snd y1)) * Int.ofNat (Prod.fst (Prod.snd y1))))))) ∧ True))))) ∧ True)))))))))))))) ∧ (((FloorC [FD.int IntKind.i64 (Int.ofNat (Prod.fst (Prod.snd (Prod.snd y1)))), FD.int IntKind.i64 (Int.ofNat (Prod.snd (Prod.snd (Prod.snd y1))))]) = (false)) → False))) ∧ (((FloorC [FD.int IntKind.i64 (Int.ofNat (Prod.fst y1)), FD.int IntKind.i64 (Int.ofNat (Prod.fst (Prod.snd y1)))]) = (false)) → False))))))) := by kernel_rfl
  refine hvc.mpr ?_
  clear hvc
  simp only [Bool.and_eq_true, decide_eq_true_eq] at hc
  obtain ⟨N, rfl⟩ := Int.eq_ofNat_of_zero_le hc.1.1
  obtain ⟨D, rfl⟩ := Int.eq_ofNat_of_zero_le (show 0 ≤ d by omega)
  obtain ⟨M, rfl⟩ := Int.eq_ofNat_of_zero_le hc.2.1
  obtain ⟨K, rfl⟩ := Int.eq_ofNat_of_zero_le (show 0 ≤ k by omega)
  simp
  refine ⟨⟨N, D, M, K, ⟨⟨⟨by omega, by omega⟩, ⟨by omega, by omega⟩, by omega, by omega⟩, rfl⟩, rfl, rfl, rfl, rfl⟩, fun a b c d ha hc' hb0 hb hd0 hd he => ?_⟩
  have fl1 : FloorC [FD.int IntKind.i64 (a : Int), FD.int IntKind.i64 (b : Int)] = true := by
    simp only [FloorC, Bool.and_eq_true, decide_eq_true_eq]; omega
  have fl2 : FloorC [FD.int IntKind.i64 (c : Int), FD.int IntKind.i64 (d : Int)] = true := by
    simp only [FloorC, Bool.and_eq_true, decide_eq_true_eq]; omega
  have q1 := Nat.div_add_mod a b
  have q2 := Nat.div_add_mod c d
  have m1 := Nat.mod_lt a hb0
  have m2 := Nat.mod_lt c hd0
  have w1 : IntKind.i64.wrap ((a : Int) - IntKind.i64.wrap ((a : Int) / (b : Int) * (b : Int))) = ((a % b : Nat) : Int) := by
    have e1 : (a : Int) / (b : Int) * (b : Int) = ((b * (a / b) : Nat) : Int) := by rw [Nat.mul_comm]; simp
    have e2 : b * (a / b) ≤ a := by omega
    rw [e1]
    generalize b * (a / b) = z at *
    rw [wrap_id (n := (z : Int)) (by omega) (by omega), wrap_id (by omega) (by omega)]
    omega
  have w2 : IntKind.i64.wrap ((c : Int) - IntKind.i64.wrap ((c : Int) / (d : Int) * (d : Int))) = ((c % d : Nat) : Int) := by
    have e1 : (c : Int) / (d : Int) * (d : Int) = ((d * (c / d) : Nat) : Int) := by rw [Nat.mul_comm]; simp
    have e2 : d * (c / d) ≤ c := by omega
    rw [e1]
    generalize d * (c / d) = z at *
    rw [wrap_id (n := (z : Int)) (by omega) (by omega), wrap_id (by omega) (by omega)]
    omega
  have d1 : (a : Int) / (b : Int) = ((a / b : Nat) : Int) := by rw [Int.natCast_ediv]
  have d2 : (c : Int) / (d : Int) = ((c / d : Nat) : Int) := by rw [Int.natCast_ediv]
  simp only [w1, w2, fl1, fl2]
  simp only [d1, d2]
  clear d1 d2 w1 w2 fl1 fl2 hf hf1 hf2 hf3
  rw [← he, cmpN]
  generalize a / b = p1 at *
  generalize c / d = p2 at *
  have step : cmpN (b + d) d (c % d) b (a % b) = cmpN (c % d + a % b + 1) d (c % d) b (a % b) ∨ (a % b = 0 ∨ c % d = 0) := by
    by_cases h1 : a % b = 0
    · exact .inr (.inl h1)
    · by_cases h2 : c % d = 0
      · exact .inr (.inr h2)
      · exact .inl (cmpN_fuel _ _ _ _ _ _ (by omega) (by omega) (by omega) (by omega))
  generalize a % b = r1 at *
  generalize c % d = r2 at *
  simp only [Int.ofNat_lt, Int.ofNat_le, Int.natCast_eq_zero]
  refine ⟨fun _ => ⟨fun _ => ⟨fun h1 => ?_, fun h1 => ⟨fun h2 => ?_, fun h2 => ⟨fun h3 => ⟨fun h4 => ?_, fun h4 => ⟨fun h5 => ?_, fun h5 => absurd h3 h5⟩⟩, fun h3 => ⟨fun h4 => absurd h4 h3, fun _ => ⟨fun h5 => ?_, fun h5 => ⟨d, r2, b, r1, ⟨⟨⟨⟨by omega, by omega⟩, ⟨by omega, by omega⟩, by omega, by omega⟩, ?_⟩, by omega⟩, rfl, rfl, rfl, rfl⟩⟩⟩⟩⟩⟩, trivial⟩, trivial⟩
  · rw [if_pos h1]
  · rw [if_neg (by omega), if_pos h2]
  · rw [if_neg (by omega), if_neg (by omega), if_pos h3, if_pos h4]
  · rw [if_neg (by omega), if_neg (by omega), if_pos h3, if_neg h4]
  · rw [if_neg (by omega), if_neg (by omega), if_neg h3, if_pos h5]
  · rw [if_neg (by omega), if_neg (by omega), if_neg h3, if_neg h5]
    rcases step with h | h | h
    · exact h.symm
    · exact absurd h h3
    · exact absurd h h5
def refTaskS : List PT := [.agg [.list [.list [.int .i64]], .int .i64, .int .i64]]
def refTaskC : List FD → Bool
  | [.list _ _ _, .int _ _, .int _ de] => rngB de
  | _ => false
def refTaskR : List FD → List FD
  | [.list _ ntb ftb, .int _ nu, .int _ de] => [.int .i64 (taskE ntb ftb nu de)]
  | _ => []
def refTaskI (ntb : Nat) (ftb : Nat → Nat → FD) (nu : Int) (de : Int) : Nat → AFam := fun i => match i with | 10 => ⟨Nat, fun _ => [{ι := Nat, G := fun x => x ≤ ntb ∧ rowsT (ftb 0 0).ln ftb (ntb - x) x = rowsT (ftb 0 0).ln ftb ntb 0, μ := fun x => ntb - x, tl := fun x => [(1, .one (.ptr (some (1, 0)))), (3, .one (.int IntKind.i64 (.tm (Int.ofNat x))))], bl := fun x => [(1, .cells 58 3 [.fz (.root 0 0) (FD.list [Sh.list [Sh.int IntKind.i64]] ntb ftb), .int IntKind.i64 (.tm nu), .int IntKind.i64 (.tm de)])], nx := (1 : Nat) + (1 : Nat)}]⟩ | 15 => ⟨Nat, fun z => [{ι := Nat, G := fun x => (z < ntb ∧ (ftb z 0).ln = (ftb 0 0).ln) ∧ (x ≤ (ftb z 0).ln ∧ (∀ k, k < x → 0 ≤ ((ftb z 0).fn k 0).i ∧ ((ftb z 0).fn k 0).i ≤ 100)), μ := fun x => (ftb z 0).ln - x, tl := fun x => [(1, .one (.ptr (some (1, 0)))), (3, .one (.int IntKind.i64 (.tm (Int.ofNat z)))), (4, .one (.int IntKind.i64 (.tm (Int.ofNat x))))], bl := fun x => [(1, .cells 58 3 [.fz (.root 0 0) (FD.list [Sh.list [Sh.int IntKind.i64]] ntb ftb), .int IntKind.i64 (.tm nu), .int IntKind.i64 (.tm de)])], nx := (1 : Nat) + (1 : Nat) + ((0 : Nat) + (1 : Nat) + (1 : Nat) + (1 : Nat) + (1 : Nat) + (1 : Nat) + (1 : Nat) + (1 : Nat) + (1 : Nat) + (1 : Nat) + (1 : Nat) + (1 : Nat) + (1 : Nat))}]⟩ | _ => ⟨Nat, fun _ => []⟩
theorem refTask_ok : FnOk (mkR smM gsM) Try.prog η0 34 (FI.of Try.f34 true) refTaskS (.one (.int .i64)) refTaskC refTaskR := by
  refine fnOk_of0 smM_ok gsM_ok Try.fok34 (fun fds => match fds with | [.list _ ntb ftb, .int _ nu, .int _ de] => refTaskI ntb ftb nu de | _ => alts fun _ => []) ?_
  intro fds hf hc
  obtain ⟨ntb, ftb, ds0, rfl, gtb, hf1⟩ := hf.list
  obtain ⟨nu, ds1, rfl, hf2⟩ := hf1.int
  obtain ⟨de, ds2, rfl, hf3⟩ := hf2.int
  obtain rfl := hf3.nil
  have hc : (rngB de) = true := hc
  have hvc : (vcF smM gsM (FI.of Try.f34 true) refTaskS (.one (.int .i64)) (refTaskI ntb ftb nu de) noR [.list [.list [.int .i64]] ntb ftb, .int .i64 nu, .int .i64 de] (refTaskR [.list [.list [.int .i64]] ntb ftb, .int .i64 nu, .int .i64 de])) =
    ((true = true) ∧ ((((decide (Int.ofNat ntb = (0 : Int))) = (true)) → (((IntKind.i64) = (IntKind.i64)) ∧ ((taskE ntb ftb nu de) = ((7 : Int))))) ∧ (((decide (Int.ofNat ntb = (0 : Int))) = (false)) → ((((decide ((6 : Int) < Int.ofNat ntb)) = (true)) → (((IntKind.i64) = (IntKind.i64)) ∧ ((taskE ntb ftb nu de) = ((8 : Int))))) ∧ (((decide ((6 : Int) < Int.ofNat ntb)) = (false)) → ((((decide ((0 : Int) ≤ (0 : Int)) && decide ((0 : Int) < (↑ntb : Int))) = (true)) → ((((decide (Int.ofNat (FD.ln (ftb (Int.toNat (0 : Int)) (0 : Nat))) = (0 : Int))) = (true)) → (((IntKind.i64) = (IntKind.i64)) ∧ ((taskE ntb ftb nu de) = ((7 : Int))))) ∧ (((decide (Int.ofNat (FD.ln (ftb (Int.toNat (0 : Int)) (0 : Nat))) = (0 : Int))) = (false)) → ((((decide ((0 : Int) ≤ (0 : Int)) && decide ((0 : Int) < (↑ntb : Int))) = (true)) → ((((decide ((3 : Int) < Int.ofNat (FD.ln (ftb (Int.toNat (0 : Int)) (0 : Nat))))) = (true)) → (((IntKind.i64) = (IntKind.i64)) ∧ ((taskE ntb ftb nu de) = ((8 : Int))))) ∧ (((decide ((3 : Int) < Int.ofNat (FD.ln (ftb (Int.toNat (0 : Int)) (0 : Nat))))) = (false)) → (∃ y0 : Nat, ((∃ y1 : Nat, (((y1 ≤ ntb ∧ ((rowsT (FD.ln (ftb (0 : Nat) (0 : Nat))) ftb (ntb - y1) y1) = (rowsT (FD.ln (ftb (0 : Nat) (0 : Nat))) ftb ntb (0 : Nat)))) ∧ True) ∧ (((true = true) ∧ ((((1, 1) ∈ ([(1, 1)] : List (Nat × Nat))) ∧ ((Prod.snd ((1 : Nat), (0 : Nat))) = (Prod.snd ((1 : Nat), (0 : Nat))))) ∧ ((((IntKind.i64) = (IntKind.i64)) ∧ ((Int.ofNat y1) = ((0 : Int)))) ∧ True))) ∧ (((((58 : TypeId)) = ((58 : Nat))) ∧ ((((3 : Nat)) = (List.length [Sc.fz (Ref.root (0 : Nat) (0 : Nat)) (FD.list [Sh.list [Sh.int IntKind.i64]] ntb ftb), Sc.int IntKind.i64 (Ix.tm nu), Sc.int IntKind.i64 (Ix.tm de)])) ∧ ((((Ref.root (0 : Nat) (0 : Nat)) = (Ref.root (0 : Nat) (0 : Nat))) ∧ (((FD.list [Sh.list [Sh.int IntKind.i64]] ntb ftb) = (FD.list [Sh.list [Sh.int IntKind.i64]] ntb ftb)) ∧ (true = true))) ∧ ((((IntKind.i64) = (IntKind.i64)) ∧ ((nu) = (nu))) ∧ ((((IntKind.i64) = (IntKind.i64)) ∧ ((de) = (de))) ∧ True))))) ∧ True)))) ∧ (∀ y1 : Nat, ((y1 ≤ ntb ∧ ((rowsT (FD.ln (ftb (0 : Nat) (0 : Nat))) ftb (ntb - y1) y1) = (rowsT (FD.ln (ftb (0 : Nat) (0 : Nat))) ftb ntb (0 : Nat)))) → ((((decide (Int.ofNat y1 < Int.ofNat ntb)) = (true)) → ((((decide ((0 : Int) ≤ Int.ofNat y1) && decide (Int.ofNat y1 < (↑ntb : Int))) = (true)) → ((((decide ((0 : Int) ≤ (0 : Int)) && decide ((0 : Int) < (↑ntb : Int))) = (true)) → ((((decide (Int.ofNat (FD.ln (ftb (Int.toNat (Int.ofNat y1)) (0 : Nat))) = Int.ofNat (FD.ln (ftb (Int.toNat (0 : Int)) (0 : Nat))))) = (false)) → (((IntKind.i64) = (IntKind.i64)) ∧ ((taskE ntb ftb nu de) = ((12 : Int))))) ∧ (((decide (Int.ofNat (FD.ln (ftb (Int.toNat (Int.ofNat y1)) (0 : Nat))) = Int.ofNat (FD.ln (ftb (Int.toNat (0 : Int)) (0 : Nat))))) = (true)) → (∃ y2 : Nat, ((∃ y3 : Nat, ((((y2 < ntb ∧ ((FD.ln (ftb y2 (0 : Nat))) = (FD.ln (ftb (0 : Nat) (0 : Nat))))) ∧ (y3 ≤ FD.ln (ftb y2 (0 : Nat)) ∧ (∀ y4 : Nat, (y4 < y3 → ((0 : Int) ≤ FD.i (FD.fn (ftb y2 (0 : Nat)) y4 (0 : Nat)) ∧ FD.i (FD.fn (ftb y2 (0 : Nat)) y4 (0 : Nat)) ≤ (100 : Int)))))) ∧ True) ∧ (((true = true) ∧ ((((1, 1) ∈ ([(1, 1)] : List (Nat × Nat))) ∧ ((Prod.snd ((1 : Nat), (0 : Nat))) = (Prod.snd ((1 : Nat), (0 : Nat))))) ∧ ((((IntKind.i64) = (IntKind.i64)) ∧ ((Int.ofNat y2) = (Int.ofNat y1))) ∧ ((((IntKind.i64) = (IntKind.i64)) ∧ ((Int.ofNat y3) = ((0 : Int)))) ∧ True)))) ∧ (((((58 : TypeId)) = ((58 : TypeId))) ∧ ((((3 : Nat)) = ((3 : Nat))) ∧ ((((Ref.root (0 : Nat) (0 : Nat)) = (Ref.root (0 : Nat) (0 : Nat))) ∧ (((FD.list [Sh.list [Sh.int IntKind.i64]] ntb ftb) = (FD.list [Sh.list [Sh.int IntKind.i64]] ntb ftb)) ∧ (true = true))) ∧ ((((IntKind.i64) = (IntKind.i64)) ∧ ((nu) = (nu))) ∧ ((((IntKind.i64) = (IntKind.i64)) ∧ ((de) = (de))) ∧ True))))) ∧ True)))) ∧ (∀ y3 : Nat, (((y2 < ntb ∧ ((FD.ln (ftb y2 (0 : Nat))) = (FD.ln (ftb (0 : Nat) (0 : Nat))))) ∧ (y3 ≤ FD.ln (ftb y2 (0 : Nat)) ∧ (∀ y4 : Nat, (y4 < y3 → ((0 : Int) ≤ FD.i (FD.fn (ftb y2 (0 : Nat)) y4 (0 : Nat)) ∧ FD.i (FD.fn (ftb y2 (0 : Nat)) y4 (0 : Nat)) ≤ (100 : Int)))))) → ((((decide ((0 : Int) ≤ Int.ofNat y2) && decide (Int.ofNat y2 < (↑ntb : Int))) = (true)) → ((((decide (Int.ofNat y3 < Int.ofNat (FD.ln (ftb (Int.toNat (Int.ofNat y2)) (0 : Nat))))) = (true)) → ((((decide ((0 : Int) ≤ Int.ofNat y2) && decide (Int.ofNat y2 < (↑ntb : Int))) = (true)) → ((((decide ((0 : Int) ≤ Int.ofNat y3) && decide (Int.ofNat y3 < (↑(FD.ln (ftb (Int.toNat (Int.ofNat y2)) (0 : Nat))) : Int))) = (true)) → (((true = true) → ((((decide ((0 : Int) ≤ FD.i (FD.fn (ftb (Int.toNat (Int.ofNat y2)) (0 : Nat)) (Int.toNat (Int.ofNat y3)) (0 : Nat))) && decide (FD.i (FD.fn (ftb (Int.toNat (Int.ofNat y2)) (0 : Nat)) (Int.toNat (Int.ofNat y3)) (0 : Nat)) ≤ (100 : Int))) = (false)) → (((IntKind.i64) = (IntKind.i64)) ∧ ((taskE ntb ftb nu de) = ((2 : Int))))) ∧ (((decide ((0 : Int) ≤ FD.i (FD.fn (ftb (Int.toNat (Int.ofNat y2)) (0 : Nat)) (Int.toNat (Int.ofNat y3)) (0 : Nat))) && decide (FD.i (FD.fn (ftb (Int.toNat (Int.ofNat y2)) (0 : Nat)) (Int.toNat (Int.ofNat y3)) (0 : Nat)) ≤ (100 : Int))) = (true)) → (∃ y4 : Nat, ((((y2 < ntb ∧ ((FD.ln (ftb y2 (0 : Nat))) = (FD.ln (ftb (0 : Nat) (0 : Nat))))) ∧ (y4 ≤ FD.ln (ftb y2 (0 : Nat)) ∧ (∀ y5 : Nat, (y5 < y4 → ((0 : Int) ≤ FD.i (FD.fn (ftb y2 (0 : Nat)) y5 (0 : Nat)) ∧ FD.i (FD.fn (ftb y2 (0 : Nat)) y5 (0 : Nat)) ≤ (100 : Int)))))) ∧ FD.ln (ftb y2 (0 : Nat)) - y4 < FD.ln (ftb y2 (0 : Nat)) - y3) ∧ (((true = true) ∧ ((((1, 1) ∈ ([(1, 1)] : List (Nat × Nat))) ∧ ((Prod.snd ((1 : Nat), (0 : Nat))) = (Prod.snd ((1 : Nat), (0 : Nat))))) ∧ ((((IntKind.i64) = (IntKind.i64)) ∧ ((Int.ofNat y2) = (Int.ofNat y2))) ∧ ((((IntKind.i64) = (IntKind.i64)) ∧ ((Int.ofNat y4) = (IntKind.wrap IntKind.i64 (Int.ofNat y3 + (1 : Int))))) ∧ True)))) ∧ (((((58 : TypeId)) = ((58 : TypeId))) ∧ ((((3 : Nat)) = ((3 : Nat))) ∧ ((((Ref.root (0 : Nat) (0 : Nat)) = (Ref.root (0 : Nat) (0 : Nat))) ∧ (((FD.list [Sh.list [Sh.int IntKind.i64]] ntb ftb) = (FD.list [Sh.list [Sh.int IntKind.i64]] ntb ftb)) ∧ (true = true))) ∧ ((((IntKind.i64) = (IntKind.i64)) ∧ ((nu) = (nu))) ∧ ((((IntKind.i64) = (IntKind.i64)) ∧ ((de) = (de))) ∧ True))))) ∧ True))))))) ∧ ((true = false) → False))) ∧ (((decide ((0 : Int) ≤ Int.ofNat y3) && decide (Int.ofNat y3 < (↑(FD.ln (ftb (Int.toNat (Int.ofNat y2)) (0 : Nat))) : Int))) = (false)) → False))) ∧ (((decide ((0 : Int) ≤ Int.ofNat y2) && decide (Int.ofNat y2 < (↑ntb : Int))) = (false)) → False))) ∧ (((decide (Int.ofNat y3 < Int.ofNat (FD.ln (ftb (Int.toNat (Int.ofNat y2)) (0 : Nat))))) = (false)) → (∃ y4 : Nat, (((y4 ≤ ntb ∧ ((rowsT (FD.ln (ftb (0 : Nat) (0 : Nat))) ftb (ntb - y4) y4) = (rowsT (FD.ln (ftb (0 : Nat) (0 : Nat))) ftb ntb (0 : Nat)))) ∧ ntb - y4 < ntb - y1) ∧ (((true = true) ∧ ((((1, 1) ∈ ([(1, 1)] : List (Nat × Nat))) ∧ ((Prod.snd ((1 : Nat), (0 : Nat))) = (Prod.snd ((1 : Nat), (0 : Nat))))) ∧ ((((IntKind.i64) = (IntKind.i64)) ∧ ((Int.ofNat y4) = (IntKind.wrap IntKind.i64 (Int.ofNat y2 + (1 : Int))))) ∧ True))) ∧ (((((58 : TypeId)) = ((58 : TypeId))) ∧ ((((3 : Nat)) = ((3 : Nat))) ∧ ((((Ref.root (0 : Nat) (0 : Nat)) = (Ref.root (0 : Nat) (0 : Nat))) ∧ (((FD.list [Sh.list [Sh.int IntKind.i64]] ntb ftb) = (FD.list [Sh.list [Sh.int IntKind.i64]] ntb ftb)) ∧ (true = true))) ∧ ((((IntKind.i64) = (IntKind.i64)) ∧ ((nu) = (nu))) ∧ ((((IntKind.i64) = (IntKind.i64)) ∧ ((de) = (de))) ∧ True))))) ∧ True))))))) ∧ (((decide ((0 : Int) ≤ Int.ofNat y2) && decide (Int.ofNat y2 < (↑ntb : Int))) = (false)) → False))))))))) ∧ (((decide ((0 : Int) ≤ (0 : Int)) && decide ((0 : Int) < (↑ntb : Int))) = (false)) → False))) ∧ (((decide ((0 : Int) ≤ Int.ofNat y1) && decide (Int.ofNat y1 < (↑ntb : Int))) = (false)) → False))) ∧ (((decide (Int.ofNat y1 < Int.ofNat ntb)) = (false)) → ((((IsLowestC ([FD.int IntKind.i64 nu, FD.int IntKind.i64 de] ++ [])) = (true)) → ((((decide ((0 : Int) < de) && (decide (gcdF nu de = (1 : Int)) || decide (gcdF nu de = (-1 : Int)))) = (false)) → (((IntKind.i64) = (IntKind.i64)) ∧ ((taskE ntb ftb nu de) = ((13 : Int))))) ∧ (((decide ((0 : Int) < de) && (decide (gcdF nu de = (1 : Int)) || decide (gcdF nu de = (-1 : Int)))) = (true)) → (((true = true) → ((((decide ((0 : Int) ≤ nu) && decide (nu ≤ de)) = (true)) → ((((decide ((4 : Int) < de)) = (true)) → (((IntKind.i64) = (IntKind.i64)) ∧ ((taskE ntb ftb nu de) = ((2 : Int))))) ∧ (((decide ((4 : Int) < de)) = (false)) → (((IntKind.i64) = (IntKind.i64)) ∧ ((taskE ntb ftb nu de) = ((0 : Int))))))) ∧ (((decide ((0 : Int) ≤ nu) && decide (nu ≤ de)) = (false)) → (((IntKind.i64) = (IntKind.i64)) ∧ ((taskE ntb ftb nu de) = ((2 : Int))))))) ∧ ((true = false) → False))))) ∧ (((IsLowestC ([FD.int IntKind.i64 nu, FD.int IntKind.i64 de] ++ [])) = (false)) → False))))))))))) ∧ (((decide ((0 : Int) ≤ (0 : Int)) && decide ((0 : Int) < (↑ntb : Int))) = (false)) → False))))) ∧ (((decide ((0 : Int) ≤ (0 : Int)) && decide ((0 : Int) < (↑ntb : Int))) = (false)) → False))))))) := by kernel_rfl
  refine hvc.mpr ?_
  clear hvc
  have hil : IsLowestC [FD.int IntKind.i64 nu, FD.int IntKind.i64 de] = true := hc
  have hl := gtb.len
  have hl' : maxLen = 9223372036854775807 := rfl
  simp
  refine ⟨fun h => by simp [taskE, h], fun h0 => ⟨fun h => ?_, fun h1 => ⟨fun _ => ⟨fun h => ?_, fun h2 => ⟨fun _ => ⟨fun h => ?_, fun h3 => fun x hx he => ?_⟩, h0⟩⟩, h0⟩⟩⟩
  · rw [taskE, if_neg h0, if_pos (by omega)]
  · rw [taskE, if_neg h0, if_neg (by omega), if_pos h]
  · rw [taskE, if_neg h0, if_neg (by omega), if_neg h2, if_pos (by omega)]
  · have hT : taskE ntb ftb nu de = if rowsT (ftb 0 0).ln ftb (ntb - x) x = 0 then slackE nu de else rowsT (ftb 0 0).ln ftb (ntb - x) x := by
      rw [taskE, if_neg h0, if_neg (by omega), if_neg h2, if_neg (by omega), he]
    refine ⟨fun hlt => ⟨fun _ => ⟨fun _ => ⟨fun hne => ?_, fun heq => ⟨x, ⟨⟨hlt, by omega⟩, rfl⟩, fun y _ _ hy hin => ⟨fun _ => ⟨fun hyl => ⟨fun _ => ⟨fun _ => ⟨fun ho => ?_, fun a b => ⟨y + 1, ⟨⟨⟨hlt, by omega⟩, by omega, fun k hk => ?_⟩, by omega⟩, ?_⟩⟩, hyl⟩, hlt⟩, fun hyl => ⟨x + 1, ⟨⟨by omega, ?_⟩, by omega⟩, ?_⟩⟩, hlt⟩⟩⟩, h0⟩, hlt⟩, fun hge => ⟨fun _ => ⟨fun hn => ?_, fun hd hg => ⟨fun a b => ⟨fun c => ?_, fun c => ?_⟩, fun a => ?_⟩⟩, hil⟩⟩
    · rw [hT, show ntb - x = ntb - (x + 1) + 1 by omega, rowsT, if_neg (show ¬ (ftb x 0).ln = (ftb 0 0).ln by omega)]; rfl
    · rw [hT, show ntb - x = ntb - (x + 1) + 1 by omega, rowsT, if_pos (show (ftb x 0).ln = (ftb 0 0).ln by omega), if_pos (anyN_out (f := (ftb x 0).fn) hyl (by omega))]; rfl
    · by_cases e : k = y
      · subst e; exact ⟨a, b⟩
      · exact hin k (by omega)
    · rw [wrap_id (by omega) (by omega)]
      rfl
    · have hany := anyN_in (f := (ftb x 0).fn) (n := (ftb x 0).ln) fun k hk => hin k (by omega)
      rw [← he, show ntb - x = ntb - (x + 1) + 1 by omega, rowsT, if_pos (show (ftb x 0).ln = (ftb 0 0).ln by omega), hany]; rfl
    · rw [wrap_id (by omega) (by omega)]
      rfl
    · rw [hT, show ntb - x = 0 by omega, rowsT, if_pos rfl, slackE, if_neg]
      exact fun h => by have := hn h.1; omega
    · rw [hT, show ntb - x = 0 by omega, rowsT, if_pos rfl, slackE, if_pos ⟨hd, hg⟩, if_neg (by omega)]
    · rw [hT, show ntb - x = 0 by omega, rowsT, if_pos rfl, slackE, if_pos ⟨hd, hg⟩, if_pos (by omega)]
    · rw [hT, show ntb - x = 0 by omega, rowsT, if_pos rfl, slackE]
      split
      · rw [if_neg (by omega)]
      · rename_i h; exact absurd ⟨‹_›, ‹_›⟩ h
end
end Go.Ex


namespace Go.Ex
open Go Go.Proofs Go.RowKit
noncomputable section
set_option maxRecDepth 1000000

def smO : T Smf := (T.set (T.set (T.set (T.set (T.set (T.set smN 124 (some (gFd areInS (.one .bool) areInC areInR))) 127 (some (gFd sumS (.one (.int .i64)) sumC sumR))) 125 (some (gFd rowS (.one (.int .i64)) rowC rowR))) 108 (some (gFd lowestS (.agg [.int .i64, .int .i64]) lowestC lowestR))) 40 (some (gFd CompareS (.one (.int .i64)) CompareC CompareR))) 34 (some (gFd refTaskS (.one (.int .i64)) refTaskC refTaskR)))
theorem smO_ok : Tab SmOk smO := (Tab.set (Tab.set (Tab.set (Tab.set (Tab.set (Tab.set smN_ok (by kernel_rfl) (smOk_of smM_ok gsM_ok areIn_ok rfl)) (by kernel_rfl) (smOk_of smM_ok gsM_ok sum_ok rfl)) (by kernel_rfl) (smOk_of smM_ok gsM_ok row_ok rfl)) (by kernel_rfl) (smOk_of smM_ok gsM_ok lowest_ok rfl)) (by kernel_rfl) (smOk_of smN_ok gsM_ok Compare_ok rfl)) (by kernel_rfl) (smOk_of smM_ok gsM_ok refTask_ok rfl))
def gsN0 : G2 := (G2.setG gsM1 122 (gFd columnS (.one (.list [.int .i64])) columnC columnR))
theorem gsN0_ok : G2Ok gsN0 := (G2Ok.setG gsM1_ok (by kernel_rfl) (gsOk_of smM_ok gsM_ok column_ok))
def gsN : G2 := (G2.setH gsN0 86 (gFdH conInS conInB (.one .bool) conInC conInR))
theorem gsN_ok : G2Ok gsN := (G2Ok.setH gsN0_ok (by kernel_rfl) conIn_ok)
def rowV (f g : Nat → Nat → FD) (i : Nat) : Int := dotF (f i 0).fn g (f i 0).ln
def rowL (f g : Nat → Nat → FD) : Nat → Nat → FD := fun i _ => .int .i64 (rowV f g i)
/-- The error of a mask of a right task. -/
def maskE (n : Nat) (f : Nat → Nat → FD) (nu de den : Int) (no : Nat) (g : Nat → Nat → FD) : Int :=
  if 1 ≤ den ∧ den ≤ 1000000000000 then (if no = (f 0 0).ln then (if anyN (fun i => outB den (g i 0).i) no 0 = true then 2
    else if IntKind.i64.wrap (IntKind.i64.wrap (de + nu) * minF (rowL f g) n) < IntKind.i64.wrap (de * maxF (rowL f g) n) then 24 else 0) else 12) else 2
theorem rowsT_ok {k : Nat} {f : Nat → Nat → FD} : ∀ {n x : Nat}, rowsT k f n x = 0 → ∀ i, x ≤ i → i < x + n → (f i 0).ln = k ∧ anyN (fun j => outB 100 ((f i 0).fn j 0).i) (f i 0).ln 0 = false
  | 0, x, _, i, h1, h2 => by omega
  | n + 1, x, h, i, h1, h2 => by
    unfold rowsT at h
    split at h
    · rename_i a
      split at h
      · omega
      · rename_i b
        by_cases e : i = x
        · subst e; exact ⟨a, by simpa using b⟩
        · exact rowsT_ok h i (by omega) (by omega)
    · omega
theorem taskE_ok {n : Nat} {f : Nat → Nat → FD} {nu de : Int} (h : taskE n f nu de = 0) : (1 ≤ n ∧ n ≤ 6) ∧ (1 ≤ (f 0 0).ln ∧ (f 0 0).ln ≤ 3) ∧ (0 < de ∧ de ≤ 4) ∧ (0 ≤ nu ∧ nu ≤ de) ∧ ∀ i, i < n → (f i 0).ln = (f 0 0).ln ∧ ∀ j, j < (f i 0).ln → 0 ≤ ((f i 0).fn j 0).i ∧ ((f i 0).fn j 0).i ≤ 100 := by
  unfold taskE at h
  split at h
  · omega
  · split at h
    · omega
    · split at h
      · omega
      · split at h
        · omega
        · split at h
          · rename_i hr
            unfold slackE at h
            split at h
            · rename_i hs
              split at h
              · refine ⟨by omega, by omega, by omega, by omega, fun i hi => ?_⟩
                obtain ⟨a, b⟩ := rowsT_ok hr i (by omega) (by omega)
                exact ⟨a, outB_in (f := (f i 0).fn) b⟩
              · omega
            · omega
          · rename_i hr; exact absurd h hr
theorem dotF_isum {f g : Nat → Nat → FD} {M : Int} (hM : M ≤ 1000000000000) : ∀ {n : Nat}, n ≤ 1000 → (∀ i, i < n → (0 ≤ (f i 0).i ∧ (f i 0).i ≤ 100) ∧ (0 ≤ (g i 0).i ∧ (g i 0).i ≤ M)) →
    dotF f g n = isum (fun i => (f i 0).i * (g i 0).i) n ∧ 0 ≤ dotF f g n ∧ dotF f g n ≤ 100000000000000 * n
  | 0, _, _ => by simp [dotF, isum]
  | n + 1, hn, h => by
    obtain ⟨e1, e2, e3⟩ := dotF_isum (f := f) (g := g) hM (n := n) (by omega) fun i hi => h i (by omega)
    obtain ⟨⟨a1, a2⟩, b1, b2⟩ := h n (by omega)
    have c1 : 0 ≤ (f n 0).i * (g n 0).i := Int.mul_nonneg a1 b1
    have c2 : (f n 0).i * (g n 0).i ≤ 100 * 1000000000000 := Int.mul_le_mul a2 (by omega) b1 (by omega)
    simp only [dotF, isum]
    rw [wrap_id (n := (f n 0).i * (g n 0).i) (by omega) (by omega), wrap_id (by omega) (by omega), ← e1]
    refine ⟨rfl, by omega, ?_⟩
    have : (100000000000000 : Int) * ((n + 1 : Nat) : Int) = 100000000000000 * n + 100000000000000 := by rw [show ((n + 1 : Nat) : Int) = (n : Int) + 1 from rfl, Int.mul_add, Int.mul_one]
    omega
theorem rowV_bd {n : Nat} {f g : Nat → Nat → FD} {nu de den : Int} {no : Nat} (h : taskE n f nu de = 0) (hd : den ≤ 1000000000000) (hno : no = (f 0 0).ln) (hg : anyN (fun i => outB den (g i 0).i) no 0 = false) :
    ∀ i, i < n → rowV f g i = isum (fun j => ((f i 0).fn j 0).i * (g j 0).i) no ∧ 0 ≤ rowV f g i ∧ rowV f g i ≤ 300000000000000 := fun i hi => by
  obtain ⟨a1, a2, a3, a4, a5⟩ := taskE_ok h
  obtain ⟨b1, b2⟩ := a5 i hi
  obtain ⟨e1, e2, e3⟩ := dotF_isum (f := (f i 0).fn) (g := g) hd (n := (f i 0).ln) (by omega) fun j hj => ⟨b2 j hj, outB_in hg j (by omega)⟩
  rw [rowV, e1, b1, ← hno]
  rw [e1, b1, ← hno] at e2 e3
  exact ⟨rfl, e2, by omega⟩
def checkMaskS : List PT := [.agg [.list [.list [.int .i64]], .int .i64, .int .i64], .agg [.int .i64, .list [.int .i64]]]
def checkMaskC : List FD → Bool
  | [.list _ _ _, .int _ _, .int _ _, .int _ _, .list _ _ _] => true
  | _ => false
def checkMaskR : List FD → List FD
  | [.list _ ntb ftb, .int _ nu, .int _ de, .int _ den, .list _ nop fop] => [.int .i64 (if taskE ntb ftb nu de = 0 ∧ maskE ntb ftb nu de den nop fop = 0 then divF (minF (rowL ftb fop) ntb) (gcdF (minF (rowL ftb fop) ntb) den) else 0), .int .i64 (if taskE ntb ftb nu de = 0 ∧ maskE ntb ftb nu de den nop fop = 0 then divF den (gcdF (minF (rowL ftb fop) ntb) den) else 0), .int .i64 (if taskE ntb ftb nu de = 0 then maskE ntb ftb nu de den nop fop else taskE ntb ftb nu de)]
  | _ => []
def checkMaskI (ntb : Nat) (ftb : Nat → Nat → FD) (nu : Int) (de : Int) (den : Int) (nop : Nat) (fop : Nat → Nat → FD) : Nat → AFam := fun i => match i with | 12 => ⟨Nat, fun _ => [{ι := Nat, G := fun x => x = 0, μ := fun x => ntb - x, tl := fun x => [(2, .one (.ptr (some (1, 0)))), (3, .one (.ptr (some (2, 0)))), (4, .one (.ptr (some (3, 0)))), (7, .one (.slice none 0 (.known 0))), (43, .one (.fz (.root 0 0) (FD.list [Sh.list [Sh.int IntKind.i64]] ntb ftb))), (44, .one (.int IntKind.i64 (.tm (Int.ofNat ntb)))), (45, .one (.int IntKind.i64 (.tm (Int.ofNat x))))], bl := fun x => [(1, .cells 58 3 [.fz (.root 0 0) (FD.list [Sh.list [Sh.int IntKind.i64]] ntb ftb), .int IntKind.i64 (.tm nu), .int IntKind.i64 (.tm de)]), (2, .cells 61 2 [.int IntKind.i64 (.tm den), .fz (.root 0 4) (FD.list [Sh.int IntKind.i64] nop fop)]), (3, .cells 64 2 [.int IntKind.i64 (.lit (0 : Int)), .int IntKind.i64 (.lit (0 : Int))])], nx := (1 : Nat) + (1 : Nat) + (1 : Nat) + (1 : Nat) + ((0 : Nat) + (1 : Nat) + (1 : Nat) + (1 : Nat) + (1 : Nat) + (1 : Nat) + (1 : Nat) + (1 : Nat) + (1 : Nat) + (1 : Nat))}, {ι := Nat, G := fun x => 1 ≤ x ∧ x ≤ ntb, μ := fun x => ntb - x, tl := fun x => [(2, .one (.ptr (some (1, 0)))), (3, .one (.ptr (some (2, 0)))), (4, .one (.ptr (some (3, 0)))), (7, .one (.own 4 x)), (43, .one (.fz (.root 0 0) (FD.list [Sh.list [Sh.int IntKind.i64]] ntb ftb))), (44, .one (.int IntKind.i64 (.tm (Int.ofNat ntb)))), (45, .one (.int IntKind.i64 (.tm (Int.ofNat x))))], bl := fun x => [(1, .cells 58 3 [.fz (.root 0 0) (FD.list [Sh.list [Sh.int IntKind.i64]] ntb ftb), .int IntKind.i64 (.tm nu), .int IntKind.i64 (.tm de)]), (2, .cells 61 2 [.int IntKind.i64 (.tm den), .fz (.root 0 4) (FD.list [Sh.int IntKind.i64] nop fop)]), (3, .cells 64 2 [.int IntKind.i64 (.lit (0 : Int)), .int IntKind.i64 (.lit (0 : Int))]), (4, .row 3 [.int .i64] x (rowL ftb fop))], nx := 5}]⟩ | _ => ⟨Nat, fun _ => []⟩
abbrev qcheckMask0 (ntb : Nat) (ftb : Nat → Nat → FD) (nu : Int) (de : Int) (den : Int) (nop : Nat) (fop : Nat → Nat → FD) : Prop := ((((IntKind.i64) = (IntKind.i64)) ∧ ((if taskE ntb ftb nu de = (0 : Int) ∧ maskE ntb ftb nu de den nop fop = (0 : Int) then divF (minF (rowL ftb fop) ntb) (gcdF (minF (rowL ftb fop) ntb) den) else (0 : Int)) = ((0 : Int)))) ∧ ((((IntKind.i64) = (IntKind.i64)) ∧ ((if taskE ntb ftb nu de = (0 : Int) ∧ maskE ntb ftb nu de den nop fop = (0 : Int) then divF den (gcdF (minF (rowL ftb fop) ntb) den) else (0 : Int)) = ((0 : Int)))) ∧ True))
abbrev qcheckMask2 (ftb : Nat → Nat → FD) (fop : Nat → Nat → FD) (y1 : Nat) : Prop := (((Prod.snd (Prod.fst (Sv.one (Prod.fst (Sc.fz (Ref.root ((5 : Nat) + ((0 : Nat) + (1 : Nat) + (1 : Nat) + (1 : Nat) + (1 : Nat) + (1 : Nat) + (1 : Nat) + (1 : Nat) + (1 : Nat) + (1 : Nat) + (1 : Nat) + (1 : Nat) + (1 : Nat) + (1 : Nat) + (1 : Nat) + (1 : Nat) + (1 : Nat) + (1 : Nat))) (0 : Nat)) (FD.list [Sh.int IntKind.i64] y1 (rowL ftb fop)), Nat.beq y1 y1)), Prod.snd (Sc.fz (Ref.root ((5 : Nat) + ((0 : Nat) + (1 : Nat) + (1 : Nat) + (1 : Nat) + (1 : Nat) + (1 : Nat) + (1 : Nat) + (1 : Nat) + (1 : Nat) + (1 : Nat) + (1 : Nat) + (1 : Nat) + (1 : Nat) + (1 : Nat) + (1 : Nat) + (1 : Nat) + (1 : Nat) + (1 : Nat))) (0 : Nat)) (FD.list [Sh.int IntKind.i64] y1 (rowL ftb fop)), Nat.beq y1 y1)) :: Prod.fst ([], true), Prod.snd (Sv.one (Prod.fst (Sc.fz (Ref.root ((5 : Nat) + ((0 : Nat) + (1 : Nat) + (1 : Nat) + (1 : Nat) + (1 : Nat) + (1 : Nat) + (1 : Nat) + (1 : Nat) + (1 : Nat) + (1 : Nat) + (1 : Nat) + (1 : Nat) + (1 : Nat) + (1 : Nat) + (1 : Nat) + (1 : Nat) + (1 : Nat) + (1 : Nat))) (0 : Nat)) (FD.list [Sh.int IntKind.i64] y1 (rowL ftb fop)), Nat.beq y1 y1)), Prod.snd (Sc.fz (Ref.root ((5 : Nat) + ((0 : Nat) + (1 : Nat) + (1 : Nat) + (1 : Nat) + (1 : Nat) + (1 : Nat) + (1 : Nat) + (1 : Nat) + (1 : Nat) + (1 : Nat) + (1 : Nat) + (1 : Nat) + (1 : Nat) + (1 : Nat) + (1 : Nat) + (1 : Nat) + (1 : Nat) + (1 : Nat))) (0 : Nat)) (FD.list [Sh.int IntKind.i64] y1 (rowL ftb fop)), Nat.beq y1 y1)) && Prod.snd (([] : List Sv), true))) = (false)) → False)
abbrev qcheckMask3 (ftb : Nat → Nat → FD) (fop : Nat → Nat → FD) (y1 : Nat) : Prop := ((Prod.snd (Prod.fst (Sv.one (Prod.fst (Sc.fz (Ref.root ((5 : Nat) + ((0 : Nat) + (1 : Nat) + (1 : Nat) + (1 : Nat) + (1 : Nat) + (1 : Nat) + (1 : Nat) + (1 : Nat) + (1 : Nat) + (1 : Nat) + (1 : Nat) + (1 : Nat) + (1 : Nat) + (1 : Nat) + (1 : Nat) + (1 : Nat) + (1 : Nat) + (1 : Nat))) (0 : Nat)) (FD.list [Sh.int IntKind.i64] y1 (rowL ftb fop)), Nat.beq y1 y1)), Prod.snd (Sc.fz (Ref.root ((5 : Nat) + ((0 : Nat) + (1 : Nat) + (1 : Nat) + (1 : Nat) + (1 : Nat) + (1 : Nat) + (1 : Nat) + (1 : Nat) + (1 : Nat) + (1 : Nat) + (1 : Nat) + (1 : Nat) + (1 : Nat) + (1 : Nat) + (1 : Nat) + (1 : Nat) + (1 : Nat) + (1 : Nat))) (0 : Nat)) (FD.list [Sh.int IntKind.i64] y1 (rowL ftb fop)), Nat.beq y1 y1)) :: Prod.fst ([], true), Prod.snd (Sv.one (Prod.fst (Sc.fz (Ref.root ((5 : Nat) + ((0 : Nat) + (1 : Nat) + (1 : Nat) + (1 : Nat) + (1 : Nat) + (1 : Nat) + (1 : Nat) + (1 : Nat) + (1 : Nat) + (1 : Nat) + (1 : Nat) + (1 : Nat) + (1 : Nat) + (1 : Nat) + (1 : Nat) + (1 : Nat) + (1 : Nat) + (1 : Nat))) (0 : Nat)) (FD.list [Sh.int IntKind.i64] y1 (rowL ftb fop)), Nat.beq y1 y1)), Prod.snd (Sc.fz (Ref.root ((5 : Nat) + ((0 : Nat) + (1 : Nat) + (1 : Nat) + (1 : Nat) + (1 : Nat) + (1 : Nat) + (1 : Nat) + (1 : Nat) + (1 : Nat) + (1 : Nat) + (1 : Nat) + (1 : Nat) + (1 : Nat) + (1 : Nat) + (1 : Nat) + (1 : Nat) + (1 : Nat) + (1 : Nat))) (0 : Nat)) (FD.list [Sh.int IntKind.i64] y1 (rowL ftb fop)), Nat.beq y1 y1)) && Prod.snd (([] : List Sv), true))) = (true))
abbrev qcheckMask4 (ntb : Nat) (ftb : Nat → Nat → FD) : Prop := (((Ref.root (0 : Nat) (0 : Nat)) = (Ref.root (0 : Nat) (0 : Nat))) ∧ (((FD.list [Sh.list [Sh.int IntKind.i64]] ntb ftb) = (FD.list [Sh.list [Sh.int IntKind.i64]] ntb ftb)) ∧ (true = true)))
abbrev qcheckMask5 (den : Int) (nop : Nat) (fop : Nat → Nat → FD) : Prop := ((((61 : TypeId)) = ((61 : Nat))) ∧ ((((2 : Nat)) = (List.length [Sc.int IntKind.i64 (Ix.tm den), Sc.fz (Ref.root (0 : Nat) ((0 : Nat) + List.length [Sh.list [Sh.list [Sh.int IntKind.i64]], Sh.int IntKind.i64, Sh.int IntKind.i64] + (1 : Nat))) (FD.list [Sh.int IntKind.i64] nop fop)])) ∧ ((((IntKind.i64) = (IntKind.i64)) ∧ ((den) = (den))) ∧ ((((Ref.root (0 : Nat) (4 : Nat)) = (Ref.root (0 : Nat) ((0 : Nat) + List.length [Sh.list [Sh.list [Sh.int IntKind.i64]], Sh.int IntKind.i64, Sh.int IntKind.i64] + (1 : Nat)))) ∧ (((FD.list [Sh.int IntKind.i64] nop fop) = (FD.list [Sh.int IntKind.i64] nop fop)) ∧ (true = true))) ∧ True))))
abbrev qcheckMask6 (den : Int) (nop : Nat) (fop : Nat → Nat → FD) : Prop := ((((61 : TypeId)) = ((61 : TypeId))) ∧ ((((2 : Nat)) = ((2 : Nat))) ∧ ((((IntKind.i64) = (IntKind.i64)) ∧ ((den) = (den))) ∧ ((((Ref.root (0 : Nat) (4 : Nat)) = (Ref.root (0 : Nat) (4 : Nat))) ∧ (((FD.list [Sh.int IntKind.i64] nop fop) = (FD.list [Sh.int IntKind.i64] nop fop)) ∧ (true = true))) ∧ True))))
abbrev qcheckMask7  : Prop := ((((2 : Nat)) = ((2 : Nat))) ∧ ((((IntKind.i64) = (IntKind.i64)) ∧ (((0 : Int)) = ((0 : Int)))) ∧ ((((IntKind.i64) = (IntKind.i64)) ∧ (((0 : Int)) = ((0 : Int)))) ∧ True)))
abbrev qcheckMask8 (ntb : Nat) (ftb : Nat → Nat → FD) (y1 : Nat) (y2 : Nat) : Prop := ((qcheckMask4 ntb ftb) ∧ ((((IntKind.i64) = (IntKind.i64)) ∧ ((Int.ofNat ntb) = (Int.ofNat ntb))) ∧ ((((IntKind.i64) = (IntKind.i64)) ∧ ((Int.ofNat y2) = (IntKind.wrap IntKind.i64 (Int.ofNat y1 + (1 : Int))))) ∧ True)))
abbrev qcheckMask9 (ntb : Nat) (ftb : Nat → Nat → FD) (nu : Int) (de : Int) : Prop := ((((58 : TypeId)) = ((58 : TypeId))) ∧ ((((3 : Nat)) = ((3 : Nat))) ∧ ((qcheckMask4 ntb ftb) ∧ ((((IntKind.i64) = (IntKind.i64)) ∧ ((nu) = (nu))) ∧ ((((IntKind.i64) = (IntKind.i64)) ∧ ((de) = (de))) ∧ True)))))
abbrev qcheckMask1 (ntb : Nat) (ftb : Nat → Nat → FD) (nu : Int) (de : Int) (den : Int) (nop : Nat) (fop : Nat → Nat → FD) (y1 : Nat) : Prop := (∃ y2 : Nat, ((((y2) = ((0 : Nat))) ∧ ntb - y2 < ntb - y1) ∧ (((true = true) ∧ ((((1, 1) ∈ ([(3, 3), (2, 2), (1, 1)] : List (Nat × Nat))) ∧ ((Prod.snd ((1 : Nat), (0 : Nat))) = (Prod.snd ((1 : Nat), (0 : Nat))))) ∧ ((((2, 2) ∈ ([(3, 3), (2, 2), (1, 1)] : List (Nat × Nat))) ∧ ((Prod.snd ((2 : Nat), (0 : Nat))) = (Prod.snd ((2 : Nat), (0 : Nat))))) ∧ ((((3, 3) ∈ ([(3, 3), (2, 2), (1, 1)] : List (Nat × Nat))) ∧ ((Prod.snd ((3 : Nat), (0 : Nat))) = (Prod.snd ((3 : Nat), (0 : Nat))))) ∧ (False ∧ (qcheckMask8 ntb ftb y1 y2)))))) ∧ ((qcheckMask9 ntb ftb nu de) ∧ ((qcheckMask6 den nop fop) ∧ (((((64 : TypeId)) = ((64 : TypeId))) ∧ (qcheckMask7)) ∧ True))))))
abbrev qcheckMask10 (ntb : Nat) (ftb : Nat → Nat → FD) (nu : Int) (de : Int) : Prop := ((((58 : TypeId)) = ((58 : Nat))) ∧ ((((3 : Nat)) = (List.length [Sc.fz (Ref.root (0 : Nat) (0 : Nat)) (FD.list [Sh.list [Sh.int IntKind.i64]] ntb ftb), Sc.int IntKind.i64 (Ix.tm nu), Sc.int IntKind.i64 (Ix.tm de)])) ∧ ((qcheckMask4 ntb ftb) ∧ ((((IntKind.i64) = (IntKind.i64)) ∧ ((nu) = (nu))) ∧ ((((IntKind.i64) = (IntKind.i64)) ∧ ((de) = (de))) ∧ True)))))
theorem checkMask_ok : FnOk (mkR smO gsN) Try.prog η0 60 (FI.of Try.f60 true) checkMaskS (.tup [.agg [.int .i64, .int .i64], .one (.int .i64)]) checkMaskC checkMaskR := by
  refine fnOk_of0 smO_ok gsN_ok Try.fok60 (fun fds => match fds with | [.list _ ntb ftb, .int _ nu, .int _ de, .int _ den, .list _ nop fop] => checkMaskI ntb ftb nu de den nop fop | _ => alts fun _ => []) ?_
  intro fds hf hc
  obtain ⟨ntb, ftb, ds0, rfl, gtb, hf1⟩ := hf.list
  obtain ⟨nu, ds1, rfl, hf2⟩ := hf1.int
  obtain ⟨de, ds2, rfl, hf3⟩ := hf2.int
  obtain ⟨den, ds3, rfl, hf4⟩ := hf3.int
  obtain ⟨nop, fop, ds4, rfl, gop, hf5⟩ := hf4.list
  obtain rfl := hf5.nil
  have hc : (true) = true := hc
  have hvc : (vcF smO gsN (FI.of Try.f60 true) checkMaskS (.tup [.agg [.int .i64, .int .i64], .one (.int .i64)]) (checkMaskI ntb ftb nu de den nop fop) noR [.list [.list [.int .i64]] ntb ftb, .int .i64 nu, .int .i64 de, .int .i64 den, .list [.int .i64] nop fop] (checkMaskR [.list [.list [.int .i64]] ntb ftb, .int .i64 nu, .int .i64 de, .int .i64 den, .list [.int .i64] nop fop])) =
    ((true = true) ∧ (((true = true) → ((((decide (taskE ntb ftb nu de = (0 : Int))) = (false)) → ((qcheckMask0 ntb ftb nu de den nop fop) ∧ ((((IntKind.i64) = (IntKind.i64)) ∧ ((if taskE ntb ftb nu de = (0 : Int) then maskE ntb ftb nu de den nop fop else taskE ntb ftb nu de) = (taskE ntb ftb nu de))) ∧ True))) ∧ (((decide (taskE ntb ftb nu de = (0 : Int))) = (true)) → (((true = true) → ((((decide ((1 : Int) ≤ den) && decide (den ≤ (1000000000000 : Int))) = (false)) → ((qcheckMask0 ntb ftb nu de den nop fop) ∧ ((((IntKind.i64) = (IntKind.i64)) ∧ ((if taskE ntb ftb nu de = (0 : Int) then maskE ntb ftb nu de den nop fop else taskE ntb ftb nu de) = ((2 : Int)))) ∧ True))) ∧ (((decide ((1 : Int) ≤ den) && decide (den ≤ (1000000000000 : Int))) = (true)) → ((((decide ((0 : Int) ≤ (0 : Int)) && decide ((0 : Int) < (↑ntb : Int))) = (true)) → ((((decide (Int.ofNat nop = Int.ofNat (FD.ln (ftb (Int.toNat (0 : Int)) (0 : Nat))))) = (false)) → ((qcheckMask0 ntb ftb nu de den nop fop) ∧ ((((IntKind.i64) = (IntKind.i64)) ∧ ((if taskE ntb ftb nu de = (0 : Int) then maskE ntb ftb nu de den nop fop else taskE ntb ftb nu de) = ((12 : Int)))) ∧ True))) ∧ (((decide (Int.ofNat nop = Int.ofNat (FD.ln (ftb (Int.toNat (0 : Int)) (0 : Nat))))) = (true)) → (((true = true) → ((((anyN (fun (i : Nat) => outB den (FD.i (fop i (0 : Nat)))) nop (0 : Nat)) = (true)) → ((qcheckMask0 ntb ftb nu de den nop fop) ∧ ((((IntKind.i64) = (IntKind.i64)) ∧ ((if taskE ntb ftb nu de = (0 : Int) then maskE ntb ftb nu de den nop fop else taskE ntb ftb nu de) = ((2 : Int)))) ∧ True))) ∧ (((anyN (fun (i : Nat) => outB den (FD.i (fop i (0 : Nat)))) nop (0 : Nat)) = (false)) → (∃ y0 : Nat, (((∃ y1 : Nat, ((((y1) = ((0 : Nat))) ∧ True) ∧ (((true = true) ∧ ((((1, 1) ∈ ([(3, 3), (2, 2), (1, 1)] : List (Nat × Nat))) ∧ ((Prod.snd ((1 : Nat), (0 : Nat))) = (Prod.snd ((1 : Nat), (0 : Nat))))) ∧ ((((2, 2) ∈ ([(3, 3), (2, 2), (1, 1)] : List (Nat × Nat))) ∧ ((Prod.snd ((2 : Nat), (0 : Nat))) = (Prod.snd ((1 : Nat) + (1 : Nat), (0 : Nat))))) ∧ ((((3, 3) ∈ ([(3, 3), (2, 2), (1, 1)] : List (Nat × Nat))) ∧ ((Prod.snd ((3 : Nat), (0 : Nat))) = (Prod.snd ((1 : Nat) + (1 : Nat) + (1 : Nat), (0 : Nat))))) ∧ (((((0 : Nat)) = ((0 : Nat))) ∧ (((0 : Nat)) = ((0 : Nat)))) ∧ ((qcheckMask4 ntb ftb) ∧ ((((IntKind.i64) = (IntKind.i64)) ∧ ((Int.ofNat ntb) = (Int.ofNat ntb))) ∧ ((((IntKind.i64) = (IntKind.i64)) ∧ ((Int.ofNat y1) = ((0 : Int)))) ∧ True)))))))) ∧ ((qcheckMask10 ntb ftb nu de) ∧ ((qcheckMask5 den nop fop) ∧ (((((64 : TypeId)) = ((64 : Nat))) ∧ (qcheckMask7)) ∧ True)))))) ∨ (∃ y1 : Nat, ((((1 : Nat) ≤ y1 ∧ y1 ≤ ntb) ∧ True) ∧ (((true = true) ∧ ((((1, 1) ∈ ([(3, 3), (2, 2), (1, 1)] : List (Nat × Nat))) ∧ ((Prod.snd ((1 : Nat), (0 : Nat))) = (Prod.snd ((1 : Nat), (0 : Nat))))) ∧ ((((2, 2) ∈ ([(3, 3), (2, 2), (1, 1)] : List (Nat × Nat))) ∧ ((Prod.snd ((2 : Nat), (0 : Nat))) = (Prod.snd ((1 : Nat) + (1 : Nat), (0 : Nat))))) ∧ ((((3, 3) ∈ ([(3, 3), (2, 2), (1, 1)] : List (Nat × Nat))) ∧ ((Prod.snd ((3 : Nat), (0 : Nat))) = (Prod.snd ((1 : Nat) + (1 : Nat) + (1 : Nat), (0 : Nat))))) ∧ (False ∧ ((qcheckMask4 ntb ftb) ∧ ((((IntKind.i64) = (IntKind.i64)) ∧ ((Int.ofNat ntb) = (Int.ofNat ntb))) ∧ ((((IntKind.i64) = (IntKind.i64)) ∧ ((Int.ofNat y1) = ((0 : Int)))) ∧ True)))))))) ∧ ((qcheckMask10 ntb ftb nu de) ∧ ((qcheckMask5 den nop fop) ∧ (((((64 : TypeId)) = ((64 : Nat))) ∧ (qcheckMask7)) ∧ (False ∧ True)))))))) ∧ ((∀ y1 : Nat, (((y1) = ((0 : Nat))) → ((((decide (Int.ofNat y1 < Int.ofNat ntb)) = (true)) → ((((decide ((0 : Int) ≤ Int.ofNat y1) && decide (Int.ofNat y1 < (↑ntb : Int))) = (true)) → ((((dotC [FD.list [Sh.int IntKind.i64] (FD.ln (ftb (Int.toNat (Int.ofNat y1)) (0 : Nat))) (FD.fn (ftb (Int.toNat (Int.ofNat y1)) (0 : Nat))), FD.list [Sh.int IntKind.i64] nop fop]) = (true)) → (((true = true) → ((qcheckMask1 ntb ftb nu de den nop fop y1) ∨ (∃ y2 : Nat, ((((1 : Nat) ≤ y2 ∧ y2 ≤ ntb) ∧ ntb - y2 < ntb - y1) ∧ (((true = true) ∧ ((((1, 1) ∈ ([(4, 14), (3, 3), (2, 2), (1, 1)] : List (Nat × Nat))) ∧ ((Prod.snd ((1 : Nat), (0 : Nat))) = (Prod.snd ((1 : Nat), (0 : Nat))))) ∧ ((((2, 2) ∈ ([(4, 14), (3, 3), (2, 2), (1, 1)] : List (Nat × Nat))) ∧ ((Prod.snd ((2 : Nat), (0 : Nat))) = (Prod.snd ((2 : Nat), (0 : Nat))))) ∧ ((((3, 3) ∈ ([(4, 14), (3, 3), (2, 2), (1, 1)] : List (Nat × Nat))) ∧ ((Prod.snd ((3 : Nat), (0 : Nat))) = (Prod.snd ((3 : Nat), (0 : Nat))))) ∧ ((((4, 14) ∈ ([(4, 14), (3, 3), (2, 2), (1, 1)] : List (Nat × Nat))) ∧ ((y2) = ((0 : Nat) + (1 : Nat)))) ∧ (qcheckMask8 ntb ftb y1 y2)))))) ∧ ((qcheckMask9 ntb ftb nu de) ∧ ((qcheckMask6 den nop fop) ∧ (((((64 : TypeId)) = ((64 : TypeId))) ∧ (qcheckMask7)) ∧ (((((3 : TypeId)) = ((3 : TypeId))) ∧ ((([Sh.int IntKind.i64]) = ([Sh.int IntKind.i64])) ∧ (((y2) = ((0 : Nat) + (1 : Nat))) ∧ (∀ y3 : Nat, (y3 < y2 → (∀ y4 : Nat, (y4 < List.length [Sh.int IntKind.i64] → ((rowL ftb fop y3 y4) = (atFD [FD.int IntKind.i64 (dotF (FD.fn (ftb (Int.toNat (Int.ofNat y1)) (0 : Nat))) fop (FD.ln (ftb (Int.toNat (Int.ofNat y1)) (0 : Nat))))] y4))))))))) ∧ True))))))))) ∧ ((true = false) → False))) ∧ (((dotC [FD.list [Sh.int IntKind.i64] (FD.ln (ftb (Int.toNat (Int.ofNat y1)) (0 : Nat))) (FD.fn (ftb (Int.toNat (Int.ofNat y1)) (0 : Nat))), FD.list [Sh.int IntKind.i64] nop fop]) = (false)) → False))) ∧ (((decide ((0 : Int) ≤ Int.ofNat y1) && decide (Int.ofNat y1 < (↑ntb : Int))) = (false)) → False))) ∧ (((decide (Int.ofNat y1 < Int.ofNat ntb)) = (false)) → (((false = true) → (((false = true) → ((((decide (IntKind.wrap IntKind.i64 (IntKind.wrap IntKind.i64 (de + nu) * minF (fun (x x_1 : Nat) => FD.bool false) (0 : Nat)) < IntKind.wrap IntKind.i64 (de * maxF (fun (x x_1 : Nat) => FD.bool false) (0 : Nat)))) = (true)) → ((qcheckMask0 ntb ftb nu de den nop fop) ∧ ((((IntKind.i64) = (IntKind.i64)) ∧ ((if taskE ntb ftb nu de = (0 : Int) then maskE ntb ftb nu de den nop fop else taskE ntb ftb nu de) = ((24 : Int)))) ∧ True))) ∧ (((decide (IntKind.wrap IntKind.i64 (IntKind.wrap IntKind.i64 (de + nu) * minF (fun (x x_1 : Nat) => FD.bool false) (0 : Nat)) < IntKind.wrap IntKind.i64 (de * maxF (fun (x x_1 : Nat) => FD.bool false) (0 : Nat)))) = (false)) → (((false = true) → ((((lowestC [FD.int IntKind.i64 (minF (fun (x x_1 : Nat) => FD.bool false) (0 : Nat)), FD.int IntKind.i64 den]) = (true)) → (((((IntKind.i64) = (IntKind.i64)) ∧ ((if taskE ntb ftb nu de = (0 : Int) ∧ maskE ntb ftb nu de den nop fop = (0 : Int) then divF (minF (rowL ftb fop) ntb) (gcdF (minF (rowL ftb fop) ntb) den) else (0 : Int)) = (divF (minF (fun (x x_1 : Nat) => FD.bool false) (0 : Nat)) (gcdF (minF (fun (x x_1 : Nat) => FD.bool false) (0 : Nat)) den)))) ∧ ((((IntKind.i64) = (IntKind.i64)) ∧ ((if taskE ntb ftb nu de = (0 : Int) ∧ maskE ntb ftb nu de den nop fop = (0 : Int) then divF den (gcdF (minF (rowL ftb fop) ntb) den) else (0 : Int)) = (divF den (gcdF (minF (fun (x x_1 : Nat) => FD.bool false) (0 : Nat)) den)))) ∧ True)) ∧ ((((IntKind.i64) = (IntKind.i64)) ∧ ((if taskE ntb ftb nu de = (0 : Int) then maskE ntb ftb nu de den nop fop else taskE ntb ftb nu de) = ((0 : Int)))) ∧ True))) ∧ (((lowestC [FD.int IntKind.i64 (minF (fun (x x_1 : Nat) => FD.bool false) (0 : Nat)), FD.int IntKind.i64 den]) = (false)) → False))) ∧ ((false = false) → False))))) ∧ ((false = false) → False))) ∧ ((false = false) → False)))))) ∧ (∀ y1 : Nat, (((1 : Nat) ≤ y1 ∧ y1 ≤ ntb) → ((((decide (Int.ofNat y1 < Int.ofNat ntb)) = (true)) → ((((decide ((0 : Int) ≤ Int.ofNat y1) && decide (Int.ofNat y1 < (↑ntb : Int))) = (true)) → ((((dotC [FD.list [Sh.int IntKind.i64] (FD.ln (ftb (Int.toNat (Int.ofNat y1)) (0 : Nat))) (FD.fn (ftb (Int.toNat (Int.ofNat y1)) (0 : Nat))), FD.list [Sh.int IntKind.i64] nop fop]) = (true)) → ((((Nat.beq y1 y1 && (true && Nat.ble (y1 + (1 : Nat)) (1000000 : Nat))) = (true)) → ((qcheckMask1 ntb ftb nu de den nop fop y1) ∨ (∃ y2 : Nat, ((((1 : Nat) ≤ y2 ∧ y2 ≤ ntb) ∧ ntb - y2 < ntb - y1) ∧ (((true = true) ∧ ((((1, 1) ∈ ([(4, 6), (3, 3), (2, 2), (1, 1)] : List (Nat × Nat))) ∧ ((Prod.snd ((1 : Nat), (0 : Nat))) = (Prod.snd ((1 : Nat), (0 : Nat))))) ∧ ((((2, 2) ∈ ([(4, 6), (3, 3), (2, 2), (1, 1)] : List (Nat × Nat))) ∧ ((Prod.snd ((2 : Nat), (0 : Nat))) = (Prod.snd ((2 : Nat), (0 : Nat))))) ∧ ((((3, 3) ∈ ([(4, 6), (3, 3), (2, 2), (1, 1)] : List (Nat × Nat))) ∧ ((Prod.snd ((3 : Nat), (0 : Nat))) = (Prod.snd ((3 : Nat), (0 : Nat))))) ∧ ((((4, 6) ∈ ([(4, 6), (3, 3), (2, 2), (1, 1)] : List (Nat × Nat))) ∧ ((y2) = (y1 + (1 : Nat)))) ∧ (qcheckMask8 ntb ftb y1 y2)))))) ∧ ((qcheckMask9 ntb ftb nu de) ∧ ((qcheckMask6 den nop fop) ∧ (((((64 : TypeId)) = ((64 : TypeId))) ∧ (qcheckMask7)) ∧ (((((3 : TypeId)) = ((3 : TypeId))) ∧ ((([Sh.int IntKind.i64]) = ([Sh.int IntKind.i64])) ∧ (((y2) = (y1 + (1 : Nat))) ∧ (∀ y3 : Nat, (y3 < y2 → (∀ y4 : Nat, (y4 < List.length [Sh.int IntKind.i64] → ((rowL ftb fop y3 y4) = (bif Nat.blt y3 y1 then rowL ftb fop y3 y4 else atFD [FD.int IntKind.i64 (dotF (FD.fn (ftb (Int.toNat (Int.ofNat y1)) (0 : Nat))) fop (FD.ln (ftb (Int.toNat (Int.ofNat y1)) (0 : Nat))))] y4))))))))) ∧ True))))))))) ∧ (((Nat.beq y1 y1 && (true && Nat.ble (y1 + (1 : Nat)) (1000000 : Nat))) = (false)) → False))) ∧ (((dotC [FD.list [Sh.int IntKind.i64] (FD.ln (ftb (Int.toNat (Int.ofNat y1)) (0 : Nat))) (FD.fn (ftb (Int.toNat (Int.ofNat y1)) (0 : Nat))), FD.list [Sh.int IntKind.i64] nop fop]) = (false)) → False))) ∧ (((decide ((0 : Int) ≤ Int.ofNat y1) && decide (Int.ofNat y1 < (↑ntb : Int))) = (false)) → False))) ∧ (((decide (Int.ofNat y1 < Int.ofNat ntb)) = (false)) → (((qcheckMask3 ftb fop y1) → ((((maxIC [FD.list [Sh.int IntKind.i64] y1 (rowL ftb fop)]) = (true)) → (((qcheckMask3 ftb fop y1) → ((((minIC [FD.list [Sh.int IntKind.i64] y1 (rowL ftb fop)]) = (true)) → ((((decide (IntKind.wrap IntKind.i64 (IntKind.wrap IntKind.i64 (de + nu) * minF (rowL ftb fop) y1) < IntKind.wrap IntKind.i64 (de * maxF (rowL ftb fop) y1))) = (true)) → ((qcheckMask0 ntb ftb nu de den nop fop) ∧ ((((IntKind.i64) = (IntKind.i64)) ∧ ((if taskE ntb ftb nu de = (0 : Int) then maskE ntb ftb nu de den nop fop else taskE ntb ftb nu de) = ((24 : Int)))) ∧ True))) ∧ (((decide (IntKind.wrap IntKind.i64 (IntKind.wrap IntKind.i64 (de + nu) * minF (rowL ftb fop) y1) < IntKind.wrap IntKind.i64 (de * maxF (rowL ftb fop) y1))) = (false)) → ((((Prod.snd (Prod.fst (Sv.one (Prod.fst (Sc.fz (Ref.root ((5 : Nat) + ((0 : Nat) + (1 : Nat) + (1 : Nat) + (1 : Nat) + (1 : Nat) + (1 : Nat) + (1 : Nat) + (1 : Nat) + (1 : Nat) + (1 : Nat) + (1 : Nat) + (1 : Nat) + (1 : Nat) + (1 : Nat) + (1 : Nat) + (1 : Nat) + (1 : Nat) + (1 : Nat)) + ((0 : Nat) + (1 : Nat) + (1 : Nat) + (1 : Nat) + (1 : Nat) + (1 : Nat))) (0 : Nat)) (FD.list [Sh.int IntKind.i64] y1 (rowL ftb fop)), Nat.beq y1 y1)), Prod.snd (Sc.fz (Ref.root ((5 : Nat) + ((0 : Nat) + (1 : Nat) + (1 : Nat) + (1 : Nat) + (1 : Nat) + (1 : Nat) + (1 : Nat) + (1 : Nat) + (1 : Nat) + (1 : Nat) + (1 : Nat) + (1 : Nat) + (1 : Nat) + (1 : Nat) + (1 : Nat) + (1 : Nat) + (1 : Nat) + (1 : Nat)) + ((0 : Nat) + (1 : Nat) + (1 : Nat) + (1 : Nat) + (1 : Nat) + (1 : Nat))) (0 : Nat)) (FD.list [Sh.int IntKind.i64] y1 (rowL ftb fop)), Nat.beq y1 y1)) :: Prod.fst ([], true), Prod.snd (Sv.one (Prod.fst (Sc.fz (Ref.root ((5 : Nat) + ((0 : Nat) + (1 : Nat) + (1 : Nat) + (1 : Nat) + (1 : Nat) + (1 : Nat) + (1 : Nat) + (1 : Nat) + (1 : Nat) + (1 : Nat) + (1 : Nat) + (1 : Nat) + (1 : Nat) + (1 : Nat) + (1 : Nat) + (1 : Nat) + (1 : Nat) + (1 : Nat)) + ((0 : Nat) + (1 : Nat) + (1 : Nat) + (1 : Nat) + (1 : Nat) + (1 : Nat))) (0 : Nat)) (FD.list [Sh.int IntKind.i64] y1 (rowL ftb fop)), Nat.beq y1 y1)), Prod.snd (Sc.fz (Ref.root ((5 : Nat) + ((0 : Nat) + (1 : Nat) + (1 : Nat) + (1 : Nat) + (1 : Nat) + (1 : Nat) + (1 : Nat) + (1 : Nat) + (1 : Nat) + (1 : Nat) + (1 : Nat) + (1 : Nat) + (1 : Nat) + (1 : Nat) + (1 : Nat) + (1 : Nat) + (1 : Nat) + (1 : Nat)) + ((0 : Nat) + (1 : Nat) + (1 : Nat) + (1 : Nat) + (1 : Nat) + (1 : Nat))) (0 : Nat)) (FD.list [Sh.int IntKind.i64] y1 (rowL ftb fop)), Nat.beq y1 y1)) && Prod.snd (([] : List Sv), true))) = (true)) → ((((minIC [FD.list [Sh.int IntKind.i64] y1 (rowL ftb fop)]) = (true)) → ((((lowestC [FD.int IntKind.i64 (minF (rowL ftb fop) y1), FD.int IntKind.i64 den]) = (true)) → (((((IntKind.i64) = (IntKind.i64)) ∧ ((if taskE ntb ftb nu de = (0 : Int) ∧ maskE ntb ftb nu de den nop fop = (0 : Int) then divF (minF (rowL ftb fop) ntb) (gcdF (minF (rowL ftb fop) ntb) den) else (0 : Int)) = (divF (minF (rowL ftb fop) y1) (gcdF (minF (rowL ftb fop) y1) den)))) ∧ ((((IntKind.i64) = (IntKind.i64)) ∧ ((if taskE ntb ftb nu de = (0 : Int) ∧ maskE ntb ftb nu de den nop fop = (0 : Int) then divF den (gcdF (minF (rowL ftb fop) ntb) den) else (0 : Int)) = (divF den (gcdF (minF (rowL ftb fop) y1) den)))) ∧ True)) ∧ ((((IntKind.i64) = (IntKind.i64)) ∧ ((if taskE ntb ftb nu de = (0 : Int) then maskE ntb ftb nu de den nop fop else taskE ntb ftb nu de) = ((0 : Int)))) ∧ True))) ∧ (((lowestC [FD.int IntKind.i64 (minF (rowL ftb fop) y1), FD.int IntKind.i64 den]) = (false)) → False))) ∧ (((minIC [FD.list [Sh.int IntKind.i64] y1 (rowL ftb fop)]) = (false)) → False))) ∧ (((Prod.snd (Prod.fst (Sv.one (Prod.fst (Sc.fz (Ref.root ((5 : Nat) + ((0 : Nat) + (1 : Nat) + (1 : Nat) + (1 : Nat) + (1 : Nat) + (1 : Nat) + (1 : Nat) + (1 : Nat) + (1 : Nat) + (1 : Nat) + (1 : Nat) + (1 : Nat) + (1 : Nat) + (1 : Nat) + (1 : Nat) + (1 : Nat) + (1 : Nat) + (1 : Nat)) + ((0 : Nat) + (1 : Nat) + (1 : Nat) + (1 : Nat) + (1 : Nat) + (1 : Nat))) (0 : Nat)) (FD.list [Sh.int IntKind.i64] y1 (rowL ftb fop)), Nat.beq y1 y1)), Prod.snd (Sc.fz (Ref.root ((5 : Nat) + ((0 : Nat) + (1 : Nat) + (1 : Nat) + (1 : Nat) + (1 : Nat) + (1 : Nat) + (1 : Nat) + (1 : Nat) + (1 : Nat) + (1 : Nat) + (1 : Nat) + (1 : Nat) + (1 : Nat) + (1 : Nat) + (1 : Nat) + (1 : Nat) + (1 : Nat) + (1 : Nat)) + ((0 : Nat) + (1 : Nat) + (1 : Nat) + (1 : Nat) + (1 : Nat) + (1 : Nat))) (0 : Nat)) (FD.list [Sh.int IntKind.i64] y1 (rowL ftb fop)), Nat.beq y1 y1)) :: Prod.fst ([], true), Prod.snd (Sv.one (Prod.fst (Sc.fz (Ref.root ((5 : Nat) + ((0 : Nat) + (1 : Nat) + (1 : Nat) + (1 : Nat) + (1 : Nat) + (1 : Nat) + (1 : Nat) + (1 : Nat) + (1 : Nat) + (1 : Nat) + (1 : Nat) + (1 : Nat) + (1 : Nat) + (1 : Nat) + (1 : Nat) + (1 : Nat) + (1 : Nat) + (1 : Nat)) + ((0 : Nat) + (1 : Nat) + (1 : Nat) + (1 : Nat) + (1 : Nat) + (1 : Nat))) (0 : Nat)) (FD.list [Sh.int IntKind.i64] y1 (rowL ftb fop)), Nat.beq y1 y1)), Prod.snd (Sc.fz (Ref.root ((5 : Nat) + ((0 : Nat) + (1 : Nat) + (1 : Nat) + (1 : Nat) + (1 : Nat) + (1 : Nat) + (1 : Nat) + (1 : Nat) + (1 : Nat) + (1 : Nat) + (1 : Nat) + (1 : Nat) + (1 : Nat) + (1 : Nat) + (1 : Nat) + (1 : Nat) + (1 : Nat) + (1 : Nat)) + ((0 : Nat) + (1 : Nat) + (1 : Nat) + (1 : Nat) + (1 : Nat) + (1 : Nat))) (0 : Nat)) (FD.list [Sh.int IntKind.i64] y1 (rowL ftb fop)), Nat.beq y1 y1)) && Prod.snd (([] : List Sv), true))) = (false)) → False))))) ∧ (((minIC [FD.list [Sh.int IntKind.i64] y1 (rowL ftb fop)]) = (false)) → False))) ∧ (qcheckMask2 ftb fop y1))) ∧ (((maxIC [FD.list [Sh.int IntKind.i64] y1 (rowL ftb fop)]) = (false)) → False))) ∧ (qcheckMask2 ftb fop y1)))))))))))) ∧ ((true = false) → False))))) ∧ (((decide ((0 : Int) ≤ (0 : Int)) && decide ((0 : Int) < (↑ntb : Int))) = (false)) → False))))) ∧ ((true = false) → False))))) ∧ ((true = false) → False))) := by kernel_rfl
  refine hvc.mpr ?_
  clear hvc
  dsimp only [qcheckMask0, qcheckMask2, qcheckMask3, qcheckMask4, qcheckMask5, qcheckMask6, qcheckMask7, qcheckMask8, qcheckMask9, qcheckMask1, qcheckMask10]
  by_cases h1 : taskE ntb ftb nu de = 0
  · obtain ⟨a1, a2, a3, a4, a5⟩ := taskE_ok h1
    by_cases hden : 1 ≤ den ∧ den ≤ 1000000000000
    · by_cases hno : nop = (ftb 0 0).ln
      · rcases Bool.eq_false_or_eq_true (anyN (fun i => outB den (fop i 0).i) nop 0) with hany | hany
        · have hE : maskE ntb ftb nu de den nop fop = 2 := by rw [maskE, if_pos hden, if_pos hno, if_pos hany]
          have : ¬ ntb = 0 := by omega
          simp [h1, hden, hno, hE]
          simp [← hno, hany]
          omega
        · have hrow := rowV_bd h1 hden.2 hno hany
          have hmm := mmF_bd (f := rowL ftb fop) (M := 300000000000000) (n := ntb) (by omega) fun i hi => ⟨(hrow i hi).2.1, (hrow i hi).2.2⟩
          have hdc : ∀ i, i < ntb → dotC [.list [.int .i64] (ftb i 0).ln (ftb i 0).fn, .list [.int .i64] nop fop] = true := fun i hi => Nat.ble_eq_true_of_le (by have := (a5 i hi).1; omega)
          have hg : gcdF (minF (rowL ftb fop) ntb) den ≠ 0 := gcdF_ne hmm.1 (by omega)
          have hlo : lowestC [.int .i64 (minF (rowL ftb fop) ntb), .int .i64 den] = true := by
            simp only [lowestC, Bool.not_eq_true', decide_eq_false_iff_not]; exact hg
          have hmi : minIC [.list [.int .i64] ntb (rowL ftb fop)] = true := Nat.ble_eq_true_of_le (by omega)
          have hma : maxIC [.list [.int .i64] ntb (rowL ftb fop)] = true := Nat.ble_eq_true_of_le (by omega)
          have hE : maskE ntb ftb nu de den nop fop = if IntKind.i64.wrap (IntKind.i64.wrap (de + nu) * minF (rowL ftb fop) ntb) < IntKind.i64.wrap (de * maxF (rowL ftb fop) ntb) then 24 else 0 := by rw [maskE, if_pos hden, if_pos hno, if_neg (by simp [hany])]
          simp [h1, hden]
          simp [← hno, hany, hE]
          have hdc0 : dotC [.list [.int .i64] nop (ftb 0 0).fn, .list [.int .i64] nop fop] = true := Nat.ble_eq_true_of_le (Nat.le_refl _)
          have w1 : ∀ k : Nat, k < 1000 → ((k + 1 : Nat) : Int) = IntKind.i64.wrap ((k : Int) + 1) := fun k hk => by
            rw [wrap_id (by omega) (by omega)]
            rfl
          refine ⟨fun h => ⟨⟨fun _ => ⟨fun _ => ⟨fun _ => ⟨1, ⟨⟨by omega, by omega⟩, by omega⟩, ⟨rfl, w1 0 (by omega)⟩, rfl, fun y hy => ?_⟩, hdc0⟩, h⟩, h⟩, fun x hx1 hx2 => ⟨fun hx => ⟨fun _ => ⟨fun _ => ⟨fun _ => ⟨x + 1, ⟨⟨by omega, by omega⟩, by omega⟩, ⟨rfl, w1 x (by omega)⟩, rfl, fun y hy => bif_app (f := fun y => rowL ftb fop y 0) hy rfl⟩, by omega⟩, hdc x hx⟩, hx⟩, fun hge => ?_⟩⟩, by omega⟩
          · obtain rfl : y = 0 := by omega
            simp only [rowL, rowV, ← hno]; rfl
          · obtain rfl : x = ntb := by omega
            refine ⟨fun _ => ⟨fun _ => ⟨fun hb => ⟨⟨fun c => by omega, fun c => by omega⟩, hb⟩, fun hb => ⟨fun _ => ⟨fun _ => ⟨⟨by rw [if_pos hb], by rw [if_pos hb]⟩, hb⟩, hlo⟩, hmi⟩⟩, hmi⟩, hma⟩
      · have hE : maskE ntb ftb nu de den nop fop = 12 := by rw [maskE, if_pos hden, if_neg hno]
        simp [h1, hden, hno, hE]
        omega
    · have hE : maskE ntb ftb nu de den nop fop = 2 := by rw [maskE, if_neg hden]
      simp [h1, hE]
      exact fun a b => absurd ⟨a, b⟩ hden
  · simp [h1]
def refLowestS : List PT := [.one (.int .i64), .one (.int .i64)]
def refLowestC : List FD → Bool
  | [.int _ a, .int _ b] => decide (0 ≤ a) && (decide (a ≤ 1000000000000000000) && (decide (0 < b) && decide (b ≤ 1000000000000000000)))
  | _ => false
def refLowestR : List FD → List FD
  | [.int _ a, .int _ b] => [.int .i64 (divF a (gcdF a b)), .int .i64 (divF b (gcdF a b))]
  | _ => []
def refLowestI (_a : Int) (_b : Int) : Nat → AFam := alts (fun _ => [])
theorem refLowest_ok : FnOk (mkR smO gsN) Try.prog η0 126 (FI.of Try.f126 true) refLowestS (.agg [.int .i64, .int .i64]) refLowestC refLowestR := by
  refine fnOk_of0 smO_ok gsN_ok Try.fok126 (fun fds => match fds with | [.int _ a, .int _ b] => refLowestI a b | _ => alts fun _ => []) ?_
  intro fds hf hc
  obtain ⟨a, ds0, rfl, hf1⟩ := hf.int
  obtain ⟨b, ds1, rfl, hf2⟩ := hf1.int
  obtain rfl := hf2.nil
  have hc : (decide (0 ≤ a) && (decide (a ≤ 1000000000000000000) && (decide (0 < b) && decide (b ≤ 1000000000000000000)))) = true := hc
  have hvc : (vcF smO gsN (FI.of Try.f126 true) refLowestS (.agg [.int .i64, .int .i64]) (refLowestI a b) noR [.int .i64 a, .int .i64 b] (refLowestR [.int .i64 a, .int .i64 b])) =
    ((true = true) ∧ (((true = true) → ((((!decide ((if gcdF a b < IntKind.wrap IntKind.i64 (-gcdF a b) then IntKind.wrap IntKind.i64 (-gcdF a b) else gcdF a b) = (0 : Int))) = (true)) → ((((!decide ((if gcdF a b < IntKind.wrap IntKind.i64 (-gcdF a b) then IntKind.wrap IntKind.i64 (-gcdF a b) else gcdF a b) = (0 : Int))) = (true)) → ((((IntKind.i64) = (IntKind.i64)) ∧ ((divF a (gcdF a b)) = (IntKind.wrap IntKind.i64 (Int.tdiv a (if gcdF a b < IntKind.wrap IntKind.i64 (-gcdF a b) then IntKind.wrap IntKind.i64 (-gcdF a b) else gcdF a b))))) ∧ ((((IntKind.i64) = (IntKind.i64)) ∧ ((divF b (gcdF a b)) = (IntKind.wrap IntKind.i64 (Int.tdiv b (if gcdF a b < IntKind.wrap IntKind.i64 (-gcdF a b) then IntKind.wrap IntKind.i64 (-gcdF a b) else gcdF a b))))) ∧ True))) ∧ (((!decide ((if gcdF a b < IntKind.wrap IntKind.i64 (-gcdF a b) then IntKind.wrap IntKind.i64 (-gcdF a b) else gcdF a b) = (0 : Int))) = (false)) → False))) ∧ (((!decide ((if gcdF a b < IntKind.wrap IntKind.i64 (-gcdF a b) then IntKind.wrap IntKind.i64 (-gcdF a b) else gcdF a b) = (0 : Int))) = (false)) → False))) ∧ ((true = false) → False))) := by kernel_rfl
  refine hvc.mpr ?_
  clear hvc
  simp only [Bool.and_eq_true, decide_eq_true_eq] at hc
  have g0 := gcdF_ne hc.1 hc.2.2.1
  have g1 := gcdF_abs (a := a) (b := b) (by omega)
  have g2 : 0 ≤ gcdF a b := by
    obtain ⟨A, rfl⟩ := Int.eq_ofNat_of_zero_le hc.1
    obtain ⟨B, rfl⟩ := Int.eq_ofNat_of_zero_le (show 0 ≤ b by omega)
    rw [gcdF_nat]; omega
  have e : (if gcdF a b < IntKind.i64.wrap (-gcdF a b) then IntKind.i64.wrap (-gcdF a b) else gcdF a b) = gcdF a b := by
    rw [wrap_id (by omega) (by omega), if_neg (by omega)]
  simp [e, g0, divF]
def smP : T Smf := (T.set (T.set smO 60 (some (gFd checkMaskS (.tup [.agg [.int .i64, .int .i64], .one (.int .i64)]) checkMaskC checkMaskR))) 126 (some (gFd refLowestS (.agg [.int .i64, .int .i64]) refLowestC refLowestR)))
theorem smP_ok : Tab SmOk smP := (Tab.set (Tab.set smO_ok (by kernel_rfl) (smOk_of smO_ok gsN_ok checkMask_ok rfl)) (by kernel_rfl) (smOk_of smO_ok gsN_ok refLowest_ok rfl))
theorem maxF_nn {f : Nat → Nat → FD} : ∀ {n : Nat}, (∀ i, i < n → 0 ≤ (f i 0).i) → 1 ≤ n → 0 ≤ maxF f n
  | n + 1, h, _ => by
    have := maxF_ge (f := f) (n := n + 1) (i := n) (by omega)
    have := h n (by omega)
    omega
/-- The greatest one, from 0 on. -/
def max0 (f : Nat → Nat → FD) : Nat → Int
  | 0 => 0
  | n + 1 => if max0 f n < (f n 0).i then (f n 0).i else max0 f n
theorem max0_eq {f : Nat → Nat → FD} : ∀ {n : Nat}, (∀ i, i < n → 0 ≤ (f i 0).i) → 1 ≤ n → max0 f n = maxF f n
  | n + 1, h, _ => by
    have h0 := h n (by omega)
    simp only [max0, maxF]
    rcases Nat.eq_zero_or_pos n with rfl | hn
    · show (if (0 : Int) < (f 0 0).i then (f 0 0).i else 0) = (if (f 0 0).i < (f 0 0).i then (f 0 0).i else (f 0 0).i)
      split <;> split <;> omega
    · rw [max0_eq (fun i hi => h i (by omega)) hn]
def refMaskS : List PT := [.agg [.list [.list [.int .i64]], .int .i64, .int .i64], .agg [.int .i64, .list [.int .i64]]]
def refMaskC : List FD → Bool
  | [.list _ ntb ftb, .int _ nu, .int _ de, .int _ _, .list _ _ _] => decide (taskE ntb ftb nu de = 0)
  | _ => false
def refMaskR : List FD → List FD
  | [.list _ ntb ftb, .int _ nu, .int _ de, .int _ den, .list _ nop fop] => [.int .i64 (if maskE ntb ftb nu de den nop fop = 0 then divF (minF (rowL ftb fop) ntb) (gcdF (minF (rowL ftb fop) ntb) den) else 0), .int .i64 (if maskE ntb ftb nu de den nop fop = 0 then divF den (gcdF (minF (rowL ftb fop) ntb) den) else 0), .int .i64 (maskE ntb ftb nu de den nop fop)]
  | _ => []
def refMaskI (ntb : Nat) (ftb : Nat → Nat → FD) (nu : Int) (de : Int) (den : Int) (nop : Nat) (fop : Nat → Nat → FD) : Nat → AFam := fun i => match i with | 9 => ⟨Nat, fun _ => [{ι := Nat, G := fun x => x ≤ ntb, μ := fun x => ntb - x, tl := fun x => [(2, .one (.ptr (some (1, 0)))), (3, .one (.ptr (some (2, 0)))), (4, .one (.ptr (some (3, 0)))), (6, .one (.int IntKind.i64 (.tm (minF (rowL ftb fop) x)))), (7, .one (.int IntKind.i64 (.tm (max0 (rowL ftb fop) x)))), (8, .one (.int IntKind.i64 (.tm (Int.ofNat x))))], bl := fun x => [(1, .cells 58 3 [.fz (.root 0 0) (FD.list [Sh.list [Sh.int IntKind.i64]] ntb ftb), .int IntKind.i64 (.tm nu), .int IntKind.i64 (.tm de)]), (2, .cells 61 2 [.int IntKind.i64 (.tm den), .fz (.root 0 4) (FD.list [Sh.int IntKind.i64] nop fop)]), (3, .cells 64 2 [.int IntKind.i64 (.lit (0 : Int)), .int IntKind.i64 (.lit (0 : Int))])], nx := (1 : Nat) + (1 : Nat) + (1 : Nat) + (1 : Nat) + ((0 : Nat) + (1 : Nat) + (1 : Nat) + (1 : Nat) + (1 : Nat) + (1 : Nat) + (1 : Nat) + (1 : Nat) + (1 : Nat) + (1 : Nat)) + ((0 : Nat) + (1 : Nat) + (1 : Nat) + (1 : Nat) + (1 : Nat) + (1 : Nat) + (1 : Nat) + (1 : Nat))}]⟩ | _ => ⟨Nat, fun _ => []⟩
theorem refMask_ok : FnOk (mkR smP gsN) Try.prog η0 64 (FI.of Try.f64 true) refMaskS (.tup [.agg [.int .i64, .int .i64], .one (.int .i64)]) refMaskC refMaskR := by
  refine fnOk_of0 smP_ok gsN_ok Try.fok64 (fun fds => match fds with | [.list _ ntb ftb, .int _ nu, .int _ de, .int _ den, .list _ nop fop] => refMaskI ntb ftb nu de den nop fop | _ => alts fun _ => []) ?_
  intro fds hf hc
  obtain ⟨ntb, ftb, ds0, rfl, gtb, hf1⟩ := hf.list
  obtain ⟨nu, ds1, rfl, hf2⟩ := hf1.int
  obtain ⟨de, ds2, rfl, hf3⟩ := hf2.int
  obtain ⟨den, ds3, rfl, hf4⟩ := hf3.int
  obtain ⟨nop, fop, ds4, rfl, gop, hf5⟩ := hf4.list
  obtain rfl := hf5.nil
  have hc : (decide (taskE ntb ftb nu de = 0)) = true := hc
  have hvc : (vcF smP gsN (FI.of Try.f64 true) refMaskS (.tup [.agg [.int .i64, .int .i64], .one (.int .i64)]) (refMaskI ntb ftb nu de den nop fop) noR [.list [.list [.int .i64]] ntb ftb, .int .i64 nu, .int .i64 de, .int .i64 den, .list [.int .i64] nop fop] (refMaskR [.list [.list [.int .i64]] ntb ftb, .int .i64 nu, .int .i64 de, .int .i64 den, .list [.int .i64] nop fop])) =
    ((true = true) ∧ (((true = true) → ((((decide ((1 : Int) ≤ den) && decide (den ≤ (1000000000000 : Int))) = (false)) → (((((IntKind.i64) = (IntKind.i64)) ∧ ((if maskE ntb ftb nu de den nop fop = (0 : Int) then divF (minF (rowL ftb fop) ntb) (gcdF (minF (rowL ftb fop) ntb) den) else (0 : Int)) = ((0 : Int)))) ∧ ((((IntKind.i64) = (IntKind.i64)) ∧ ((if maskE ntb ftb nu de den nop fop = (0 : Int) then divF den (gcdF (minF (rowL ftb fop) ntb) den) else (0 : Int)) = ((0 : Int)))) ∧ True)) ∧ ((((IntKind.i64) = (IntKind.i64)) ∧ ((maskE ntb ftb nu de den nop fop) = ((2 : Int)))) ∧ True))) ∧ (((decide ((1 : Int) ≤ den) && decide (den ≤ (1000000000000 : Int))) = (true)) → ((((decide ((0 : Int) ≤ (0 : Int)) && decide ((0 : Int) < (↑ntb : Int))) = (true)) → ((((decide (Int.ofNat nop = Int.ofNat (FD.ln (ftb (Int.toNat (0 : Int)) (0 : Nat))))) = (false)) → (((((IntKind.i64) = (IntKind.i64)) ∧ ((if maskE ntb ftb nu de den nop fop = (0 : Int) then divF (minF (rowL ftb fop) ntb) (gcdF (minF (rowL ftb fop) ntb) den) else (0 : Int)) = ((0 : Int)))) ∧ ((((IntKind.i64) = (IntKind.i64)) ∧ ((if maskE ntb ftb nu de den nop fop = (0 : Int) then divF den (gcdF (minF (rowL ftb fop) ntb) den) else (0 : Int)) = ((0 : Int)))) ∧ True)) ∧ ((((IntKind.i64) = (IntKind.i64)) ∧ ((maskE ntb ftb nu de den nop fop) = ((12 : Int)))) ∧ True))) ∧ (((decide (Int.ofNat nop = Int.ofNat (FD.ln (ftb (Int.toNat (0 : Int)) (0 : Nat))))) = (true)) → (((true = true) → ((((!anyN (fun (i : Nat) => outB den (FD.i (fop i (0 : Nat)))) nop (0 : Nat)) = (false)) → (((((IntKind.i64) = (IntKind.i64)) ∧ ((if maskE ntb ftb nu de den nop fop = (0 : Int) then divF (minF (rowL ftb fop) ntb) (gcdF (minF (rowL ftb fop) ntb) den) else (0 : Int)) = ((0 : Int)))) ∧ ((((IntKind.i64) = (IntKind.i64)) ∧ ((if maskE ntb ftb nu de den nop fop = (0 : Int) then divF den (gcdF (minF (rowL ftb fop) ntb) den) else (0 : Int)) = ((0 : Int)))) ∧ True)) ∧ ((((IntKind.i64) = (IntKind.i64)) ∧ ((maskE ntb ftb nu de den nop fop) = ((2 : Int)))) ∧ True))) ∧ (((!anyN (fun (i : Nat) => outB den (FD.i (fop i (0 : Nat)))) nop (0 : Nat)) = (true)) → ((((decide ((0 : Int) ≤ (0 : Int)) && decide ((0 : Int) < (↑ntb : Int))) = (true)) → ((((rowC [FD.list [Sh.int IntKind.i64] (FD.ln (ftb (Int.toNat (0 : Int)) (0 : Nat))) (FD.fn (ftb (Int.toNat (0 : Int)) (0 : Nat))), FD.list [Sh.int IntKind.i64] nop fop]) = (true)) → (∃ y0 : Nat, ((∃ y1 : Nat, ((y1 ≤ ntb ∧ True) ∧ (((true = true) ∧ ((((1, 1) ∈ ([(3, 3), (2, 2), (1, 1)] : List (Nat × Nat))) ∧ ((Prod.snd ((1 : Nat), (0 : Nat))) = (Prod.snd ((1 : Nat), (0 : Nat))))) ∧ ((((2, 2) ∈ ([(3, 3), (2, 2), (1, 1)] : List (Nat × Nat))) ∧ ((Prod.snd ((2 : Nat), (0 : Nat))) = (Prod.snd ((1 : Nat) + (1 : Nat), (0 : Nat))))) ∧ ((((3, 3) ∈ ([(3, 3), (2, 2), (1, 1)] : List (Nat × Nat))) ∧ ((Prod.snd ((3 : Nat), (0 : Nat))) = (Prod.snd ((1 : Nat) + (1 : Nat) + (1 : Nat), (0 : Nat))))) ∧ ((((IntKind.i64) = (IntKind.i64)) ∧ ((minF (rowL ftb fop) y1) = (dotF (FD.fn (ftb (Int.toNat (0 : Int)) (0 : Nat))) fop (FD.ln (ftb (Int.toNat (0 : Int)) (0 : Nat)))))) ∧ ((((IntKind.i64) = (IntKind.i64)) ∧ ((max0 (rowL ftb fop) y1) = ((0 : Int)))) ∧ ((((IntKind.i64) = (IntKind.i64)) ∧ ((Int.ofNat y1) = ((0 : Int)))) ∧ True))))))) ∧ (((((58 : TypeId)) = ((58 : Nat))) ∧ ((((3 : Nat)) = (List.length [Sc.fz (Ref.root (0 : Nat) (0 : Nat)) (FD.list [Sh.list [Sh.int IntKind.i64]] ntb ftb), Sc.int IntKind.i64 (Ix.tm nu), Sc.int IntKind.i64 (Ix.tm de)])) ∧ ((((Ref.root (0 : Nat) (0 : Nat)) = (Ref.root (0 : Nat) (0 : Nat))) ∧ (((FD.list [Sh.list [Sh.int IntKind.i64]] ntb ftb) = (FD.list [Sh.list [Sh.int IntKind.i64]] ntb ftb)) ∧ (true = true))) ∧ ((((IntKind.i64) = (IntKind.i64)) ∧ ((nu) = (nu))) ∧ ((((IntKind.i64) = (IntKind.i64)) ∧ ((de) = (de))) ∧ True))))) ∧ (((((61 : TypeId)) = ((61 : Nat))) ∧ ((((2 : Nat)) = (List.length [Sc.int IntKind.i64 (Ix.tm den), Sc.fz (Ref.root (0 : Nat) ((0 : Nat) + List.length [Sh.list [Sh.list [Sh.int IntKind.i64]], Sh.int IntKind.i64, Sh.int IntKind.i64] + (1 : Nat))) (FD.list [Sh.int IntKind.i64] nop fop)])) ∧ ((((IntKind.i64) = (IntKind.i64)) ∧ ((den) = (den))) ∧ ((((Ref.root (0 : Nat) (4 : Nat)) = (Ref.root (0 : Nat) ((0 : Nat) + List.length [Sh.list [Sh.list [Sh.int IntKind.i64]], Sh.int IntKind.i64, Sh.int IntKind.i64] + (1 : Nat)))) ∧ (((FD.list [Sh.int IntKind.i64] nop fop) = (FD.list [Sh.int IntKind.i64] nop fop)) ∧ (true = true))) ∧ True)))) ∧ (((((64 : TypeId)) = ((64 : Nat))) ∧ ((((2 : Nat)) = ((2 : Nat))) ∧ ((((IntKind.i64) = (IntKind.i64)) ∧ (((0 : Int)) = ((0 : Int)))) ∧ ((((IntKind.i64) = (IntKind.i64)) ∧ (((0 : Int)) = ((0 : Int)))) ∧ True)))) ∧ True)))))) ∧ (∀ y1 : Nat, (y1 ≤ ntb → ((((decide (Int.ofNat y1 < Int.ofNat ntb)) = (true)) → ((((decide ((0 : Int) ≤ Int.ofNat y1) && decide (Int.ofNat y1 < (↑ntb : Int))) = (true)) → ((((rowC [FD.list [Sh.int IntKind.i64] (FD.ln (ftb (Int.toNat (Int.ofNat y1)) (0 : Nat))) (FD.fn (ftb (Int.toNat (Int.ofNat y1)) (0 : Nat))), FD.list [Sh.int IntKind.i64] nop fop]) = (true)) → (∃ y2 : Nat, ((y2 ≤ ntb ∧ ntb - y2 < ntb - y1) ∧ (((true = true) ∧ ((((1, 1) ∈ ([(3, 3), (2, 2), (1, 1)] : List (Nat × Nat))) ∧ ((Prod.snd ((1 : Nat), (0 : Nat))) = (Prod.snd ((1 : Nat), (0 : Nat))))) ∧ ((((2, 2) ∈ ([(3, 3), (2, 2), (1, 1)] : List (Nat × Nat))) ∧ ((Prod.snd ((2 : Nat), (0 : Nat))) = (Prod.snd ((2 : Nat), (0 : Nat))))) ∧ ((((3, 3) ∈ ([(3, 3), (2, 2), (1, 1)] : List (Nat × Nat))) ∧ ((Prod.snd ((3 : Nat), (0 : Nat))) = (Prod.snd ((3 : Nat), (0 : Nat))))) ∧ ((((IntKind.i64) = (IntKind.i64)) ∧ ((minF (rowL ftb fop) y2) = (if dotF (FD.fn (ftb (Int.toNat (Int.ofNat y1)) (0 : Nat))) fop (FD.ln (ftb (Int.toNat (Int.ofNat y1)) (0 : Nat))) < minF (rowL ftb fop) y1 then dotF (FD.fn (ftb (Int.toNat (Int.ofNat y1)) (0 : Nat))) fop (FD.ln (ftb (Int.toNat (Int.ofNat y1)) (0 : Nat))) else minF (rowL ftb fop) y1))) ∧ ((((IntKind.i64) = (IntKind.i64)) ∧ ((max0 (rowL ftb fop) y2) = (if max0 (rowL ftb fop) y1 < dotF (FD.fn (ftb (Int.toNat (Int.ofNat y1)) (0 : Nat))) fop (FD.ln (ftb (Int.toNat (Int.ofNat y1)) (0 : Nat))) then dotF (FD.fn (ftb (Int.toNat (Int.ofNat y1)) (0 : Nat))) fop (FD.ln (ftb (Int.toNat (Int.ofNat y1)) (0 : Nat))) else max0 (rowL ftb fop) y1))) ∧ ((((IntKind.i64) = (IntKind.i64)) ∧ ((Int.ofNat y2) = (IntKind.wrap IntKind.i64 (Int.ofNat y1 + (1 : Int))))) ∧ True))))))) ∧ (((((58 : TypeId)) = ((58 : TypeId))) ∧ ((((3 : Nat)) = ((3 : Nat))) ∧ ((((Ref.root (0 : Nat) (0 : Nat)) = (Ref.root (0 : Nat) (0 : Nat))) ∧ (((FD.list [Sh.list [Sh.int IntKind.i64]] ntb ftb) = (FD.list [Sh.list [Sh.int IntKind.i64]] ntb ftb)) ∧ (true = true))) ∧ ((((IntKind.i64) = (IntKind.i64)) ∧ ((nu) = (nu))) ∧ ((((IntKind.i64) = (IntKind.i64)) ∧ ((de) = (de))) ∧ True))))) ∧ (((((61 : TypeId)) = ((61 : TypeId))) ∧ ((((2 : Nat)) = ((2 : Nat))) ∧ ((((IntKind.i64) = (IntKind.i64)) ∧ ((den) = (den))) ∧ ((((Ref.root (0 : Nat) (4 : Nat)) = (Ref.root (0 : Nat) (4 : Nat))) ∧ (((FD.list [Sh.int IntKind.i64] nop fop) = (FD.list [Sh.int IntKind.i64] nop fop)) ∧ (true = true))) ∧ True)))) ∧ (((((64 : TypeId)) = ((64 : TypeId))) ∧ ((((2 : Nat)) = ((2 : Nat))) ∧ ((((IntKind.i64) = (IntKind.i64)) ∧ (((0 : Int)) = ((0 : Int)))) ∧ ((((IntKind.i64) = (IntKind.i64)) ∧ (((0 : Int)) = ((0 : Int)))) ∧ True)))) ∧ True))))))) ∧ (((rowC [FD.list [Sh.int IntKind.i64] (FD.ln (ftb (Int.toNat (Int.ofNat y1)) (0 : Nat))) (FD.fn (ftb (Int.toNat (Int.ofNat y1)) (0 : Nat))), FD.list [Sh.int IntKind.i64] nop fop]) = (false)) → False))) ∧ (((decide ((0 : Int) ≤ Int.ofNat y1) && decide (Int.ofNat y1 < (↑ntb : Int))) = (false)) → False))) ∧ (((decide (Int.ofNat y1 < Int.ofNat ntb)) = (false)) → ((((decide (IntKind.wrap IntKind.i64 (IntKind.wrap IntKind.i64 (de + nu) * minF (rowL ftb fop) y1) < IntKind.wrap IntKind.i64 (de * max0 (rowL ftb fop) y1))) = (true)) → (((((IntKind.i64) = (IntKind.i64)) ∧ ((if maskE ntb ftb nu de den nop fop = (0 : Int) then divF (minF (rowL ftb fop) ntb) (gcdF (minF (rowL ftb fop) ntb) den) else (0 : Int)) = ((0 : Int)))) ∧ ((((IntKind.i64) = (IntKind.i64)) ∧ ((if maskE ntb ftb nu de den nop fop = (0 : Int) then divF den (gcdF (minF (rowL ftb fop) ntb) den) else (0 : Int)) = ((0 : Int)))) ∧ True)) ∧ ((((IntKind.i64) = (IntKind.i64)) ∧ ((maskE ntb ftb nu de den nop fop) = ((24 : Int)))) ∧ True))) ∧ (((decide (IntKind.wrap IntKind.i64 (IntKind.wrap IntKind.i64 (de + nu) * minF (rowL ftb fop) y1) < IntKind.wrap IntKind.i64 (de * max0 (rowL ftb fop) y1))) = (false)) → ((((refLowestC [FD.int IntKind.i64 (minF (rowL ftb fop) y1), FD.int IntKind.i64 den]) = (true)) → (((((IntKind.i64) = (IntKind.i64)) ∧ ((if maskE ntb ftb nu de den nop fop = (0 : Int) then divF (minF (rowL ftb fop) ntb) (gcdF (minF (rowL ftb fop) ntb) den) else (0 : Int)) = (divF (minF (rowL ftb fop) y1) (gcdF (minF (rowL ftb fop) y1) den)))) ∧ ((((IntKind.i64) = (IntKind.i64)) ∧ ((if maskE ntb ftb nu de den nop fop = (0 : Int) then divF den (gcdF (minF (rowL ftb fop) ntb) den) else (0 : Int)) = (divF den (gcdF (minF (rowL ftb fop) y1) den)))) ∧ True)) ∧ ((((IntKind.i64) = (IntKind.i64)) ∧ ((maskE ntb ftb nu de den nop fop) = ((0 : Int)))) ∧ True))) ∧ (((refLowestC [FD.int IntKind.i64 (minF (rowL ftb fop) y1), FD.int IntKind.i64 den]) = (false)) → False))))))))))) ∧ (((rowC [FD.list [Sh.int IntKind.i64] (FD.ln (ftb (Int.toNat (0 : Int)) (0 : Nat))) (FD.fn (ftb (Int.toNat (0 : Int)) (0 : Nat))), FD.list [Sh.int IntKind.i64] nop fop]) = (false)) → False))) ∧ (((decide ((0 : Int) ≤ (0 : Int)) && decide ((0 : Int) < (↑ntb : Int))) = (false)) → False))))) ∧ ((true = false) → False))))) ∧ (((decide ((0 : Int) ≤ (0 : Int)) && decide ((0 : Int) < (↑ntb : Int))) = (false)) → False))))) ∧ ((true = false) → False))) := by kernel_rfl
  refine hvc.mpr ?_
  clear hvc
  have h1 := of_decide_eq_true hc
  obtain ⟨a1, a2, a3, a4, a5⟩ := taskE_ok h1
  by_cases hden : 1 ≤ den ∧ den ≤ 1000000000000
  · by_cases hno : nop = (ftb 0 0).ln
    · rcases Bool.eq_false_or_eq_true (anyN (fun i => outB den (fop i 0).i) nop 0) with hany | hany
      · have hE : maskE ntb ftb nu de den nop fop = 2 := by rw [maskE, if_pos hden, if_pos hno, if_pos hany]
        have : ¬ ntb = 0 := by omega
        simp [h1, hden, hno, hE]
        simp [← hno, hany]
        omega
      · have hrow := rowV_bd h1 hden.2 hno hany
        have hmm := mmF_bd (f := rowL ftb fop) (M := 300000000000000) (n := ntb) (by omega) fun i hi => ⟨(hrow i hi).2.1, (hrow i hi).2.2⟩
        have hdc : ∀ i, i < ntb → rowC [.list [.int .i64] (ftb i 0).ln (ftb i 0).fn, .list [.int .i64] nop fop] = true := fun i hi => Nat.ble_eq_true_of_le (by have := (a5 i hi).1; omega)
        have hdc0 : rowC [.list [.int .i64] nop (ftb 0 0).fn, .list [.int .i64] nop fop] = true := Nat.ble_eq_true_of_le (Nat.le_refl _)
        have hlo : refLowestC [.int .i64 (minF (rowL ftb fop) ntb), .int .i64 den] = true := by
          simp only [refLowestC, Bool.and_eq_true, decide_eq_true_eq]; omega
        have hE : maskE ntb ftb nu de den nop fop = if IntKind.i64.wrap (IntKind.i64.wrap (de + nu) * minF (rowL ftb fop) ntb) < IntKind.i64.wrap (de * maxF (rowL ftb fop) ntb) then 24 else 0 := by rw [maskE, if_pos hden, if_pos hno, if_neg (by simp [hany])]
        have hmx := max0_eq (f := rowL ftb fop) (n := ntb) (fun i hi => (hrow i hi).2.1) (by omega)
        simp [h1, hden]
        simp [← hno, hany, hE]
        have w1 : ∀ k : Nat, k < 1000 → ((k + 1 : Nat) : Int) = IntKind.i64.wrap ((k : Int) + 1) := fun k hk => by
          rw [wrap_id (by omega) (by omega)]
          rfl
        refine ⟨fun h => ⟨fun _ => ⟨fun _ => ⟨⟨0, by omega, ?_, rfl, rfl⟩, fun x hx => ⟨fun hlt => ⟨fun _ => ⟨fun _ => ⟨x + 1, ⟨by omega, by omega⟩, rfl, rfl, w1 x (by omega)⟩, hdc x hlt⟩, hlt⟩, fun hge => ?_⟩⟩, hdc0⟩, by omega⟩, by omega⟩
        · simp only [minF, rowL, rowV, ← hno]; rfl
        · obtain rfl : x = ntb := by omega
          rw [hmx]
          exact ⟨fun hb => ⟨⟨fun c => by omega, fun c => by omega⟩, hb⟩, fun hb => ⟨fun _ => ⟨⟨by rw [if_pos hb], by rw [if_pos hb]⟩, hb⟩, hlo⟩⟩
    · have hE : maskE ntb ftb nu de den nop fop = 12 := by rw [maskE, if_pos hden, if_neg hno]
      simp [h1, hden, hno, hE]
      omega
  · have hE : maskE ntb ftb nu de den nop fop = 2 := by rw [maskE, if_neg hden]
    simp [h1, hE]
    exact fun a b => absurd ⟨a, b⟩ hden
end
end Go.Ex


namespace Go.Ex
open Go Go.Proofs Go.RowKit
noncomputable section
set_option maxRecDepth 1000000

def smQ : T Smf := (T.set smP 64 (some (gFd refMaskS (.tup [.agg [.int .i64, .int .i64], .one (.int .i64)]) refMaskC refMaskR)))
theorem smQ_ok : Tab SmOk smQ := (Tab.set smP_ok (by kernel_rfl) (smOk_of smP_ok gsN_ok refMask_ok rfl))
/-- A column of a table. -/
def colL (f : Nat → Nat → FD) (k : Nat) : Nat → Nat → FD := fun i _ => .int .i64 ((f i 0).fn k 0).i
/-- What a column says against the caps. -/
def capV (n : Nat) (f : Nat → Nat → FD) (de : Int) (lo hi : Nat → Nat → FD) (k : Nat) : Int := IntKind.i64.wrap (dotF (colL f k) lo n - IntKind.i64.wrap (de * dotF (colL f k) hi n))
def wtE (n : Nat) (f : Nat → Nat → FD) (nu de den : Int) (nlo : Nat) (lo : Nat → Nat → FD) (nhi : Nat) (hi : Nat → Nat → FD) (nca : Nat) (ca : Nat → Nat → FD) : Int :=
  if 1 ≤ den ∧ den ≤ 1000000000000 then (if nlo = n ∧ nhi = n ∧ nca = (f 0 0).ln then
    (if anyN (fun i => outB 1000000000000 (lo i 0).i) nlo 0 = true ∨ anyN (fun i => outB 1000000000000 (hi i 0).i) nhi 0 = true ∨ anyN (fun i => outB 1000000000000 (ca i 0).i) nca 0 = true then 2
    else if IntKind.i64.wrap (sumF lo nlo - IntKind.i64.wrap (IntKind.i64.wrap (de + nu) * sumF hi nhi)) < den then 20
    else if anyN (fun k => decide ((ca k 0).i < capV n f de lo hi k)) nca 0 = true then 20 else 0) else 12) else 2
theorem sumF_isum2 {f : Nat → Nat → FD} : ∀ {n : Nat}, n ≤ 1000 → (∀ j, j < n → 0 ≤ (f j 0).i ∧ (f j 0).i ≤ 1000000000000) → sumF f n = isum (fun j => (f j 0).i) n ∧ 0 ≤ sumF f n ∧ sumF f n ≤ 1000000000000 * n
  | 0, _, _ => by simp [sumF, isum]
  | n + 1, hn, h => by
    obtain ⟨e1, e2, e3⟩ := sumF_isum2 (f := f) (n := n) (by omega) fun j hj => h j (by omega)
    have b0 := h n (by omega)
    simp only [sumF, isum]
    rw [wrap_id (by omega) (by omega), ← e1]
    refine ⟨rfl, by omega, ?_⟩
    have : (1000000000000 : Int) * ((n + 1 : Nat) : Int) = 1000000000000 * n + 1000000000000 := by rw [show ((n + 1 : Nat) : Int) = (n : Int) + 1 from rfl, Int.mul_add, Int.mul_one]
    omega
def checkWeightsS : List PT := [.agg [.list [.list [.int .i64]], .int .i64, .int .i64], .agg [.int .i64, .list [.int .i64], .list [.int .i64], .list [.int .i64]]]
def checkWeightsC : List FD → Bool
  | [.list _ _ _, .int _ _, .int _ _, .int _ _, .list _ _ _, .list _ _ _, .list _ _ _] => true
  | _ => false
def checkWeightsR : List FD → List FD
  | [.list _ ntb ftb, .int _ nu, .int _ de, .int _ den, .list _ nlo flo, .list _ nhi fhi, .list _ nca fca] => [.int .i64 (if taskE ntb ftb nu de = 0 ∧ wtE ntb ftb nu de den nlo flo nhi fhi nca fca = 0 then divF (sumF fca nca) (gcdF (sumF fca nca) den) else 0), .int .i64 (if taskE ntb ftb nu de = 0 ∧ wtE ntb ftb nu de den nlo flo nhi fhi nca fca = 0 then divF den (gcdF (sumF fca nca) den) else 0), .int .i64 (if taskE ntb ftb nu de = 0 then wtE ntb ftb nu de den nlo flo nhi fhi nca fca else taskE ntb ftb nu de)]
  | _ => []
def checkWeightsI (ntb : Nat) (ftb : Nat → Nat → FD) (nu : Int) (de : Int) (den : Int) (nlo : Nat) (flo : Nat → Nat → FD) (nhi : Nat) (fhi : Nat → Nat → FD) (nca : Nat) (fca : Nat → Nat → FD) : Nat → AFam := fun i => match i with | 13 => ⟨Nat, fun _ => [{ι := Nat, G := fun x => x ≤ nca ∧ anyN (fun k => decide ((fca k 0).i < capV ntb ftb de flo fhi k)) (nca - x) x = anyN (fun k => decide ((fca k 0).i < capV ntb ftb de flo fhi k)) nca 0, μ := fun x => nca - x, tl := fun x => [(2, .one (.ptr (some (1, 0)))), (3, .one (.ptr (some (2, 0)))), (4, .one (.ptr (some (3, 0)))), (90, .one (.fz (.root 0 6) (FD.list [Sh.int IntKind.i64] nca fca))), (91, .one (.int IntKind.i64 (.tm (Int.ofNat nca)))), (92, .one (.int IntKind.i64 (.tm (Int.ofNat x))))], bl := fun x => [(1, .cells 58 3 [.fz (.root 0 0) (FD.list [Sh.list [Sh.int IntKind.i64]] ntb ftb), .int IntKind.i64 (.tm nu), .int IntKind.i64 (.tm de)]), (2, .cells 63 4 [.int IntKind.i64 (.tm den), .fz (.root 0 4) (FD.list [Sh.int IntKind.i64] nlo flo), .fz (.root 0 5) (FD.list [Sh.int IntKind.i64] nhi fhi), .fz (.root 0 6) (FD.list [Sh.int IntKind.i64] nca fca)]), (3, .cells 64 2 [.int IntKind.i64 (.lit (0 : Int)), .int IntKind.i64 (.lit (0 : Int))])], nx := (1 : Nat) + (1 : Nat) + (1 : Nat) + (1 : Nat) + ((0 : Nat) + (1 : Nat) + (1 : Nat) + (1 : Nat) + (1 : Nat) + (1 : Nat) + (1 : Nat) + (1 : Nat) + (1 : Nat) + (1 : Nat) + (1 : Nat) + (1 : Nat) + (1 : Nat) + (1 : Nat) + (1 : Nat) + (1 : Nat) + (1 : Nat) + (1 : Nat) + (1 : Nat) + (1 : Nat) + (1 : Nat) + (1 : Nat) + (1 : Nat) + (1 : Nat) + (1 : Nat) + (1 : Nat) + (1 : Nat) + (1 : Nat)) + ((0 : Nat) + (1 : Nat) + (1 : Nat) + (1 : Nat) + (1 : Nat) + (1 : Nat) + (1 : Nat) + (1 : Nat) + (1 : Nat) + (1 : Nat) + (1 : Nat) + (1 : Nat) + (1 : Nat) + (1 : Nat) + (1 : Nat) + (1 : Nat) + (1 : Nat) + (1 : Nat) + (1 : Nat))}]⟩ | _ => ⟨Nat, fun _ => []⟩
abbrev qcheckWeights4 (ntb : Nat) (ftb : Nat → Nat → FD) (nu : Int) (de : Int) (den : Int) (nlo : Nat) (flo : Nat → Nat → FD) (nhi : Nat) (fhi : Nat → Nat → FD) (nca : Nat) (fca : Nat → Nat → FD) : Prop := ((((IntKind.i64) = (IntKind.i64)) ∧ ((if taskE ntb ftb nu de = (0 : Int) ∧ wtE ntb ftb nu de den nlo flo nhi fhi nca fca = (0 : Int) then divF (sumF fca nca) (gcdF (sumF fca nca) den) else (0 : Int)) = ((0 : Int)))) ∧ ((((IntKind.i64) = (IntKind.i64)) ∧ ((if taskE ntb ftb nu de = (0 : Int) ∧ wtE ntb ftb nu de den nlo flo nhi fhi nca fca = (0 : Int) then divF den (gcdF (sumF fca nca) den) else (0 : Int)) = ((0 : Int)))) ∧ True))
abbrev qcheckWeights0 (ntb : Nat) (ftb : Nat → Nat → FD) (nu : Int) (de : Int) (den : Int) (nlo : Nat) (flo : Nat → Nat → FD) (nhi : Nat) (fhi : Nat → Nat → FD) (nca : Nat) (fca : Nat → Nat → FD) : Prop := ((qcheckWeights4 ntb ftb nu de den nlo flo nhi fhi nca fca) ∧ ((((IntKind.i64) = (IntKind.i64)) ∧ ((if taskE ntb ftb nu de = (0 : Int) then wtE ntb ftb nu de den nlo flo nhi fhi nca fca else taskE ntb ftb nu de) = ((12 : Int)))) ∧ True))
abbrev qcheckWeights6 (ntb : Nat) (ftb : Nat → Nat → FD) (nu : Int) (de : Int) (den : Int) (nlo : Nat) (flo : Nat → Nat → FD) (nhi : Nat) (fhi : Nat → Nat → FD) (nca : Nat) (fca : Nat → Nat → FD) : Prop := ((((decide (Int.ofNat nhi = Int.ofNat ntb)) = (true)) → False) ∧ (((decide (Int.ofNat nhi = Int.ofNat ntb)) = (false)) → ((((decide (Int.ofNat nhi = Int.ofNat ntb)) = (true)) → False) ∧ (((decide (Int.ofNat nhi = Int.ofNat ntb)) = (false)) → (qcheckWeights0 ntb ftb nu de den nlo flo nhi fhi nca fca)))))
abbrev qcheckWeights3 (ntb : Nat) (ftb : Nat → Nat → FD) (nu : Int) (de : Int) (den : Int) (nlo : Nat) (flo : Nat → Nat → FD) (nhi : Nat) (fhi : Nat → Nat → FD) (nca : Nat) (fca : Nat → Nat → FD) : Prop := (((decide (Int.ofNat nhi = Int.ofNat ntb)) = (false)) → ((((decide (Int.ofNat nhi = Int.ofNat ntb)) = (true)) → False) ∧ (((decide (Int.ofNat nhi = Int.ofNat ntb)) = (false)) → (qcheckWeights6 ntb ftb nu de den nlo flo nhi fhi nca fca))))
abbrev qcheckWeights7 (ntb : Nat) (ftb : Nat → Nat → FD) (nu : Int) (de : Int) (den : Int) (nlo : Nat) (flo : Nat → Nat → FD) (nhi : Nat) (fhi : Nat → Nat → FD) (nca : Nat) (fca : Nat → Nat → FD) : Prop := (((decide (Int.ofNat nhi = Int.ofNat ntb)) = (false)) → ((((decide (Int.ofNat nhi = Int.ofNat ntb)) = (true)) → False) ∧ (((decide (Int.ofNat nhi = Int.ofNat ntb)) = (false)) → ((((decide (Int.ofNat nhi = Int.ofNat ntb)) = (true)) → False) ∧ (qcheckWeights3 ntb ftb nu de den nlo flo nhi fhi nca fca)))))
abbrev qcheckWeights1 (ntb : Nat) (ftb : Nat → Nat → FD) (nu : Int) (de : Int) (den : Int) (nlo : Nat) (flo : Nat → Nat → FD) (nhi : Nat) (fhi : Nat → Nat → FD) (nca : Nat) (fca : Nat → Nat → FD) : Prop := (((decide (Int.ofNat nhi = Int.ofNat ntb)) = (false)) → ((((decide (Int.ofNat nhi = Int.ofNat ntb)) = (true)) → ((((decide (Int.ofNat nhi = Int.ofNat ntb)) = (true)) → ((((decide (Int.ofNat nhi = Int.ofNat ntb)) = (true)) → ((((decide ((0 : Int) ≤ (0 : Int)) && decide ((0 : Int) < (↑ntb : Int))) = (true)) → ((((decide (Int.ofNat nhi = Int.ofNat ntb)) = (true)) → ((((decide (Int.ofNat nhi = Int.ofNat ntb)) = (true)) → (qcheckWeights6 ntb ftb nu de den nlo flo nhi fhi nca fca)) ∧ (((decide (Int.ofNat nhi = Int.ofNat ntb)) = (false)) → (qcheckWeights6 ntb ftb nu de den nlo flo nhi fhi nca fca)))) ∧ (qcheckWeights3 ntb ftb nu de den nlo flo nhi fhi nca fca))) ∧ (((decide ((0 : Int) ≤ (0 : Int)) && decide ((0 : Int) < (↑ntb : Int))) = (false)) → False))) ∧ (((decide (Int.ofNat nhi = Int.ofNat ntb)) = (false)) → ((((decide (Int.ofNat nhi = Int.ofNat ntb)) = (true)) → False) ∧ (qcheckWeights3 ntb ftb nu de den nlo flo nhi fhi nca fca))))) ∧ (qcheckWeights7 ntb ftb nu de den nlo flo nhi fhi nca fca))) ∧ (((decide (Int.ofNat nhi = Int.ofNat ntb)) = (false)) → ((((decide (Int.ofNat nhi = Int.ofNat ntb)) = (true)) → False) ∧ (qcheckWeights7 ntb ftb nu de den nlo flo nhi fhi nca fca)))))
abbrev qcheckWeights8 (ntb : Nat) (ftb : Nat → Nat → FD) (nu : Int) (de : Int) (den : Int) (nlo : Nat) (flo : Nat → Nat → FD) (nhi : Nat) (fhi : Nat → Nat → FD) (nca : Nat) (fca : Nat → Nat → FD) : Prop := ((qcheckWeights4 ntb ftb nu de den nlo flo nhi fhi nca fca) ∧ ((((IntKind.i64) = (IntKind.i64)) ∧ ((if taskE ntb ftb nu de = (0 : Int) then wtE ntb ftb nu de den nlo flo nhi fhi nca fca else taskE ntb ftb nu de) = ((2 : Int)))) ∧ True))
abbrev qcheckWeights10 (ntb : Nat) (ftb : Nat → Nat → FD) (nu : Int) (de : Int) (den : Int) (nlo : Nat) (flo : Nat → Nat → FD) (nhi : Nat) (fhi : Nat → Nat → FD) (nca : Nat) (fca : Nat → Nat → FD) : Prop := (((decide (Int.ofNat nlo = Int.ofNat ntb)) = (false)) → ((((decide (Int.ofNat nlo = Int.ofNat ntb)) = (true)) → False) ∧ (((decide (Int.ofNat nlo = Int.ofNat ntb)) = (false)) → (qcheckWeights0 ntb ftb nu de den nlo flo nhi fhi nca fca))))
abbrev qcheckWeights5 (ntb : Nat) (ftb : Nat → Nat → FD) (nu : Int) (de : Int) (den : Int) (nlo : Nat) (flo : Nat → Nat → FD) (nhi : Nat) (fhi : Nat → Nat → FD) (nca : Nat) (fca : Nat → Nat → FD) : Prop := (((decide (Int.ofNat nlo = Int.ofNat ntb)) = (false)) → ((((decide (Int.ofNat nlo = Int.ofNat ntb)) = (true)) → False) ∧ (qcheckWeights10 ntb ftb nu de den nlo flo nhi fhi nca fca)))
abbrev qcheckWeights9 (ntb : Nat) (ftb : Nat → Nat → FD) (nu : Int) (de : Int) (den : Int) (nlo : Nat) (flo : Nat → Nat → FD) (nhi : Nat) (fhi : Nat → Nat → FD) (nca : Nat) (fca : Nat → Nat → FD) : Prop := (((decide (Int.ofNat nlo = Int.ofNat ntb)) = (false)) → ((((decide (Int.ofNat nlo = Int.ofNat ntb)) = (true)) → False) ∧ (qcheckWeights5 ntb ftb nu de den nlo flo nhi fhi nca fca)))
abbrev qcheckWeights2 (ntb : Nat) (ftb : Nat → Nat → FD) (nu : Int) (de : Int) (den : Int) (nlo : Nat) (flo : Nat → Nat → FD) (nhi : Nat) (fhi : Nat → Nat → FD) (nca : Nat) (fca : Nat → Nat → FD) : Prop := (((decide (Int.ofNat nlo = Int.ofNat ntb)) = (false)) → ((((decide (Int.ofNat nlo = Int.ofNat ntb)) = (true)) → ((((decide (Int.ofNat nlo = Int.ofNat ntb)) = (true)) → ((((decide (Int.ofNat nlo = Int.ofNat ntb)) = (true)) → ((((decide (Int.ofNat nlo = Int.ofNat ntb)) = (true)) → False) ∧ (qcheckWeights10 ntb ftb nu de den nlo flo nhi fhi nca fca))) ∧ (qcheckWeights5 ntb ftb nu de den nlo flo nhi fhi nca fca))) ∧ (qcheckWeights9 ntb ftb nu de den nlo flo nhi fhi nca fca))) ∧ (((decide (Int.ofNat nlo = Int.ofNat ntb)) = (false)) → ((((decide (Int.ofNat nlo = Int.ofNat ntb)) = (true)) → False) ∧ (qcheckWeights9 ntb ftb nu de den nlo flo nhi fhi nca fca)))))
theorem checkWeights_ok : FnOk (mkR smQ gsN) Try.prog η0 61 (FI.of Try.f61 true) checkWeightsS (.tup [.agg [.int .i64, .int .i64], .one (.int .i64)]) checkWeightsC checkWeightsR := by
  refine fnOk_of0 smQ_ok gsN_ok Try.fok61 (fun fds => match fds with | [.list _ ntb ftb, .int _ nu, .int _ de, .int _ den, .list _ nlo flo, .list _ nhi fhi, .list _ nca fca] => checkWeightsI ntb ftb nu de den nlo flo nhi fhi nca fca | _ => alts fun _ => []) ?_
  intro fds hf hc
  obtain ⟨ntb, ftb, ds0, rfl, gtb, hf1⟩ := hf.list
  obtain ⟨nu, ds1, rfl, hf2⟩ := hf1.int
  obtain ⟨de, ds2, rfl, hf3⟩ := hf2.int
  obtain ⟨den, ds3, rfl, hf4⟩ := hf3.int
  obtain ⟨nlo, flo, ds4, rfl, glo, hf5⟩ := hf4.list
  obtain ⟨nhi, fhi, ds5, rfl, ghi, hf6⟩ := hf5.list
  obtain ⟨nca, fca, ds6, rfl, gca, hf7⟩ := hf6.list
  obtain rfl := hf7.nil
  have hc : (true) = true := hc
  have hvc : (vcF smQ gsN (FI.of Try.f61 true) checkWeightsS (.tup [.agg [.int .i64, .int .i64], .one (.int .i64)]) (checkWeightsI ntb ftb nu de den nlo flo nhi fhi nca fca) noR [.list [.list [.int .i64]] ntb ftb, .int .i64 nu, .int .i64 de, .int .i64 den, .list [.int .i64] nlo flo, .list [.int .i64] nhi fhi, .list [.int .i64] nca fca] (checkWeightsR [.list [.list [.int .i64]] ntb ftb, .int .i64 nu, .int .i64 de, .int .i64 den, .list [.int .i64] nlo flo, .list [.int .i64] nhi fhi, .list [.int .i64] nca fca])) =
    ((true = true) ∧ (((true = true) → ((((decide (taskE ntb ftb nu de = (0 : Int))) = (false)) → ((qcheckWeights4 ntb ftb nu de den nlo flo nhi fhi nca fca) ∧ ((((IntKind.i64) = (IntKind.i64)) ∧ ((if taskE ntb ftb nu de = (0 : Int) then wtE ntb ftb nu de den nlo flo nhi fhi nca fca else taskE ntb ftb nu de) = (taskE ntb ftb nu de))) ∧ True))) ∧ (((decide (taskE ntb ftb nu de = (0 : Int))) = (true)) → (((true = true) → ((((decide ((1 : Int) ≤ den) && decide (den ≤ (1000000000000 : Int))) = (false)) → (qcheckWeights8 ntb ftb nu de den nlo flo nhi fhi nca fca)) ∧ (((decide ((1 : Int) ≤ den) && decide (den ≤ (1000000000000 : Int))) = (true)) → ((((decide (Int.ofNat nlo = Int.ofNat ntb)) = (true)) → ((((decide (Int.ofNat nlo = Int.ofNat ntb)) = (true)) → ((((decide (Int.ofNat nlo = Int.ofNat ntb)) = (true)) → ((((decide (Int.ofNat nlo = Int.ofNat ntb)) = (true)) → ((((decide (Int.ofNat nlo = Int.ofNat ntb)) = (true)) → ((((decide (Int.ofNat nlo = Int.ofNat ntb)) = (true)) → ((((decide (Int.ofNat nlo = Int.ofNat ntb)) = (true)) → ((((decide (Int.ofNat nlo = Int.ofNat ntb)) = (true)) → ((((decide (Int.ofNat nhi = Int.ofNat ntb)) = (true)) → ((((decide (Int.ofNat nhi = Int.ofNat ntb)) = (true)) → ((((decide (Int.ofNat nhi = Int.ofNat ntb)) = (true)) → ((((decide (Int.ofNat nhi = Int.ofNat ntb)) = (true)) → ((((decide (Int.ofNat nhi = Int.ofNat ntb)) = (true)) → ((((decide (Int.ofNat nhi = Int.ofNat ntb)) = (true)) → ((((decide ((0 : Int) ≤ (0 : Int)) && decide ((0 : Int) < (↑ntb : Int))) = (true)) → ((((decide (Int.ofNat nhi = Int.ofNat ntb)) = (true)) → ((((decide (Int.ofNat nhi = Int.ofNat ntb)) = (true)) → ((((decide (Int.ofNat nhi = Int.ofNat ntb)) = (true)) → ((((decide (Int.ofNat nhi = Int.ofNat ntb)) = (true)) → ((((decide (Int.ofNat nca = Int.ofNat (FD.ln (ftb (Int.toNat (0 : Int)) (0 : Nat))))) = (false)) → (qcheckWeights0 ntb ftb nu de den nlo flo nhi fhi nca fca)) ∧ (((decide (Int.ofNat nca = Int.ofNat (FD.ln (ftb (Int.toNat (0 : Int)) (0 : Nat))))) = (true)) → (((true = true) → ((((anyN (fun (i : Nat) => outB (1000000000000 : Int) (FD.i (flo i (0 : Nat)))) nlo (0 : Nat)) = (true)) → (qcheckWeights8 ntb ftb nu de den nlo flo nhi fhi nca fca)) ∧ (((anyN (fun (i : Nat) => outB (1000000000000 : Int) (FD.i (flo i (0 : Nat)))) nlo (0 : Nat)) = (false)) → (((true = true) → ((((anyN (fun (i : Nat) => outB (1000000000000 : Int) (FD.i (fhi i (0 : Nat)))) nhi (0 : Nat)) = (true)) → (qcheckWeights8 ntb ftb nu de den nlo flo nhi fhi nca fca)) ∧ (((anyN (fun (i : Nat) => outB (1000000000000 : Int) (FD.i (fhi i (0 : Nat)))) nhi (0 : Nat)) = (false)) → (((true = true) → ((((anyN (fun (i : Nat) => outB (1000000000000 : Int) (FD.i (fca i (0 : Nat)))) nca (0 : Nat)) = (true)) → (qcheckWeights8 ntb ftb nu de den nlo flo nhi fhi nca fca)) ∧ (((anyN (fun (i : Nat) => outB (1000000000000 : Int) (FD.i (fca i (0 : Nat)))) nca (0 : Nat)) = (false)) → (((true = true) → (((true = true) → ((((decide (IntKind.wrap IntKind.i64 (sumF flo nlo - IntKind.wrap IntKind.i64 (IntKind.wrap IntKind.i64 (de + nu) * sumF fhi nhi)) < den)) = (true)) → ((qcheckWeights4 ntb ftb nu de den nlo flo nhi fhi nca fca) ∧ ((((IntKind.i64) = (IntKind.i64)) ∧ ((if taskE ntb ftb nu de = (0 : Int) then wtE ntb ftb nu de den nlo flo nhi fhi nca fca else taskE ntb ftb nu de) = ((20 : Int)))) ∧ True))) ∧ (((decide (IntKind.wrap IntKind.i64 (sumF flo nlo - IntKind.wrap IntKind.i64 (IntKind.wrap IntKind.i64 (de + nu) * sumF fhi nhi)) < den)) = (false)) → (∃ y0 : Nat, ((∃ y1 : Nat, (((y1 ≤ nca ∧ ((anyN (fun (k : Nat) => decide (FD.i (fca k (0 : Nat)) < capV ntb ftb de flo fhi k)) (nca - y1) y1) = (anyN (fun (k : Nat) => decide (FD.i (fca k (0 : Nat)) < capV ntb ftb de flo fhi k)) nca (0 : Nat)))) ∧ True) ∧ (((true = true) ∧ ((((1, 1) ∈ ([(3, 3), (2, 2), (1, 1)] : List (Nat × Nat))) ∧ ((Prod.snd ((1 : Nat), (0 : Nat))) = (Prod.snd ((1 : Nat), (0 : Nat))))) ∧ ((((2, 2) ∈ ([(3, 3), (2, 2), (1, 1)] : List (Nat × Nat))) ∧ ((Prod.snd ((2 : Nat), (0 : Nat))) = (Prod.snd ((1 : Nat) + (1 : Nat), (0 : Nat))))) ∧ ((((3, 3) ∈ ([(3, 3), (2, 2), (1, 1)] : List (Nat × Nat))) ∧ ((Prod.snd ((3 : Nat), (0 : Nat))) = (Prod.snd ((1 : Nat) + (1 : Nat) + (1 : Nat), (0 : Nat))))) ∧ ((((Ref.root (0 : Nat) (6 : Nat)) = (Ref.root (0 : Nat) ((0 : Nat) + List.length [Sh.list [Sh.list [Sh.int IntKind.i64]], Sh.int IntKind.i64, Sh.int IntKind.i64] + (1 : Nat) + (1 : Nat) + (1 : Nat)))) ∧ (((FD.list [Sh.int IntKind.i64] nca fca) = (FD.list [Sh.int IntKind.i64] nca fca)) ∧ (true = true))) ∧ ((((IntKind.i64) = (IntKind.i64)) ∧ ((Int.ofNat nca) = (Int.ofNat nca))) ∧ ((((IntKind.i64) = (IntKind.i64)) ∧ ((Int.ofNat y1) = ((0 : Int)))) ∧ True))))))) ∧ (((((58 : TypeId)) = ((58 : Nat))) ∧ ((((3 : Nat)) = (List.length [Sc.fz (Ref.root (0 : Nat) (0 : Nat)) (FD.list [Sh.list [Sh.int IntKind.i64]] ntb ftb), Sc.int IntKind.i64 (Ix.tm nu), Sc.int IntKind.i64 (Ix.tm de)])) ∧ ((((Ref.root (0 : Nat) (0 : Nat)) = (Ref.root (0 : Nat) (0 : Nat))) ∧ (((FD.list [Sh.list [Sh.int IntKind.i64]] ntb ftb) = (FD.list [Sh.list [Sh.int IntKind.i64]] ntb ftb)) ∧ (true = true))) ∧ ((((IntKind.i64) = (IntKind.i64)) ∧ ((nu) = (nu))) ∧ ((((IntKind.i64) = (IntKind.i64)) ∧ ((de) = (de))) ∧ True))))) ∧ (((((63 : TypeId)) = ((63 : Nat))) ∧ ((((4 : Nat)) = (List.length [Sc.int IntKind.i64 (Ix.tm den), Sc.fz (Ref.root (0 : Nat) ((0 : Nat) + List.length [Sh.list [Sh.list [Sh.int IntKind.i64]], Sh.int IntKind.i64, Sh.int IntKind.i64] + (1 : Nat))) (FD.list [Sh.int IntKind.i64] nlo flo), Sc.fz (Ref.root (0 : Nat) ((0 : Nat) + List.length [Sh.list [Sh.list [Sh.int IntKind.i64]], Sh.int IntKind.i64, Sh.int IntKind.i64] + (1 : Nat) + (1 : Nat))) (FD.list [Sh.int IntKind.i64] nhi fhi), Sc.fz (Ref.root (0 : Nat) ((0 : Nat) + List.length [Sh.list [Sh.list [Sh.int IntKind.i64]], Sh.int IntKind.i64, Sh.int IntKind.i64] + (1 : Nat) + (1 : Nat) + (1 : Nat))) (FD.list [Sh.int IntKind.i64] nca fca)])) ∧ ((((IntKind.i64) = (IntKind.i64)) ∧ ((den) = (den))) ∧ ((((Ref.root (0 : Nat) (4 : Nat)) = (Ref.root (0 : Nat) ((0 : Nat) + List.length [Sh.list [Sh.list [Sh.int IntKind.i64]], Sh.int IntKind.i64, Sh.int IntKind.i64] + (1 : Nat)))) ∧ (((FD.list [Sh.int IntKind.i64] nlo flo) = (FD.list [Sh.int IntKind.i64] nlo flo)) ∧ (true = true))) ∧ ((((Ref.root (0 : Nat) (5 : Nat)) = (Ref.root (0 : Nat) ((0 : Nat) + List.length [Sh.list [Sh.list [Sh.int IntKind.i64]], Sh.int IntKind.i64, Sh.int IntKind.i64] + (1 : Nat) + (1 : Nat)))) ∧ (((FD.list [Sh.int IntKind.i64] nhi fhi) = (FD.list [Sh.int IntKind.i64] nhi fhi)) ∧ (true = true))) ∧ ((((Ref.root (0 : Nat) (6 : Nat)) = (Ref.root (0 : Nat) ((0 : Nat) + List.length [Sh.list [Sh.list [Sh.int IntKind.i64]], Sh.int IntKind.i64, Sh.int IntKind.i64] + (1 : Nat) + (1 : Nat) + (1 : Nat)))) ∧ (((FD.list [Sh.int IntKind.i64] nca fca) = (FD.list [Sh.int IntKind.i64] nca fca)) ∧ (true = true))) ∧ True)))))) ∧ (((((64 : TypeId)) = ((64 : Nat))) ∧ ((((2 : Nat)) = ((2 : Nat))) ∧ ((((IntKind.i64) = (IntKind.i64)) ∧ (((0 : Int)) = ((0 : Int)))) ∧ ((((IntKind.i64) = (IntKind.i64)) ∧ (((0 : Int)) = ((0 : Int)))) ∧ True)))) ∧ True)))))) ∧ (∀ y1 : Nat, ((y1 ≤ nca ∧ ((anyN (fun (k : Nat) => decide (FD.i (fca k (0 : Nat)) < capV ntb ftb de flo fhi k)) (nca - y1) y1) = (anyN (fun (k : Nat) => decide (FD.i (fca k (0 : Nat)) < capV ntb ftb de flo fhi k)) nca (0 : Nat)))) → ((((decide (Int.ofNat y1 < Int.ofNat nca)) = (true)) → ((((decide ((0 : Int) ≤ Int.ofNat y1) && decide (Int.ofNat y1 < (↑nca : Int))) = (true)) → ((((columnC [FD.list [Sh.list [Sh.int IntKind.i64]] ntb ftb, FD.int IntKind.i64 (Int.ofNat y1)]) = (true)) → ((((dotC [FD.list [Sh.int IntKind.i64] ntb fun (i x : Nat) => FD.int IntKind.i64 (FD.i (FD.fn (ftb i (0 : Nat)) (Int.toNat (Int.ofNat y1)) (0 : Nat))), FD.list [Sh.int IntKind.i64] nlo flo]) = (true)) → ((((dotC [FD.list [Sh.int IntKind.i64] ntb fun (i x : Nat) => FD.int IntKind.i64 (FD.i (FD.fn (ftb i (0 : Nat)) (Int.toNat (Int.ofNat y1)) (0 : Nat))), FD.list [Sh.int IntKind.i64] nhi fhi]) = (true)) → ((((decide (FD.i (fca (Int.toNat (Int.ofNat y1)) (0 : Nat)) < IntKind.wrap IntKind.i64 (dotF (fun (i x : Nat) => FD.int IntKind.i64 (FD.i (FD.fn (ftb i (0 : Nat)) (Int.toNat (Int.ofNat y1)) (0 : Nat)))) flo ntb - IntKind.wrap IntKind.i64 (de * dotF (fun (i x : Nat) => FD.int IntKind.i64 (FD.i (FD.fn (ftb i (0 : Nat)) (Int.toNat (Int.ofNat y1)) (0 : Nat)))) fhi ntb)))) = (true)) → ((qcheckWeights4 ntb ftb nu de den nlo flo nhi fhi nca fca) ∧ ((((IntKind.i64) = (IntKind.i64)) ∧ ((if taskE ntb ftb nu de = (0 : Int) then wtE ntb ftb nu de den nlo flo nhi fhi nca fca else taskE ntb ftb nu de) = ((20 : Int)))) ∧ True))) ∧ (((decide (FD.i (fca (Int.toNat (Int.ofNat y1)) (0 : Nat)) < IntKind.wrap IntKind.i64 (dotF (fun (i x : Nat) => FD.int IntKind.i64 (FD.i (FD.fn (ftb i (0 : Nat)) (Int.toNat (Int.ofNat y1)) (0 : Nat)))) flo ntb - IntKind.wrap IntKind.i64 (de * dotF (fun (i x : Nat) => FD.int IntKind.i64 (FD.i (FD.fn (ftb i (0 : Nat)) (Int.toNat (Int.ofNat y1)) (0 : Nat)))) fhi ntb)))) = (false)) → (∃ y2 : Nat, (((y2 ≤ nca ∧ ((anyN (fun (k : Nat) => decide (FD.i (fca k (0 : Nat)) < capV ntb ftb de flo fhi k)) (nca - y2) y2) = (anyN (fun (k : Nat) => decide (FD.i (fca k (0 : Nat)) < capV ntb ftb de flo fhi k)) nca (0 : Nat)))) ∧ nca - y2 < nca - y1) ∧ (((true = true) ∧ ((((1, 1) ∈ ([(3, 3), (2, 2), (1, 1)] : List (Nat × Nat))) ∧ ((Prod.snd ((1 : Nat), (0 : Nat))) = (Prod.snd ((1 : Nat), (0 : Nat))))) ∧ ((((2, 2) ∈ ([(3, 3), (2, 2), (1, 1)] : List (Nat × Nat))) ∧ ((Prod.snd ((2 : Nat), (0 : Nat))) = (Prod.snd ((2 : Nat), (0 : Nat))))) ∧ ((((3, 3) ∈ ([(3, 3), (2, 2), (1, 1)] : List (Nat × Nat))) ∧ ((Prod.snd ((3 : Nat), (0 : Nat))) = (Prod.snd ((3 : Nat), (0 : Nat))))) ∧ ((((Ref.root (0 : Nat) (6 : Nat)) = (Ref.root (0 : Nat) (6 : Nat))) ∧ (((FD.list [Sh.int IntKind.i64] nca fca) = (FD.list [Sh.int IntKind.i64] nca fca)) ∧ (true = true))) ∧ ((((IntKind.i64) = (IntKind.i64)) ∧ ((Int.ofNat nca) = (Int.ofNat nca))) ∧ ((((IntKind.i64) = (IntKind.i64)) ∧ ((Int.ofNat y2) = (IntKind.wrap IntKind.i64 (Int.ofNat y1 + (1 : Int))))) ∧ True))))))) ∧ (((((58 : TypeId)) = ((58 : TypeId))) ∧ ((((3 : Nat)) = ((3 : Nat))) ∧ ((((Ref.root (0 : Nat) (0 : Nat)) = (Ref.root (0 : Nat) (0 : Nat))) ∧ (((FD.list [Sh.list [Sh.int IntKind.i64]] ntb ftb) = (FD.list [Sh.list [Sh.int IntKind.i64]] ntb ftb)) ∧ (true = true))) ∧ ((((IntKind.i64) = (IntKind.i64)) ∧ ((nu) = (nu))) ∧ ((((IntKind.i64) = (IntKind.i64)) ∧ ((de) = (de))) ∧ True))))) ∧ (((((63 : TypeId)) = ((63 : TypeId))) ∧ ((((4 : Nat)) = ((4 : Nat))) ∧ ((((IntKind.i64) = (IntKind.i64)) ∧ ((den) = (den))) ∧ ((((Ref.root (0 : Nat) (4 : Nat)) = (Ref.root (0 : Nat) (4 : Nat))) ∧ (((FD.list [Sh.int IntKind.i64] nlo flo) = (FD.list [Sh.int IntKind.i64] nlo flo)) ∧ (true = true))) ∧ ((((Ref.root (0 : Nat) (5 : Nat)) = (Ref.root (0 : Nat) (5 : Nat))) ∧ (((FD.list [Sh.int IntKind.i64] nhi fhi) = (FD.list [Sh.int IntKind.i64] nhi fhi)) ∧ (true = true))) ∧ ((((Ref.root (0 : Nat) (6 : Nat)) = (Ref.root (0 : Nat) (6 : Nat))) ∧ (((FD.list [Sh.int IntKind.i64] nca fca) = (FD.list [Sh.int IntKind.i64] nca fca)) ∧ (true = true))) ∧ True)))))) ∧ (((((64 : TypeId)) = ((64 : TypeId))) ∧ ((((2 : Nat)) = ((2 : Nat))) ∧ ((((IntKind.i64) = (IntKind.i64)) ∧ (((0 : Int)) = ((0 : Int)))) ∧ ((((IntKind.i64) = (IntKind.i64)) ∧ (((0 : Int)) = ((0 : Int)))) ∧ True)))) ∧ True))))))))) ∧ (((dotC [FD.list [Sh.int IntKind.i64] ntb fun (i x : Nat) => FD.int IntKind.i64 (FD.i (FD.fn (ftb i (0 : Nat)) (Int.toNat (Int.ofNat y1)) (0 : Nat))), FD.list [Sh.int IntKind.i64] nhi fhi]) = (false)) → False))) ∧ (((dotC [FD.list [Sh.int IntKind.i64] ntb fun (i x : Nat) => FD.int IntKind.i64 (FD.i (FD.fn (ftb i (0 : Nat)) (Int.toNat (Int.ofNat y1)) (0 : Nat))), FD.list [Sh.int IntKind.i64] nlo flo]) = (false)) → False))) ∧ (((columnC [FD.list [Sh.list [Sh.int IntKind.i64]] ntb ftb, FD.int IntKind.i64 (Int.ofNat y1)]) = (false)) → False))) ∧ (((decide ((0 : Int) ≤ Int.ofNat y1) && decide (Int.ofNat y1 < (↑nca : Int))) = (false)) → False))) ∧ (((decide (Int.ofNat y1 < Int.ofNat nca)) = (false)) → (((true = true) → ((((lowestC [FD.int IntKind.i64 (sumF fca nca), FD.int IntKind.i64 den]) = (true)) → (((((IntKind.i64) = (IntKind.i64)) ∧ ((if taskE ntb ftb nu de = (0 : Int) ∧ wtE ntb ftb nu de den nlo flo nhi fhi nca fca = (0 : Int) then divF (sumF fca nca) (gcdF (sumF fca nca) den) else (0 : Int)) = (divF (sumF fca nca) (gcdF (sumF fca nca) den)))) ∧ ((((IntKind.i64) = (IntKind.i64)) ∧ ((if taskE ntb ftb nu de = (0 : Int) ∧ wtE ntb ftb nu de den nlo flo nhi fhi nca fca = (0 : Int) then divF den (gcdF (sumF fca nca) den) else (0 : Int)) = (divF den (gcdF (sumF fca nca) den)))) ∧ True)) ∧ ((((IntKind.i64) = (IntKind.i64)) ∧ ((if taskE ntb ftb nu de = (0 : Int) then wtE ntb ftb nu de den nlo flo nhi fhi nca fca else taskE ntb ftb nu de) = ((0 : Int)))) ∧ True))) ∧ (((lowestC [FD.int IntKind.i64 (sumF fca nca), FD.int IntKind.i64 den]) = (false)) → False))) ∧ ((true = false) → False))))))))))) ∧ ((true = false) → False))) ∧ ((true = false) → False))))) ∧ ((true = false) → False))))) ∧ ((true = false) → False))))) ∧ ((true = false) → False))))) ∧ (((decide (Int.ofNat nhi = Int.ofNat ntb)) = (false)) → (qcheckWeights0 ntb ftb nu de den nlo flo nhi fhi nca fca)))) ∧ (((decide (Int.ofNat nhi = Int.ofNat ntb)) = (false)) → ((((decide (Int.ofNat nhi = Int.ofNat ntb)) = (true)) → False) ∧ (((decide (Int.ofNat nhi = Int.ofNat ntb)) = (false)) → (qcheckWeights0 ntb ftb nu de den nlo flo nhi fhi nca fca)))))) ∧ (((decide (Int.ofNat nhi = Int.ofNat ntb)) = (false)) → (qcheckWeights6 ntb ftb nu de den nlo flo nhi fhi nca fca)))) ∧ (qcheckWeights3 ntb ftb nu de den nlo flo nhi fhi nca fca))) ∧ (((decide ((0 : Int) ≤ (0 : Int)) && decide ((0 : Int) < (↑ntb : Int))) = (false)) → False))) ∧ (((decide (Int.ofNat nhi = Int.ofNat ntb)) = (false)) → ((((decide (Int.ofNat nhi = Int.ofNat ntb)) = (true)) → False) ∧ (qcheckWeights3 ntb ftb nu de den nlo flo nhi fhi nca fca))))) ∧ (qcheckWeights7 ntb ftb nu de den nlo flo nhi fhi nca fca))) ∧ (((decide (Int.ofNat nhi = Int.ofNat ntb)) = (false)) → ((((decide (Int.ofNat nhi = Int.ofNat ntb)) = (true)) → False) ∧ (qcheckWeights7 ntb ftb nu de den nlo flo nhi fhi nca fca))))) ∧ (qcheckWeights1 ntb ftb nu de den nlo flo nhi fhi nca fca))) ∧ (((decide (Int.ofNat nhi = Int.ofNat ntb)) = (false)) → ((((decide (Int.ofNat nhi = Int.ofNat ntb)) = (true)) → False) ∧ (qcheckWeights1 ntb ftb nu de den nlo flo nhi fhi nca fca))))) ∧ (((decide (Int.ofNat nhi = Int.ofNat ntb)) = (false)) → ((((decide (Int.ofNat nhi = Int.ofNat ntb)) = (true)) → False) ∧ (((decide (Int.ofNat nhi = Int.ofNat ntb)) = (false)) → ((((decide (Int.ofNat nhi = Int.ofNat ntb)) = (true)) → False) ∧ (qcheckWeights1 ntb ftb nu de den nlo flo nhi fhi nca fca))))))) ∧ (((decide (Int.ofNat nlo = Int.ofNat ntb)) = (false)) → (qcheckWeights0 ntb ftb nu de den nlo flo nhi fhi nca fca)))) ∧ (qcheckWeights10 ntb ftb nu de den nlo flo nhi fhi nca fca))) ∧ (qcheckWeights5 ntb ftb nu de den nlo flo nhi fhi nca fca))) ∧ (qcheckWeights9 ntb ftb nu de den nlo flo nhi fhi nca fca))) ∧ (((decide (Int.ofNat nlo = Int.ofNat ntb)) = (false)) → ((((decide (Int.ofNat nlo = Int.ofNat ntb)) = (true)) → False) ∧ (qcheckWeights9 ntb ftb nu de den nlo flo nhi fhi nca fca))))) ∧ (qcheckWeights2 ntb ftb nu de den nlo flo nhi fhi nca fca))) ∧ (((decide (Int.ofNat nlo = Int.ofNat ntb)) = (false)) → ((((decide (Int.ofNat nlo = Int.ofNat ntb)) = (true)) → False) ∧ (qcheckWeights2 ntb ftb nu de den nlo flo nhi fhi nca fca))))) ∧ (((decide (Int.ofNat nlo = Int.ofNat ntb)) = (false)) → ((((decide (Int.ofNat nlo = Int.ofNat ntb)) = (true)) → False) ∧ (((decide (Int.ofNat nlo = Int.ofNat ntb)) = (false)) → ((((decide (Int.ofNat nlo = Int.ofNat ntb)) = (true)) → False) ∧ (qcheckWeights2 ntb ftb nu de den nlo flo nhi fhi nca fca))))))))) ∧ ((true = false) → False))))) ∧ ((true = false) → False))) := by kernel_rfl
  refine hvc.mpr ?_
  clear hvc
  dsimp only [qcheckWeights4, qcheckWeights0, qcheckWeights6, qcheckWeights3, qcheckWeights7, qcheckWeights1, qcheckWeights8, qcheckWeights10, qcheckWeights5, qcheckWeights9, qcheckWeights2]
  by_cases h1 : taskE ntb ftb nu de = 0
  · obtain ⟨a1, a2, a3, a4, a5⟩ := taskE_ok h1
    have z0 : ¬ ntb = 0 := by omega
    have z1 : 0 < ntb := by omega
    by_cases hden : 1 ≤ den ∧ den ≤ 1000000000000
    · by_cases k1 : nlo = ntb
      · subst k1
        by_cases k2 : nhi = nlo
        · subst k2
          by_cases k3 : nca = (ftb 0 0).ln
          · skip
            rcases Bool.eq_false_or_eq_true (anyN (fun i => outB 1000000000000 (flo i 0).i) nhi 0) with b1 | b1
            · have hE : wtE nhi ftb nu de den nhi flo nhi fhi nca fca = 2 := by simp only [wtE, if_pos hden, k3, b1, and_self, if_true, true_or]
              simp [h1, hden, k3, hE]
              simp [← k3, b1, hE, z0, z1]
            · rcases Bool.eq_false_or_eq_true (anyN (fun i => outB 1000000000000 (fhi i 0).i) nhi 0) with b2 | b2
              · have hE : wtE nhi ftb nu de den nhi flo nhi fhi nca fca = 2 := by simp only [wtE, if_pos hden, k3, b1, b2, and_self, if_true, true_or, or_true]
                simp [h1, hden, k3, hE, z0, z1]
                simp [← k3, b1, b2, hE, z0, z1]
              · rcases Bool.eq_false_or_eq_true (anyN (fun i => outB 1000000000000 (fca i 0).i) nca 0) with b3 | b3
                · have hE : wtE nhi ftb nu de den nhi flo nhi fhi nca fca = 2 := by rw [wtE, if_pos hden, if_pos ⟨rfl, rfl, k3⟩, if_pos (.inr (.inr b3))]
                  simp [h1, hden, k3, hE, z0, z1]
                  simp [← k3, b1, b2, b3, hE, z0, z1]
                · have hE0 : wtE nhi ftb nu de den nhi flo nhi fhi nca fca = if IntKind.i64.wrap (sumF flo nhi - IntKind.i64.wrap (IntKind.i64.wrap (de + nu) * sumF fhi nhi)) < den then 20 else if anyN (fun k => decide ((fca k 0).i < capV nhi ftb de flo fhi k)) nca 0 = true then 20 else 0 := by
                    rw [wtE, if_pos hden, if_pos ⟨rfl, rfl, k3⟩, if_neg (by simp [b1, b2, b3])]
                  simp [h1, hden, k3, z0, z1]
                  simp [← k3, b1, b2, b3, z0, z1]
                  have hin1 := outB_in b1
                  have hin2 := outB_in b2
                  have hin3 := outB_in b3
                  obtain ⟨s1, s2, s3⟩ := sumF_isum2 (f := fca) (n := nca) (by omega) hin3
                  have hlo : lowestC [.int .i64 (sumF fca nca), .int .i64 den] = true := by
                    simp only [lowestC, Bool.not_eq_true', decide_eq_false_iff_not]; exact gcdF_ne s2 (by omega)
                  have hcol : ∀ x : Nat, x < nca → columnC [.list [.list [.int .i64]] nhi ftb, .int .i64 (x : Int)] = true := fun x hx => by
                    simp only [columnC, Bool.and_eq_true, decide_eq_true_eq]
                    exact ⟨Nat.ble_eq_true_of_le (by omega), by omega, natAll_of fun i hi => decide_eq_true (by have := (a5 i hi).1; omega)⟩
                  have w1 : ∀ k : Nat, k < 1000 → ((k + 1 : Nat) : Int) = IntKind.i64.wrap ((k : Int) + 1) := fun k hk => by
                    rw [wrap_id (by omega) (by omega)]
                    rfl
                  refine ⟨fun hb => ?_, fun hb x hx he => ⟨fun hlt => ⟨fun _ => ⟨fun _ => ⟨fun _ => ⟨fun _ => ⟨fun hcap => ?_, fun hcap => ⟨x + 1, ⟨⟨by omega, ?_⟩, by omega⟩, w1 x (by omega)⟩⟩, Nat.ble_eq_true_of_le (Nat.le_refl _)⟩, Nat.ble_eq_true_of_le (Nat.le_refl _)⟩, hcol x hlt⟩, hlt⟩, fun hge => ⟨fun _ => ?_, hlo⟩⟩⟩
                  · have hE : wtE nhi ftb nu de den nhi flo nhi fhi nca fca = 20 := by rw [hE0, if_pos hb]
                    simp [hE]
                  · have hany : anyN (fun k => decide ((fca k 0).i < capV nhi ftb de flo fhi k)) nca 0 = true := by
                      rw [← he, show nca - x = nca - (x + 1) + 1 by omega, anyN, show decide ((fca x 0).i < capV nhi ftb de flo fhi x) = true from decide_eq_true hcap]; rfl
                    have hE : wtE nhi ftb nu de den nhi flo nhi fhi nca fca = 20 := by rw [hE0, if_neg (by omega), if_pos hany]
                    simp [hE]
                  · rw [← he, show nca - x = nca - (x + 1) + 1 by omega, anyN, show decide ((fca x 0).i < capV nhi ftb de flo fhi x) = false from decide_eq_false (by
                      show ¬ (fca x 0).i < IntKind.i64.wrap (dotF (fun i x' => FD.int IntKind.i64 ((ftb i 0).fn x 0).i) flo nhi - IntKind.i64.wrap (de * dotF (fun i x' => FD.int IntKind.i64 ((ftb i 0).fn x 0).i) fhi nhi))
                      omega)]; rfl
                  · have hany : anyN (fun k => decide ((fca k 0).i < capV nhi ftb de flo fhi k)) nca 0 = false := by
                      rw [← he, show nca - x = 0 by omega]; rfl
                    have hE : wtE nhi ftb nu de den nhi flo nhi fhi nca fca = 0 := by rw [hE0, if_neg (by omega), hany]; rfl
                    simp [hE]
          · have hE : wtE nhi ftb nu de den nhi flo nhi fhi nca fca = 12 := by rw [wtE, if_pos hden, if_neg (fun h => k3 h.2.2)]
            simp [h1, hden, k3, hE, z0, z1]
            try omega
        · have hE : wtE nlo ftb nu de den nlo flo nhi fhi nca fca = 12 := by rw [wtE, if_pos hden, if_neg (fun h => k2 h.2.1)]
          simp [h1, hden, k2, hE, z0, z1]
          try omega
      · have hE : wtE ntb ftb nu de den nlo flo nhi fhi nca fca = 12 := by rw [wtE, if_pos hden, if_neg (fun h => k1 h.1)]
        simp [h1, hden, k1, hE, z0, z1]
        try omega
    · have hE : wtE ntb ftb nu de den nlo flo nhi fhi nca fca = 2 := by rw [wtE, if_neg hden]
      simp [h1, hE]
      exact fun a b => absurd ⟨a, b⟩ hden
  · simp [h1]
def smR : T Smf := (T.set smQ 61 (some (gFd checkWeightsS (.tup [.agg [.int .i64, .int .i64], .one (.int .i64)]) checkWeightsC checkWeightsR)))
theorem smR_ok : Tab SmOk smR := (Tab.set smQ_ok (by kernel_rfl) (smOk_of smQ_ok gsN_ok checkWeights_ok rfl))
/-- A column against the caps, as the document has it. -/
def capW (f : Nat → Nat → FD) (de : Int) (lo hi : Nat → Nat → FD) (k : Nat) : Nat → Int
  | 0 => 0
  | n + 1 => IntKind.i64.wrap (capW f de lo hi k n + IntKind.i64.wrap (((f n 0).fn k 0).i * IntKind.i64.wrap ((lo n 0).i - IntKind.i64.wrap (de * (hi n 0).i))))
theorem isum_lin {g h k : Nat → Int} {c : Int} (e : ∀ i, k i = g i - c * h i) : ∀ n, isum k n = isum g n - c * isum h n
  | 0 => by simp [isum]
  | n + 1 => by simp only [isum, isum_lin e n, e n, Int.mul_add]; omega
theorem capW_eq {f : Nat → Nat → FD} {de : Int} {lo hi : Nat → Nat → FD} {k : Nat} (hd : 0 < de ∧ de ≤ 4) : ∀ {n : Nat}, n ≤ 1000 → (∀ i, i < n → (0 ≤ ((f i 0).fn k 0).i ∧ ((f i 0).fn k 0).i ≤ 100) ∧ (0 ≤ (lo i 0).i ∧ (lo i 0).i ≤ 1000000000000) ∧ (0 ≤ (hi i 0).i ∧ (hi i 0).i ≤ 1000000000000)) →
    capW f de lo hi k n = isum (fun i => ((f i 0).fn k 0).i * ((lo i 0).i - de * (hi i 0).i)) n ∧ -400000000000000 * (n : Int) ≤ capW f de lo hi k n ∧ capW f de lo hi k n ≤ 400000000000000 * (n : Int)
  | 0, _, _ => by simp [capW, isum]
  | n + 1, hn, h => by
    obtain ⟨e1, e2, e3⟩ := capW_eq (f := f) (lo := lo) (hi := hi) (k := k) hd (n := n) (by omega) fun i hi => h i (by omega)
    obtain ⟨⟨a1, a2⟩, ⟨b1, b2⟩, c1, c2⟩ := h n (by omega)
    have d1 : 0 ≤ de * (hi n 0).i := Int.mul_nonneg (by omega) c1
    have d2 : de * (hi n 0).i ≤ 4 * 1000000000000 := Int.mul_le_mul (by omega) c2 c1 (by omega)
    simp only [capW, isum]
    rw [wrap_id (n := de * (hi n 0).i) (by omega) (by omega), ← e1]
    generalize de * (hi n 0).i = D at *
    rw [wrap_id (n := (lo n 0).i - D) (by omega) (by omega)]
    have f1 : ((f n 0).fn k 0).i * ((lo n 0).i - D) ≤ 100 * 1000000000000 := by
      have := Int.mul_le_mul_of_nonneg_left (show (lo n 0).i - D ≤ 1000000000000 by omega) a1
      have := Int.mul_le_mul_of_nonneg_right a2 (show (0 : Int) ≤ 1000000000000 by omega)
      omega
    have f2 : -(100 * 4000000000000) ≤ ((f n 0).fn k 0).i * ((lo n 0).i - D) := by
      have := Int.mul_le_mul_of_nonneg_left (show -4000000000000 ≤ (lo n 0).i - D by omega) a1
      have := Int.mul_le_mul_of_nonneg_right a2 (show (0 : Int) ≤ 4000000000000 by omega)
      have : ((f n 0).fn k 0).i * -4000000000000 = -(((f n 0).fn k 0).i * 4000000000000) := Int.mul_neg _ _
      omega
    rw [wrap_id (n := ((f n 0).fn k 0).i * ((lo n 0).i - D)) (by omega) (by omega), wrap_id (by omega) (by omega)]
    have g1 : ((n + 1 : Nat) : Int) = (n : Int) + 1 := rfl
    rw [g1]
    exact ⟨rfl, by omega, by omega⟩
theorem capW_capV {n : Nat} {f : Nat → Nat → FD} {nu de : Int} {lo hi : Nat → Nat → FD} {k : Nat} (h1 : taskE n f nu de = 0) (hk : k < (f 0 0).ln) (b1 : anyN (fun i => outB 1000000000000 (lo i 0).i) n 0 = false) (b2 : anyN (fun i => outB 1000000000000 (hi i 0).i) n 0 = false) :
    capW f de lo hi k n = capV n f de lo hi k := by
  obtain ⟨a1, a2, a3, a4, a5⟩ := taskE_ok h1
  have hT : ∀ i, i < n → 0 ≤ ((f i 0).fn k 0).i ∧ ((f i 0).fn k 0).i ≤ 100 := fun i hi => (a5 i hi).2 k (by have := (a5 i hi).1; omega)
  obtain ⟨e1, _, _⟩ := capW_eq (f := f) (lo := lo) (hi := hi) (k := k) a3 (n := n) (by omega) fun i hi' => ⟨hT i hi', outB_in b1 i hi', outB_in b2 i hi'⟩
  obtain ⟨q1, q2, q3⟩ := dotF_isum (f := colL f k) (g := lo) (M := 1000000000000) (by omega) (n := n) (by omega) fun i hi' => ⟨hT i hi', outB_in b1 i hi'⟩
  obtain ⟨r1, r2, r3⟩ := dotF_isum (f := colL f k) (g := hi) (M := 1000000000000) (by omega) (n := n) (by omega) fun i hi' => ⟨hT i hi', outB_in b2 i hi'⟩
  have d1 : 0 ≤ de * dotF (colL f k) hi n := Int.mul_nonneg (by omega) r2
  have d2 : de * dotF (colL f k) hi n ≤ 4 * (100000000000000 * n) := Int.mul_le_mul (by omega) r3 r2 (by omega)
  rw [capV, wrap_id (n := de * dotF (colL f k) hi n) (by omega) (by omega), wrap_id (by omega) (by omega), e1, q1, r1]
  refine isum_lin (fun i => ?_) n
  show ((f i 0).fn k 0).i * ((lo i 0).i - de * (hi i 0).i) = ((f i 0).fn k 0).i * (lo i 0).i - de * (((f i 0).fn k 0).i * (hi i 0).i)
  rw [Int.mul_sub, Int.mul_left_comm]
def refWeightsS : List PT := [.agg [.list [.list [.int .i64]], .int .i64, .int .i64], .agg [.int .i64, .list [.int .i64], .list [.int .i64], .list [.int .i64]]]
def refWeightsC : List FD → Bool
  | [.list _ ntb ftb, .int _ nu, .int _ de, .int _ _, .list _ _ _, .list _ _ _, .list _ _ _] => decide (taskE ntb ftb nu de = 0)
  | _ => false
def refWeightsR : List FD → List FD
  | [.list _ ntb ftb, .int _ nu, .int _ de, .int _ den, .list _ nlo flo, .list _ nhi fhi, .list _ nca fca] => [.int .i64 (if wtE ntb ftb nu de den nlo flo nhi fhi nca fca = 0 then divF (sumF fca nca) (gcdF (sumF fca nca) den) else 0), .int .i64 (if wtE ntb ftb nu de den nlo flo nhi fhi nca fca = 0 then divF den (gcdF (sumF fca nca) den) else 0), .int .i64 (wtE ntb ftb nu de den nlo flo nhi fhi nca fca)]
  | _ => []
def refWeightsI (ntb : Nat) (ftb : Nat → Nat → FD) (nu : Int) (de : Int) (den : Int) (nlo : Nat) (flo : Nat → Nat → FD) (nhi : Nat) (fhi : Nat → Nat → FD) (nca : Nat) (fca : Nat → Nat → FD) : Nat → AFam := fun i => match i with | 11 => ⟨Nat, fun _ => [{ι := Nat, G := fun x => x ≤ nca ∧ anyN (fun k => decide ((fca k 0).i < capV ntb ftb de flo fhi k)) (nca - x) x = anyN (fun k => decide ((fca k 0).i < capV ntb ftb de flo fhi k)) nca 0, μ := fun x => nca - x, tl := fun x => [(2, .one (.ptr (some (1, 0)))), (3, .one (.ptr (some (2, 0)))), (4, .one (.ptr (some (3, 0)))), (6, .one (.int IntKind.i64 (.tm nu))), (7, .one (.int IntKind.i64 (.tm de))), (8, .one (.int IntKind.i64 (.tm (Int.ofNat x))))], bl := fun x => [(1, .cells 58 3 [.fz (.root 0 0) (FD.list [Sh.list [Sh.int IntKind.i64]] ntb ftb), .int IntKind.i64 (.tm nu), .int IntKind.i64 (.tm de)]), (2, .cells 63 4 [.int IntKind.i64 (.tm den), .fz (.root 0 4) (FD.list [Sh.int IntKind.i64] nlo flo), .fz (.root 0 5) (FD.list [Sh.int IntKind.i64] nhi fhi), .fz (.root 0 6) (FD.list [Sh.int IntKind.i64] nca fca)]), (3, .cells 64 2 [.int IntKind.i64 (.lit (0 : Int)), .int IntKind.i64 (.lit (0 : Int))])], nx := (1 : Nat) + (1 : Nat) + (1 : Nat) + (1 : Nat) + ((0 : Nat) + (1 : Nat) + (1 : Nat) + (1 : Nat) + (1 : Nat) + (1 : Nat) + (1 : Nat) + (1 : Nat) + (1 : Nat) + (1 : Nat) + (1 : Nat) + (1 : Nat) + (1 : Nat) + (1 : Nat) + (1 : Nat) + (1 : Nat) + (1 : Nat) + (1 : Nat) + (1 : Nat) + (1 : Nat) + (1 : Nat) + (1 : Nat) + (1 : Nat) + (1 : Nat) + (1 : Nat) + (1 : Nat) + (1 : Nat) + (1 : Nat)) + ((0 : Nat) + (1 : Nat) + (1 : Nat) + (1 : Nat) + (1 : Nat) + (1 : Nat) + (1 : Nat) + (1 : Nat) + (1 : Nat)) + ((0 : Nat) + (1 : Nat) + (1 : Nat) + (1 : Nat) + (1 : Nat) + (1 : Nat) + (1 : Nat) + (1 : Nat) + (1 : Nat) + (1 : Nat) + (1 : Nat) + (1 : Nat) + (1 : Nat) + (1 : Nat) + (1 : Nat))}]⟩ | 15 => ⟨Nat, fun z => [{ι := Nat, G := fun x => z < nca ∧ x ≤ ntb, μ := fun x => ntb - x, tl := fun x => [(2, .one (.ptr (some (1, 0)))), (3, .one (.ptr (some (2, 0)))), (4, .one (.ptr (some (3, 0)))), (6, .one (.int IntKind.i64 (.tm nu))), (7, .one (.int IntKind.i64 (.tm de))), (8, .one (.int IntKind.i64 (.tm (Int.ofNat z)))), (9, .one (.int IntKind.i64 (.tm (capW ftb de flo fhi z x)))), (10, .one (.int IntKind.i64 (.tm (Int.ofNat x))))], bl := fun x => [(1, .cells 58 3 [.fz (.root 0 0) (FD.list [Sh.list [Sh.int IntKind.i64]] ntb ftb), .int IntKind.i64 (.tm nu), .int IntKind.i64 (.tm de)]), (2, .cells 63 4 [.int IntKind.i64 (.tm den), .fz (.root 0 4) (FD.list [Sh.int IntKind.i64] nlo flo), .fz (.root 0 5) (FD.list [Sh.int IntKind.i64] nhi fhi), .fz (.root 0 6) (FD.list [Sh.int IntKind.i64] nca fca)]), (3, .cells 64 2 [.int IntKind.i64 (.lit (0 : Int)), .int IntKind.i64 (.lit (0 : Int))])], nx := (1 : Nat) + (1 : Nat) + (1 : Nat) + (1 : Nat) + ((0 : Nat) + (1 : Nat) + (1 : Nat) + (1 : Nat) + (1 : Nat) + (1 : Nat) + (1 : Nat) + (1 : Nat) + (1 : Nat) + (1 : Nat) + (1 : Nat) + (1 : Nat) + (1 : Nat) + (1 : Nat) + (1 : Nat) + (1 : Nat) + (1 : Nat) + (1 : Nat) + (1 : Nat) + (1 : Nat) + (1 : Nat) + (1 : Nat) + (1 : Nat) + (1 : Nat) + (1 : Nat) + (1 : Nat) + (1 : Nat) + (1 : Nat)) + ((0 : Nat) + (1 : Nat) + (1 : Nat) + (1 : Nat) + (1 : Nat) + (1 : Nat) + (1 : Nat) + (1 : Nat) + (1 : Nat)) + ((0 : Nat) + (1 : Nat) + (1 : Nat) + (1 : Nat) + (1 : Nat) + (1 : Nat) + (1 : Nat) + (1 : Nat) + (1 : Nat) + (1 : Nat) + (1 : Nat) + (1 : Nat) + (1 : Nat) + (1 : Nat) + (1 : Nat))}]⟩ | _ => ⟨Nat, fun _ => []⟩
abbrev qrefWeights4 (ntb : Nat) (ftb : Nat → Nat → FD) (nu : Int) (de : Int) (den : Int) (nlo : Nat) (flo : Nat → Nat → FD) (nhi : Nat) (fhi : Nat → Nat → FD) (nca : Nat) (fca : Nat → Nat → FD) : Prop := (((((58 : TypeId)) = ((58 : TypeId))) ∧ ((((3 : Nat)) = ((3 : Nat))) ∧ ((((Ref.root (0 : Nat) (0 : Nat)) = (Ref.root (0 : Nat) (0 : Nat))) ∧ (((FD.list [Sh.list [Sh.int IntKind.i64]] ntb ftb) = (FD.list [Sh.list [Sh.int IntKind.i64]] ntb ftb)) ∧ (true = true))) ∧ ((((IntKind.i64) = (IntKind.i64)) ∧ ((nu) = (nu))) ∧ ((((IntKind.i64) = (IntKind.i64)) ∧ ((de) = (de))) ∧ True))))) ∧ (((((63 : TypeId)) = ((63 : TypeId))) ∧ ((((4 : Nat)) = ((4 : Nat))) ∧ ((((IntKind.i64) = (IntKind.i64)) ∧ ((den) = (den))) ∧ ((((Ref.root (0 : Nat) (4 : Nat)) = (Ref.root (0 : Nat) (4 : Nat))) ∧ (((FD.list [Sh.int IntKind.i64] nlo flo) = (FD.list [Sh.int IntKind.i64] nlo flo)) ∧ (true = true))) ∧ ((((Ref.root (0 : Nat) (5 : Nat)) = (Ref.root (0 : Nat) (5 : Nat))) ∧ (((FD.list [Sh.int IntKind.i64] nhi fhi) = (FD.list [Sh.int IntKind.i64] nhi fhi)) ∧ (true = true))) ∧ ((((Ref.root (0 : Nat) (6 : Nat)) = (Ref.root (0 : Nat) (6 : Nat))) ∧ (((FD.list [Sh.int IntKind.i64] nca fca) = (FD.list [Sh.int IntKind.i64] nca fca)) ∧ (true = true))) ∧ True)))))) ∧ (((((64 : TypeId)) = ((64 : TypeId))) ∧ ((((2 : Nat)) = ((2 : Nat))) ∧ ((((IntKind.i64) = (IntKind.i64)) ∧ (((0 : Int)) = ((0 : Int)))) ∧ ((((IntKind.i64) = (IntKind.i64)) ∧ (((0 : Int)) = ((0 : Int)))) ∧ True)))) ∧ True)))
abbrev qrefWeights5 (ntb : Nat) (ftb : Nat → Nat → FD) (nu : Int) (de : Int) (den : Int) (nlo : Nat) (flo : Nat → Nat → FD) (nhi : Nat) (fhi : Nat → Nat → FD) (nca : Nat) (fca : Nat → Nat → FD) : Prop := ((((IntKind.i64) = (IntKind.i64)) ∧ ((if wtE ntb ftb nu de den nlo flo nhi fhi nca fca = (0 : Int) then divF (sumF fca nca) (gcdF (sumF fca nca) den) else (0 : Int)) = ((0 : Int)))) ∧ ((((IntKind.i64) = (IntKind.i64)) ∧ ((if wtE ntb ftb nu de den nlo flo nhi fhi nca fca = (0 : Int) then divF den (gcdF (sumF fca nca) den) else (0 : Int)) = ((0 : Int)))) ∧ True))
abbrev qrefWeights0 (ntb : Nat) (ftb : Nat → Nat → FD) (nu : Int) (de : Int) (den : Int) (nlo : Nat) (flo : Nat → Nat → FD) (nhi : Nat) (fhi : Nat → Nat → FD) (nca : Nat) (fca : Nat → Nat → FD) : Prop := ((qrefWeights5 ntb ftb nu de den nlo flo nhi fhi nca fca) ∧ ((((IntKind.i64) = (IntKind.i64)) ∧ ((wtE ntb ftb nu de den nlo flo nhi fhi nca fca) = ((12 : Int)))) ∧ True))
abbrev qrefWeights7 (ntb : Nat) (ftb : Nat → Nat → FD) (nu : Int) (de : Int) (den : Int) (nlo : Nat) (flo : Nat → Nat → FD) (nhi : Nat) (fhi : Nat → Nat → FD) (nca : Nat) (fca : Nat → Nat → FD) : Prop := ((((decide (Int.ofNat nhi = Int.ofNat ntb)) = (true)) → False) ∧ (((decide (Int.ofNat nhi = Int.ofNat ntb)) = (false)) → ((((decide (Int.ofNat nhi = Int.ofNat ntb)) = (true)) → False) ∧ (((decide (Int.ofNat nhi = Int.ofNat ntb)) = (false)) → (qrefWeights0 ntb ftb nu de den nlo flo nhi fhi nca fca)))))
abbrev qrefWeights3 (ntb : Nat) (ftb : Nat → Nat → FD) (nu : Int) (de : Int) (den : Int) (nlo : Nat) (flo : Nat → Nat → FD) (nhi : Nat) (fhi : Nat → Nat → FD) (nca : Nat) (fca : Nat → Nat → FD) : Prop := (((decide (Int.ofNat nhi = Int.ofNat ntb)) = (false)) → ((((decide (Int.ofNat nhi = Int.ofNat ntb)) = (true)) → False) ∧ (((decide (Int.ofNat nhi = Int.ofNat ntb)) = (false)) → (qrefWeights7 ntb ftb nu de den nlo flo nhi fhi nca fca))))
abbrev qrefWeights8 (ntb : Nat) (ftb : Nat → Nat → FD) (nu : Int) (de : Int) (den : Int) (nlo : Nat) (flo : Nat → Nat → FD) (nhi : Nat) (fhi : Nat → Nat → FD) (nca : Nat) (fca : Nat → Nat → FD) : Prop := (((decide (Int.ofNat nhi = Int.ofNat ntb)) = (false)) → ((((decide (Int.ofNat nhi = Int.ofNat ntb)) = (true)) → False) ∧ (((decide (Int.ofNat nhi = Int.ofNat ntb)) = (false)) → ((((decide (Int.ofNat nhi = Int.ofNat ntb)) = (true)) → False) ∧ (qrefWeights3 ntb ftb nu de den nlo flo nhi fhi nca fca)))))
abbrev qrefWeights1 (ntb : Nat) (ftb : Nat → Nat → FD) (nu : Int) (de : Int) (den : Int) (nlo : Nat) (flo : Nat → Nat → FD) (nhi : Nat) (fhi : Nat → Nat → FD) (nca : Nat) (fca : Nat → Nat → FD) : Prop := (((decide (Int.ofNat nhi = Int.ofNat ntb)) = (false)) → ((((decide (Int.ofNat nhi = Int.ofNat ntb)) = (true)) → ((((decide (Int.ofNat nhi = Int.ofNat ntb)) = (true)) → ((((decide (Int.ofNat nhi = Int.ofNat ntb)) = (true)) → ((((decide ((0 : Int) ≤ (0 : Int)) && decide ((0 : Int) < (↑ntb : Int))) = (true)) → ((((decide (Int.ofNat nhi = Int.ofNat ntb)) = (true)) → ((((decide (Int.ofNat nhi = Int.ofNat ntb)) = (true)) → (qrefWeights7 ntb ftb nu de den nlo flo nhi fhi nca fca)) ∧ (((decide (Int.ofNat nhi = Int.ofNat ntb)) = (false)) → (qrefWeights7 ntb ftb nu de den nlo flo nhi fhi nca fca)))) ∧ (qrefWeights3 ntb ftb nu de den nlo flo nhi fhi nca fca))) ∧ (((decide ((0 : Int) ≤ (0 : Int)) && decide ((0 : Int) < (↑ntb : Int))) = (false)) → False))) ∧ (((decide (Int.ofNat nhi = Int.ofNat ntb)) = (false)) → ((((decide (Int.ofNat nhi = Int.ofNat ntb)) = (true)) → False) ∧ (qrefWeights3 ntb ftb nu de den nlo flo nhi fhi nca fca))))) ∧ (qrefWeights8 ntb ftb nu de den nlo flo nhi fhi nca fca))) ∧ (((decide (Int.ofNat nhi = Int.ofNat ntb)) = (false)) → ((((decide (Int.ofNat nhi = Int.ofNat ntb)) = (true)) → False) ∧ (qrefWeights8 ntb ftb nu de den nlo flo nhi fhi nca fca)))))
abbrev qrefWeights10 (ntb : Nat) (ftb : Nat → Nat → FD) (nu : Int) (de : Int) (den : Int) (nlo : Nat) (flo : Nat → Nat → FD) (nhi : Nat) (fhi : Nat → Nat → FD) (nca : Nat) (fca : Nat → Nat → FD) : Prop := (((decide (Int.ofNat nlo = Int.ofNat ntb)) = (false)) → ((((decide (Int.ofNat nlo = Int.ofNat ntb)) = (true)) → False) ∧ (((decide (Int.ofNat nlo = Int.ofNat ntb)) = (false)) → (qrefWeights0 ntb ftb nu de den nlo flo nhi fhi nca fca))))
abbrev qrefWeights6 (ntb : Nat) (ftb : Nat → Nat → FD) (nu : Int) (de : Int) (den : Int) (nlo : Nat) (flo : Nat → Nat → FD) (nhi : Nat) (fhi : Nat → Nat → FD) (nca : Nat) (fca : Nat → Nat → FD) : Prop := (((decide (Int.ofNat nlo = Int.ofNat ntb)) = (false)) → ((((decide (Int.ofNat nlo = Int.ofNat ntb)) = (true)) → False) ∧ (qrefWeights10 ntb ftb nu de den nlo flo nhi fhi nca fca)))
abbrev qrefWeights9 (ntb : Nat) (ftb : Nat → Nat → FD) (nu : Int) (de : Int) (den : Int) (nlo : Nat) (flo : Nat → Nat → FD) (nhi : Nat) (fhi : Nat → Nat → FD) (nca : Nat) (fca : Nat → Nat → FD) : Prop := (((decide (Int.ofNat nlo = Int.ofNat ntb)) = (false)) → ((((decide (Int.ofNat nlo = Int.ofNat ntb)) = (true)) → False) ∧ (qrefWeights6 ntb ftb nu de den nlo flo nhi fhi nca fca)))
abbrev qrefWeights2 (ntb : Nat) (ftb : Nat → Nat → FD) (nu : Int) (de : Int) (den : Int) (nlo : Nat) (flo : Nat → Nat → FD) (nhi : Nat) (fhi : Nat → Nat → FD) (nca : Nat) (fca : Nat → Nat → FD) : Prop := (((decide (Int.ofNat nlo = Int.ofNat ntb)) = (false)) → ((((decide (Int.ofNat nlo = Int.ofNat ntb)) = (true)) → ((((decide (Int.ofNat nlo = Int.ofNat ntb)) = (true)) → ((((decide (Int.ofNat nlo = Int.ofNat ntb)) = (true)) → ((((decide (Int.ofNat nlo = Int.ofNat ntb)) = (true)) → False) ∧ (qrefWeights10 ntb ftb nu de den nlo flo nhi fhi nca fca))) ∧ (qrefWeights6 ntb ftb nu de den nlo flo nhi fhi nca fca))) ∧ (qrefWeights9 ntb ftb nu de den nlo flo nhi fhi nca fca))) ∧ (((decide (Int.ofNat nlo = Int.ofNat ntb)) = (false)) → ((((decide (Int.ofNat nlo = Int.ofNat ntb)) = (true)) → False) ∧ (qrefWeights9 ntb ftb nu de den nlo flo nhi fhi nca fca)))))
abbrev qrefWeights11 (ntb : Nat) (ftb : Nat → Nat → FD) (nu : Int) (de : Int) (den : Int) (nlo : Nat) (flo : Nat → Nat → FD) (nhi : Nat) (fhi : Nat → Nat → FD) (nca : Nat) (fca : Nat → Nat → FD) : Prop := ((qrefWeights5 ntb ftb nu de den nlo flo nhi fhi nca fca) ∧ ((((IntKind.i64) = (IntKind.i64)) ∧ ((wtE ntb ftb nu de den nlo flo nhi fhi nca fca) = ((2 : Int)))) ∧ True))
theorem refWeights_ok : FnOk (mkR smR gsN) Try.prog η0 65 (FI.of Try.f65 true) refWeightsS (.tup [.agg [.int .i64, .int .i64], .one (.int .i64)]) refWeightsC refWeightsR := by
  refine fnOk_of0 smR_ok gsN_ok Try.fok65 (fun fds => match fds with | [.list _ ntb ftb, .int _ nu, .int _ de, .int _ den, .list _ nlo flo, .list _ nhi fhi, .list _ nca fca] => refWeightsI ntb ftb nu de den nlo flo nhi fhi nca fca | _ => alts fun _ => []) ?_
  intro fds hf hc
  obtain ⟨ntb, ftb, ds0, rfl, gtb, hf1⟩ := hf.list
  obtain ⟨nu, ds1, rfl, hf2⟩ := hf1.int
  obtain ⟨de, ds2, rfl, hf3⟩ := hf2.int
  obtain ⟨den, ds3, rfl, hf4⟩ := hf3.int
  obtain ⟨nlo, flo, ds4, rfl, glo, hf5⟩ := hf4.list
  obtain ⟨nhi, fhi, ds5, rfl, ghi, hf6⟩ := hf5.list
  obtain ⟨nca, fca, ds6, rfl, gca, hf7⟩ := hf6.list
  obtain rfl := hf7.nil
  have hc : (decide (taskE ntb ftb nu de = 0)) = true := hc
  have hvc : (vcF smR gsN (FI.of Try.f65 true) refWeightsS (.tup [.agg [.int .i64, .int .i64], .one (.int .i64)]) (refWeightsI ntb ftb nu de den nlo flo nhi fhi nca fca) noR [.list [.list [.int .i64]] ntb ftb, .int .i64 nu, .int .i64 de, .int .i64 den, .list [.int .i64] nlo flo, .list [.int .i64] nhi fhi, .list [.int .i64] nca fca] (refWeightsR [.list [.list [.int .i64]] ntb ftb, .int .i64 nu, .int .i64 de, .int .i64 den, .list [.int .i64] nlo flo, .list [.int .i64] nhi fhi, .list [.int .i64] nca fca])) =
    ((true = true) ∧ (((true = true) → ((((decide ((1 : Int) ≤ den) && decide (den ≤ (1000000000000 : Int))) = (false)) → (qrefWeights11 ntb ftb nu de den nlo flo nhi fhi nca fca)) ∧ (((decide ((1 : Int) ≤ den) && decide (den ≤ (1000000000000 : Int))) = (true)) → ((((decide (Int.ofNat nlo = Int.ofNat ntb)) = (true)) → ((((decide (Int.ofNat nlo = Int.ofNat ntb)) = (true)) → ((((decide (Int.ofNat nlo = Int.ofNat ntb)) = (true)) → ((((decide (Int.ofNat nlo = Int.ofNat ntb)) = (true)) → ((((decide (Int.ofNat nlo = Int.ofNat ntb)) = (true)) → ((((decide (Int.ofNat nlo = Int.ofNat ntb)) = (true)) → ((((decide (Int.ofNat nlo = Int.ofNat ntb)) = (true)) → ((((decide (Int.ofNat nlo = Int.ofNat ntb)) = (true)) → ((((decide (Int.ofNat nhi = Int.ofNat ntb)) = (true)) → ((((decide (Int.ofNat nhi = Int.ofNat ntb)) = (true)) → ((((decide (Int.ofNat nhi = Int.ofNat ntb)) = (true)) → ((((decide (Int.ofNat nhi = Int.ofNat ntb)) = (true)) → ((((decide (Int.ofNat nhi = Int.ofNat ntb)) = (true)) → ((((decide (Int.ofNat nhi = Int.ofNat ntb)) = (true)) → ((((decide ((0 : Int) ≤ (0 : Int)) && decide ((0 : Int) < (↑ntb : Int))) = (true)) → ((((decide (Int.ofNat nhi = Int.ofNat ntb)) = (true)) → ((((decide (Int.ofNat nhi = Int.ofNat ntb)) = (true)) → ((((decide (Int.ofNat nhi = Int.ofNat ntb)) = (true)) → ((((decide (Int.ofNat nhi = Int.ofNat ntb)) = (true)) → ((((decide (Int.ofNat nca = Int.ofNat (FD.ln (ftb (Int.toNat (0 : Int)) (0 : Nat))))) = (false)) → (qrefWeights0 ntb ftb nu de den nlo flo nhi fhi nca fca)) ∧ (((decide (Int.ofNat nca = Int.ofNat (FD.ln (ftb (Int.toNat (0 : Int)) (0 : Nat))))) = (true)) → (((true = true) → ((((!anyN (fun (i : Nat) => outB (1000000000000 : Int) (FD.i (flo i (0 : Nat)))) nlo (0 : Nat)) = (true)) → (((true = true) → ((((!anyN (fun (i : Nat) => outB (1000000000000 : Int) (FD.i (fhi i (0 : Nat)))) nhi (0 : Nat)) = (true)) → (((true = true) → ((((!anyN (fun (i : Nat) => outB (1000000000000 : Int) (FD.i (fca i (0 : Nat)))) nca (0 : Nat)) = (false)) → (qrefWeights11 ntb ftb nu de den nlo flo nhi fhi nca fca)) ∧ (((!anyN (fun (i : Nat) => outB (1000000000000 : Int) (FD.i (fca i (0 : Nat)))) nca (0 : Nat)) = (true)) → (((true = true) → (((true = true) → ((((decide (IntKind.wrap IntKind.i64 (sumF flo nlo - IntKind.wrap IntKind.i64 (IntKind.wrap IntKind.i64 (de + nu) * sumF fhi nhi)) < den)) = (true)) → ((qrefWeights5 ntb ftb nu de den nlo flo nhi fhi nca fca) ∧ ((((IntKind.i64) = (IntKind.i64)) ∧ ((wtE ntb ftb nu de den nlo flo nhi fhi nca fca) = ((20 : Int)))) ∧ True))) ∧ (((decide (IntKind.wrap IntKind.i64 (sumF flo nlo - IntKind.wrap IntKind.i64 (IntKind.wrap IntKind.i64 (de + nu) * sumF fhi nhi)) < den)) = (false)) → (∃ y0 : Nat, ((∃ y1 : Nat, (((y1 ≤ nca ∧ ((anyN (fun (k : Nat) => decide (FD.i (fca k (0 : Nat)) < capV ntb ftb de flo fhi k)) (nca - y1) y1) = (anyN (fun (k : Nat) => decide (FD.i (fca k (0 : Nat)) < capV ntb ftb de flo fhi k)) nca (0 : Nat)))) ∧ True) ∧ (((true = true) ∧ ((((1, 1) ∈ ([(3, 3), (2, 2), (1, 1)] : List (Nat × Nat))) ∧ ((Prod.snd ((1 : Nat), (0 : Nat))) = (Prod.snd ((1 : Nat), (0 : Nat))))) ∧ ((((2, 2) ∈ ([(3, 3), (2, 2), (1, 1)] : List (Nat × Nat))) ∧ ((Prod.snd ((2 : Nat), (0 : Nat))) = (Prod.snd ((1 : Nat) + (1 : Nat), (0 : Nat))))) ∧ ((((3, 3) ∈ ([(3, 3), (2, 2), (1, 1)] : List (Nat × Nat))) ∧ ((Prod.snd ((3 : Nat), (0 : Nat))) = (Prod.snd ((1 : Nat) + (1 : Nat) + (1 : Nat), (0 : Nat))))) ∧ ((((IntKind.i64) = (IntKind.i64)) ∧ ((nu) = (nu))) ∧ ((((IntKind.i64) = (IntKind.i64)) ∧ ((de) = (de))) ∧ ((((IntKind.i64) = (IntKind.i64)) ∧ ((Int.ofNat y1) = ((0 : Int)))) ∧ True))))))) ∧ (((((58 : TypeId)) = ((58 : Nat))) ∧ ((((3 : Nat)) = (List.length [Sc.fz (Ref.root (0 : Nat) (0 : Nat)) (FD.list [Sh.list [Sh.int IntKind.i64]] ntb ftb), Sc.int IntKind.i64 (Ix.tm nu), Sc.int IntKind.i64 (Ix.tm de)])) ∧ ((((Ref.root (0 : Nat) (0 : Nat)) = (Ref.root (0 : Nat) (0 : Nat))) ∧ (((FD.list [Sh.list [Sh.int IntKind.i64]] ntb ftb) = (FD.list [Sh.list [Sh.int IntKind.i64]] ntb ftb)) ∧ (true = true))) ∧ ((((IntKind.i64) = (IntKind.i64)) ∧ ((nu) = (nu))) ∧ ((((IntKind.i64) = (IntKind.i64)) ∧ ((de) = (de))) ∧ True))))) ∧ (((((63 : TypeId)) = ((63 : Nat))) ∧ ((((4 : Nat)) = (List.length [Sc.int IntKind.i64 (Ix.tm den), Sc.fz (Ref.root (0 : Nat) ((0 : Nat) + List.length [Sh.list [Sh.list [Sh.int IntKind.i64]], Sh.int IntKind.i64, Sh.int IntKind.i64] + (1 : Nat))) (FD.list [Sh.int IntKind.i64] nlo flo), Sc.fz (Ref.root (0 : Nat) ((0 : Nat) + List.length [Sh.list [Sh.list [Sh.int IntKind.i64]], Sh.int IntKind.i64, Sh.int IntKind.i64] + (1 : Nat) + (1 : Nat))) (FD.list [Sh.int IntKind.i64] nhi fhi), Sc.fz (Ref.root (0 : Nat) ((0 : Nat) + List.length [Sh.list [Sh.list [Sh.int IntKind.i64]], Sh.int IntKind.i64, Sh.int IntKind.i64] + (1 : Nat) + (1 : Nat) + (1 : Nat))) (FD.list [Sh.int IntKind.i64] nca fca)])) ∧ ((((IntKind.i64) = (IntKind.i64)) ∧ ((den) = (den))) ∧ ((((Ref.root (0 : Nat) (4 : Nat)) = (Ref.root (0 : Nat) ((0 : Nat) + List.length [Sh.list [Sh.list [Sh.int IntKind.i64]], Sh.int IntKind.i64, Sh.int IntKind.i64] + (1 : Nat)))) ∧ (((FD.list [Sh.int IntKind.i64] nlo flo) = (FD.list [Sh.int IntKind.i64] nlo flo)) ∧ (true = true))) ∧ ((((Ref.root (0 : Nat) (5 : Nat)) = (Ref.root (0 : Nat) ((0 : Nat) + List.length [Sh.list [Sh.list [Sh.int IntKind.i64]], Sh.int IntKind.i64, Sh.int IntKind.i64] + (1 : Nat) + (1 : Nat)))) ∧ (((FD.list [Sh.int IntKind.i64] nhi fhi) = (FD.list [Sh.int IntKind.i64] nhi fhi)) ∧ (true = true))) ∧ ((((Ref.root (0 : Nat) (6 : Nat)) = (Ref.root (0 : Nat) ((0 : Nat) + List.length [Sh.list [Sh.list [Sh.int IntKind.i64]], Sh.int IntKind.i64, Sh.int IntKind.i64] + (1 : Nat) + (1 : Nat) + (1 : Nat)))) ∧ (((FD.list [Sh.int IntKind.i64] nca fca) = (FD.list [Sh.int IntKind.i64] nca fca)) ∧ (true = true))) ∧ True)))))) ∧ (((((64 : TypeId)) = ((64 : Nat))) ∧ ((((2 : Nat)) = ((2 : Nat))) ∧ ((((IntKind.i64) = (IntKind.i64)) ∧ (((0 : Int)) = ((0 : Int)))) ∧ ((((IntKind.i64) = (IntKind.i64)) ∧ (((0 : Int)) = ((0 : Int)))) ∧ True)))) ∧ True)))))) ∧ (∀ y1 : Nat, ((y1 ≤ nca ∧ ((anyN (fun (k : Nat) => decide (FD.i (fca k (0 : Nat)) < capV ntb ftb de flo fhi k)) (nca - y1) y1) = (anyN (fun (k : Nat) => decide (FD.i (fca k (0 : Nat)) < capV ntb ftb de flo fhi k)) nca (0 : Nat)))) → ((((decide (Int.ofNat y1 < Int.ofNat nca)) = (true)) → (∃ y2 : Nat, ((∃ y3 : Nat, (((y2 < nca ∧ y3 ≤ ntb) ∧ True) ∧ (((true = true) ∧ ((((1, 1) ∈ ([(3, 3), (2, 2), (1, 1)] : List (Nat × Nat))) ∧ ((Prod.snd ((1 : Nat), (0 : Nat))) = (Prod.snd ((1 : Nat), (0 : Nat))))) ∧ ((((2, 2) ∈ ([(3, 3), (2, 2), (1, 1)] : List (Nat × Nat))) ∧ ((Prod.snd ((2 : Nat), (0 : Nat))) = (Prod.snd ((2 : Nat), (0 : Nat))))) ∧ ((((3, 3) ∈ ([(3, 3), (2, 2), (1, 1)] : List (Nat × Nat))) ∧ ((Prod.snd ((3 : Nat), (0 : Nat))) = (Prod.snd ((3 : Nat), (0 : Nat))))) ∧ ((((IntKind.i64) = (IntKind.i64)) ∧ ((nu) = (nu))) ∧ ((((IntKind.i64) = (IntKind.i64)) ∧ ((de) = (de))) ∧ ((((IntKind.i64) = (IntKind.i64)) ∧ ((Int.ofNat y2) = (Int.ofNat y1))) ∧ ((((IntKind.i64) = (IntKind.i64)) ∧ ((capW ftb de flo fhi y2 y3) = ((0 : Int)))) ∧ ((((IntKind.i64) = (IntKind.i64)) ∧ ((Int.ofNat y3) = ((0 : Int)))) ∧ True))))))))) ∧ (qrefWeights4 ntb ftb nu de den nlo flo nhi fhi nca fca)))) ∧ (∀ y3 : Nat, ((y2 < nca ∧ y3 ≤ ntb) → ((((decide (Int.ofNat y3 < Int.ofNat ntb)) = (true)) → ((((decide ((0 : Int) ≤ Int.ofNat y3) && decide (Int.ofNat y3 < (↑ntb : Int))) = (true)) → ((((decide ((0 : Int) ≤ Int.ofNat y2) && decide (Int.ofNat y2 < (↑(FD.ln (ftb (Int.toNat (Int.ofNat y3)) (0 : Nat))) : Int))) = (true)) → ((((decide ((0 : Int) ≤ Int.ofNat y3) && decide (Int.ofNat y3 < (↑nlo : Int))) = (true)) → ((((decide ((0 : Int) ≤ Int.ofNat y3) && decide (Int.ofNat y3 < (↑nhi : Int))) = (true)) → (∃ y4 : Nat, (((y2 < nca ∧ y4 ≤ ntb) ∧ ntb - y4 < ntb - y3) ∧ (((true = true) ∧ ((((1, 1) ∈ ([(3, 3), (2, 2), (1, 1)] : List (Nat × Nat))) ∧ ((Prod.snd ((1 : Nat), (0 : Nat))) = (Prod.snd ((1 : Nat), (0 : Nat))))) ∧ ((((2, 2) ∈ ([(3, 3), (2, 2), (1, 1)] : List (Nat × Nat))) ∧ ((Prod.snd ((2 : Nat), (0 : Nat))) = (Prod.snd ((2 : Nat), (0 : Nat))))) ∧ ((((3, 3) ∈ ([(3, 3), (2, 2), (1, 1)] : List (Nat × Nat))) ∧ ((Prod.snd ((3 : Nat), (0 : Nat))) = (Prod.snd ((3 : Nat), (0 : Nat))))) ∧ ((((IntKind.i64) = (IntKind.i64)) ∧ ((nu) = (nu))) ∧ ((((IntKind.i64) = (IntKind.i64)) ∧ ((de) = (de))) ∧ ((((IntKind.i64) = (IntKind.i64)) ∧ ((Int.ofNat y2) = (Int.ofNat y2))) ∧ ((((IntKind.i64) = (IntKind.i64)) ∧ ((capW ftb de flo fhi y2 y4) = (IntKind.wrap IntKind.i64 (capW ftb de flo fhi y2 y3 + IntKind.wrap IntKind.i64 (FD.i (FD.fn (ftb (Int.toNat (Int.ofNat y3)) (0 : Nat)) (Int.toNat (Int.ofNat y2)) (0 : Nat)) * IntKind.wrap IntKind.i64 (FD.i (flo (Int.toNat (Int.ofNat y3)) (0 : Nat)) - IntKind.wrap IntKind.i64 (de * FD.i (fhi (Int.toNat (Int.ofNat y3)) (0 : Nat))))))))) ∧ ((((IntKind.i64) = (IntKind.i64)) ∧ ((Int.ofNat y4) = (IntKind.wrap IntKind.i64 (Int.ofNat y3 + (1 : Int))))) ∧ True))))))))) ∧ (qrefWeights4 ntb ftb nu de den nlo flo nhi fhi nca fca))))) ∧ (((decide ((0 : Int) ≤ Int.ofNat y3) && decide (Int.ofNat y3 < (↑nhi : Int))) = (false)) → False))) ∧ (((decide ((0 : Int) ≤ Int.ofNat y3) && decide (Int.ofNat y3 < (↑nlo : Int))) = (false)) → False))) ∧ (((decide ((0 : Int) ≤ Int.ofNat y2) && decide (Int.ofNat y2 < (↑(FD.ln (ftb (Int.toNat (Int.ofNat y3)) (0 : Nat))) : Int))) = (false)) → False))) ∧ (((decide ((0 : Int) ≤ Int.ofNat y3) && decide (Int.ofNat y3 < (↑ntb : Int))) = (false)) → False))) ∧ (((decide (Int.ofNat y3 < Int.ofNat ntb)) = (false)) → ((((decide ((0 : Int) ≤ Int.ofNat y2) && decide (Int.ofNat y2 < (↑nca : Int))) = (true)) → ((((decide (FD.i (fca (Int.toNat (Int.ofNat y2)) (0 : Nat)) < capW ftb de flo fhi y2 y3)) = (true)) → ((qrefWeights5 ntb ftb nu de den nlo flo nhi fhi nca fca) ∧ ((((IntKind.i64) = (IntKind.i64)) ∧ ((wtE ntb ftb nu de den nlo flo nhi fhi nca fca) = ((20 : Int)))) ∧ True))) ∧ (((decide (FD.i (fca (Int.toNat (Int.ofNat y2)) (0 : Nat)) < capW ftb de flo fhi y2 y3)) = (false)) → (∃ y4 : Nat, (((y4 ≤ nca ∧ ((anyN (fun (k : Nat) => decide (FD.i (fca k (0 : Nat)) < capV ntb ftb de flo fhi k)) (nca - y4) y4) = (anyN (fun (k : Nat) => decide (FD.i (fca k (0 : Nat)) < capV ntb ftb de flo fhi k)) nca (0 : Nat)))) ∧ nca - y4 < nca - y1) ∧ (((true = true) ∧ ((((1, 1) ∈ ([(3, 3), (2, 2), (1, 1)] : List (Nat × Nat))) ∧ ((Prod.snd ((1 : Nat), (0 : Nat))) = (Prod.snd ((1 : Nat), (0 : Nat))))) ∧ ((((2, 2) ∈ ([(3, 3), (2, 2), (1, 1)] : List (Nat × Nat))) ∧ ((Prod.snd ((2 : Nat), (0 : Nat))) = (Prod.snd ((2 : Nat), (0 : Nat))))) ∧ ((((3, 3) ∈ ([(3, 3), (2, 2), (1, 1)] : List (Nat × Nat))) ∧ ((Prod.snd ((3 : Nat), (0 : Nat))) = (Prod.snd ((3 : Nat), (0 : Nat))))) ∧ ((((IntKind.i64) = (IntKind.i64)) ∧ ((nu) = (nu))) ∧ ((((IntKind.i64) = (IntKind.i64)) ∧ ((de) = (de))) ∧ ((((IntKind.i64) = (IntKind.i64)) ∧ ((Int.ofNat y4) = (IntKind.wrap IntKind.i64 (Int.ofNat y2 + (1 : Int))))) ∧ True))))))) ∧ (qrefWeights4 ntb ftb nu de den nlo flo nhi fhi nca fca))))))) ∧ (((decide ((0 : Int) ≤ Int.ofNat y2) && decide (Int.ofNat y2 < (↑nca : Int))) = (false)) → False))))))))) ∧ (((decide (Int.ofNat y1 < Int.ofNat nca)) = (false)) → (((true = true) → ((((refLowestC [FD.int IntKind.i64 (sumF fca nca), FD.int IntKind.i64 den]) = (true)) → (((((IntKind.i64) = (IntKind.i64)) ∧ ((if wtE ntb ftb nu de den nlo flo nhi fhi nca fca = (0 : Int) then divF (sumF fca nca) (gcdF (sumF fca nca) den) else (0 : Int)) = (divF (sumF fca nca) (gcdF (sumF fca nca) den)))) ∧ ((((IntKind.i64) = (IntKind.i64)) ∧ ((if wtE ntb ftb nu de den nlo flo nhi fhi nca fca = (0 : Int) then divF den (gcdF (sumF fca nca) den) else (0 : Int)) = (divF den (gcdF (sumF fca nca) den)))) ∧ True)) ∧ ((((IntKind.i64) = (IntKind.i64)) ∧ ((wtE ntb ftb nu de den nlo flo nhi fhi nca fca) = ((0 : Int)))) ∧ True))) ∧ (((refLowestC [FD.int IntKind.i64 (sumF fca nca), FD.int IntKind.i64 den]) = (false)) → False))) ∧ ((true = false) → False))))))))))) ∧ ((true = false) → False))) ∧ ((true = false) → False))))) ∧ ((true = false) → False))) ∧ (((!anyN (fun (i : Nat) => outB (1000000000000 : Int) (FD.i (fhi i (0 : Nat)))) nhi (0 : Nat)) = (false)) → (qrefWeights11 ntb ftb nu de den nlo flo nhi fhi nca fca)))) ∧ ((true = false) → False))) ∧ (((!anyN (fun (i : Nat) => outB (1000000000000 : Int) (FD.i (flo i (0 : Nat)))) nlo (0 : Nat)) = (false)) → (qrefWeights11 ntb ftb nu de den nlo flo nhi fhi nca fca)))) ∧ ((true = false) → False))))) ∧ (((decide (Int.ofNat nhi = Int.ofNat ntb)) = (false)) → (qrefWeights0 ntb ftb nu de den nlo flo nhi fhi nca fca)))) ∧ (((decide (Int.ofNat nhi = Int.ofNat ntb)) = (false)) → ((((decide (Int.ofNat nhi = Int.ofNat ntb)) = (true)) → False) ∧ (((decide (Int.ofNat nhi = Int.ofNat ntb)) = (false)) → (qrefWeights0 ntb ftb nu de den nlo flo nhi fhi nca fca)))))) ∧ (((decide (Int.ofNat nhi = Int.ofNat ntb)) = (false)) → (qrefWeights7 ntb ftb nu de den nlo flo nhi fhi nca fca)))) ∧ (qrefWeights3 ntb ftb nu de den nlo flo nhi fhi nca fca))) ∧ (((decide ((0 : Int) ≤ (0 : Int)) && decide ((0 : Int) < (↑ntb : Int))) = (false)) → False))) ∧ (((decide (Int.ofNat nhi = Int.ofNat ntb)) = (false)) → ((((decide (Int.ofNat nhi = Int.ofNat ntb)) = (true)) → False) ∧ (qrefWeights3 ntb ftb nu de den nlo flo nhi fhi nca fca))))) ∧ (qrefWeights8 ntb ftb nu de den nlo flo nhi fhi nca fca))) ∧ (((decide (Int.ofNat nhi = Int.ofNat ntb)) = (false)) → ((((decide (Int.ofNat nhi = Int.ofNat ntb)) = (true)) → False) ∧ (qrefWeights8 ntb ftb nu de den nlo flo nhi fhi nca fca))))) ∧ (qrefWeights1 ntb ftb nu de den nlo flo nhi fhi nca fca))) ∧ (((decide (Int.ofNat nhi = Int.ofNat ntb)) = (false)) → ((((decide (Int.ofNat nhi = Int.ofNat ntb)) = (true)) → False) ∧ (qrefWeights1 ntb ftb nu de den nlo flo nhi fhi nca fca))))) ∧ (((decide (Int.ofNat nhi = Int.ofNat ntb)) = (false)) → ((((decide (Int.ofNat nhi = Int.ofNat ntb)) = (true)) → False) ∧ (((decide (Int.ofNat nhi = Int.ofNat ntb)) = (false)) → ((((decide (Int.ofNat nhi = Int.ofNat ntb)) = (true)) → False) ∧ (qrefWeights1 ntb ftb nu de den nlo flo nhi fhi nca fca))))))) ∧ (((decide (Int.ofNat nlo = Int.ofNat ntb)) = (false)) → (qrefWeights0 ntb ftb nu de den nlo flo nhi fhi nca fca)))) ∧ (qrefWeights10 ntb ftb nu de den nlo flo nhi fhi nca fca))) ∧ (qrefWeights6 ntb ftb nu de den nlo flo nhi fhi nca fca))) ∧ (qrefWeights9 ntb ftb nu de den nlo flo nhi fhi nca fca))) ∧ (((decide (Int.ofNat nlo = Int.ofNat ntb)) = (false)) → ((((decide (Int.ofNat nlo = Int.ofNat ntb)) = (true)) → False) ∧ (qrefWeights9 ntb ftb nu de den nlo flo nhi fhi nca fca))))) ∧ (qrefWeights2 ntb ftb nu de den nlo flo nhi fhi nca fca))) ∧ (((decide (Int.ofNat nlo = Int.ofNat ntb)) = (false)) → ((((decide (Int.ofNat nlo = Int.ofNat ntb)) = (true)) → False) ∧ (qrefWeights2 ntb ftb nu de den nlo flo nhi fhi nca fca))))) ∧ (((decide (Int.ofNat nlo = Int.ofNat ntb)) = (false)) → ((((decide (Int.ofNat nlo = Int.ofNat ntb)) = (true)) → False) ∧ (((decide (Int.ofNat nlo = Int.ofNat ntb)) = (false)) → ((((decide (Int.ofNat nlo = Int.ofNat ntb)) = (true)) → False) ∧ (qrefWeights2 ntb ftb nu de den nlo flo nhi fhi nca fca))))))))) ∧ ((true = false) → False))) := by kernel_rfl
  refine hvc.mpr ?_
  clear hvc
  dsimp only [qrefWeights4, qrefWeights5, qrefWeights0, qrefWeights7, qrefWeights3, qrefWeights8, qrefWeights1, qrefWeights10, qrefWeights6, qrefWeights9, qrefWeights2, qrefWeights11]
  have h1 := of_decide_eq_true hc
  obtain ⟨a1, a2, a3, a4, a5⟩ := taskE_ok h1
  have z0 : ¬ ntb = 0 := by omega
  have z1 : 0 < ntb := by omega
  by_cases hden : 1 ≤ den ∧ den ≤ 1000000000000
  · by_cases k1 : nlo = ntb
    · subst k1
      by_cases k2 : nhi = nlo
      · subst k2
        by_cases k3 : nca = (ftb 0 0).ln
        · skip
          rcases Bool.eq_false_or_eq_true (anyN (fun i => outB 1000000000000 (flo i 0).i) nhi 0) with b1 | b1
          · have hE : wtE nhi ftb nu de den nhi flo nhi fhi nca fca = 2 := by simp only [wtE, if_pos hden, k3, b1, and_self, if_true, true_or]
            simp [h1, hden, k3, hE]
            simp [← k3, b1, hE, z0, z1]
          · rcases Bool.eq_false_or_eq_true (anyN (fun i => outB 1000000000000 (fhi i 0).i) nhi 0) with b2 | b2
            · have hE : wtE nhi ftb nu de den nhi flo nhi fhi nca fca = 2 := by simp only [wtE, if_pos hden, k3, b1, b2, and_self, if_true, true_or, or_true]
              simp [h1, hden, k3, hE, z0, z1]
              simp [← k3, b1, b2, hE, z0, z1]
            · rcases Bool.eq_false_or_eq_true (anyN (fun i => outB 1000000000000 (fca i 0).i) nca 0) with b3 | b3
              · have hE : wtE nhi ftb nu de den nhi flo nhi fhi nca fca = 2 := by rw [wtE, if_pos hden, if_pos ⟨rfl, rfl, k3⟩, if_pos (.inr (.inr b3))]
                simp [h1, hden, k3, hE, z0, z1]
                simp [← k3, b1, b2, b3, hE, z0, z1]
              · have hE0 : wtE nhi ftb nu de den nhi flo nhi fhi nca fca = if IntKind.i64.wrap (sumF flo nhi - IntKind.i64.wrap (IntKind.i64.wrap (de + nu) * sumF fhi nhi)) < den then 20 else if anyN (fun k => decide ((fca k 0).i < capV nhi ftb de flo fhi k)) nca 0 = true then 20 else 0 := by
                  rw [wtE, if_pos hden, if_pos ⟨rfl, rfl, k3⟩, if_neg (by simp [b1, b2, b3])]
                simp [h1, hden, k3, z0, z1]
                simp [← k3, b1, b2, b3, z0, z1]
                have hin1 := outB_in b1
                have hin2 := outB_in b2
                have hin3 := outB_in b3
                obtain ⟨s1, s2, s3⟩ := sumF_isum2 (f := fca) (n := nca) (by omega) hin3
                have hlo : refLowestC [.int .i64 (sumF fca nca), .int .i64 den] = true := by
                  simp only [refLowestC, Bool.and_eq_true, decide_eq_true_eq]; omega
                have hcol : ∀ x : Nat, x < nca → columnC [.list [.list [.int .i64]] nhi ftb, .int .i64 (x : Int)] = true := fun x hx => by
                  simp only [columnC, Bool.and_eq_true, decide_eq_true_eq]
                  exact ⟨Nat.ble_eq_true_of_le (by omega), by omega, natAll_of fun i hi => decide_eq_true (by have := (a5 i hi).1; omega)⟩
                have w1 : ∀ k : Nat, k < 1000 → ((k + 1 : Nat) : Int) = IntKind.i64.wrap ((k : Int) + 1) := fun k hk => by
                  rw [wrap_id (by omega) (by omega)]
                  rfl
                have hcv : ∀ x : Nat, x < nca → capW ftb de flo fhi x nhi = capV nhi ftb de flo fhi x := fun x hx => capW_capV h1 (by omega) b1 b2
                refine ⟨fun hb => ?_, fun hb x hx he => ⟨fun hlt => ⟨x, ⟨0, ⟨hlt, by omega⟩, rfl, rfl, rfl⟩, fun y _ hy => ⟨fun hyl => ⟨fun _ => ⟨fun _ => ⟨fun _ => ⟨fun _ => ⟨y + 1, ⟨⟨hlt, by omega⟩, by omega⟩, rfl, w1 y (by omega)⟩, hyl⟩, hyl⟩, by have := (a5 y hyl).1; omega⟩, hyl⟩, fun hge => ⟨fun _ => ⟨fun hcap => ?_, fun hcap => ⟨x + 1, ⟨⟨by omega, ?_⟩, by omega⟩, w1 x (by omega)⟩⟩, hlt⟩⟩⟩, fun hge => ⟨fun _ => ?_, hlo⟩⟩⟩
                · have hE : wtE nhi ftb nu de den nhi flo nhi fhi nca fca = 20 := by rw [hE0, if_pos hb]
                  simp [hE]
                · rw [show y = nhi by omega, hcv x hlt] at hcap
                  have hany : anyN (fun k => decide ((fca k 0).i < capV nhi ftb de flo fhi k)) nca 0 = true := by
                    rw [← he, show nca - x = nca - (x + 1) + 1 by omega, anyN, show decide ((fca x 0).i < capV nhi ftb de flo fhi x) = true from decide_eq_true hcap]; rfl
                  have hE : wtE nhi ftb nu de den nhi flo nhi fhi nca fca = 20 := by rw [hE0, if_neg (by omega), if_pos hany]
                  simp [hE]
                · rw [show y = nhi by omega, hcv x hlt] at hcap
                  rw [← he, show nca - x = nca - (x + 1) + 1 by omega, anyN, show decide ((fca x 0).i < capV nhi ftb de flo fhi x) = false from decide_eq_false (by omega)]; rfl
                · have hany : anyN (fun k => decide ((fca k 0).i < capV nhi ftb de flo fhi k)) nca 0 = false := by
                    rw [← he, show nca - x = 0 by omega]; rfl
                  have hE : wtE nhi ftb nu de den nhi flo nhi fhi nca fca = 0 := by rw [hE0, if_neg (by omega), hany]; rfl
                  simp [hE]
        · have hE : wtE nhi ftb nu de den nhi flo nhi fhi nca fca = 12 := by rw [wtE, if_pos hden, if_neg (fun h => k3 h.2.2)]
          simp [h1, hden, k3, hE, z0, z1]
          try omega
      · have hE : wtE nlo ftb nu de den nlo flo nhi fhi nca fca = 12 := by rw [wtE, if_pos hden, if_neg (fun h => k2 h.2.1)]
        simp [h1, hden, k2, hE, z0, z1]
        try omega
    · have hE : wtE ntb ftb nu de den nlo flo nhi fhi nca fca = 12 := by rw [wtE, if_pos hden, if_neg (fun h => k1 h.1)]
      simp [h1, hden, k1, hE, z0, z1]
      try omega
  · have hE : wtE ntb ftb nu de den nlo flo nhi fhi nca fca = 2 := by rw [wtE, if_neg hden]
    simp [h1, hE]
    exact fun a b => absurd ⟨a, b⟩ hden
end
end Go.Ex


namespace Go.Ex
open Go Go.Proofs Go.RowKit
noncomputable section
set_option maxRecDepth 1000000

theorem isum_le {g h : Nat → Int} : ∀ {n : Nat}, (∀ i, i < n → g i ≤ h i) → isum g n ≤ isum h n
  | 0, _ => Int.le_refl _
  | n + 1, e => by
    have := isum_le (g := g) (h := h) (n := n) fun i hi => e i (by omega)
    have := e n (by omega)
    simp only [isum]; omega
theorem isum_mul (c : Int) (g : Nat → Int) : ∀ n, isum (fun i => c * g i) n = c * isum g n
  | 0 => by simp [isum]
  | n + 1 => by simp only [isum, isum_mul c g n, Int.mul_add]
theorem isum_plus (g h : Nat → Int) : ∀ n, isum (fun i => g i + h i) n = isum g n + isum h n
  | 0 => by simp [isum]
  | n + 1 => by simp only [isum, isum_plus g h n]; omega
theorem isum_zero : ∀ n, isum (fun _ => 0) n = 0
  | 0 => rfl
  | n + 1 => by simp only [isum, isum_zero n]; rfl
theorem isum_swap (a : Nat → Nat → Int) (m : Nat) : ∀ n, isum (fun i => isum (fun k => a i k) m) n = isum (fun k => isum (fun i => a i k) n) m
  | 0 => by
    show (0 : Int) = isum (fun k => 0) m
    rw [isum_zero]
  | n + 1 => by
    show isum (fun i => isum (fun k => a i k) m) n + isum (fun k => a n k) m = isum (fun k => isum (fun i => a i k) n + a n k) m
    rw [isum_plus, isum_swap a m n]
/-- The chain of inequalities. -/
theorem duality {n m : Nat} {T : Nat → Nat → Int} {x lo hi ca : Nat → Int} {de nu mn mx den wd : Int} (hde : 0 ≤ de) (hx : ∀ k, k < m → 0 ≤ x k ∧ x k ≤ den) (hca : ∀ k, k < m → 0 ≤ ca k) (hlo : ∀ i, i < n → 0 ≤ lo i) (hhi : ∀ i, i < n → 0 ≤ hi i)
    (hmn : ∀ i, i < n → mn ≤ isum (fun k => T i k * x k) m) (hmx : ∀ i, i < n → isum (fun k => T i k * x k) m ≤ mx) (hm0 : 0 ≤ mn) (hbr : de * mx ≤ (de + nu) * mn) (hw : wd ≤ isum lo n - (de + nu) * isum hi n)
    (hcap : ∀ k, k < m → isum (fun i => T i k * (lo i - de * hi i)) n ≤ ca k) : mn * wd ≤ isum ca m * den := by
  have s1 : isum (fun k => ca k * x k) m ≤ isum ca m * den := by
    rw [Int.mul_comm, ← isum_mul]
    refine isum_le fun k hk => ?_
    rw [Int.mul_comm]
    exact Int.mul_le_mul_of_nonneg_right (hx k hk).2 (hca k hk)
  have s2 : isum (fun k => isum (fun i => T i k * (lo i - de * hi i)) n * x k) m ≤ isum (fun k => ca k * x k) m :=
    isum_le fun k hk => Int.mul_le_mul_of_nonneg_right (hcap k hk) (hx k hk).1
  have s3 : isum (fun k => isum (fun i => T i k * (lo i - de * hi i)) n * x k) m = isum (fun i => (lo i - de * hi i) * isum (fun k => T i k * x k) m) n := by
    have e1 : ∀ k, isum (fun i => T i k * (lo i - de * hi i)) n * x k = isum (fun i => x k * (T i k * (lo i - de * hi i))) n := fun k => by rw [Int.mul_comm, isum_mul]
    have e2 : ∀ i, (lo i - de * hi i) * isum (fun k => T i k * x k) m = isum (fun k => x k * (T i k * (lo i - de * hi i))) m := fun i => by
      rw [← isum_mul]
      refine isum_congr fun k _ => ?_
      rw [Int.mul_comm, Int.mul_comm (T i k) (x k), Int.mul_assoc]
    rw [isum_congr fun k _ => e1 k, isum_congr fun i _ => e2 i]
    exact (isum_swap (fun i k => x k * (T i k * (lo i - de * hi i))) m n).symm
  have s4 : isum (fun i => mn * lo i - de * mx * hi i) n ≤ isum (fun i => (lo i - de * hi i) * isum (fun k => T i k * x k) m) n := by
    refine isum_le fun i hi' => ?_
    have a1 := Int.mul_le_mul_of_nonneg_right (hmn i hi') (hlo i hi')
    have a2 := Int.mul_le_mul_of_nonneg_right (hmx i hi') (Int.mul_nonneg hde (hhi i hi'))
    rw [Int.sub_mul]
    have e1 : de * mx * hi i = mx * (de * hi i) := by rw [Int.mul_comm de, Int.mul_assoc]
    rw [e1, Int.mul_comm (lo i), Int.mul_comm (de * hi i)]
    omega
  have s5 : isum (fun i => mn * lo i - de * mx * hi i) n = mn * isum lo n - de * mx * isum hi n := by
    rw [isum_lin (g := fun i => mn * lo i) (h := hi) (c := de * mx) (fun i => rfl) n, isum_mul]
  have hH : 0 ≤ isum hi n := by
    have := isum_le (g := fun _ => 0) (h := hi) (n := n) fun i hi' => hhi i hi'
    rw [isum_zero] at this; exact this
  have s6 := Int.mul_le_mul_of_nonneg_right hbr hH
  have s7 := Int.mul_le_mul_of_nonneg_left hw hm0
  have e2 : (de + nu) * mn * isum hi n = mn * ((de + nu) * isum hi n) := by rw [Int.mul_comm (de + nu), Int.mul_assoc]
  rw [Int.mul_sub] at s7
  rw [e2] at s6
  omega
theorem quot_le {A D C W : Nat} (hD : 0 < D) (hW : 0 < W) (h : A * W ≤ C * D) : (A / Nat.gcd A D) * (W / Nat.gcd C W) ≤ (C / Nat.gcd C W) * (D / Nat.gcd A D) := by
  have g0 := Nat.gcd_pos_of_pos_right A hD
  have h0 := Nat.gcd_pos_of_pos_right C hW
  obtain ⟨a, ha⟩ := Nat.gcd_dvd_left A D
  obtain ⟨d, hd⟩ := Nat.gcd_dvd_right A D
  obtain ⟨c, hc⟩ := Nat.gcd_dvd_left C W
  obtain ⟨w, hw⟩ := Nat.gcd_dvd_right C W
  rw [Nat.div_eq_of_eq_mul_right g0 ha, Nat.div_eq_of_eq_mul_right g0 hd, Nat.div_eq_of_eq_mul_right h0 hc, Nat.div_eq_of_eq_mul_right h0 hw]
  generalize Nat.gcd A D = g at *
  generalize Nat.gcd C W = k at *
  subst ha; subst hd; subst hc; subst hw
  have e1 : g * a * (k * w) = (g * k) * (a * w) := by simp only [Nat.mul_assoc, Nat.mul_left_comm a k w]
  have e2 : k * c * (g * d) = (g * k) * (c * d) := by rw [Nat.mul_comm (k * c)]; simp only [Nat.mul_assoc, Nat.mul_left_comm d k, Nat.mul_comm d c]
  rw [e1, e2] at h
  exact Nat.le_of_mul_le_mul_left h (Nat.mul_pos g0 h0)
theorem divF_nat {A g : Nat} (h : A ≤ 9223372036854775807) : divF (A : Int) (g : Int) = ((A / g : Nat) : Int) := divI_nat h
theorem maxF_all {f : Nat → Nat → FD} {n i : Nat} (h : i < n) : (f i 0).i ≤ maxF f n := maxF_ge h
theorem minF_all {f : Nat → Nat → FD} : ∀ {n i : Nat}, i < n → minF f n ≤ (f i 0).i
  | n + 1, i, h => by
    simp only [minF]
    by_cases e : i = n
    · subst e; split <;> omega
    · have := minF_all (f := f) (show i < n by omega)
      split <;> omega
/-- A value of a mask and a bound of weights. -/
theorem mask_bound {n : Nat} {f : Nat → Nat → FD} {nu de den : Int} {no : Nat} {g : Nat → Nat → FD} {wd : Int} {nlo nhi nca : Nat} {lo hi ca : Nat → Nat → FD} (h1 : taskE n f nu de = 0) (h2 : maskE n f nu de den no g = 0) (h3 : wtE n f nu de wd nlo lo nhi hi nca ca = 0) :
    (0 ≤ minF (rowL f g) n ∧ minF (rowL f g) n ≤ 300000000000000) ∧ (1 ≤ den ∧ den ≤ 1000000000000) ∧ (0 ≤ sumF ca nca ∧ sumF ca nca ≤ 3000000000000) ∧ (1 ≤ wd ∧ wd ≤ 1000000000000) ∧ minF (rowL f g) n * wd ≤ sumF ca nca * den := by
  obtain ⟨a1, a2, a3, a4, a5⟩ := taskE_ok h1
  unfold maskE at h2
  split at h2 <;> try omega
  rename_i hden
  split at h2 <;> try omega
  rename_i hno
  split at h2 <;> try omega
  rename_i hany
  split at h2 <;> try omega
  rename_i hbr
  have hany : anyN (fun i => outB den (g i 0).i) no 0 = false := by simpa using hany
  unfold wtE at h3
  split at h3 <;> try omega
  rename_i hwd
  split at h3 <;> try omega
  rename_i hls
  obtain ⟨k1, k2, k3⟩ := hls
  split at h3 <;> try omega
  rename_i hb
  split at h3 <;> try omega
  rename_i hsum
  split at h3 <;> try omega
  rename_i hcap
  subst k1
  subst k2
  have b1 : anyN (fun i => outB 1000000000000 (lo i 0).i) nhi 0 = false := by
    rw [Bool.eq_false_iff]; exact fun h => hb (.inl h)
  have b2 : anyN (fun i => outB 1000000000000 (hi i 0).i) nhi 0 = false := by
    rw [Bool.eq_false_iff]; exact fun h => hb (.inr (.inl h))
  have b3 : anyN (fun i => outB 1000000000000 (ca i 0).i) nca 0 = false := by
    rw [Bool.eq_false_iff]; exact fun h => hb (.inr (.inr h))
  have hcap : anyN (fun k => decide ((ca k 0).i < capV nhi f de lo hi k)) nca 0 = false := by simpa using hcap
  have hin1 := outB_in b1
  have hin2 := outB_in b2
  have hin3 := outB_in b3
  have hing := outB_in hany
  obtain ⟨s1, s2, s3⟩ := sumF_isum2 (f := ca) (n := nca) (by omega) hin3
  obtain ⟨t1, t2, t3⟩ := sumF_isum2 (f := lo) (n := nhi) (by omega) hin1
  obtain ⟨u1, u2, u3⟩ := sumF_isum2 (f := hi) (n := nhi) (by omega) hin2
  have hrow := rowV_bd h1 hden.2 hno hany
  have hmm := mmF_bd (f := rowL f g) (M := 300000000000000) (n := nhi) (by omega) fun i hi' => ⟨(hrow i hi').2.1, (hrow i hi').2.2⟩
  refine ⟨by omega, hden, by omega, hwd, ?_⟩
  rw [s1]
  have d1 : 0 ≤ (de + nu) * minF (rowL f g) nhi := Int.mul_nonneg (by omega) hmm.1
  have d2 : (de + nu) * minF (rowL f g) nhi ≤ 8 * 300000000000000 := Int.mul_le_mul (by omega) (by omega) hmm.1 (by omega)
  have d3 : 0 ≤ de * maxF (rowL f g) nhi := Int.mul_nonneg (by omega) (by omega)
  have d4 : de * maxF (rowL f g) nhi ≤ 4 * 300000000000000 := Int.mul_le_mul (by omega) (by omega) (by omega) (by omega)
  have d5 : 0 ≤ (de + nu) * sumF hi nhi := Int.mul_nonneg (by omega) u2
  have d6 : (de + nu) * sumF hi nhi ≤ 8 * (1000000000000 * nhi) := Int.mul_le_mul (by omega) u3 u2 (by omega)
  rw [wrap_id (n := de + nu) (by omega) (by omega), wrap_id (n := (de + nu) * minF (rowL f g) nhi) (by omega) (by omega), wrap_id (n := de * maxF (rowL f g) nhi) (by omega) (by omega)] at hbr
  rw [wrap_id (n := de + nu) (by omega) (by omega), wrap_id (n := (de + nu) * sumF hi nhi) (by omega) (by omega), wrap_id (n := sumF lo nhi - (de + nu) * sumF hi nhi) (by omega) (by omega), t1, u1] at hsum
  refine duality (n := nhi) (m := nca) (T := fun i k => ((f i 0).fn k 0).i) (x := fun k => (g k 0).i) (lo := fun i => (lo i 0).i) (hi := fun i => (hi i 0).i) (ca := fun k => (ca k 0).i) (de := de) (nu := nu) (mn := minF (rowL f g) nhi) (mx := maxF (rowL f g) nhi) (den := den) (wd := wd) (by omega) (fun k hk => hing k (by omega)) (fun k hk => (hin3 k hk).1) (fun i hi' => (hin1 i hi').1) (fun i hi' => (hin2 i hi').1) (fun i hi' => ?_) (fun i hi' => ?_) hmm.1 (by omega) (by omega) (fun k hk => ?_)
  · have := minF_all (f := rowL f g) hi'
    rw [show ((rowL f g i 0).i) = rowV f g i from rfl, (hrow i hi').1] at this
    rw [k3, ← hno]; exact this
  · have := maxF_all (f := rowL f g) hi'
    rw [show ((rowL f g i 0).i) = rowV f g i from rfl, (hrow i hi').1] at this
    rw [k3, ← hno]; exact this
  · have hT : ∀ i, i < nhi → 0 ≤ ((f i 0).fn k 0).i ∧ ((f i 0).fn k 0).i ≤ 100 := fun i hi => (a5 i hi).2 k (by have := (a5 i hi).1; omega)
    obtain ⟨e1, _, _⟩ := capW_eq (f := f) (lo := lo) (hi := hi) (k := k) a3 (n := nhi) (by omega) fun i hi' => ⟨hT i hi', hin1 i hi', hin2 i hi'⟩
    have := of_decide_eq_false (anyN_false hcap k (by omega) (by omega))
    rw [← capW_capV h1 (by omega) b1 b2, e1] at this
    omega
theorem mask_cmp {n : Nat} {f : Nat → Nat → FD} {nu de den : Int} {no : Nat} {g : Nat → Nat → FD} {wd : Int} {nlo nhi nca : Nat} {lo hi ca : Nat → Nat → FD} (h1 : taskE n f nu de = 0) (h2 : maskE n f nu de den no g = 0) (h3 : wtE n f nu de wd nlo lo nhi hi nca ca = 0) :
    CompareC [.int .i64 (divF (minF (rowL f g) n) (gcdF (minF (rowL f g) n) den)), .int .i64 (divF den (gcdF (minF (rowL f g) n) den)), .int .i64 (divF (sumF ca nca) (gcdF (sumF ca nca) wd)), .int .i64 (divF wd (gcdF (sumF ca nca) wd))] = true ∧
    cmpN ((divF den (gcdF (minF (rowL f g) n) den)).toNat + (divF wd (gcdF (sumF ca nca) wd)).toNat + 1) (divF (minF (rowL f g) n) (gcdF (minF (rowL f g) n) den)).toNat (divF den (gcdF (minF (rowL f g) n) den)).toNat (divF (sumF ca nca) (gcdF (sumF ca nca) wd)).toNat (divF wd (gcdF (sumF ca nca) wd)).toNat ≤ 0 := by
  obtain ⟨q1, q2, q3, q4, q5⟩ := mask_bound h1 h2 h3
  generalize minF (rowL f g) n = A at *
  generalize sumF ca nca = C at *
  obtain ⟨A, rfl⟩ := Int.eq_ofNat_of_zero_le q1.1
  obtain ⟨D, rfl⟩ := Int.eq_ofNat_of_zero_le (show 0 ≤ den by omega)
  obtain ⟨C, rfl⟩ := Int.eq_ofNat_of_zero_le q3.1
  obtain ⟨W, rfl⟩ := Int.eq_ofNat_of_zero_le (show 0 ≤ wd by omega)
  have g0 := Nat.gcd_pos_of_pos_right A (show 0 < D by omega)
  have h0 := Nat.gcd_pos_of_pos_right C (show 0 < W by omega)
  rw [gcdF_nat, gcdF_nat, divF_nat (by omega), divF_nat (by omega), divF_nat (by omega), divF_nat (by omega)]
  have p1 : 0 < D / Nat.gcd A D := Nat.div_pos (Nat.gcd_le_right A (by omega)) g0
  have p2 : 0 < W / Nat.gcd C W := Nat.div_pos (Nat.gcd_le_right C (by omega)) h0
  have l1 : A / Nat.gcd A D ≤ A := Nat.div_le_self _ _
  have l2 : D / Nat.gcd A D ≤ D := Nat.div_le_self _ _
  have l3 : C / Nat.gcd C W ≤ C := Nat.div_le_self _ _
  have l4 : W / Nat.gcd C W ≤ W := Nat.div_le_self _ _
  have hq := quot_le (A := A) (D := D) (C := C) (W := W) (by omega) (by omega) (by
    have : ((A * W : Nat) : Int) ≤ ((C * D : Nat) : Int) := by rw [Int.natCast_mul, Int.natCast_mul]; exact q5
    omega)
  generalize A / Nat.gcd A D = xa at *
  generalize D / Nat.gcd A D = xd at *
  generalize C / Nat.gcd C W = xc at *
  generalize W / Nat.gcd C W = xw at *
  simp only [Int.toNat_natCast]
  refine ⟨?_, cmpN_le _ _ _ _ _ p1 p2 hq⟩
  simp only [CompareC, Bool.and_eq_true, decide_eq_true_eq]
  omega
end
end Go.Ex

