/-
  The law RackSpreads, as the executor's contract.
-/
import Derived.Test.YtdpabnfcfakjeaaLwSpB

namespace Go.Ex
open Go Go.Proofs Go.RowKit
noncomputable section
set_option maxRecDepth 1000000

def smF : T Smf := (T.set smE 21 (some (gFd refSpreadS (.tup [.agg [.int .i64, .int .i64], .one (.int .i64)]) refSpreadC refSpreadR)))
theorem smF_ok : Tab SmOk smF := (Tab.set smE_ok (by kernel_rfl) (smOk_of smE_ok gs3_ok refSpread_ok rfl))
def lawSpreadsS : List PT := [.one (.list [.int .i64])]
def lawSpreadsC : List FD → Bool
  | [.list _ na fa] => true
  | _ => false
def lawSpreadsR : List FD → List FD
  | [.list _ na fa] => [.bool true]
  | _ => []
def lawSpreadsI (na : Nat) (fa : Nat → Nat → FD) : Nat → List Alt := fun _ => []
theorem lawSpreads_ok : FnOk (mkR smF gs3) Try.prog η0 3 (FI.of Try.f3 true) lawSpreadsS (.one .bool) lawSpreadsC lawSpreadsR := by
  refine fnOk_of0 smF_ok gs3_ok Try.fok3 (fun fds => match fds with | [.list _ na fa] => lawSpreadsI na fa | _ => fun _ => []) ?_
  intro fds hf hc
  obtain ⟨na, fa, ds0, rfl, ga, hf1⟩ := hf.list
  obtain rfl := hf1.nil
  have hc : (true) = true := hc
  have hvc : (vcF smF gs3 (FI.of Try.f3 true) lawSpreadsS (.one .bool) (lawSpreadsI na fa) noR [.list [.int .i64] na fa] (lawSpreadsR [.list [.int .i64] na fa])) =
    ((true = true) ∧ (((true = true) → (((true = false) → (true = false)) ∧ ((true = true) → ((((decide ((100 : Int) < Int.ofNat na)) = (true)) → (true = true)) ∧ (((decide ((100 : Int) < Int.ofNat na)) = (false)) → ((((copyIntsC [FD.list [Sh.int IntKind.i64] na fa]) = (true)) → (((true = true) → (((true = true) → ((((decide (spreadE na fa = spreadE na fa)) = (true)) → ((((decide ((if spreadE na fa = (0 : Int) then divF (wrapI (maxF fa na - minF fa na)) (spreadG na fa) else (0 : Int)) = if spreadE na fa = (0 : Int) then divF (wrapI (maxF fa na - minF fa na)) (spreadG na fa) else (0 : Int))) = (true)) → ((((decide ((if spreadE na fa = (0 : Int) then divF (wrapI (maxF fa na + minF fa na)) (spreadG na fa) else (0 : Int)) = if spreadE na fa = (0 : Int) then divF (wrapI (maxF fa na + minF fa na)) (spreadG na fa) else (0 : Int))) = (true)) → (true = true)) ∧ (((decide ((if spreadE na fa = (0 : Int) then divF (wrapI (maxF fa na + minF fa na)) (spreadG na fa) else (0 : Int)) = if spreadE na fa = (0 : Int) then divF (wrapI (maxF fa na + minF fa na)) (spreadG na fa) else (0 : Int))) = (false)) → (true = false)))) ∧ (((decide ((if spreadE na fa = (0 : Int) then divF (wrapI (maxF fa na - minF fa na)) (spreadG na fa) else (0 : Int)) = if spreadE na fa = (0 : Int) then divF (wrapI (maxF fa na - minF fa na)) (spreadG na fa) else (0 : Int))) = (false)) → (true = false)))) ∧ (((decide (spreadE na fa = spreadE na fa)) = (false)) → (true = false)))) ∧ ((true = false) → False))) ∧ ((true = false) → False))) ∧ (((copyIntsC [FD.list [Sh.int IntKind.i64] na fa]) = (false)) → False))))))) ∧ ((true = false) → False))) := by kernel_rfl
  refine hvc.mpr ?_
  clear hvc
  simp
  intro h
  exact Nat.ble_eq_true_of_le (by omega)
end
end Go.Ex

