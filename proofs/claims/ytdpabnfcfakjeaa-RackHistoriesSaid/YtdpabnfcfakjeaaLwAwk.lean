/-
  The examples that each law begins with.
-/
import Derived.Test.YtdpabnfcfakjeaaLwFj

namespace Go.Ex
open Go Go.Proofs Go.RowKit
noncomputable section
set_option maxRecDepth 1000000

def smA : T Smf := (T.set sm0 42 (some (gFd stepsForS (.tup [.one (.int .i64), .one (.int .i64)]) stepsForC stepsForR)))
theorem smA_ok : Tab SmOk smA := (Tab.set sm0_ok (by kernel_rfl) (smOk_of sm6_ok gs2_ok stepsFor_ok rfl))
def gsA : G2 := (G2.setG gs0 32 (gFd tableOfS (.tup [.one (.list [.list [.int .i64]]), .one (.int .i64)]) tableOfC tableOfR))
theorem gsA_ok : G2Ok gsA := (G2Ok.setG gs0_ok (by kernel_rfl) (gsOk_of sm9_ok gs2_ok tableOf_ok))
def awakeS : List PT := []
def awakeC : List FD → Bool
  | [] => true
  | _ => false
def awakeR : List FD → List FD
  | [] => [.bool true]
  | _ => []
def awakeI  : Nat → AFam := alts (fun _ => [])
abbrev qawake1  : Prop := (((true = true) → (((true = true) → (((true = true) → (((true = true) → (((true = true) → (((true = true) → (((true = true) → (((true = true) → (((true = true) → (((false = true) → (((false = true) → False) ∧ ((false = false) → False))) ∧ ((false = false) → (((false = true) → (((false = true) → False) ∧ ((false = false) → False))) ∧ ((false = false) → (true = false)))))) ∧ ((true = false) → (true = false)))) ∧ ((true = false) → False))) ∧ ((true = false) → (((false = true) → (((false = true) → False) ∧ ((false = false) → False))) ∧ ((false = false) → (true = false)))))) ∧ ((true = false) → (true = false)))) ∧ ((true = false) → False))) ∧ ((true = false) → (((false = true) → (((false = true) → False) ∧ ((false = false) → False))) ∧ ((false = false) → (true = false)))))) ∧ ((true = false) → (true = false)))) ∧ ((true = false) → False))) ∧ ((true = false) → (true = false)))
abbrev qawake0  : Prop := ((false = true) → (((true = true) → (((true = true) → (((true = true) → (((true = true) → (((true = true) → (((true = true) → (((true = true) → (((true = true) → (((true = true) → (((true = true) → (((true = true) → (((true = true) → (((true = true) → (((false = true) → (((false = true) → False) ∧ ((false = false) → False))) ∧ ((false = false) → (qawake1)))) ∧ ((true = false) → (true = false)))) ∧ ((true = false) → False))) ∧ ((true = false) → (qawake1)))) ∧ ((true = false) → (true = false)))) ∧ ((true = false) → False))) ∧ ((true = false) → (qawake1)))) ∧ ((true = false) → (true = false)))) ∧ ((true = false) → False))) ∧ ((true = false) → (true = false)))) ∧ ((true = false) → (true = false)))) ∧ ((true = false) → (true = false)))) ∧ ((true = false) → (true = false)))) ∧ ((true = false) → (true = false))))
abbrev qawake2  : Prop := (((true = true) → (((true = true) → (((true = true) → (((true = true) → (((true = true) → (((true = true) → (((true = true) → (((true = true) → (((true = true) → (((false = true) → (((false = true) → False) ∧ ((false = false) → False))) ∧ ((false = false) → (((false = true) → (((false = true) → False) ∧ ((false = false) → False))) ∧ ((false = false) → (true = true)))))) ∧ ((true = false) → (true = false)))) ∧ ((true = false) → False))) ∧ ((true = false) → (((false = true) → (((false = true) → False) ∧ ((false = false) → False))) ∧ ((false = false) → (true = true)))))) ∧ ((true = false) → (true = false)))) ∧ ((true = false) → False))) ∧ ((true = false) → (((false = true) → (((false = true) → False) ∧ ((false = false) → False))) ∧ ((false = false) → (true = true)))))) ∧ ((true = false) → (true = false)))) ∧ ((true = false) → False))) ∧ ((true = false) → (true = true)))
theorem awake_ok : FnOk (mkR smA gsA) Try.prog η0 18 (FI.of Try.f18 true) awakeS (.one .bool) awakeC awakeR := by
  refine fnOk_of0 smA_ok gsA_ok Try.fok18 (fun fds => match fds with | [] => awakeI  | _ => alts fun _ => []) ?_
  intro fds hf hc
  obtain rfl := hf.nil
  have hc : (true) = true := hc
  have hvc : (vcF smA gsA (FI.of Try.f18 true) awakeS (.one .bool) (awakeI ) noR [] (awakeR [])) =
    ((true = true) ∧ (((true = true) → (((true = true) → ((qawake0) ∧ ((false = false) → ((qawake0) ∧ ((false = false) → ((qawake0) ∧ ((false = false) → (((true = true) → (((true = true) → (((true = true) → (((true = true) → (((true = true) → (((true = true) → (((true = true) → (((true = true) → (((true = true) → (((true = true) → (((true = true) → (((true = true) → (((true = true) → (((false = true) → (((false = true) → False) ∧ ((false = false) → False))) ∧ ((false = false) → (qawake2)))) ∧ ((true = false) → (true = false)))) ∧ ((true = false) → False))) ∧ ((true = false) → (qawake2)))) ∧ ((true = false) → (true = false)))) ∧ ((true = false) → False))) ∧ ((true = false) → (qawake2)))) ∧ ((true = false) → (true = false)))) ∧ ((true = false) → False))) ∧ ((true = false) → (true = true)))) ∧ ((true = false) → (true = false)))) ∧ ((true = false) → (true = false)))) ∧ ((true = false) → (true = false)))) ∧ ((true = false) → (true = false)))))))))) ∧ ((true = false) → False))) ∧ ((true = false) → False))) := by kernel_rfl
  refine hvc.mpr ?_
  clear hvc
  dsimp only [qawake1, qawake0, qawake2]
  simp
end
end Go.Ex

