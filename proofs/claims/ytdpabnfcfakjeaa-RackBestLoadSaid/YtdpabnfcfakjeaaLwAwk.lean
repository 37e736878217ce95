/-
 The examples that each law begins with.
-/
import Derived.Test.YtdpabnfcfakjeaaLwFj

namespace Go.Ex
open Go Go.Proofs Go.RowKit
noncomputable section
set_option maxRecDepth 1000000

def smA : T Smf := (T.set sm0 42 (some (gFd pB (.tup [.one (.int .i64), .one (.int .i64)]) uG pC)))
theorem QY : Tab fK smA := (Tab.set eW (by kernel_rfl) (aW FO bT vO rfl))
def gsA : G2 := (G2.setG gs0 32 (gFd A1 (.tup [.one (.list [.list [.int .i64]]), .one (.int .i64)]) I7 A2))
theorem QZ : eT gsA := (eT.setG dH (by kernel_rfl) (wR L4 bT L5))
def LD : List PT := []
def Q0 : List FD → Bool
 | [] => true
 | _ => false
def LE : List FD → List FD
 | [] => [.bool true]
 | _ => []
def Q1  : Nat → b9 := aZ (fun _ => [])
abbrev wX  : Prop := (((true = true) → (((true = true) → (((true = true) → (((true = true) → (((true = true) → (((true = true) → (((true = true) → (((true = true) → (((true = true) → (((false = true) → (((false = true) → False) ∧ ((false = false) → False))) ∧ ((false = false) → (((false = true) → (((false = true) → False) ∧ ((false = false) → False))) ∧ ((false = false) → (true = false)))))) ∧ ((true = false) → (true = false)))) ∧ ((true = false) → False))) ∧ ((true = false) → (((false = true) → (((false = true) → False) ∧ ((false = false) → False))) ∧ ((false = false) → (true = false)))))) ∧ ((true = false) → (true = false)))) ∧ ((true = false) → False))) ∧ ((true = false) → (((false = true) → (((false = true) → False) ∧ ((false = false) → False))) ∧ ((false = false) → (true = false)))))) ∧ ((true = false) → (true = false)))) ∧ ((true = false) → False))) ∧ ((true = false) → (true = false)))
abbrev wY  : Prop := ((false = true) → (((true = true) → (((true = true) → (((true = true) → (((true = true) → (((true = true) → (((true = true) → (((true = true) → (((true = true) → (((true = true) → (((true = true) → (((true = true) → (((true = true) → (((true = true) → (((false = true) → (((false = true) → False) ∧ ((false = false) → False))) ∧ ((false = false) → (wX)))) ∧ ((true = false) → (true = false)))) ∧ ((true = false) → False))) ∧ ((true = false) → (wX)))) ∧ ((true = false) → (true = false)))) ∧ ((true = false) → False))) ∧ ((true = false) → (wX)))) ∧ ((true = false) → (true = false)))) ∧ ((true = false) → False))) ∧ ((true = false) → (true = false)))) ∧ ((true = false) → (true = false)))) ∧ ((true = false) → (true = false)))) ∧ ((true = false) → (true = false)))) ∧ ((true = false) → (true = false))))
abbrev wZ  : Prop := (((true = true) → (((true = true) → (((true = true) → (((true = true) → (((true = true) → (((true = true) → (((true = true) → (((true = true) → (((true = true) → (((false = true) → (((false = true) → False) ∧ ((false = false) → False))) ∧ ((false = false) → (((false = true) → (((false = true) → False) ∧ ((false = false) → False))) ∧ ((false = false) → (true = true)))))) ∧ ((true = false) → (true = false)))) ∧ ((true = false) → False))) ∧ ((true = false) → (((false = true) → (((false = true) → False) ∧ ((false = false) → False))) ∧ ((false = false) → (true = true)))))) ∧ ((true = false) → (true = false)))) ∧ ((true = false) → False))) ∧ ((true = false) → (((false = true) → (((false = true) → False) ∧ ((false = false) → False))) ∧ ((false = false) → (true = true)))))) ∧ ((true = false) → (true = false)))) ∧ ((true = false) → False))) ∧ ((true = false) → (true = true)))
theorem Q2 : dA (mkR smA gsA) Try.prog η0 18 (FI.of Try.f18 true) LD (.one .bool) Q0 LE := by
 refine aM QY QZ Try.fok18 (fun fds => match fds with | [] => Q1  | _ => aZ fun _ => []) ?_
 intro fds hf hc
 obtain rfl := hf.nil
 have hc : (true) = true := hc
 have hvc : (vcF smA gsA (FI.of Try.f18 true) LD (.one .bool) (Q1 ) noR [] (LE [])) =
  ((true = true) ∧ (((true = true) → (((true = true) → ((wY) ∧ ((false = false) → ((wY) ∧ ((false = false) → ((wY) ∧ ((false = false) → (((true = true) → (((true = true) → (((true = true) → (((true = true) → (((true = true) → (((true = true) → (((true = true) → (((true = true) → (((true = true) → (((true = true) → (((true = true) → (((true = true) → (((true = true) → (((false = true) → (((false = true) → False) ∧ ((false = false) → False))) ∧ ((false = false) → (wZ)))) ∧ ((true = false) → (true = false)))) ∧ ((true = false) → False))) ∧ ((true = false) → (wZ)))) ∧ ((true = false) → (true = false)))) ∧ ((true = false) → False))) ∧ ((true = false) → (wZ)))) ∧ ((true = false) → (true = false)))) ∧ ((true = false) → False))) ∧ ((true = false) → (true = true)))) ∧ ((true = false) → (true = false)))) ∧ ((true = false) → (true = false)))) ∧ ((true = false) → (true = false)))) ∧ ((true = false) → (true = false)))))))))) ∧ ((true = false) → False))) ∧ ((true = false) → False))) := by kernel_rfl
 refine hvc.mpr ?_
 clear hvc
 dsimp only [wX, wY, wZ]
 simp
end
end Go.Ex

