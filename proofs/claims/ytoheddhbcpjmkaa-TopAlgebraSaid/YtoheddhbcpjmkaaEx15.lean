/-
  The executor of code; that what it says of a call is so.
-/
import Derived.Test.YtoheddhbcpjmkaaEx14
import Derived.LoopN
namespace Go.Ex
open Go Go.RowKit
noncomputable section

inductive Xt where
  | normal
  | exit (id : Nat)
  | ret
def Xt.den : Xt → Exit
  | .normal => .normal
  | .exit id => .exit id
  | .ret => .ret

def setArgs : Nat → List Sv → T Sv → T Sv
  | _, [], t => t
  | i, s :: l, t => setArgs (i + 1) l (t.set i (some s))

/-- How a region that draws its order is carried out. -/
abbrev Drawer := (FI → List Sv → St → Tree (Sv × St)) → Nat → List Oper → St → Tree St

def exec (C : Cx) (dr : Drawer) : Nat → Nat → Code → St → Tree (Xt × St)
  | 0, _, _, _ => .fail
  | n + 1, nt, c, st =>
    let call : FI → List Sv → St → Tree (Sv × St) := fun fi args st =>
      bif Nat.ble args.length fi.ntmps && Nat.ble fi.ntmps 60000 then
        (exec C dr n fi.ntmps fi.body { st with tm := setArgs 0 args .nil }).bind fun r => match r.1 with
          | .exit _ => .fail
          | _ => match resX C r.2.hp r.2.tm fi.res with
            | some s => .leaf (s, r.2)
            | none => .fail
      else .fail
    match c with
    | .skip => .leaf (.normal, st)
    | .ret => .leaf (.ret, st)
    | .exit id => .leaf (.exit id, st)
    | .seq a b => (exec C dr n nt a st).bind fun r => match r.1 with
      | .normal => exec C dr n nt b r.2
      | _ => .leaf r
    | .cond c a b => match evX st.tm c with
      | some (.one (.bool bx)) => branch C.D st.pc bx fun t pc => exec C dr n nt (bif t then a else b) { st with pc := pc }
      | _ => .fail
    | .block id c => (exec C dr n nt c st).bind fun r => match r.1 with
      | .exit i => bif Nat.beq i id then .leaf (.normal, r.2) else .leaf r
      | _ => .leaf r
    | .loop c => (exec C dr n nt c st).bind fun r => match r.1 with
      | .normal => exec C dr n nt (.loop c) r.2
      | _ => .leaf r
    | .region _ ops false => (seqOps C call nt ops.toList ops.toList st).bind fun st => .leaf (.normal, st)
    | .region _ ops true => (dr call nt ops.toList st).bind fun st => .leaf (.normal, st)
    | _ => .fail

/-- The executor of calls of a given depth. -/
def callE (C : Cx) (dr : Drawer) (n : Nat) : FI → List Sv → St → Tree (Sv × St) := fun fi args st =>
  bif Nat.ble args.length fi.ntmps && Nat.ble fi.ntmps 60000 then
    (exec C dr n fi.ntmps fi.body { st with tm := setArgs 0 args .nil }).bind fun r => match r.1 with
      | .exit _ => .fail
      | _ => match resX C r.2.hp r.2.tm fi.res with
        | some s => .leaf (s, r.2)
        | none => .fail
  else .fail

end
end Go.Ex
