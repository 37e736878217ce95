/-
  A law whose leaves are true by a fact of arithmetic of its own.
-/
import Derived.Test.YtoheddhbcpjmkaaEx29
namespace Go.Ex
open Go Go.RowKit Go.WideShapes Go.ChangeShapes
noncomputable section

def lawFin (fin : Sv × St → Bool) (r : Sv × St) : Bool := lawTrue r || (fin r && below 0 r.1)
theorem law_anyB {P : Program} {C : Cx} (hC : ∀ η, GoodF η → C.Ok P η) {n : Nat} {f : FuncId} {fi : FI} {sh : Shq} (hf : FI.Ok P f fi) {fin : Sv × St → Bool}
    (hfin : ∀ η r, GoodF η → fin r = true → r.2.pc.holds η → r.1.den η E0 = some (.bool true))
    (h : ((callE C (drawX C) n fi (canA 0 0 sh) (stP [])).all (lawFin fin)) = true) (hsz : Nat.ble (nIq sh) 10000 = true) {l : List (Bool × List Value)} (hl : ArgsOk sh l) (w : World) :
    Calls P f (argsV l).toArray w fun e w' => e = .returned (.bool true) ∧ Below w.heap.size w w' := by
  have hn : (intsOf (cellsV l)).length ≤ 10000 := by rw [args_len hl]; exact Nat.le_of_ble_eq_true hsz
  have hg := lawEnv_good hl (fun _ => 0) (fun _ _ => false)
  obtain ⟨x, hx, hxr⟩ := Tree.all_at (η := lawEnv l (fun _ => 0) (fun _ _ => false)) h
  simp only [lawFin, Bool.or_eq_true, Bool.and_eq_true] at hxr
  rcases hxr with hxr | ⟨hxr, hb⟩
  · have hxr := svEq_iff hxr
    obtain ⟨v, e1, _, e3⟩ := run_sumP (hC _ hg) hf (fun _ h => by cases h) hx (by rw [hxr]; rfl) w (lawEnv_den hl hn _ _)
    rw [hxr] at e1
    cases e1
    exact e3
  · obtain ⟨v, e1, e2, e3⟩ := run_sumP (hC _ hg) hf (fun _ h => by cases h) hx hb w (lawEnv_den hl hn _ _)
    rw [hfin _ x hg hxr e2] at e1
    cases e1
    exact e3

/-- Is a test known so? -/
def known (pc : PC) (a : Atom) (b : Bool) : Bool :=
  match look a pc with
  | some c => c == b
  | none => false
theorem known_ok {η : Env} {pc : PC} (hpc : pc.holds η) {a : Atom} {b : Bool} (h : known pc a b = true) : a.den η = b := by
  unfold known at h
  split at h
  · rename_i c hc
    rw [look_spec hpc hc, eq_of_beq h]
  · cases h
theorem known_le {η : Env} {pc : PC} (hpc : pc.holds η) {p : Poly} (h : known pc (.pos p) false = true) : evP η.i p ≤ 0 := by
  have := known_ok hpc h
  simp only [Atom.den] at this
  have := of_decide_eq_false this
  omega

end
end Go.Ex
