/-
  The executor for this seat: its summaries of functions on floats; its context.
-/
import Derived.Test.YtoheddhbcpjmkaaEx25
import Derived.Test.YtoheddhbcpjmkaaExCb
import Derived.Test.YtoheddhbcpjmkaaFlB

namespace Go.Ex
open Go Go.Proofs Go.RowKit
noncomputable section

def b64 (b : Nat) : Bool := Nat.blt b 18446744073709551616
def isSomeB {α : Type} : Option α → Bool
  | some _ => true
  | none => false
theorem isSomeB_eq {α : Type} (o : Option α) : isSomeB o = o.isSome := by cases o <;> rfl
def gWhole : List Sv → PC → Tree (Sv × PC) := fun l pc => match l with
  | [.one (.flt .f64 (.lit b))] => bif b64 b then .leaf (.one (.bool (.lit (isSomeB (wI b)))), pc) else .fail
  | [.one (.flt .f64 (.var k))] => .leaf (.one (.bool (.at_ false (.user 0 [.ofNat k]))), pc)
  | [.one (.flt .f64 (.ofI p))] => bif small53 pc p then .leaf (.one (.bool (.lit true)), pc) else .fail
  | _ => .fail
def gAbs : List Sv → PC → Tree (Sv × PC) := fun l pc => match l with
  | [.one (.flt .f64 (.lit b))] => bif b64 b then .leaf (.one (.flt .f64 (.lit (b % 9223372036854775808))), pc) else .fail
  | [.one (.flt .f64 (.var k))] => .leaf (.one (.flt .f64 (.absB (.var k))), pc)
  | [.one (.flt .f64 (.ofI p))] => .leaf (.one (.flt .f64 (.absB (.ofI p))), pc)
  | _ => .fail
def gBits : List Sv → PC → Tree (Sv × PC) := fun l pc => match l with
  | [.one (.flt .f64 f)] => .leaf (.one (.int .u64 (.bits f)), pc)
  | _ => .fail

theorem b64_iff {b : Nat} (h : b64 b = true) : b < 18446744073709551616 := Nat.le_of_ble_eq_true h
theorem ofI_lt (n : Int) : FloatKind.f64.nearest n < 18446744073709551616 := Ieee.Format.write_lt Ieee.double (.number (n < 0) n.natAbs 0)

theorem denArgs_one {η : Env} {E : Emb} {s : Sv} {args : List Value} (h : denArgs η E [s] = some args) : ∃ v, s.den η E = some v ∧ args = [v] := by
  obtain ⟨v, vs, h1, h2, rfl⟩ := denArgs_cons h
  cases h2
  exact ⟨v, h1, rfl⟩

theorem gives_calls {f : FuncId} {args : Array Value} {w : World} {v : Value} (he : (callFunc f args).run Try.prog w = .ok (.enter f args) w) (hc : Calls Try.prog f args w fun e w' => e = .returned v ∧ Below w.heap.size w w') : Gives Try.prog f args w v := .inr ⟨he, hc⟩

theorem gWhole_gen {η : Env} (hg : GoodF η) {f : FuncId} (he : ∀ args w, (callFunc f args).run Try.prog w = .ok (.enter f args) w)
    (hc : ∀ b, b < 18446744073709551616 → ∀ w, Calls Try.prog f #[.float .f64 b] w fun e w' => e = .returned (.bool (wI b).isSome) ∧ Below w.heap.size w w') : SumOk Try.prog η f gWhole := by
  intro svs pc r pc' h hpc
  unfold gWhole at h
  split at h
  · rename_i b
    cases hb : b64 b with
    | false => rw [hb] at h; cases h
    | true =>
      rw [hb] at h; cases h
      refine ⟨hpc, fun E args w ha => ?_⟩
      obtain ⟨v, h1, rfl⟩ := denArgs_one ha
      cases h1
      exact ⟨_, rfl, gives_calls (he _ _) (by simp only [Bx.den, isSomeB_eq]; exact hc b (b64_iff hb) w)⟩
  · rename_i k
    cases h
    refine ⟨hpc, fun E args w ha => ?_⟩
    obtain ⟨v, h1, rfl⟩ := denArgs_one ha
    cases h1
    exact ⟨_, rfl, gives_calls (he _ _) (by simp only [Bx.den, Atom.den, hg.whole, Bool.xor_false]; exact hc _ (hg.lt64 k) w)⟩
  · rename_i p
    cases hb : small53 pc p with
    | false => rw [hb] at h; cases h
    | true =>
      rw [hb] at h; cases h
      refine ⟨hpc, fun E args w ha => ?_⟩
      obtain ⟨v, h1, rfl⟩ := denArgs_one ha
      cases h1
      obtain ⟨q1, q2⟩ := small53_has hg.toGood hpc hb
      refine ⟨_, rfl, gives_calls (he _ _) ?_⟩
      have := hc (FloatKind.f64.nearest (wr (evP η.i p))) (ofI_lt _) w
      rw [q2, wI_nearest q1] at this
      simp only [Fx.den, Bx.den, q2]
      exact this
  · cases h

theorem gAbs_ok {η : Env} (hg : GoodF η) : SumOk Try.prog η 64 gAbs := by
  intro svs pc r pc' h hpc
  unfold gAbs at h
  split at h
  · rename_i b
    cases hb : b64 b with
    | false => rw [hb] at h; cases h
    | true =>
      rw [hb] at h; cases h
      refine ⟨hpc, fun E args w ha => ?_⟩
      obtain ⟨v, h1, rfl⟩ := denArgs_one ha
      cases h1
      exact ⟨_, rfl, gives_calls (Try.call64 _ _) (abs_calls b (b64_iff hb) w)⟩
  · rename_i k
    cases h
    refine ⟨hpc, fun E args w ha => ?_⟩
    obtain ⟨v, h1, rfl⟩ := denArgs_one ha
    cases h1
    exact ⟨_, rfl, gives_calls (Try.call64 _ _) (abs_calls _ (hg.lt64 k) w)⟩
  · rename_i p
    cases h
    refine ⟨hpc, fun E args w ha => ?_⟩
    obtain ⟨v, h1, rfl⟩ := denArgs_one ha
    cases h1
    exact ⟨_, rfl, gives_calls (Try.call64 _ _) (abs_calls _ (ofI_lt _) w)⟩
  · cases h

theorem gBits_ok {η : Env} : SumOk Try.prog η 67 gBits := by
  intro svs pc r pc' h hpc
  unfold gBits at h
  split at h
  · cases h
    refine ⟨hpc, fun E args w ha => ?_⟩
    obtain ⟨v, h1, rfl⟩ := denArgs_one ha
    cases h1
    exact ⟨_, rfl, .inl (run_bits _ w)⟩
  · cases h

/-- The summaries of a table: each right. -/
def SumsOk (P : Program) (η : Env) (sm : T (List Sv → PC → Tree (Sv × PC))) : Prop := ∀ f g, sm.get f = some g → SumOk P η f g

theorem SumsOk.set {P : Program} {η : Env} {sm : T (List Sv → PC → Tree (Sv × PC))} (h : SumsOk P η sm) {f : FuncId} {g : List Sv → PC → Tree (Sv × PC)} (hf : f < 65535) (hg : SumOk P η f g) : SumsOk P η (sm.set f (some g)) := by
  intro i x hx
  by_cases hi : f = i
  · subst hi
    rw [T.get_set_same _ _ _ hf] at hx
    cases hx; exact hg
  · rw [T.get_set_ne _ _ _ _ hi] at hx
    exact h i x hx

def smA : T (List Sv → PC → Tree (Sv × PC)) := ((T.nil.set 63 (some gWhole)).set 64 (some gAbs)).set 67 (some gBits)
theorem SumsOk.nil {P : Program} {η : Env} : SumsOk P η .nil := fun f g h => by simp [T.get_nil] at h
theorem smA_ok {η : Env} (hg : GoodF η) : SumsOk Try.prog η smA :=
  ((SumsOk.nil.set (by decide) (gWhole_gen hg Try.call63 isWhole_calls)).set (by decide) (gAbs_ok hg)).set (by decide) gBits_ok

def mkC (sm : T (List Sv → PC → Tree (Sv × PC))) : Cx := ⟨Try.tt, Try.ft, sm, .nil, DB, fun _ _ _ _ => none, fhB, fun _ _ _ _ => none, f2iB, fun _ _ _ _ _ _ => none⟩
theorem mkC_ok {η : Env} (hg : GoodF η) {sm : T (List Sv → PC → Tree (Sv × PC))} (hs : SumsOk Try.prog η sm) : (mkC sm).Ok Try.prog η where
  tt := Try.tt_ok
  ft := Try.ft_ok
  sm := hs
  hs := fun f g h => by simp [mkC, T.get_nil] at h
  D := DB_ok hg.toGood
  ih := fun _ _ _ _ _ h => by cases h
  fh := fhB_ok hg
  fa := fun _ _ _ _ _ h => by cases h
  f2i := f2iB_ok hg
  ch := fun _ _ _ _ _ _ _ h => by cases h
  mixed := Try.mixed

end
end Go.Ex

