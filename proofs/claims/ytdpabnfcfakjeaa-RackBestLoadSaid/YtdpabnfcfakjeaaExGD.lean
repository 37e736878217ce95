/-
 Functions that hand back structures of their own in new memory (a pointer to a record, a map, rows that may be written on): what they leave in the caller's heap.
-/
import Derived.Test.YtdpabnfcfakjeaaExK
/-
 Functions that look at structures in the caller's blocks and hand back new ones: a run of their own with the blocks by other numbers.
-/

namespace Go.Ex
open Go Go.Proofs Go.RowKit
noncomputable section

theorem dL.post {P : Program} {η : Env} {nt n0 : Nat} {ro : Option Nat} {st : St} {k : List It} {Φ Ψ : Xt → St → Prop} (h : dL P η nt n0 ro st k Φ) (hi : ∀ x st', Φ x st' → ∃ st1, Sub η n0 st1 st' ∧ Ψ x st1) : dL P η nt n0 ro st k Ψ :=
 fun m E base w0 a w Q hm hS hn hQ => h m E base w0 a w Q hm hS hn fun x st' E' a' w' hΦ hA hn' hlo hS' => by
  obtain ⟨st1, hs, hΨ⟩ := hi x st' hΦ
  obtain ⟨E1, hA1, hS1⟩ := hs.sub E' nt base w0 a' w' hS' hn'
  exact hQ x st1 E1 a' w' hΨ (hA.trans hA1.comes (Nat.le_refl _)) (hs.nx hn') (hs.lo.trans hlo) hS1

/-! ## Blocks, with other numbers -/
variable {η : Env} {E1 E2 : Emb} {m δ : Nat}
/-! ## The caller's heap, with the new blocks -/
/-! ## Contracts -/
structure jY where
 tl : List (Nat × Sv)
 bl : List (Nat × Blk)
 nx : Nat
 s : Sv
def jY.alt (p : jY) : Alt := ⟨Unit, fun _ => True, fun _ => 0, fun _ => p.tl, fun _ => p.bl, p.nx⟩
def jY.ok (C : Cx) (fi : FI) (p : jY) : Prop := rT C (T.ofList p.bl) (T.ofList p.tl) fi.res = some p.s
/-- Several ends, each with its test; and the last. -/
def okL (C : Cx) (fi : FI) : List (Bool × jY) → jY → Prop
 | [], d => d.ok C fi
 | p :: l, d => p.2.ok C fi ∧ okL C fi l d
/-- Where such a run ends. -/
def WA (m : Nat) (st' : St) : List (Bool × jY) → jY → Prop
 | [], d => d.alt.fits m st' ()
 | p :: l, d => (p.1 = true → p.2.alt.fits m st' ()) ∧ (p.1 = false → WA m st' l d)
def YL (m : Nat) (l : List (Bool × jY)) (d : jY) : Xt → St → Prop := fun x st' => match x with
 | .exit _ => False
 | _ => WA m st' l d
def inL (n : Nat) : List (Nat × Blk) → Bool
 | [] => false
 | p :: l => Nat.beq n p.1 || inL n l
def HF (m : Nat) : List (Nat × Blk) → Bool
 | [] => true
 | p :: l => !inL p.1 l && (Nat.ble m p.1 && (Nat.blt p.1 65535 && HF m l))
theorem QH {n : Nat} : ∀ {l : List (Nat × Blk)} {p : Nat × Blk}, p ∈ l → p.1 = n → inL n l = true
 | q :: l, p, h, e => by
  cases h with
  | head => simp [inL, e]
  | tail _ h => simp [inL, QH h e]
theorem CJ {m : Nat} : ∀ {l : List (Nat × Blk)}, HF m l = true → (∀ p ∈ l, m ≤ p.1 ∧ p.1 < 65535) ∧ ∀ p ∈ l, (T.ofList l).get p.1 = some p.2
 | [], _ => ⟨(fun p h => by cases h), (fun p h => by cases h)⟩
 | q :: l, h => by
  simp only [HF, Bool.and_eq_true, Bool.not_eq_true'] at h
  obtain ⟨h1, h2, h3, h4⟩ := h
  obtain ⟨g1, g2⟩ := CJ h4
  have h2 := Nat.le_of_ble_eq_true h2
  have h3 : q.1 < 65535 := Nat.le_of_ble_eq_true h3
  refine ⟨fun p hp => ?_, fun p hp => ?_⟩
  ·cases hp with
   | head => exact ⟨h2, h3⟩
   | tail _ hp => exact g1 p hp
  ·show ((T.ofList l).set q.1 (some q.2)).get p.1 = some p.2
   cases hp with
   | head => rw [T.get_set_same _ _ _ h3]
   | tail _ hp =>
    rw [T.get_set_ne _ _ _ _ (fun e => by
     have := QH hp e.symm
     rw [h1] at this; cases this)]
    exact g2 p hp
end
end Go.Ex


namespace Go.Ex
open Go Go.Proofs Go.RowKit
noncomputable section

structure RdIn where
 ρ : List (Nat × Nat)
 sv : List Sv
 bl : List (Nat × Blk)
 m : Nat
 l : List (Bool × jY)
 d : jY
 ck : Bool
def EJ (ρ : List (Nat × Nat)) (m : Nat) : List Sv → List Sv → Prop
 | [], [] => True
 | a :: l, b :: k => H1 (fun i => i) ρ m a b ∧ EJ ρ m l k
 | _, _ => False
theorem qE {ρ : List (Nat × Nat)} {n0 m lo : Nat} (hρ : kR ρ n0 m lo) {η : Env} {E : Emb} : ∀ {l k : List Sv} {vs : List Value}, EJ ρ m l k → aB η E k = some vs → aB η (subE (fun i => i) ρ m E) l = some vs
 | [], [], vs, _, h => by cases h; rfl
 | a :: l, b :: k, vs, hs, h => by
  obtain ⟨v, us, e1, e2, rfl⟩ := aG h
  simp only [aB, CW hρ hs.1 e1, qE hρ hs.2 e2]
 | [], _ :: _, _, h, _ => h.elim
 | _ :: _, [], _, h, _ => h.elim
end
end Go.Ex

