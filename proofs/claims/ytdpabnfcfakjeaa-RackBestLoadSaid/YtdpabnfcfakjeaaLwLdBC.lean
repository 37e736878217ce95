/-
 Contracts: lists of numbers; loads, and their copies.
-/
import Derived.Test.YtdpabnfcfakjeaaLwLdA
/-
 Contracts: loads, and their copies.
-/

namespace Go.Ex
open Go Go.Proofs Go.RowKit
noncomputable section
set_option maxRecDepth 1000000

def BX : T Smf := (T.set (T.set smE 128 (some (gFd FT (.one .bool) s0 FU))) 83 (some (gFd FV (.one .bool) s8 FX)))
theorem jJ : Tab fK BX := (Tab.set (Tab.set BL (by kernel_rfl) (aW BL d8 O9 rfl)) (by kernel_rfl) (aW BL d8 PA rfl))
def iZ (f : Nat → Nat → FD) (v : Int) (i : Nat) : Bool := decide ((f i 0).i = v)
def aR (n : Nat) (f : Nat → Nat → FD) (v : Int) : Bool := eO (iZ f v) n 0
/-- The first error of a row of things, and its number. -/
def aK (e : Nat → Int) : Nat → Int
 | 0 => 0
 | n + 1 => if aK e n = 0 then e n else aK e n
def BA (e : Nat → Int) : Nat → Int
 | 0 => 0
 | n + 1 => if aK e n = 0 then (if e n = 0 then 0 else (n : Int)) else BA e n
theorem j8 {e : Nat → Int} {x : Nat} (h : aK e x = 0) (hx : e x ≠ 0) : ∀ {n : Nat}, x < n → aK e n = e x ∧ BA e n = (x : Int)
 | n + 1, hn => by
  by_cases hxn : x = n
  ·subst hxn
   simp only [aK, BA, h, if_true, if_neg hx]
   exact ⟨trivial, trivial⟩
  ·obtain ⟨h1, h2⟩ := j8 h hx (n := n) (by omega)
   simp only [aK, BA, h1, if_neg hx]
   exact ⟨trivial, h2⟩
theorem lA {e : Nat → Int} {x : Nat} (h : aK e x = 0) (hx : e x = 0) : aK e (x + 1) = 0 := by simp only [aK, h, if_true, hx]
theorem DE {e : Nat → Int} : ∀ {n : Nat}, aK e n = 0 → BA e n = 0
 | 0, _ => rfl
 | n + 1, h => by
  simp only [aK] at h
  split at h
  ·rename_i h'
   simp only [BA, h', if_true, h]
  ·omega
theorem lY {e : Nat → Int} : ∀ {n : Nat}, aK e n = 0 → ∀ i, i < n → e i = 0
 | n + 1, h, i, hi => by
  simp only [aK] at h
  split at h
  ·rename_i h'
   by_cases e : i = n
   ·subst e; exact h
   ·exact lY h' i (by omega)
  ·omega
def FY : List PT := [.one (.list [.int .i64]), .one (.int .i64)]
def NU : List FD → Bool
 | [.list _ _ _, .int _ _] => true
 | _ => false
def FZ : List FD → List FD
 | [.list _ na fa, .int _ v] => [.int .i64 (bQ (iZ fa v) na 0)]
 | _ => []
def NV (na : Nat) (fa : Nat → Nat → FD) (v : Int) : Nat → b9 := fun i => match i with | 2 => ⟨Nat, fun _ => [{ι := Nat, G := fun x => x ≤ na ∧ bQ (iZ fa v) (na - x) x = bQ (iZ fa v) na 0, μ := fun x => na - x, tl := fun x => [(0, .one (.fz (.root 0 0) (FD.list [Sh.int IntKind.i64] na fa))), (1, .one (.int IntKind.i64 (.tm v))), (4, .one (.int IntKind.i64 (.lit (0 : Int)))), (6, .one (.fz (.root 0 0) (FD.list [Sh.int IntKind.i64] na fa))), (7, .one (.int IntKind.i64 (.tm (Int.ofNat na)))), (8, .one (.int IntKind.i64 (.tm (Int.ofNat x))))], bl := fun _ => [], nx := (1 : Nat)}]⟩ | _ => ⟨Nat, fun _ => []⟩
theorem PB : dA (mkR BX gs3) Try.prog η0 149 (FI.of Try.f149 true) FY (.one (.int .i64)) NU FZ := by
 refine aM jJ d8 Try.fok149 (fun fds => match fds with | [.list _ na fa, .int _ v] => NV na fa v | _ => aZ fun _ => []) ?_
 intro fds hf hc
 obtain ⟨na, fa, ds0, rfl, ga, hf1⟩ := hf.list
 obtain ⟨v, ds1, rfl, hf2⟩ := hf1.int
 obtain rfl := hf2.nil
 have hc : (true) = true := hc
 have hvc : (vcF BX gs3 (FI.of Try.f149 true) FY (.one (.int .i64)) (NV na fa v) noR [.list [.int .i64] na fa, .int .i64 v] (FZ [.list [.int .i64] na fa, .int .i64 v])) =
  ((true = true) ∧ (∃ y0 : Nat, ((∃ y1 : Nat, (((y1 ≤ na ∧ ((bQ (iZ fa v) (na - y1) y1) = (bQ (iZ fa v) na (0 : Nat)))) ∧ True) ∧ (((true = true) ∧ ((((Ref.root (0) (0)) = (Ref.root (0) (0))) ∧ (((FD.list [Sh.int IntKind.i64] na fa) = (FD.list [Sh.int IntKind.i64] na fa)) ∧ (true = true))) ∧ ((((IntKind.i64) = (IntKind.i64)) ∧ ((v) = (v))) ∧ ((((IntKind.i64) = (IntKind.i64)) ∧ (((0 : Int)) = ((0 : Int)))) ∧ ((((Ref.root (0) (0)) = (Ref.root (0) (0))) ∧ (((FD.list [Sh.int IntKind.i64] na fa) = (FD.list [Sh.int IntKind.i64] na fa)) ∧ (true = true))) ∧ ((((IntKind.i64) = (IntKind.i64)) ∧ ((Int.ofNat na) = (Int.ofNat na))) ∧ ((((IntKind.i64) = (IntKind.i64)) ∧ ((Int.ofNat y1) = ((0 : Int)))) ∧ True))))))) ∧ True))) ∧ (∀ y1 : Nat, ((y1 ≤ na ∧ ((bQ (iZ fa v) (na - y1) y1) = (bQ (iZ fa v) na (0 : Nat)))) → ((((decide (Int.ofNat y1 < Int.ofNat na)) = (true)) → ((((decide ((0 : Int) ≤ Int.ofNat y1) && decide (Int.ofNat y1 < (↑na : Int))) = (true)) → ((((decide (v = FD.i (fa (Int.toNat (Int.ofNat y1)) (0 : Nat)))) = (true)) → (((IntKind.i64) = (IntKind.i64)) ∧ ((bQ (iZ fa v) na (0 : Nat)) = (Int.ofNat y1)))) ∧ (((decide (v = FD.i (fa (Int.toNat (Int.ofNat y1)) (0 : Nat)))) = (false)) → (∃ y2 : Nat, (((y2 ≤ na ∧ ((bQ (iZ fa v) (na - y2) y2) = (bQ (iZ fa v) na (0 : Nat)))) ∧ na - y2 < na - y1) ∧ (((true = true) ∧ ((((Ref.root (0) (0)) = (Ref.root (0) (0))) ∧ (((FD.list [Sh.int IntKind.i64] na fa) = (FD.list [Sh.int IntKind.i64] na fa)) ∧ (true = true))) ∧ ((((IntKind.i64) = (IntKind.i64)) ∧ ((v) = (v))) ∧ ((((IntKind.i64) = (IntKind.i64)) ∧ (((0 : Int)) = ((0 : Int)))) ∧ ((((Ref.root (0) (0)) = (Ref.root (0) (0))) ∧ (((FD.list [Sh.int IntKind.i64] na fa) = (FD.list [Sh.int IntKind.i64] na fa)) ∧ (true = true))) ∧ ((((IntKind.i64) = (IntKind.i64)) ∧ ((Int.ofNat na) = (Int.ofNat na))) ∧ ((((IntKind.i64) = (IntKind.i64)) ∧ ((Int.ofNat y2) = (IntKind.wrap IntKind.i64 (Int.ofNat y1 + (1 : Int))))) ∧ True))))))) ∧ True)))))) ∧ (((decide ((0 : Int) ≤ Int.ofNat y1) && decide (Int.ofNat y1 < (↑na : Int))) = (false)) → False))) ∧ (((decide (Int.ofNat y1 < Int.ofNat na)) = (false)) → (((IntKind.i64) = (IntKind.i64)) ∧ ((bQ (iZ fa v) na (0 : Nat)) = ((-1 : Int))))))))))) := by kernel_rfl
 refine hvc.mpr ?_
 clear hvc
 have hl := ga.len
 have hl' : maxLen = 9223372036854775807 := rfl
 simp
 refine fun x hx he => ⟨fun h => ⟨fun _ => ⟨fun ho => ?_, fun h0 => ⟨x + 1, ⟨⟨by omega, ?_⟩, by omega⟩, ?_⟩⟩, h⟩, fun h => ?_⟩
 ·rw [← he, show na - x = na - (x + 1) + 1 by omega, bQ, show iZ fa v x = true by simp [iZ]; omega]
  rfl
 ·rw [← he, show na - x = na - (x + 1) + 1 by omega, bQ, show iZ fa v x = false by simp [iZ]; omega]
  rfl
 ·rw [aQ (by omega) (by omega)]
  rfl
 ·rw [← he, show na - x = 0 by omega]
  rfl
def WZ : List PT := [.one (.list [.int .i64]), .one (.int .i64)]
def Y4 : List FD → Bool
 | [.list _ _ _, .int _ _] => true
 | _ => false
def W1 : List FD → List FD
 | [.list _ na fa, .int _ v] => [.bool (aR na fa v)]
 | _ => []
def Y5 (na : Nat) (fa : Nat → Nat → FD) (v : Int) : Nat → b9 := fun i => match i with | 2 => ⟨Nat, fun _ => [{ι := Nat, G := fun x => x ≤ na ∧ eO (iZ fa v) (na - x) x = aR na fa v, μ := fun x => na - x, tl := fun x => [(0, .one (.fz (.root 0 0) (FD.list [Sh.int IntKind.i64] na fa))), (1, .one (.int IntKind.i64 (.tm v))), (4, .one (.bool (.lit false))), (5, .one (.int IntKind.i64 (.tm (Int.ofNat x))))], bl := fun _ => [], nx := (1 : Nat)}]⟩ | _ => ⟨Nat, fun _ => []⟩
theorem W2 : dA (mkR BX gs3) Try.prog η0 96 (FI.of Try.f96 true) WZ (.one .bool) Y4 W1 := by
 refine aM jJ d8 Try.fok96 (fun fds => match fds with | [.list _ na fa, .int _ v] => Y5 na fa v | _ => aZ fun _ => []) ?_
 intro fds hf hc
 obtain ⟨na, fa, ds0, rfl, ga, hf1⟩ := hf.list
 obtain ⟨v, ds1, rfl, hf2⟩ := hf1.int
 obtain rfl := hf2.nil
 have hc : (true) = true := hc
 have hvc : (vcF BX gs3 (FI.of Try.f96 true) WZ (.one .bool) (Y5 na fa v) noR [.list [.int .i64] na fa, .int .i64 v] (W1 [.list [.int .i64] na fa, .int .i64 v])) =
  ((true = true) ∧ (∃ y0 : Nat, ((∃ y1 : Nat, (((y1 ≤ na ∧ ((eO (iZ fa v) (na - y1) y1) = (aR na fa v))) ∧ True) ∧ (((true = true) ∧ ((((Ref.root (0) (0)) = (Ref.root (0) (0))) ∧ (((FD.list [Sh.int IntKind.i64] na fa) = (FD.list [Sh.int IntKind.i64] na fa)) ∧ (true = true))) ∧ ((((IntKind.i64) = (IntKind.i64)) ∧ ((v) = (v))) ∧ ((false = false) ∧ ((((IntKind.i64) = (IntKind.i64)) ∧ ((Int.ofNat y1) = ((0 : Int)))) ∧ True))))) ∧ True))) ∧ (∀ y1 : Nat, ((y1 ≤ na ∧ ((eO (iZ fa v) (na - y1) y1) = (aR na fa v))) → ((((decide (Int.ofNat y1 < Int.ofNat na)) = (true)) → ((((decide ((0 : Int) ≤ Int.ofNat y1) && decide (Int.ofNat y1 < (↑na : Int))) = (true)) → ((((decide (FD.i (fa (Int.toNat (Int.ofNat y1)) (0 : Nat)) = v)) = (true)) → ((aR na fa v) = (true))) ∧ (((decide (FD.i (fa (Int.toNat (Int.ofNat y1)) (0 : Nat)) = v)) = (false)) → (∃ y2 : Nat, (((y2 ≤ na ∧ ((eO (iZ fa v) (na - y2) y2) = (aR na fa v))) ∧ na - y2 < na - y1) ∧ (((true = true) ∧ ((((Ref.root (0) (0)) = (Ref.root (0) (0))) ∧ (((FD.list [Sh.int IntKind.i64] na fa) = (FD.list [Sh.int IntKind.i64] na fa)) ∧ (true = true))) ∧ ((((IntKind.i64) = (IntKind.i64)) ∧ ((v) = (v))) ∧ ((false = false) ∧ ((((IntKind.i64) = (IntKind.i64)) ∧ ((Int.ofNat y2) = (IntKind.wrap IntKind.i64 (Int.ofNat y1 + (1 : Int))))) ∧ True))))) ∧ True)))))) ∧ (((decide ((0 : Int) ≤ Int.ofNat y1) && decide (Int.ofNat y1 < (↑na : Int))) = (false)) → False))) ∧ (((decide (Int.ofNat y1 < Int.ofNat na)) = (false)) → ((aR na fa v) = (false))))))))) := by kernel_rfl
 refine hvc.mpr ?_
 clear hvc
 have hl := ga.len
 have hl' : maxLen = 9223372036854775807 := rfl
 simp
 refine ⟨rfl, fun x hx he => ⟨fun h => ⟨fun _ => ⟨fun ho => ?_, fun h0 => ⟨x + 1, ⟨⟨by omega, ?_⟩, by omega⟩, ?_⟩⟩, h⟩, fun h => ?_⟩⟩
 ·rw [← he, show na - x = na - (x + 1) + 1 by omega, eO, show iZ fa v x = true by simp [iZ]; omega]
  rfl
 ·rw [← he, show na - x = na - (x + 1) + 1 by omega, eO, show iZ fa v x = false by simp [iZ]; omega]
  rfl
 ·rw [aQ (by omega) (by omega)]
  rfl
 ·rw [← he, show na - x = 0 by omega]
  rfl
/-- The error of numbers below a count that must ascend. -/
def cM (f : Nat → Nat → FD) (c : Int) (i : Nat) : Int := if 0 ≤ (f i 0).i ∧ (f i 0).i ≤ IntKind.i64.wrap (c - 1) then (if 0 < i ∧ (f i 0).i ≤ (f (i - 1) 0).i then 10 else 0) else 6
theorem w5 {f : Nat → Nat → FD} {c : Int} {n y : Nat} (hl : n ≤ 9223372036854775807) (hy : y < n) (he : aK (cM f c) y = 0) :
  (¬ (0 ≤ (f y 0).i ∧ (f y 0).i ≤ IntKind.i64.wrap (c - 1)) → aK (cM f c) n = 6) ∧ (0 ≤ (f y 0).i → (f y 0).i ≤ IntKind.i64.wrap (c - 1) → 0 < y → (f y 0).i ≤ (f (y - 1) 0).i → aK (cM f c) n = 10) ∧
  (0 ≤ (f y 0).i → (f y 0).i ≤ IntKind.i64.wrap (c - 1) → (0 < y → (f (y - 1) 0).i < (f y 0).i) → ∃ y2, ((y2 ≤ n ∧ aK (cM f c) y2 = 0) ∧ n - y2 < n - y) ∧ (y2 : Int) = IntKind.i64.wrap ((y : Int) + 1)) := by
 refine ⟨fun h => ?_, fun h1 h2 h3 h4 => ?_, fun h1 h2 h3 => ⟨y + 1, ⟨⟨by omega, lA he ?_⟩, by omega⟩, by rw [aQ (by omega) (by omega)]; rfl⟩⟩
 ·have e : cM f c y = 6 := if_neg h
  rw [(j8 he (by omega) hy).1, e]
 ·have e : cM f c y = 10 := by rw [cM, if_pos ⟨h1, h2⟩, if_pos ⟨h3, h4⟩]
  rw [(j8 he (by omega) hy).1, e]
 ·rw [cM, if_pos ⟨h1, h2⟩, if_neg]
  rintro ⟨h4, h5⟩
  have := h3 h4
  omega
theorem s9 {y n : Nat} (hl : n ≤ 9223372036854775807) (hy : y < n) (hp : 0 < y) : IntKind.i64.wrap ((y : Int) - 1) = ((y - 1 : Nat) : Int) := by rw [aQ (by omega) (by omega)]; omega
def BB : List PT := [.one (.list [.int .i64]), .one (.int .i64)]
def JB : List FD → Bool
 | [.list _ _ _, .int _ _] => true
 | _ => false
def BC : List FD → List FD
 | [.list _ na fa, .int _ c] => [.int .i64 (aK (cM fa c) na)]
 | _ => []
def JC (na : Nat) (fa : Nat → Nat → FD) (c : Int) : Nat → b9 := fun i => match i with | 2 => ⟨Nat, fun _ => [{ι := Nat, G := fun x => x ≤ na ∧ aK (cM fa c) x = 0, μ := fun x => na - x, tl := fun x => [(0, .one (.fz (.root 0 0) (FD.list [Sh.int IntKind.i64] na fa))), (1, .one (.int IntKind.i64 (.tm c))), (4, .one (.int IntKind.i64 (.lit (0 : Int)))), (5, .one (.int IntKind.i64 (.tm (Int.ofNat x))))], bl := fun _ => [], nx := (1 : Nat)}]⟩ | _ => ⟨Nat, fun _ => []⟩
abbrev jN (na : Nat) (fa : Nat → Nat → FD) (c : Int) (y1 : Nat) : Prop := (∃ y2 : Nat, (((y2 ≤ na ∧ ((aK (cM fa c) y2) = ((0 : Int)))) ∧ na - y2 < na - y1) ∧ (((true = true) ∧ ((((Ref.root (0) (0)) = (Ref.root (0) (0))) ∧ (((FD.list [Sh.int IntKind.i64] na fa) = (FD.list [Sh.int IntKind.i64] na fa)) ∧ (true = true))) ∧ ((((IntKind.i64) = (IntKind.i64)) ∧ ((c) = (c))) ∧ ((((IntKind.i64) = (IntKind.i64)) ∧ (((0 : Int)) = ((0 : Int)))) ∧ ((((IntKind.i64) = (IntKind.i64)) ∧ ((Int.ofNat y2) = (IntKind.wrap IntKind.i64 (Int.ofNat y1 + (1 : Int))))) ∧ True))))) ∧ True)))
abbrev gX (na : Nat) (fa : Nat → Nat → FD) (c : Int) (y1 : Nat) : Prop := (((decide ((0 : Int) < Int.ofNat y1)) = (false)) → ((((decide ((0 : Int) < Int.ofNat y1)) = (true)) → False) ∧ (((decide ((0 : Int) < Int.ofNat y1)) = (false)) → ((((decide ((0 : Int) < Int.ofNat y1)) = (true)) → False) ∧ (((decide ((0 : Int) < Int.ofNat y1)) = (false)) → (jN na fa c y1))))))
abbrev gY (na : Nat) (fa : Nat → Nat → FD) (c : Int) (y1 : Nat) : Prop := (((decide ((0 : Int) < Int.ofNat y1)) = (false)) → ((((decide ((0 : Int) < Int.ofNat y1)) = (true)) → False) ∧ (((decide ((0 : Int) < Int.ofNat y1)) = (false)) → ((((decide ((0 : Int) < Int.ofNat y1)) = (true)) → False) ∧ (gX na fa c y1)))))
abbrev uM (na : Nat) (fa : Nat → Nat → FD) (c : Int) (y1 : Nat) : Prop := (((decide ((0 : Int) < Int.ofNat y1)) = (false)) → ((((decide ((0 : Int) < Int.ofNat y1)) = (true)) → ((((decide ((0 : Int) < Int.ofNat y1)) = (true)) → ((((decide ((0 : Int) < Int.ofNat y1)) = (true)) → False) ∧ (((decide ((0 : Int) < Int.ofNat y1)) = (false)) → ((((decide ((0 : Int) < Int.ofNat y1)) = (true)) → False) ∧ (gX na fa c y1))))) ∧ (gY na fa c y1))) ∧ (((decide ((0 : Int) < Int.ofNat y1)) = (false)) → ((((decide ((0 : Int) < Int.ofNat y1)) = (true)) → False) ∧ (gY na fa c y1)))))
abbrev pD (na : Nat) (fa : Nat → Nat → FD) (c : Int) (y1 : Nat) : Prop := (((decide ((0 : Int) < Int.ofNat y1)) = (false)) → ((((decide ((0 : Int) < Int.ofNat y1)) = (true)) → ((((decide ((0 : Int) < Int.ofNat y1)) = (true)) → ((((decide ((0 : Int) < Int.ofNat y1)) = (true)) → ((((decide ((0 : Int) < Int.ofNat y1)) = (true)) → ((((decide ((0 : Int) ≤ IntKind.wrap IntKind.i64 (Int.ofNat y1 - (1 : Int))) && decide (IntKind.wrap IntKind.i64 (Int.ofNat y1 - (1 : Int)) < (↑na : Int))) = (true)) → ((((decide ((0 : Int) < Int.ofNat y1)) = (true)) → ((((decide ((0 : Int) < Int.ofNat y1)) = (true)) → False) ∧ (((decide ((0 : Int) < Int.ofNat y1)) = (false)) → ((((decide ((0 : Int) < Int.ofNat y1)) = (true)) → False) ∧ (((decide ((0 : Int) < Int.ofNat y1)) = (false)) → (jN na fa c y1)))))) ∧ (gX na fa c y1))) ∧ (((decide ((0 : Int) ≤ IntKind.wrap IntKind.i64 (Int.ofNat y1 - (1 : Int))) && decide (IntKind.wrap IntKind.i64 (Int.ofNat y1 - (1 : Int)) < (↑na : Int))) = (false)) → False))) ∧ (((decide ((0 : Int) < Int.ofNat y1)) = (false)) → ((((decide ((0 : Int) < Int.ofNat y1)) = (true)) → False) ∧ (gX na fa c y1))))) ∧ (gY na fa c y1))) ∧ (((decide ((0 : Int) < Int.ofNat y1)) = (false)) → ((((decide ((0 : Int) < Int.ofNat y1)) = (true)) → False) ∧ (gY na fa c y1))))) ∧ (uM na fa c y1)))
abbrev pE (na : Nat) (fa : Nat → Nat → FD) (c : Int) (y1 : Nat) : Prop := ((((decide ((0 : Int) < Int.ofNat y1)) = (true)) → False) ∧ (((decide ((0 : Int) < Int.ofNat y1)) = (false)) → ((((decide ((0 : Int) < Int.ofNat y1)) = (true)) → False) ∧ (pD na fa c y1))))
theorem L6 : dA (mkR BX gs3) Try.prog η0 97 (FI.of Try.f97 true) BB (.one (.int .i64)) JB BC := by
 refine aM jJ d8 Try.fok97 (fun fds => match fds with | [.list _ na fa, .int _ c] => JC na fa c | _ => aZ fun _ => []) ?_
 intro fds hf hc
 obtain ⟨na, fa, ds0, rfl, ga, hf1⟩ := hf.list
 obtain ⟨c, ds1, rfl, hf2⟩ := hf1.int
 obtain rfl := hf2.nil
 have hc : (true) = true := hc
 have hvc : (vcF BX gs3 (FI.of Try.f97 true) BB (.one (.int .i64)) (JC na fa c) noR [.list [.int .i64] na fa, .int .i64 c] (BC [.list [.int .i64] na fa, .int .i64 c])) =
  ((true = true) ∧ (∃ y0 : Nat, ((∃ y1 : Nat, (((y1 ≤ na ∧ ((aK (cM fa c) y1) = ((0 : Int)))) ∧ True) ∧ (((true = true) ∧ ((((Ref.root (0) (0)) = (Ref.root (0) (0))) ∧ (((FD.list [Sh.int IntKind.i64] na fa) = (FD.list [Sh.int IntKind.i64] na fa)) ∧ (true = true))) ∧ ((((IntKind.i64) = (IntKind.i64)) ∧ ((c) = (c))) ∧ ((((IntKind.i64) = (IntKind.i64)) ∧ (((0 : Int)) = ((0 : Int)))) ∧ ((((IntKind.i64) = (IntKind.i64)) ∧ ((Int.ofNat y1) = ((0 : Int)))) ∧ True))))) ∧ True))) ∧ (∀ y1 : Nat, ((y1 ≤ na ∧ ((aK (cM fa c) y1) = ((0 : Int)))) → ((((decide (Int.ofNat y1 < Int.ofNat na)) = (true)) → ((((decide ((0 : Int) ≤ Int.ofNat y1) && decide (Int.ofNat y1 < (↑na : Int))) = (true)) → (((true = true) → ((((decide ((0 : Int) ≤ FD.i (fa (Int.toNat (Int.ofNat y1)) (0 : Nat))) && decide (FD.i (fa (Int.toNat (Int.ofNat y1)) (0 : Nat)) ≤ IntKind.wrap IntKind.i64 (c - (1 : Int)))) = (false)) → (((IntKind.i64) = (IntKind.i64)) ∧ ((aK (cM fa c) na) = ((6 : Int))))) ∧ (((decide ((0 : Int) ≤ FD.i (fa (Int.toNat (Int.ofNat y1)) (0 : Nat))) && decide (FD.i (fa (Int.toNat (Int.ofNat y1)) (0 : Nat)) ≤ IntKind.wrap IntKind.i64 (c - (1 : Int)))) = (true)) → ((((decide ((0 : Int) < Int.ofNat y1)) = (true)) → ((((decide ((0 : Int) < Int.ofNat y1)) = (true)) → ((((decide ((0 : Int) < Int.ofNat y1)) = (true)) → ((((decide ((0 : Int) ≤ Int.ofNat y1) && decide (Int.ofNat y1 < (↑na : Int))) = (true)) → ((((decide ((0 : Int) < Int.ofNat y1)) = (true)) → ((((decide ((0 : Int) < Int.ofNat y1)) = (true)) → ((((decide ((0 : Int) < Int.ofNat y1)) = (true)) → ((((decide ((0 : Int) < Int.ofNat y1)) = (true)) → ((((decide ((0 : Int) < Int.ofNat y1)) = (true)) → ((((decide ((0 : Int) ≤ IntKind.wrap IntKind.i64 (Int.ofNat y1 - (1 : Int))) && decide (IntKind.wrap IntKind.i64 (Int.ofNat y1 - (1 : Int)) < (↑na : Int))) = (true)) → ((((decide ((0 : Int) < Int.ofNat y1)) = (true)) → ((((decide ((0 : Int) < Int.ofNat y1)) = (true)) → ((((decide ((0 : Int) < Int.ofNat y1)) = (true)) → ((((decide (FD.i (fa (Int.toNat (IntKind.wrap IntKind.i64 (Int.ofNat y1 - (1 : Int)))) (0 : Nat)) < FD.i (fa (Int.toNat (Int.ofNat y1)) (0 : Nat)))) = (false)) → (((IntKind.i64) = (IntKind.i64)) ∧ ((aK (cM fa c) na) = ((10 : Int))))) ∧ (((decide (FD.i (fa (Int.toNat (IntKind.wrap IntKind.i64 (Int.ofNat y1 - (1 : Int)))) (0 : Nat)) < FD.i (fa (Int.toNat (Int.ofNat y1)) (0 : Nat)))) = (true)) → (jN na fa c y1)))) ∧ (((decide ((0 : Int) < Int.ofNat y1)) = (false)) → (jN na fa c y1)))) ∧ (((decide ((0 : Int) < Int.ofNat y1)) = (false)) → ((((decide ((0 : Int) < Int.ofNat y1)) = (true)) → False) ∧ (((decide ((0 : Int) < Int.ofNat y1)) = (false)) → (jN na fa c y1)))))) ∧ (gX na fa c y1))) ∧ (((decide ((0 : Int) ≤ IntKind.wrap IntKind.i64 (Int.ofNat y1 - (1 : Int))) && decide (IntKind.wrap IntKind.i64 (Int.ofNat y1 - (1 : Int)) < (↑na : Int))) = (false)) → False))) ∧ (((decide ((0 : Int) < Int.ofNat y1)) = (false)) → ((((decide ((0 : Int) < Int.ofNat y1)) = (true)) → False) ∧ (gX na fa c y1))))) ∧ (gY na fa c y1))) ∧ (((decide ((0 : Int) < Int.ofNat y1)) = (false)) → ((((decide ((0 : Int) < Int.ofNat y1)) = (true)) → False) ∧ (gY na fa c y1))))) ∧ (uM na fa c y1))) ∧ (pD na fa c y1))) ∧ (((decide ((0 : Int) ≤ Int.ofNat y1) && decide (Int.ofNat y1 < (↑na : Int))) = (false)) → False))) ∧ (((decide ((0 : Int) < Int.ofNat y1)) = (false)) → ((((decide ((0 : Int) < Int.ofNat y1)) = (true)) → False) ∧ (pD na fa c y1))))) ∧ (((decide ((0 : Int) < Int.ofNat y1)) = (false)) → (pE na fa c y1)))) ∧ (((decide ((0 : Int) < Int.ofNat y1)) = (false)) → ((((decide ((0 : Int) < Int.ofNat y1)) = (true)) → (pE na fa c y1)) ∧ (((decide ((0 : Int) < Int.ofNat y1)) = (false)) → (pE na fa c y1)))))))) ∧ ((true = false) → False))) ∧ (((decide ((0 : Int) ≤ Int.ofNat y1) && decide (Int.ofNat y1 < (↑na : Int))) = (false)) → False))) ∧ (((decide (Int.ofNat y1 < Int.ofNat na)) = (false)) → (((IntKind.i64) = (IntKind.i64)) ∧ ((aK (cM fa c) na) = ((0 : Int))))))))))) := by kernel_rfl
 refine hvc.mpr ?_
 clear hvc
 dsimp only [jN, gX, gY, uM, pD, pE]
 have hl := ga.len
 have hl' : maxLen = 9223372036854775807 := rfl
 simp
 refine ⟨rfl, fun y hy he => ⟨fun hlt => ?_, fun hge => by rw [show na = y by omega]; exact he⟩⟩
 obtain ⟨a1, a2, a3⟩ := w5 (by omega) hlt he
 by_cases h0 : y = 0
 ·subst h0
  simp at a1 a2 a3
  simp [hlt]
  exact ⟨a1, a3⟩
 ·have hp : 0 < y := by omega
  have hw := s9 (by omega) hlt hp
  simp [h0, hp, hw, hlt]
  refine ⟨?_, ?_⟩
  ·exact fun h => a1 fun hh => by have := h hh.1; omega
  ·intro b1 b2
   exact ⟨fun _ => ⟨fun h => a2 b1 b2 hp h, fun h => a3 b1 b2 fun _ => h⟩, by omega⟩
def F0 : List PT := [.one (.list [.int .i64]), .one (.int .i64)]
def NW : List FD → Bool
 | [.list _ _ _, .int _ _] => true
 | _ => false
def F1 : List FD → List FD
 | [.list _ na fa, .int _ c] => [.int .i64 (aK (cM fa c) na)]
 | _ => []
def NX (na : Nat) (fa : Nat → Nat → FD) (c : Int) : Nat → b9 := fun i => match i with | 2 => ⟨Nat, fun _ => [{ι := Nat, G := fun x => x ≤ na ∧ aK (cM fa c) x = 0, μ := fun x => na - x, tl := fun x => [(0, .one (.fz (.root 0 0) (FD.list [Sh.int IntKind.i64] na fa))), (1, .one (.int IntKind.i64 (.tm c))), (4, .one (.int IntKind.i64 (.lit (0 : Int)))), (7, .one (.fz (.root 0 0) (FD.list [Sh.int IntKind.i64] na fa))), (8, .one (.int IntKind.i64 (.tm (Int.ofNat na)))), (9, .one (.int IntKind.i64 (.tm (Int.ofNat x))))], bl := fun _ => [], nx := (1 : Nat)}]⟩ | _ => ⟨Nat, fun _ => []⟩
theorem PD : dA (mkR BX gs3) Try.prog η0 130 (FI.of Try.f130 true) F0 (.one (.int .i64)) NW F1 := by
 refine aM jJ d8 Try.fok130 (fun fds => match fds with | [.list _ na fa, .int _ c] => NX na fa c | _ => aZ fun _ => []) ?_
 intro fds hf hc
 obtain ⟨na, fa, ds0, rfl, ga, hf1⟩ := hf.list
 obtain ⟨c, ds1, rfl, hf2⟩ := hf1.int
 obtain rfl := hf2.nil
 have hc : (true) = true := hc
 have hvc : (vcF BX gs3 (FI.of Try.f130 true) F0 (.one (.int .i64)) (NX na fa c) noR [.list [.int .i64] na fa, .int .i64 c] (F1 [.list [.int .i64] na fa, .int .i64 c])) =
  ((true = true) ∧ (∃ y0 : Nat, ((∃ y1 : Nat, (((y1 ≤ na ∧ ((aK (cM fa c) y1) = ((0 : Int)))) ∧ True) ∧ (((true = true) ∧ ((((Ref.root (0) (0)) = (Ref.root (0) (0))) ∧ (((FD.list [Sh.int IntKind.i64] na fa) = (FD.list [Sh.int IntKind.i64] na fa)) ∧ (true = true))) ∧ ((((IntKind.i64) = (IntKind.i64)) ∧ ((c) = (c))) ∧ ((((IntKind.i64) = (IntKind.i64)) ∧ (((0 : Int)) = ((0 : Int)))) ∧ ((((Ref.root (0) (0)) = (Ref.root (0) (0))) ∧ (((FD.list [Sh.int IntKind.i64] na fa) = (FD.list [Sh.int IntKind.i64] na fa)) ∧ (true = true))) ∧ ((((IntKind.i64) = (IntKind.i64)) ∧ ((Int.ofNat na) = (Int.ofNat na))) ∧ ((((IntKind.i64) = (IntKind.i64)) ∧ ((Int.ofNat y1) = ((0 : Int)))) ∧ True))))))) ∧ True))) ∧ (∀ y1 : Nat, ((y1 ≤ na ∧ ((aK (cM fa c) y1) = ((0 : Int)))) → ((((decide (Int.ofNat y1 < Int.ofNat na)) = (true)) → ((((decide ((0 : Int) ≤ Int.ofNat y1) && decide (Int.ofNat y1 < (↑na : Int))) = (true)) → (((true = true) → ((((decide ((0 : Int) ≤ FD.i (fa (Int.toNat (Int.ofNat y1)) (0 : Nat))) && decide (FD.i (fa (Int.toNat (Int.ofNat y1)) (0 : Nat)) ≤ IntKind.wrap IntKind.i64 (c - (1 : Int)))) = (false)) → (((IntKind.i64) = (IntKind.i64)) ∧ ((aK (cM fa c) na) = ((6 : Int))))) ∧ (((decide ((0 : Int) ≤ FD.i (fa (Int.toNat (Int.ofNat y1)) (0 : Nat))) && decide (FD.i (fa (Int.toNat (Int.ofNat y1)) (0 : Nat)) ≤ IntKind.wrap IntKind.i64 (c - (1 : Int)))) = (true)) → ((((decide ((0 : Int) < Int.ofNat y1)) = (true)) → ((((decide ((0 : Int) ≤ IntKind.wrap IntKind.i64 (Int.ofNat y1 - (1 : Int))) && decide (IntKind.wrap IntKind.i64 (Int.ofNat y1 - (1 : Int)) < (↑na : Int))) = (true)) → ((((decide (FD.i (fa (Int.toNat (IntKind.wrap IntKind.i64 (Int.ofNat y1 - (1 : Int)))) (0 : Nat)) < FD.i (fa (Int.toNat (Int.ofNat y1)) (0 : Nat)))) = (false)) → (((IntKind.i64) = (IntKind.i64)) ∧ ((aK (cM fa c) na) = ((10 : Int))))) ∧ (((decide (FD.i (fa (Int.toNat (IntKind.wrap IntKind.i64 (Int.ofNat y1 - (1 : Int)))) (0 : Nat)) < FD.i (fa (Int.toNat (Int.ofNat y1)) (0 : Nat)))) = (true)) → (∃ y2 : Nat, (((y2 ≤ na ∧ ((aK (cM fa c) y2) = ((0 : Int)))) ∧ na - y2 < na - y1) ∧ (((true = true) ∧ ((((Ref.root (0) (0)) = (Ref.root (0) (0))) ∧ (((FD.list [Sh.int IntKind.i64] na fa) = (FD.list [Sh.int IntKind.i64] na fa)) ∧ (true = true))) ∧ ((((IntKind.i64) = (IntKind.i64)) ∧ ((c) = (c))) ∧ ((((IntKind.i64) = (IntKind.i64)) ∧ (((0 : Int)) = ((0 : Int)))) ∧ ((((Ref.root (0) (0)) = (Ref.root (0) (0))) ∧ (((FD.list [Sh.int IntKind.i64] na fa) = (FD.list [Sh.int IntKind.i64] na fa)) ∧ (true = true))) ∧ ((((IntKind.i64) = (IntKind.i64)) ∧ ((Int.ofNat na) = (Int.ofNat na))) ∧ ((((IntKind.i64) = (IntKind.i64)) ∧ ((Int.ofNat y2) = (IntKind.wrap IntKind.i64 (Int.ofNat y1 + (1 : Int))))) ∧ True))))))) ∧ True)))))) ∧ (((decide ((0 : Int) ≤ IntKind.wrap IntKind.i64 (Int.ofNat y1 - (1 : Int))) && decide (IntKind.wrap IntKind.i64 (Int.ofNat y1 - (1 : Int)) < (↑na : Int))) = (false)) → False))) ∧ (((decide ((0 : Int) < Int.ofNat y1)) = (false)) → (∃ y2 : Nat, (((y2 ≤ na ∧ ((aK (cM fa c) y2) = ((0 : Int)))) ∧ na - y2 < na - y1) ∧ (((true = true) ∧ ((((Ref.root (0) (0)) = (Ref.root (0) (0))) ∧ (((FD.list [Sh.int IntKind.i64] na fa) = (FD.list [Sh.int IntKind.i64] na fa)) ∧ (true = true))) ∧ ((((IntKind.i64) = (IntKind.i64)) ∧ ((c) = (c))) ∧ ((((IntKind.i64) = (IntKind.i64)) ∧ (((0 : Int)) = ((0 : Int)))) ∧ ((((Ref.root (0) (0)) = (Ref.root (0) (0))) ∧ (((FD.list [Sh.int IntKind.i64] na fa) = (FD.list [Sh.int IntKind.i64] na fa)) ∧ (true = true))) ∧ ((((IntKind.i64) = (IntKind.i64)) ∧ ((Int.ofNat na) = (Int.ofNat na))) ∧ ((((IntKind.i64) = (IntKind.i64)) ∧ ((Int.ofNat y2) = (IntKind.wrap IntKind.i64 (Int.ofNat y1 + (1 : Int))))) ∧ True))))))) ∧ True)))))))) ∧ ((true = false) → False))) ∧ (((decide ((0 : Int) ≤ Int.ofNat y1) && decide (Int.ofNat y1 < (↑na : Int))) = (false)) → False))) ∧ (((decide (Int.ofNat y1 < Int.ofNat na)) = (false)) → (((IntKind.i64) = (IntKind.i64)) ∧ ((aK (cM fa c) na) = ((0 : Int))))))))))) := by kernel_rfl
 refine hvc.mpr ?_
 clear hvc
 have hl := ga.len
 have hl' : maxLen = 9223372036854775807 := rfl
 simp
 refine ⟨rfl, fun y hy he => ⟨fun hlt => ?_, fun hge => by rw [show na = y by omega]; exact he⟩⟩
 obtain ⟨a1, a2, a3⟩ := w5 (by omega) hlt he
 by_cases h0 : y = 0
 ·subst h0
  simp at a1 a2 a3
  simp [hlt]
  exact ⟨a1, a3⟩
 ·have hp : 0 < y := by omega
  have hw := s9 (by omega) hlt hp
  simp [h0, hp, hw, hlt]
  refine ⟨?_, ?_⟩
  ·exact fun h => a1 fun hh => by have := h hh.1; omega
  ·intro b1 b2
   exact ⟨fun _ => ⟨fun h => a2 b1 b2 hp h, fun h => a3 b1 b2 fun _ => h⟩, by omega⟩
end
end Go.Ex


namespace Go.Ex
open Go Go.Proofs Go.RowKit
noncomputable section
set_option maxRecDepth 1000000

def PE : T Smf := (T.set (T.set (T.set (T.set BX 149 (some (gFd FY (.one (.int .i64)) NU FZ))) 96 (some (gFd WZ (.one .bool) Y4 W1))) 97 (some (gFd BB (.one (.int .i64)) JB BC))) 130 (some (gFd F0 (.one (.int .i64)) NW F1)))
theorem tA : Tab fK PE := (Tab.set (Tab.set (Tab.set (Tab.set jJ (by kernel_rfl) (aW jJ d8 PB rfl)) (by kernel_rfl) (aW jJ d8 W2 rfl)) (by kernel_rfl) (aW jJ d8 L6 rfl)) (by kernel_rfl) (aW jJ d8 PD rfl))
def uN : List PT := [.one (.list [.int .i64]), .one (.int .i64)]
def DF : List FD → Bool
 | [.list _ _ _, .int _ _] => true
 | _ => false
def uO : List FD → List FD
 | [.list _ na fa, .int _ v] => [.bool (aR na fa v)]
 | _ => []
def DG (_na : Nat) (_fa : Nat → Nat → FD) (_v : Int) : Nat → b9 := aZ (fun _ => [])
theorem JD : dA (mkR PE gs3) Try.prog η0 129 (FI.of Try.f129 true) uN (.one .bool) DF uO := by
 refine aM tA d8 Try.fok129 (fun fds => match fds with | [.list _ na fa, .int _ v] => DG na fa v | _ => aZ fun _ => []) ?_
 intro fds hf hc
 obtain ⟨na, fa, ds0, rfl, ga, hf1⟩ := hf.list
 obtain ⟨v, ds1, rfl, hf2⟩ := hf1.int
 obtain rfl := hf2.nil
 have hc : (true) = true := hc
 have hvc : (vcF PE gs3 (FI.of Try.f129 true) uN (.one .bool) (DG na fa v) noR [.list [.int .i64] na fa, .int .i64 v] (uO [.list [.int .i64] na fa, .int .i64 v])) =
  ((true = true) ∧ (((true = true) → ((aR na fa v) = (!decide (bQ (iZ fa v) na (0 : Nat) < (0 : Int))))) ∧ ((true = false) → False))) := by kernel_rfl
 refine hvc.mpr ?_
 clear hvc
 have := lN (iZ fa v) na 0
 simp
 rw [this, Bool.not_not]
 rfl
/-- Names of at most 20 bytes, at most 12 places. -/
def eV (f : Nat → Nat → FD) (i : Nat) : Bool := Nat.ble (f i 0).s.length 20 && Nat.ble (f i 1).ln 12
def dK (n : Nat) (f : Nat → Nat → FD) : Bool := (Nat.ble n 10 || (Nat.ble 25 n && Nat.ble n 26)) && aJ (eV f) n
theorem oQ (f : Nat → Nat → FD) (i : Nat) : eV f i = true ↔ (f i 0).s.length ≤ 20 ∧ (f i 1).ln ≤ 12 := by
 simp only [eV, Bool.and_eq_true, Nat.ble_eq]
theorem JE {n : Nat} {f : Nat → Nat → FD} (h : ¬ (n ≤ 10 ∨ (25 ≤ n ∧ n ≤ 26))) : dK n f = false := by
 have e : (Nat.ble n 10 || (Nat.ble 25 n && Nat.ble n 26)) = false := by
  rw [Bool.eq_false_iff]
  intro hh
  simp only [Bool.or_eq_true, Bool.and_eq_true, Nat.ble_eq] at hh
  exact h hh
 rw [dK, e]; rfl
theorem JF {n y : Nat} {f : Nat → Nat → FD} (hy : y < n) (h : ¬ eV f y = true) : dK n f = false := by
 rw [dK, w3 hy (by simpa using h), Bool.and_false]
theorem DH {n : Nat} {f : Nat → Nat → FD} (h : dK n f = true) : n ≤ 26 ∧ ∀ i, i < n → (f i 0).s.length ≤ 20 ∧ (f i 1).ln ≤ 12 := by
 simp only [dK, Bool.and_eq_true, Bool.or_eq_true, Nat.ble_eq] at h
 exact ⟨by omega, fun i hi => (oQ f i).1 (bJ h.2 i hi)⟩
/-- Names of at most 20 bytes, at most 100 places. -/
def F2 (f : Nat → Nat → FD) (i : Nat) : Bool := Nat.ble (f i 0).s.length 20 && Nat.ble (f i 1).ln 100
def lB (n : Nat) (f : Nat → Nat → FD) : Bool := Nat.ble n 26 && aJ (F2 f) n
theorem BD {n : Nat} {f : Nat → Nat → FD} (h : lB n f = true) : n ≤ 26 ∧ ∀ i, i < n → (f i 0).s.length ≤ 20 ∧ (f i 1).ln ≤ 100 := by
 simp only [lB, Bool.and_eq_true, Nat.ble_eq] at h
 refine ⟨h.1, fun i hi => ?_⟩
 have := bJ h.2 i hi
 simpa only [F2, Bool.and_eq_true, Nat.ble_eq] using this
theorem R2 {n : Nat} {f : Nat → Nat → FD} (h : n ≤ 26) (k : ∀ i, i < n → (f i 0).s.length ≤ 20 ∧ (f i 1).ln ≤ 100) : lB n f = true := by
 rw [lB, Nat.ble_eq_true_of_le h, Bool.true_and]
 exact pA fun i hi => by simpa only [F2, Bool.and_eq_true, Nat.ble_eq] using k i hi
theorem R3 {n : Nat} {f : Nat → Nat → FD} (h : dK n f = true) : lB n f = true := by
 obtain ⟨h1, h2⟩ := DH h
 exact R2 h1 fun i hi => by have := h2 i hi; omega
def L7 : List PT := [.agg [.list [.str, .list [.int .i64]], .int .i64]]
def R4 : List FD → Bool
 | [.list _ _ _, .int _ _] => true
 | _ => false
def L8 : List FD → List FD
 | [.list _ nps fps, .int _ _] => [.bool (dK nps fps)]
 | _ => []
def R5 (nps : Nat) (fps : Nat → Nat → FD) (pc : Int) : Nat → b9 := fun i => match i with | 4 => ⟨Nat, fun _ => [{ι := Nat, G := fun x => x ≤ nps ∧ aJ (eV fps) x = true, μ := fun x => nps - x, tl := fun x => [(0, .agg [.fz (.root 0 0) (FD.list [Sh.str, Sh.list [Sh.int IntKind.i64]] nps fps), .int IntKind.i64 (.tm pc)]), (1, .one (.ptr (some (1, 0)))), (2, .one (.bool (.lit false))), (3, .one (.int IntKind.i64 (.tm (Int.ofNat x))))], bl := fun x => [(1, .cells 35 2 [.fz (.root 0 0) (FD.list [Sh.str, Sh.list [Sh.int IntKind.i64]] nps fps), .int IntKind.i64 (.tm pc)])], nx := (1 : Nat) + (1 : Nat)}]⟩ | _ => ⟨Nat, fun _ => []⟩
theorem R6 : dA (mkR PE gs3) Try.prog η0 22 (FI.of Try.f22 true) L7 (.one .bool) R4 L8 := by
 refine aM tA d8 Try.fok22 (fun fds => match fds with | [.list _ nps fps, .int _ pc] => R5 nps fps pc | _ => aZ fun _ => []) ?_
 intro fds hf hc
 obtain ⟨nps, fps, ds0, rfl, gps, hf1⟩ := hf.list
 obtain ⟨pc, ds1, rfl, hf2⟩ := hf1.int
 obtain rfl := hf2.nil
 have hc : (true) = true := hc
 have hvc : (vcF PE gs3 (FI.of Try.f22 true) L7 (.one .bool) (R5 nps fps pc) noR [.list [.str, .list [.int .i64]] nps fps, .int .i64 pc] (L8 [.list [.str, .list [.int .i64]] nps fps, .int .i64 pc])) =
  ((true = true) ∧ ((((decide ((10 : Int) < Int.ofNat nps)) = (true)) → ((((decide ((24 : Int) < Int.ofNat nps)) = (true)) → ((((decide ((26 : Int) < Int.ofNat nps)) = (true)) → ((dK nps fps) = (false))) ∧ (((decide ((26 : Int) < Int.ofNat nps)) = (false)) → (∃ y0 : Nat, ((∃ y1 : Nat, (((y1 ≤ nps ∧ ((aJ (eV fps) y1) = (true))) ∧ True) ∧ (((true = true) ∧ (((((Ref.root (0) (0)) = (Ref.root (0) (0))) ∧ (((FD.list [Sh.str, Sh.list [Sh.int IntKind.i64]] nps fps) = (FD.list [Sh.str, Sh.list [Sh.int IntKind.i64]] nps fps)) ∧ (true = true))) ∧ ((((IntKind.i64) = (IntKind.i64)) ∧ ((pc) = (pc))) ∧ True)) ∧ ((((1, 1) ∈ ([(1, 1)] : List (Nat × Nat))) ∧ ((0) = (0))) ∧ ((false = false) ∧ ((((IntKind.i64) = (IntKind.i64)) ∧ ((Int.ofNat y1) = ((0 : Int)))) ∧ True))))) ∧ (((((35 : TypeId)) = ((35 : Nat))) ∧ (((2) = (2)) ∧ ((((Ref.root (0) (0)) = (Ref.root (0) (0))) ∧ (((FD.list [Sh.str, Sh.list [Sh.int IntKind.i64]] nps fps) = (FD.list [Sh.str, Sh.list [Sh.int IntKind.i64]] nps fps)) ∧ (true = true))) ∧ ((((IntKind.i64) = (IntKind.i64)) ∧ ((pc) = (pc))) ∧ True)))) ∧ True)))) ∧ (∀ y1 : Nat, ((y1 ≤ nps ∧ ((aJ (eV fps) y1) = (true))) → ((((decide (Int.ofNat y1 < Int.ofNat nps)) = (true)) → ((((decide ((0 : Int) ≤ Int.ofNat y1) && decide (Int.ofNat y1 < (↑nps : Int))) = (true)) → ((((decide ((20 : Int) < Int.ofNat (List.length (FD.s (fps (Int.toNat (Int.ofNat y1)) ((0 : Nat) + Field.offset { name := "Name", type := (9 : Nat), offset := (0 : Nat), embedded := false, tag := "", pkgPath := "", byteOffset := (0 : Nat) })))))) = (true)) → ((dK nps fps) = (false))) ∧ (((decide ((20 : Int) < Int.ofNat (List.length (FD.s (fps (Int.toNat (Int.ofNat y1)) ((0 : Nat) + Field.offset { name := "Name", type := (9 : Nat), offset := (0 : Nat), embedded := false, tag := "", pkgPath := "", byteOffset := (0 : Nat) })))))) = (false)) → ((((decide ((0 : Int) ≤ Int.ofNat y1) && decide (Int.ofNat y1 < (↑nps : Int))) = (true)) → ((((decide ((12 : Int) < Int.ofNat (FD.ln (fps (Int.toNat (Int.ofNat y1)) ((0 : Nat) + Field.offset { name := "Fits", type := (22 : Nat), offset := (1 : Nat), embedded := false, tag := "", pkgPath := "", byteOffset := (16 : Nat) }))))) = (true)) → ((dK nps fps) = (false))) ∧ (((decide ((12 : Int) < Int.ofNat (FD.ln (fps (Int.toNat (Int.ofNat y1)) ((0 : Nat) + Field.offset { name := "Fits", type := (22 : Nat), offset := (1 : Nat), embedded := false, tag := "", pkgPath := "", byteOffset := (16 : Nat) }))))) = (false)) → (∃ y2 : Nat, (((y2 ≤ nps ∧ ((aJ (eV fps) y2) = (true))) ∧ nps - y2 < nps - y1) ∧ (((true = true) ∧ (((((Ref.root (0) (0)) = (Ref.root (0) (0))) ∧ (((FD.list [Sh.str, Sh.list [Sh.int IntKind.i64]] nps fps) = (FD.list [Sh.str, Sh.list [Sh.int IntKind.i64]] nps fps)) ∧ (true = true))) ∧ ((((IntKind.i64) = (IntKind.i64)) ∧ ((pc) = (pc))) ∧ True)) ∧ ((((1, 1) ∈ ([(1, 1)] : List (Nat × Nat))) ∧ ((0) = (0))) ∧ ((false = false) ∧ ((((IntKind.i64) = (IntKind.i64)) ∧ ((Int.ofNat y2) = (IntKind.wrap IntKind.i64 (Int.ofNat y1 + (1 : Int))))) ∧ True))))) ∧ (((((35 : TypeId)) = ((35 : TypeId))) ∧ (((2) = (2)) ∧ ((((Ref.root (0) (0)) = (Ref.root (0) (0))) ∧ (((FD.list [Sh.str, Sh.list [Sh.int IntKind.i64]] nps fps) = (FD.list [Sh.str, Sh.list [Sh.int IntKind.i64]] nps fps)) ∧ (true = true))) ∧ ((((IntKind.i64) = (IntKind.i64)) ∧ ((pc) = (pc))) ∧ True)))) ∧ True))))))) ∧ (((decide ((0 : Int) ≤ Int.ofNat y1) && decide (Int.ofNat y1 < (↑nps : Int))) = (false)) → False))))) ∧ (((decide ((0 : Int) ≤ Int.ofNat y1) && decide (Int.ofNat y1 < (↑nps : Int))) = (false)) → False))) ∧ (((decide (Int.ofNat y1 < Int.ofNat nps)) = (false)) → ((dK nps fps) = (true))))))))))) ∧ (((decide ((24 : Int) < Int.ofNat nps)) = (false)) → ((dK nps fps) = (false))))) ∧ (((decide ((10 : Int) < Int.ofNat nps)) = (false)) → ((((decide ((26 : Int) < Int.ofNat nps)) = (true)) → ((dK nps fps) = (false))) ∧ (((decide ((26 : Int) < Int.ofNat nps)) = (false)) → (∃ y0 : Nat, ((∃ y1 : Nat, (((y1 ≤ nps ∧ ((aJ (eV fps) y1) = (true))) ∧ True) ∧ (((true = true) ∧ (((((Ref.root (0) (0)) = (Ref.root (0) (0))) ∧ (((FD.list [Sh.str, Sh.list [Sh.int IntKind.i64]] nps fps) = (FD.list [Sh.str, Sh.list [Sh.int IntKind.i64]] nps fps)) ∧ (true = true))) ∧ ((((IntKind.i64) = (IntKind.i64)) ∧ ((pc) = (pc))) ∧ True)) ∧ ((((1, 1) ∈ ([(1, 1)] : List (Nat × Nat))) ∧ ((0) = (0))) ∧ ((false = false) ∧ ((((IntKind.i64) = (IntKind.i64)) ∧ ((Int.ofNat y1) = ((0 : Int)))) ∧ True))))) ∧ (((((35 : TypeId)) = ((35 : Nat))) ∧ (((2) = (2)) ∧ ((((Ref.root (0) (0)) = (Ref.root (0) (0))) ∧ (((FD.list [Sh.str, Sh.list [Sh.int IntKind.i64]] nps fps) = (FD.list [Sh.str, Sh.list [Sh.int IntKind.i64]] nps fps)) ∧ (true = true))) ∧ ((((IntKind.i64) = (IntKind.i64)) ∧ ((pc) = (pc))) ∧ True)))) ∧ True)))) ∧ (∀ y1 : Nat, ((y1 ≤ nps ∧ ((aJ (eV fps) y1) = (true))) → ((((decide (Int.ofNat y1 < Int.ofNat nps)) = (true)) → ((((decide ((0 : Int) ≤ Int.ofNat y1) && decide (Int.ofNat y1 < (↑nps : Int))) = (true)) → ((((decide ((20 : Int) < Int.ofNat (List.length (FD.s (fps (Int.toNat (Int.ofNat y1)) ((0 : Nat) + Field.offset { name := "Name", type := (9 : Nat), offset := (0 : Nat), embedded := false, tag := "", pkgPath := "", byteOffset := (0 : Nat) })))))) = (true)) → ((dK nps fps) = (false))) ∧ (((decide ((20 : Int) < Int.ofNat (List.length (FD.s (fps (Int.toNat (Int.ofNat y1)) ((0 : Nat) + Field.offset { name := "Name", type := (9 : Nat), offset := (0 : Nat), embedded := false, tag := "", pkgPath := "", byteOffset := (0 : Nat) })))))) = (false)) → ((((decide ((0 : Int) ≤ Int.ofNat y1) && decide (Int.ofNat y1 < (↑nps : Int))) = (true)) → ((((decide ((12 : Int) < Int.ofNat (FD.ln (fps (Int.toNat (Int.ofNat y1)) ((0 : Nat) + Field.offset { name := "Fits", type := (22 : Nat), offset := (1 : Nat), embedded := false, tag := "", pkgPath := "", byteOffset := (16 : Nat) }))))) = (true)) → ((dK nps fps) = (false))) ∧ (((decide ((12 : Int) < Int.ofNat (FD.ln (fps (Int.toNat (Int.ofNat y1)) ((0 : Nat) + Field.offset { name := "Fits", type := (22 : Nat), offset := (1 : Nat), embedded := false, tag := "", pkgPath := "", byteOffset := (16 : Nat) }))))) = (false)) → (∃ y2 : Nat, (((y2 ≤ nps ∧ ((aJ (eV fps) y2) = (true))) ∧ nps - y2 < nps - y1) ∧ (((true = true) ∧ (((((Ref.root (0) (0)) = (Ref.root (0) (0))) ∧ (((FD.list [Sh.str, Sh.list [Sh.int IntKind.i64]] nps fps) = (FD.list [Sh.str, Sh.list [Sh.int IntKind.i64]] nps fps)) ∧ (true = true))) ∧ ((((IntKind.i64) = (IntKind.i64)) ∧ ((pc) = (pc))) ∧ True)) ∧ ((((1, 1) ∈ ([(1, 1)] : List (Nat × Nat))) ∧ ((0) = (0))) ∧ ((false = false) ∧ ((((IntKind.i64) = (IntKind.i64)) ∧ ((Int.ofNat y2) = (IntKind.wrap IntKind.i64 (Int.ofNat y1 + (1 : Int))))) ∧ True))))) ∧ (((((35 : TypeId)) = ((35 : TypeId))) ∧ (((2) = (2)) ∧ ((((Ref.root (0) (0)) = (Ref.root (0) (0))) ∧ (((FD.list [Sh.str, Sh.list [Sh.int IntKind.i64]] nps fps) = (FD.list [Sh.str, Sh.list [Sh.int IntKind.i64]] nps fps)) ∧ (true = true))) ∧ ((((IntKind.i64) = (IntKind.i64)) ∧ ((pc) = (pc))) ∧ True)))) ∧ True))))))) ∧ (((decide ((0 : Int) ≤ Int.ofNat y1) && decide (Int.ofNat y1 < (↑nps : Int))) = (false)) → False))))) ∧ (((decide ((0 : Int) ≤ Int.ofNat y1) && decide (Int.ofNat y1 < (↑nps : Int))) = (false)) → False))) ∧ (((decide (Int.ofNat y1 < Int.ofNat nps)) = (false)) → ((dK nps fps) = (true))))))))))))) := by kernel_rfl
 refine hvc.mpr ?_
 clear hvc
 simp
 have key : ∀ y, y < nps → aJ (eV fps) y = true → (¬ ((fps y 0).s.length ≤ 20 ∧ (fps y 1).ln ≤ 12) → dK nps fps = false) ∧ ((fps y 0).s.length ≤ 20 ∧ (fps y 1).ln ≤ 12 → nps ≤ 26 → ∃ y2, ((y2 ≤ nps ∧ aJ (eV fps) y2 = true) ∧ nps - y2 < nps - y) ∧ (y2 : Int) = IntKind.i64.wrap ((y : Int) + 1)) := fun y hy ha =>
  ⟨fun h => JF hy (by rw [oQ]; exact h), fun h hn => ⟨y + 1, ⟨⟨by omega, w4 ha ((oQ fps y).2 h)⟩, by omega⟩, by rw [aQ (by omega) (by omega)]; rfl⟩⟩
 have fin : (nps ≤ 10 ∨ (25 ≤ nps ∧ nps ≤ 26)) → aJ (eV fps) nps = true → dK nps fps = true := fun h ha => by
  rw [dK, ha, Bool.and_true]
  simp only [Bool.or_eq_true, Bool.and_eq_true, Nat.ble_eq]
  exact h
 refine ⟨fun a => ⟨fun b => ⟨fun c => JE (by omega), fun c => ⟨rfl, fun y hy ha => ?_⟩⟩, fun b => JE (by omega)⟩, fun a => ⟨fun c => by omega, fun c => ⟨rfl, fun y hy ha => ?_⟩⟩⟩
 all_goals
  refine ⟨fun hlt => ⟨fun _ => ⟨fun h => (key y hlt ha).1 (by omega), fun h => ⟨fun _ => ⟨fun h' => (key y hlt ha).1 (by omega), fun h' => (key y hlt ha).2 (by omega) (by omega)⟩, hlt⟩⟩, hlt⟩, fun hge => ?_⟩
  have e : y = nps := by omega
  subst e
  exact fin (by omega) ha
def JG : T Smf := (T.set (T.set PE 129 (some (gFd uN (.one .bool) DF uO))) 22 (some (gFd L7 (.one .bool) R4 L8)))
theorem m5 : Tab fK JG := (Tab.set (Tab.set tA (by kernel_rfl) (aW tA d8 JD rfl)) (by kernel_rfl) (aW tA d8 R6 rfl))
def uP : List PT := [.agg [.list [.str, .list [.int .i64]], .int .i64]]
def jO : List FD → Bool
 | [.list _ nps fps, .int _ _] => lB nps fps
 | _ => false
def uQ : List FD → List FD
 | [.list _ nps fps, .int _ pc] => [.list [.str, .list [.int .i64]] nps fps, .int .i64 pc]
 | _ => []
def DI (nps : Nat) (fps : Nat → Nat → FD) (pc : Int) : Nat → b9 := fun i => match i with | 3 => ⟨Nat, fun _ => [{ι := Nat, G := fun x => x = 0, μ := fun x => nps - x, tl := fun x => [(0, .agg [.fz (.root 0 0) (FD.list [Sh.str, Sh.list [Sh.int IntKind.i64]] nps fps), .int IntKind.i64 (.tm pc)]), (1, .one (.ptr (some (1, 0)))), (2, .one (.ptr (some (2, 0)))), (3, .one (.ptr (some (3, 0)))), (4, .one (.int IntKind.i64 (.tm (Int.ofNat x))))], bl := fun x => [(1, .cells 35 2 [.fz (.root 0 0) (FD.list [Sh.str, Sh.list [Sh.int IntKind.i64]] nps fps), .int IntKind.i64 (.tm pc)]), (2, .cells 35 2 [.slice none 0 (.known 0), .int IntKind.i64 (.lit (0 : Int))]), (3, .cells 35 2 [.slice none 0 (.known 0), .int IntKind.i64 (.tm pc)])], nx := (1 : Nat) + (1 : Nat) + (1 : Nat) + (1 : Nat)}, {ι := Nat, G := fun x => 1 ≤ x ∧ x ≤ nps, μ := fun x => nps - x, tl := fun x => [(0, .agg [.fz (.root 0 0) (FD.list [Sh.str, Sh.list [Sh.int IntKind.i64]] nps fps), .int IntKind.i64 (.tm pc)]), (1, .one (.ptr (some (1, 0)))), (2, .one (.ptr (some (2, 0)))), (3, .one (.ptr (some (3, 0)))), (4, .one (.int IntKind.i64 (.tm (Int.ofNat x))))], bl := fun x => [(1, .cells 35 2 [.fz (.root 0 0) (FD.list [Sh.str, Sh.list [Sh.int IntKind.i64]] nps fps), .int IntKind.i64 (.tm pc)]), (2, .cells 35 2 [.slice none 0 (.known 0), .int IntKind.i64 (.lit (0 : Int))]), (3, .cells 35 2 [.own 4 x, .int IntKind.i64 (.tm pc)]), (4, .row 143 [.str, .list [.int .i64]] x fps)], nx := 5}]⟩ | _ => ⟨Nat, fun _ => []⟩
abbrev d7 (nps : Nat) (fps : Nat → Nat → FD) (pc : Int) : Prop := ((((Ref.root (0) (0)) = (Ref.root (0) (0))) ∧ (((FD.list [Sh.str, Sh.list [Sh.int IntKind.i64]] nps fps) = (FD.list [Sh.str, Sh.list [Sh.int IntKind.i64]] nps fps)) ∧ (true = true))) ∧ ((((IntKind.i64) = (IntKind.i64)) ∧ ((pc) = (pc))) ∧ True))
abbrev rH (nps : Nat) (fps : Nat → Nat → FD) (pc : Int) (y1 : Nat) : Prop := (∃ y2 : Nat, ((((y2) = (0)) ∧ nps - y2 < nps - y1) ∧ (((true = true) ∧ ((d7 nps fps pc) ∧ ((((1, 1) ∈ ([(3, 3), (2, 2), (1, 1)] : List (Nat × Nat))) ∧ ((0) = (0))) ∧ ((((2, 2) ∈ ([(3, 3), (2, 2), (1, 1)] : List (Nat × Nat))) ∧ ((0) = (0))) ∧ ((((3, 3) ∈ ([(3, 3), (2, 2), (1, 1)] : List (Nat × Nat))) ∧ ((0) = (0))) ∧ ((((IntKind.i64) = (IntKind.i64)) ∧ ((Int.ofNat y2) = (IntKind.wrap IntKind.i64 (Int.ofNat y1 + (1 : Int))))) ∧ True)))))) ∧ (((((35 : TypeId)) = ((35 : TypeId))) ∧ (((2) = (2)) ∧ (d7 nps fps pc))) ∧ (((((35 : TypeId)) = ((35 : TypeId))) ∧ (((2) = (2)) ∧ ((((0) = (0)) ∧ ((0) = (0))) ∧ ((((IntKind.i64) = (IntKind.i64)) ∧ (((0 : Int)) = ((0 : Int)))) ∧ True)))) ∧ (((((35 : TypeId)) = ((35 : TypeId))) ∧ (((2) = (2)) ∧ (False ∧ ((((IntKind.i64) = (IntKind.i64)) ∧ ((pc) = (pc))) ∧ True)))) ∧ True))))))
abbrev rI (fps : Nat → Nat → FD) (y1 : Nat) : Prop := (((mA [FD.list [Sh.int IntKind.i64] (FD.ln (fps (Int.toNat (Int.ofNat y1)) ((0 : Nat) + Field.offset { name := "Fits", type := (22 : Nat), offset := (1 : Nat), embedded := false, tag := "", pkgPath := "", byteOffset := (16 : Nat) }))) (FD.fn (fps (Int.toNat (Int.ofNat y1)) ((0 : Nat) + Field.offset { name := "Fits", type := (22 : Nat), offset := (1 : Nat), embedded := false, tag := "", pkgPath := "", byteOffset := (16 : Nat) })))]) = (false)) → False)
abbrev rJ (fps : Nat → Nat → FD) (y1 : Nat) : Prop := ((mA [FD.list [Sh.int IntKind.i64] (FD.ln (fps (Int.toNat (Int.ofNat y1)) ((0 : Nat) + Field.offset { name := "Fits", type := (22 : Nat), offset := (1 : Nat), embedded := false, tag := "", pkgPath := "", byteOffset := (16 : Nat) }))) (FD.fn (fps (Int.toNat (Int.ofNat y1)) ((0 : Nat) + Field.offset { name := "Fits", type := (22 : Nat), offset := (1 : Nat), embedded := false, tag := "", pkgPath := "", byteOffset := (16 : Nat) })))]) = (true))
abbrev rK (nps : Nat) (fps : Nat → Nat → FD) (pc : Int) (y1 : Nat) : Prop := ((true = true) ∧ ((d7 nps fps pc) ∧ ((((1, 1) ∈ ([(3, 3), (2, 2), (1, 1)] : List (Nat × Nat))) ∧ ((0) = (0))) ∧ ((((2, 2) ∈ ([(3, 3), (2, 2), (1, 1)] : List (Nat × Nat))) ∧ ((0) = (0))) ∧ ((((3, 3) ∈ ([(3, 3), (2, 2), (1, 1)] : List (Nat × Nat))) ∧ ((0) = (0))) ∧ ((((IntKind.i64) = (IntKind.i64)) ∧ ((Int.ofNat y1) = ((0 : Int)))) ∧ True))))))
theorem JH : dA (mkR JG gs3) Try.prog η0 24 (FI.of Try.f24 false) uP (.agg [.list [.str, .list [.int .i64]], .int .i64]) jO uQ := by
 refine aM m5 d8 Try.fok24 (fun fds => match fds with | [.list _ nps fps, .int _ pc] => DI nps fps pc | _ => aZ fun _ => []) ?_
 intro fds hf hc
 obtain ⟨nps, fps, ds0, rfl, gps, hf1⟩ := hf.list
 obtain ⟨pc, ds1, rfl, hf2⟩ := hf1.int
 obtain rfl := hf2.nil
 have hc : (lB nps fps) = true := hc
 have hvc : (vcF JG gs3 (FI.of Try.f24 false) uP (.agg [.list [.str, .list [.int .i64]], .int .i64]) (DI nps fps pc) noR [.list [.str, .list [.int .i64]] nps fps, .int .i64 pc] (uQ [.list [.str, .list [.int .i64]] nps fps, .int .i64 pc])) =
  ((true = true) ∧ (∃ y0 : Nat, (((∃ y1 : Nat, ((((y1) = (0)) ∧ True) ∧ ((rK nps fps pc y1) ∧ (((((35 : TypeId)) = ((35 : Nat))) ∧ (((2) = (2)) ∧ (d7 nps fps pc))) ∧ (((((35 : TypeId)) = ((35 : Nat))) ∧ (((2) = (2)) ∧ ((((0) = (0)) ∧ ((0) = (0))) ∧ ((((IntKind.i64) = (IntKind.i64)) ∧ (((0 : Int)) = ((0 : Int)))) ∧ True)))) ∧ (((((35 : TypeId)) = ((35 : Nat))) ∧ (((2) = (2)) ∧ ((((0) = (0)) ∧ ((0) = (0))) ∧ ((((IntKind.i64) = (IntKind.i64)) ∧ ((pc) = (pc))) ∧ True)))) ∧ True)))))) ∨ (∃ y1 : Nat, ((((1 : Nat) ≤ y1 ∧ y1 ≤ nps) ∧ True) ∧ ((rK nps fps pc y1) ∧ (((((35 : TypeId)) = ((35 : Nat))) ∧ (((2) = (2)) ∧ (d7 nps fps pc))) ∧ (((((35 : TypeId)) = ((35 : Nat))) ∧ (((2) = (2)) ∧ ((((0) = (0)) ∧ ((0) = (0))) ∧ ((((IntKind.i64) = (IntKind.i64)) ∧ (((0 : Int)) = ((0 : Int)))) ∧ True)))) ∧ (((((35 : TypeId)) = ((35 : Nat))) ∧ (((2) = (2)) ∧ (False ∧ ((((IntKind.i64) = (IntKind.i64)) ∧ ((pc) = (pc))) ∧ True)))) ∧ (False ∧ True)))))))) ∧ ((∀ y1 : Nat, (((y1) = (0)) → ((((decide (Int.ofNat y1 < Int.ofNat nps)) = (true)) → ((((decide ((0 : Int) ≤ Int.ofNat y1) && decide (Int.ofNat y1 < (↑nps : Int))) = (true)) → ((((decide ((0 : Int) ≤ Int.ofNat y1) && decide (Int.ofNat y1 < (↑nps : Int))) = (true)) → (((rJ fps y1) → (((true = true) → ((rH nps fps pc y1) ∨ (∃ y2 : Nat, ((((1 : Nat) ≤ y2 ∧ y2 ≤ nps) ∧ nps - y2 < nps - y1) ∧ (((true = true) ∧ ((d7 nps fps pc) ∧ ((((1, 1) ∈ ([(4, 21), (3, 3), (2, 2), (1, 1)] : List (Nat × Nat))) ∧ ((0) = (0))) ∧ ((((2, 2) ∈ ([(4, 21), (3, 3), (2, 2), (1, 1)] : List (Nat × Nat))) ∧ ((0) = (0))) ∧ ((((3, 3) ∈ ([(4, 21), (3, 3), (2, 2), (1, 1)] : List (Nat × Nat))) ∧ ((0) = (0))) ∧ ((((IntKind.i64) = (IntKind.i64)) ∧ ((Int.ofNat y2) = (IntKind.wrap IntKind.i64 (Int.ofNat y1 + (1 : Int))))) ∧ True)))))) ∧ (((((35 : TypeId)) = ((35 : TypeId))) ∧ (((2) = (2)) ∧ (d7 nps fps pc))) ∧ (((((35 : TypeId)) = ((35 : TypeId))) ∧ (((2) = (2)) ∧ ((((0) = (0)) ∧ ((0) = (0))) ∧ ((((IntKind.i64) = (IntKind.i64)) ∧ (((0 : Int)) = ((0 : Int)))) ∧ True)))) ∧ (((((35 : TypeId)) = ((35 : TypeId))) ∧ (((2) = (2)) ∧ ((((4, 21) ∈ ([(4, 21), (3, 3), (2, 2), (1, 1)] : List (Nat × Nat))) ∧ ((y2) = (1))) ∧ ((((IntKind.i64) = (IntKind.i64)) ∧ ((pc) = (pc))) ∧ True)))) ∧ (((((143 : TypeId)) = ((143 : TypeId))) ∧ ((([Sh.str, Sh.list [Sh.int IntKind.i64]]) = ([Sh.str, Sh.list [Sh.int IntKind.i64]])) ∧ (((y2) = (1)) ∧ (∀ y3 : Nat, (y3 < y2 → (∀ y4 : Nat, (y4 < List.length [Sh.str, Sh.list [Sh.int IntKind.i64]] → ((fps y3 y4) = (dG [FD.str (FD.s (fps (Int.toNat (Int.ofNat y1)) ((0 : Nat) + Field.offset { name := "Name", type := (9 : Nat), offset := (0 : Nat), embedded := false, tag := "", pkgPath := "", byteOffset := (0 : Nat) }))), FD.list [Sh.int IntKind.i64] (FD.ln (fps (Int.toNat (Int.ofNat y1)) ((0 : Nat) + Field.offset { name := "Fits", type := (22 : Nat), offset := (1 : Nat), embedded := false, tag := "", pkgPath := "", byteOffset := (16 : Nat) }))) (FD.fn (fps (Int.toNat (Int.ofNat y1)) ((0 : Nat) + Field.offset { name := "Fits", type := (22 : Nat), offset := (1 : Nat), embedded := false, tag := "", pkgPath := "", byteOffset := (16 : Nat) })))] y4))))))))) ∧ True))))))))) ∧ ((true = false) → False))) ∧ (rI fps y1))) ∧ (((decide ((0 : Int) ≤ Int.ofNat y1) && decide (Int.ofNat y1 < (↑nps : Int))) = (false)) → False))) ∧ (((decide ((0 : Int) ≤ Int.ofNat y1) && decide (Int.ofNat y1 < (↑nps : Int))) = (false)) → False))) ∧ (((decide (Int.ofNat y1 < Int.ofNat nps)) = (false)) → (((nps) = (0)) ∧ ((((IntKind.i64) = (IntKind.i64)) ∧ ((pc) = (pc))) ∧ True)))))) ∧ (∀ y1 : Nat, (((1 : Nat) ≤ y1 ∧ y1 ≤ nps) → ((((decide (Int.ofNat y1 < Int.ofNat nps)) = (true)) → ((((decide ((0 : Int) ≤ Int.ofNat y1) && decide (Int.ofNat y1 < (↑nps : Int))) = (true)) → ((((decide ((0 : Int) ≤ Int.ofNat y1) && decide (Int.ofNat y1 < (↑nps : Int))) = (true)) → (((rJ fps y1) → ((((Nat.beq y1 y1 && (true && Nat.ble (y1 + (1 : Nat)) (1000000 : Nat))) = (true)) → ((rH nps fps pc y1) ∨ (∃ y2 : Nat, ((((1 : Nat) ≤ y2 ∧ y2 ≤ nps) ∧ nps - y2 < nps - y1) ∧ (((true = true) ∧ ((d7 nps fps pc) ∧ ((((1, 1) ∈ ([(4, 22), (3, 3), (2, 2), (1, 1)] : List (Nat × Nat))) ∧ ((0) = (0))) ∧ ((((2, 2) ∈ ([(4, 22), (3, 3), (2, 2), (1, 1)] : List (Nat × Nat))) ∧ ((0) = (0))) ∧ ((((3, 3) ∈ ([(4, 22), (3, 3), (2, 2), (1, 1)] : List (Nat × Nat))) ∧ ((0) = (0))) ∧ ((((IntKind.i64) = (IntKind.i64)) ∧ ((Int.ofNat y2) = (IntKind.wrap IntKind.i64 (Int.ofNat y1 + (1 : Int))))) ∧ True)))))) ∧ (((((35 : TypeId)) = ((35 : TypeId))) ∧ (((2) = (2)) ∧ (d7 nps fps pc))) ∧ (((((35 : TypeId)) = ((35 : TypeId))) ∧ (((2) = (2)) ∧ ((((0) = (0)) ∧ ((0) = (0))) ∧ ((((IntKind.i64) = (IntKind.i64)) ∧ (((0 : Int)) = ((0 : Int)))) ∧ True)))) ∧ (((((35 : TypeId)) = ((35 : TypeId))) ∧ (((2) = (2)) ∧ ((((4, 22) ∈ ([(4, 22), (3, 3), (2, 2), (1, 1)] : List (Nat × Nat))) ∧ ((y2) = (y1 + (1 : Nat)))) ∧ ((((IntKind.i64) = (IntKind.i64)) ∧ ((pc) = (pc))) ∧ True)))) ∧ (((((143 : TypeId)) = ((143 : TypeId))) ∧ ((([Sh.str, Sh.list [Sh.int IntKind.i64]]) = ([Sh.str, Sh.list [Sh.int IntKind.i64]])) ∧ (((y2) = (y1 + (1 : Nat))) ∧ (∀ y3 : Nat, (y3 < y2 → (∀ y4 : Nat, (y4 < List.length [Sh.str, Sh.list [Sh.int IntKind.i64]] → ((fps y3 y4) = (bif Nat.blt y3 y1 then fps y3 y4 else dG [FD.str (FD.s (fps (Int.toNat (Int.ofNat y1)) ((0 : Nat) + Field.offset { name := "Name", type := (9 : Nat), offset := (0 : Nat), embedded := false, tag := "", pkgPath := "", byteOffset := (0 : Nat) }))), FD.list [Sh.int IntKind.i64] (FD.ln (fps (Int.toNat (Int.ofNat y1)) ((0 : Nat) + Field.offset { name := "Fits", type := (22 : Nat), offset := (1 : Nat), embedded := false, tag := "", pkgPath := "", byteOffset := (16 : Nat) }))) (FD.fn (fps (Int.toNat (Int.ofNat y1)) ((0 : Nat) + Field.offset { name := "Fits", type := (22 : Nat), offset := (1 : Nat), embedded := false, tag := "", pkgPath := "", byteOffset := (16 : Nat) })))] y4))))))))) ∧ True))))))))) ∧ (((Nat.beq y1 y1 && (true && Nat.ble (y1 + (1 : Nat)) (1000000 : Nat))) = (false)) → False))) ∧ (rI fps y1))) ∧ (((decide ((0 : Int) ≤ Int.ofNat y1) && decide (Int.ofNat y1 < (↑nps : Int))) = (false)) → False))) ∧ (((decide ((0 : Int) ≤ Int.ofNat y1) && decide (Int.ofNat y1 < (↑nps : Int))) = (false)) → False))) ∧ (((decide (Int.ofNat y1 < Int.ofNat nps)) = (false)) → ((((1) ≤ (4)) ∧ ((([Sh.str, Sh.list [Sh.int IntKind.i64]]) = ([Sh.str, Sh.list [Sh.int IntKind.i64]])) ∧ (((y1) = (y1)) ∧ (((nps) = (y1)) ∧ (∀ y2 : Nat, (y2 < y1 → (∀ y3 : Nat, (y3 < List.length [Sh.str, Sh.list [Sh.int IntKind.i64]] → ((fps y2 y3) = (fps y2 y3)))))))))) ∧ ((((IntKind.i64) = (IntKind.i64)) ∧ ((pc) = (pc))) ∧ True)))))))))) := by kernel_rfl
 refine hvc.mpr ?_
 clear hvc
 dsimp only [d7, rH, rI, rJ, rK]
 obtain ⟨k1, k2⟩ := BD hc
 have hci : ∀ i, i < nps → mA [.list [.int .i64] (fps i 1).ln (fps i 1).fn] = true := fun i hi => Nat.ble_eq_true_of_le (by have := k2 i hi; omega)
 have hex : ∀ i, i < nps → ∀ j, j < 2 → fps i j = dG [FD.str (fps i 0).s, FD.list [Sh.int IntKind.i64] (fps i 1).ln (fps i 1).fn] j := fun i hi j hj => by
  have h0 := (gps.at hi (show 0 < [Sh.str, Sh.list [Sh.int IntKind.i64]].length by simp)).1
  have h1 := (gps.at hi (show 1 < [Sh.str, Sh.list [Sh.int IntKind.i64]].length by simp)).1
  rcases (show j = 0 ∨ j = 1 by omega) with rfl | rfl
  ·exact h0.symm
  ·exact h1.symm
 simp
 refine ⟨fun h => ⟨fun _ => ⟨fun _ => ⟨fun _ => ⟨1, ⟨⟨by omega, by omega⟩, by omega⟩, by rw [aQ (by omega) (by omega)]; rfl, rfl, fun y hy j hj => ?_⟩, hci 0 h⟩, h⟩, h⟩, fun x h1 h2 => ⟨fun h => ⟨fun _ => ⟨fun _ => ⟨fun _ => ⟨fun _ => ⟨x + 1, ⟨⟨by omega, by omega⟩, by omega⟩, by rw [aQ (by omega) (by omega)]; rfl, rfl, fun y hy j hj => ?_⟩, by omega⟩, hci x h⟩, h⟩, h⟩, fun h => by omega⟩⟩
 ·obtain rfl : y = 0 := by omega
  exact hex 0 h j hj
 ·by_cases e : y = x
  ·subst e
   rw [show Nat.blt y y = false by rw [Bool.eq_false_iff]; exact fun h => by have := Nat.le_of_ble_eq_true h; omega]
   exact hex y h j hj
  ·rw [show Nat.blt y x = true from Nat.ble_eq_true_of_le (by omega)]
   rfl
end
end Go.Ex

