/-
 How parts are given places: the plain model of the loader's walk, and its contract.
-/
import Derived.Test.YtdpabnfcfakjeaaLwLdA
import Derived.Test.YtdpabnfcfakjeaaExP

namespace Go.Ex
open Go Go.Proofs Go.RowKit
noncomputable section
set_option maxRecDepth 1000000

def vU (P : Prop) : Bool := @decide P (Classical.propDecidable P)
theorem lS {P : Prop} : vU P = true ↔ P := by simp [vU]
/-- The loader's rows: the place of each part, the part of each place, which places have been pG. -/
structure LS where
 pl : Nat → Nat → FD
 pa : Nat → Nat → FD
 se : Nat → Nat → FD
def LS.see (s : LS) (p : Nat) : LS := ⟨s.pl, s.pa, j3 s.se p 0 (.bool true)⟩
def LS.put (s : LS) (i : Nat) (p : Int) : LS := ⟨j3 s.pl i 0 (.int .i64 p), j3 s.pa p.toNat 0 (.int .i64 i), s.se⟩
/-- What is left of a walk over a part's places. -/
def gvL (rec : Nat → LS → Bool × LS) (fit : Nat → Nat → FD) (i : Nat) : Nat → Nat → LS → Bool × LS
 | 0, _, s => (false, s)
 | n + 1, x, s => if (s.se (fit x 0).i.toNat 0).b = true then gvL rec fit i n (x + 1) s
  else if ((s.see (fit x 0).i.toNat).pa (fit x 0).i.toNat 0).i < 0 then (true, (s.see (fit x 0).i.toNat).put i (fit x 0).i)
  else if (rec ((s.see (fit x 0).i.toNat).pa (fit x 0).i.toNat 0).i.toNat (s.see (fit x 0).i.toNat)).1 = true then (true, (rec ((s.see (fit x 0).i.toNat).pa (fit x 0).i.toNat 0).i.toNat (s.see (fit x 0).i.toNat)).2.put i (fit x 0).i)
  else gvL rec fit i n (x + 1) (rec ((s.see (fit x 0).i.toNat).pa (fit x 0).i.toNat 0).i.toNat (s.see (fit x 0).i.toNat)).2
def gv (F : Nat → Nat → FD) : Nat → Nat → LS → Bool × LS
 | 0, _, s => (false, s)
 | k + 1, i, s => gvL (gv F k) (F i 1).fn i (F i 1).ln 0 s
def cB (s : LS) : Nat → Nat
 | 0 => 0
 | n + 1 => cB s n + if (s.se n 0).b = true then 0 else 1
structure gK (np : Nat) (F : Nat → Nat → FD) (q : Nat) (s : LS) (k : Nat) (i : Int) : Prop where
 i0 : 0 ≤ i
 i1 : i < np
 fits : ∀ j, j < np → (F j 1).ln ≤ 1000 ∧ ∀ x, x < (F j 1).ln → 0 ≤ ((F j 1).fn x 0).i ∧ ((F j 1).fn x 0).i < q
 pa : ∀ p, p < q → (s.pa p 0).i < np
 un : cB s q < k
def zK (k : Nat) : T Blk → List Sv → Option HP := fun hp svs => match svs with
 | [.one (.ptr (some (b1, 0))), .one (.int .i64 x), .one (.own b4 n4)] => match gQ x, hp.get b1, hp.get b4 with
  | some i, some (.cells e1 s1 [.fz (.root 0 0) (.list [.str, .list [.int .i64]] np F), .int .i64 yx, .own b2 n2, .own b3 n3]), some (.row e4 [.bool] m4 se) => match gQ yx, hp.get b2, hp.get b3 with
   | some y, some (.row e2 [.int .i64] m2 pl), some (.row e3 [.int .i64] m3 pa) => some ⟨[(1, b1), (2, b2), (3, b3), (4, b4)], [.one (.ptr (some (1, 0))), .one (.int .i64 (.tm i)), .one (.own 4 n4)],
     [(1, .cells e1 s1 [.fz (.root 0 0) (.list [.str, .list [.int .i64]] np F), .int .i64 (.tm y), .own 2 n2, .own 3 n3]), (2, .row e2 [.int .i64] m2 pl), (3, .row e3 [.int .i64] m3 pa), (4, .row e4 [.bool] m4 se)], 5, [],
     ⟨[(6, .one (.bool (.at_ false (.tm (gv F k i.toNat ⟨pl, pa, se⟩).1))))], [(1, .cells e1 s1 [.fz (.root 0 0) (.list [.str, .list [.int .i64]] np F), .int .i64 (.tm y), .own 2 n2, .own 3 n3]), (2, .row e2 [.int .i64] m2 (gv F k i.toNat ⟨pl, pa, se⟩).2.pl), (3, .row e3 [.int .i64] m3 (gv F k i.toNat ⟨pl, pa, se⟩).2.pa), (4, .row e4 [.bool] m4 (gv F k i.toNat ⟨pl, pa, se⟩).2.se)], 5, .one (.bool (.at_ false (.tm (gv F k i.toNat ⟨pl, pa, se⟩).1)))⟩,
     vU (gK np F n4 ⟨pl, pa, se⟩ k i) && (Nat.beq n2 np && (Nat.beq m2 np && (Nat.beq n3 n4 && (Nat.beq m3 n4 && Nat.beq m4 n4))))⟩
   | _, _, _ => none
  | _, _, _ => none
 | _ => none
def WN (k : Nat) : G2 := G2.setE gs0 95 (wrG (zK k))
def Q3 (i : Int) (q : Nat) : List Sv := [.one (.ptr (some (1, 0))), .one (.int .i64 (.tm i)), .one (.own 4 q)]
def E5 (np : Nat) (F : Nat → Nat → FD) (y : Int) (q e1 s1 e2 e3 e4 : Nat) (s : LS) : List (Nat × Blk) :=
 [(1, .cells e1 s1 [.fz (.root 0 0) (.list [.str, .list [.int .i64]] np F), .int .i64 (.tm y), .own 2 np, .own 3 q]), (2, .row e2 [.int .i64] np s.pl), (3, .row e3 [.int .i64] q s.pa), (4, .row e4 [.bool] q s.se)]
def Q4 (np : Nat) (F : Nat → Nat → FD) (i : Int) (y : Int) (q e1 s1 e2 e3 e4 k : Nat) (s : LS) : Nat → b9 := aZ fun
 | 2 => [⟨Nat × LS, fun x => x.1 ≤ (F i.toNat 1).ln ∧ gvL (gv F k) (F i.toNat 1).fn i.toNat ((F i.toNat 1).ln - x.1) x.1 x.2 = gv F (k + 1) i.toNat s ∧ (∀ p, p < q → (x.2.pa p 0).i < np) ∧ cB x.2 q ≤ cB s q, fun x => (F i.toNat 1).ln - x.1, fun x =>
   [(0, .one (.ptr (some (1, 0)))), (1, .one (.int .i64 (.tm i))), (2, .one (.own 4 q)), (6, .one (.bool (.lit false))), (17, .one (.fz (.elem (.root 0 0) (i.toNat * 2 + 1)) (.list [.int .i64] (F i.toNat 1).ln (F i.toNat 1).fn))), (18, .one (.int .i64 (.tm (Int.ofNat (F i.toNat 1).ln)))), (19, .one (.int .i64 (.tm (Int.ofNat x.1))))],
   fun x => E5 np F y q e1 s1 e2 e3 e4 x.2, 5⟩]
 | _ => []
def T4 (np : Nat) (F : Nat → Nat → FD) (y : Int) (q e1 s1 e2 e3 e4 : Nat) (r : Bool × LS) : jY := ⟨[(6, .one (.bool (.at_ false (.tm r.1))))], E5 np F y q e1 s1 e2 e3 e4 r.2, 5, .one (.bool (.at_ false (.tm r.1)))⟩
theorem tZ (s t : LS) : ∀ {q : Nat}, (∀ p, p < q → (s.se p 0).b = true → (t.se p 0).b = true) → cB t q ≤ cB s q
 | 0, _ => Nat.le_refl _
 | q + 1, h => by
  have ih := tZ s t (q := q) fun p hp => h p (by omega)
  simp only [cB]
  have := h q (by omega)
  split <;> split <;> first | omega | (rename_i h1 h2; exact absurd (this h2) h1)
theorem NC (s : LS) (p x : Nat) : ((s.see p).se x 0).b = if x = p then true else (s.se x 0).b := by
 show (j3 s.se p 0 (.bool true) x 0).b = _
 unfold j3
 by_cases h : x = p
 ·subst h; simp [FD.b]
 ·simp [eS, h]
theorem qR {s : LS} {p : Nat} : ∀ {q : Nat}, p < q → (s.se p 0).b = false → cB (s.see p) q + 1 = cB s q
 | q + 1, hp, h => by
  simp only [cB, NC]
  by_cases e : q = p
  ·subst e
   have : ∀ r, r ≤ q → cB (s.see q) r = cB s r := by
    intro r
    induction r with
    | zero => intro _; rfl
    | succ r ih =>
     intro hr
     simp only [cB, NC, if_neg (show r ≠ q by omega), ih (by omega)]
   rw [this q (Nat.le_refl _), if_pos rfl, h]
   simp
  ·have := qR (q := q) (by omega) h
   rw [if_neg e]
   omega
/-- What a walk leaves as it was. -/
structure lT (np q : Nat) (s t : LS) : Prop where
 pa : (∀ p, p < q → (s.pa p 0).i < np) → ∀ p, p < q → (t.pa p 0).i < np
 se : ∀ p, (s.se p 0).b = true → (t.se p 0).b = true
theorem lT.refl {np q : Nat} (s : LS) : lT np q s s := ⟨fun h => h, fun _ h => h⟩
theorem lT.trans {np q : Nat} {s t u : LS} (h : lT np q s t) (k : lT np q t u) : lT np q s u := ⟨fun x => k.pa (h.pa x), fun p x => k.se p (h.se p x)⟩
theorem lT.see {np q : Nat} (s : LS) (p : Nat) : lT np q s (s.see p) := ⟨fun h => h, fun x h => by rw [NC]; split <;> first | rfl | exact h⟩
theorem lT.put {np q i : Nat} (s : LS) (p : Int) (hi : i < np) : lT np q s (s.put i p) := ⟨fun h x hx => by
 show (j3 s.pa p.toNat 0 (.int .i64 i) x 0).i < np
 unfold j3
 by_cases e : x = p.toNat
 ·subst e; simp [FD.i]; omega
 ·simp only [eS, e, decide_false, Bool.false_and, cond_false]; exact h x hx, fun _ h => h⟩
theorem zL {np q i : Nat} {rec : Nat → LS → Bool × LS} {fit : Nat → Nat → FD} (hi : i < np) (hr : ∀ (j : Nat) (s : LS), j < np → (∀ p, p < q → (s.pa p 0).i < (np : Int)) → lT np q s (rec j s).2) : ∀ (n x : Nat) (s : LS), (∀ p, p < q → (s.pa p 0).i < np) → (∀ y, x ≤ y → y < x + n → 0 ≤ (fit y 0).i ∧ (fit y 0).i < q) → lT np q s (gvL rec fit i n x s).2
 | 0, _, s, _, _ => lT.refl s
 | n + 1, x, s, hs, hf => by
  simp only [gvL]
  have hfx := hf x (Nat.le_refl _) (by omega)
  have hp : (fit x 0).i.toNat < q := by omega
  split
  ·exact zL hi hr n (x + 1) s hs fun y h1 h2 => hf y (by omega) (by omega)
  ·split
   ·exact (lT.see s _).trans (lT.put _ _ hi)
   ·rename_i h2
    have hpa : ((s.see (fit x 0).i.toNat).pa (fit x 0).i.toNat 0).i < np := hs _ hp
    have hk := hr ((s.see (fit x 0).i.toNat).pa (fit x 0).i.toNat 0).i.toNat (s.see (fit x 0).i.toNat) (by omega) hs
    have hk := (lT.see (np := np) (q := q) s (fit x 0).i.toNat).trans hk
    split
    ·exact hk.trans (lT.put _ _ hi)
    ·exact hk.trans (zL hi hr n (x + 1) _ (hk.pa hs) fun y h1 h2 => hf y (by omega) (by omega))
theorem E6 {np q : Nat} {F : Nat → Nat → FD} (hF : ∀ j, j < np → (F j 1).ln ≤ 1000 ∧ ∀ x, x < (F j 1).ln → 0 ≤ ((F j 1).fn x 0).i ∧ ((F j 1).fn x 0).i < q) : ∀ (k i : Nat) (s : LS), i < np → (∀ p, p < q → (s.pa p 0).i < np) → lT np q s (gv F k i s).2
 | 0, _, s, _, _ => lT.refl s
 | k + 1, i, s, hi, hs => zL hi (fun j t hj ht => E6 hF k j t hj ht) _ _ s hs fun y _ h2 => (hF i hi).2 y (by omega)
end
end Go.Ex

