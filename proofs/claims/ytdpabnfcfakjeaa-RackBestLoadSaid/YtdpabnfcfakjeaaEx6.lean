/-
 The executor's binary and unary operations, and conversions.
-/
import Derived.Test.YtdpabnfcfakjeaaEx3a
import Derived.Laws.Pointers

namespace Go.Ex
open Go Go.RowKit
noncomputable section

def wO : BinOp → Bool
 | .add | .sub | .mul | .quo | .rem => true
 | _ => false
def U1 (C : Cx) (pc : PC) (op : BinOp) (k : IntKind) (a b : Ix) : Option Ix :=
 match iop op k a b with
 | some z => some z
 | none => match k with
  | .i64 => C.ih pc op a b
  | _ => none

theorem P7 {C : Cx} {P : Program} {η : Env} (hC : C.Ok P η) {op : BinOp} {k : IntKind} {x y z : Ix} {pc : PC} (hpc : pc.holds η) (w : World) (t : TypeId) (h : U1 C pc op k x y = some z) :
  (binOp op t (.int k (x.den η)) (.int k (y.den η))).run P w = .ok (.int k (z.den η)) w := by
 unfold U1 at h
 split at h
 ·rename_i z' hz; cases h; exact SQ w t hz
 ·split at h
  ·exact hC.ih pc op x y z h hpc t w
  ·cases h

def D9 (C : Cx) (op : BinOp) (k : FloatKind) (x y : Fx) (pc : PC) : Option Bx :=
 match x, y with
 | .lit a, .lit b => match op with
  | .eql => some (.lit (k.format.order a b == some .eq))
  | .neq => some (.lit (k.format.order a b != some .eq))
  | .lss => some (.lit (k.format.order a b == some .lt))
  | .leq => some (.lit (k.format.order a b == some .lt || k.format.order a b == some .eq))
  | .gtr => some (.lit (k.format.order a b == some .gt))
  | .geq => some (.lit (k.format.order a b == some .gt || k.format.order a b == some .eq))
  | _ => none
 | x, y => match k with
  | .f64 => C.fh pc op x y
  | .f32 => none
theorem G3 {C : Cx} {P : Program} {η : Env} (hC : C.Ok P η) {op : BinOp} {k : FloatKind} {x y : Fx} {b : Bx} {pc : PC} (hpc : pc.holds η) (w : World) (t : TypeId) (h : D9 C op k x y pc = some b) :
  (binOp op t (.float k (x.den η)) (.float k (y.den η))).run P w = .ok (.bool (b.den η)) w := by
 unfold D9 at h
 split at h
 ·split at h <;> first | (cases h; simp [binOp, Op.floatCmp, Fx.den, Bx.den]; done) | cases h
 ·split at h
  ·exact hC.fh pc op x y b h hpc t w
  ·cases h

def P8 (C : Cx) (op : BinOp) (k : FloatKind) (x y : Fx) (pc : PC) : Option Fx :=
 match x, y with
 | .lit a, .lit b => (floatBits op k a b).map .lit
 | x, y => match k with
  | .f64 => C.fa pc op x y
  | .f32 => none
theorem OI {C : Cx} {P : Program} {η : Env} (hC : C.Ok P η) {op : BinOp} {k : FloatKind} {x y z : Fx} {pc : PC} (hpc : pc.holds η) (w : World) (t : TypeId) (h : P8 C op k x y pc = some z) :
  (binOp op t (.float k (x.den η)) (.float k (y.den η))).run P w = .ok (.float k (z.den η)) w := by
 unfold P8 at h
 split at h
 ·rename_i a b
  cases hb : floatBits op k a b with
  | none => rw [hb] at h; cases h
  | some r => rw [hb] at h; cases h; exact run_float_arith w op t k a b r hb
 ·split at h
  ·exact hC.fa pc op x y z h hpc t w
  ·cases h

def T0 (C : Cx) (op : BinOp) (k : FloatKind) (a b c d : Fx) (pc : PC) : Option (Fx × Fx) :=
 match k with
 | .f64 => C.ch pc op a b c d
 | .f32 => none

/-- A quotient or a remainder of numbers that are terms. -/
def U2 (op : BinOp) (a b : Ix) : Option (Int × Int) :=
 match op with
 | .quo | .rem => match a, b with
  | .tm x, .tm y => some (x, y)
  | .tm x, .lit y => some (x, y)
  | .lit x, .tm y => some (x, y)
  | _, _ => none
 | _ => none
theorem OJ {op : BinOp} {a b : Ix} {x y : Int} (h : U2 op a b = some (x, y)) : (op = .quo ∨ op = .rem) ∧ gQ a = some x ∧ gQ b = some y := by
 unfold U2 at h
 split at h
 ·refine ⟨.inl rfl, ?_⟩
  split at h <;> first | (cases h; exact ⟨rfl, rfl⟩) | cases h
 ·refine ⟨.inr rfl, ?_⟩
  split at h <;> first | (cases h; exact ⟨rfl, rfl⟩) | cases h
 ·cases h

/-! ## Bits -/
def mkA (a : Ix) (v : Int) : Ix :=
 match a with
 | .lit _ => .lit v
 | _ => .tm v
theorem EB (η : Env) (a : Ix) (v : Int) : (mkA a v).den η = v := by cases a <;> rfl
def U3 (a b : Ix) (v : Int) : Ix :=
 match a with
 | .lit _ => mkA b v
 | _ => .tm v
theorem G4 (η : Env) (a b : Ix) (v : Int) : (U3 a b v).den η = v := by cases a <;> first | rfl | exact EB η b v
def XD (k : IntKind) (x n : Int) : Int := x.fdiv (2 ^ (min n.toNat k.bits))
def XE (k : IntKind) (x n : Int) : Int := k.wrap (x * 2 ^ (min n.toNat k.bits))
def XF (k : IntKind) (x y : Int) : Int := k.wrap (BitVec.ofInt k.bits x &&& BitVec.ofInt k.bits y).toNat
def orI (k : IntKind) (x y : Int) : Int := k.wrap (BitVec.ofInt k.bits x ||| BitVec.ofInt k.bits y).toNat
def shX (op : BinOp) (k : IntKind) (a b : Ix) : Option Ix :=
 match op, b, gQ a with
 | .shr, .lit (.ofNat n), some x => some (mkA a (XD k x n))
 | .shl, .lit (.ofNat n), some x => some (mkA a (XE k x n))
 | _, _, _ => none
def U4 (op : BinOp) (k : IntKind) (a b : Ix) : Option Ix :=
 match op, gQ a, gQ b with
 | .and, some x, some y => some (U3 a b (XF k x y))
 | .or, some x, some y => some (U3 a b (orI k x y))
 | _, _, _ => none
def U5 (C : Cx) (op : BinOp) (t : TypeId) (x y : Sv) (pc : PC) : aA (Sv × PC) :=
 match x, y with
 | .one (.int k a), .one (.int k' b) => match shX op k a b with
  | some z => .leaf (.one (.int k z), pc)
  | none => bif decide (k = k') then
   match U2 op a b with
   | some (x, y) => chk (!decide (y = 0)) (.leaf (.one (.int k (.tm (match op with | .quo => k.wrap (x.tdiv y) | _ => x.tmod y))), pc))
   | none => match U4 op k a b with
    | some z => .leaf (.one (.int k z), pc)
    | none => (bif wO op then fG (U1 C pc op k a b) fun z => .leaf (.one (.int k z), pc) else D8 C op k a b pc)
   else .fail
 | .one (.bool a), .one (.bool b) => match C.tt.get t with
  | some ti => match ti.d, op with
   | .bool, .eql => dE C.D pc a fun s pc => .leaf (.one (.bool (bif s then b else b.not)), pc)
   | .bool, .neq => dE C.D pc a fun s pc => .leaf (.one (.bool (bif s then b.not else b)), pc)
   | _, _ => .fail
  | none => .fail
 | .one (.flt k a), .one (.flt k' b) => bif decide (k = k') then
   (bif wO op then fG (P8 C op k a b pc) fun z => .leaf (.one (.flt k z), pc) else fG (D9 C op k a b pc) fun b => .leaf (.one (.bool b), pc)) else .fail
 | .one (.cpx k a b), .one (.cpx k' c d) => bif decide (k = k') then
   (match op with
   | .eql => fG (sB C k a c pc) fun e => dE C.D pc e fun s pc => match s with
    | true => fG (sB C k b d pc) fun e => .leaf (.one (.bool e), pc)
    | false => .leaf (.one (.bool (.lit false)), pc)
   | .neq => fG (sB C k a c pc) fun e => dE C.D pc e fun s pc => match s with
    | true => fG (sB C k b d pc) fun e => .leaf (.one (.bool e.not), pc)
    | false => .leaf (.one (.bool (.lit true)), pc)
   | op => fG (T0 C op k a b c d pc) fun r => .leaf (.one (.cpx k r.1 r.2), pc)) else .fail
 | .one (.ostr a), .one (.str b) => match op with
  | .eql => .leaf (.one (.bool (tb (b8 a b))), pc)
  | .neq => .leaf (.one (.bool (tb (!(b8 a b)))), pc)
  | .add => chk (Nat.blt (a.length + b.length) 1000000) (.leaf (.one (.ostr (a ++ b)), pc))
  | _ => .fail
 | .one (.str a), .one (.ostr b) => match op with
  | .eql => .leaf (.one (.bool (tb (b8 a b))), pc)
  | .neq => .leaf (.one (.bool (tb (!(b8 a b)))), pc)
  | .add => chk (Nat.blt (a.length + b.length) 1000000) (.leaf (.one (.ostr (a ++ b)), pc))
  | _ => .fail
 | .one (.ostr a), .one (.ostr b) => match op with
  | .eql => .leaf (.one (.bool (tb (b8 a b))), pc)
  | .neq => .leaf (.one (.bool (tb (!(b8 a b)))), pc)
  | .add => chk (Nat.blt (a.length + b.length) 1000000) (.leaf (.one (.ostr (a ++ b)), pc))
  | _ => .fail
 | .one (.str a), .one (.str b) => match op with
  | .eql => .leaf (.one (.bool (.lit (b8 a b))), pc)
  | .neq => .leaf (.one (.bool (.lit (!(b8 a b)))), pc)
  | .add => bif Nat.blt (a.length + b.length) 1000000 then .leaf (.one (.str (a ++ b)), pc) else .fail
  | _ => .fail
 | .agg xs, .agg ys => match C.tt.get t with
  | some ti => match ti.eqs with
   | some ks => bif iJ ks xs ys then (match op with
    | .eql => (eqL C ks xs ys pc).bind fun r => .leaf (.one (.bool (.lit r.1)), r.2)
    | .neq => (eqL C ks xs ys pc).bind fun r => .leaf (.one (.bool (.lit (!r.1))), r.2)
    | _ => .fail) else .fail
   | none => .fail
  | none => .fail
 | _, _ => .fail

theorem bF {P : Program} {w : World} {op : BinOp} {t : TypeId} {xo yo : Operand} {a b v : Value} (hg : (eqGuard op t xo yo a b).run P w = .ok () w) (h : (binOp op t a b).run P w = .ok v w) :
  (do eqGuard op t xo yo a b; binOp op t a b : Sem Value).run P w = .ok v w := by
 rw [Sem.run_bind, hg]; exact h

theorem kJ {P : Program} (w : World) (k : FloatKind) (a b : Nat) : (Op.Complex.cmp .eql k a b).run P w = .ok (Op.floatEq k a b) w := by
 simp [Op.Complex.cmp, Op.floatCmp, asBool, Op.floatEq]

theorem ST {η : Env} {P : Program} {op : BinOp} {k k' : IntKind} {a b z : Ix} (t : TypeId) (h : shX op k a b = some z) (xo yo : Operand) (w : World) :
  (do eqGuard op t xo yo (.int k (a.den η)) (.int k' (b.den η)); binOp op t (.int k (a.den η)) (.int k' (b.den η)) : Sem Value).run P w = .ok (.int k (z.den η)) w := by
 have hg := bH (P := P) w op t xo yo (.int k (a.den η)) (.int k' (b.den η)) (fun h => by cases h.1) (fun _ _ h => by cases h.1)
 refine bF hg ?_
 unfold shX at h
 split at h <;> first | (cases h; done) | skip
 ·rename_i n x hx
  cases h
  rw [EB, cH hx]
  simp [binOp, Op.shift, Ix.den, XD, show ¬ ((n : Int) < 0) by omega]
 ·rename_i n x hx
  cases h
  rw [EB, cH hx]
  simp [binOp, Op.shift, Ix.den, XE, show ¬ ((n : Int) < 0) by omega]
theorem P9 {η : Env} {P : Program} {op : BinOp} {k : IntKind} {a b z : Ix} (t : TypeId) (h : U4 op k a b = some z) (w : World) : (binOp op t (.int k (a.den η)) (.int k (b.den η))).run P w = .ok (.int k (z.den η)) w := by
 unfold U4 at h
 split at h <;> first | (cases h; done) | skip
 ·rename_i x y hx hy
  cases h
  rw [G4, cH hx, cH hy]
  simp [binOp, Op.intBits, XF]
 ·rename_i x y hx hy
  cases h
  rw [G4, cH hx, cH hy]
  simp [binOp, Op.intBits, orI]
theorem QA {C : Cx} {P : Program} {η : Env} {E : Emb} (hC : C.Ok P η) {op : BinOp} {t : TypeId} {x y sv : Sv} {pc pc' : PC} (hpc : pc.holds η) (h : (U5 C op t x y pc).at_ η = some (sv, pc'))
  {va vb : Value} (hx : x.den η E = some va) (hy : y.den η E = some vb) (xo yo : Operand) :
  pc'.holds η ∧ ∃ v, sv.den η E = some v ∧ ∀ w, (do eqGuard op t xo yo va vb; binOp op t va vb : Sem Value).run P w = .ok v w := by
 unfold U5 at h
 split at h
 ·-- ints
  rename_i k a k' b
  simp only [Sv.den, Sc.den, Option.some.injEq] at hx hy
  subst hx; subst hy
  split at h
  ·rename_i z hz
   simp only [aA.at_, Option.some.injEq, Prod.mk.injEq] at h
   obtain ⟨rfl, rfl⟩ := h
   exact ⟨hpc, _, rfl, fun w => ST t hz xo yo w⟩
  by_cases hk : k = k'
  ·subst hk
   simp only [decide_true, cond_true] at h
   have hg : ∀ w, (eqGuard op t xo yo (.int k (a.den η)) (.int k (b.den η))).run P w = .ok () w := fun w => bH w op t xo yo _ _ (fun h => by cases h.1) (fun _ _ h => by cases h.1)
   split at h
   ·rename_i x y hd
    obtain ⟨hop, hx, hy⟩ := OJ hd
    obtain ⟨hy0, h⟩ := fF h
    ·have hy0 : y ≠ 0 := by simpa using hy0
     simp only [aA.at_, Option.some.injEq, Prod.mk.injEq] at h
     obtain ⟨rfl, rfl⟩ := h
     rw [cH hx, cH hy] at hg ⊢
     refine ⟨hpc, _, rfl, fun w => bF (hg w) ?_⟩
     rcases hop with rfl | rfl
     ·simp [binOp, Op.intDiv, Ix.den, hy0]
     ·simp [binOp, Op.intDiv, Ix.den, hy0]
   split at h
   ·rename_i z hz
    simp only [aA.at_, Option.some.injEq, Prod.mk.injEq] at h
    obtain ⟨rfl, rfl⟩ := h
    exact ⟨hpc, _, rfl, fun w => bF (hg w) (P9 t hz w)⟩
   cases ha : wO op with
   | true =>
    rw [ha] at h
    obtain ⟨z, h1, h2⟩ := cU h
    simp only [aA.at_, Option.some.injEq, Prod.mk.injEq] at h2
    obtain ⟨rfl, rfl⟩ := h2
    exact ⟨hpc, _, rfl, fun w => bF (hg w) (P7 hC hpc w t h1)⟩
   | false =>
    rw [ha] at h
    obtain ⟨h1, bx, rfl, h2⟩ := G1 hC hpc h
    exact ⟨h1, _, rfl, fun w => bF (hg w) (h2 w t)⟩
  ·simp [hk, aA.at_] at h
 ·-- bools
  rename_i a b
  simp only [Sv.den, Sc.den, Option.some.injEq] at hx hy
  subst hx; subst hy
  split at h
  ·rename_i ti hti
   have hu := (hC.tt t ti hti).und
   split at h
   ·rename_i hd
    rw [hd] at hu
    obtain ⟨pc1, hp1, h1⟩ := bD hC.D hpc h
    simp only [aA.at_, Option.some.injEq, Prod.mk.injEq] at h1
    obtain ⟨rfl, rfl⟩ := h1
    refine ⟨hp1, _, rfl, fun w => bF (bH w _ t xo yo _ _ (fun h => by cases h.1) (fun _ _ h => by cases h.1)) ?_⟩
    rw [run_eql_bool w t _ _ hu]
    cases ha : a.den η <;> simp [Bx.den_not]
   ·rename_i hd
    rw [hd] at hu
    obtain ⟨pc1, hp1, h1⟩ := bD hC.D hpc h
    simp only [aA.at_, Option.some.injEq, Prod.mk.injEq] at h1
    obtain ⟨rfl, rfl⟩ := h1
    refine ⟨hp1, _, rfl, fun w => bF (bH w _ t xo yo _ _ (fun h => by cases h.1) (fun _ _ h => by cases h.1)) ?_⟩
    rw [run_neq_bool w t _ _ hu]
    cases ha : a.den η <;> simp [Bx.den_not]
   ·cases h
  ·cases h
 ·-- floats
  rename_i k a k' b
  simp only [Sv.den, Sc.den, Option.some.injEq] at hx hy
  subst hx; subst hy
  by_cases hk : k = k'
  ·subst hk
   simp only [decide_true, cond_true] at h
   have hg : ∀ w, (eqGuard op t xo yo (.float k (a.den η)) (.float k (b.den η))).run P w = .ok () w := fun w => bH w op t xo yo _ _ (fun h => by cases h.1) (fun _ _ h => by cases h.1)
   cases ha : wO op with
   | true =>
    rw [ha] at h
    obtain ⟨z, h1, h2⟩ := cU h
    simp only [aA.at_, Option.some.injEq, Prod.mk.injEq] at h2
    obtain ⟨rfl, rfl⟩ := h2
    exact ⟨hpc, _, rfl, fun w => bF (hg w) (OI hC hpc w t h1)⟩
   | false =>
    rw [ha] at h
    obtain ⟨z, h1, h2⟩ := cU h
    simp only [aA.at_, Option.some.injEq, Prod.mk.injEq] at h2
    obtain ⟨rfl, rfl⟩ := h2
    exact ⟨hpc, _, rfl, fun w => bF (hg w) (G3 hC hpc w t h1)⟩
  ·simp [hk, aA.at_] at h
 ·-- complex
  rename_i k a b k' c d
  simp only [Sv.den, Sc.den, Option.some.injEq] at hx hy
  subst hx; subst hy
  by_cases hk : k = k'
  ·subst hk
   simp only [decide_true, cond_true] at h
   have hg : ∀ w, (eqGuard op t xo yo (.complex k (a.den η) (b.den η)) (.complex k (c.den η) (d.den η))).run P w = .ok () w := fun w => bH w op t xo yo _ _ (fun h => by cases h.1) (fun _ _ h => by cases h.1)
   split at h
   ·obtain ⟨e, h1, h2⟩ := cU h
    obtain ⟨pc1, hp1, h3⟩ := bD hC.D hpc h2
    split at h3
    ·rename_i hs
     obtain ⟨e2, h4, h5⟩ := cU h3
     simp only [aA.at_, Option.some.injEq, Prod.mk.injEq] at h5
     obtain ⟨rfl, rfl⟩ := h5
     refine ⟨hp1, _, rfl, fun w => bF (hg w) ?_⟩
     have e1 := fB hC hpc w h1
     have e3 := fB hC hp1 w h4
     rw [hs] at e1
     simp [binOp, Op.complexOp, kJ, ← e1, ← e3]
    ·rename_i hs
     simp only [aA.at_, Option.some.injEq, Prod.mk.injEq] at h3
     obtain ⟨rfl, rfl⟩ := h3
     refine ⟨hp1, _, rfl, fun w => bF (hg w) ?_⟩
     have e1 := fB hC hpc w h1
     rw [hs] at e1
     simp [binOp, Op.complexOp, kJ, ← e1, Bx.den]
   ·obtain ⟨e, h1, h2⟩ := cU h
    obtain ⟨pc1, hp1, h3⟩ := bD hC.D hpc h2
    split at h3
    ·rename_i hs
     obtain ⟨e2, h4, h5⟩ := cU h3
     simp only [aA.at_, Option.some.injEq, Prod.mk.injEq] at h5
     obtain ⟨rfl, rfl⟩ := h5
     refine ⟨hp1, _, rfl, fun w => bF (hg w) ?_⟩
     have e1 := fB hC hpc w h1
     have e3 := fB hC hp1 w h4
     rw [hs] at e1
     simp [binOp, Op.complexOp, kJ, ← e1, ← e3, Bx.den_not]
    ·rename_i hs
     simp only [aA.at_, Option.some.injEq, Prod.mk.injEq] at h3
     obtain ⟨rfl, rfl⟩ := h3
     refine ⟨hp1, _, rfl, fun w => bF (hg w) ?_⟩
     have e1 := fB hC hpc w h1
     rw [hs] at e1
     simp [binOp, Op.complexOp, kJ, ← e1, Bx.den]
   ·obtain ⟨r, h1, h2⟩ := cU h
    simp only [aA.at_, Option.some.injEq, Prod.mk.injEq] at h2
    obtain ⟨rfl, rfl⟩ := h2
    refine ⟨hpc, _, rfl, fun w => bF (hg w) ?_⟩
    unfold T0 at h1
    split at h1
    ·exact hC.ch pc _ a b c d r h1 hpc t w
    ·cases h1
  ·simp [hk, aA.at_] at h
 ·-- open strings
  rename_i a b
  simp only [Sv.den, Sc.den, Option.some.injEq] at hx hy
  subst hx; subst hy
  have hg : ∀ w, (eqGuard op t xo yo (.string ⟨a.toArray⟩) (.string ⟨b.toArray⟩)).run P w = .ok () w := fun w => bH w op t xo yo _ _ (fun h => by cases h.1) (fun _ _ h => by cases h.1)
  split at h
  ·simp only [aA.at_, Option.some.injEq, Prod.mk.injEq] at h
   obtain ⟨rfl, rfl⟩ := h
   exact ⟨hpc, _, rfl, fun w => bF (hg w) (by rw [dM]; simp [binOp, Op.stringOp, bX])⟩
  ·simp only [aA.at_, Option.some.injEq, Prod.mk.injEq] at h
   obtain ⟨rfl, rfl⟩ := h
   exact ⟨hpc, _, rfl, fun w => bF (hg w) (by rw [dM]; simp [binOp, Op.stringOp, bX])⟩
  ·obtain ⟨hl, h⟩ := fF h
   ·simp only [aA.at_, Option.some.injEq, Prod.mk.injEq] at h
    obtain ⟨rfl, rfl⟩ := h
    have hlt := Nat.le_of_ble_eq_true hl
    refine ⟨hpc, _, rfl, fun w => bF (hg w) ?_⟩
    have hn : ¬ ((((⟨a.toArray⟩ : ByteArray).size + (⟨b.toArray⟩ : ByteArray).size : Nat) : Int) > IntKind.i64.max) := by
     have e1 : (⟨a.toArray⟩ : ByteArray).size = a.length := by simp [ByteArray.size]
     have e2 : (⟨b.toArray⟩ : ByteArray).size = b.length := by simp [ByteArray.size]
     have e3 : IntKind.i64.max = 9223372036854775807 := by decide
     rw [e1, e2, e3]; omega
    simp only [binOp, Op.stringOp, if_neg hn, Sem.run_pure]
    congr 2
  ·cases h
 ·-- open strings
  rename_i a b
  simp only [Sv.den, Sc.den, Option.some.injEq] at hx hy
  subst hx; subst hy
  have hg : ∀ w, (eqGuard op t xo yo (.string ⟨a.toArray⟩) (.string ⟨b.toArray⟩)).run P w = .ok () w := fun w => bH w op t xo yo _ _ (fun h => by cases h.1) (fun _ _ h => by cases h.1)
  split at h
  ·simp only [aA.at_, Option.some.injEq, Prod.mk.injEq] at h
   obtain ⟨rfl, rfl⟩ := h
   exact ⟨hpc, _, rfl, fun w => bF (hg w) (by rw [dM]; simp [binOp, Op.stringOp, bX])⟩
  ·simp only [aA.at_, Option.some.injEq, Prod.mk.injEq] at h
   obtain ⟨rfl, rfl⟩ := h
   exact ⟨hpc, _, rfl, fun w => bF (hg w) (by rw [dM]; simp [binOp, Op.stringOp, bX])⟩
  ·obtain ⟨hl, h⟩ := fF h
   ·simp only [aA.at_, Option.some.injEq, Prod.mk.injEq] at h
    obtain ⟨rfl, rfl⟩ := h
    have hlt := Nat.le_of_ble_eq_true hl
    refine ⟨hpc, _, rfl, fun w => bF (hg w) ?_⟩
    have hn : ¬ ((((⟨a.toArray⟩ : ByteArray).size + (⟨b.toArray⟩ : ByteArray).size : Nat) : Int) > IntKind.i64.max) := by
     have e1 : (⟨a.toArray⟩ : ByteArray).size = a.length := by simp [ByteArray.size]
     have e2 : (⟨b.toArray⟩ : ByteArray).size = b.length := by simp [ByteArray.size]
     have e3 : IntKind.i64.max = 9223372036854775807 := by decide
     rw [e1, e2, e3]; omega
    simp only [binOp, Op.stringOp, if_neg hn, Sem.run_pure]
    congr 2
  ·cases h
 ·-- open strings
  rename_i a b
  simp only [Sv.den, Sc.den, Option.some.injEq] at hx hy
  subst hx; subst hy
  have hg : ∀ w, (eqGuard op t xo yo (.string ⟨a.toArray⟩) (.string ⟨b.toArray⟩)).run P w = .ok () w := fun w => bH w op t xo yo _ _ (fun h => by cases h.1) (fun _ _ h => by cases h.1)
  split at h
  ·simp only [aA.at_, Option.some.injEq, Prod.mk.injEq] at h
   obtain ⟨rfl, rfl⟩ := h
   exact ⟨hpc, _, rfl, fun w => bF (hg w) (by rw [dM]; simp [binOp, Op.stringOp, bX])⟩
  ·simp only [aA.at_, Option.some.injEq, Prod.mk.injEq] at h
   obtain ⟨rfl, rfl⟩ := h
   exact ⟨hpc, _, rfl, fun w => bF (hg w) (by rw [dM]; simp [binOp, Op.stringOp, bX])⟩
  ·obtain ⟨hl, h⟩ := fF h
   ·simp only [aA.at_, Option.some.injEq, Prod.mk.injEq] at h
    obtain ⟨rfl, rfl⟩ := h
    have hlt := Nat.le_of_ble_eq_true hl
    refine ⟨hpc, _, rfl, fun w => bF (hg w) ?_⟩
    have hn : ¬ ((((⟨a.toArray⟩ : ByteArray).size + (⟨b.toArray⟩ : ByteArray).size : Nat) : Int) > IntKind.i64.max) := by
     have e1 : (⟨a.toArray⟩ : ByteArray).size = a.length := by simp [ByteArray.size]
     have e2 : (⟨b.toArray⟩ : ByteArray).size = b.length := by simp [ByteArray.size]
     have e3 : IntKind.i64.max = 9223372036854775807 := by decide
     rw [e1, e2, e3]; omega
    simp only [binOp, Op.stringOp, if_neg hn, Sem.run_pure]
    congr 2
  ·cases h
 ·-- strings
  rename_i a b
  simp only [Sv.den, Sc.den, Option.some.injEq] at hx hy
  subst hx; subst hy
  have hg : ∀ w, (eqGuard op t xo yo (.string ⟨a.toArray⟩) (.string ⟨b.toArray⟩)).run P w = .ok () w := fun w => bH w op t xo yo _ _ (fun h => by cases h.1) (fun _ _ h => by cases h.1)
  split at h
  ·simp only [aA.at_, Option.some.injEq, Prod.mk.injEq] at h
   obtain ⟨rfl, rfl⟩ := h
   exact ⟨hpc, _, rfl, fun w => bF (hg w) (by simp [binOp, Op.stringOp, Bx.den, bX])⟩
  ·simp only [aA.at_, Option.some.injEq, Prod.mk.injEq] at h
   obtain ⟨rfl, rfl⟩ := h
   exact ⟨hpc, _, rfl, fun w => bF (hg w) (by simp [binOp, Op.stringOp, Bx.den, bX])⟩
  ·cases hl : Nat.blt (a.length + b.length) 1000000 with
   | false => rw [hl] at h; cases h
   | true =>
    rw [hl] at h
    simp only [cond_true, aA.at_, Option.some.injEq, Prod.mk.injEq] at h
    obtain ⟨rfl, rfl⟩ := h
    have hlt := Nat.le_of_ble_eq_true hl
    refine ⟨hpc, _, rfl, fun w => bF (hg w) ?_⟩
    have hn : ¬ ((((⟨a.toArray⟩ : ByteArray).size + (⟨b.toArray⟩ : ByteArray).size : Nat) : Int) > IntKind.i64.max) := by
     have e1 : (⟨a.toArray⟩ : ByteArray).size = a.length := by simp [ByteArray.size]
     have e2 : (⟨b.toArray⟩ : ByteArray).size = b.length := by simp [ByteArray.size]
     have e3 : IntKind.i64.max = 9223372036854775807 := by decide
     rw [e1, e2, e3]; omega
    simp only [binOp, Op.stringOp, if_neg hn, Sem.run_pure]
    congr 2
  ·cases h
 ·-- aggregates
  rename_i xs ys
  split at h
  ·rename_i ti hti
   split at h
   ·rename_i ks hks
    obtain ⟨hq1, hq2⟩ := (hC.tt t ti hti).eqs ks hks
    cases hk : iJ ks xs ys with
    | false => rw [hk] at h; cases h
    | true =>
     rw [hk] at h
     simp only [cond_true] at h
     simp only [Sv.den] at hx hy
     cases hvs : aL η E xs with
     | none => rw [hvs] at hx; cases hx
     | some vs =>
      cases hws : aL η E ys with
      | none => rw [hws] at hy; cases hy
      | some ws =>
       rw [hvs] at hx; rw [hws] at hy
       simp only [Option.map_some, Option.some.injEq] at hx hy
       subst hx; subst hy
       have hfit := OH ks xs ys vs ws hk hvs hws
       split at h
       ·obtain ⟨⟨r, pc1⟩, h1, h2⟩ := aA.at_bind h
        simp only [aA.at_, Option.some.injEq, Prod.mk.injEq] at h2
        obtain ⟨rfl, rfl⟩ := h2
        refine ⟨(wN hC default ks xs ys vs ws pc pc1 r h1 hpc hvs hws).1, _, rfl, fun w => bF (run_eqGuard_agg w _ t xo yo _ _ hq1) ?_⟩
        rw [run_eql_struct, hq2 vs ws w hfit, (wN hC w ks xs ys vs ws pc pc1 r h1 hpc hvs hws).2]; rfl
       ·obtain ⟨⟨r, pc1⟩, h1, h2⟩ := aA.at_bind h
        simp only [aA.at_, Option.some.injEq, Prod.mk.injEq] at h2
        obtain ⟨rfl, rfl⟩ := h2
        refine ⟨(wN hC default ks xs ys vs ws pc pc1 r h1 hpc hvs hws).1, _, rfl, fun w => bF (run_eqGuard_agg w _ t xo yo _ _ hq1) ?_⟩
        rw [run_neq_struct, hq2 vs ws w hfit, (wN hC w ks xs ys vs ws pc pc1 r h1 hpc hvs hws).2]; rfl
       ·cases h
   ·cases h
  ·cases h
 ·cases h

/-! ## Unary -/
def unX (op : UnOp) (x : Sv) : Option Sv :=
 match op, x with
 | .not, .one (.bool b) => some (.one (.bool b.not))
 | .neg, .one (.int k (.lit n)) => some (.one (.int k (.lit (pN k (0 - n)))))
 | .neg, .one (.int k (.tm n)) => some (.one (.int k (.tm (k.wrap (0 - n)))))
 | .neg, .one (.int .i64 (.poly p)) => some (.one (.int .i64 (mkI (BN p))))
 | .neg, .one (.flt k (.lit b)) => some (.one (.flt k (.lit (Op.negFloat k b))))
 | .neg, .one (.flt .f64 (.ofI p)) => some (.one (.flt .f64 (.neg p)))
 | .neg, .one (.cpx k (.lit a) (.lit b)) => some (.one (.cpx k (.lit (Op.negFloat k a)) (.lit (Op.negFloat k b))))
 | _, _ => none
theorem SU {P : Program} {η : Env} {E : Emb} {op : UnOp} {x sv : Sv} {va : Value} (h : unX op x = some sv) (hx : x.den η E = some va) :
  ∃ v, sv.den η E = some v ∧ ∀ w, (Op.unary op va).run P w = .ok v w := by
 unfold unX at h
 split at h
 ·cases h; cases hx; exact ⟨_, rfl, fun w => by simp [Op.unary, Bx.den_not]⟩
 ·cases h; cases hx; exact ⟨_, rfl, fun w => by simp [Op.unary, Op.intArith, Ix.den, iI]⟩
 ·cases h; cases hx; exact ⟨_, rfl, fun w => by simp [Op.unary, Op.intArith, Ix.den]⟩
 ·rename_i p
  cases h; cases hx
  refine ⟨_, rfl, fun w => ?_⟩
  rw [wL, jR]
  simp only [Op.unary, Op.intArith, Ix.den, Sem.run_pure]
  have e : IntKind.i64.wrap (0 - wr (evP η.i p)) = wr (-(evP η.i p)) := by
   rw [Int.zero_sub]; exact UR (evP η.i p)
  rw [e]
 ·cases h; cases hx; exact ⟨_, rfl, fun w => by simp [Op.unary, Fx.den]⟩
 ·cases h; cases hx; exact ⟨_, rfl, fun w => by simp [Op.unary, Fx.den]⟩
 ·cases h; cases hx; exact ⟨_, rfl, fun w => by simp [Op.unary, Fx.den]⟩
 ·cases h

/-! ## Conversions -/
def QB (C : Cx) (s d : TypeId) (x : Sv) (pc : PC) : Option Sv :=
 match C.tt.get s, C.tt.get d with
 | some si, some di => match si.d, di.d, x with
  | .int _, .int k, .one (.int _ (.lit n)) => some (.one (.int k (.lit (pN k n))))
  | .int _, .int k, .one (.int _ (.tm n)) => some (.one (.int k (.tm (k.wrap n))))
  | .int _, .int .i64, .one (.int .i64 (.poly p)) => some (.one (.int .i64 (.poly p)))
  | .int _, .float k, .one (.int _ (.lit n)) => some (.one (.flt k (.lit (k.nearest n))))
  | .int _, .float .f64, .one (.int .i64 (.poly p)) => some (.one (.flt .f64 (.ofI p)))
  | .float _, .int k, .one (.flt s (.lit b)) => match floatToIntVal s b k with
   | some n => some (.one (.int k (.lit n)))
   | none => none
  | .float _, .int .i64, .one (.flt .f64 f) => match C.f2i pc f with
   | some z => some (.one (.int .i64 z))
   | none => none
  | .float _, .float .f64, .one (.flt .f64 f) => some (.one (.flt .f64 f))
  | .string, .string, .one (.str l) => some (.one (.str l))
  | .string, .string, .one (.ostr l) => some (.one (.ostr l))
  | _, _, _ => none
 | _, _ => none

theorem OK {C : Cx} {P : Program} {η : Env} {E : Emb} (hC : C.Ok P η) {s d : TypeId} {x sv : Sv} {pc : PC} {va : Value} (hpc : pc.holds η) (h : QB C s d x pc = some sv) (hx : x.den η E = some va) :
  ∃ v, sv.den η E = some v ∧ ∀ w, (convert s d va).run P w = .ok v w := by
 unfold QB at h
 split at h
 ·rename_i si di hs hd
  have us := (hC.tt s si hs).und
  have ud := (hC.tt d di hd).und
  split at h
  ·rename_i e1 e2; rw [e1] at us; rw [e2] at ud
   cases h; cases hx
   exact ⟨_, rfl, fun w => by simp [convert, run_underlying us, run_underlying ud, Conv.intToInt, Ix.den, iI]⟩
  ·rename_i e1 e2; rw [e1] at us; rw [e2] at ud
   cases h; cases hx
   exact ⟨_, rfl, fun w => by simp [convert, run_underlying us, run_underlying ud, Conv.intToInt, Ix.den]⟩
  ·rename_i e1 e2; rw [e1] at us; rw [e2] at ud
   cases h; cases hx
   refine ⟨_, rfl, fun w => ?_⟩
   simp only [convert, Sem.run_bind, run_underlying us, run_underlying ud, Result.andThen_ok, Conv.intToInt, Sem.run_pure, Ix.den]
   rw [show IntKind.i64.wrap (wr (evP η.i _)) = wr (evP η.i _) from XB _]
  ·rename_i e1 e2; rw [e1] at us; rw [e2] at ud
   cases h; cases hx
   exact ⟨_, rfl, fun w => by simp [convert, run_underlying us, run_underlying ud, Conv.intToFloat, Ix.den, Fx.den]⟩
  ·rename_i e1 e2; rw [e1] at us; rw [e2] at ud
   cases h; cases hx
   exact ⟨_, rfl, fun w => by simp [convert, run_underlying us, run_underlying ud, Conv.intToFloat, Ix.den, Fx.den]⟩
  ·rename_i e1 e2; rw [e1] at us; rw [e2] at ud
   split at h
   ·rename_i n hn
    cases h; cases hx
    exact ⟨_, rfl, fun w => run_convert_float_int w s d _ _ _ n (by rw [us]; rfl) ud hn⟩
   ·cases h
  ·rename_i e1 e2; rw [e1] at us; rw [e2] at ud
   split at h
   ·rename_i z hz
    cases h; cases hx
    exact ⟨_, rfl, fun w => by simp only [convert, Sem.run_bind, run_underlying us, run_underlying ud, Result.andThen_ok]; exact hC.f2i pc _ z hz hpc w⟩
   ·cases h
  ·rename_i e1 e2; rw [e1] at us; rw [e2] at ud
   cases h; cases hx
   exact ⟨_, rfl, fun w => by simp [convert, run_underlying us, run_underlying ud, Conv.floatToFloat]⟩
  ·rename_i e1 e2; rw [e1] at us; rw [e2] at ud
   cases h; cases hx
   exact ⟨_, rfl, fun w => by simp [convert, run_underlying us, run_underlying ud]⟩
  ·rename_i e1 e2; rw [e1] at us; rw [e2] at ud
   cases h; cases hx
   exact ⟨_, rfl, fun w => by simp [convert, run_underlying us, run_underlying ud]⟩
  ·cases h
 ·cases h

end
end Go.Ex

