/-
  The executor's binary and unary operations, and conversions.
-/
import Derived.Test.YtdpabnfcfakjeaaEx3a
import Derived.Laws.Pointers

namespace Go.Ex
open Go Go.RowKit
noncomputable section

def isArith : BinOp → Bool
  | .add | .sub | .mul | .quo | .rem => true
  | _ => false
def iopH (C : Cx) (pc : PC) (op : BinOp) (k : IntKind) (a b : Ix) : Option Ix :=
  match iop op k a b with
  | some z => some z
  | none => match k with
    | .i64 => C.ih pc op a b
    | _ => none

theorem iopH_run {C : Cx} {P : Program} {η : Env} (hC : C.Ok P η) {op : BinOp} {k : IntKind} {x y z : Ix} {pc : PC} (hpc : pc.holds η) (w : World) (t : TypeId) (h : iopH C pc op k x y = some z) :
    (binOp op t (.int k (x.den η)) (.int k (y.den η))).run P w = .ok (.int k (z.den η)) w := by
  unfold iopH at h
  split at h
  · rename_i z' hz; cases h; exact iop_run w t hz
  · split at h
    · exact hC.ih pc op x y z h hpc t w
    · cases h

def fltTest (C : Cx) (op : BinOp) (k : FloatKind) (x y : Fx) (pc : PC) : Option Bx :=
  match x, y with
  | .lit a, .lit b => match op with
    | .eql => some (.lit (k.format.order a b == some .eq))
    | .neq => some (.lit (k.format.order a b != some .eq))
    | .lss => some (.lit (k.format.order a b == some .lt))
    | .leq => some (.lit (k.format.order a b == some .lt || k.format.order a b == some .eq))
    | .gtr => some (.lit (k.format.order a b == some .gt))
    | .geq => some (.lit (k.format.order a b == some .gt || k.format.order a b == some .eq))
    | _ => none
  | x, y => match k with
    | .f64 => C.fh pc op x y
    | .f32 => none
theorem fltTest_run {C : Cx} {P : Program} {η : Env} (hC : C.Ok P η) {op : BinOp} {k : FloatKind} {x y : Fx} {b : Bx} {pc : PC} (hpc : pc.holds η) (w : World) (t : TypeId) (h : fltTest C op k x y pc = some b) :
    (binOp op t (.float k (x.den η)) (.float k (y.den η))).run P w = .ok (.bool (b.den η)) w := by
  unfold fltTest at h
  split at h
  · split at h <;> first | (cases h; simp [binOp, Op.floatCmp, Fx.den, Bx.den]; done) | cases h
  · split at h
    · exact hC.fh pc op x y b h hpc t w
    · cases h

def fltOp (C : Cx) (op : BinOp) (k : FloatKind) (x y : Fx) (pc : PC) : Option Fx :=
  match x, y with
  | .lit a, .lit b => (floatBits op k a b).map .lit
  | x, y => match k with
    | .f64 => C.fa pc op x y
    | .f32 => none
theorem fltOp_run {C : Cx} {P : Program} {η : Env} (hC : C.Ok P η) {op : BinOp} {k : FloatKind} {x y z : Fx} {pc : PC} (hpc : pc.holds η) (w : World) (t : TypeId) (h : fltOp C op k x y pc = some z) :
    (binOp op t (.float k (x.den η)) (.float k (y.den η))).run P w = .ok (.float k (z.den η)) w := by
  unfold fltOp at h
  split at h
  · rename_i a b
    cases hb : floatBits op k a b with
    | none => rw [hb] at h; cases h
    | some r => rw [hb] at h; cases h; exact run_float_arith w op t k a b r hb
  · split at h
    · exact hC.fa pc op x y z h hpc t w
    · cases h

def cpxOp (C : Cx) (op : BinOp) (k : FloatKind) (a b c d : Fx) (pc : PC) : Option (Fx × Fx) :=
  match k with
  | .f64 => C.ch pc op a b c d
  | .f32 => none

/-- A quotient or a remainder of numbers that are terms. -/
def divX (op : BinOp) (a b : Ix) : Option (Int × Int) :=
  match op with
  | .quo | .rem => match a, b with
    | .tm x, .tm y => some (x, y)
    | .tm x, .lit y => some (x, y)
    | .lit x, .tm y => some (x, y)
    | _, _ => none
  | _ => none
theorem divX_some {op : BinOp} {a b : Ix} {x y : Int} (h : divX op a b = some (x, y)) : (op = .quo ∨ op = .rem) ∧ rawI a = some x ∧ rawI b = some y := by
  unfold divX at h
  split at h
  · refine ⟨.inl rfl, ?_⟩
    split at h <;> first | (cases h; exact ⟨rfl, rfl⟩) | cases h
  · refine ⟨.inr rfl, ?_⟩
    split at h <;> first | (cases h; exact ⟨rfl, rfl⟩) | cases h
  · cases h

/-! ## Bits -/
def mkA (a : Ix) (v : Int) : Ix :=
  match a with
  | .lit _ => .lit v
  | _ => .tm v
theorem mkA_den (η : Env) (a : Ix) (v : Int) : (mkA a v).den η = v := by cases a <;> rfl
def mkA2 (a b : Ix) (v : Int) : Ix :=
  match a with
  | .lit _ => mkA b v
  | _ => .tm v
theorem mkA2_den (η : Env) (a b : Ix) (v : Int) : (mkA2 a b v).den η = v := by cases a <;> first | rfl | exact mkA_den η b v
def shrI (k : IntKind) (x n : Int) : Int := x.fdiv (2 ^ (min n.toNat k.bits))
def shlI (k : IntKind) (x n : Int) : Int := k.wrap (x * 2 ^ (min n.toNat k.bits))
def andI (k : IntKind) (x y : Int) : Int := k.wrap (BitVec.ofInt k.bits x &&& BitVec.ofInt k.bits y).toNat
def orI (k : IntKind) (x y : Int) : Int := k.wrap (BitVec.ofInt k.bits x ||| BitVec.ofInt k.bits y).toNat
def shX (op : BinOp) (k : IntKind) (a b : Ix) : Option Ix :=
  match op, b, rawI a with
  | .shr, .lit (.ofNat n), some x => some (mkA a (shrI k x n))
  | .shl, .lit (.ofNat n), some x => some (mkA a (shlI k x n))
  | _, _, _ => none
def bitX (op : BinOp) (k : IntKind) (a b : Ix) : Option Ix :=
  match op, rawI a, rawI b with
  | .and, some x, some y => some (mkA2 a b (andI k x y))
  | .or, some x, some y => some (mkA2 a b (orI k x y))
  | _, _, _ => none
def binX (C : Cx) (op : BinOp) (t : TypeId) (x y : Sv) (pc : PC) : Tree (Sv × PC) :=
  match x, y with
  | .one (.int k a), .one (.int k' b) => match shX op k a b with
    | some z => .leaf (.one (.int k z), pc)
    | none => bif decide (k = k') then
      match divX op a b with
      | some (x, y) => chk (!decide (y = 0)) (.leaf (.one (.int k (.tm (match op with | .quo => k.wrap (x.tdiv y) | _ => x.tmod y))), pc))
      | none => match bitX op k a b with
        | some z => .leaf (.one (.int k z), pc)
        | none => (bif isArith op then orFail (iopH C pc op k a b) fun z => .leaf (.one (.int k z), pc) else intTest C op k a b pc)
      else .fail
  | .one (.bool a), .one (.bool b) => match C.tt.get t with
    | some ti => match ti.d, op with
      | .bool, .eql => branch C.D pc a fun s pc => .leaf (.one (.bool (bif s then b else b.not)), pc)
      | .bool, .neq => branch C.D pc a fun s pc => .leaf (.one (.bool (bif s then b.not else b)), pc)
      | _, _ => .fail
    | none => .fail
  | .one (.flt k a), .one (.flt k' b) => bif decide (k = k') then
      (bif isArith op then orFail (fltOp C op k a b pc) fun z => .leaf (.one (.flt k z), pc) else orFail (fltTest C op k a b pc) fun b => .leaf (.one (.bool b), pc)) else .fail
  | .one (.cpx k a b), .one (.cpx k' c d) => bif decide (k = k') then
      (match op with
      | .eql => orFail (fltEq C k a c pc) fun e => branch C.D pc e fun s pc => match s with
        | true => orFail (fltEq C k b d pc) fun e => .leaf (.one (.bool e), pc)
        | false => .leaf (.one (.bool (.lit false)), pc)
      | .neq => orFail (fltEq C k a c pc) fun e => branch C.D pc e fun s pc => match s with
        | true => orFail (fltEq C k b d pc) fun e => .leaf (.one (.bool e.not), pc)
        | false => .leaf (.one (.bool (.lit true)), pc)
      | op => orFail (cpxOp C op k a b c d pc) fun r => .leaf (.one (.cpx k r.1 r.2), pc)) else .fail
  | .one (.ostr a), .one (.str b) => match op with
    | .eql => .leaf (.one (.bool (tb (bytesEq a b))), pc)
    | .neq => .leaf (.one (.bool (tb (!(bytesEq a b)))), pc)
    | .add => chk (Nat.blt (a.length + b.length) 1000000) (.leaf (.one (.ostr (a ++ b)), pc))
    | _ => .fail
  | .one (.str a), .one (.ostr b) => match op with
    | .eql => .leaf (.one (.bool (tb (bytesEq a b))), pc)
    | .neq => .leaf (.one (.bool (tb (!(bytesEq a b)))), pc)
    | .add => chk (Nat.blt (a.length + b.length) 1000000) (.leaf (.one (.ostr (a ++ b)), pc))
    | _ => .fail
  | .one (.ostr a), .one (.ostr b) => match op with
    | .eql => .leaf (.one (.bool (tb (bytesEq a b))), pc)
    | .neq => .leaf (.one (.bool (tb (!(bytesEq a b)))), pc)
    | .add => chk (Nat.blt (a.length + b.length) 1000000) (.leaf (.one (.ostr (a ++ b)), pc))
    | _ => .fail
  | .one (.str a), .one (.str b) => match op with
    | .eql => .leaf (.one (.bool (.lit (bytesEq a b))), pc)
    | .neq => .leaf (.one (.bool (.lit (!(bytesEq a b)))), pc)
    | .add => bif Nat.blt (a.length + b.length) 1000000 then .leaf (.one (.str (a ++ b)), pc) else .fail
    | _ => .fail
  | .agg xs, .agg ys => match C.tt.get t with
    | some ti => match ti.eqs with
      | some ks => bif kindL ks xs ys then (match op with
        | .eql => (eqL C ks xs ys pc).bind fun r => .leaf (.one (.bool (.lit r.1)), r.2)
        | .neq => (eqL C ks xs ys pc).bind fun r => .leaf (.one (.bool (.lit (!r.1))), r.2)
        | _ => .fail) else .fail
      | none => .fail
    | none => .fail
  | _, _ => .fail

theorem guarded {P : Program} {w : World} {op : BinOp} {t : TypeId} {xo yo : Operand} {a b v : Value} (hg : (eqGuard op t xo yo a b).run P w = .ok () w) (h : (binOp op t a b).run P w = .ok v w) :
    (do eqGuard op t xo yo a b; binOp op t a b : Sem Value).run P w = .ok v w := by
  rw [Sem.run_bind, hg]; exact h

theorem run_floatEq {P : Program} (w : World) (k : FloatKind) (a b : Nat) : (Op.Complex.cmp .eql k a b).run P w = .ok (Op.floatEq k a b) w := by
  simp [Op.Complex.cmp, Op.floatCmp, asBool, Op.floatEq]

theorem shX_run {η : Env} {P : Program} {op : BinOp} {k k' : IntKind} {a b z : Ix} (t : TypeId) (h : shX op k a b = some z) (xo yo : Operand) (w : World) :
    (do eqGuard op t xo yo (.int k (a.den η)) (.int k' (b.den η)); binOp op t (.int k (a.den η)) (.int k' (b.den η)) : Sem Value).run P w = .ok (.int k (z.den η)) w := by
  have hg := run_eqGuard_none (P := P) w op t xo yo (.int k (a.den η)) (.int k' (b.den η)) (fun h => by cases h.1) (fun _ _ h => by cases h.1)
  refine guarded hg ?_
  unfold shX at h
  split at h <;> first | (cases h; done) | skip
  · rename_i n x hx
    cases h
    rw [mkA_den, rawI_den hx]
    simp [binOp, Op.shift, Ix.den, shrI, show ¬ ((n : Int) < 0) by omega]
  · rename_i n x hx
    cases h
    rw [mkA_den, rawI_den hx]
    simp [binOp, Op.shift, Ix.den, shlI, show ¬ ((n : Int) < 0) by omega]
theorem bitX_run {η : Env} {P : Program} {op : BinOp} {k : IntKind} {a b z : Ix} (t : TypeId) (h : bitX op k a b = some z) (w : World) : (binOp op t (.int k (a.den η)) (.int k (b.den η))).run P w = .ok (.int k (z.den η)) w := by
  unfold bitX at h
  split at h <;> first | (cases h; done) | skip
  · rename_i x y hx hy
    cases h
    rw [mkA2_den, rawI_den hx, rawI_den hy]
    simp [binOp, Op.intBits, andI]
  · rename_i x y hx hy
    cases h
    rw [mkA2_den, rawI_den hx, rawI_den hy]
    simp [binOp, Op.intBits, orI]
theorem binX_run {C : Cx} {P : Program} {η : Env} {E : Emb} (hC : C.Ok P η) {op : BinOp} {t : TypeId} {x y sv : Sv} {pc pc' : PC} (hpc : pc.holds η) (h : (binX C op t x y pc).at_ η = some (sv, pc'))
    {va vb : Value} (hx : x.den η E = some va) (hy : y.den η E = some vb) (xo yo : Operand) :
    pc'.holds η ∧ ∃ v, sv.den η E = some v ∧ ∀ w, (do eqGuard op t xo yo va vb; binOp op t va vb : Sem Value).run P w = .ok v w := by
  unfold binX at h
  split at h
  · -- ints
    rename_i k a k' b
    simp only [Sv.den, Sc.den, Option.some.injEq] at hx hy
    subst hx; subst hy
    split at h
    · rename_i z hz
      simp only [Tree.at_, Option.some.injEq, Prod.mk.injEq] at h
      obtain ⟨rfl, rfl⟩ := h
      exact ⟨hpc, _, rfl, fun w => shX_run t hz xo yo w⟩
    by_cases hk : k = k'
    · subst hk
      simp only [decide_true, cond_true] at h
      have hg : ∀ w, (eqGuard op t xo yo (.int k (a.den η)) (.int k (b.den η))).run P w = .ok () w := fun w => run_eqGuard_none w op t xo yo _ _ (fun h => by cases h.1) (fun _ _ h => by cases h.1)
      split at h
      · rename_i x y hd
        obtain ⟨hop, hx, hy⟩ := divX_some hd
        obtain ⟨hy0, h⟩ := at_chk h
        · have hy0 : y ≠ 0 := by simpa using hy0
          simp only [Tree.at_, Option.some.injEq, Prod.mk.injEq] at h
          obtain ⟨rfl, rfl⟩ := h
          rw [rawI_den hx, rawI_den hy] at hg ⊢
          refine ⟨hpc, _, rfl, fun w => guarded (hg w) ?_⟩
          rcases hop with rfl | rfl
          · simp [binOp, Op.intDiv, Ix.den, hy0]
          · simp [binOp, Op.intDiv, Ix.den, hy0]
      split at h
      · rename_i z hz
        simp only [Tree.at_, Option.some.injEq, Prod.mk.injEq] at h
        obtain ⟨rfl, rfl⟩ := h
        exact ⟨hpc, _, rfl, fun w => guarded (hg w) (bitX_run t hz w)⟩
      cases ha : isArith op with
      | true =>
        rw [ha] at h
        obtain ⟨z, h1, h2⟩ := at_orFail h
        simp only [Tree.at_, Option.some.injEq, Prod.mk.injEq] at h2
        obtain ⟨rfl, rfl⟩ := h2
        exact ⟨hpc, _, rfl, fun w => guarded (hg w) (iopH_run hC hpc w t h1)⟩
      | false =>
        rw [ha] at h
        obtain ⟨h1, bx, rfl, h2⟩ := intTest_run hC hpc h
        exact ⟨h1, _, rfl, fun w => guarded (hg w) (h2 w t)⟩
    · simp [hk, Tree.at_] at h
  · -- bools
    rename_i a b
    simp only [Sv.den, Sc.den, Option.some.injEq] at hx hy
    subst hx; subst hy
    split at h
    · rename_i ti hti
      have hu := (hC.tt t ti hti).und
      split at h
      · rename_i hd
        rw [hd] at hu
        obtain ⟨pc1, hp1, h1⟩ := at_branch hC.D hpc h
        simp only [Tree.at_, Option.some.injEq, Prod.mk.injEq] at h1
        obtain ⟨rfl, rfl⟩ := h1
        refine ⟨hp1, _, rfl, fun w => guarded (run_eqGuard_none w _ t xo yo _ _ (fun h => by cases h.1) (fun _ _ h => by cases h.1)) ?_⟩
        rw [run_eql_bool w t _ _ hu]
        cases ha : a.den η <;> simp [Bx.den_not]
      · rename_i hd
        rw [hd] at hu
        obtain ⟨pc1, hp1, h1⟩ := at_branch hC.D hpc h
        simp only [Tree.at_, Option.some.injEq, Prod.mk.injEq] at h1
        obtain ⟨rfl, rfl⟩ := h1
        refine ⟨hp1, _, rfl, fun w => guarded (run_eqGuard_none w _ t xo yo _ _ (fun h => by cases h.1) (fun _ _ h => by cases h.1)) ?_⟩
        rw [run_neq_bool w t _ _ hu]
        cases ha : a.den η <;> simp [Bx.den_not]
      · cases h
    · cases h
  · -- floats
    rename_i k a k' b
    simp only [Sv.den, Sc.den, Option.some.injEq] at hx hy
    subst hx; subst hy
    by_cases hk : k = k'
    · subst hk
      simp only [decide_true, cond_true] at h
      have hg : ∀ w, (eqGuard op t xo yo (.float k (a.den η)) (.float k (b.den η))).run P w = .ok () w := fun w => run_eqGuard_none w op t xo yo _ _ (fun h => by cases h.1) (fun _ _ h => by cases h.1)
      cases ha : isArith op with
      | true =>
        rw [ha] at h
        obtain ⟨z, h1, h2⟩ := at_orFail h
        simp only [Tree.at_, Option.some.injEq, Prod.mk.injEq] at h2
        obtain ⟨rfl, rfl⟩ := h2
        exact ⟨hpc, _, rfl, fun w => guarded (hg w) (fltOp_run hC hpc w t h1)⟩
      | false =>
        rw [ha] at h
        obtain ⟨z, h1, h2⟩ := at_orFail h
        simp only [Tree.at_, Option.some.injEq, Prod.mk.injEq] at h2
        obtain ⟨rfl, rfl⟩ := h2
        exact ⟨hpc, _, rfl, fun w => guarded (hg w) (fltTest_run hC hpc w t h1)⟩
    · simp [hk, Tree.at_] at h
  · -- complex
    rename_i k a b k' c d
    simp only [Sv.den, Sc.den, Option.some.injEq] at hx hy
    subst hx; subst hy
    by_cases hk : k = k'
    · subst hk
      simp only [decide_true, cond_true] at h
      have hg : ∀ w, (eqGuard op t xo yo (.complex k (a.den η) (b.den η)) (.complex k (c.den η) (d.den η))).run P w = .ok () w := fun w => run_eqGuard_none w op t xo yo _ _ (fun h => by cases h.1) (fun _ _ h => by cases h.1)
      split at h
      · obtain ⟨e, h1, h2⟩ := at_orFail h
        obtain ⟨pc1, hp1, h3⟩ := at_branch hC.D hpc h2
        split at h3
        · rename_i hs
          obtain ⟨e2, h4, h5⟩ := at_orFail h3
          simp only [Tree.at_, Option.some.injEq, Prod.mk.injEq] at h5
          obtain ⟨rfl, rfl⟩ := h5
          refine ⟨hp1, _, rfl, fun w => guarded (hg w) ?_⟩
          have e1 := fltEq_den hC hpc w h1
          have e3 := fltEq_den hC hp1 w h4
          rw [hs] at e1
          simp [binOp, Op.complexOp, run_floatEq, ← e1, ← e3]
        · rename_i hs
          simp only [Tree.at_, Option.some.injEq, Prod.mk.injEq] at h3
          obtain ⟨rfl, rfl⟩ := h3
          refine ⟨hp1, _, rfl, fun w => guarded (hg w) ?_⟩
          have e1 := fltEq_den hC hpc w h1
          rw [hs] at e1
          simp [binOp, Op.complexOp, run_floatEq, ← e1, Bx.den]
      · obtain ⟨e, h1, h2⟩ := at_orFail h
        obtain ⟨pc1, hp1, h3⟩ := at_branch hC.D hpc h2
        split at h3
        · rename_i hs
          obtain ⟨e2, h4, h5⟩ := at_orFail h3
          simp only [Tree.at_, Option.some.injEq, Prod.mk.injEq] at h5
          obtain ⟨rfl, rfl⟩ := h5
          refine ⟨hp1, _, rfl, fun w => guarded (hg w) ?_⟩
          have e1 := fltEq_den hC hpc w h1
          have e3 := fltEq_den hC hp1 w h4
          rw [hs] at e1
          simp [binOp, Op.complexOp, run_floatEq, ← e1, ← e3, Bx.den_not]
        · rename_i hs
          simp only [Tree.at_, Option.some.injEq, Prod.mk.injEq] at h3
          obtain ⟨rfl, rfl⟩ := h3
          refine ⟨hp1, _, rfl, fun w => guarded (hg w) ?_⟩
          have e1 := fltEq_den hC hpc w h1
          rw [hs] at e1
          simp [binOp, Op.complexOp, run_floatEq, ← e1, Bx.den]
      · obtain ⟨r, h1, h2⟩ := at_orFail h
        simp only [Tree.at_, Option.some.injEq, Prod.mk.injEq] at h2
        obtain ⟨rfl, rfl⟩ := h2
        refine ⟨hpc, _, rfl, fun w => guarded (hg w) ?_⟩
        unfold cpxOp at h1
        split at h1
        · exact hC.ch pc _ a b c d r h1 hpc t w
        · cases h1
    · simp [hk, Tree.at_] at h
  · -- open strings
    rename_i a b
    simp only [Sv.den, Sc.den, Option.some.injEq] at hx hy
    subst hx; subst hy
    have hg : ∀ w, (eqGuard op t xo yo (.string ⟨a.toArray⟩) (.string ⟨b.toArray⟩)).run P w = .ok () w := fun w => run_eqGuard_none w op t xo yo _ _ (fun h => by cases h.1) (fun _ _ h => by cases h.1)
    split at h
    · simp only [Tree.at_, Option.some.injEq, Prod.mk.injEq] at h
      obtain ⟨rfl, rfl⟩ := h
      exact ⟨hpc, _, rfl, fun w => guarded (hg w) (by rw [tb_den]; simp [binOp, Op.stringOp, bytesEq_eq])⟩
    · simp only [Tree.at_, Option.some.injEq, Prod.mk.injEq] at h
      obtain ⟨rfl, rfl⟩ := h
      exact ⟨hpc, _, rfl, fun w => guarded (hg w) (by rw [tb_den]; simp [binOp, Op.stringOp, bytesEq_eq])⟩
    · obtain ⟨hl, h⟩ := at_chk h
      · simp only [Tree.at_, Option.some.injEq, Prod.mk.injEq] at h
        obtain ⟨rfl, rfl⟩ := h
        have hlt := Nat.le_of_ble_eq_true hl
        refine ⟨hpc, _, rfl, fun w => guarded (hg w) ?_⟩
        have hn : ¬ ((((⟨a.toArray⟩ : ByteArray).size + (⟨b.toArray⟩ : ByteArray).size : Nat) : Int) > IntKind.i64.max) := by
          have e1 : (⟨a.toArray⟩ : ByteArray).size = a.length := by simp [ByteArray.size]
          have e2 : (⟨b.toArray⟩ : ByteArray).size = b.length := by simp [ByteArray.size]
          have e3 : IntKind.i64.max = 9223372036854775807 := by decide
          rw [e1, e2, e3]; omega
        simp only [binOp, Op.stringOp, if_neg hn, Sem.run_pure]
        congr 2
    · cases h
  · -- open strings
    rename_i a b
    simp only [Sv.den, Sc.den, Option.some.injEq] at hx hy
    subst hx; subst hy
    have hg : ∀ w, (eqGuard op t xo yo (.string ⟨a.toArray⟩) (.string ⟨b.toArray⟩)).run P w = .ok () w := fun w => run_eqGuard_none w op t xo yo _ _ (fun h => by cases h.1) (fun _ _ h => by cases h.1)
    split at h
    · simp only [Tree.at_, Option.some.injEq, Prod.mk.injEq] at h
      obtain ⟨rfl, rfl⟩ := h
      exact ⟨hpc, _, rfl, fun w => guarded (hg w) (by rw [tb_den]; simp [binOp, Op.stringOp, bytesEq_eq])⟩
    · simp only [Tree.at_, Option.some.injEq, Prod.mk.injEq] at h
      obtain ⟨rfl, rfl⟩ := h
      exact ⟨hpc, _, rfl, fun w => guarded (hg w) (by rw [tb_den]; simp [binOp, Op.stringOp, bytesEq_eq])⟩
    · obtain ⟨hl, h⟩ := at_chk h
      · simp only [Tree.at_, Option.some.injEq, Prod.mk.injEq] at h
        obtain ⟨rfl, rfl⟩ := h
        have hlt := Nat.le_of_ble_eq_true hl
        refine ⟨hpc, _, rfl, fun w => guarded (hg w) ?_⟩
        have hn : ¬ ((((⟨a.toArray⟩ : ByteArray).size + (⟨b.toArray⟩ : ByteArray).size : Nat) : Int) > IntKind.i64.max) := by
          have e1 : (⟨a.toArray⟩ : ByteArray).size = a.length := by simp [ByteArray.size]
          have e2 : (⟨b.toArray⟩ : ByteArray).size = b.length := by simp [ByteArray.size]
          have e3 : IntKind.i64.max = 9223372036854775807 := by decide
          rw [e1, e2, e3]; omega
        simp only [binOp, Op.stringOp, if_neg hn, Sem.run_pure]
        congr 2
    · cases h
  · -- open strings
    rename_i a b
    simp only [Sv.den, Sc.den, Option.some.injEq] at hx hy
    subst hx; subst hy
    have hg : ∀ w, (eqGuard op t xo yo (.string ⟨a.toArray⟩) (.string ⟨b.toArray⟩)).run P w = .ok () w := fun w => run_eqGuard_none w op t xo yo _ _ (fun h => by cases h.1) (fun _ _ h => by cases h.1)
    split at h
    · simp only [Tree.at_, Option.some.injEq, Prod.mk.injEq] at h
      obtain ⟨rfl, rfl⟩ := h
      exact ⟨hpc, _, rfl, fun w => guarded (hg w) (by rw [tb_den]; simp [binOp, Op.stringOp, bytesEq_eq])⟩
    · simp only [Tree.at_, Option.some.injEq, Prod.mk.injEq] at h
      obtain ⟨rfl, rfl⟩ := h
      exact ⟨hpc, _, rfl, fun w => guarded (hg w) (by rw [tb_den]; simp [binOp, Op.stringOp, bytesEq_eq])⟩
    · obtain ⟨hl, h⟩ := at_chk h
      · simp only [Tree.at_, Option.some.injEq, Prod.mk.injEq] at h
        obtain ⟨rfl, rfl⟩ := h
        have hlt := Nat.le_of_ble_eq_true hl
        refine ⟨hpc, _, rfl, fun w => guarded (hg w) ?_⟩
        have hn : ¬ ((((⟨a.toArray⟩ : ByteArray).size + (⟨b.toArray⟩ : ByteArray).size : Nat) : Int) > IntKind.i64.max) := by
          have e1 : (⟨a.toArray⟩ : ByteArray).size = a.length := by simp [ByteArray.size]
          have e2 : (⟨b.toArray⟩ : ByteArray).size = b.length := by simp [ByteArray.size]
          have e3 : IntKind.i64.max = 9223372036854775807 := by decide
          rw [e1, e2, e3]; omega
        simp only [binOp, Op.stringOp, if_neg hn, Sem.run_pure]
        congr 2
    · cases h
  · -- strings
    rename_i a b
    simp only [Sv.den, Sc.den, Option.some.injEq] at hx hy
    subst hx; subst hy
    have hg : ∀ w, (eqGuard op t xo yo (.string ⟨a.toArray⟩) (.string ⟨b.toArray⟩)).run P w = .ok () w := fun w => run_eqGuard_none w op t xo yo _ _ (fun h => by cases h.1) (fun _ _ h => by cases h.1)
    split at h
    · simp only [Tree.at_, Option.some.injEq, Prod.mk.injEq] at h
      obtain ⟨rfl, rfl⟩ := h
      exact ⟨hpc, _, rfl, fun w => guarded (hg w) (by simp [binOp, Op.stringOp, Bx.den, bytesEq_eq])⟩
    · simp only [Tree.at_, Option.some.injEq, Prod.mk.injEq] at h
      obtain ⟨rfl, rfl⟩ := h
      exact ⟨hpc, _, rfl, fun w => guarded (hg w) (by simp [binOp, Op.stringOp, Bx.den, bytesEq_eq])⟩
    · cases hl : Nat.blt (a.length + b.length) 1000000 with
      | false => rw [hl] at h; cases h
      | true =>
        rw [hl] at h
        simp only [cond_true, Tree.at_, Option.some.injEq, Prod.mk.injEq] at h
        obtain ⟨rfl, rfl⟩ := h
        have hlt := Nat.le_of_ble_eq_true hl
        refine ⟨hpc, _, rfl, fun w => guarded (hg w) ?_⟩
        have hn : ¬ ((((⟨a.toArray⟩ : ByteArray).size + (⟨b.toArray⟩ : ByteArray).size : Nat) : Int) > IntKind.i64.max) := by
          have e1 : (⟨a.toArray⟩ : ByteArray).size = a.length := by simp [ByteArray.size]
          have e2 : (⟨b.toArray⟩ : ByteArray).size = b.length := by simp [ByteArray.size]
          have e3 : IntKind.i64.max = 9223372036854775807 := by decide
          rw [e1, e2, e3]; omega
        simp only [binOp, Op.stringOp, if_neg hn, Sem.run_pure]
        congr 2
    · cases h
  · -- aggregates
    rename_i xs ys
    split at h
    · rename_i ti hti
      split at h
      · rename_i ks hks
        obtain ⟨hq1, hq2⟩ := (hC.tt t ti hti).eqs ks hks
        cases hk : kindL ks xs ys with
        | false => rw [hk] at h; cases h
        | true =>
          rw [hk] at h
          simp only [cond_true] at h
          simp only [Sv.den] at hx hy
          cases hvs : denL η E xs with
          | none => rw [hvs] at hx; cases hx
          | some vs =>
            cases hws : denL η E ys with
            | none => rw [hws] at hy; cases hy
            | some ws =>
              rw [hvs] at hx; rw [hws] at hy
              simp only [Option.map_some, Option.some.injEq] at hx hy
              subst hx; subst hy
              have hfit := kindL_fit ks xs ys vs ws hk hvs hws
              split at h
              · obtain ⟨⟨r, pc1⟩, h1, h2⟩ := Tree.at_bind h
                simp only [Tree.at_, Option.some.injEq, Prod.mk.injEq] at h2
                obtain ⟨rfl, rfl⟩ := h2
                refine ⟨(eqL_run hC default ks xs ys vs ws pc pc1 r h1 hpc hvs hws).1, _, rfl, fun w => guarded (run_eqGuard_agg w _ t xo yo _ _ hq1) ?_⟩
                rw [run_eql_struct, hq2 vs ws w hfit, (eqL_run hC w ks xs ys vs ws pc pc1 r h1 hpc hvs hws).2]; rfl
              · obtain ⟨⟨r, pc1⟩, h1, h2⟩ := Tree.at_bind h
                simp only [Tree.at_, Option.some.injEq, Prod.mk.injEq] at h2
                obtain ⟨rfl, rfl⟩ := h2
                refine ⟨(eqL_run hC default ks xs ys vs ws pc pc1 r h1 hpc hvs hws).1, _, rfl, fun w => guarded (run_eqGuard_agg w _ t xo yo _ _ hq1) ?_⟩
                rw [run_neq_struct, hq2 vs ws w hfit, (eqL_run hC w ks xs ys vs ws pc pc1 r h1 hpc hvs hws).2]; rfl
              · cases h
      · cases h
    · cases h
  · cases h

/-! ## Unary -/
def unX (op : UnOp) (x : Sv) : Option Sv :=
  match op, x with
  | .not, .one (.bool b) => some (.one (.bool b.not))
  | .neg, .one (.int k (.lit n)) => some (.one (.int k (.lit (wrapQ k (0 - n)))))
  | .neg, .one (.int k (.tm n)) => some (.one (.int k (.tm (k.wrap (0 - n)))))
  | .neg, .one (.int .i64 (.poly p)) => some (.one (.int .i64 (mkI (pneg p))))
  | .neg, .one (.flt k (.lit b)) => some (.one (.flt k (.lit (Op.negFloat k b))))
  | .neg, .one (.flt .f64 (.ofI p)) => some (.one (.flt .f64 (.neg p)))
  | .neg, .one (.cpx k (.lit a) (.lit b)) => some (.one (.cpx k (.lit (Op.negFloat k a)) (.lit (Op.negFloat k b))))
  | _, _ => none
theorem unX_run {P : Program} {η : Env} {E : Emb} {op : UnOp} {x sv : Sv} {va : Value} (h : unX op x = some sv) (hx : x.den η E = some va) :
    ∃ v, sv.den η E = some v ∧ ∀ w, (Op.unary op va).run P w = .ok v w := by
  unfold unX at h
  split at h
  · cases h; cases hx; exact ⟨_, rfl, fun w => by simp [Op.unary, Bx.den_not]⟩
  · cases h; cases hx; exact ⟨_, rfl, fun w => by simp [Op.unary, Op.intArith, Ix.den, wrapQ_eq]⟩
  · cases h; cases hx; exact ⟨_, rfl, fun w => by simp [Op.unary, Op.intArith, Ix.den]⟩
  · rename_i p
    cases h; cases hx
    refine ⟨_, rfl, fun w => ?_⟩
    rw [mkI_den, evP_pneg]
    simp only [Op.unary, Op.intArith, Ix.den, Sem.run_pure]
    have e : IntKind.i64.wrap (0 - wr (evP η.i p)) = wr (-(evP η.i p)) := by
      rw [Int.zero_sub]; exact wr_neg (evP η.i p)
    rw [e]
  · cases h; cases hx; exact ⟨_, rfl, fun w => by simp [Op.unary, Fx.den]⟩
  · cases h; cases hx; exact ⟨_, rfl, fun w => by simp [Op.unary, Fx.den]⟩
  · cases h; cases hx; exact ⟨_, rfl, fun w => by simp [Op.unary, Fx.den]⟩
  · cases h

/-! ## Conversions -/
def convX (C : Cx) (s d : TypeId) (x : Sv) (pc : PC) : Option Sv :=
  match C.tt.get s, C.tt.get d with
  | some si, some di => match si.d, di.d, x with
    | .int _, .int k, .one (.int _ (.lit n)) => some (.one (.int k (.lit (wrapQ k n))))
    | .int _, .int k, .one (.int _ (.tm n)) => some (.one (.int k (.tm (k.wrap n))))
    | .int _, .int .i64, .one (.int .i64 (.poly p)) => some (.one (.int .i64 (.poly p)))
    | .int _, .float k, .one (.int _ (.lit n)) => some (.one (.flt k (.lit (k.nearest n))))
    | .int _, .float .f64, .one (.int .i64 (.poly p)) => some (.one (.flt .f64 (.ofI p)))
    | .float _, .int k, .one (.flt s (.lit b)) => match floatToIntVal s b k with
      | some n => some (.one (.int k (.lit n)))
      | none => none
    | .float _, .int .i64, .one (.flt .f64 f) => match C.f2i pc f with
      | some z => some (.one (.int .i64 z))
      | none => none
    | .float _, .float .f64, .one (.flt .f64 f) => some (.one (.flt .f64 f))
    | .string, .string, .one (.str l) => some (.one (.str l))
    | .string, .string, .one (.ostr l) => some (.one (.ostr l))
    | _, _, _ => none
  | _, _ => none

theorem convX_run {C : Cx} {P : Program} {η : Env} {E : Emb} (hC : C.Ok P η) {s d : TypeId} {x sv : Sv} {pc : PC} {va : Value} (hpc : pc.holds η) (h : convX C s d x pc = some sv) (hx : x.den η E = some va) :
    ∃ v, sv.den η E = some v ∧ ∀ w, (convert s d va).run P w = .ok v w := by
  unfold convX at h
  split at h
  · rename_i si di hs hd
    have us := (hC.tt s si hs).und
    have ud := (hC.tt d di hd).und
    split at h
    · rename_i e1 e2; rw [e1] at us; rw [e2] at ud
      cases h; cases hx
      exact ⟨_, rfl, fun w => by simp [convert, run_underlying us, run_underlying ud, Conv.intToInt, Ix.den, wrapQ_eq]⟩
    · rename_i e1 e2; rw [e1] at us; rw [e2] at ud
      cases h; cases hx
      exact ⟨_, rfl, fun w => by simp [convert, run_underlying us, run_underlying ud, Conv.intToInt, Ix.den]⟩
    · rename_i e1 e2; rw [e1] at us; rw [e2] at ud
      cases h; cases hx
      refine ⟨_, rfl, fun w => ?_⟩
      simp only [convert, Sem.run_bind, run_underlying us, run_underlying ud, Result.andThen_ok, Conv.intToInt, Sem.run_pure, Ix.den]
      rw [show IntKind.i64.wrap (wr (evP η.i _)) = wr (evP η.i _) from wr_wr _]
    · rename_i e1 e2; rw [e1] at us; rw [e2] at ud
      cases h; cases hx
      exact ⟨_, rfl, fun w => by simp [convert, run_underlying us, run_underlying ud, Conv.intToFloat, Ix.den, Fx.den]⟩
    · rename_i e1 e2; rw [e1] at us; rw [e2] at ud
      cases h; cases hx
      exact ⟨_, rfl, fun w => by simp [convert, run_underlying us, run_underlying ud, Conv.intToFloat, Ix.den, Fx.den]⟩
    · rename_i e1 e2; rw [e1] at us; rw [e2] at ud
      split at h
      · rename_i n hn
        cases h; cases hx
        exact ⟨_, rfl, fun w => run_convert_float_int w s d _ _ _ n (by rw [us]; rfl) ud hn⟩
      · cases h
    · rename_i e1 e2; rw [e1] at us; rw [e2] at ud
      split at h
      · rename_i z hz
        cases h; cases hx
        exact ⟨_, rfl, fun w => by simp only [convert, Sem.run_bind, run_underlying us, run_underlying ud, Result.andThen_ok]; exact hC.f2i pc _ z hz hpc w⟩
      · cases h
    · rename_i e1 e2; rw [e1] at us; rw [e2] at ud
      cases h; cases hx
      exact ⟨_, rfl, fun w => by simp [convert, run_underlying us, run_underlying ud, Conv.floatToFloat]⟩
    · rename_i e1 e2; rw [e1] at us; rw [e2] at ud
      cases h; cases hx
      exact ⟨_, rfl, fun w => by simp [convert, run_underlying us, run_underlying ud]⟩
    · rename_i e1 e2; rw [e1] at us; rw [e2] at ud
      cases h; cases hx
      exact ⟨_, rfl, fun w => by simp [convert, run_underlying us, run_underlying ud]⟩
    · cases h
  · cases h

end
end Go.Ex

