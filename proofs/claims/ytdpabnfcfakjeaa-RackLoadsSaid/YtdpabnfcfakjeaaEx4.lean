/-
  What the executor knows of a program (types, functions), and its operations that leave memory alone.
-/
import Derived.Test.YtdpabnfcfakjeaaEx3
import Derived.Laws.Tables

namespace Go.Ex
open Go Go.RowKit
noncomputable section

/-- Kinds of the leaves of a struct or array that is compared. -/
inductive LK where
  | int | flt | cpx | str | bool
  deriving DecidableEq

structure TI where
  d : TypeDesc
  size : Nat
  bytes : Nat
  zero : List Sc
  agg : Bool
  eqs : Option (List LK)

structure FI where
  body : Code
  ntmps : Nat
  res : List ResultVar
  quiet : Bool

/-- The executor's context. -/
structure Cx where
  tt : T TI
  ft : T FI
  sm : T (List Sv → PC → Tree (Sv × PC))
  hs : T (T Blk → List Sv → PC → Tree (Sv × PC))
  gs : T (List Sv → PC → Tree (Sv × PC))
  D : Dec
  ih : PC → BinOp → Ix → Ix → Option Ix
  fh : PC → BinOp → Fx → Fx → Option Bx
  fa : PC → BinOp → Fx → Fx → Option Fx
  f2i : PC → Fx → Option Ix
  ch : PC → BinOp → Fx → Fx → Fx → Fx → Option (Fx × Fx)

/-- Equality of leaves, as Go has it. -/
def leafEq : Value → Value → Bool
  | .int _ a, .int _ b => a == b
  | .float k a, .float _ b => Op.floatEq k a b
  | .complex k a b, .complex _ c d => Op.floatEq k a c && Op.floatEq k b d
  | .string a, .string b => a == b
  | .bool a, .bool b => a == b
  | _, _ => false
def LK.fits : LK → Value → Value → Bool
  | .int, .int k _, .int k' _ => k == k'
  | .flt, .float k _, .float k' _ => k == k'
  | .cpx, .complex k _ _, .complex k' _ _ => k == k'
  | .str, .string _, .string _ => true
  | .bool, .bool _, .bool _ => true
  | _, _, _ => false
def leavesFit : List LK → List Value → List Value → Bool
  | [], [], [] => true
  | k :: ks, x :: xs, y :: ys => k.fits x y && leavesFit ks xs ys
  | _, _, _ => false
def leavesEq : List Value → List Value → Bool
  | x :: xs, y :: ys => leafEq x y && leavesEq xs ys
  | _, _ => true
def EqOK (P : Program) (t : TypeId) (ks : List LK) : Prop :=
  P.eqGuardType P.depth t = false ∧ ∀ (xs ys : List Value) (w : World), leavesFit ks xs ys = true → (Op.equalIn 10000 t (.agg xs.toArray) (.agg ys.toArray)).run P w = .ok (leavesEq xs ys) w

def isAggD : TypeDesc → Bool
  | .struct _ | .array _ _ => true
  | _ => false

structure TI.Ok (P : Program) (t : TypeId) (x : TI) : Prop where
  und : P.underlying t = some x.d
  inf : ∃ i z, P.info? t = some i ∧ i.size = x.size ∧ i.bytes = x.bytes ∧ i.zero = some z ∧ (∀ η E, denL η E x.zero = some z.cells.toList) ∧ z.cells.size = x.size ∧ (x.agg = true → z = .agg z.cells) ∧ (x.agg = false → z.cells = #[z] ∧ z.oneCell' = true)
  agg : x.agg = isAggD x.d
  eqs : ∀ ks, x.eqs = some ks → EqOK P t ks

structure FI.Ok (P : Program) (f : FuncId) (x : FI) : Prop where
  fn : ∃ fn, P.funcs[f]? = some fn ∧ fn.body = some x.body ∧ fn.ntmps = x.ntmps ∧ fn.results.toList = x.res ∧ (fn.name == "runtime.NumGoroutine") = false

/-- A call of f with these arguments hands back v, and leaves all that there was as it was. -/
def Gives (P : Program) (f : FuncId) (args : Array Value) (w : World) (v : Value) : Prop :=
  (callFunc f args).run P w = .ok (.value v) w ∨ ((callFunc f args).run P w = .ok (.enter f args) w ∧ Calls P f args w fun e w' => e = .returned v ∧ Below w.heap.size w w')

def denArgs (η : Env) (E : Emb) : List Sv → Option (List Value)
  | [] => some []
  | c :: l => match c.den η E, denArgs η E l with
    | some v, some r => some (v :: r)
    | _, _ => none

/-- The frozen cells are the memory's. -/
def ZW (E : Emb) (w : World) : Prop := ∀ B o v, E.z B o = some v → w.cell? ⟨B, o, none⟩ = some v
/-- The frozen memory with what is new. -/
def addE (E : Emb) (w w' : World) (rr : Nat → Option Value) (n : Nat) : Emb := ⟨E.b, fun i j => if i = n then rr j else E.r i j, fun B o => if w.heap.size ≤ B then w'.cell? ⟨B, o, none⟩ else E.z B o, E.d, E.dl, E.m⟩
def reRef (n : Nat) : Ref → Ref
  | .root _ j => .root n j
  | .elem r c => .elem (reRef n r) c
  | .sub r sz lo m => .sub (reRef n r) sz lo m
def reSc (n : Nat) : Sc → Sc
  | .fz r d => .fz (reRef n r) d
  | .fptr r cs m f i j => .fptr (reRef n r) cs m f i j
  | c => c
def reSv (n : Nat) : Sv → Sv
  | .one c => .one (reSc n c)
  | .agg l => .agg (l.map (reSc n))
  | .tup l => .tup (l.map fun p => (p.1, p.2.map (reSc n)))
  | .undef => .undef
/-- A call of f hands back what 'r' says (its roots are renamed), its slices in memory of its own. -/
def NewG (P : Program) (η : Env) (E : Emb) (f : FuncId) (args : Array Value) (w : World) (r : Sv) : Prop :=
  (callFunc f args).run P w = .ok (.enter f args) w ∧ ∀ n, (∀ j, E.r n j = none) → Calls P f args w fun e w' => ∃ v rr, e = .returned v ∧ Below w.heap.size w w' ∧ (∀ j u, rr j = some u → newV w.heap.size u) ∧ (reSv n r).den η (addE E w w' rr n) = some v
structure Cx.Ok (C : Cx) (P : Program) (η : Env) : Prop where
  tt : ∀ t x, C.tt.get t = some x → TI.Ok P t x
  ft : ∀ f x, C.ft.get f = some x → FI.Ok P f x
  sm : ∀ f g, C.sm.get f = some g → ∀ svs pc r pc', (g svs pc).at_ η = some (r, pc') → pc.holds η → pc'.holds η ∧ ∀ E args w, ZW E w → denArgs η E svs = some args → ∃ v, r.den η E = some v ∧ Gives P f args.toArray w v
  gs : ∀ f g, C.gs.get f = some g → ∀ svs pc r pc', (g svs pc).at_ η = some (r, pc') → pc.holds η → pc'.holds η ∧ ∀ E args w, ZW E w → denArgs η E svs = some args → NewG P η E f args.toArray w r
  hs : ∀ f g, C.hs.get f = some g → ∀ hp svs pc r pc', (g hp svs pc).at_ η = some (r, pc') → pc.holds η → pc'.holds η ∧ ∀ E args nx lo base w, HRel η E hp nx lo base w → denArgs η E svs = some args → ∃ v, r.den η E = some v ∧ Gives P f args.toArray w v
  D : C.D.Ok η
  ih : ∀ pc op x y z, C.ih pc op x y = some z → pc.holds η → ∀ t w, (binOp op t (.int .i64 (x.den η)) (.int .i64 (y.den η))).run P w = .ok (.int .i64 (z.den η)) w
  fh : ∀ pc op x y b, C.fh pc op x y = some b → pc.holds η → ∀ t w, (binOp op t (.float .f64 (x.den η)) (.float .f64 (y.den η))).run P w = .ok (.bool (b.den η)) w
  fa : ∀ pc op x y z, C.fa pc op x y = some z → pc.holds η → ∀ t w, (binOp op t (.float .f64 (x.den η)) (.float .f64 (y.den η))).run P w = .ok (.float .f64 (z.den η)) w
  f2i : ∀ pc f x, C.f2i pc f = some x → pc.holds η → ∀ w, (Conv.floatToInt .f64 (f.den η) .i64).run P w = .ok (.int .i64 (x.den η)) w
  ch : ∀ pc op a b c d r, C.ch pc op a b c d = some r → pc.holds η → ∀ t w, (binOp op t (.complex .f64 (a.den η) (b.den η)) (.complex .f64 (c.den η) (d.den η))).run P w = .ok (.complex .f64 (r.1.den η) (r.2.den η)) w
  mixed : P.follows .mixedOrders = true

/-! ## Operands -/
def litV : Value → Option Sv
  | .bool b => some (.one (.bool (.lit b)))
  | .int k n => some (.one (.int k (.lit n)))
  | .float k b => some (.one (.flt k (.lit b)))
  | .complex k a b => some (.one (.cpx k (.lit a) (.lit b)))
  | .string s => some (.one (.str s.data.toList))
  | .pointer none => some (.one (.ptr none))
  | .slice none n c => some (.one (.slice none n (.known c)))
  | .map none => some (.one (.map none))
  | .nilFunc => some (.one .nilFn)
  | .nilIface => some (.one .nilIface)
  | _ => none
theorem litV_den {η : Env} {E : Emb} {v : Value} {sv : Sv} (h : litV v = some sv) : sv.den η E = some v := by
  unfold litV at h
  split at h <;> first | (cases h; rfl) | cases h
  
def evX (tm : T Sv) : Operand → Option Sv
  | .tmp t => tm.get t
  | .const v => litV v
  | .func f => some (.one (.fn f []))
  | .global _ => none

/-- The operands that an operation reads are known as the frame has them. -/
def ORel (η : Env) (E : Emb) (tm : T Sv) (a : Act) (x : Operand) : Prop := ∀ sv, evX tm x = some sv → sv.den η E = some (a.eval x)

theorem FRel.orel {η : Env} {E : Emb} {tm : T Sv} {a : Act} (h : FRel η E tm a) (x : Operand) : ORel η E tm a x := by
  intro sv hx
  cases x with
  | tmp t =>
    obtain ⟨v, h1, h2⟩ := h t sv hx
    simp only [Act.eval, Array.getD_eq_getD_getElem?, h1, Option.getD_some]; exact h2
  | const v => exact litV_den hx
  | func f => cases hx; rfl
  | global g => cases hx

def orFail {α β : Type} (o : Option α) (k : α → Tree β) : Tree β :=
  match o with
  | some a => k a
  | none => .fail
theorem at_orFail {α β : Type} {η : Env} {o : Option α} {k : α → Tree β} {b : β} (h : (orFail o k).at_ η = some b) : ∃ a, o = some a ∧ (k a).at_ η = some b := by
  cases o with
  | none => simp [orFail, Tree.at_] at h
  | some a => exact ⟨a, rfl, h⟩

/-! ## Tests of two values -/
def notT (neg : Bool) (t : Tree (Bx × PC)) : Tree (Sv × PC) := t.bind fun (b, pc) => .leaf (.one (.bool (bif neg then b.not else b)), pc)

def intTest (C : Cx) (op : BinOp) (k : IntKind) (x y : Ix) (pc : PC) : Tree (Sv × PC) :=
  match op with
  | .lss => notT false (ltX C.D k x y pc)
  | .geq => notT true (ltX C.D k x y pc)
  | .gtr => notT false (ltX C.D k y x pc)
  | .leq => notT true (ltX C.D k y x pc)
  | .eql => orFail (eqX C.D k x y pc) fun b => .leaf (.one (.bool b), pc)
  | .neq => orFail (eqX C.D k x y pc) fun b => .leaf (.one (.bool b.not), pc)
  | _ => .fail

theorem intTest_run {C : Cx} {P : Program} {η : Env} (hC : C.Ok P η) {op : BinOp} {k : IntKind} {x y : Ix} {pc pc' : PC} {sv : Sv} (hpc : pc.holds η) (h : (intTest C op k x y pc).at_ η = some (sv, pc')) :
    pc'.holds η ∧ ∃ b : Bx, sv = .one (.bool b) ∧ ∀ (w : World) t, (binOp op t (.int k (x.den η)) (.int k (y.den η))).run P w = .ok (.bool (b.den η)) w := by
  unfold intTest at h
  split at h
  · obtain ⟨⟨b, pc1⟩, h1, h2⟩ := Tree.at_bind h
    obtain ⟨h3, h4⟩ := ltX_den hC.D hpc h1
    simp only [Tree.at_, Option.some.injEq, Prod.mk.injEq, cond_false] at h2
    obtain ⟨rfl, rfl⟩ := h2
    exact ⟨h4, b, rfl, fun w t => by rw [h3]; simp [binOp, Op.intCmp]⟩
  · obtain ⟨⟨b, pc1⟩, h1, h2⟩ := Tree.at_bind h
    obtain ⟨h3, h4⟩ := ltX_den hC.D hpc h1
    simp only [Tree.at_, Option.some.injEq, Prod.mk.injEq, cond_true] at h2
    obtain ⟨rfl, rfl⟩ := h2
    exact ⟨h4, b.not, rfl, fun w t => by rw [Bx.den_not, h3]; simp [binOp, Op.intCmp, ← decide_not, Int.not_lt]⟩
  · obtain ⟨⟨b, pc1⟩, h1, h2⟩ := Tree.at_bind h
    obtain ⟨h3, h4⟩ := ltX_den hC.D hpc h1
    simp only [Tree.at_, Option.some.injEq, Prod.mk.injEq, cond_false] at h2
    obtain ⟨rfl, rfl⟩ := h2
    exact ⟨h4, b, rfl, fun w t => by rw [h3]; simp [binOp, Op.intCmp]⟩
  · obtain ⟨⟨b, pc1⟩, h1, h2⟩ := Tree.at_bind h
    obtain ⟨h3, h4⟩ := ltX_den hC.D hpc h1
    simp only [Tree.at_, Option.some.injEq, Prod.mk.injEq, cond_true] at h2
    obtain ⟨rfl, rfl⟩ := h2
    exact ⟨h4, b.not, rfl, fun w t => by rw [Bx.den_not, h3]; simp [binOp, Op.intCmp, ← decide_not, Int.not_lt]⟩
  · obtain ⟨b, h1, h2⟩ := at_orFail h
    simp only [Tree.at_, Option.some.injEq, Prod.mk.injEq] at h2
    obtain ⟨rfl, rfl⟩ := h2
    exact ⟨hpc, b, rfl, fun w t => by rw [eqX_den hC.D hpc h1]; simp [binOp, Op.intCmp]; rfl⟩
  · obtain ⟨b, h1, h2⟩ := at_orFail h
    simp only [Tree.at_, Option.some.injEq, Prod.mk.injEq] at h2
    obtain ⟨rfl, rfl⟩ := h2
    refine ⟨hpc, b.not, rfl, fun w t => ?_⟩
    rw [Bx.den_not, eqX_den hC.D hpc h1]
    by_cases he : x.den η = y.den η <;> simp [binOp, Op.intCmp, he]
  · simp [Tree.at_] at h

end
end Go.Ex

