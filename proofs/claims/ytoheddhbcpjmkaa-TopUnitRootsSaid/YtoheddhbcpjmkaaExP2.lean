/-
  The executor's binary operations on every make of value.
-/
/-
  The executor's binary and unary operations, and conversions.
-/
/-
  The executor's operations that look at places, parts and slices.
-/
/-
  The executor's slices of slices, composite values, built-in functions; all operations that leave memory alone, together.
-/
import Derived.Test.YtoheddhbcpjmkaaExP1
import Derived.Laws.Pointers

namespace Go.Ex
open Go Go.RowKit
noncomputable section

def u8eq (a b : UInt8) : Bool := Nat.beq a.toNat b.toNat
theorem u8eq_eq (a b : UInt8) : u8eq a b = (a == b) := by
  unfold u8eq
  rw [beq_eq, Bool.eq_iff_iff]
  simp [UInt8.toNat_inj]
def bytesEq : List UInt8 → List UInt8 → Bool
  | [], [] => true
  | a :: l, b :: m => u8eq a b && bytesEq l m
  | _, _ => false
theorem bytesEq_eq : ∀ l m : List UInt8, bytesEq l m = (l == m)
  | [], [] => rfl
  | [], _ :: _ => rfl
  | _ :: _, [] => rfl
  | a :: l, b :: m => by
    simp only [bytesEq, u8eq_eq, bytesEq_eq l m]; rfl

theorem str_toList (l : List UInt8) : (⟨l.toArray⟩ : ByteArray).toList = l := by rw [ByteArray.toList_eq]
theorem str_beq (l m : List UInt8) : ((⟨l.toArray⟩ : ByteArray) == ⟨m.toArray⟩) = (l == m) := by
  rw [beq_toListBytes, str_toList, str_toList]

theorem run_eqGuard_none {P : Program} (w : World) (op : BinOp) (t : TypeId) (x y : Operand) (a b : Value) (h : ¬ (a = .nilIface ∧ b = .nilIface)) (h' : ∀ cs ds, ¬ (a = .agg cs ∧ b = .agg ds)) :
    (eqGuard op t x y a b).run P w = .ok () w := by
  cases op <;> first | rfl | skip
  all_goals
    unfold eqGuard
    simp only [Bool.not_true, Bool.false_eq_true, if_false]
    split
    · exact absurd ⟨rfl, rfl⟩ h
    · exact absurd ⟨rfl, rfl⟩ (h' _ _)
    · rfl

/-- Equality of two floats: by the context, or of two constants. -/
def fltEq (C : Cx) (k : FloatKind) (x y : Fx) (pc : PC) : Option Bx :=
  match x, y with
  | .lit a, .lit b => some (.lit (Op.floatEq k a b))
  | x, y => match k with
    | .f64 => C.fh pc .eql x y
    | .f32 => none
theorem fltEq_den {C : Cx} {P : Program} {η : Env} (hC : C.Ok P η) {k : FloatKind} {x y : Fx} {pc : PC} {b : Bx} (hpc : pc.holds η) (w : World) (h : fltEq C k x y pc = some b) : b.den η = Op.floatEq k (x.den η) (y.den η) := by
  unfold fltEq at h
  split at h
  · cases h; rfl
  · split at h
    · have := hC.fh pc .eql x y b h hpc 0 w
      simp only [binOp, Op.floatCmp] at this
      simp only [if_false, ne_eq, not_true_eq_false, Sem.run_pure] at this
      injection this with e
      injection e with e
      rw [← e]; rfl
    · cases h

/-- Equality of the leaves of two aggregates, one by one. -/
def eqL (C : Cx) : List LK → List Sc → List Sc → PC → Tree (Bool × PC)
  | [], [], [], pc => .leaf (true, pc)
  | .int :: ks, .int k x :: xs, .int k' y :: ys, pc => bif decide (k = k') then orFail (eqX C.D k x y pc) fun b => branch C.D pc b fun t pc => match t with
      | true => eqL C ks xs ys pc
      | false => .leaf (false, pc)
    else .fail
  | .flt :: ks, .flt k x :: xs, .flt k' y :: ys, pc => bif decide (k = k') then orFail (fltEq C k x y pc) fun b => branch C.D pc b fun t pc => match t with
      | true => eqL C ks xs ys pc
      | false => .leaf (false, pc)
    else .fail
  | .cpx :: ks, .cpx k x y :: xs, .cpx k' u v :: ys, pc => bif decide (k = k') then orFail (fltEq C k x u pc) fun b => branch C.D pc b fun t pc => match t with
      | true => orFail (fltEq C k y v pc) fun b => branch C.D pc b fun t pc => match t with
        | true => eqL C ks xs ys pc
        | false => .leaf (false, pc)
      | false => .leaf (false, pc)
    else .fail
  | .str :: ks, .str x :: xs, .str y :: ys, pc => match bytesEq x y with
      | true => eqL C ks xs ys pc
      | false => .leaf (false, pc)
  | .bool :: ks, .bool x :: xs, .bool y :: ys, pc => branch C.D pc x fun s pc => branch C.D pc y fun t pc => match s == t with
      | true => eqL C ks xs ys pc
      | false => .leaf (false, pc)
  | _, _, _, _ => .fail

/-- The leaves' kinds, and how long the lists are. -/
def kindL : List LK → List Sc → List Sc → Bool
  | [], [], [] => true
  | .int :: ks, .int k _ :: xs, .int k' _ :: ys => decide (k = k') && kindL ks xs ys
  | .flt :: ks, .flt k _ :: xs, .flt k' _ :: ys => decide (k = k') && kindL ks xs ys
  | .cpx :: ks, .cpx k _ _ :: xs, .cpx k' _ _ :: ys => decide (k = k') && kindL ks xs ys
  | .str :: ks, .str _ :: xs, .str _ :: ys => kindL ks xs ys
  | .bool :: ks, .bool _ :: xs, .bool _ :: ys => kindL ks xs ys
  | _, _, _ => false

theorem denL_cons {η : Env} {E : Emb} {c : Sc} {l : List Sc} {r : List Value} (h : denL η E (c :: l) = some r) : ∃ v vs, c.den η E = some v ∧ denL η E l = some vs ∧ r = v :: vs := by
  simp only [denL] at h
  cases h1 : c.den η E with
  | none => simp [h1] at h
  | some v =>
    cases h2 : denL η E l with
    | none => simp [h1, h2] at h
    | some vs => simp [h1, h2] at h; exact ⟨v, vs, rfl, rfl, h.symm⟩

theorem kindL_fit {η : Env} {E : Emb} : ∀ (ks : List LK) (xs ys : List Sc) (vs ws : List Value), kindL ks xs ys = true → denL η E xs = some vs → denL η E ys = some ws → leavesFit ks vs ws = true := by
  intro ks
  induction ks with
  | nil =>
    intro xs ys vs ws h hx hy
    cases xs <;> cases ys <;> simp only [kindL] at h <;> first | (cases h; done) | (cases hx; cases hy; rfl)
  | cons k ks ih =>
    intro xs ys vs ws h hx hy
    cases xs with
    | nil => cases k <;> cases ys <;> simp [kindL] at h
    | cons x xs =>
      cases ys with
      | nil => cases k <;> cases x <;> simp [kindL] at h
      | cons y ys =>
        obtain ⟨v, vs', hv, hvs, rfl⟩ := denL_cons hx
        obtain ⟨u, us', hu, hus, rfl⟩ := denL_cons hy
        cases k <;> cases x <;> first | (simp [kindL] at h; done) | skip
        all_goals cases y <;> first | (simp [kindL] at h; done) | skip
        all_goals
          simp only [Sc.den, Option.some.injEq] at hv hu
          subst hv; subst hu
        all_goals simp only [kindL, Bool.and_eq_true, decide_eq_true_eq] at h
        all_goals simp only [leavesFit, LK.fits, Bool.true_and]
        case str.str.str => exact ih xs ys vs' us' h hvs hus
        case bool.bool.bool => exact ih xs ys vs' us' h hvs hus
        all_goals
          obtain ⟨rfl, h⟩ := h
          simp [ih xs ys vs' us' h hvs hus]

theorem eqL_run {C : Cx} {P : Program} {η : Env} {E : Emb} (hC : C.Ok P η) (w : World) : ∀ (ks : List LK) (xs ys : List Sc) (vs ws : List Value) (pc pc' : PC) (r : Bool), (eqL C ks xs ys pc).at_ η = some (r, pc') → pc.holds η →
    denL η E xs = some vs → denL η E ys = some ws → pc'.holds η ∧ leavesEq vs ws = r := by
  intro ks
  induction ks with
  | nil =>
    intro xs ys vs ws pc pc' r h hpc hx hy
    cases xs <;> cases ys <;> simp only [eqL] at h <;> first | (cases h; done) | skip
    simp only [Tree.at_, Option.some.injEq, Prod.mk.injEq] at h
    cases hx; cases hy
    exact ⟨h.2 ▸ hpc, h.1⟩
  | cons k ks ih =>
    intro xs ys vs ws pc pc' r h hpc hx hy
    cases xs with
    | nil => cases k <;> cases ys <;> simp [eqL, Tree.at_] at h
    | cons x xs =>
      cases ys with
      | nil => cases k <;> cases x <;> simp [eqL, Tree.at_] at h
      | cons y ys =>
        obtain ⟨v, vs', hv, hvs, rfl⟩ := denL_cons hx
        obtain ⟨u, us', hu, hus, rfl⟩ := denL_cons hy
        cases k <;> cases x <;> first | (simp [eqL, Tree.at_] at h; done) | skip
        all_goals cases y <;> first | (simp [eqL, Tree.at_] at h; done) | skip
        all_goals
          simp only [Sc.den, Option.some.injEq] at hv hu
          subst hv; subst hu
        all_goals simp only [eqL] at h
        all_goals simp only [leavesEq, leafEq]
        case int.int.int k1 x1 k2 y1 =>
          by_cases hk : k1 = k2
          · subst hk
            simp only [decide_true, cond_true] at h
            obtain ⟨b, h1, h2⟩ := at_orFail h
            obtain ⟨pc1, hp1, h3⟩ := at_branch hC.D hpc h2
            have e := eqX_den hC.D hpc h1
            cases hb : b.den η with
            | true =>
              rw [hb] at h3 e
              obtain ⟨h4, h5⟩ := ih xs ys vs' us' pc1 pc' r h3 hp1 hvs hus
              exact ⟨h4, by rw [← h5, of_decide_eq_true e.symm]; simp⟩
            | false =>
              rw [hb] at h3 e
              simp only [Tree.at_, Option.some.injEq, Prod.mk.injEq] at h3
              exact ⟨h3.2 ▸ hp1, by rw [← h3.1]; simp [of_decide_eq_false e.symm]⟩
          · simp [hk, Tree.at_] at h
        case flt.flt.flt k1 x1 k2 y1 =>
          by_cases hk : k1 = k2
          · subst hk
            simp only [decide_true, cond_true] at h
            obtain ⟨b, h1, h2⟩ := at_orFail h
            obtain ⟨pc1, hp1, h3⟩ := at_branch hC.D hpc h2
            have e := fltEq_den hC hpc w h1
            cases hb : b.den η with
            | true =>
              rw [hb] at h3 e
              obtain ⟨h4, h5⟩ := ih xs ys vs' us' pc1 pc' r h3 hp1 hvs hus
              exact ⟨h4, by rw [← h5, ← e]; simp⟩
            | false =>
              rw [hb] at h3 e
              simp only [Tree.at_, Option.some.injEq, Prod.mk.injEq] at h3
              exact ⟨h3.2 ▸ hp1, by rw [← h3.1, ← e]; simp⟩
          · simp [hk, Tree.at_] at h
        case cpx.cpx.cpx k1 x1 x2 k2 y1 y2 =>
          by_cases hk : k1 = k2
          · subst hk
            simp only [decide_true, cond_true] at h
            obtain ⟨b, h1, h2⟩ := at_orFail h
            obtain ⟨pc1, hp1, h3⟩ := at_branch hC.D hpc h2
            have e := fltEq_den hC hpc w h1
            cases hb : b.den η with
            | true =>
              rw [hb] at h3 e
              obtain ⟨b2, h1', h2'⟩ := at_orFail h3
              obtain ⟨pc2, hp2, h3'⟩ := at_branch hC.D hp1 h2'
              have e2 := fltEq_den hC hp1 w h1'
              cases hb2 : b2.den η with
              | true =>
                rw [hb2] at h3' e2
                obtain ⟨h4, h5⟩ := ih xs ys vs' us' pc2 pc' r h3' hp2 hvs hus
                exact ⟨h4, by rw [← h5, ← e, ← e2]; simp⟩
              | false =>
                rw [hb2] at h3' e2
                simp only [Tree.at_, Option.some.injEq, Prod.mk.injEq] at h3'
                exact ⟨h3'.2 ▸ hp2, by rw [← h3'.1, ← e2]; simp⟩
            | false =>
              rw [hb] at h3 e
              simp only [Tree.at_, Option.some.injEq, Prod.mk.injEq] at h3
              exact ⟨h3.2 ▸ hp1, by rw [← h3.1, ← e]; simp⟩
          · simp [hk, Tree.at_] at h
        case str.str.str =>
          rw [str_beq, ← bytesEq_eq]
          split at h
          · rename_i hb
            obtain ⟨h4, h5⟩ := ih xs ys vs' us' pc pc' r h hpc hvs hus
            exact ⟨h4, by rw [← h5, hb]; simp⟩
          · rename_i hb
            simp only [Tree.at_, Option.some.injEq, Prod.mk.injEq] at h
            exact ⟨h.2 ▸ hpc, by rw [← h.1, hb]; simp⟩
        case bool.bool.bool x1 y1 =>
          obtain ⟨pc1, hp1, h3⟩ := at_branch hC.D hpc h
          obtain ⟨pc2, hp2, h4⟩ := at_branch hC.D hp1 h3
          split at h4
          · rename_i hb
            obtain ⟨h5, h6⟩ := ih xs ys vs' us' pc2 pc' r h4 hp2 hvs hus
            exact ⟨h5, by rw [← h6, hb]; simp⟩
          · rename_i hb
            simp only [Tree.at_, Option.some.injEq, Prod.mk.injEq] at h4
            exact ⟨h4.2 ▸ hp2, by rw [← h4.1, hb]; simp⟩

end
end Go.Ex


namespace Go.Ex
open Go Go.RowKit
noncomputable section

def isArith : BinOp → Bool
  | .add | .sub | .mul | .quo | .rem => true
  | _ => false
def iopH (C : Cx) (pc : PC) (op : BinOp) (k : IntKind) (a b : Ix) : Option Ix :=
  match iop op k a b with
  | some z => some z
  | none => match k with
    | .i64 => C.ih pc op a b
    | _ => none

theorem iopH_run {C : Cx} {P : Program} {η : Env} (hC : C.Ok P η) {op : BinOp} {k : IntKind} {x y z : Ix} {pc : PC} (hpc : pc.holds η) (w : World) (t : TypeId) (h : iopH C pc op k x y = some z) :
    (binOp op t (.int k (x.den η)) (.int k (y.den η))).run P w = .ok (.int k (z.den η)) w := by
  unfold iopH at h
  split at h
  · rename_i z' hz; cases h; exact iop_run w t hz
  · split at h
    · exact hC.ih pc op x y z h hpc t w
    · cases h

def fltTest (C : Cx) (op : BinOp) (k : FloatKind) (x y : Fx) (pc : PC) : Option Bx :=
  match x, y with
  | .lit a, .lit b => match op with
    | .eql => some (.lit (k.format.order a b == some .eq))
    | .neq => some (.lit (k.format.order a b != some .eq))
    | .lss => some (.lit (k.format.order a b == some .lt))
    | .leq => some (.lit (k.format.order a b == some .lt || k.format.order a b == some .eq))
    | .gtr => some (.lit (k.format.order a b == some .gt))
    | .geq => some (.lit (k.format.order a b == some .gt || k.format.order a b == some .eq))
    | _ => none
  | x, y => match k with
    | .f64 => C.fh pc op x y
    | .f32 => none
theorem fltTest_run {C : Cx} {P : Program} {η : Env} (hC : C.Ok P η) {op : BinOp} {k : FloatKind} {x y : Fx} {b : Bx} {pc : PC} (hpc : pc.holds η) (w : World) (t : TypeId) (h : fltTest C op k x y pc = some b) :
    (binOp op t (.float k (x.den η)) (.float k (y.den η))).run P w = .ok (.bool (b.den η)) w := by
  unfold fltTest at h
  split at h
  · split at h <;> first | (cases h; simp [binOp, Op.floatCmp, Fx.den, Bx.den]; done) | cases h
  · split at h
    · exact hC.fh pc op x y b h hpc t w
    · cases h

def fltOp (C : Cx) (op : BinOp) (k : FloatKind) (x y : Fx) (pc : PC) : Option Fx :=
  match x, y with
  | .lit a, .lit b => (floatBits op k a b).map .lit
  | x, y => match k with
    | .f64 => C.fa pc op x y
    | .f32 => none
theorem fltOp_run {C : Cx} {P : Program} {η : Env} (hC : C.Ok P η) {op : BinOp} {k : FloatKind} {x y z : Fx} {pc : PC} (hpc : pc.holds η) (w : World) (t : TypeId) (h : fltOp C op k x y pc = some z) :
    (binOp op t (.float k (x.den η)) (.float k (y.den η))).run P w = .ok (.float k (z.den η)) w := by
  unfold fltOp at h
  split at h
  · rename_i a b
    cases hb : floatBits op k a b with
    | none => rw [hb] at h; cases h
    | some r => rw [hb] at h; cases h; exact run_float_arith w op t k a b r hb
  · split at h
    · exact hC.fa pc op x y z h hpc t w
    · cases h

def cpxOp (C : Cx) (op : BinOp) (k : FloatKind) (a b c d : Fx) (pc : PC) : Option (Fx × Fx) :=
  match k with
  | .f64 => C.ch pc op a b c d
  | .f32 => none

def binX (C : Cx) (op : BinOp) (t : TypeId) (x y : Sv) (pc : PC) : Tree (Sv × PC) :=
  match x, y with
  | .one (.int k a), .one (.int k' b) => bif decide (k = k') then
      (bif isArith op then orFail (iopH C pc op k a b) fun z => .leaf (.one (.int k z), pc) else intTest C op k a b pc) else .fail
  | .one (.bool a), .one (.bool b) => match C.tt.get t with
    | some ti => match ti.d, op with
      | .bool, .eql => branch C.D pc a fun s pc => .leaf (.one (.bool (bif s then b else b.not)), pc)
      | .bool, .neq => branch C.D pc a fun s pc => .leaf (.one (.bool (bif s then b.not else b)), pc)
      | _, _ => .fail
    | none => .fail
  | .one (.flt k a), .one (.flt k' b) => bif decide (k = k') then
      (bif isArith op then orFail (fltOp C op k a b pc) fun z => .leaf (.one (.flt k z), pc) else orFail (fltTest C op k a b pc) fun b => .leaf (.one (.bool b), pc)) else .fail
  | .one (.cpx k a b), .one (.cpx k' c d) => bif decide (k = k') then
      (match op with
      | .eql => orFail (fltEq C k a c pc) fun e => branch C.D pc e fun s pc => match s with
        | true => orFail (fltEq C k b d pc) fun e => .leaf (.one (.bool e), pc)
        | false => .leaf (.one (.bool (.lit false)), pc)
      | .neq => orFail (fltEq C k a c pc) fun e => branch C.D pc e fun s pc => match s with
        | true => orFail (fltEq C k b d pc) fun e => .leaf (.one (.bool e.not), pc)
        | false => .leaf (.one (.bool (.lit true)), pc)
      | op => orFail (cpxOp C op k a b c d pc) fun r => .leaf (.one (.cpx k r.1 r.2), pc)) else .fail
  | .one (.str a), .one (.str b) => match op with
    | .eql => .leaf (.one (.bool (.lit (bytesEq a b))), pc)
    | .neq => .leaf (.one (.bool (.lit (!(bytesEq a b)))), pc)
    | .add => bif Nat.blt (a.length + b.length) 1000000 then .leaf (.one (.str (a ++ b)), pc) else .fail
    | _ => .fail
  | .agg xs, .agg ys => match C.tt.get t with
    | some ti => match ti.eqs with
      | some ks => bif kindL ks xs ys then (match op with
        | .eql => (eqL C ks xs ys pc).bind fun r => .leaf (.one (.bool (.lit r.1)), r.2)
        | .neq => (eqL C ks xs ys pc).bind fun r => .leaf (.one (.bool (.lit (!r.1))), r.2)
        | _ => .fail) else .fail
      | none => .fail
    | none => .fail
  | _, _ => .fail

theorem guarded {P : Program} {w : World} {op : BinOp} {t : TypeId} {xo yo : Operand} {a b v : Value} (hg : (eqGuard op t xo yo a b).run P w = .ok () w) (h : (binOp op t a b).run P w = .ok v w) :
    (do eqGuard op t xo yo a b; binOp op t a b : Sem Value).run P w = .ok v w := by
  rw [Sem.run_bind, hg]; exact h

theorem run_floatEq {P : Program} (w : World) (k : FloatKind) (a b : Nat) : (Op.Complex.cmp .eql k a b).run P w = .ok (Op.floatEq k a b) w := by
  simp [Op.Complex.cmp, Op.floatCmp, asBool, Op.floatEq]

theorem agg_not_iface (cs : Array Value) (b : Value) : ¬ (Value.agg cs = .nilIface ∧ b = .nilIface) := fun h => by cases h.1

theorem binX_run {C : Cx} {P : Program} {η : Env} {E : Emb} (hC : C.Ok P η) {op : BinOp} {t : TypeId} {x y sv : Sv} {pc pc' : PC} (hpc : pc.holds η) (h : (binX C op t x y pc).at_ η = some (sv, pc'))
    {va vb : Value} (hx : x.den η E = some va) (hy : y.den η E = some vb) (xo yo : Operand) :
    pc'.holds η ∧ ∃ v, sv.den η E = some v ∧ ∀ w, (do eqGuard op t xo yo va vb; binOp op t va vb : Sem Value).run P w = .ok v w := by
  unfold binX at h
  split at h
  · -- ints
    rename_i k a k' b
    simp only [Sv.den, Sc.den, Option.some.injEq] at hx hy
    subst hx; subst hy
    by_cases hk : k = k'
    · subst hk
      simp only [decide_true, cond_true] at h
      have hg : ∀ w, (eqGuard op t xo yo (.int k (a.den η)) (.int k (b.den η))).run P w = .ok () w := fun w => run_eqGuard_none w op t xo yo _ _ (fun h => by cases h.1) (fun _ _ h => by cases h.1)
      cases ha : isArith op with
      | true =>
        rw [ha] at h
        obtain ⟨z, h1, h2⟩ := at_orFail h
        simp only [Tree.at_, Option.some.injEq, Prod.mk.injEq] at h2
        obtain ⟨rfl, rfl⟩ := h2
        exact ⟨hpc, _, rfl, fun w => guarded (hg w) (iopH_run hC hpc w t h1)⟩
      | false =>
        rw [ha] at h
        obtain ⟨h1, bx, rfl, h2⟩ := intTest_run hC hpc h
        exact ⟨h1, _, rfl, fun w => guarded (hg w) (h2 w t)⟩
    · simp [hk, Tree.at_] at h
  · -- bools
    rename_i a b
    simp only [Sv.den, Sc.den, Option.some.injEq] at hx hy
    subst hx; subst hy
    split at h
    · rename_i ti hti
      have hu := (hC.tt t ti hti).und
      split at h
      · rename_i hd
        rw [hd] at hu
        obtain ⟨pc1, hp1, h1⟩ := at_branch hC.D hpc h
        simp only [Tree.at_, Option.some.injEq, Prod.mk.injEq] at h1
        obtain ⟨rfl, rfl⟩ := h1
        refine ⟨hp1, _, rfl, fun w => guarded (run_eqGuard_none w _ t xo yo _ _ (fun h => by cases h.1) (fun _ _ h => by cases h.1)) ?_⟩
        rw [run_eql_bool w t _ _ hu]
        cases ha : a.den η <;> simp [Bx.den_not]
      · rename_i hd
        rw [hd] at hu
        obtain ⟨pc1, hp1, h1⟩ := at_branch hC.D hpc h
        simp only [Tree.at_, Option.some.injEq, Prod.mk.injEq] at h1
        obtain ⟨rfl, rfl⟩ := h1
        refine ⟨hp1, _, rfl, fun w => guarded (run_eqGuard_none w _ t xo yo _ _ (fun h => by cases h.1) (fun _ _ h => by cases h.1)) ?_⟩
        rw [run_neq_bool w t _ _ hu]
        cases ha : a.den η <;> simp [Bx.den_not]
      · cases h
    · cases h
  · -- floats
    rename_i k a k' b
    simp only [Sv.den, Sc.den, Option.some.injEq] at hx hy
    subst hx; subst hy
    by_cases hk : k = k'
    · subst hk
      simp only [decide_true, cond_true] at h
      have hg : ∀ w, (eqGuard op t xo yo (.float k (a.den η)) (.float k (b.den η))).run P w = .ok () w := fun w => run_eqGuard_none w op t xo yo _ _ (fun h => by cases h.1) (fun _ _ h => by cases h.1)
      cases ha : isArith op with
      | true =>
        rw [ha] at h
        obtain ⟨z, h1, h2⟩ := at_orFail h
        simp only [Tree.at_, Option.some.injEq, Prod.mk.injEq] at h2
        obtain ⟨rfl, rfl⟩ := h2
        exact ⟨hpc, _, rfl, fun w => guarded (hg w) (fltOp_run hC hpc w t h1)⟩
      | false =>
        rw [ha] at h
        obtain ⟨z, h1, h2⟩ := at_orFail h
        simp only [Tree.at_, Option.some.injEq, Prod.mk.injEq] at h2
        obtain ⟨rfl, rfl⟩ := h2
        exact ⟨hpc, _, rfl, fun w => guarded (hg w) (fltTest_run hC hpc w t h1)⟩
    · simp [hk, Tree.at_] at h
  · -- complex
    rename_i k a b k' c d
    simp only [Sv.den, Sc.den, Option.some.injEq] at hx hy
    subst hx; subst hy
    by_cases hk : k = k'
    · subst hk
      simp only [decide_true, cond_true] at h
      have hg : ∀ w, (eqGuard op t xo yo (.complex k (a.den η) (b.den η)) (.complex k (c.den η) (d.den η))).run P w = .ok () w := fun w => run_eqGuard_none w op t xo yo _ _ (fun h => by cases h.1) (fun _ _ h => by cases h.1)
      split at h
      · obtain ⟨e, h1, h2⟩ := at_orFail h
        obtain ⟨pc1, hp1, h3⟩ := at_branch hC.D hpc h2
        split at h3
        · rename_i hs
          obtain ⟨e2, h4, h5⟩ := at_orFail h3
          simp only [Tree.at_, Option.some.injEq, Prod.mk.injEq] at h5
          obtain ⟨rfl, rfl⟩ := h5
          refine ⟨hp1, _, rfl, fun w => guarded (hg w) ?_⟩
          have e1 := fltEq_den hC hpc w h1
          have e3 := fltEq_den hC hp1 w h4
          rw [hs] at e1
          simp [binOp, Op.complexOp, run_floatEq, ← e1, ← e3]
        · rename_i hs
          simp only [Tree.at_, Option.some.injEq, Prod.mk.injEq] at h3
          obtain ⟨rfl, rfl⟩ := h3
          refine ⟨hp1, _, rfl, fun w => guarded (hg w) ?_⟩
          have e1 := fltEq_den hC hpc w h1
          rw [hs] at e1
          simp [binOp, Op.complexOp, run_floatEq, ← e1, Bx.den]
      · obtain ⟨e, h1, h2⟩ := at_orFail h
        obtain ⟨pc1, hp1, h3⟩ := at_branch hC.D hpc h2
        split at h3
        · rename_i hs
          obtain ⟨e2, h4, h5⟩ := at_orFail h3
          simp only [Tree.at_, Option.some.injEq, Prod.mk.injEq] at h5
          obtain ⟨rfl, rfl⟩ := h5
          refine ⟨hp1, _, rfl, fun w => guarded (hg w) ?_⟩
          have e1 := fltEq_den hC hpc w h1
          have e3 := fltEq_den hC hp1 w h4
          rw [hs] at e1
          simp [binOp, Op.complexOp, run_floatEq, ← e1, ← e3, Bx.den_not]
        · rename_i hs
          simp only [Tree.at_, Option.some.injEq, Prod.mk.injEq] at h3
          obtain ⟨rfl, rfl⟩ := h3
          refine ⟨hp1, _, rfl, fun w => guarded (hg w) ?_⟩
          have e1 := fltEq_den hC hpc w h1
          rw [hs] at e1
          simp [binOp, Op.complexOp, run_floatEq, ← e1, Bx.den]
      · obtain ⟨r, h1, h2⟩ := at_orFail h
        simp only [Tree.at_, Option.some.injEq, Prod.mk.injEq] at h2
        obtain ⟨rfl, rfl⟩ := h2
        refine ⟨hpc, _, rfl, fun w => guarded (hg w) ?_⟩
        unfold cpxOp at h1
        split at h1
        · exact hC.ch pc _ a b c d r h1 hpc t w
        · cases h1
    · simp [hk, Tree.at_] at h
  · -- strings
    rename_i a b
    simp only [Sv.den, Sc.den, Option.some.injEq] at hx hy
    subst hx; subst hy
    have hg : ∀ w, (eqGuard op t xo yo (.string ⟨a.toArray⟩) (.string ⟨b.toArray⟩)).run P w = .ok () w := fun w => run_eqGuard_none w op t xo yo _ _ (fun h => by cases h.1) (fun _ _ h => by cases h.1)
    split at h
    · simp only [Tree.at_, Option.some.injEq, Prod.mk.injEq] at h
      obtain ⟨rfl, rfl⟩ := h
      exact ⟨hpc, _, rfl, fun w => guarded (hg w) (by simp [binOp, Op.stringOp, Bx.den, bytesEq_eq])⟩
    · simp only [Tree.at_, Option.some.injEq, Prod.mk.injEq] at h
      obtain ⟨rfl, rfl⟩ := h
      exact ⟨hpc, _, rfl, fun w => guarded (hg w) (by simp [binOp, Op.stringOp, Bx.den, bytesEq_eq])⟩
    · cases hl : Nat.blt (a.length + b.length) 1000000 with
      | false => rw [hl] at h; cases h
      | true =>
        rw [hl] at h
        simp only [cond_true, Tree.at_, Option.some.injEq, Prod.mk.injEq] at h
        obtain ⟨rfl, rfl⟩ := h
        have hlt := Nat.le_of_ble_eq_true hl
        refine ⟨hpc, _, rfl, fun w => guarded (hg w) ?_⟩
        have hn : ¬ ((((⟨a.toArray⟩ : ByteArray).size + (⟨b.toArray⟩ : ByteArray).size : Nat) : Int) > IntKind.i64.max) := by
          have e1 : (⟨a.toArray⟩ : ByteArray).size = a.length := by simp [ByteArray.size]
          have e2 : (⟨b.toArray⟩ : ByteArray).size = b.length := by simp [ByteArray.size]
          have e3 : IntKind.i64.max = 9223372036854775807 := by decide
          rw [e1, e2, e3]; omega
        simp only [binOp, Op.stringOp, if_neg hn, Sem.run_pure]
        congr 2
    · cases h
  · -- aggregates
    rename_i xs ys
    split at h
    · rename_i ti hti
      split at h
      · rename_i ks hks
        obtain ⟨hq1, hq2⟩ := (hC.tt t ti hti).eqs ks hks
        cases hk : kindL ks xs ys with
        | false => rw [hk] at h; cases h
        | true =>
          rw [hk] at h
          simp only [cond_true] at h
          simp only [Sv.den] at hx hy
          cases hvs : denL η E xs with
          | none => rw [hvs] at hx; cases hx
          | some vs =>
            cases hws : denL η E ys with
            | none => rw [hws] at hy; cases hy
            | some ws =>
              rw [hvs] at hx; rw [hws] at hy
              simp only [Option.map_some, Option.some.injEq] at hx hy
              subst hx; subst hy
              have hfit := kindL_fit ks xs ys vs ws hk hvs hws
              split at h
              · obtain ⟨⟨r, pc1⟩, h1, h2⟩ := Tree.at_bind h
                simp only [Tree.at_, Option.some.injEq, Prod.mk.injEq] at h2
                obtain ⟨rfl, rfl⟩ := h2
                refine ⟨(eqL_run hC default ks xs ys vs ws pc pc1 r h1 hpc hvs hws).1, _, rfl, fun w => guarded (run_eqGuard_agg w _ t xo yo _ _ hq1) ?_⟩
                rw [run_eql_struct, hq2 vs ws w hfit, (eqL_run hC w ks xs ys vs ws pc pc1 r h1 hpc hvs hws).2]; rfl
              · obtain ⟨⟨r, pc1⟩, h1, h2⟩ := Tree.at_bind h
                simp only [Tree.at_, Option.some.injEq, Prod.mk.injEq] at h2
                obtain ⟨rfl, rfl⟩ := h2
                refine ⟨(eqL_run hC default ks xs ys vs ws pc pc1 r h1 hpc hvs hws).1, _, rfl, fun w => guarded (run_eqGuard_agg w _ t xo yo _ _ hq1) ?_⟩
                rw [run_neq_struct, hq2 vs ws w hfit, (eqL_run hC w ks xs ys vs ws pc pc1 r h1 hpc hvs hws).2]; rfl
              · cases h
      · cases h
    · cases h
  · cases h

/-! ## Unary -/
def unX (op : UnOp) (x : Sv) : Option Sv :=
  match op, x with
  | .not, .one (.bool b) => some (.one (.bool b.not))
  | .neg, .one (.int k (.lit n)) => some (.one (.int k (.lit (wrapQ k (0 - n)))))
  | .neg, .one (.int .i64 (.poly p)) => some (.one (.int .i64 (mkI (pneg p))))
  | .neg, .one (.flt k (.lit b)) => some (.one (.flt k (.lit (Op.negFloat k b))))
  | .neg, .one (.flt .f64 (.ofI p)) => some (.one (.flt .f64 (.neg p)))
  | .neg, .one (.cpx k (.lit a) (.lit b)) => some (.one (.cpx k (.lit (Op.negFloat k a)) (.lit (Op.negFloat k b))))
  | _, _ => none
theorem unX_run {P : Program} {η : Env} {E : Emb} {op : UnOp} {x sv : Sv} {va : Value} (h : unX op x = some sv) (hx : x.den η E = some va) :
    ∃ v, sv.den η E = some v ∧ ∀ w, (Op.unary op va).run P w = .ok v w := by
  unfold unX at h
  split at h
  · cases h; cases hx; exact ⟨_, rfl, fun w => by simp [Op.unary, Bx.den_not]⟩
  · cases h; cases hx; exact ⟨_, rfl, fun w => by simp [Op.unary, Op.intArith, Ix.den, wrapQ_eq]⟩
  · rename_i p
    cases h; cases hx
    refine ⟨_, rfl, fun w => ?_⟩
    rw [mkI_den, evP_pneg]
    simp only [Op.unary, Op.intArith, Ix.den, Sem.run_pure]
    have e : IntKind.i64.wrap (0 - wr (evP η.i p)) = wr (-(evP η.i p)) := by
      rw [Int.zero_sub]; exact wr_neg (evP η.i p)
    rw [e]
  · cases h; cases hx; exact ⟨_, rfl, fun w => by simp [Op.unary, Fx.den]⟩
  · cases h; cases hx; exact ⟨_, rfl, fun w => by simp [Op.unary, Fx.den]⟩
  · cases h; cases hx; exact ⟨_, rfl, fun w => by simp [Op.unary, Fx.den]⟩
  · cases h

/-! ## Conversions -/
def convX (C : Cx) (s d : TypeId) (x : Sv) (pc : PC) : Option Sv :=
  match C.tt.get s, C.tt.get d with
  | some si, some di => match si.d, di.d, x with
    | .int _, .int k, .one (.int _ (.lit n)) => some (.one (.int k (.lit (wrapQ k n))))
    | .int _, .int .i64, .one (.int .i64 (.poly p)) => some (.one (.int .i64 (.poly p)))
    | .int _, .float k, .one (.int _ (.lit n)) => some (.one (.flt k (.lit (k.nearest n))))
    | .int _, .float .f64, .one (.int .i64 (.poly p)) => some (.one (.flt .f64 (.ofI p)))
    | .float _, .int k, .one (.flt s (.lit b)) => match floatToIntVal s b k with
      | some n => some (.one (.int k (.lit n)))
      | none => none
    | .float _, .int .i64, .one (.flt .f64 f) => match C.f2i pc f with
      | some z => some (.one (.int .i64 z))
      | none => none
    | .float _, .float .f64, .one (.flt .f64 f) => some (.one (.flt .f64 f))
    | .string, .string, .one (.str l) => some (.one (.str l))
    | _, _, _ => none
  | _, _ => none

theorem convX_run {C : Cx} {P : Program} {η : Env} {E : Emb} (hC : C.Ok P η) {s d : TypeId} {x sv : Sv} {pc : PC} {va : Value} (hpc : pc.holds η) (h : convX C s d x pc = some sv) (hx : x.den η E = some va) :
    ∃ v, sv.den η E = some v ∧ ∀ w, (convert s d va).run P w = .ok v w := by
  unfold convX at h
  split at h
  · rename_i si di hs hd
    have us := (hC.tt s si hs).und
    have ud := (hC.tt d di hd).und
    split at h
    · rename_i e1 e2; rw [e1] at us; rw [e2] at ud
      cases h; cases hx
      exact ⟨_, rfl, fun w => by simp [convert, run_underlying us, run_underlying ud, Conv.intToInt, Ix.den, wrapQ_eq]⟩
    · rename_i e1 e2; rw [e1] at us; rw [e2] at ud
      cases h; cases hx
      refine ⟨_, rfl, fun w => ?_⟩
      simp only [convert, Sem.run_bind, run_underlying us, run_underlying ud, Result.andThen_ok, Conv.intToInt, Sem.run_pure, Ix.den]
      rw [show IntKind.i64.wrap (wr (evP η.i _)) = wr (evP η.i _) from wr_wr _]
    · rename_i e1 e2; rw [e1] at us; rw [e2] at ud
      cases h; cases hx
      exact ⟨_, rfl, fun w => by simp [convert, run_underlying us, run_underlying ud, Conv.intToFloat, Ix.den, Fx.den]⟩
    · rename_i e1 e2; rw [e1] at us; rw [e2] at ud
      cases h; cases hx
      exact ⟨_, rfl, fun w => by simp [convert, run_underlying us, run_underlying ud, Conv.intToFloat, Ix.den, Fx.den]⟩
    · rename_i e1 e2; rw [e1] at us; rw [e2] at ud
      split at h
      · rename_i n hn
        cases h; cases hx
        exact ⟨_, rfl, fun w => run_convert_float_int w s d _ _ _ n (by rw [us]; rfl) ud hn⟩
      · cases h
    · rename_i e1 e2; rw [e1] at us; rw [e2] at ud
      split at h
      · rename_i z hz
        cases h; cases hx
        exact ⟨_, rfl, fun w => by simp only [convert, Sem.run_bind, run_underlying us, run_underlying ud, Result.andThen_ok]; exact hC.f2i pc _ z hz hpc w⟩
      · cases h
    · rename_i e1 e2; rw [e1] at us; rw [e2] at ud
      cases h; cases hx
      exact ⟨_, rfl, fun w => by simp [convert, run_underlying us, run_underlying ud, Conv.floatToFloat]⟩
    · rename_i e1 e2; rw [e1] at us; rw [e2] at ud
      cases h; cases hx
      exact ⟨_, rfl, fun w => by simp [convert, run_underlying us, run_underlying ud]⟩
    · cases h
  · cases h

end
end Go.Ex


namespace Go.Ex
open Go Go.RowKit
noncomputable section

theorem addr_add (B o n : Nat) : (⟨B, o, none⟩ : Addr).add n = ⟨B, o + n, none⟩ := by
  unfold Addr.add; split <;> simp_all

def nth {α : Type} (l : List α) (n : Nat) : Option α :=
  match l.drop n with
  | c :: _ => some c
  | [] => none
theorem nth_eq {α : Type} : ∀ (l : List α) (n : Nat), nth l n = l[n]?
  | [], n => by simp [nth]
  | c :: l, 0 => by simp [nth]
  | c :: l, n + 1 => by have := nth_eq l n; simpa [nth] using this

def takeN : Nat → List Sc → Option (List Sc)
  | 0, _ => some []
  | _ + 1, [] => none
  | n + 1, c :: l => match takeN n l with
    | some m => some (c :: m)
    | none => none

theorem denL_drop {η : Env} {E : Emb} : ∀ (n : Nat) {l : List Sc} {vs : List Value}, denL η E l = some vs → denL η E (l.drop n) = some (vs.drop n)
  | 0, l, vs, h => by simpa using h
  | n + 1, [], vs, h => by cases h; rfl
  | n + 1, c :: l, vs, h => by
    obtain ⟨v, us, _, h2, rfl⟩ := denL_cons h
    simpa using denL_drop n h2

theorem denL_takeN {η : Env} {E : Emb} : ∀ (n : Nat) {l m : List Sc} {vs : List Value}, takeN n l = some m → denL η E l = some vs → denL η E m = some (vs.take n) ∧ (vs.take n).length = n
  | 0, l, m, vs, h, _ => by cases h; exact ⟨by simp [denL], by simp⟩
  | n + 1, [], m, vs, h, _ => by cases h
  | n + 1, c :: l, m, vs, h, hl => by
    obtain ⟨v, us, h1, h2, rfl⟩ := denL_cons hl
    simp only [takeN] at h
    split at h
    · rename_i m' hm
      cases h
      obtain ⟨h3, h4⟩ := denL_takeN n hm h2
      exact ⟨by simp [denL, h1, h3], by simp only [List.take_succ_cons, List.length_cons, h4]⟩
    · cases h

theorem denL_length {η : Env} {E : Emb} : ∀ {l : List Sc} {vs : List Value}, denL η E l = some vs → vs.length = l.length
  | [], vs, h => by cases h; rfl
  | c :: l, vs, h => by
    obtain ⟨v, us, _, h2, rfl⟩ := denL_cons h
    simp [denL_length h2]

theorem denL_nth {η : Env} {E : Emb} {l : List Sc} {vs : List Value} {n : Nat} {c : Sc} (h : denL η E l = some vs) (hc : nth l n = some c) : ∃ v, c.den η E = some v ∧ vs[n]? = some v := by
  unfold nth at hc
  have hd := denL_drop n h
  split at hc
  · rename_i c' l' hl
    cases hc
    rw [hl] at hd
    obtain ⟨v, us, h1, _, h3⟩ := denL_cons hd
    refine ⟨v, h1, ?_⟩
    have : (vs.drop n)[0]? = some v := by rw [h3]; rfl
    simpa using this
  · cases hc

theorem run_isAgg {P : Program} {t : TypeId} {d : TypeDesc} (h : P.underlying t = some d) (w : World) : (isAgg t).run P w = .ok (isAggD d) w := by
  cases d <;> simp [isAgg, run_underlying h, isAggD]
theorem TI.Ok.run_size {P : Program} {t : TypeId} {x : TI} (h : TI.Ok P t x) (w : World) : (sizeOf t).run P w = .ok x.size w := by
  obtain ⟨i, z, h1, h2, _⟩ := h.inf
  simp [sizeOf, typeInfo, h1, h2]
theorem TI.Ok.run_agg {P : Program} {t : TypeId} {x : TI} (h : TI.Ok P t x) (w : World) : (isAgg t).run P w = .ok x.agg w := by
  rw [h.agg]; exact run_isAgg h.und w

/-! ## Loads -/
def loadX (C : Cx) (hp : T Blk) (t : TypeId) (x : Sv) : Option Sv :=
  match x with
  | .one (.ptr (some (b, o))) => match C.tt.get t, hp.get b with
    | some ti, some (.cells _ _ l) => bif ti.agg then (takeN ti.size (l.drop o)).map .agg else (nth l o).map .one
    | _, _ => none
  | .one (.aptr b o) => match C.tt.get t, hp.get b with
    | some ti, some (.arow l) => bif ti.agg then (takeN ti.size (l.drop o)).map .agg else (nth l o).map .one
    | _, _ => none
  | _ => none

theorem run_loadVar {P : Program} {η : Env} {E : Emb} {t : TypeId} {ti : TI} (hti : TI.Ok P t ti) {l : List Sc} {o : Nat} {sv : Sv} {w : World} {B : Nat} {c : Array Value} {e : TypeId} {vs rest : List Value}
    (hB : w.heap[B]? = some (.cells c e (0, 0))) (hl : denL η E l = some vs) (hc : c.toList = vs ++ rest)
    (h : (bif ti.agg then (takeN ti.size (l.drop o)).map .agg else (nth l o).map .one) = some sv) :
    ∃ v, sv.den η E = some v ∧ (loadVar t ⟨B, o, none⟩).run P w = .ok v w := by
  have hcell : ∀ j v, vs[j]? = some v → w.cell? ⟨B, j, none⟩ = some v := by
    intro j v hj
    rw [cell_of_row w B j c e (0, 0) hB]
    rw [← Array.getElem?_toList, hc, List.getElem?_append_left (List.getElem?_eq_some_iff.1 hj).1]
    exact hj
  cases ha : ti.agg with
  | true =>
    rw [ha] at h
    simp only [cond_true] at h
    cases ht : takeN ti.size (l.drop o) with
    | none => rw [ht] at h; cases h
    | some m =>
      rw [ht] at h; cases h
      obtain ⟨h1, h2⟩ := denL_takeN _ ht (denL_drop o hl)
      refine ⟨.agg ((vs.drop o).take ti.size).toArray, by simp [Sv.den, h1], ?_⟩
      simp only [loadVar, Sem.run_bind, hti.run_agg, ha, Result.andThen_ok, if_true, hti.run_size]
      have := run_loadCells_list (P := P) w ⟨B, o, none⟩ ((vs.drop o).take ti.size) (fun j v hj => by
        rw [addr_add]
        apply hcell
        rw [List.getElem?_take] at hj
        split at hj
        · rw [List.getElem?_drop] at hj; exact hj
        · cases hj)
      rw [h2] at this
      rw [this]; rfl
  | false =>
    rw [ha] at h
    simp only [cond_false] at h
    cases ht : nth l o with
    | none => rw [ht] at h; cases h
    | some m =>
      rw [ht] at h; cases h
      obtain ⟨v, h1, h2⟩ := denL_nth hl ht
      refine ⟨v, h1, ?_⟩
      simp only [loadVar, Sem.run_bind, hti.run_agg, ha, Result.andThen_ok, Bool.false_eq_true, if_false, run_load, hcell o v h2]

theorem run_loadArg {P : Program} {η : Env} {E : Emb} {t : TypeId} {ti : TI} (hti : TI.Ok P t ti) {l : List Sc} {o off : Nat} {sv : Sv} {w : World} {B : Nat} {vs : List Value}
    (hcell : ∀ j v, vs[j]? = some v → w.cell? ⟨B, off + j, none⟩ = some v) (hl : denL η E l = some vs)
    (h : (bif ti.agg then (takeN ti.size (l.drop o)).map .agg else (nth l o).map .one) = some sv) :
    ∃ v, sv.den η E = some v ∧ (loadVar t ⟨B, off + o, none⟩).run P w = .ok v w := by
  cases ha : ti.agg with
  | true =>
    rw [ha] at h
    simp only [cond_true] at h
    cases ht : takeN ti.size (l.drop o) with
    | none => rw [ht] at h; cases h
    | some m =>
      rw [ht] at h; cases h
      obtain ⟨h1, h2⟩ := denL_takeN _ ht (denL_drop o hl)
      refine ⟨.agg ((vs.drop o).take ti.size).toArray, by simp [Sv.den, h1], ?_⟩
      simp only [loadVar, Sem.run_bind, hti.run_agg, ha, Result.andThen_ok, if_true, hti.run_size]
      have := run_loadCells_list (P := P) w ⟨B, off + o, none⟩ ((vs.drop o).take ti.size) (fun j v hj => by
        rw [addr_add, Nat.add_assoc]
        apply hcell
        rw [List.getElem?_take] at hj
        split at hj
        · rw [List.getElem?_drop] at hj; exact hj
        · cases hj)
      rw [h2] at this
      rw [this]; rfl
  | false =>
    rw [ha] at h
    simp only [cond_false] at h
    cases ht : nth l o with
    | none => rw [ht] at h; cases h
    | some m =>
      rw [ht] at h; cases h
      obtain ⟨v, h1, h2⟩ := denL_nth hl ht
      refine ⟨v, h1, ?_⟩
      simp only [loadVar, Sem.run_bind, hti.run_agg, ha, Result.andThen_ok, Bool.false_eq_true, if_false, run_load, hcell o v h2]
theorem aptr_den {η : Env} {E : Emb} {b o : Nat} {va : Value} (h : (Sv.one (.aptr b o)).den η E = some va) : ∃ B K, E b = some (B, K) ∧ va = .pointer (some ⟨B, K + o, none⟩) := by
  simp only [Sv.den, Sc.den, Option.map_eq_some_iff] at h
  obtain ⟨⟨B, K⟩, h1, rfl⟩ := h
  exact ⟨B, K, h1, rfl⟩
theorem aptr_mk {η : Env} {E : Emb} {b o B K : Nat} (h : E b = some (B, K)) : (Sv.one (.aptr b o)).den η E = some (.pointer (some ⟨B, K + o, none⟩)) := by
  simp [Sv.den, Sc.den, h]
theorem asl_den {η : Env} {E : Emb} {b c : Nat} {n : Ix} {va : Value} (h : (Sv.one (.asl b n c)).den η E = some va) : ∃ B K, E b = some (B, K) ∧ va = .slice (some ⟨B, K, none⟩) (n.den η).toNat (η.i c).toNat := by
  simp only [Sv.den, Sc.den, Option.map_eq_some_iff] at h
  obtain ⟨⟨B, K⟩, h1, rfl⟩ := h
  exact ⟨B, K, h1, rfl⟩

theorem ptr_den {η : Env} {E : Emb} {b o : Nat} {va : Value} (h : (Sv.one (.ptr (some (b, o)))).den η E = some va) : ∃ B K, E b = some (B, K) ∧ va = .pointer (some ⟨B, o, none⟩) := by
  simp only [Sv.den, Sc.den, denAddr, Option.map_eq_some_iff] at h
  obtain ⟨x, ⟨⟨B, K⟩, h1, rfl⟩, rfl⟩ := h
  exact ⟨B, K, h1, rfl⟩

theorem loadX_run {C : Cx} {P : Program} {η : Env} {E : Emb} (hC : C.Ok P η) {hp : T Blk} {nx lo base : Nat} {w : World} (hH : HRel η E hp nx lo base w) {t : TypeId} {x sv : Sv} {va : Value}
    (h : loadX C hp t x = some sv) (hx : x.den η E = some va) : ∃ v, sv.den η E = some v ∧ (Instr.loadAt t va).run P w = .ok v w := by
  unfold loadX at h
  split at h
  · rename_i b o
    obtain ⟨B, K, hE, rfl⟩ := ptr_den hx
    split at h
    · rename_i ti e sz l hti hb
      obtain ⟨B', K', hE', c, vs, rest, h1, _, _, h4, h5⟩ := hH.cell b _ hb
      rw [hE] at hE'; cases hE'
      obtain ⟨v, hv, hr⟩ := run_loadVar (hC.tt t ti hti) h1 h4 h5 h
      exact ⟨v, hv, by simpa [Instr.loadAt, Instr.sureAddr] using hr⟩
    · cases h
  · rename_i b o
    obtain ⟨B, K, hE, rfl⟩ := aptr_den hx
    split at h
    · rename_i ti l hti hb
      obtain ⟨B', K', hE', c, e, fz, vs, h1, h2, h3⟩ := hH.cell b _ hb
      rw [hE] at hE'; cases hE'
      obtain ⟨v, hv, hr⟩ := run_loadArg (hC.tt t ti hti) (B := B) (off := K) (w := w) (fun j u hj => by
        rw [cell_of_row w B (K + j) c e fz h1]; exact h3 j u hj) h2 h
      exact ⟨v, hv, by simpa [Instr.loadAt, Instr.sureAddr] using hr⟩
    · cases h
  · cases h

/-! ## Parts of aggregates -/
def partX (C : Cx) (t : TypeId) (l : List Sc) (o : Nat) : Option Sv :=
  match C.tt.get t with
  | some ti => bif ti.agg then (takeN ti.size (l.drop o)).map .agg else (nth l o).map .one
  | none => none

theorem extract_take (vs : List Value) (o n : Nat) : (vs.toArray.extract o (o + n)) = ((vs.drop o).take n).toArray := by
  simp [List.extract_toArray, List.extract_eq_take_drop]

theorem partX_run {C : Cx} {P : Program} {η : Env} {E : Emb} (hC : C.Ok P η) {t : TypeId} {l : List Sc} {o : Nat} {sv : Sv} {vs : List Value} (hl : denL η E l = some vs) (h : partX C t l o = some sv) :
    ∃ v, sv.den η E = some v ∧ ∀ w, (part t vs.toArray o).run P w = .ok v w := by
  unfold partX at h
  split at h
  · rename_i ti hti
    have hT := hC.tt t ti hti
    cases ha : ti.agg with
    | true =>
      rw [ha] at h
      simp only [cond_true] at h
      cases ht : takeN ti.size (l.drop o) with
      | none => rw [ht] at h; cases h
      | some m =>
        rw [ht] at h; cases h
        obtain ⟨h1, h2⟩ := denL_takeN _ ht (denL_drop o hl)
        refine ⟨.agg ((vs.drop o).take ti.size).toArray, by simp [Sv.den, h1], fun w => ?_⟩
        simp only [part, Sem.run_bind, hT.run_agg, ha, Result.andThen_ok, if_true, hT.run_size, Sem.run_pure, extract_take]
    | false =>
      rw [ha] at h
      simp only [cond_false] at h
      cases ht : nth l o with
      | none => rw [ht] at h; cases h
      | some m =>
        rw [ht] at h; cases h
        obtain ⟨v, h1, h2⟩ := denL_nth hl ht
        refine ⟨v, h1, fun w => ?_⟩
        simp only [part, Sem.run_bind, hT.run_agg, ha, Result.andThen_ok, Bool.false_eq_true, if_false]
        simp [h2]
  · cases h

theorem agg_den {η : Env} {E : Emb} {l : List Sc} {va : Value} (h : (Sv.agg l).den η E = some va) : ∃ vs, denL η E l = some vs ∧ va = .agg vs.toArray := by
  simp only [Sv.den, Option.map_eq_some_iff] at h
  obtain ⟨vs, h1, rfl⟩ := h
  exact ⟨vs, h1, rfl⟩

def fieldX (C : Cx) (t : TypeId) (x : Sv) (f : Nat) : Option Sv :=
  match C.tt.get t, x with
  | some ti, .agg l => match ti.d with
    | .struct fs => match nth fs.toList f with
      | some fl => partX C fl.type l fl.offset
      | none => none
    | _ => none
  | _, _ => none
theorem fieldX_run {C : Cx} {P : Program} {η : Env} {E : Emb} (hC : C.Ok P η) {t : TypeId} {x sv : Sv} {f : Nat} {va : Value} (h : fieldX C t x f = some sv) (hx : x.den η E = some va) :
    ∃ v, sv.den η E = some v ∧ ∀ w, (Instr.field t va f).run P w = .ok v w := by
  unfold fieldX at h
  split at h
  · rename_i ti l hti
    have hT := (hC.tt t ti hti).und
    split at h
    · rename_i fs hd
      rw [hd] at hT
      split at h
      · rename_i fl hf
        obtain ⟨vs, hvs, rfl⟩ := agg_den hx
        obtain ⟨v, h1, h2⟩ := partX_run hC hvs h
        refine ⟨v, h1, fun w => ?_⟩
        rw [nth_eq, Array.getElem?_toList] at hf
        simp [Instr.field, run_underlying hT, hf, asAgg, h2]
      · cases h
    · cases h
  · cases h

/-- The number of an index that is known. -/
def litN (x : Sv) : Option (IntKind × Nat) :=
  match x with
  | .one (.int k (.lit (.ofNat n))) => some (k, n)
  | _ => none
theorem litN_den {η : Env} {E : Emb} {x : Sv} {k : IntKind} {n : Nat} {va : Value} (h : litN x = some (k, n)) (hx : x.den η E = some va) : va = .int k (n : Int) := by
  unfold litN at h
  split at h
  · cases h; cases hx; rfl
  · cases h

def indexX (C : Cx) (t : TypeId) (x ix : Sv) : Option Sv :=
  match C.tt.get t, x, litN ix with
  | some ti, .agg l, some (_, i) => match ti.d with
    | .array n e => match C.tt.get e with
      | some ei => bif Nat.blt i n then partX C e l (i * ei.size) else none
      | none => none
    | _ => none
  | some ti, .one (.str l), some (_, i) => match ti.d with
    | .string => match nth l i with
      | some b => some (.one (.int .u8 (.lit (.ofNat b.toNat))))
      | none => none
    | _ => none
  | _, _, _ => none
theorem indexX_run {C : Cx} {P : Program} {η : Env} {E : Emb} (hC : C.Ok P η) {t : TypeId} {x ix sv : Sv} {va vi : Value} (h : indexX C t x ix = some sv) (hx : x.den η E = some va) (hi : ix.den η E = some vi) :
    ∃ v, sv.den η E = some v ∧ ∀ w, (Instr.index t va vi).run P w = .ok v w := by
  unfold indexX at h
  split at h
  · rename_i ti l k i hti hix
    have hT := (hC.tt t ti hti).und
    have e := litN_den hix hi
    subst e
    split at h
    · rename_i n e hd
      rw [hd] at hT
      split at h
      · rename_i ei hei
        cases hlt : Nat.blt i n with
        | false => rw [hlt] at h; cases h
        | true =>
          rw [hlt] at h
          simp only [cond_true] at h
          have hlt := Nat.le_of_ble_eq_true hlt
          obtain ⟨vs, hvs, rfl⟩ := agg_den hx
          obtain ⟨v, h1, h2⟩ := partX_run hC hvs h
          refine ⟨v, h1, fun w => ?_⟩
          have hb : (0 : Int) ≤ (i : Int) ∧ (i : Int) < (n : Int) := by omega
          simp [Instr.index, asIntOf, run_underlying hT, hb, (hC.tt e ei hei).run_size, h2]
          intro hc; omega
      · cases h
    · cases h
  · rename_i ti l k i hti hix
    have hT := (hC.tt t ti hti).und
    have e := litN_den hix hi
    subst e
    split at h
    · rename_i hd
      rw [hd] at hT
      split at h
      · rename_i b hb
        cases h
        cases hx
        refine ⟨_, rfl, fun w => ?_⟩
        rw [nth_eq] at hb
        have hi0 : (0 : Int) ≤ (i : Int) := by omega
        have hg : (⟨l.toArray⟩ : ByteArray)[i]? = some b := by
          have hlt := (List.getElem?_eq_some_iff.1 hb).1
          have : i < (⟨l.toArray⟩ : ByteArray).size := by simpa [ByteArray.size] using hlt
          have e : (⟨l.toArray⟩ : ByteArray)[i]'this = l[i]'hlt := rfl
          rw [getElem?_pos (⟨l.toArray⟩ : ByteArray) i this, e, (List.getElem?_eq_some_iff.1 hb).2]
        simp [Instr.index, asIntOf, run_underlying hT, hg, Ix.den]
      · cases h
    · cases h
  · cases h

/-! ## Places -/
def fieldAddrX (C : Cx) (t : TypeId) (x : Sv) (f : Nat) : Option Sv :=
  match C.tt.get t, x with
  | some ti, .one (.ptr (some (b, o))) => match ti.d with
    | .struct fs => match nth fs.toList f with
      | some fl => match C.tt.get fl.type with
        | some fi => bif Nat.beq fi.size 0 then none else some (.one (.ptr (some (b, o + fl.offset))))
        | none => none
      | none => none
    | _ => none
  | some ti, .one (.aptr b o) => match ti.d with
    | .struct fs => match nth fs.toList f with
      | some fl => match C.tt.get fl.type with
        | some fi => bif Nat.beq fi.size 0 then none else some (.one (.aptr b (o + fl.offset)))
        | none => none
      | none => none
    | _ => none
  | _, _ => none
theorem ptr_mk {η : Env} {E : Emb} {b o B K : Nat} (h : E b = some (B, K)) : (Sv.one (.ptr (some (b, o)))).den η E = some (.pointer (some ⟨B, o, none⟩)) := by
  simp [Sv.den, Sc.den, denAddr, h]
theorem fieldAddrX_run {C : Cx} {P : Program} {η : Env} {E : Emb} (hC : C.Ok P η) {t : TypeId} {x sv : Sv} {f : Nat} {va : Value} (h : fieldAddrX C t x f = some sv) (hx : x.den η E = some va) :
    ∃ v, sv.den η E = some v ∧ ∀ w, (Instr.fieldAt t va f).run P w = .ok v w := by
  unfold fieldAddrX at h
  split at h
  · rename_i ti b o hti
    have hT := (hC.tt t ti hti).und
    split at h
    · rename_i fs hd
      rw [hd] at hT
      split at h
      · rename_i fl hf
        split at h
        · rename_i fi hfi
          cases hz : Nat.beq fi.size 0 with
          | true => rw [hz] at h; cases h
          | false =>
            rw [hz] at h; cases h
            obtain ⟨B, K, hE, rfl⟩ := ptr_den hx
            refine ⟨_, ptr_mk hE, fun w => ?_⟩
            rw [nth_eq, Array.getElem?_toList] at hf
            have hz := Nat.ne_of_beq_eq_false hz
            simp [Instr.fieldAt, run_underlying hT, hf, Instr.sureAddr, fieldPlace, (hC.tt fl.type fi hfi).run_size, hz, addr_add]
        · cases h
      · cases h
    · cases h
  · rename_i ti b o hti
    have hT := (hC.tt t ti hti).und
    split at h
    · rename_i fs hd
      rw [hd] at hT
      split at h
      · rename_i fl hf
        split at h
        · rename_i fi hfi
          cases hz : Nat.beq fi.size 0 with
          | true => rw [hz] at h; cases h
          | false =>
            rw [hz] at h; cases h
            obtain ⟨B, K, hE, rfl⟩ := aptr_den hx
            refine ⟨_, aptr_mk hE, fun w => ?_⟩
            rw [nth_eq, Array.getElem?_toList] at hf
            have hz := Nat.ne_of_beq_eq_false hz
            simp [Instr.fieldAt, run_underlying hT, hf, Instr.sureAddr, fieldPlace, (hC.tt fl.type fi hfi).run_size, hz, addr_add, Nat.add_assoc]
        · cases h
      · cases h
    · cases h
  · cases h

def indexAddrX (C : Cx) (t : TypeId) (x ix : Sv) : Option Sv :=
  match C.tt.get t, x, litN ix with
  | some ti, .one (.ptr (some (b, o))), some (_, i) => match ti.d with
    | .array n e => match C.tt.get e with
      | some ei => bif Nat.blt i n then some (.one (.ptr (some (b, o + i * ei.size)))) else none
      | none => none
    | _ => none
  | some ti, .one (.slice (some (b, o)) n _), some (_, i) => match ti.d with
    | .slice e => match C.tt.get e with
      | some ei => bif Nat.blt i n then some (.one (.ptr (some (b, o + i * ei.size)))) else none
      | none => none
    | _ => none
  | some ti, .one (.asl b (.lit (.ofNat n)) _), some (_, i) => match ti.d with
    | .slice e => match C.tt.get e with
      | some ei => bif Nat.blt i n then some (.one (.aptr b (i * ei.size))) else none
      | none => none
    | _ => none
  | _, _, _ => none

theorem slice_den {η : Env} {E : Emb} {b o n : Nat} {c : Cap} {va : Value} (h : (Sv.one (.slice (some (b, o)) n c)).den η E = some va) : ∃ B K m, E b = some (B, K) ∧ va = .slice (some ⟨B, o, none⟩) n m ∧ (∀ k, c = .known k → m = k) ∧ (∀ k, c = .rest k → m = K - k ∧ n + k ≤ K) := by
  cases c with
  | known k =>
    simp only [Sv.den, Sc.den, denAddr, Option.map_eq_some_iff] at h
    obtain ⟨x, ⟨⟨B, K⟩, h1, rfl⟩, rfl⟩ := h
    exact ⟨B, K, k, h1, rfl, fun k' hk => by cases hk; rfl, fun k' hk => by cases hk⟩
  | rest k =>
    simp only [Sv.den, Sc.den] at h
    split at h
    · rename_i B hE
      obtain ⟨B, K⟩ := B
      split at h
      · rename_i hle
        cases h
        exact ⟨B, K, K - k, hE, rfl, (fun k' hk => by cases hk), fun k' hk => by cases hk; exact ⟨rfl, hle⟩⟩
      · cases h
    · cases h

theorem indexAddrX_run {C : Cx} {P : Program} {η : Env} {E : Emb} (hC : C.Ok P η) {t : TypeId} {x ix sv : Sv} {va vi : Value} (h : indexAddrX C t x ix = some sv) (hx : x.den η E = some va) (hi : ix.den η E = some vi) :
    ∃ v, sv.den η E = some v ∧ ∀ w, (Instr.indexAt t va vi).run P w = .ok v w := by
  unfold indexAddrX at h
  split at h
  · rename_i ti b o k i hti hix
    have hT := (hC.tt t ti hti).und
    have e := litN_den hix hi
    subst e
    split at h
    · rename_i n e hd
      rw [hd] at hT
      split at h
      · rename_i ei hei
        cases hlt : Nat.blt i n with
        | false => rw [hlt] at h; cases h
        | true =>
          rw [hlt] at h; cases h
          have hlt := Nat.le_of_ble_eq_true hlt
          obtain ⟨B, K, hE, rfl⟩ := ptr_den hx
          refine ⟨_, ptr_mk hE, fun w => ?_⟩
          have hb : (0 : Int) ≤ (i : Int) ∧ (i : Int) < (n : Int) := by omega
          simp [Instr.indexAt, asIntOf, run_underlying hT, Instr.sureAddr, hb, (hC.tt e ei hei).run_size, addr_add]
          intro hc; omega
      · cases h
    · cases h
  · rename_i ti b o n c k i hti hix
    have hT := (hC.tt t ti hti).und
    have e := litN_den hix hi
    subst e
    split at h
    · rename_i e hd
      rw [hd] at hT
      split at h
      · rename_i ei hei
        cases hlt : Nat.blt i n with
        | false => rw [hlt] at h; cases h
        | true =>
          rw [hlt] at h; cases h
          have hlt := Nat.le_of_ble_eq_true hlt
          obtain ⟨B, K, m, hE, rfl, _⟩ := slice_den hx
          refine ⟨_, ptr_mk hE, fun w => ?_⟩
          have hb : (0 : Int) ≤ (i : Int) ∧ (i : Int) < (n : Int) := by omega
          simp [Instr.indexAt, asIntOf, run_underlying hT, hb, (hC.tt e ei hei).run_size, addr_add]
          intro hc; omega
      · cases h
    · cases h
  · rename_i ti b n c k i hti hix
    have hT := (hC.tt t ti hti).und
    have e := litN_den hix hi
    subst e
    split at h
    · rename_i e hd
      rw [hd] at hT
      split at h
      · rename_i ei hei
        cases hlt : Nat.blt i n with
        | false => rw [hlt] at h; cases h
        | true =>
          rw [hlt] at h; cases h
          have hlt := Nat.le_of_ble_eq_true hlt
          obtain ⟨B, K, hE, rfl⟩ := asl_den hx
          refine ⟨_, aptr_mk hE, fun w => ?_⟩
          have hn : ((Ix.lit (Int.ofNat n)).den η).toNat = n := rfl
          rw [hn]
          have hb : (0 : Int) ≤ (i : Int) ∧ (i : Int) < (n : Int) := by omega
          simp [Instr.indexAt, asIntOf, run_underlying hT, hb, (hC.tt e ei hei).run_size, addr_add]
          intro hc; omega
      · cases h
    · cases h
  · cases h

end
end Go.Ex


namespace Go.Ex
open Go Go.RowKit
noncomputable section

/-! ## Slicing -/
def bnd (x : Option Sv) (d : Nat) : Option Nat :=
  match x with
  | none => some d
  | some s => match litN s with
    | some (_, n) => some n
    | none => none
/-- A bound as the run has it. -/
def BndRel (η : Env) (E : Emb) (x : Option Sv) (v : Option Value) : Prop :=
  match x, v with
  | none, none => True
  | some s, some u => s.den η E = some u
  | _, _ => False

theorem run_bounds {P : Program} {η : Env} {E : Emb} (w : World) {isS : Bool} {len cap l h : Nat} {lo hi : Option Sv} {vl vh : Option Value} (hl : bnd lo 0 = some l) (hh : bnd hi len = some h)
    (rl : BndRel η E lo vl) (rh : BndRel η E hi vh) (h1 : l ≤ h) (h2 : h ≤ cap) : (Instr.sliceBounds isS len cap vl vh none).run P w = .ok (l, h, cap) w := by
  have hiRun : (match vh with
      | some v => Instr.sliceBound v cap (if isS then .sliceAcap else .sliceAlen)
      | none => pure len : Sem Nat).run P w = .ok h w := by
    cases hi with
    | none =>
      cases vh with
      | none => cases hh; rfl
      | some v => cases rh
    | some s =>
      cases vh with
      | none => cases rh
      | some v =>
        simp only [bnd] at hh
        split at hh
        · rename_i k n hs
          cases hh
          have e := litN_den hs rh
          subst e
          have hb : (0 : Int) ≤ (h : Int) ∧ (h : Int) ≤ (cap : Int) := by omega
          simp [Instr.sliceBound, asIntOf, hb]
        · cases hh
  have loRun : (match vl with
      | some v => Instr.sliceBound v h .sliceB
      | none => pure 0 : Sem Nat).run P w = .ok l w := by
    cases lo with
    | none =>
      cases vl with
      | none => cases hl; rfl
      | some v => cases rl
    | some s =>
      cases vl with
      | none => cases rl
      | some v =>
        simp only [bnd] at hl
        split at hl
        · rename_i k n hs
          cases hl
          have e := litN_den hs rl
          subst e
          have hb : (0 : Int) ≤ (l : Int) ∧ (l : Int) ≤ (h : Int) := by omega
          simp [Instr.sliceBound, asIntOf, hb]
        · cases hl
  unfold Instr.sliceBounds
  cases vh <;> cases vl <;> simp_all

def sliceX (C : Cx) (t : TypeId) (x : Sv) (lo hi : Option Sv) : Option Sv :=
  match C.tt.get t, x, bnd lo 0 with
  | some ti, .one (.ptr (some (b, o))), some l => match ti.d with
    | .array n e => match C.tt.get e, bnd hi n with
      | some ei, some h => bif Nat.ble l h && Nat.ble h n then
          some (.one (.slice (some (bif Nat.beq n l then (b, o) else (b, o + l * ei.size))) (h - l) (.known (n - l)))) else none
      | _, _ => none
    | _ => none
  | some ti, .one (.slice (some (b, o)) n c), some l => match ti.d with
    | .slice e => match C.tt.get e, bnd hi n, c with
      | some ei, some h, .known c => bif Nat.ble l h && Nat.ble h c then
          some (.one (.slice (some (bif Nat.beq c l then (b, o) else (b, o + l * ei.size))) (h - l) (.known (c - l)))) else none
      | some ei, some h, .rest k => bif Nat.ble l h && Nat.ble h n && (Nat.beq l 0 || Nat.blt l n) then
          some (.one (.slice (some (b, o + l * ei.size)) (h - l) (.rest (k + l)))) else none
      | _, _, _ => none
    | _ => none
  | some ti, .one (.slice none 0 (.known 0)), some l => match ti.d with
    | .slice e => match C.tt.get e, bnd hi 0 with
      | some _, some 0 => bif Nat.beq l 0 then some (.one (.slice none 0 (.known 0))) else none
      | _, _ => none
    | _ => none
  | some ti, .one (.str s), some l => match ti.d with
    | .string => match bnd hi s.length with
      | some h => bif Nat.ble l h && Nat.ble h s.length then some (.one (.str ((s.drop l).take (h - l)))) else none
      | none => none
    | _ => none
  | _, _, _ => none

theorem and_true2 {a b : Bool} (h : (a && b) = true) : a = true ∧ b = true := by simpa using h

theorem sliceX_run {C : Cx} {P : Program} {η : Env} {E : Emb} (hC : C.Ok P η) {t : TypeId} {x sv : Sv} {lo hi : Option Sv} {va : Value} {vl vh : Option Value} (h : sliceX C t x lo hi = some sv) (hx : x.den η E = some va)
    (rl : BndRel η E lo vl) (rh : BndRel η E hi vh) : ∃ v, sv.den η E = some v ∧ ∀ w, (Instr.sliceAt t va vl vh none).run P w = .ok v w := by
  unfold sliceX at h
  split at h
  · rename_i ti b o l hti hl
    have hT := (hC.tt t ti hti).und
    split at h
    · rename_i n e hd
      rw [hd] at hT
      split at h
      · rename_i ei h' hei hh
        cases hc : (Nat.ble l h' && Nat.ble h' n) with
        | false => rw [hc] at h; cases h
        | true =>
          rw [hc] at h; cases h
          obtain ⟨c1, c2⟩ := and_true2 hc
          have c1 := Nat.le_of_ble_eq_true c1
          have c2 := Nat.le_of_ble_eq_true c2
          obtain ⟨B, K, hE, rfl⟩ := ptr_den hx
          refine ⟨.slice (some ⟨B, if n = l then o else o + l * ei.size, none⟩) (h' - l) (n - l), ?_, fun w => ?_⟩
          · rw [beq_eq]
            by_cases e0 : n = l <;> simp [Sv.den, Sc.den, denAddr, hE, e0]
          · have hb := run_bounds (P := P) (η := η) (E := E) w (isS := false) hl hh rl rh c1 c2
            simp only [Instr.sliceAt, Sem.run_bind, run_underlying hT, Result.andThen_ok, Instr.sureAddr, Sem.run_pure, hb, (hC.tt e ei hei).run_size]
            congr 3
            by_cases e0 : n = l <;> simp [e0, addr_add]
      · cases h
    · cases h
  · rename_i ti b o n c l hti hl
    have hT := (hC.tt t ti hti).und
    obtain ⟨B, K, m, hE, rfl, hm1, hm2⟩ := slice_den hx
    split at h
    · rename_i e hd
      rw [hd] at hT
      split at h
      · rename_i ei h' c' hei hh
        cases hc : (Nat.ble l h' && Nat.ble h' c') with
        | false => rw [hc] at h; cases h
        | true =>
          rw [hc] at h; cases h
          obtain ⟨c1, c2⟩ := and_true2 hc
          have c1 := Nat.le_of_ble_eq_true c1
          have c2 := Nat.le_of_ble_eq_true c2
          have hm := hm1 _ rfl
          subst hm
          refine ⟨.slice (some ⟨B, if m = l then o else o + l * ei.size, none⟩) (h' - l) (m - l), ?_, fun w => ?_⟩
          · rw [beq_eq]
            by_cases e0 : m = l <;> simp [Sv.den, Sc.den, denAddr, hE, e0]
          · have hb := run_bounds (P := P) (η := η) (E := E) w (isS := true) hl hh rl rh c1 c2
            simp only [Instr.sliceAt, Sem.run_bind, run_underlying hT, Result.andThen_ok, Instr.slice, hb, (hC.tt e ei hei).run_size, Sem.run_pure]
            by_cases e0 : m = l <;> simp [e0, addr_add]
      · rename_i ei h' k hei hh
        cases hc : (Nat.ble l h' && Nat.ble h' n && (Nat.beq l 0 || Nat.blt l n)) with
        | false => rw [hc] at h; cases h
        | true =>
          rw [hc] at h; cases h
          obtain ⟨c12, c3⟩ := and_true2 hc
          obtain ⟨c1, c2⟩ := and_true2 c12
          have c1 := Nat.le_of_ble_eq_true c1
          have c2 := Nat.le_of_ble_eq_true c2
          obtain ⟨hm, hK⟩ := hm2 _ rfl
          have c3 : l = 0 ∨ l < n := by
            rw [Bool.or_eq_true] at c3
            rcases c3 with c3 | c3
            · exact .inl (Nat.eq_of_beq_eq_true c3)
            · exact .inr (Nat.le_of_ble_eq_true c3)
          refine ⟨.slice (some ⟨B, o + l * ei.size, none⟩) (h' - l) (m - l), ?_, fun w => ?_⟩
          · have : h' - l + (k + l) ≤ K := by omega
            simp only [Sv.den, Sc.den, hE, if_pos this]
            rw [hm]
            congr 2; omega
          · have hb := run_bounds (P := P) (η := η) (E := E) w (isS := true) hl hh rl rh c1 (Nat.le_trans c2 (by omega : n ≤ m))
            simp only [Instr.sliceAt, Sem.run_bind, run_underlying hT, Result.andThen_ok, Instr.slice, hb, (hC.tt e ei hei).run_size, Sem.run_pure]
            by_cases e0 : m = l
            · have : l = 0 := by omega
              simp [e0, this]
            · simp [e0, addr_add]
      · cases h
    · cases h
  · rename_i ti l hti hl
    have hT := (hC.tt t ti hti).und
    cases hx
    split at h
    · rename_i e hd
      rw [hd] at hT
      split at h
      · rename_i ei hei hh
        cases hc : Nat.beq l 0 with
        | false => rw [hc] at h; cases h
        | true =>
          rw [hc] at h; cases h
          have c0 := Nat.eq_of_beq_eq_true hc
          subst c0
          refine ⟨_, rfl, fun w => ?_⟩
          have hb := run_bounds (P := P) (η := η) (E := E) w (isS := true) (len := 0) (cap := 0) hl hh rl rh (Nat.le_refl _) (Nat.le_refl _)
          simp only [Instr.sliceAt, Sem.run_bind, run_underlying hT, Result.andThen_ok, Instr.slice, hb, (hC.tt e ei hei).run_size, Sem.run_pure]
          simp
      · cases h
    · cases h
  · rename_i ti s l hti hl
    have hT := (hC.tt t ti hti).und
    cases hx
    split at h
    · rename_i hd
      rw [hd] at hT
      split at h
      · rename_i h' hh
        cases hc : (Nat.ble l h' && Nat.ble h' s.length) with
        | false => rw [hc] at h; cases h
        | true =>
          rw [hc] at h; cases h
          obtain ⟨c1, c2⟩ := and_true2 hc
          have c1 := Nat.le_of_ble_eq_true c1
          have c2 := Nat.le_of_ble_eq_true c2
          refine ⟨_, rfl, fun w => ?_⟩
          have es : (⟨s.toArray⟩ : ByteArray).size = s.length := by simp [ByteArray.size]
          rw [← es] at hh c2
          have hb := run_bounds (P := P) (η := η) (E := E) w (isS := false) hl hh rl rh c1 c2
          simp only [Instr.sliceAt, Sem.run_bind, run_underlying hT, Result.andThen_ok, Instr.slice, Option.isSome_none, Bool.false_eq_true, if_false, Sem.run_pure, hb]
          congr 2
          apply ByteArray.ext
          simp [ByteArray.data_extract, List.extract_toArray, List.extract_eq_take_drop]
      · cases h
    · cases h
  · cases h

end
end Go.Ex

