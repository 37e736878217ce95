/-
  The executor's binary operations on every make of value.
-/
import Derived.Test.YtdpabnfcfakjeaaEx4

namespace Go.Ex
open Go Go.RowKit
noncomputable section

def u8eq (a b : UInt8) : Bool := Nat.beq a.toNat b.toNat
theorem u8eq_eq (a b : UInt8) : u8eq a b = (a == b) := by
  unfold u8eq
  rw [beq_eq, Bool.eq_iff_iff]
  simp [UInt8.toNat_inj]
def bytesEq : List UInt8 → List UInt8 → Bool
  | [], [] => true
  | a :: l, b :: m => u8eq a b && bytesEq l m
  | _, _ => false
theorem bytesEq_eq : ∀ l m : List UInt8, bytesEq l m = (l == m)
  | [], [] => rfl
  | [], _ :: _ => rfl
  | _ :: _, [] => rfl
  | a :: l, b :: m => by
    simp only [bytesEq, u8eq_eq, bytesEq_eq l m]; rfl

theorem str_toList (l : List UInt8) : (⟨l.toArray⟩ : ByteArray).toList = l := by rw [ByteArray.toList_eq]
theorem str_beq (l m : List UInt8) : ((⟨l.toArray⟩ : ByteArray) == ⟨m.toArray⟩) = (l == m) := by
  rw [beq_toListBytes, str_toList, str_toList]

theorem run_eqGuard_none {P : Program} (w : World) (op : BinOp) (t : TypeId) (x y : Operand) (a b : Value) (h : ¬ (a = .nilIface ∧ b = .nilIface)) (h' : ∀ cs ds, ¬ (a = .agg cs ∧ b = .agg ds)) :
    (eqGuard op t x y a b).run P w = .ok () w := by
  cases op <;> first | rfl | skip
  all_goals
    unfold eqGuard
    simp only [Bool.not_true, Bool.false_eq_true, if_false]
    split
    · exact absurd ⟨rfl, rfl⟩ h
    · exact absurd ⟨rfl, rfl⟩ (h' _ _)
    · rfl

/-- Equality of two floats: by the context, or of two constants. -/
def fltEq (C : Cx) (k : FloatKind) (x y : Fx) (pc : PC) : Option Bx :=
  match x, y with
  | .lit a, .lit b => some (.lit (Op.floatEq k a b))
  | x, y => match k with
    | .f64 => C.fh pc .eql x y
    | .f32 => none
theorem fltEq_den {C : Cx} {P : Program} {η : Env} (hC : C.Ok P η) {k : FloatKind} {x y : Fx} {pc : PC} {b : Bx} (hpc : pc.holds η) (w : World) (h : fltEq C k x y pc = some b) : b.den η = Op.floatEq k (x.den η) (y.den η) := by
  unfold fltEq at h
  split at h
  · cases h; rfl
  · split at h
    · have := hC.fh pc .eql x y b h hpc 0 w
      simp only [binOp, Op.floatCmp] at this
      simp only [if_false, ne_eq, not_true_eq_false, Sem.run_pure] at this
      injection this with e
      injection e with e
      rw [← e]; rfl
    · cases h

/-- Equality of the leaves of two aggregates, one by one. -/
def eqL (C : Cx) : List LK → List Sc → List Sc → PC → Tree (Bool × PC)
  | [], [], [], pc => .leaf (true, pc)
  | .int :: ks, .int k x :: xs, .int k' y :: ys, pc => bif decide (k = k') then orFail (eqX C.D k x y pc) fun b => branch C.D pc b fun t pc => match t with
      | true => eqL C ks xs ys pc
      | false => .leaf (false, pc)
    else .fail
  | .flt :: ks, .flt k x :: xs, .flt k' y :: ys, pc => bif decide (k = k') then orFail (fltEq C k x y pc) fun b => branch C.D pc b fun t pc => match t with
      | true => eqL C ks xs ys pc
      | false => .leaf (false, pc)
    else .fail
  | .cpx :: ks, .cpx k x y :: xs, .cpx k' u v :: ys, pc => bif decide (k = k') then orFail (fltEq C k x u pc) fun b => branch C.D pc b fun t pc => match t with
      | true => orFail (fltEq C k y v pc) fun b => branch C.D pc b fun t pc => match t with
        | true => eqL C ks xs ys pc
        | false => .leaf (false, pc)
      | false => .leaf (false, pc)
    else .fail
  | .str :: ks, .str x :: xs, .str y :: ys, pc => match bytesEq x y with
      | true => eqL C ks xs ys pc
      | false => .leaf (false, pc)
  | .str :: ks, .ostr x :: xs, .str y :: ys, pc => branch C.D pc (tb (bytesEq x y)) fun t pc => match t with
      | true => eqL C ks xs ys pc
      | false => .leaf (false, pc)
  | .str :: ks, .str x :: xs, .ostr y :: ys, pc => branch C.D pc (tb (bytesEq x y)) fun t pc => match t with
      | true => eqL C ks xs ys pc
      | false => .leaf (false, pc)
  | .str :: ks, .ostr x :: xs, .ostr y :: ys, pc => branch C.D pc (tb (bytesEq x y)) fun t pc => match t with
      | true => eqL C ks xs ys pc
      | false => .leaf (false, pc)
  | .bool :: ks, .bool x :: xs, .bool y :: ys, pc => branch C.D pc x fun s pc => branch C.D pc y fun t pc => match s == t with
      | true => eqL C ks xs ys pc
      | false => .leaf (false, pc)
  | _, _, _, _ => .fail

/-- The leaves' kinds, and how long the lists are. -/
def kindL : List LK → List Sc → List Sc → Bool
  | [], [], [] => true
  | .int :: ks, .int k _ :: xs, .int k' _ :: ys => decide (k = k') && kindL ks xs ys
  | .flt :: ks, .flt k _ :: xs, .flt k' _ :: ys => decide (k = k') && kindL ks xs ys
  | .cpx :: ks, .cpx k _ _ :: xs, .cpx k' _ _ :: ys => decide (k = k') && kindL ks xs ys
  | .str :: ks, .str _ :: xs, .str _ :: ys => kindL ks xs ys
  | .str :: ks, .ostr _ :: xs, .str _ :: ys => kindL ks xs ys
  | .str :: ks, .str _ :: xs, .ostr _ :: ys => kindL ks xs ys
  | .str :: ks, .ostr _ :: xs, .ostr _ :: ys => kindL ks xs ys
  | .bool :: ks, .bool _ :: xs, .bool _ :: ys => kindL ks xs ys
  | _, _, _ => false

theorem denL_cons {η : Env} {E : Emb} {c : Sc} {l : List Sc} {r : List Value} (h : denL η E (c :: l) = some r) : ∃ v vs, c.den η E = some v ∧ denL η E l = some vs ∧ r = v :: vs := by
  simp only [denL] at h
  cases h1 : c.den η E with
  | none => simp [h1] at h
  | some v =>
    cases h2 : denL η E l with
    | none => simp [h1, h2] at h
    | some vs => simp [h1, h2] at h; exact ⟨v, vs, rfl, rfl, h.symm⟩

theorem kindL_fit {η : Env} {E : Emb} : ∀ (ks : List LK) (xs ys : List Sc) (vs ws : List Value), kindL ks xs ys = true → denL η E xs = some vs → denL η E ys = some ws → leavesFit ks vs ws = true := by
  intro ks
  induction ks with
  | nil =>
    intro xs ys vs ws h hx hy
    cases xs <;> cases ys <;> simp only [kindL] at h <;> first | (cases h; done) | (cases hx; cases hy; rfl)
  | cons k ks ih =>
    intro xs ys vs ws h hx hy
    cases xs with
    | nil => cases k <;> cases ys <;> simp [kindL] at h
    | cons x xs =>
      cases ys with
      | nil => cases k <;> cases x <;> simp [kindL] at h
      | cons y ys =>
        obtain ⟨v, vs', hv, hvs, rfl⟩ := denL_cons hx
        obtain ⟨u, us', hu, hus, rfl⟩ := denL_cons hy
        cases k <;> cases x <;> first | (simp [kindL] at h; done) | skip
        all_goals cases y <;> first | (simp [kindL] at h; done) | skip
        all_goals
          simp only [Sc.den, Option.some.injEq] at hv hu
          subst hv; subst hu
        all_goals simp only [kindL, Bool.and_eq_true, decide_eq_true_eq] at h
        all_goals simp only [leavesFit, LK.fits, Bool.true_and]
        case str.str.str => exact ih xs ys vs' us' h hvs hus
        case str.ostr.str => exact ih xs ys vs' us' h hvs hus
        case str.str.ostr => exact ih xs ys vs' us' h hvs hus
        case str.ostr.ostr => exact ih xs ys vs' us' h hvs hus
        case bool.bool.bool => exact ih xs ys vs' us' h hvs hus
        all_goals
          obtain ⟨rfl, h⟩ := h
          simp [ih xs ys vs' us' h hvs hus]

theorem eqL_run {C : Cx} {P : Program} {η : Env} {E : Emb} (hC : C.Ok P η) (w : World) : ∀ (ks : List LK) (xs ys : List Sc) (vs ws : List Value) (pc pc' : PC) (r : Bool), (eqL C ks xs ys pc).at_ η = some (r, pc') → pc.holds η →
    denL η E xs = some vs → denL η E ys = some ws → pc'.holds η ∧ leavesEq vs ws = r := by
  intro ks
  induction ks with
  | nil =>
    intro xs ys vs ws pc pc' r h hpc hx hy
    cases xs <;> cases ys <;> simp only [eqL] at h <;> first | (cases h; done) | skip
    simp only [Tree.at_, Option.some.injEq, Prod.mk.injEq] at h
    cases hx; cases hy
    exact ⟨h.2 ▸ hpc, h.1⟩
  | cons k ks ih =>
    intro xs ys vs ws pc pc' r h hpc hx hy
    cases xs with
    | nil => cases k <;> cases ys <;> simp [eqL, Tree.at_] at h
    | cons x xs =>
      cases ys with
      | nil => cases k <;> cases x <;> simp [eqL, Tree.at_] at h
      | cons y ys =>
        obtain ⟨v, vs', hv, hvs, rfl⟩ := denL_cons hx
        obtain ⟨u, us', hu, hus, rfl⟩ := denL_cons hy
        cases k <;> cases x <;> first | (simp [eqL, Tree.at_] at h; done) | skip
        all_goals cases y <;> first | (simp [eqL, Tree.at_] at h; done) | skip
        all_goals
          simp only [Sc.den, Option.some.injEq] at hv hu
          subst hv; subst hu
        all_goals simp only [eqL] at h
        all_goals simp only [leavesEq, leafEq]
        case int.int.int k1 x1 k2 y1 =>
          by_cases hk : k1 = k2
          · subst hk
            simp only [decide_true, cond_true] at h
            obtain ⟨b, h1, h2⟩ := at_orFail h
            obtain ⟨pc1, hp1, h3⟩ := at_branch hC.D hpc h2
            have e := eqX_den hC.D hpc h1
            cases hb : b.den η with
            | true =>
              rw [hb] at h3 e
              obtain ⟨h4, h5⟩ := ih xs ys vs' us' pc1 pc' r h3 hp1 hvs hus
              exact ⟨h4, by rw [← h5, of_decide_eq_true e.symm]; simp⟩
            | false =>
              rw [hb] at h3 e
              simp only [Tree.at_, Option.some.injEq, Prod.mk.injEq] at h3
              exact ⟨h3.2 ▸ hp1, by rw [← h3.1]; simp [of_decide_eq_false e.symm]⟩
          · simp [hk, Tree.at_] at h
        case flt.flt.flt k1 x1 k2 y1 =>
          by_cases hk : k1 = k2
          · subst hk
            simp only [decide_true, cond_true] at h
            obtain ⟨b, h1, h2⟩ := at_orFail h
            obtain ⟨pc1, hp1, h3⟩ := at_branch hC.D hpc h2
            have e := fltEq_den hC hpc w h1
            cases hb : b.den η with
            | true =>
              rw [hb] at h3 e
              obtain ⟨h4, h5⟩ := ih xs ys vs' us' pc1 pc' r h3 hp1 hvs hus
              exact ⟨h4, by rw [← h5, ← e]; simp⟩
            | false =>
              rw [hb] at h3 e
              simp only [Tree.at_, Option.some.injEq, Prod.mk.injEq] at h3
              exact ⟨h3.2 ▸ hp1, by rw [← h3.1, ← e]; simp⟩
          · simp [hk, Tree.at_] at h
        case cpx.cpx.cpx k1 x1 x2 k2 y1 y2 =>
          by_cases hk : k1 = k2
          · subst hk
            simp only [decide_true, cond_true] at h
            obtain ⟨b, h1, h2⟩ := at_orFail h
            obtain ⟨pc1, hp1, h3⟩ := at_branch hC.D hpc h2
            have e := fltEq_den hC hpc w h1
            cases hb : b.den η with
            | true =>
              rw [hb] at h3 e
              obtain ⟨b2, h1', h2'⟩ := at_orFail h3
              obtain ⟨pc2, hp2, h3'⟩ := at_branch hC.D hp1 h2'
              have e2 := fltEq_den hC hp1 w h1'
              cases hb2 : b2.den η with
              | true =>
                rw [hb2] at h3' e2
                obtain ⟨h4, h5⟩ := ih xs ys vs' us' pc2 pc' r h3' hp2 hvs hus
                exact ⟨h4, by rw [← h5, ← e, ← e2]; simp⟩
              | false =>
                rw [hb2] at h3' e2
                simp only [Tree.at_, Option.some.injEq, Prod.mk.injEq] at h3'
                exact ⟨h3'.2 ▸ hp2, by rw [← h3'.1, ← e2]; simp⟩
            | false =>
              rw [hb] at h3 e
              simp only [Tree.at_, Option.some.injEq, Prod.mk.injEq] at h3
              exact ⟨h3.2 ▸ hp1, by rw [← h3.1, ← e]; simp⟩
          · simp [hk, Tree.at_] at h
        case str.str.str =>
          rw [str_beq, ← bytesEq_eq]
          split at h
          · rename_i hb
            obtain ⟨h4, h5⟩ := ih xs ys vs' us' pc pc' r h hpc hvs hus
            exact ⟨h4, by rw [← h5, hb]; simp⟩
          · rename_i hb
            simp only [Tree.at_, Option.some.injEq, Prod.mk.injEq] at h
            exact ⟨h.2 ▸ hpc, by rw [← h.1, hb]; simp⟩
        case str.ostr.str =>
          obtain ⟨pc1, hp1, h3⟩ := at_branch hC.D hpc h
          rw [tb_den] at h3
          rw [str_beq, ← bytesEq_eq]
          split at h3
          · rename_i hb
            obtain ⟨h4, h5⟩ := ih xs ys vs' us' pc1 pc' r h3 hp1 hvs hus
            exact ⟨h4, by rw [← h5, hb]; simp⟩
          · rename_i hb
            simp only [Tree.at_, Option.some.injEq, Prod.mk.injEq] at h3
            exact ⟨h3.2 ▸ hp1, by rw [← h3.1, hb]; simp⟩
        case str.str.ostr =>
          obtain ⟨pc1, hp1, h3⟩ := at_branch hC.D hpc h
          rw [tb_den] at h3
          rw [str_beq, ← bytesEq_eq]
          split at h3
          · rename_i hb
            obtain ⟨h4, h5⟩ := ih xs ys vs' us' pc1 pc' r h3 hp1 hvs hus
            exact ⟨h4, by rw [← h5, hb]; simp⟩
          · rename_i hb
            simp only [Tree.at_, Option.some.injEq, Prod.mk.injEq] at h3
            exact ⟨h3.2 ▸ hp1, by rw [← h3.1, hb]; simp⟩
        case str.ostr.ostr =>
          obtain ⟨pc1, hp1, h3⟩ := at_branch hC.D hpc h
          rw [tb_den] at h3
          rw [str_beq, ← bytesEq_eq]
          split at h3
          · rename_i hb
            obtain ⟨h4, h5⟩ := ih xs ys vs' us' pc1 pc' r h3 hp1 hvs hus
            exact ⟨h4, by rw [← h5, hb]; simp⟩
          · rename_i hb
            simp only [Tree.at_, Option.some.injEq, Prod.mk.injEq] at h3
            exact ⟨h3.2 ▸ hp1, by rw [← h3.1, hb]; simp⟩
        case bool.bool.bool x1 y1 =>
          obtain ⟨pc1, hp1, h3⟩ := at_branch hC.D hpc h
          obtain ⟨pc2, hp2, h4⟩ := at_branch hC.D hp1 h3
          split at h4
          · rename_i hb
            obtain ⟨h5, h6⟩ := ih xs ys vs' us' pc2 pc' r h4 hp2 hvs hus
            exact ⟨h5, by rw [← h6, hb]; simp⟩
          · rename_i hb
            simp only [Tree.at_, Option.some.injEq, Prod.mk.injEq] at h4
            exact ⟨h4.2 ▸ hp2, by rw [← h4.1, hb]; simp⟩

end
end Go.Ex

