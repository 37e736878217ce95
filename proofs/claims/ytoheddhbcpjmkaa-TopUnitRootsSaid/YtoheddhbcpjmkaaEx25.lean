/-
  From a run of the executor to a contract; summaries of calls with known arguments.
-/
import Derived.Test.YtoheddhbcpjmkaaEx24

namespace Go.Ex
open Go Go.RowKit
noncomputable section

def st0 : St := ⟨.nil, .nil, 0, 0, []⟩
def E0 : Emb := fun _ => none

theorem hrel0 (η : Env) (w : World) : HRel η E0 .nil 0 0 w.heap.size w where
  dom := fun i b h => by simp [T.get_nil] at h
  cell := fun i b h => by simp [T.get_nil] at h
  inj := fun i j b c B C K L _ h => by simp [T.get_nil] at h
  hi := fun i B K _ h => by cases h
  top := fun i B K h => by cases h
  bot := Nat.le_refl _
  free := fun _ _ => rfl
  lim := by decide

/-- A run of the executor that hands back a value without places: a contract. -/
theorem run_sum {C : Cx} {P : Program} {η : Env} (hC : C.Ok P η) {n : Nat} {f : FuncId} {fi : FI} {args : List Sv} {r : Sv × St} (hf : FI.Ok P f fi) (h : (callE C (drawX C) n fi args st0).at_ η = some r) (hb : below 0 r.1 = true)
    (w : World) {vs : List Value} (hv : denArgs η E0 args = some vs) : ∃ v, r.1.den η E0 = some v ∧ Calls P f vs.toArray w fun e w' => e = .returned v ∧ Below w.heap.size w w' := by
  have hc := call_run hC n fi args st0 r h f hf (fun x hx => by cases hx) (Nat.le_refl _) E0 w.heap.size w w vs (hrel0 η w) (Below.refl _ _) hv
  have hd : ∀ E', r.1.den η E' = r.1.den η E0 := fun E' => Sv.den_agree (fun i hi => absurd hi (Nat.not_lt_zero _)) hb
  obtain ⟨_, _, v, E', _, e1, _⟩ := Calls.exists hc
  rw [hd] at e1
  refine ⟨v, e1, hc.mono ?_⟩
  rintro e w' ⟨v', E'', rfl, e1', _, _, e4, _⟩
  rw [hd, e1] at e1'
  cases e1'
  exact ⟨rfl, e4⟩

/-! ## Known values -/
def fxEq : Fx → Fx → Bool
  | .lit a, .lit b => Nat.beq a b
  | .var a, .var b => Nat.beq a b
  | .ofI p, .ofI q => polyEq p q
  | _, _ => false
theorem fxEq_iff {f g : Fx} (h : fxEq f g = true) : f = g := by
  cases f <;> cases g <;> simp only [fxEq] at h <;> first | cases h | skip
  · rw [Nat.eq_of_beq_eq_true h]
  · rw [Nat.eq_of_beq_eq_true h]
  · rw [polyEq_iff h]
def ixEq : Ix → Ix → Bool
  | .lit a, .lit b => eqI a b
  | .poly p, .poly q => polyEq p q
  | _, _ => false
theorem ixEq_iff {x y : Ix} (h : ixEq x y = true) : x = y := by
  cases x <;> cases y <;> simp only [ixEq] at h <;> first | cases h | skip
  · rw [eqI_eq] at h; rw [of_decide_eq_true h]
  · rw [polyEq_iff h]
def kindEq : IntKind → IntKind → Bool
  | .i64, .i64 => true
  | .u64, .u64 => true
  | .u8, .u8 => true
  | .i32, .i32 => true
  | .u32, .u32 => true
  | _, _ => false
theorem kindEq_iff {a b : IntKind} (h : kindEq a b = true) : a = b := by cases a <;> cases b <;> first | rfl | cases h
def scEq : Sc → Sc → Bool
  | .bool (.lit a), .bool (.lit b) => a == b
  | .int k x, .int l y => kindEq k l && ixEq x y
  | .flt .f64 f, .flt .f64 g => fxEq f g
  | .cpx .f64 a b, .cpx .f64 c d => fxEq a c && fxEq b d
  | _, _ => false
theorem scEq_iff {x y : Sc} (h : scEq x y = true) : x = y := by
  unfold scEq at h
  split at h
  · rw [eq_of_beq h]
  · simp only [Bool.and_eq_true] at h; rw [kindEq_iff h.1, ixEq_iff h.2]
  · rw [fxEq_iff h]
  · simp only [Bool.and_eq_true] at h; rw [fxEq_iff h.1, fxEq_iff h.2]
  · cases h
def scsEq : List Sc → List Sc → Bool
  | [], [] => true
  | a :: l, b :: m => scEq a b && scsEq l m
  | _, _ => false
theorem scsEq_iff : ∀ {l m : List Sc}, scsEq l m = true → l = m
  | [], [], _ => rfl
  | [], _ :: _, h => by cases h
  | _ :: _, [], h => by cases h
  | a :: l, b :: m, h => by
    simp only [scsEq, Bool.and_eq_true] at h
    rw [scEq_iff h.1, scsEq_iff h.2]
def partsEq : List (Bool × List Sc) → List (Bool × List Sc) → Bool
  | [], [] => true
  | a :: l, b :: m => (a.1 == b.1) && scsEq a.2 b.2 && partsEq l m
  | _, _ => false
theorem partsEq_iff : ∀ {l m : List (Bool × List Sc)}, partsEq l m = true → l = m
  | [], [], _ => rfl
  | [], _ :: _, h => by cases h
  | _ :: _, [], h => by cases h
  | (a, x) :: l, (b, y) :: m, h => by
    simp only [partsEq, Bool.and_eq_true] at h
    rw [eq_of_beq h.1.1, scsEq_iff h.1.2, partsEq_iff h.2]
def svEq : Sv → Sv → Bool
  | .one a, .one b => scEq a b
  | .agg l, .agg m => scsEq l m
  | .tup l, .tup m => partsEq l m
  | _, _ => false
theorem svEq_iff {x y : Sv} (h : svEq x y = true) : x = y := by
  unfold svEq at h
  split at h
  · rw [scEq_iff h]
  · rw [scsEq_iff h]
  · rw [partsEq_iff h]
  · cases h
def svsEq : List Sv → List Sv → Bool
  | [], [] => true
  | a :: l, b :: m => svEq a b && svsEq l m
  | _, _ => false
theorem svsEq_iff : ∀ {l m : List Sv}, svsEq l m = true → l = m
  | [], [], _ => rfl
  | [], _ :: _, h => by cases h
  | _ :: _, [], h => by cases h
  | a :: l, b :: m, h => by
    simp only [svsEq, Bool.and_eq_true] at h
    rw [svEq_iff h.1, svsEq_iff h.2]

theorem denArgs_agree {η : Env} {E E' : Emb} : ∀ {l : List Sv}, l.all (below 0) = true → denArgs η E' l = denArgs η E l
  | [], _ => rfl
  | s :: l, h => by
    simp only [List.all_cons, Bool.and_eq_true] at h
    simp only [denArgs, Sv.den_agree (E := E) (E' := E') (n := 0) (fun i hi => absurd hi (Nat.not_lt_zero _)) h.1, denArgs_agree (E := E) (E' := E') h.2]

/-- The summary of a call with known arguments. -/
def gLit (args : List Sv) (res : Sv) : List Sv → PC → Tree (Sv × PC) := fun l pc => bif svsEq l args then .leaf (res, pc) else .fail

/-- What is asked of a summary. -/
def SumOk (P : Program) (η : Env) (f : FuncId) (g : List Sv → PC → Tree (Sv × PC)) : Prop :=
  ∀ svs pc r pc', (g svs pc).at_ η = some (r, pc') → pc.holds η → pc'.holds η ∧ ∀ E args w, denArgs η E svs = some args → ∃ v, r.den η E = some v ∧ Gives P f args.toArray w v

theorem lit_sum {C : Cx} {P : Program} {η : Env} (hC : C.Ok P η) {n : Nat} {f : FuncId} {fi : FI} {args : List Sv} {res : Sv} (hf : FI.Ok P f fi) (h : ((callE C (drawX C) n fi args st0).all fun r => svEq r.1 res) = true)
    (hb : (below 0 res && args.all (below 0)) = true) : SumOk P η f (gLit args res) := by
  intro svs pc r pc' hg hpc
  unfold gLit at hg
  cases he : svsEq svs args with
  | false => rw [he] at hg; cases hg
  | true =>
    rw [he] at hg; cases hg
    have := svsEq_iff he; subst this
    simp only [Bool.and_eq_true] at hb
    obtain ⟨x, hx, hxr⟩ := Tree.all_at (η := η) h
    have hxr := svEq_iff hxr
    refine ⟨hpc, fun E vs w hv => ?_⟩
    rw [denArgs_agree (E := E0) hb.2] at hv
    obtain ⟨v, e1, e2⟩ := run_sum hC hf hx (by rw [hxr]; exact hb.1) w hv
    rw [hxr] at e1
    exact ⟨v, by rw [Sv.den_agree (E := E0) (n := 0) (fun i hi => absurd hi (Nat.not_lt_zero _)) hb.1]; exact e1, .inr ⟨run_callFunc hf _ w, e2⟩⟩

end
end Go.Ex

