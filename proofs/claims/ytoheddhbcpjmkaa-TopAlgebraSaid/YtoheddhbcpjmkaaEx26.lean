/-
  Summaries of calls that calculate with whole numbers: polynomials, filled in.
-/
import Derived.Test.YtoheddhbcpjmkaaEx25
namespace Go.Ex
open Go Go.RowKit
noncomputable section

/-- The arguments' shape: 'none': a whole number; 'some k': k of them in one. -/
abbrev Shp := List (Option Nat)

def varsL : Nat → Nat → List Sc
  | _, 0 => []
  | v, n + 1 => .int .i64 (.poly (pvar v)) :: varsL (v + 1) n
def varArgs : Nat → Shp → List Sv
  | _, [] => []
  | v, none :: l => .one (.int .i64 (.poly (pvar v))) :: varArgs (v + 1) l
  | v, some k :: l => .agg (varsL v k) :: varArgs (v + k) l

def polyOf : Sc → Option Poly
  | .int .i64 x => toP x
  | _ => none
def polysOf : Nat → List Sc → Option (List Poly)
  | 0, [] => some []
  | n + 1, c :: l => match polyOf c, polysOf n l with
    | some p, some m => some (p :: m)
    | _, _ => none
  | _, _ => none
def argPolys : Shp → List Sv → Option (List Poly)
  | [], [] => some []
  | none :: s, .one c :: l => match polyOf c, argPolys s l with
    | some p, some m => some (p :: m)
    | _, _ => none
  | some k :: s, .agg cs :: l => match polysOf k cs, argPolys s l with
    | some ps, some m => some (ps ++ m)
    | _, _ => none
  | _, _ => none

/-- A polynomial with its variables filled in. -/
def subM (σ : List Poly) : Mon → Poly
  | [] => pconst 1
  | v :: m => match m with
    | [] => (match nth σ v with
      | some p => p
      | none => [])
    | m => (match nth σ v with
      | some p => ptimes p (subM σ m)
      | none => [])
def scaleP (c : Int) (p : Poly) : Poly := bif eqI c 1 then p else pmulT [] c p
def subP (σ : List Poly) : Poly → Poly
  | [] => []
  | (m, c) :: p => pplus (scaleP c (subM σ m)) (subP σ p)

theorem evP_scaleP (η : Nat → Int) (c : Int) (p : Poly) : evP η (scaleP c p) = c * evP η p := by
  unfold scaleP
  cases h : eqI c 1 with
  | true => rw [eqI_eq] at h; have := of_decide_eq_true h; subst this; simp
  | false => simp only [cond_false, evP_pmulT, evM]; simp

def valOf (η : Env) (σ : List Poly) (v : Nat) : Int :=
  match nth σ v with
  | some p => evP η.i p
  | none => 0

theorem subM_ev (η : Env) (σ : List Poly) : ∀ m, evP η.i (subM σ m) = evM (valOf η σ) m
  | [] => by simp [subM, evP_pconst, evM]
  | [v] => by
    simp only [subM, evM, Int.mul_one, valOf]
    cases nth σ v <;> rfl
  | v :: w :: m => by
    have ih := subM_ev η σ (w :: m)
    have e : subM σ (v :: w :: m) = (match nth σ v with
      | some p => ptimes p (subM σ (w :: m))
      | none => []) := rfl
    rw [e]
    simp only [evM, valOf] at ih ⊢
    cases nth σ v with
    | none => simp [evP]
    | some p => simp only [evP_ptimes, ih]
theorem subP_ev (η : Env) (σ : List Poly) : ∀ p, evP η.i (subP σ p) = evP (valOf η σ) p
  | [] => by simp [subP, evP]
  | (m, c) :: p => by simp only [subP, evP_pplus, evP_scaleP, subM_ev, subP_ev η σ p, evP]

/-- The result, filled in: whole numbers only. -/
def subSc (σ : List Poly) : Sc → Option Sc
  | .int .i64 (.poly p) => some (.int .i64 (mkI (subP σ p)))
  | .int .i64 (.lit n) => some (.int .i64 (.lit n))
  | .bool (.lit b) => some (.bool (.lit b))
  | _ => none
def subL (σ : List Poly) : List Sc → Option (List Sc)
  | [] => some []
  | c :: l => match subSc σ c, subL σ l with
    | some d, some m => some (d :: m)
    | _, _ => none
def subSv (σ : List Poly) : Sv → Option Sv
  | .one c => match subSc σ c with
    | some d => some (.one d)
    | none => none
  | .agg l => match subL σ l with
    | some m => some (.agg m)
    | none => none
  | _ => none

def gPoly (shp : Shp) (res : Sv) : List Sv → PC → Tree (Sv × PC) := fun l pc => match argPolys shp l with
  | some σ => match subSv σ res with
    | some s => .leaf (s, pc)
    | none => .fail
  | none => .fail

/-- Whole numbers that wrap to the same give the same, wrapped. -/
theorem wr_evM {f g : Nat → Int} (h : ∀ v, wr (f v) = wr (g v)) : ∀ m, wr (evM f m) = wr (evM g m)
  | [] => rfl
  | v :: m => by
    simp only [evM]
    rw [← wr_mul (f v), ← wr_mul (g v), h v, wr_evM h m]
theorem wr_evP {f g : Nat → Int} (h : ∀ v, wr (f v) = wr (g v)) : ∀ p, wr (evP f p) = wr (evP g p)
  | [] => rfl
  | (m, c) :: p => by
    simp only [evP]
    rw [← wr_add (c * evM f m), ← wr_add (c * evM g m), ← wr_mul c (evM f m), ← wr_mul c (evM g m), wr_evM h m, wr_evP h p]

theorem polyOf_den {η : Env} {E : Emb} {c : Sc} {p : Poly} (h : polyOf c = some p) : c.den η E = some (.int .i64 (wr (evP η.i p))) := by
  unfold polyOf at h
  split at h
  · simp only [Sc.den, toP_den h]
  · cases h
theorem polysOf_den {η : Env} {E : Emb} : ∀ {n : Nat} {l : List Sc} {ps : List Poly}, polysOf n l = some ps → ps.length = n ∧ denL η E l = some (ps.map fun p => .int .i64 (wr (evP η.i p)))
  | 0, [], ps, h => by cases h; exact ⟨rfl, rfl⟩
  | 0, _ :: _, ps, h => by cases h
  | n + 1, [], ps, h => by cases h
  | n + 1, c :: l, ps, h => by
    simp only [polysOf] at h
    split at h
    · rename_i p m h1 h2
      cases h
      obtain ⟨q1, q2⟩ := polysOf_den (η := η) (E := E) h2
      exact ⟨by simp [q1], by simp [denL, polyOf_den h1, q2]⟩
    · cases h

theorem varsL_den {η : Env} {E : Emb} : ∀ (n v : Nat) (as : List Int), as.length = n → (∀ j a, as[j]? = some a → wr (η.i (v + j)) = a) → denL η E (varsL v n) = some (as.map fun a => .int .i64 a)
  | 0, v, as, hl, _ => by
    have : as = [] := List.length_eq_zero_iff.1 hl
    subst this; rfl
  | n + 1, v, as, hl, h => by
    cases as with
    | nil => cases hl
    | cons a as =>
      have h0 := h 0 a rfl
      have ih := varsL_den (η := η) (E := E) n (v + 1) as (by simpa using hl) (fun j b hb => by have := h (j + 1) b (by simpa using hb); rwa [show v + (j + 1) = v + 1 + j by omega] at this)
      simp only [varsL, denL, Sc.den, Ix.den, evP_pvar, ih]
      simp only [Nat.add_zero] at h0
      simp [h0]

theorem nth_append_left {α : Type} {l m : List α} {i : Nat} (h : i < l.length) : nth (l ++ m) i = nth l i := by
  rw [nth_eq, nth_eq, List.getElem?_append_left h]

/-- The arguments as variables stand for the arguments, if the variables have their values. -/
theorem varArgs_den {η η' : Env} {E E' : Emb} : ∀ (shp : Shp) (svs : List Sv) (σ : List Poly) (v : Nat) (vs : List Value), argPolys shp svs = some σ → denArgs η E svs = some vs →
    (∀ j p, nth σ j = some p → wr (η'.i (v + j)) = wr (evP η.i p)) → denArgs η' E' (varArgs v shp) = some vs
  | [], [], σ, v, vs, h, hv, _ => by cases h; cases hv; rfl
  | [], _ :: _, σ, v, vs, h, _, _ => by cases h
  | none :: s, [], σ, v, vs, h, _, _ => by cases h
  | some k :: s, [], σ, v, vs, h, _, _ => by cases h
  | none :: s, sv :: l, σ, v, vs, h, hv, hη => by
    obtain ⟨x, xs, h1, h2, rfl⟩ := denArgs_cons hv
    cases sv <;> simp only [argPolys] at h <;> first | cases h | skip
    rename_i c
    split at h
    · rename_i p m hp hm
      cases h
      have hd := polyOf_den (η := η) (E := E) hp
      have h1 : c.den η E = some x := h1
      rw [hd] at h1; cases h1
      have ih := varArgs_den (η := η) (η' := η') (E := E) (E' := E') s l m (v + 1) xs hm h2 (fun j p' hp' => by
        have := hη (j + 1) p' (by rw [nth_eq] at hp' ⊢; simpa using hp')
        rwa [show v + (j + 1) = v + 1 + j by omega] at this)
      have h0 := hη 0 p (by rw [nth_eq]; rfl)
      simp only [Nat.add_zero] at h0
      simp only [varArgs, denArgs, Sv.den, Sc.den, Ix.den, evP_pvar, h0, ih]
    · cases h
  | some k :: s, sv :: l, σ, v, vs, h, hv, hη => by
    obtain ⟨x, xs, h1, h2, rfl⟩ := denArgs_cons hv
    cases sv <;> simp only [argPolys] at h <;> first | cases h | skip
    rename_i cs
    split at h
    · rename_i ps m hp hm
      cases h
      obtain ⟨hl, hd⟩ := polysOf_den (η := η) (E := E) hp
      simp only [Sv.den, hd, Option.map_some, Option.some.injEq] at h1
      subst h1
      have ih := varArgs_den (η := η) (η' := η') (E := E) (E' := E') s l m (v + k) xs hm h2 (fun j p' hp' => by
        have := hη (k + j) p' (by rw [nth_eq] at hp' ⊢; rw [List.getElem?_append_right (by omega)]; simpa [hl] using hp')
        rwa [show v + (k + j) = v + k + j by omega] at this)
      have hv := varsL_den (η := η') (E := E') k v (ps.map fun p => wr (evP η.i p)) (by simpa using hl) (fun j a ha => by
        rw [List.getElem?_map, Option.map_eq_some_iff] at ha
        obtain ⟨p, hp1, rfl⟩ := ha
        have hj : j < ps.length := (List.getElem?_eq_some_iff.1 hp1).1
        exact hη j p (by rw [nth_append_left hj, nth_eq]; exact hp1))
      simp only [varArgs, denArgs, Sv.den, hv, Option.map_some, ih, List.map_map]
      rfl
    · cases h

theorem subSc_den {η η' : Env} {E E' : Emb} {σ : List Poly} (h : ∀ v, wr (η'.i v) = wr (valOf η σ v)) {c d : Sc} (hs : subSc σ c = some d) : d.den η E = c.den η' E' := by
  unfold subSc at hs
  split at hs <;> first | cases hs | skip
  · rename_i p
    show some (Value.int .i64 ((mkI (subP σ p)).den η)) = some (Value.int .i64 (wr (evP η'.i p)))
    rw [mkI_den, subP_ev, wr_evP h]
  · rfl
  · rfl
theorem subL_den {η η' : Env} {E E' : Emb} {σ : List Poly} (h : ∀ v, wr (η'.i v) = wr (valOf η σ v)) : ∀ {l m : List Sc}, subL σ l = some m → denL η E m = denL η' E' l
  | [], m, hs => by cases hs; rfl
  | c :: l, m, hs => by
    simp only [subL] at hs
    split at hs
    · rename_i d m' h1 h2
      cases hs
      simp only [denL, subSc_den (E := E) (E' := E') h h1, subL_den (E := E) (E' := E') h h2]
    · cases hs
theorem subSv_den {η η' : Env} {E E' : Emb} {σ : List Poly} (h : ∀ v, wr (η'.i v) = wr (valOf η σ v)) {s t : Sv} (hs : subSv σ s = some t) : t.den η E = s.den η' E' := by
  unfold subSv at hs
  split at hs
  · split at hs
    · rename_i c d hd; cases hs; exact subSc_den h hd
    · cases hs
  · split at hs
    · rename_i l m hm; cases hs; simp only [Sv.den, subL_den (E := E) (E' := E') h hm]
    · cases hs
  · cases hs

def noTup : Sv → Bool
  | .one _ => true
  | .agg _ => true
  | _ => false

/-- Values for the variables: those of the arguments, in range. -/
def polyEnv (η : Env) (σ : List Poly) : Env := mkEnv (fun _ => 0) (fun v => valOf η σ v) (fun _ _ => false)

def shpLen : Shp → Nat
  | [] => 0
  | none :: l => shpLen l + 1
  | some k :: l => shpLen l + k
theorem argPolys_len : ∀ {shp : Shp} {svs : List Sv} {σ : List Poly}, argPolys shp svs = some σ → σ.length = shpLen shp
  | [], [], σ, h => by cases h; rfl
  | [], _ :: _, σ, h => by cases h
  | none :: s, [], σ, h => by cases h
  | some k :: s, [], σ, h => by cases h
  | none :: s, sv :: l, σ, h => by
    cases sv <;> simp only [argPolys] at h <;> first | cases h | skip
    split at h
    · rename_i p m hp hm
      cases h
      simp [shpLen, argPolys_len hm]
    · cases h
  | some k :: s, sv :: l, σ, h => by
    cases sv <;> simp only [argPolys] at h <;> first | cases h | skip
    split at h
    · rename_i ps m hp hm
      cases h
      simp [shpLen, argPolys_len hm, (polysOf_den (η := ⟨fun _ => 0, fun _ => 0, fun _ _ => false⟩) (E := E0) hp).1]; omega
    · cases h

theorem read_zero : Ieee.double.read 0 = .number false 0 (-1074) := by rw [dbl_read]; rfl
theorem wI_zero : wI 0 = some 0 := by
  unfold wI
  rw [read_zero]
  simp only
  rw [if_neg (by decide), Nat.zero_mod, if_pos rfl, Nat.zero_div]
  rfl

theorem polyEnv_i {η : Env} {σ : List Poly} (hl : σ.length ≤ 10000) (v : Nat) : wr ((polyEnv η σ).i v) = wr (valOf η σ v) := by
  simp only [polyEnv, mkEnv]
  split
  · rename_i hv
    have : nth σ v = none := by rw [nth_eq]; exact List.getElem?_eq_none (by omega)
    simp only [wI_zero, valOf, this]
    rfl
  · rw [wr_wr]

theorem poly_sum {P : Program} {C : Cx} (hC : ∀ η, GoodF η → C.Ok P η) {n : Nat} {f : FuncId} {fi : FI} {shp : Shp} {res : Sv} (hf : FI.Ok P f fi) (hsz : Nat.ble (shpLen shp) 10000 = true)
    (h : ((callE C (drawX C) n fi (varArgs 0 shp) st0).all fun r => svEq r.1 res) = true) (hb : below 0 res = true) {η : Env} : SumOk P η f (gPoly shp res) := by
  intro svs pc r pc' hg hpc
  unfold gPoly at hg
  split at hg
  · rename_i σ hσ
    split at hg
    · rename_i s hs
      cases hg
      refine ⟨hpc, fun E vs w hv => ?_⟩
      have hl : σ.length ≤ 10000 := by rw [argPolys_len hσ]; exact Nat.le_of_ble_eq_true hsz
      have hi := polyEnv_i (η := η) hl
      have hgood : GoodF (polyEnv η σ) := mkEnv_good (fun _ => by omega) _ _
      obtain ⟨x, hx, hxr⟩ := Tree.all_at (η := polyEnv η σ) h
      have hxr := svEq_iff hxr
      have hargs := varArgs_den (η := η) (η' := polyEnv η σ) (E := E) (E' := E0) shp svs σ 0 vs hσ hv (fun j p hp => by rw [Nat.zero_add, hi j]; simp only [valOf, hp])
      obtain ⟨v, e1, e2⟩ := run_sum (hC _ hgood) hf hx (by rw [hxr]; exact hb) w hargs
      rw [hxr] at e1
      exact ⟨v, by rw [subSv_den (E := E) (E' := E0) hi hs]; exact e1, .inr ⟨run_callFunc hf _ w, e2⟩⟩
    · cases hg
  · cases hg

end
end Go.Ex
